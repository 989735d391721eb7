/-
  Contracts of (*prover).plain, (*prover).check over clauses and a log; proof.Plain, proof.Check.
-/
import Derived.Test.YtojjjndhabjhdaaProofL
namespace Go.Proofs.Ytojjjndhabjhdaa.proofM
open Go.ChangeShapes Go.WideShapes Go.ChangeAt Go.RowKit proofP proofQ owns proofA proofB proofC proofD proofE proofF proofG proofH proofI proofJ proofK proofL cls
set_option linter.unusedSimpArgs false
set_option linter.unusedVariables false

/-- a prover of clauses, some of which are on -/
def PVx (x : Ent) (w : World) (W0 bp : Nat) (lv : Value) (cl log : List (List Int)) (f : Nat → Bool) : Prop :=
  ∃ va F s nv, (Mem w W0 bp lv va cl.length nv s F ∧ s.extra = x) ∧ nv = 40002 ∧ PGood s (fun i => (cl ++ log).getD i []) ∧ s.n = cl.length + log.length ∧ (∀ j, j < s.n → s.on j = f j) ∧ s.trail = [] ∧ s.short.length ≤ 100000
/-- those of clauses that are on -/
def sel (l : List (List Int)) (f : Nat → Bool) : List (List Int) := (List.range l.length).filterMap fun i => if f i = true then some (l.getD i []) else none
theorem mem_sel {l : List (List Int)} {f : Nat → Bool} {c : List Int} : c ∈ sel l f ↔ ∃ i, i < l.length ∧ f i = true ∧ l.getD i [] = c := by
  unfold sel
  rw [List.mem_filterMap]
  constructor
  · rintro ⟨i, hi, h⟩
    rw [List.mem_range] at hi
    by_cases hf : f i = true
    · rw [if_pos hf] at h; exact ⟨i, hi, hf, by simpa using h⟩
    · rw [if_neg hf] at h; cases h
  · rintro ⟨i, hi, hf, h⟩
    exact ⟨i, List.mem_range.2 hi, by rw [if_pos hf, h]⟩
theorem sel_take (l : List (List Int)) (m : Nat) (c : List Int) : c ∈ sel l (fun j => decide (j < m)) ↔ c ∈ l.take m := by
  rw [mem_sel, List.mem_iff_getElem]
  constructor
  · rintro ⟨i, hi, hf, h⟩
    have hf' : i < m := by simpa using hf
    refine ⟨i, by simp; omega, ?_⟩
    rw [List.getD_eq_getElem?_getD, List.getElem?_eq_getElem hi] at h
    simpa using h
  · rintro ⟨i, hi, h⟩
    simp only [List.length_take] at hi
    refine ⟨i, by omega, by simp; omega, ?_⟩
    rw [List.getD_eq_getElem?_getD, List.getElem?_eq_getElem (by omega)]
    simpa using h
theorem take_app (cl log : List (List Int)) (k : Nat) : (cl ++ log).take (cl.length + k) = cl ++ log.take k := by
  rw [List.take_append, List.take_of_length_le (by omega)]; simp

theorem new_pv (w : World) (B0 : Nat) (cv lv : Value) (cl log : List (List Int)) (hc : ClsAt w B0 cv cl) (hl : ClsAt w B0 lv log) (hB0 : B0 ≤ w.heap.size) (h1 : cl.length ≤ 40000) (h2 : log.length ≤ 40000) (hs1 : ∀ c ∈ cl, c.length ≤ 100000) (hs2 : ∀ c ∈ log, c.length ≤ 100000) :
    Calls Try.prog 26 #[cv, lv] w fun e w' => ∃ bp x, e = .returned (.pointer (some ⟨bp, 0, none⟩)) ∧ w.heap.size ≤ bp ∧ PVx x w' w.heap.size bp lv cl log (fun j => decide (j < cl.length)) ∧ Below w.heap.size w w' := by
  refine (new_any w B0 cv lv cl log hc hl hB0 h1 h2 hs1 hs2).mono ?_
  rintro e w' ⟨bp, va, F, s, nv, rfl, hM, hnv, hG, hn, hon, ht, hsh, hb⟩
  exact ⟨bp, _, rfl, hM.hB, ⟨va, F, s, nv, ⟨hM, rfl⟩, hnv, hG, hn, hon, ht, hsh⟩, hb⟩

theorem plain_pv (x : Ent) (w : World) (W0 bp : Nat) (lv cv : Value) (cl log : List (List Int)) (f : Nat → Bool) (c : List Int) (h : PVx x w W0 bp lv cl log f) (hc : IntsEx w W0 x cv c) (hcl : c.length ≤ 100000) :
    Calls Try.prog 30 #[.pointer (some ⟨bp, 0, none⟩), cv] w fun e w' => e = .returned (.bool (pl (sel (cl ++ log) f) c)) ∧ PVx x w' W0 bp lv cl log f ∧ Below W0 w w' := by
  obtain ⟨va, F, s, nv, ⟨hM, hx⟩, hnv, hG, hn, hon, ht, hsh⟩ := h
  have hlen : (cl ++ log).length = s.n := by rw [hn, List.length_append]
  refine (plain_any W0 bp lv va cl.length nv s F w _ (sel (cl ++ log) f) cv c hM hG (Lib.hid hnv) (by rw [hx]; exact hc) hcl ht (fun i hi ho => mem_sel.2 ⟨i, by omega, by rw [← hon i hi]; exact ho, rfl⟩) (fun c hc => ?_) hsh).mono ?_
  · obtain ⟨i, hi, hf, he⟩ := mem_sel.1 hc
    exact ⟨i, by omega, by rw [hon i (by omega)]; exact hf, he⟩
  · rintro e w' ⟨rfl, s', va', F', hM', hb, hs, hG', ht'⟩
    exact ⟨rfl, ⟨va', F', s', nv, ⟨hM', hs.ex.trans hx⟩, hnv, hG', by rw [hs.n, hn], fun j hj => by rw [hs.on]; exact hon j (by rw [← hs.n]; exact hj), ht', by rw [hs.short]; exact hsh⟩, hb⟩

/-- one clause is put on, or off -/
theorem mem_setOn {w : World} {B bp : Nat} {lv va : Value} {first nv : Nat} {s : PS} {F : Ix → Ent} (h : Mem w B bp lv va first nv s F) {g cap k : Nat} (hv : (F .on).v = .slice (some ⟨g, 0, none⟩) s.n cap) (hk : k < s.n) (b : Bool) :
    ∃ F', Mem (w.setCell ⟨g, k, none⟩ (.bool b)) B bp lv va first nv { s with on := updN s.on k b } F' := by
  obtain ⟨O1, G1⟩ := h.own.set hv k (.bool b)
  have hg : g ≠ bp := fun e => h.ne .on (by rw [hv, e]; rfl)
  refine ⟨_, O1, ?_, h.hx, fun j => ?_, fun j => ?_, ?_, ?_, ?_, ?_, ?_, ?_, fun i => ?_, fun i => ?_⟩
  · have := h.obj.kept G1 (by intro e; cases e; exact hg rfl)
    simpa [upd] using this
  · by_cases e : j = .on
    · subst e; rw [upd_same]; exact h.ne _
    · rw [upd_other _ _ e]; exact h.ne j
  · by_cases e : j = .on
    · subst e; rw [upd_same]; exact h.te _
    · rw [upd_other _ _ e]; exact h.te j
  · rw [upd_same]; dsimp only; rw [h.on]; exact map_set_upd hk _ _
  · simp [upd, h.short]
  · simp [upd, h.rows]
  · simp [upd, h.watches]
  · simp [upd, h.value]
  · simp [upd, h.trail]
  · simp [upd, h.row]
  · simp [upd, h.watch]

/-- what is read and written where a clause is put on -/
theorem pv_on {w : World} {x : Ent} {W0 bp : Nat} {lv : Value} {cl log : List (List Int)} {f : Nat → Bool} (h : PVx x w W0 bp lv cl log f) (hn : 0 < cl.length + log.length) :
    w.cell? ⟨bp, 0, none⟩ = some lv ∧ w.cell? ⟨bp, 1, none⟩ = some (.int .i64 cl.length) ∧ W0 ≤ bp ∧ ∃ g cap, w.cell? ⟨bp, 3, none⟩ = some (.slice (some ⟨g, 0, none⟩) (cl.length + log.length) cap) ∧ W0 ≤ g ∧ (∀ k, k < cl.length + log.length → w.cell? ⟨g, k, none⟩ = some (.bool (f k)) ∧ w.frozen? ⟨g, k, none⟩ = false) ∧
      ∀ k b, k < cl.length + log.length → PVx x (w.setCell ⟨g, k, none⟩ (.bool b)) W0 bp lv cl log (updN f k b) := by
  obtain ⟨va, F, s, nv, ⟨hM, hx⟩, hnv, hG, hsn, hon, ht, hsh⟩ := h
  obtain ⟨g, cap, hv, hc⟩ := hM.onAt (by omega)
  obtain ⟨f0, f1, f2, f3, f5, f6, f7, f8⟩ := hM.field
  refine ⟨f0, f1, hM.hB, g, cap, by rw [f3, hv, hsn], ((hM.own.1 .on).lt g (by rw [hv]; rfl)).1, fun k hk => ⟨by rw [hc k (by omega), hon k (by omega)], hM.own.frozen hv k⟩, fun k b hk => ?_⟩
  obtain ⟨F', hM'⟩ := mem_setOn (k := k) hM hv (by omega) b
  refine ⟨va, F', _, nv, ⟨hM', hx⟩, hnv, ⟨hG.si, hG.ro, hG.ti, hG.hm, hG.sh, hG.hn⟩, hsn, fun j hj => ?_, ht, hsh⟩
  dsimp only
  by_cases e : j = k
  · subst e; rw [updN_same, updN_same]
  · rw [updN_other _ _ e, updN_other _ _ e]; exact hon j hj
theorem pv_alike {w : World} {x : Ent} {W0 bp : Nat} {lv : Value} {cl log : List (List Int)} {f g : Nat → Bool} (h : PVx x w W0 bp lv cl log f) (he : ∀ j, j < cl.length + log.length → f j = g j) : PVx x w W0 bp lv cl log g := by
  obtain ⟨va, F, s, nv, ⟨hM, hx⟩, hnv, hG, hsn, hon, ht, hsh⟩ := h
  exact ⟨va, F, s, nv, ⟨hM, hx⟩, hnv, hG, hsn, fun j hj => (hon j hj).trans (he j (by omega)), ht, hsh⟩
theorem pv_below {w w' : World} {x : Ent} {W0 bp : Nat} {lv : Value} {cl log : List (List Int)} {f : Nat → Bool} (h : PVx x w W0 bp lv cl log f) (hb : Below w.heap.size w w') : PVx x w' W0 bp lv cl log f := by
  obtain ⟨va, F, s, nv, ⟨hM, hx⟩, r⟩ := h
  exact ⟨va, F, s, nv, ⟨hM.below hb, hx⟩, r⟩
theorem pv_log {w : World} {x : Ent} {W0 bp : Nat} {lv : Value} {cl log : List (List Int)} {f : Nat → Bool} (h : PVx x w W0 bp lv cl log f) : w.cell? ⟨bp, 0, none⟩ = some lv := by
  obtain ⟨va, F, s, nv, ⟨hM, hx⟩, _⟩ := h; exact hM.field.1

set_option maxHeartbeats 2000000 in
set_option maxRecDepth 100000 in
theorem check_pv (x : Ent) (w : World) (W0 bp : Nat) (lv : Value) (cl log : List (List Int)) (h : PVx x w W0 bp lv cl log (fun j => decide (j < cl.length))) (hl : ClsAt w W0 lv log) (h1 : cl.length ≤ 40000) (h2 : log.length ≤ 40000) (hs : ∀ c ∈ log, c.length ≤ 100000) :
    Calls Try.prog 27 #[.pointer (some ⟨bp, 0, none⟩)] w fun e w' => e = .returned (.int .i64 (bad cl log)) ∧ (bad cl log = -1 → PVx x w' W0 bp lv cl log (fun _ => true)) ∧ Below W0 w w' := by
  have HS := Lib.hid hs
  have HP := Lib.hid h
  have f0 := pv_log h
  obtain ⟨al, capl, bl, offl, vsl, rfl, hml, hal, hcl, hnl⟩ := hl
  have HAL := Lib.hid hal
  have HCL := Lib.hid hcl
  have HNL := Lib.hid hnl
  clear h hs hal hcl hnl hml
  go_enter Try.func27, Try.ntmps27
  go_wp2
  go_loopw [10] (fun it wr => ∃ k : Nat, k ≤ log.length ∧ it = .int .i64 k ∧ PVx x wr W0 bp (.slice al log.length capl) cl log (fun j => decide (j < cl.length + k)) ∧ Below W0 w wr ∧ Hid (∀ j, j < k → pl (cl ++ log.take j) (log.getD j []) = true)) (fun it _ => log.length - (intOf it).toNat)
  case atStart => exact ⟨0, Nat.zero_le _, rfl, HP.out, Below.refl _ _, Lib.hid (fun j hj => absurd hj (Nat.not_lt_zero _))⟩
  case round =>
    clear HP f0
    obtain ⟨k, hk, rfl, hpv, hb, hgd⟩ := hrel
    by_cases hlt : k < log.length
    · obtain ⟨rfl, hbB⟩ := HAL.out (by intro h0; rw [h0] at hlt; simp at hlt)
      have q : wr.cell? ⟨bl, offl + k, none⟩ = some (vsl k) := by rw [hb.cell (show (⟨bl, offl + k, none⟩ : Addr).block < W0 from hbB)]; exact HCL.out k hlt
      have hmem : log.getD k [] ∈ log := by rw [List.getD_eq_getElem?_getD, List.getElem?_eq_getElem hlt]; exact List.getElem_mem hlt
      have HPL := Lib.hid (plain_pv x wr W0 bp _ (vsl k) cl log _ (log.getD k []) hpv (((HNL.out k hlt).keep hb).ex x) (HS.out _ hmem))
      have hse : pl (sel (cl ++ log) fun j => decide (j < cl.length + k)) (log.getD k []) = pl (cl ++ log.take k) (log.getD k []) := pl_same _ fun x => by rw [sel_take, take_app]
      rw [hse] at HPL
      have HB := Lib.hid hb
      have HBA := Lib.hid (fun (h : pl (cl ++ log.take k) (log.getD k []) = false) => bad_at hlt hgd.out h)
      generalize hr : pl (cl ++ log.take k) (log.getD k []) = r at *
      have HRR := Lib.hid hr
      clear hpv hb hse hr hmem
      go_wp2_with fail
      refine HPL.out.mono ?_
      rintro e w1 ⟨rfl, hp1, hb1⟩
      have HB1 := Lib.hid (HB.out.trans hb1)
      cases r
      · have HE := Lib.hid (HBA.out rfl)
        clear hp1 hb1 HBA HPL
        go_wp2
        go_ret
        exact ⟨by rw [HE.out]; rfl, fun h => absurd (HE.out.symm.trans h) (by omega), HB1.out⟩
      · obtain ⟨p0, p1, hbp, g, cap, p3, hgB, hcells, hset⟩ := pv_on hp1 (by omega)
        obtain ⟨c1, z1⟩ := hcells (cl.length + k) (by omega)
        have HNX : Hid (PVx x ((w1.setCell ⟨g, cl.length + k, none⟩ (.bool true)).drew) W0 bp (.slice (some ⟨bl, offl, none⟩) log.length capl) cl log (fun j => decide (j < cl.length + (k + 1)))) := Lib.hid (pv_below (pv_alike (hset (cl.length + k) true (by omega)) (fun j hj => by
          by_cases e : j = cl.length + k
          · subst e; rw [updN_same]; simp
          · rw [updN_other _ _ e]
            have : (j < cl.length + k) ↔ (j < cl.length + (k + 1)) := by omega
            simp only [this])) (Below.refl _ _).drew)
        have hw1 : IntKind.i64.wrap ((cl.length : Int) + (k : Int)) = (cl.length : Int) + (k : Int) := IntWalk.i64_in _ (by omega)
        have hw2 : (0 : Int) ≤ (cl.length : Int) + (k : Int) := by omega
        have hw3 : ((cl.length : Int) + (k : Int)).toNat = cl.length + k := by omega
        have hw4 : cl.length + k < cl.length + log.length := by omega
        have HBS := Lib.hid ((HB1.out.setCell (p := ⟨g, cl.length + k, none⟩) hgB (.bool true)).drew)
        have HGD : Hid (∀ j, j < k + 1 → pl (cl ++ log.take j) (log.getD j []) = true) := Lib.hid (fun j hj => by
          by_cases e : j = k
          · rw [e]; exact HRR.out
          · exact hgd.out j (by omega))
        clear hp1 hb1 hcells hset HBA HPL p0 hgd
        go_wp2
        go_region
        all_goals
          go_wp2
          go_roundw
          case rel => exact ⟨k + 1, by omega, by go_num, HNX.out, HBS.out, HGD⟩
          case measure => simp [intOf]; omega
    · obtain rfl : k = log.length := by omega
      have HE := Lib.hid (bad_none hgd.out)
      have HP := Lib.hid (pv_alike hpv (g := fun _ => true) (fun j hj => by simpa using hj))
      have HB := Lib.hid hb
      clear hpv hb hgd
      go_wp2
      go_ret
      exact ⟨by rw [HE.out]; rfl, fun _ => HP.out, HB.out⟩

theorem cls_nil (w : World) (B : Nat) : ClsAt w B (.slice none 0 0) [] := ⟨none, 0, 0, 0, fun _ => undef, rfl, Nat.zero_le _, fun h => absurd rfl h, fun i hi => absurd hi (Nat.not_lt_zero _), fun i hi => absurd hi (Nat.not_lt_zero _)⟩

set_option maxHeartbeats 1000000 in
theorem Check_any (w : World) (B0 : Nat) (cv lv : Value) (cl log : List (List Int)) (hc : ClsAt w B0 cv cl) (hl : ClsAt w B0 lv log) (hB0 : B0 ≤ w.heap.size) (h1 : cl.length ≤ 40000) (h2 : log.length ≤ 40000) (hs1 : ∀ c ∈ cl, c.length ≤ 100000) (hs2 : ∀ c ∈ log, c.length ≤ 100000) :
    Calls Try.prog 11 #[cv, lv] w fun e w' => e = .returned (.int .i64 (bad cl log)) ∧ Below w.heap.size w w' := by
  have HN := Lib.hid (new_pv w B0 cv lv cl log hc hl hB0 h1 h2 hs1 hs2)
  have HL := Lib.hid hl
  have HS2 := Lib.hid hs2
  obtain ⟨ac, capc, bc, offc, vsc, rfl, _, _, _, _⟩ := hc
  obtain ⟨al, capl, bl, offl, vsl, rfl, _, _, _, _⟩ := hl
  clear hs1 hs2
  go_enter Try.func11, Try.ntmps11
  go_wp2_with fail
  refine HN.out.mono ?_
  rintro e w1 ⟨bp, x, rfl, hbp, hpv, hb⟩
  have HC := Lib.hid (check_pv x w1 w.heap.size bp _ cl log hpv ((HL.out.mono hB0).keep hb) h1 h2 HS2.out)
  have HB := Lib.hid hb
  clear hpv hb HN
  go_wp2_with fail
  refine HC.out.mono ?_
  rintro e w2 ⟨rfl, _, hb2⟩
  have HB2 := Lib.hid (HB.out.trans hb2)
  clear hb2
  go_wp2
  go_ret
  exact ⟨rfl, HB2.out⟩

set_option maxHeartbeats 1000000 in
theorem Plain_any (w : World) (B0 : Nat) (cv vc : Value) (cl : List (List Int)) (c : List Int) (hc : ClsAt w B0 cv cl) (hv : IntsAt w B0 vc c) (hB0 : B0 ≤ w.heap.size) (h1 : cl.length ≤ 40000) (hs1 : ∀ c ∈ cl, c.length ≤ 100000) (hcl : c.length ≤ 100000) :
    Calls Try.prog 14 #[cv, vc] w fun e w' => e = .returned (.bool (pl cl c)) ∧ Below w.heap.size w w' := by
  have HN := Lib.hid (new_pv w B0 cv (.slice none 0 0) cl [] hc (cls_nil _ _) hB0 h1 (by simp) hs1 (by simp))
  have HV := Lib.hid hv
  have HE : Hid (pl (sel (cl ++ []) fun j => decide (j < cl.length)) c = pl cl c) := Lib.hid (pl_same _ fun x => by rw [sel_take, List.append_nil, List.take_length])
  obtain ⟨ac, capc, bc, offc, vsc, rfl, _, _, _, _⟩ := hc
  obtain ⟨av, capv, bv, offv, rfl, _, _, _, _⟩ := hv
  clear hs1
  go_enter Try.func14, Try.ntmps14
  go_wp2_with fail
  refine HN.out.mono ?_
  rintro e w1 ⟨bp, x, rfl, hbp, hpv, hb⟩
  have HC := Lib.hid (plain_pv x w1 w.heap.size bp _ _ cl [] _ c hpv (((HV.out.mono hB0).keep hb).ex x) hcl)
  rw [HE.out] at HC
  have HB := Lib.hid hb
  clear hpv hb HN
  go_wp2_with fail
  refine HC.out.mono ?_
  rintro e w2 ⟨rfl, _, hb2⟩
  have HB2 := Lib.hid (HB.out.trans hb2)
  clear hb2
  go_wp2
  go_ret
  exact ⟨rfl, HB2.out⟩
end Go.Proofs.Ytojjjndhabjhdaa.proofM
