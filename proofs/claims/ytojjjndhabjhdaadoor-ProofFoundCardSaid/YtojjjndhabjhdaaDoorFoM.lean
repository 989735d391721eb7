/-
  Contracts of (*prover).plain, (*prover).check over clauses and a log; proof.Plain, proof.Check.
  Contracts of the reference's small functions of clauses, and of the law's own: Is, Holds, True, All, Big, Right, big, alive.
  The law's alive; haversackref17.Right (it answers); the law ProofSound.
-/
import Derived.Test.YtojjjndhabjhdaaDoorProofL
namespace Go.Proofs.YtojjjndhabjhdaaDoor.proofM
open Go.ChangeShapes Go.WideShapes Go.ChangeAt Go.RowKit proofP proofQ owns proofA proofB proofC proofD proofE proofF proofG proofH proofI proofJ proofK proofL cls
set_option linter.unusedSimpArgs false
set_option linter.unusedVariables false

/-- a prover of clauses, some of which are on -/
def PVx (x : Ent) (w : World) (W0 bp : Nat) (lv : Value) (cl log : List (List Int)) (f : Nat → Bool) : Prop :=
  ∃ va F s nv, (Mem w W0 bp lv va cl.length nv s F ∧ s.extra = x) ∧ nv = 40002 ∧ PGood s (fun i => (cl ++ log).getD i []) ∧ s.n = cl.length + log.length ∧ (∀ j, j < s.n → s.on j = f j) ∧ s.trail = [] ∧ s.short.length ≤ 100000
/-- those of clauses that are on -/
def sel (l : List (List Int)) (f : Nat → Bool) : List (List Int) := (List.range l.length).filterMap fun i => if f i = true then some (l.getD i []) else none
theorem mem_sel {l : List (List Int)} {f : Nat → Bool} {c : List Int} : c ∈ sel l f ↔ ∃ i, i < l.length ∧ f i = true ∧ l.getD i [] = c := by
  unfold sel
  rw [List.mem_filterMap]
  constructor
  · rintro ⟨i, hi, h⟩
    rw [List.mem_range] at hi
    by_cases hf : f i = true
    · rw [if_pos hf] at h; exact ⟨i, hi, hf, by simpa using h⟩
    · rw [if_neg hf] at h; cases h
  · rintro ⟨i, hi, hf, h⟩
    exact ⟨i, List.mem_range.2 hi, by rw [if_pos hf, h]⟩
theorem sel_take (l : List (List Int)) (m : Nat) (c : List Int) : c ∈ sel l (fun j => decide (j < m)) ↔ c ∈ l.take m := by
  rw [mem_sel, List.mem_iff_getElem]
  constructor
  · rintro ⟨i, hi, hf, h⟩
    have hf' : i < m := by simpa using hf
    refine ⟨i, by simp; omega, ?_⟩
    rw [List.getD_eq_getElem?_getD, List.getElem?_eq_getElem hi] at h
    simpa using h
  · rintro ⟨i, hi, h⟩
    simp only [List.length_take] at hi
    refine ⟨i, by omega, by simp; omega, ?_⟩
    rw [List.getD_eq_getElem?_getD, List.getElem?_eq_getElem (by omega)]
    simpa using h
theorem take_app (cl log : List (List Int)) (k : Nat) : (cl ++ log).take (cl.length + k) = cl ++ log.take k := by
  rw [List.take_append, List.take_of_length_le (by omega)]; simp

theorem new_pv (w : World) (B0 : Nat) (cv lv : Value) (cl log : List (List Int)) (hc : ClsAt w B0 cv cl) (hl : ClsAt w B0 lv log) (hB0 : B0 ≤ w.heap.size) (h1 : cl.length ≤ 40000) (h2 : log.length ≤ 40000) (hs1 : ∀ c ∈ cl, c.length ≤ 100000) (hs2 : ∀ c ∈ log, c.length ≤ 100000) :
    Calls Tryd.prog 20 #[cv, lv] w fun e w' => ∃ bp x, e = .returned (.pointer (some ⟨bp, 0, none⟩)) ∧ w.heap.size ≤ bp ∧ PVx x w' w.heap.size bp lv cl log (fun j => decide (j < cl.length)) ∧ Below w.heap.size w w' := by
  refine (new_any w B0 cv lv cl log hc hl hB0 h1 h2 hs1 hs2).mono ?_
  rintro e w' ⟨bp, va, F, s, nv, rfl, hM, hnv, hG, hn, hon, ht, hsh, hb⟩
  exact ⟨bp, _, rfl, hM.hB, ⟨va, F, s, nv, ⟨hM, rfl⟩, hnv, hG, hn, hon, ht, hsh⟩, hb⟩

theorem plain_pv (x : Ent) (w : World) (W0 bp : Nat) (lv cv : Value) (cl log : List (List Int)) (f : Nat → Bool) (c : List Int) (h : PVx x w W0 bp lv cl log f) (hc : IntsEx w W0 x cv c) (hcl : c.length ≤ 100000) :
    Calls Tryd.prog 46 #[.pointer (some ⟨bp, 0, none⟩), cv] w fun e w' => e = .returned (.bool (pl (sel (cl ++ log) f) c)) ∧ PVx x w' W0 bp lv cl log f ∧ Below W0 w w' := by
  obtain ⟨va, F, s, nv, ⟨hM, hx⟩, hnv, hG, hn, hon, ht, hsh⟩ := h
  have hlen : (cl ++ log).length = s.n := by rw [hn, List.length_append]
  refine (plain_any W0 bp lv va cl.length nv s F w _ (sel (cl ++ log) f) cv c hM hG (Lib.hid hnv) (by rw [hx]; exact hc) hcl ht (fun i hi ho => mem_sel.2 ⟨i, by omega, by rw [← hon i hi]; exact ho, rfl⟩) (fun c hc => ?_) hsh).mono ?_
  · obtain ⟨i, hi, hf, he⟩ := mem_sel.1 hc
    exact ⟨i, by omega, by rw [hon i (by omega)]; exact hf, he⟩
  · rintro e w' ⟨rfl, s', va', F', hM', hb, hs, hG', ht'⟩
    exact ⟨rfl, ⟨va', F', s', nv, ⟨hM', hs.ex.trans hx⟩, hnv, hG', by rw [hs.n, hn], fun j hj => by rw [hs.on]; exact hon j (by rw [← hs.n]; exact hj), ht', by rw [hs.short]; exact hsh⟩, hb⟩

/-- one clause is put on, or off -/
theorem mem_setOn {w : World} {B bp : Nat} {lv va : Value} {first nv : Nat} {s : PS} {F : Ix → Ent} (h : Mem w B bp lv va first nv s F) {g cap k : Nat} (hv : (F .on).v = .slice (some ⟨g, 0, none⟩) s.n cap) (hk : k < s.n) (b : Bool) :
    ∃ F', Mem (w.setCell ⟨g, k, none⟩ (.bool b)) B bp lv va first nv { s with on := updN s.on k b } F' := by
  obtain ⟨O1, G1⟩ := h.own.set hv k (.bool b)
  have hg : g ≠ bp := fun e => h.ne .on (by rw [hv, e]; rfl)
  refine ⟨_, O1, ?_, h.hx, fun j => ?_, fun j => ?_, ?_, ?_, ?_, ?_, ?_, ?_, fun i => ?_, fun i => ?_⟩
  · have := h.obj.kept G1 (by intro e; cases e; exact hg rfl)
    simpa [upd] using this
  · by_cases e : j = .on
    · subst e; rw [upd_same]; exact h.ne _
    · rw [upd_other _ _ e]; exact h.ne j
  · by_cases e : j = .on
    · subst e; rw [upd_same]; exact h.te _
    · rw [upd_other _ _ e]; exact h.te j
  · rw [upd_same]; dsimp only; rw [h.on]; exact map_set_upd hk _ _
  · simp [upd, h.short]
  · simp [upd, h.rows]
  · simp [upd, h.watches]
  · simp [upd, h.value]
  · simp [upd, h.trail]
  · simp [upd, h.row]
  · simp [upd, h.watch]

/-- what is read and written where a clause is put on -/
theorem pv_on {w : World} {x : Ent} {W0 bp : Nat} {lv : Value} {cl log : List (List Int)} {f : Nat → Bool} (h : PVx x w W0 bp lv cl log f) (hn : 0 < cl.length + log.length) :
    w.cell? ⟨bp, 0, none⟩ = some lv ∧ w.cell? ⟨bp, 1, none⟩ = some (.int .i64 cl.length) ∧ W0 ≤ bp ∧ ∃ g cap, w.cell? ⟨bp, 3, none⟩ = some (.slice (some ⟨g, 0, none⟩) (cl.length + log.length) cap) ∧ W0 ≤ g ∧ (∀ k, k < cl.length + log.length → w.cell? ⟨g, k, none⟩ = some (.bool (f k)) ∧ w.frozen? ⟨g, k, none⟩ = false) ∧
      ∀ k b, k < cl.length + log.length → PVx x (w.setCell ⟨g, k, none⟩ (.bool b)) W0 bp lv cl log (updN f k b) := by
  obtain ⟨va, F, s, nv, ⟨hM, hx⟩, hnv, hG, hsn, hon, ht, hsh⟩ := h
  obtain ⟨g, cap, hv, hc⟩ := hM.onAt (by omega)
  obtain ⟨f0, f1, f2, f3, f5, f6, f7, f8⟩ := hM.field
  refine ⟨f0, f1, hM.hB, g, cap, by rw [f3, hv, hsn], ((hM.own.1 .on).lt g (by rw [hv]; rfl)).1, fun k hk => ⟨by rw [hc k (by omega), hon k (by omega)], hM.own.frozen hv k⟩, fun k b hk => ?_⟩
  obtain ⟨F', hM'⟩ := mem_setOn (k := k) hM hv (by omega) b
  refine ⟨va, F', _, nv, ⟨hM', hx⟩, hnv, ⟨hG.si, hG.ro, hG.ti, hG.hm, hG.sh, hG.hn⟩, hsn, fun j hj => ?_, ht, hsh⟩
  dsimp only
  by_cases e : j = k
  · subst e; rw [updN_same, updN_same]
  · rw [updN_other _ _ e, updN_other _ _ e]; exact hon j hj
theorem pv_alike {w : World} {x : Ent} {W0 bp : Nat} {lv : Value} {cl log : List (List Int)} {f g : Nat → Bool} (h : PVx x w W0 bp lv cl log f) (he : ∀ j, j < cl.length + log.length → f j = g j) : PVx x w W0 bp lv cl log g := by
  obtain ⟨va, F, s, nv, ⟨hM, hx⟩, hnv, hG, hsn, hon, ht, hsh⟩ := h
  exact ⟨va, F, s, nv, ⟨hM, hx⟩, hnv, hG, hsn, fun j hj => (hon j hj).trans (he j (by omega)), ht, hsh⟩
theorem pv_below {w w' : World} {x : Ent} {W0 bp : Nat} {lv : Value} {cl log : List (List Int)} {f : Nat → Bool} (h : PVx x w W0 bp lv cl log f) (hb : Below w.heap.size w w') : PVx x w' W0 bp lv cl log f := by
  obtain ⟨va, F, s, nv, ⟨hM, hx⟩, r⟩ := h
  exact ⟨va, F, s, nv, ⟨hM.below hb, hx⟩, r⟩
theorem pv_log {w : World} {x : Ent} {W0 bp : Nat} {lv : Value} {cl log : List (List Int)} {f : Nat → Bool} (h : PVx x w W0 bp lv cl log f) : w.cell? ⟨bp, 0, none⟩ = some lv := by
  obtain ⟨va, F, s, nv, ⟨hM, hx⟩, _⟩ := h; exact hM.field.1

set_option maxHeartbeats 2000000 in
set_option maxRecDepth 100000 in
theorem check_pv (x : Ent) (w : World) (W0 bp : Nat) (lv : Value) (cl log : List (List Int)) (h : PVx x w W0 bp lv cl log (fun j => decide (j < cl.length))) (hl : ClsAt w W0 lv log) (h1 : cl.length ≤ 40000) (h2 : log.length ≤ 40000) (hs : ∀ c ∈ log, c.length ≤ 100000) :
    Calls Tryd.prog 21 #[.pointer (some ⟨bp, 0, none⟩)] w fun e w' => e = .returned (.int .i64 (bad cl log)) ∧ (bad cl log = -1 → PVx x w' W0 bp lv cl log (fun _ => true)) ∧ Below W0 w w' := by
  have HS := Lib.hid hs
  have HP := Lib.hid h
  have f0 := pv_log h
  obtain ⟨al, capl, bl, offl, vsl, rfl, hml, hal, hcl, hnl⟩ := hl
  have HAL := Lib.hid hal
  have HCL := Lib.hid hcl
  have HNL := Lib.hid hnl
  clear h hs hal hcl hnl hml
  go_enter Tryd.func21, Tryd.ntmps21
  go_wp2
  go_loopw [10] (fun it wr => ∃ k : Nat, k ≤ log.length ∧ it = .int .i64 k ∧ PVx x wr W0 bp (.slice al log.length capl) cl log (fun j => decide (j < cl.length + k)) ∧ Below W0 w wr ∧ Hid (∀ j, j < k → pl (cl ++ log.take j) (log.getD j []) = true)) (fun it _ => log.length - (intOf it).toNat)
  case atStart => exact ⟨0, Nat.zero_le _, rfl, HP.out, Below.refl _ _, Lib.hid (fun j hj => absurd hj (Nat.not_lt_zero _))⟩
  case round =>
    clear HP f0
    obtain ⟨k, hk, rfl, hpv, hb, hgd⟩ := hrel
    by_cases hlt : k < log.length
    · obtain ⟨rfl, hbB⟩ := HAL.out (by intro h0; rw [h0] at hlt; simp at hlt)
      have q : wr.cell? ⟨bl, offl + k, none⟩ = some (vsl k) := by rw [hb.cell (show (⟨bl, offl + k, none⟩ : Addr).block < W0 from hbB)]; exact HCL.out k hlt
      have hmem : log.getD k [] ∈ log := by rw [List.getD_eq_getElem?_getD, List.getElem?_eq_getElem hlt]; exact List.getElem_mem hlt
      have HPL := Lib.hid (plain_pv x wr W0 bp _ (vsl k) cl log _ (log.getD k []) hpv (((HNL.out k hlt).keep hb).ex x) (HS.out _ hmem))
      have hse : pl (sel (cl ++ log) fun j => decide (j < cl.length + k)) (log.getD k []) = pl (cl ++ log.take k) (log.getD k []) := pl_same _ fun x => by rw [sel_take, take_app]
      rw [hse] at HPL
      have HB := Lib.hid hb
      have HBA := Lib.hid (fun (h : pl (cl ++ log.take k) (log.getD k []) = false) => bad_at hlt hgd.out h)
      generalize hr : pl (cl ++ log.take k) (log.getD k []) = r at *
      have HRR := Lib.hid hr
      clear hpv hb hse hr hmem
      go_wp2_with fail
      refine HPL.out.mono ?_
      rintro e w1 ⟨rfl, hp1, hb1⟩
      have HB1 := Lib.hid (HB.out.trans hb1)
      cases r
      · have HE := Lib.hid (HBA.out rfl)
        clear hp1 hb1 HBA HPL
        go_wp2
        go_ret
        exact ⟨by rw [HE.out]; rfl, fun h => absurd (HE.out.symm.trans h) (by omega), HB1.out⟩
      · obtain ⟨p0, p1, hbp, g, cap, p3, hgB, hcells, hset⟩ := pv_on hp1 (by omega)
        obtain ⟨c1, z1⟩ := hcells (cl.length + k) (by omega)
        have HNX : Hid (PVx x ((w1.setCell ⟨g, cl.length + k, none⟩ (.bool true)).drew) W0 bp (.slice (some ⟨bl, offl, none⟩) log.length capl) cl log (fun j => decide (j < cl.length + (k + 1)))) := Lib.hid (pv_below (pv_alike (hset (cl.length + k) true (by omega)) (fun j hj => by
          by_cases e : j = cl.length + k
          · subst e; rw [updN_same]; simp
          · rw [updN_other _ _ e]
            have : (j < cl.length + k) ↔ (j < cl.length + (k + 1)) := by omega
            simp only [this])) (Below.refl _ _).drew)
        have hw1 : IntKind.i64.wrap ((cl.length : Int) + (k : Int)) = (cl.length : Int) + (k : Int) := IntWalk.i64_in _ (by omega)
        have hw2 : (0 : Int) ≤ (cl.length : Int) + (k : Int) := by omega
        have hw3 : ((cl.length : Int) + (k : Int)).toNat = cl.length + k := by omega
        have hw4 : cl.length + k < cl.length + log.length := by omega
        have HBS := Lib.hid ((HB1.out.setCell (p := ⟨g, cl.length + k, none⟩) hgB (.bool true)).drew)
        have HGD : Hid (∀ j, j < k + 1 → pl (cl ++ log.take j) (log.getD j []) = true) := Lib.hid (fun j hj => by
          by_cases e : j = k
          · rw [e]; exact HRR.out
          · exact hgd.out j (by omega))
        clear hp1 hb1 hcells hset HBA HPL p0 hgd
        go_wp2
        go_region
        all_goals
          go_wp2
          go_roundw
          case rel => exact ⟨k + 1, by omega, by go_num, HNX.out, HBS.out, HGD⟩
          case measure => simp [intOf]; omega
    · obtain rfl : k = log.length := by omega
      have HE := Lib.hid (bad_none hgd.out)
      have HP := Lib.hid (pv_alike hpv (g := fun _ => true) (fun j hj => by simpa using hj))
      have HB := Lib.hid hb
      clear hpv hb hgd
      go_wp2
      go_ret
      exact ⟨by rw [HE.out]; rfl, fun _ => HP.out, HB.out⟩

theorem cls_nil (w : World) (B : Nat) : ClsAt w B (.slice none 0 0) [] := ⟨none, 0, 0, 0, fun _ => undef, rfl, Nat.zero_le _, fun h => absurd rfl h, fun i hi => absurd hi (Nat.not_lt_zero _), fun i hi => absurd hi (Nat.not_lt_zero _)⟩

set_option maxHeartbeats 1000000 in
theorem Check_any (w : World) (B0 : Nat) (cv lv : Value) (cl log : List (List Int)) (hc : ClsAt w B0 cv cl) (hl : ClsAt w B0 lv log) (hB0 : B0 ≤ w.heap.size) (h1 : cl.length ≤ 40000) (h2 : log.length ≤ 40000) (hs1 : ∀ c ∈ cl, c.length ≤ 100000) (hs2 : ∀ c ∈ log, c.length ≤ 100000) :
    Calls Tryd.prog 9 #[cv, lv] w fun e w' => e = .returned (.int .i64 (bad cl log)) ∧ Below w.heap.size w w' := by
  have HN := Lib.hid (new_pv w B0 cv lv cl log hc hl hB0 h1 h2 hs1 hs2)
  have HL := Lib.hid hl
  have HS2 := Lib.hid hs2
  obtain ⟨ac, capc, bc, offc, vsc, rfl, _, _, _, _⟩ := hc
  obtain ⟨al, capl, bl, offl, vsl, rfl, _, _, _, _⟩ := hl
  clear hs1 hs2
  go_enter Tryd.func9, Tryd.ntmps9
  go_wp2_with fail
  refine HN.out.mono ?_
  rintro e w1 ⟨bp, x, rfl, hbp, hpv, hb⟩
  have HC := Lib.hid (check_pv x w1 w.heap.size bp _ cl log hpv ((HL.out.mono hB0).keep hb) h1 h2 HS2.out)
  have HB := Lib.hid hb
  clear hpv hb HN
  go_wp2_with fail
  refine HC.out.mono ?_
  rintro e w2 ⟨rfl, _, hb2⟩
  have HB2 := Lib.hid (HB.out.trans hb2)
  clear hb2
  go_wp2
  go_ret
  exact ⟨rfl, HB2.out⟩

end Go.Proofs.YtojjjndhabjhdaaDoor.proofM
namespace Go.Proofs.YtojjjndhabjhdaaDoor.proofN
open Go.ChangeShapes Go.WideShapes Go.ChangeAt Go.RowKit proofP proofQ owns proofA proofM cls
set_option linter.unusedSimpArgs false
set_option linter.unusedVariables false

/-- a slice of bools -/
def BoolsAt (w : World) (B : Nat) (v : Value) (m : List Bool) : Prop :=
  ∃ ao cap b off, v = .slice ao m.length cap ∧ m.length ≤ maxLen ∧ (m ≠ [] → ao = some ⟨b, off, none⟩ ∧ b < B) ∧ ∀ i, i < m.length → w.cell? ⟨b, off + i, none⟩ = some (.bool (m.getD i false))
theorem BoolsAt.keep {w w' : World} {B : Nat} {v : Value} {l : List Bool} (h : BoolsAt w B v l) (hb : Below B w w') : BoolsAt w' B v l := by
  obtain ⟨ao, cap, b, off, rfl, hm, ha, hc⟩ := h
  refine ⟨ao, cap, b, off, rfl, hm, ha, fun i hi => ?_⟩
  rw [hb.cell (show (⟨b, off + i, none⟩ : Addr).block < B from (ha (by intro h0; rw [h0] at hi; simp at hi)).2)]
  exact hc i hi

/-- is a literal true in a model? -/
def holds (l : Int) (m : List Bool) : Bool := decide (lit l) && (if l < 0 then decide ((m.length : Int) < -l) || !(m.getD (-l - 1).toNat false) else decide (l ≤ (m.length : Int)) && m.getD (l - 1).toNat false)
theorem holds_neg {l : Int} (m : List Bool) (hl : lit l) : (holds (-l) m = true ↔ ¬ holds l m = true) := by
  have hl' := lit_neg hl
  unfold holds
  rw [decide_eq_true hl, decide_eq_true hl', Bool.true_and, Bool.true_and]
  have h0 := hl.1
  by_cases h : l < 0
  · rw [if_pos h, if_neg (by omega)]
    by_cases h1 : (m.length : Int) < -l
    · simp [h1]; intro h2; omega
    · have h2 : -l ≤ (m.length : Int) := by omega
      simp [h1, h2]
  · rw [if_neg h, if_pos (by omega), Int.neg_neg]
    by_cases h1 : (m.length : Int) < l
    · have h2 : ¬ l ≤ (m.length : Int) := by omega
      simp [h1, h2]
    · have h2 : l ≤ (m.length : Int) := by omega
      simp [h1, h2]

def trueIn (c : List Int) (m : List Bool) : Bool := c.any fun l => holds l m
def allIn (cl : List (List Int)) (m : List Bool) : Bool := cl.all fun c => trueIn c m
theorem getD_mem {α : Type} {l : List α} {k : Nat} {d : α} (h : k < l.length) : l.getD k d ∈ l := by rw [List.getD_eq_getElem?_getD, List.getElem?_eq_getElem h]; exact List.getElem_mem h

def SmallP (cl : List (List Int)) (many long : Nat) (w : World) (e : Ending) (w' : World) : Prop := ∃ b : Bool, e = .returned (.bool b) ∧ w = w' ∧ (b = false → cl.length ≤ many ∧ ∀ c ∈ cl, c.length ≤ long)
set_option maxHeartbeats 1000000 in
theorem Big_any (cv : Value) (cl : List (List Int)) (many long : Nat) (w : World) (B : Nat) (hc : ClsAt w B cv cl) (h1 : many ≤ 1000) (h2 : long ≤ 1000) :
    Calls Tryd.prog 5 #[cv, .int .i64 many, .int .i64 long] w (SmallP cl many long w) := by
  obtain ⟨ao, cap, b, off, vs, rfl, hcm, ha, hcell, hn⟩ := hc
  have HA := Lib.hid ha
  have HC := Lib.hid hcell
  have HN := Lib.hid hn
  unfold maxLen at hcm
  clear ha hcell hn
  by_cases hb : many < cl.length
  · have hbI : (many : Int) < (cl.length : Int) := by omega
    go_enter Tryd.func5, Tryd.ntmps5
    go_wp2
    go_ret
    exact ⟨true, rfl, rfl, fun h => by cases h⟩
  · have hbI : ¬ (many : Int) < (cl.length : Int) := by omega
    go_enter Tryd.func5, Tryd.ntmps5
    go_wp2
    go_loop [15] (fun it => ∃ k : Nat, k ≤ cl.length ∧ it = .int .i64 k ∧ Hid (∀ j, j < k → (cl.getD j []).length ≤ long)) (fun it => cl.length - (intOf it).toNat)
    case atStart => exact ⟨0, Nat.zero_le _, rfl, Lib.hid (fun j hj => absurd hj (Nat.not_lt_zero _))⟩
    case round =>
      obtain ⟨k, hk, rfl, hg⟩ := hrel
      by_cases hlt : k < cl.length
      · obtain ⟨rfl, hbB⟩ := HA.out (by intro h0; rw [h0] at hlt; simp at hlt)
        have q := HC.out k hlt
        obtain ⟨ai, capi, bi, offi, hvi, hmi, _, _, _⟩ := HN.out k hlt
        unfold maxLen at hmi
        rw [hvi] at q
        clear hvi
        by_cases hl : long < (cl.getD k []).length
        · generalize (cl.getD k []).length = L at *
          have hlI : (long : Int) < (L : Int) := by omega
          go_wp2
          go_ret
          exact ⟨true, rfl, rfl, fun h => by cases h⟩
        · have HF : Hid (∀ j, j < k + 1 → (cl.getD j []).length ≤ long) := Lib.hid (fun j hj => by
            by_cases e : j = k
            · rw [e]; omega
            · exact hg.out j (by omega))
          generalize (cl.getD k []).length = L at *
          have hlI : ¬ (long : Int) < (L : Int) := by omega
          go_wp2
          go_round
          case rel => exact ⟨k + 1, by omega, by go_num, HF⟩
          case measure => simp [intOf]; omega
      · obtain rfl : k = cl.length := by omega
        have HE : Hid (∀ c ∈ cl, c.length ≤ long) := Lib.hid (fun c hl => by
          obtain ⟨j, hj, rfl⟩ := List.mem_iff_getElem.1 hl
          have := hg.out j hj
          rw [List.getD_eq_getElem?_getD, List.getElem?_eq_getElem hj] at this
          simpa using this)
        clear hg
        go_wp2
        go_ret
        exact ⟨false, rfl, rfl, fun _ => ⟨by omega, HE.out⟩⟩

/-- what is small -/
def Few (cl log : List (List Int)) : Prop := cl.length ≤ 30 ∧ (∀ c ∈ cl, c.length ≤ 10) ∧ log.length ≤ 12 ∧ ∀ c ∈ log, c.length ≤ 10
def FewP (cl log : List (List Int)) (w : World) (e : Ending) (w' : World) : Prop := ∃ b : Bool, e = .returned (.bool b) ∧ w = w' ∧ (b = false → Few cl log)
end Go.Proofs.YtojjjndhabjhdaaDoor.proofN
namespace Go.Proofs.YtojjjndhabjhdaaDoor.proofO
open Go.ChangeShapes Go.WideShapes Go.ChangeAt Go.RowKit proofP proofQ owns proofA proofM proofN cls
set_option linter.unusedSimpArgs false
set_option linter.unusedVariables false

theorem ints_block {w : World} {b B : Nat} {t : TypeId} {l : List Int} (h : Whole w b t (l.map (Value.int .i64))) (hb : b < B) (hl : l.length ≤ maxLen) (h64 : ∀ x ∈ l, In64 x) (cap : Nat) : IntsAt w B (.slice (some ⟨b, 0, none⟩) l.length cap) l := by
  refine ⟨_, cap, b, 0, rfl, hl, fun _ => ⟨rfl, hb⟩, fun i hi => ?_, h64⟩
  rw [Nat.zero_add, h.cell i, List.getElem?_map, List.getElem?_eq_getElem hi, List.getD_eq_getElem?_getD, List.getElem?_eq_getElem hi]; rfl
theorem cls_block {w : World} {b B : Nat} {t : TypeId} {l : List (List Int)} {vs : List Value} (h : Whole w b t vs) (hb : b < B) (hl : l.length ≤ maxLen) (hv : vs.length = l.length) (hn : ∀ i, i < l.length → IntsAt w B (vs.getD i undef) (l.getD i [])) (cap : Nat) : ClsAt w B (.slice (some ⟨b, 0, none⟩) l.length cap) l := by
  refine ⟨_, cap, b, 0, fun i => vs.getD i undef, rfl, hl, fun _ => ⟨rfl, hb⟩, fun i hi => ?_, hn⟩
  rw [Nat.zero_add, h.cell i, List.getElem?_eq_getElem (by omega)]
  dsimp only
  rw [List.getD_eq_getElem?_getD, List.getElem?_eq_getElem (by omega)]; rfl

def c12 : List (List Int) := [[1, 2], [-1, 2]]
theorem bad1 : bad c12 [[2]] = -1 := by
  refine bad_none fun j hj => ?_
  obtain rfl : j = 0 := by simp at hj; omega
  rw [pl_iff]
  have hn : Der ((c12) ++ [[2]].take 0) ([(2 : Int)].map fun l => -l) (-2) := .start (by simp) (by decide)
  have h1 : Der ((c12) ++ [[2]].take 0) ([(2 : Int)].map fun l => -l) 1 := .unit (c := [1, 2]) (by simp [c12]) (by simp) (by decide) (fun x hx _ hne => by
    simp at hx
    rcases hx with rfl | rfl
    · exact absurd rfl hne
    · exact hn)
  have h2 : Der ((c12) ++ [[2]].take 0) ([(2 : Int)].map fun l => -l) (-1) := .unit (c := [-1, 2]) (by simp [c12]) (by simp) (by decide) (fun x hx _ hne => by
    simp at hx
    rcases hx with rfl | rfl
    · exact absurd rfl hne
    · exact hn)
  exact .inl ⟨1, h1, h2⟩
theorem bad2 : bad c12 [[1]] = 0 := by
  refine bad_at (i := 0) (by simp) (fun j hj => absurd hj (Nat.not_lt_zero _)) ?_
  rw [pl_no]
  refine no_clash (fun l => l = -1 ∨ l = 2) (fun l h1 h2 => by omega) (fun l hl _ => by simp at hl; exact .inl hl) (fun c hc => ?_)
  simp [c12] at hc
  rcases hc with rfl | rfl
  · exact .inl ⟨2, by simp, by decide, .inr rfl⟩
  · exact .inl ⟨2, by simp, by decide, .inr rfl⟩

def o1 : Obj := .cells #[.int .i64 1, .int .i64 2] 3
def o2 : Obj := .cells #[.int .i64 (-1), .int .i64 2] 3
def o3 (n : Nat) : Obj := .cells #[.slice (some ⟨n, 0, none⟩) 2 2, .slice (some ⟨n + 1, 0, none⟩) 2 2] 41
def o4 (x : Int) : Obj := .cells #[.int .i64 x] 3
def o5 (n : Nat) : Obj := .cells #[.slice (some ⟨n, 0, none⟩) 1 1] 41
theorem in1 : In64 1 := by unfold In64; omega
theorem in2 : In64 2 := by unfold In64; omega
theorem inm : In64 (-1) := by unfold In64; omega

theorem world3 (w : World) : ClsAt (((w.alloc o1).alloc o2).alloc (o3 w.heap.size)) (w.heap.size + 3) (.slice (some ⟨w.heap.size + 2, 0, none⟩) 2 2) c12 := by
  have s1 : (w.alloc o1).heap.size = w.heap.size + 1 := by simp
  have s2 : ((w.alloc o1).alloc o2).heap.size = w.heap.size + 2 := by simp
  have a1 : Whole (((w.alloc o1).alloc o2).alloc (o3 w.heap.size)) w.heap.size 3 ([1, 2].map (Value.int .i64)) :=
    ((Whole.new w 3 ([1, 2].map (Value.int .i64))).below ((Below.refl _ _).alloc (Nat.le_refl _) o2) (by show w.heap.size < (w.alloc o1).heap.size; omega)).below ((Below.refl _ _).alloc (Nat.le_refl _) (o3 w.heap.size)) (by show w.heap.size < ((w.alloc o1).alloc o2).heap.size; omega)
  have a2 : Whole (((w.alloc o1).alloc o2).alloc (o3 w.heap.size)) (w.heap.size + 1) 3 ([-1, 2].map (Value.int .i64)) := by
    have := (Whole.new (w.alloc o1) 3 ([-1, 2].map (Value.int .i64))).below ((Below.refl _ _).alloc (Nat.le_refl _) (o3 w.heap.size)) (by simp)
    rw [s1] at this; exact this
  have a3 : Whole (((w.alloc o1).alloc o2).alloc (o3 w.heap.size)) (w.heap.size + 2) 41 [.slice (some ⟨w.heap.size, 0, none⟩) 2 2, .slice (some ⟨w.heap.size + 1, 0, none⟩) 2 2] := by
    have := Whole.new ((w.alloc o1).alloc o2) 41 [.slice (some ⟨w.heap.size, 0, none⟩) 2 2, .slice (some ⟨w.heap.size + 1, 0, none⟩) 2 2]
    rw [s2] at this; exact this
  refine cls_block (l := c12) a3 (by omega) (by decide) rfl (fun i hi => ?_) 2
  rcases (show i = 0 ∨ i = 1 by simp [c12] at hi; omega) with rfl | rfl
  · exact ints_block a1 (by omega) (by decide) (by intro x hx; simp at hx; rcases hx with rfl | rfl; exact in1; exact in2) 2
  · exact ints_block a2 (by omega) (by decide) (by intro x hx; simp at hx; rcases hx with rfl | rfl; exact inm; exact in2) 2
theorem world5 (w : World) (x : Int) (hx : In64 x) : ClsAt ((w.alloc (o4 x)).alloc (o5 w.heap.size)) (w.heap.size + 2) (.slice (some ⟨w.heap.size + 1, 0, none⟩) 1 1) [[x]] := by
  have s1 : (w.alloc (o4 x)).heap.size = w.heap.size + 1 := by simp
  have a1 : Whole ((w.alloc (o4 x)).alloc (o5 w.heap.size)) w.heap.size 3 ([x].map (Value.int .i64)) :=
    (Whole.new w 3 ([x].map (Value.int .i64))).below ((Below.refl _ _).alloc (Nat.le_refl _) (o5 w.heap.size)) (by show w.heap.size < (w.alloc (o4 x)).heap.size; omega)
  have a2 : Whole ((w.alloc (o4 x)).alloc (o5 w.heap.size)) (w.heap.size + 1) 41 [.slice (some ⟨w.heap.size, 0, none⟩) 1 1] := by
    have := Whole.new (w.alloc (o4 x)) 41 [.slice (some ⟨w.heap.size, 0, none⟩) 1 1]
    rw [s1] at this; exact this
  refine cls_block (l := [[x]]) a2 (by omega) (by unfold maxLen; simp) rfl (fun i hi => ?_) 1
  obtain rfl : i = 0 := by simp at hi; omega
  exact ints_block a1 (by omega) (by unfold maxLen; simp) (by intro y hy; simp at hy; rw [hy]; exact hx) 1

theorem alloc_below (w : World) (o : Obj) (B : Nat) (h : B ≤ w.heap.size) : Below B w (w.alloc o) := (Below.refl _ _).alloc h o

set_option maxRecDepth 100000 in
set_option maxHeartbeats 1000000 in
theorem alive_any (w : World) : Calls Tryd.prog 4 #[] w fun e w' => e = .returned (.bool true) ∧ Below w.heap.size w w' := by
  have hA := world3 w
  have hW3 : ∀ W, W = ((w.alloc o1).alloc o2).alloc (o3 w.heap.size) → W.heap.size = w.heap.size + 3 := by intro W h; rw [h]; simp
  have HCK : Hid (∀ W : World, W.heap.size = w.heap.size + 3 → ClsAt W (w.heap.size + 3) (.slice (some ⟨w.heap.size + 2, 0, none⟩) 2 2) c12 → Calls Tryd.prog 9 #[.slice (some ⟨w.heap.size + 2, 0, none⟩) 2 2, .slice (some ⟨w.heap.size + 3 + 1, 0, none⟩) 1 1] ((W.alloc (o4 2)).alloc (o5 (w.heap.size + 3))) fun e w' => e = .returned (.int .i64 (-1)) ∧ Below (w.heap.size + 5) ((W.alloc (o4 2)).alloc (o5 (w.heap.size + 3))) w') := Lib.hid (fun W hs hc => by
    have h5 := world5 W 2 in2
    rw [hs] at h5
    have hsz : ((W.alloc (o4 2)).alloc (o5 (w.heap.size + 3))).heap.size = w.heap.size + 5 := by simp [hs]
    have hc5 := ((hc.keep (alloc_below W (o4 2) _ (by omega))).keep (alloc_below (W.alloc (o4 2)) (o5 (w.heap.size + 3)) _ (by simp; omega))).mono (show w.heap.size + 3 ≤ w.heap.size + 5 by omega)
    have := Check_any _ (w.heap.size + 5) _ _ c12 [[2]] hc5 h5 (by omega) (by decide) (by decide) (by decide) (by decide)
    rw [bad1, hsz] at this
    exact this)
  have HCK2 : Hid (∀ W : World, ClsAt W W.heap.size (.slice (some ⟨w.heap.size + 2, 0, none⟩) 2 2) c12 → Calls Tryd.prog 9 #[.slice (some ⟨w.heap.size + 2, 0, none⟩) 2 2, .slice (some ⟨W.heap.size + 1, 0, none⟩) 1 1] ((W.alloc (o4 1)).alloc (o5 W.heap.size)) fun e w' => e = .returned (.int .i64 0) ∧ Below (W.heap.size + 2) ((W.alloc (o4 1)).alloc (o5 W.heap.size)) w') := Lib.hid (fun W hc => by
    have h5 := world5 W 1 in1
    have hsz : ((W.alloc (o4 1)).alloc (o5 W.heap.size)).heap.size = W.heap.size + 2 := by simp
    have hc5 := ((hc.keep (alloc_below W (o4 1) _ (Nat.le_refl _))).keep (alloc_below (W.alloc (o4 1)) (o5 W.heap.size) _ (by simp))).mono (show W.heap.size ≤ W.heap.size + 2 by omega)
    have := Check_any _ (W.heap.size + 2) _ _ c12 [[1]] hc5 h5 (by omega) (by decide) (by decide) (by decide) (by decide)
    rw [bad2, hsz] at this
    exact this)
  have HA := Lib.hid hA
  have HB0 : Hid (Below w.heap.size w ((((w.alloc o1).alloc o2).alloc (o3 w.heap.size)).alloc (o4 2) |>.alloc (o5 (w.heap.size + 3)))) := Lib.hid (((((((Below.refl w.heap.size w).alloc (Nat.le_refl _) o1).alloc (by simp) o2).alloc (by simp; omega) (o3 w.heap.size)).alloc (by simp; omega) (o4 2)).alloc (by simp; omega) (o5 (w.heap.size + 3))))
  have HK : Hid (∀ w1 : World, Below (w.heap.size + 5) ((((w.alloc o1).alloc o2).alloc (o3 w.heap.size)).alloc (o4 2) |>.alloc (o5 (w.heap.size + 3))) w1 → ClsAt w1 w1.heap.size (.slice (some ⟨w.heap.size + 2, 0, none⟩) 2 2) c12) := Lib.hid (fun w1 hb => by
    have hs : (((w.alloc o1).alloc o2).alloc (o3 w.heap.size)).heap.size = w.heap.size + 3 := by simp
    have h1 := (HA.out.keep (alloc_below _ (o4 2) _ (by omega))).keep (alloc_below ((((w.alloc o1).alloc o2).alloc (o3 w.heap.size)).alloc (o4 2)) (o5 (w.heap.size + 3)) _ (by simp))
    have := h1.keep (hb.mono (by omega))
    refine this.mono ?_
    have h2 := hb.size
    simp at h2; omega)
  clear hA hW3
  unfold o1 o2 o3 o4 o5 at *
  go_enter Tryd.func4, Tryd.ntmps4
  go_wp2_with fail
  refine (HCK.out _ (by simp) HA.out).mono ?_
  rintro e w1 ⟨rfl, hb1⟩
  have HC1 := Lib.hid (HK.out w1 hb1)
  have HB1 := Lib.hid (HB0.out.trans (hb1.mono (by omega)))
  clear hb1 HCK HA HK HB0
  go_wp2_with fail
  refine (HCK2.out w1 HC1.out).mono ?_
  rintro e w2 ⟨rfl, hb2⟩
  have HB2 := Lib.hid (((HB1.out.alloc HB1.out.size _).alloc (by simp; have := HB1.out.size; omega) _).trans (hb2.mono (by have := HB1.out.size; omega)))
  clear hb2 HCK2 HC1
  go_wp2
  go_ret
  exact ⟨rfl, HB2.out⟩

def SomeB (w : World) (e : Ending) (w' : World) : Prop := ∃ b : Bool, e = .returned (.bool b) ∧ w = w'
theorem snd_law {cl log : List (List Int)} (h : bad cl log = -1) (m : List Bool) (hm : allIn cl m = true) : allIn log m = true := by
  have hg : ∀ j, j < log.length → pl (cl ++ log.take j) (log.getD j []) = true := by
    rcases bad_cases cl log with ⟨_, hg⟩ | ⟨i, hi, he, _⟩
    · exact hg
    · rw [h] at he; omega
  have key : ∀ j, j ≤ log.length → ∀ c ∈ log.take j, trueIn c m = true := by
    intro j
    induction j with
    | zero => intro _ c hc; simp at hc
    | succ j ih =>
      intro hj c hc
      rw [List.take_succ_eq_append_getElem (by omega), List.mem_append] at hc
      rcases hc with hc | hc
      · exact ih (by omega) c hc
      · simp only [List.mem_singleton] at hc
        have hcd : c = log.getD j [] := by rw [hc, List.getD_eq_getElem?_getD, List.getElem?_eq_getElem (by omega)]; rfl
        by_cases ht : trueIn c m = true
        · exact ht
        · exfalso
          have hp := pl_iff.1 (hg j (by omega))
          rw [← hcd] at hp
          refine sound (fun l => holds l m = true) (fun l hl => holds_neg m hl) (fun l hl hlit => ?_) (fun d hd => ?_) hp
          · obtain ⟨x, hx, rfl⟩ := List.mem_map.1 hl
            rw [holds_neg m (lit_back hlit)]
            intro hh
            exact ht (List.any_eq_true.2 ⟨x, hx, hh⟩)
          · have hd' : trueIn d m = true := by
              rcases List.mem_append.1 hd with hd | hd
              · exact List.all_eq_true.1 hm d hd
              · exact ih (by omega) d hd
            obtain ⟨l, hl, hh⟩ := List.any_eq_true.1 hd'
            refine ⟨l, hl, ?_, hh⟩
            unfold holds at hh
            simp only [Bool.and_eq_true, decide_eq_true_eq] at hh
            exact hh.1
  exact List.all_eq_true.2 fun c hc => key log.length (Nat.le_refl _) c (by rw [List.take_length]; exact hc)
end Go.Proofs.YtojjjndhabjhdaaDoor.proofO
