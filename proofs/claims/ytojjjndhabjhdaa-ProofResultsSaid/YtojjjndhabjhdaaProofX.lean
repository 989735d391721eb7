/-
  A row beside the prover's; contract of proof.Refutes.
-/
import Derived.Test.YtojjjndhabjhdaaProofW
namespace Go.Proofs.Ytojjjndhabjhdaa.proofX
open Go.ChangeShapes Go.WideShapes Go.ChangeAt Go.RowKit proofP proofQ proofR owns proofA proofC proofG proofI proofJ proofM proofN proofO proofS proofT proofU proofV proofW cls
set_option linter.unusedSimpArgs false
set_option linter.unusedVariables false

/-- a new row is taken beside the prover's -/
theorem mem_adopt {w w' : World} {B bp : Nat} {lv va : Value} {first nv : Nat} {s : PS} {F : Ix → Ent} (h : Mem w B bp lv va first nv s F) (hb : Below w.heap.size w w') {x : Ent} (hr : w'.ownsRow w.heap.size x.e 1 x.v x.xs.length x.xs) :
    Mem w' B bp lv va first nv { s with extra := x } (upd F .extra x) := by
  have hlt := h.obj.lt
  have hBw : B ≤ w.heap.size := by have := h.hB; omega
  have O1 := h.own.step .extra x (grown_below hb _) (own_mono hr hBw) (by
    cases hv : x.v.ownBlock with
    | none => exact .inr (.inl rfl)
    | some b => exact .inr (.inr ⟨b, rfl, (hr.lt b hv).1⟩))
  refine ⟨O1, ?_, ⟨h.hB, upd_same _ _ _⟩, fun k => ?_, fun k => ?_, ?_, ?_, ?_, ?_, ?_, ?_, fun i => ?_, fun c => ?_⟩
  · have := h.obj.below hb h.obj.lt
    simpa [upd] using this
  · by_cases e : k = .extra
    · subst e; rw [upd_same]; intro e; have := (hr.lt _ e).1; omega
    · rw [upd_other _ _ e]; exact h.ne k
  · by_cases e : k = .extra
    · subst e; rw [upd_same]; rfl
    · rw [upd_other _ _ e]; cases k <;> first | exact absurd rfl e | exact h.te _
  · simp [upd, h.on]
  · simp [upd, h.short]
  · simp [upd, h.rows]
  · simp [upd, h.watches]
  · simp [upd, h.value]
  · simp [upd, h.trail]
  · simp [upd, h.row]
  · simp [upd, h.watch]
/-- a cell of that row is written -/
theorem mem_setExtra {w : World} {B bp : Nat} {lv va : Value} {first nv : Nat} {s : PS} {F : Ix → Ent} (h : Mem w B bp lv va first nv s F) {g n cap : Nat} (hv : s.extra.v = .slice (some ⟨g, 0, none⟩) n cap) (j : Nat) (u : Value) :
    Mem (w.setCell ⟨g, j, none⟩ u) B bp lv va first nv { s with extra := ⟨s.extra.e, s.extra.v, s.extra.xs.set j u⟩ } (upd F .extra ⟨(F .extra).e, (F .extra).v, (F .extra).xs.set j u⟩) := by
  have he := h.hx.2
  obtain ⟨O1, G1⟩ := h.own.set (k := .extra) (by rw [he]; exact hv) j u
  have hg : g ≠ bp := fun e => h.ne .extra (by rw [he, hv, e]; rfl)
  refine ⟨O1, ?_, ⟨h.hB, ?_⟩, fun k => ?_, fun k => ?_, ?_, ?_, ?_, ?_, ?_, ?_, fun i => ?_, fun c => ?_⟩
  · have := h.obj.kept G1 (by intro e; cases e; exact hg rfl)
    simpa [upd] using this
  · rw [upd_same, he]
  · by_cases e : k = .extra
    · subst e; rw [upd_same]; exact h.ne _
    · rw [upd_other _ _ e]; exact h.ne k
  · by_cases e : k = .extra
    · subst e; rw [upd_same]; exact h.te _
    · rw [upd_other _ _ e]; exact h.te k
  · simp [upd, h.on]
  · simp [upd, h.short]
  · simp [upd, h.rows]
  · simp [upd, h.watches]
  · simp [upd, h.value]
  · simp [upd, h.trail]
  · simp [upd, h.row]
  · simp [upd, h.watch]

theorem pv_adopt {w w' : World} {x y : Ent} {W0 bp : Nat} {lv : Value} {cl log : List (List Int)} {f : Nat → Bool} (h : PVx y w W0 bp lv cl log f) (hb : Below w.heap.size w w') (hr : w'.ownsRow w.heap.size x.e 1 x.v x.xs.length x.xs) : PVx x w' W0 bp lv cl log f := by
  obtain ⟨va, F, s, nv, ⟨hM, hx⟩, hnv, hG, hsn, hon, ht, hsh⟩ := h
  exact ⟨va, _, _, nv, ⟨mem_adopt hM hb hr, rfl⟩, hnv, ⟨hG.si, hG.ro, hG.ti, hG.hm, hG.sh, hG.hn⟩, hsn, hon, ht, hsh⟩
theorem pv_setExtra {w : World} {e : TypeId} {v : Value} {xs : List Value} {W0 bp : Nat} {lv : Value} {cl log : List (List Int)} {f : Nat → Bool} (h : PVx ⟨e, v, xs⟩ w W0 bp lv cl log f) {g n cap : Nat} (hv : v = .slice (some ⟨g, 0, none⟩) n cap) (j : Nat) (u : Value) : PVx ⟨e, v, xs.set j u⟩ (w.setCell ⟨g, j, none⟩ u) W0 bp lv cl log f := by
  obtain ⟨va, F, s, nv, ⟨hM, hx⟩, hnv, hG, hsn, hon, ht, hsh⟩ := h
  have hM' := mem_setExtra hM (by rw [hx]; exact hv) j u
  exact ⟨va, _, _, nv, ⟨hM', by rw [hx]⟩, hnv, ⟨hG.si, hG.ro, hG.ti, hG.hm, hG.sh, hG.hn⟩, hsn, hon, ht, hsh⟩
theorem pv_extra {w : World} {e : TypeId} {v : Value} {xs : List Value} {W0 bp : Nat} {lv : Value} {cl log : List (List Int)} {f : Nat → Bool} (h : PVx ⟨e, v, xs⟩ w W0 bp lv cl log f) {g n cap : Nat} (hv : v = .slice (some ⟨g, 0, none⟩) n cap) :
    W0 ≤ g ∧ g < w.heap.size ∧ g ≠ bp ∧ (∀ j, j < xs.length → w.cell? ⟨g, j, none⟩ = xs[j]?) ∧ ∀ j, w.frozen? ⟨g, j, none⟩ = false := by
  obtain ⟨va, F, s, nv, ⟨hM, hx⟩, hnv, hG, hsn, hon, ht, hsh⟩ := h
  have he := hM.hx.2.trans hx
  have hv' : (F .extra).v = .slice (some ⟨g, 0, none⟩) n cap := by rw [he]; exact hv
  have h1 := (hM.own.1 .extra).lt g (by rw [hv']; rfl)
  refine ⟨h1.1, h1.2, fun e => hM.ne .extra (by rw [hv', e]; rfl), fun j hj => ?_, fun j => hM.own.frozen hv' j⟩
  have := hM.own.cell hv' j (by rw [he]; exact hj)
  rw [he] at this; exact this
theorem pv_size {w : World} {x : Ent} {W0 bp : Nat} {lv : Value} {cl log : List (List Int)} {f : Nat → Bool} (h : PVx x w W0 bp lv cl log f) : W0 ≤ w.heap.size := by
  obtain ⟨va, F, s, nv, ⟨hM, hx⟩, _⟩ := h
  have := hM.hB; have := hM.obj.lt; omega
theorem ex_row {w : World} {B : Nat} {e : TypeId} {v : Value} {l : List Int} (h : w.ownsRow B e 1 v l.length (l.map (Value.int .i64))) (hs : ∀ x ∈ l, In64 x) (B0 : Nat) : IntsEx w B0 ⟨e, v, l.map (Value.int .i64)⟩ v l := by
  rcases h.2 with ⟨rfl, h0⟩ | ⟨g, cap, cur, rfl, hb, hg, hn, hm, hc, ht⟩
  · obtain rfl : l = [] := List.length_eq_zero_iff.1 h0
    exact ⟨none, 0, 0, 0, rfl, Nat.zero_le _, fun h => absurd rfl h, fun i hi => absurd hi (Nat.not_lt_zero _), by simp⟩
  · refine ⟨_, cap, g, 0, rfl, by omega, fun _ => ⟨rfl, .inr ⟨rfl, rfl, rfl⟩⟩, fun i hi => ?_, hs⟩
    have := World.ownsRow.cellAt h i (by omega)
    rw [Nat.zero_add, this, List.getElem?_map, List.getElem?_eq_getElem hi, List.getD_eq_getElem?_getD, List.getElem?_eq_getElem hi]; rfl
theorem pl_all (cl log : List (List Int)) (c : List Int) : pl (sel (cl ++ log) fun _ => true) c = pl (cl ++ log) c := pl_same _ fun x => by
  rw [mem_sel, List.mem_iff_getElem]
  constructor
  · rintro ⟨i, hi, _, h⟩
    exact ⟨i, hi, by rw [List.getD_eq_getElem?_getD, List.getElem?_eq_getElem hi] at h; exact h⟩
  · rintro ⟨i, hi, h⟩
    exact ⟨i, hi, rfl, by rw [List.getD_eq_getElem?_getD, List.getElem?_eq_getElem hi]; exact h⟩

noncomputable def refutes (cl log : List (List Int)) (core : List Int) : Bool := decide (bad cl log < 0) && pl (cl ++ log) (core.map ng)

set_option maxRecDepth 100000 in
set_option maxHeartbeats 4000000 in
theorem Refutes_any (w : World) (B0 : Nat) (cv lv kv : Value) (cl log : List (List Int)) (core : List Int) (hc : ClsAt w B0 cv cl) (hl : ClsAt w B0 lv log) (hk : IntsAt w B0 kv core) (hB0 : B0 ≤ w.heap.size) (h1 : cl.length ≤ 40000) (h2 : log.length ≤ 40000) (hs1 : ∀ c ∈ cl, c.length ≤ 100000) (hs2 : ∀ c ∈ log, c.length ≤ 100000) (hcl : core.length ≤ 100000) :
    Calls Try.prog 17 #[cv, lv, kv] w fun e w' => e = .returned (.bool (refutes cl log core)) ∧ Below w.heap.size w w' := by
  have HN := Lib.hid (new_pv w B0 cv lv cl log hc hl hB0 h1 h2 hs1 hs2)
  have HL := Lib.hid hl
  have HS2 := Lib.hid hs2
  have HK := Lib.hid hk
  obtain ⟨ac, capc, bc, offc, vsc, rfl, _, _, _, _⟩ := hc
  obtain ⟨al, capl, bl, offl, vsl, rfl, _, _, _, _⟩ := hl
  obtain ⟨av, capv, bv, offv, rfl, hvm, hva, hvc, hv64⟩ := hk
  have HVA := Lib.hid hva
  have HVC := Lib.hid hvc
  have H64 := Lib.hid hv64
  have HRF : Hid (refutes cl log core = (decide (bad cl log < 0) && pl (cl ++ log) (core.map ng))) := Lib.hid rfl
  clear hs1 hs2 hva hvc hv64 hvm
  obtain ⟨i0, hi, hz0, hz1, hz2⟩ := info_parts proofA.infoI
  go_enter Try.func17, Try.ntmps17
  go_wp2_with fail
  refine HN.out.mono ?_
  rintro e w1 ⟨bp, x, rfl, hbp, hpv, hb⟩
  have HC := Lib.hid (check_pv x w1 w.heap.size bp _ cl log hpv ((HL.out.mono hB0).keep hb) h1 h2 HS2.out)
  have HB := Lib.hid hb
  have HBC := Lib.hid (bad_cases cl log)
  clear hpv hb HN
  go_wp2_with fail
  refine HC.out.mono ?_
  rintro e w2 ⟨rfl, hpv2, hb2⟩
  have HB2 := Lib.hid (HB.out.trans hb2)
  have HPV := Lib.hid hpv2
  clear hb2 HC hpv2
  generalize hbad : bad cl log = bd at *
  clear hbad
  rcases HBC.out with ⟨rfl, _⟩ | ⟨i, hi1, rfl, _, _⟩
  rotate_left
  · have HE : Hid (refutes cl log core = false) := Lib.hid (by rw [HRF.out, decide_eq_false (by omega)]; rfl)
    clear HBC HRF HPV
    have hge : (0 : Int) ≤ (i : Int) := by omega
    go_wp2
    go_ret
    exact ⟨by rw [HE.out]; rfl, HB2.out⟩
  have HP2 := Lib.hid (HPV.out rfl)
  have HE : Hid (refutes cl log core = pl (cl ++ log) (core.map ng)) := Lib.hid (by rw [HRF.out, decide_eq_true (by omega)]; rfl)
  clear HBC HRF HPV
  have hs2 := HB2.out.size
  go_wp2_with (at_make; refine wpList_make_own _ rfl _ _ 30 rfl w2.heap.size 3 i0 (.int .i64 0) 1 Try.underlying30 hi hz0 hz1 .i64 .i64 _ core.length rfl rfl rfl ?c1 ?c2 ?c3 ?_)
  case c1 => rw [hz2]; omega
  case c2 => unfold maxLen; omega
  case c3 => exact Nat.le_refl _
  intro w3 hown hgrow
  have HR3 : Hid (IntsR w3 w2.heap.size (.slice (some ⟨w2.heap.size, 0, none⟩) 0 core.length) ((core.take 0).map ng)) := Lib.hid (by simpa [IntsR] using hown)
  have HB3 := Lib.hid (below_grown hgrow (Nat.le_refl w2.heap.size) (by intro k hk; cases hk))
  clear hown hgrow
  go_wp2
  go_loopw [8, 22] (fun ov it wr => ∃ (k n cp : Nat) (ao : Option Addr), k ≤ core.length ∧ it = .int .i64 k ∧ ov = .slice ao n cp ∧ IntsR wr w2.heap.size (.slice ao n cp) ((core.take k).map ng) ∧ Below w2.heap.size w2 wr) (fun _ it _ => core.length - (intOf it).toNat)
  case atStart => exact ⟨0, _, _, _, Nat.zero_le _, rfl, rfl, HR3.out, HB3.out⟩
  case round =>
    clear HR3 HB3
    obtain ⟨k, n, cp, ao, hk, rfl, rfl, hr, hb⟩ := hrel
    have HR := Lib.hid hr
    have HB := Lib.hid hb
    have hws := hb.size
    by_cases hlt : k < core.length
    · obtain ⟨rfl, hbB⟩ := HVA.out (by intro h0; rw [h0] at hlt; simp at hlt)
      have q : wr.cell? ⟨bv, offv + k, none⟩ = some (.int .i64 (core.getD k 0)) := by
        rw [(HB2.out.trans (hb.mono hs2)).cell (show (⟨bv, offv + k, none⟩ : Addr).block < w.heap.size from by show bv < _; omega)]; exact HVC.out k hlt
      have hi64 := H64.out _ (getD_mem (d := 0) hlt)
      have HSN := Lib.hid (map_snoc hlt)
      have HXN := Lib.hid (ints_new wr (ng (core.getD k 0)) (ng_in hi64))
      have hwp := ng_wrap hi64
      have HRA := Lib.hid (HR.out.alloc (.cells #[.int .i64 (ng (core.getD k 0))] 3))
      have HS2 : Hid (w2.heap.size ≤ (wr.alloc (.cells #[.int .i64 (ng (core.getD k 0))] 3)).heap.size) := Lib.hid (by simp; omega)
      have HBA := Lib.hid (HB.out.alloc hws (.cells #[.int .i64 (ng (core.getD k 0))] 3))
      have HL0 : Hid (((core.take k).map ng).length ≤ 1000000) := Lib.hid (by simp; omega)
      have HL1 : Hid ([ng (core.getD k 0)].length ≤ 1000000) := Lib.hid (by simp)
      generalize core.getD k 0 = x at *
      generalize ng x = y at *
      obtain ⟨i1, i2⟩ := hi64
      clear hr hb
      go_wp2_with (at_builtin; refine wpList_append_ints _ rfl (.tmp 26) (.tmp 29) 30 rfl Try.underlying30 w2.heap.size (.slice ao n cp) (.slice (some ⟨wr.heap.size, 0, none⟩) 1 1) ((core.take k).map ng) [y] rfl HRA.out rfl HXN.out (Nilv.some _ _ _) HL0.out HL1.out HS2.out ?_)
      intro a1 n1 c1 w4 ho1 hb1 hn1
      have HO1 : Hid (IntsR w4 w2.heap.size (.slice a1 n1 c1) ((core.take (k + 1)).map ng)) := Lib.hid (by rw [HSN.out, List.map_take]; exact ho1)
      have HB1 := Lib.hid (HBA.out.trans hb1)
      clear ho1 hb1
      go_wp2
      go_roundw
      case rel => exact ⟨k + 1, _, _, _, by omega, by go_num, rfl, HO1.out, HB1.out⟩
      case measure => simp [intOf]; omega
    · obtain rfl : k = core.length := by omega
      rw [List.take_length] at hr
      have hr' : wr.ownsRow w2.heap.size 3 1 (.slice ao n cp) (core.map ng).length ((core.map ng).map (Value.int .i64)) := hr
      have hpv := pv_adopt (x := ⟨3, .slice ao n cp, (core.map ng).map (Value.int .i64)⟩) HP2.out hb (by simpa using hr')
      have HPL := Lib.hid (plain_pv _ wr w.heap.size bp _ (.slice ao n cp) cl log _ (core.map ng) hpv (ex_row hr' (map_in H64.out) _) (by simpa using hcl))
      rw [pl_all, ← HE.out] at HPL
      have HBF := Lib.hid (HB2.out.trans (hb.mono hs2))
      clear hr hb hr' hpv HP2
      go_wp2_with fail
      refine HPL.out.mono ?_
      rintro e w4 ⟨rfl, _, hb4⟩
      have HB4 := Lib.hid (HBF.out.trans hb4)
      clear hb4 HPL
      go_wp2
      go_ret
      exact ⟨rfl, HB4.out⟩
end Go.Proofs.Ytojjjndhabjhdaa.proofX
