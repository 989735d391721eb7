/-
  Contract of (*reader).key.
-/
import Derived.Test.YtdbidkfjbhclcaaDoorJsonE
import Derived.Test.YtdbidkfjbhclcaaDoorHeld2
import Derived.Test.YtdbidkfjbhclcaaDoorJsoM
import Derived.StillTailTactics
namespace Go.Proofs.YtdbidkfjbhclcaaDoor.jsonF
open Go.ChangeShapes Go.WideShapes Go.ChangeAt Go.RowKit Go.WideMaps Go.Maps nodeP nodeQ nodeS ownI jsonP jsonM jsonN jsonO jsonA jsonB errs errIs runesE quoteB
set_option linter.unusedSimpArgs false
set_option linter.unusedVariables false

/-- what lies there from the beginning -/
structure Glb (w0 w : World) (ad : Nat → Addr) (rb : Nat) : Prop where
  tabs : Tabs w0
  errs : Ej w0 ad
  rng : intsC.Rng w0
  low : w0.heap.size ≤ rb
  bel : Below w0.heap.size w0 w
theorem Glb.near {w0 w w' : World} {ad : Nat → Addr} {B rb : Nat} (h : Glb w0 w ad rb) (hN : Near B rb w w') (hB : rb < B) : Glb w0 w' ad rb :=
  ⟨h.tabs, h.errs, h.rng, h.low, h.bel.trans ⟨hN.os, hN.tape, hN.output, hN.size, fun b hb => hN.block b (by have := h.low; omega) (by have := h.low; omega)⟩⟩
theorem Glb.tab {w0 w : World} {ad : Nat → Addr} {rb : Nat} (h : Glb w0 w ad rb) : Tabs w := tabs_below h.tabs h.bel
theorem Glb.err {w0 w : World} {ad : Nat → Addr} {rb : Nat} (h : Glb w0 w ad rb) : Ej w ad := h.errs.below h.bel
theorem Glb.rg {w0 w : World} {ad : Nat → Addr} {rb : Nat} (h : Glb w0 w ad rb) : intsC.Rng w := intsC.rng_below h.rng h.bel
theorem Glb.syn {w0 w : World} {ad : Nat → Addr} {rb : Nat} (h : Glb w0 w ad rb) : Syn w ad := h.err.glob 0 (by decide)
theorem stk_eq (l : List UInt8) : quoteB.stk l = jsonP.stk l := rfl

/-- a key, and what is left behind its ":" -/
noncomputable def keyR (u : List UInt8) (keys : List ByteArray) : Nat × ByteArray × List UInt8 := match jsonP.stk (bs u) with
  | none => (1, ByteArray.empty, [])
  | some (x, k) => if inK ⟨x.toArray⟩ keys = true then (5, ByteArray.empty, []) else if bs ((bs u).drop k) = [] ∨ hd (bs ((bs u).drop k)) ≠ 58 then (1, ByteArray.empty, []) else (0, ⟨x.toArray⟩, (bs ((bs u).drop k)).tail)

theorem infoS : (Tryd.prog.info? 9).map (fun i => (i.zero, i.size, i.bytes)) = some (some (.string ⟨#[]⟩), 1, 16) := by kernel_rfl
def KyP (B rb : Nat) (s : ByteArray) (n d : Nat) (fr : Nat → Fr) (P : Nat → Prop) (ad : Nat → Addr) (q : Nat × ByteArray × List UInt8) (w : World) (e : Ending) (w' : World) : Prop :=
  Near B rb w w' ∧ ((q.1 ≠ 0 ∧ e = .returned (ev (ad (q.1 - 1)))) ∨ (q.1 = 0 ∧ e = .returned .nilIface ∧ ∃ p' F', p' ≤ s.size ∧ s.data.toList.drop p' = q.2.2 ∧ RM w' B rb s p' n (d + 1) (updN fr d ⟨true, (fr d).keys ++ [q.2.1], (fr d).kids⟩) F' P))

set_option maxRecDepth 100000 in
set_option maxHeartbeats 4000000 in
theorem key_any (w0 w : World) (ad : Nat → Addr) (B rb : Nat) (s : ByteArray) (p n d : Nat) (fr : Nat → Fr) (F : Ix → Thing) (P : Nat → Prop) (hG : Glb w0 w ad rb) (h : RM w B rb s p n (d + 1) fr F P) (ho : (fr d).obj = true) (hd32 : d ≤ 32) (hp : p ≤ s.size) (hs : s.size ≤ 1000000) (hkl : (fr d).keys.length ≤ 1000000) :
    Calls Tryd.prog 42 #[.pointer (some ⟨rb, 0, none⟩)] w (KyP B rb s n d fr P ad (keyR (s.data.toList.drop p) (fr d).keys) w) := by
  have hrB := h.hB.1
  have HBL := Lib.hid (blanks_any w B rb s p n (d + 1) fr F P h hp hs)
  have HG := Lib.hid hG
  have HKR : Hid (keyR (s.data.toList.drop p) (fr d).keys = match jsonP.stk (bs (s.data.toList.drop p)) with
    | none => (1, ByteArray.empty, [])
    | some (x, k) => if inK ⟨x.toArray⟩ (fr d).keys = true then (5, ByteArray.empty, []) else if bs ((bs (s.data.toList.drop p)).drop k) = [] ∨ hd (bs ((bs (s.data.toList.drop p)).drop k)) ≠ 58 then (1, ByteArray.empty, []) else (0, ⟨x.toArray⟩, (bs ((bs (s.data.toList.drop p)).drop k)).tail)) := Lib.hid rfl
  generalize keyR (s.data.toList.drop p) (fr d).keys = kr at *
  clear h hG
  go_enter Tryd.func42, Tryd.ntmps42
  go_wp2_with fail
  refine HBL.out.mono ?_
  rintro e w1 ⟨rfl, p1, hp1, hp2, hdr, hM1, hN1⟩
  have HM1 := Lib.hid hM1
  have HN1 := Lib.hid hN1
  have HDR := Lib.hid hdr
  obtain ⟨f0, f1, f2, f3, f4⟩ := hM1.field
  have HG1 := Lib.hid (HG.out.near hN1 hrB)
  have hbd : Below w1.heap.size w1 w1.drew := (Below.refl _ _).drew
  have HGd := Lib.hid (HG1.out.near (Near.below (hbd.mono hM1.hB.2)) hrB)
  have HTK := Lib.hid (quoteB.take_any s (p1 : Int) w1.drew ad hs HGd.out.tab HGd.out.syn)
  have HTO : Hid (quoteB.takeO s.data.toList (p1 : Int) = jsonP.stk (bs (s.data.toList.drop p))) := Lib.hid (by
    unfold quoteB.takeO
    rw [if_neg (by omega), show ((p1 : Int)).toNat = p1 from by omega, hdr]; rfl)
  rw [HTO.out] at HTK
  generalize bs (s.data.toList.drop p) = u at *
  clear hM1 hN1 f2 f3 f4 HBL hbd hdr
  go_wp2
  refine held2.region (fun _ w' => w'.cell? ⟨rb, 0, none⟩ = some (.string s) ∧ w'.cell? ⟨rb, 1, none⟩ = some (.int .i64 p1)) (by kernel_rfl) ?_
  have hS7 : w1.drew.cell? ⟨rb, 0, none⟩ = some (.string s) ∧ w1.drew.cell? ⟨rb, 1, none⟩ = some (.int .i64 p1) := ⟨f0, f1⟩
  refine held2.wpLeft.take (i := 0) (v := ?_) rfl (by kernel_rfl) (by kernel_rfl) (by kernel_rfl) (by kernel_rfl) (fun _ _ => Iff.rfl) (fun _ _ _ h => h) (by rfl) ?_ hS7 ?_
  rotate_left
  · (intro w l hl1 hl2 hSw; obtain ⟨s0, s1⟩ := hSw; go_simp; try with_reducible rfl)
  simp only [Act.put, List.setIfInBounds_toArray, List.set_cons_zero, List.set_cons_succ]
  refine held2.wpLeft.take (i := 1) (v := ?_) rfl (by kernel_rfl) (by kernel_rfl) (by kernel_rfl) (by kernel_rfl) (fun _ _ => Iff.rfl) (fun _ _ _ h => h) (by rfl) ?_ hS7 ?_
  rotate_left
  · (intro w l hl1 hl2 hSw; obtain ⟨s0, s1⟩ := hSw; go_simp; try with_reducible rfl)
  simp only [Act.put, List.setIfInBounds_toArray, List.set_cons_zero, List.set_cons_succ]
  refine held2.wpLeft.take (i := 2) (v := ?_) rfl (by kernel_rfl) (by kernel_rfl) (by kernel_rfl) (by kernel_rfl) (fun _ _ => Iff.rfl) (fun _ _ _ h => h) (by rfl) ?_ hS7 ?_
  rotate_left
  · (intro w l hl1 hl2 hSw; obtain ⟨s0, s1⟩ := hSw; go_simp; try with_reducible rfl)
  simp only [Act.put, List.setIfInBounds_toArray, List.set_cons_zero, List.set_cons_succ]
  refine held2.wpLeft.take (i := 3) (v := ?_) rfl (by kernel_rfl) (by kernel_rfl) (by kernel_rfl) (by kernel_rfl) (fun _ _ => Iff.rfl) (fun _ _ _ h => h) (by rfl) ?_ hS7 ?_
  rotate_left
  · (intro w l hl1 hl2 hSw; obtain ⟨s0, s1⟩ := hSw; go_simp; try with_reducible rfl)
  simp only [Act.put, List.setIfInBounds_toArray, List.set_cons_zero, List.set_cons_succ]
  refine held2.wpLeft.take (i := 4) (v := ?_) rfl (by kernel_rfl) (by kernel_rfl) (by kernel_rfl) (by kernel_rfl) (fun _ _ => Iff.rfl) (fun _ _ _ h => h) (by rfl) ?_ hS7 ?_
  rotate_left
  · (intro w l hl1 hl2 hSw; obtain ⟨s0, s1⟩ := hSw; go_simp; try with_reducible rfl)
  simp only [Act.put, List.setIfInBounds_toArray, List.set_cons_zero, List.set_cons_succ]
  refine held2.wpLeft.take (i := 5) (v := ?_) rfl (by kernel_rfl) (by kernel_rfl) (by kernel_rfl) (by kernel_rfl) (fun _ _ => Iff.rfl) (fun _ _ _ h => h) (by rfl) ?_ hS7 ?_
  rotate_left
  · (intro w l hl1 hl2 hSw; obtain ⟨s0, s1⟩ := hSw; go_simp; try with_reducible rfl)
  simp only [Act.put, List.setIfInBounds_toArray, List.set_cons_zero, List.set_cons_succ]
  refine held2.wpLeft.take (i := 6) (v := ?_) rfl (by kernel_rfl) (by kernel_rfl) (by kernel_rfl) (by kernel_rfl) (fun _ _ => Iff.rfl) (fun _ _ _ h => h) (by rfl) ?_ hS7 ?_
  rotate_left
  · (intro w l hl1 hl2 hSw; obtain ⟨s0, s1⟩ := hSw; go_simp; try with_reducible rfl)
  simp only [Act.put, List.setIfInBounds_toArray, List.set_cons_zero, List.set_cons_succ]
  refine held2.wpLeft.take (i := 7) (v := ?_) rfl (by kernel_rfl) (by kernel_rfl) (by kernel_rfl) (by kernel_rfl) (fun _ _ => Iff.rfl) (fun _ _ _ h => h) (by rfl) ?_ hS7 ?_
  rotate_left
  · (intro w l hl1 hl2 hSw; obtain ⟨s0, s1⟩ := hSw; go_simp; try with_reducible rfl)
  simp only [Act.put, List.setIfInBounds_toArray, List.set_cons_zero, List.set_cons_succ]
  refine held2.wpLeft.one (i := 8) (by kernel_rfl) rfl (fun K hK => ?_)
  go_simp
  refine HTK.out.mono ?_
  rintro e w2 ⟨rfl, hb2⟩
  have hb12 : Below w1.heap.size w1 w2 := (Below.refl _ _).drew.trans hb2
  have hM2 := HM1.out.new hb12
  have hN2 := HN1.out.trans (Near.below (rb := rb) (hb12.mono HM1.out.hB.2))
  have HM2 := Lib.hid hM2
  have HN2 := Lib.hid hN2
  have HG2 := Lib.hid (HG.out.near hN2 hrB)
  obtain ⟨g0, g1, g2, g3, g4⟩ := hM2.field
  have hS8 : w2.cell? ⟨rb, 0, none⟩ = some (.string s) ∧ w2.cell? ⟨rb, 1, none⟩ = some (.int .i64 p1) := ⟨g0, g1⟩
  refine hK.out _ _ hS8 ?_
  clear hK K hM2 hN2 hb12 hb2
  cases hst : jsonP.stk u with
  | none =>
    simp only [quoteB.tkV]
    refine held2.wpLeft.take (i := 9) (v := ?_) rfl (by kernel_rfl) (by kernel_rfl) (by kernel_rfl) (by kernel_rfl) (fun _ _ => Iff.rfl) (fun _ _ _ h => h) (by rfl) ?_ hS8 ?_
    rotate_left
    · (intro w l hl1 hl2 hSw; obtain ⟨s0, s1⟩ := hSw; go_simp; try with_reducible rfl)
    simp only [Act.put, List.setIfInBounds_toArray, List.set_cons_zero, List.set_cons_succ, List.getElem_toArray, List.getElem_cons_succ, List.getElem_cons_zero]
    refine held2.wpLeft.take (i := 10) (v := ?_) rfl (by kernel_rfl) (by kernel_rfl) (by kernel_rfl) (by kernel_rfl) (fun _ _ => Iff.rfl) (fun _ _ _ h => h) (by rfl) ?_ hS8 ?_
    rotate_left
    · (intro w l hl1 hl2 hSw; obtain ⟨s0, s1⟩ := hSw; go_simp; try with_reducible rfl)
    simp only [Act.put, List.setIfInBounds_toArray, List.set_cons_zero, List.set_cons_succ, List.getElem_toArray, List.getElem_cons_succ, List.getElem_cons_zero]
    refine held2.wpLeft.take (i := 11) (v := ?_) rfl (by kernel_rfl) (by kernel_rfl) (by kernel_rfl) (by kernel_rfl) (fun _ _ => Iff.rfl) (fun _ _ _ h => h) (by rfl) ?_ hS8 ?_
    rotate_left
    · (intro w l hl1 hl2 hSw; obtain ⟨s0, s1⟩ := hSw; go_simp; try with_reducible rfl)
    simp only [Act.put, List.setIfInBounds_toArray, List.set_cons_zero, List.set_cons_succ, List.getElem_toArray, List.getElem_cons_succ, List.getElem_cons_zero]
    refine held2.wpLeft.take (i := 12) (v := ?_) rfl (by kernel_rfl) (by kernel_rfl) (by kernel_rfl) (by kernel_rfl) (fun _ _ => Iff.rfl) (fun _ _ _ h => h) (by rfl) ?_ hS8 ?_
    rotate_left
    · (intro w l hl1 hl2 hSw; obtain ⟨s0, s1⟩ := hSw; go_simp; try with_reducible rfl)
    simp only [Act.put, List.setIfInBounds_toArray, List.set_cons_zero, List.set_cons_succ, List.getElem_toArray, List.getElem_cons_succ, List.getElem_cons_zero]
    refine held2.wpLeft.take (i := 13) (v := ?_) rfl (by kernel_rfl) (by kernel_rfl) (by kernel_rfl) (by kernel_rfl) (fun _ _ => Iff.rfl) (fun _ _ _ h => h) (by rfl) ?_ hS8 ?_
    rotate_left
    · (intro w l hl1 hl2 hSw; obtain ⟨s0, s1⟩ := hSw; go_simp; try with_reducible rfl)
    simp only [Act.put, List.setIfInBounds_toArray, List.set_cons_zero, List.set_cons_succ, List.getElem_toArray, List.getElem_cons_succ, List.getElem_cons_zero]
    refine held2.wpLeft.take (i := 14) (v := ?_) rfl (by kernel_rfl) (by kernel_rfl) (by kernel_rfl) (by kernel_rfl) (fun _ _ => Iff.rfl) (fun _ _ _ h => h) (by rfl) ?_ hS8 ?_
    rotate_left
    · (intro w l hl1 hl2 hSw; obtain ⟨s0, s1⟩ := hSw; go_simp; try with_reducible rfl)
    simp only [Act.put, List.setIfInBounds_toArray, List.set_cons_zero, List.set_cons_succ, List.getElem_toArray, List.getElem_cons_succ, List.getElem_cons_zero]
    refine held2.wpLeft.take (i := 15) (v := ?_) rfl (by kernel_rfl) (by kernel_rfl) (by kernel_rfl) (by kernel_rfl) (fun _ _ => Iff.rfl) (fun _ _ _ h => h) (by rfl) ?_ hS8 ?_
    rotate_left
    · (intro w l hl1 hl2 hSw; obtain ⟨s0, s1⟩ := hSw; go_simp; try with_reducible rfl)
    simp only [Act.put, List.setIfInBounds_toArray, List.set_cons_zero, List.set_cons_succ, List.getElem_toArray, List.getElem_cons_succ, List.getElem_cons_zero]
    refine held2.wpLeft.done (by kernel_rfl) ?_
    have hne := quoteB.nneqE (ad 0)
    have hsy : w2.cell? ⟨2, 0, none⟩ = some (ev (ad 0)) := HG2.out.err.glob 0 (by decide)
    rw [hst] at HKR
    have hkr : kr = (1, ByteArray.empty, []) := HKR.out
    clear HKR
    go_wp2
    go_ret
    refine ⟨HN2.out, .inl ?_⟩
    rw [hkr]
    exact ⟨by decide, rfl⟩
  | some q =>
    obtain ⟨x, k⟩ := q
    rw [hst] at HKR
    have hsl := jsonQ.stk_len hst
    have hul : u.length = s.size - p1 := by rw [← HDR.out, List.length_drop, Array.length_toList, ByteArray.size_data]
    have hpk : p1 + k ≤ s.size := by omega
    have hxs : x.length ≤ 1000000 := by omega
    have HST := Lib.hid hst
    clear hst hul hsl
    simp only [quoteB.tkV]
    refine held2.wpLeft.take (i := 9) (v := ?_) rfl (by kernel_rfl) (by kernel_rfl) (by kernel_rfl) (by kernel_rfl) (fun _ _ => Iff.rfl) (fun _ _ _ h => h) (by rfl) ?_ hS8 ?_
    rotate_left
    · (intro w l hl1 hl2 hSw; obtain ⟨s0, s1⟩ := hSw; go_simp; try with_reducible rfl)
    simp only [Act.put, List.setIfInBounds_toArray, List.set_cons_zero, List.set_cons_succ, List.getElem_toArray, List.getElem_cons_succ, List.getElem_cons_zero]
    refine held2.wpLeft.take (i := 10) (v := ?_) rfl (by kernel_rfl) (by kernel_rfl) (by kernel_rfl) (by kernel_rfl) (fun _ _ => Iff.rfl) (fun _ _ _ h => h) (by rfl) ?_ hS8 ?_
    rotate_left
    · (intro w l hl1 hl2 hSw; obtain ⟨s0, s1⟩ := hSw; go_simp; try with_reducible rfl)
    simp only [Act.put, List.setIfInBounds_toArray, List.set_cons_zero, List.set_cons_succ, List.getElem_toArray, List.getElem_cons_succ, List.getElem_cons_zero]
    refine held2.wpLeft.take (i := 11) (v := ?_) rfl (by kernel_rfl) (by kernel_rfl) (by kernel_rfl) (by kernel_rfl) (fun _ _ => Iff.rfl) (fun _ _ _ h => h) (by rfl) ?_ hS8 ?_
    rotate_left
    · (intro w l hl1 hl2 hSw; obtain ⟨s0, s1⟩ := hSw; go_simp; try with_reducible rfl)
    simp only [Act.put, List.setIfInBounds_toArray, List.set_cons_zero, List.set_cons_succ, List.getElem_toArray, List.getElem_cons_succ, List.getElem_cons_zero]
    refine held2.wpLeft.take (i := 12) (v := ?_) rfl (by kernel_rfl) (by kernel_rfl) (by kernel_rfl) (by kernel_rfl) (fun _ _ => Iff.rfl) (fun _ _ _ h => h) (by rfl) ?_ hS8 ?_
    rotate_left
    · (intro w l hl1 hl2 hSw; obtain ⟨s0, s1⟩ := hSw; go_simp; try with_reducible rfl)
    simp only [Act.put, List.setIfInBounds_toArray, List.set_cons_zero, List.set_cons_succ, List.getElem_toArray, List.getElem_cons_succ, List.getElem_cons_zero]
    refine held2.wpLeft.take (i := 13) (v := ?_) rfl (by kernel_rfl) (by kernel_rfl) (by kernel_rfl) (by kernel_rfl) (fun _ _ => Iff.rfl) (fun _ _ _ h => h) (by rfl) ?_ hS8 ?_
    rotate_left
    · (intro w l hl1 hl2 hSw; obtain ⟨s0, s1⟩ := hSw; go_simp; try with_reducible rfl)
    simp only [Act.put, List.setIfInBounds_toArray, List.set_cons_zero, List.set_cons_succ, List.getElem_toArray, List.getElem_cons_succ, List.getElem_cons_zero]
    refine held2.wpLeft.take (i := 14) (v := ?_) rfl (by kernel_rfl) (by kernel_rfl) (by kernel_rfl) (by kernel_rfl) (fun _ _ => Iff.rfl) (fun _ _ _ h => h) (by rfl) ?_ hS8 ?_
    rotate_left
    · (intro w l hl1 hl2 hSw; obtain ⟨s0, s1⟩ := hSw; go_simp; try with_reducible rfl)
    simp only [Act.put, List.setIfInBounds_toArray, List.set_cons_zero, List.set_cons_succ, List.getElem_toArray, List.getElem_cons_succ, List.getElem_cons_zero]
    refine held2.wpLeft.take (i := 15) (v := ?_) rfl (by kernel_rfl) (by kernel_rfl) (by kernel_rfl) (by kernel_rfl) (fun _ _ => Iff.rfl) (fun _ _ _ h => h) (by rfl) ?_ hS8 ?_
    rotate_left
    · (intro w l hl1 hl2 hSw; obtain ⟨s0, s1⟩ := hSw; go_simp; try with_reducible rfl)
    simp only [Act.put, List.setIfInBounds_toArray, List.set_cons_zero, List.set_cons_succ, List.getElem_toArray, List.getElem_cons_succ, List.getElem_cons_zero]
    refine held2.wpLeft.done (by kernel_rfl) ?_
    have hne := quoteB.nneqN
    have hkI : (p1 : Int) + (k : Int) ≤ 1000000 := by omega
    have hkI0 : (0 : Int) ≤ (p1 : Int) + (k : Int) := by omega
    have z1 := g4 1
    clear hS7 hS8 f0 f1 g0 g2 g3 g4 HM1 HN1 HG1 HGd HTK HTO
    go_wp2
    have hM3 : RM (w2.setCell ⟨rb, 1, none⟩ (.int .i64 ((p1 : Int) + (k : Int)))) B rb s (p1 + k) n (d + 1) fr F P := HM2.out.setP (p1 + k)
    have HN3 := Lib.hid (HN2.out.set 1 (.int .i64 ((p1 : Int) + (k : Int))))
    generalize w2.setCell ⟨rb, 1, none⟩ (.int .i64 ((p1 : Int) + (k : Int))) = w3 at *
    obtain ⟨g, cap, hv, hgB, hgl, hc1, hc2, hcell, hfz⟩ := hM3.top (by omega)
    have f3 := hM3.field.2.2.2.1
    rw [hv] at f3
    have HV := Lib.hid hv
    have HM3 := Lib.hid hM3
    have hdI : IntKind.i64.wrap (d : Int) = (d : Int) := IntWalk.i64_in _ (by omega)
    have hd0 : (0 : Int) ≤ (d : Int) := by omega
    have hd1 : (d : Int) < (d : Int) + 1 := by omega
    have hd2 : d < d + 1 := by omega
    clear hM3 hv hcell hfz g1 z1 HM2 HN2 HG2 hkI hkI0
    go_quiet (fail)
    have hM4 := HM3.out.new (Go.Joins.below_draws w3.heap.size w3 nq)
    have HN4 := Lib.hid (HN3.out.trans (Near.below (rb := rb) (Go.Joins.below_draws B w3 nq)))
    generalize w3.drewN nq = w4 at *
    obtain ⟨g', cap', hv', _, hgl4, _, _, hcell4, hfz4⟩ := hM4.top (by omega)
    rw [HV.out] at hv'
    cases hv'
    obtain ⟨mb, hsm⟩ := (hM4.sen d (by omega)).1 ho
    have hmo := hM4.own.1 (.seen d)
    rw [hsm] at hmo
    have hmown : w4.ownsMap Tryd.prog 9 (plainElem Tryd.prog 3) mb (fr d).keys.length (seenD (fr d).keys) := hmo.2
    have hmB : B ≤ mb := hmo.1
    have q5 := hcell4 d 5 (by omega) (by omega)
    rw [show (fcells fr F d)[5]? = some (F (.seen d)).val from rfl, hsm] at q5
    change w4.cell? _ = some (.map (some mb)) at q5
    obtain ⟨kv, hkv⟩ := hM4.kys d (by omega)
    have hko := hM4.own.1 (.keys d)
    rw [hkv] at hko
    have hkown : w4.ownsRow B 9 1 kv (fr d).keys.length ((fr d).keys.map Value.string) := hko
    obtain ⟨ak, ck, hkf⟩ := row_form hkown
    subst hkf
    have q3 := hcell4 d 3 (by omega) (by omega)
    rw [show (fcells fr F d)[3]? = some (F (.keys d)).val from rfl, hkv] at q3
    change w4.cell? _ = some (.slice ak (fr d).keys.length ck) at q3
    have zz3 := hfz4 (d * 6 + 3)
    have hblkK : (F (.keys d)).blk = (Value.slice ak (fr d).keys.length ck).ownBlock := by rw [hkv]; rfl
    have hblkO : (F .opn).blk = some g := by obtain ⟨ov, ho'⟩ := hM4.opn; have hv := HV.out; rw [ho'] at hv ⊢; have : ov = _ := hv; rw [this]; rfl
    have hblkM : (F (.seen d)).blk = some mb := by rw [hsm]; rfl
    have HNE : Hid (g ≠ mb ∧ (Value.slice ak (fr d).keys.length ck).ownBlock ≠ some mb ∧ (Value.slice ak (fr d).keys.length ck).ownBlock ≠ some g) := Lib.hid ⟨fun e => (by have := hM4.own.2 .opn (.seen d) g hblkO (by rw [hblkM, e]); cases this), fun e => (by have := hM4.own.2 (.keys d) (.seen d) mb (hblkK.trans e) hblkM; cases this), fun e => (by have := hM4.own.2 (.keys d) .opn g (hblkK.trans e) hblkO; cases this)⟩
    have HM4 := Lib.hid hM4
    have HG4 := Lib.hid (HG.out.near HN4.out hrB)
    have hXd : Hid ((⟨x.toArray⟩ : ByteArray).size ≤ maxLen) := Lib.hid (by
      have : (⟨x.toArray⟩ : ByteArray).size = x.length := by simp [ByteArray.size]
      rw [this]; unfold maxLen; omega)
    generalize (⟨x.toArray⟩ : ByteArray) = X at *
    have hkey : keyOf Tryd.prog 9 (.string X) = some (.string X.data.toList) := keyOf_string_mk Tryd.underlying9 hXd.out
    obtain ⟨c, hrun, hat, _⟩ := hmown.lookup_int law Tryd.underlying52 Tryd.underlying3 (zeroI _) hkey
    have hsy : w4.cell? ⟨1, 0, none⟩ = some (ev (ad 4)) := HG4.out.err.glob 4 (by decide)
    have HHMO := Lib.hid hmown
    have HKO := Lib.hid hkown
    have HSM := Lib.hid hsm
    have HKV := Lib.hid hkv
    clear hM4 hmo hko hkown hcell4 hfz4 hsm hkv hblkK hblkO hblkM f3 HM3 HN3
    generalize hnk : (fr d).keys.length = nk at *
    have HNK := Lib.hid hnk
    clear hnk
    by_cases hin : X ∈ (fr d).keys
    · have hc1' : c = 1 := by rw [seen_yes hin] at hat; simpa using hat.symm
      subst hc1'
      have hkr : kr = (5, ByteArray.empty, []) := by rw [HKR.out, if_pos (inK_iff.2 hin)]
      clear hat hkey hmown
      go_wp2
      go_ret
      refine ⟨HN4.out, .inl ?_⟩
      rw [hkr]
      exact ⟨by decide, rfl⟩
    · have hc0 : c = 0 := by rw [seen_no hin] at hat; simpa using hat.symm
      subst hc0
      have hni : ¬ inK X (fr d).keys = true := fun h => hin (inK_iff.1 h)
      rw [if_neg hni] at HKR
      clear hat hni
      go_wp2_with (at_mapUpdate; refine wpList_mapUpdate_own _ rfl _ _ _ 52 rfl 9 3 law Tryd.underlying52 _ mb nk _ rfl hmown (by unfold maxLen; omega) _ _ _ rfl rfl hkey _ [] (plainElem_int Tryd.underlying3 (by decide)) ?_)
      intro w5 hown5 hgrow5
      have hmap5 : w5.ownsMap Tryd.prog 9 (plainElem Tryd.prog 3) mb (nk + 1) (seenD ((fr d).keys ++ [X])) := by rw [seenD_snoc]; exact hown5
      have HMP5 := Lib.hid hmap5
      have HGR5 := Lib.hid hgrow5
      have q3' := hgrow5.cell q3 (fun e => HNE.out.1 (Option.some.inj e))
      have zz3' := (hgrow5.frozen_far ⟨g, d * 6 + 3, none⟩ hgl4 (fun e => HNE.out.1 (Option.some.inj e))).trans zz3
      have hk5 : w5.ownsRow B 9 1 (.slice ak nk ck) nk ((fr d).keys.map Value.string) := World.ownsRow.kept HKO.out hgrow5 (.inr HNE.out.2.1)
      have hs5 := hgrow5.size
      have hB5 : B ≤ w5.heap.size := Nat.le_trans HM4.out.hB.2 hs5
      have hgl5 : g < w5.heap.size := by omega
      have HK5 := Lib.hid hk5
      obtain ⟨i0, hi, hz0, hz1, hz2⟩ := info_parts infoS
      clear hmown hown5 hgrow5 hmap5 hk5 q3 zz3 q5 hrun hkey HHMO
      go_wp2_with (at_builtin; refine wpList_append_own_at _ rfl _ _ 24 rfl B 9 i0 (.string ⟨#[]⟩) 1 16 Tryd.underlying24 hi hz0 hz1 hz2 rfl (by decide) (.slice ak nk ck) nk ((fr d).keys.map Value.string) rfl ?c0 ⟨w5.heap.size, 0, none⟩ 1 1 [.string X] rfl rfl ?c1 ?c2 ?c3 ?c4 ?c5 ?_)
      case c0 => exact HK5.out.alloc _
      case c1 => exact cell_one_new _ _ _
      case c2 => simp [Value.oneCell']
      case c3 => unfold maxLen; omega
      case c4 => omega
      case c5 => simp; omega
      intro v' w6 hown6 hgrow6 _ hat6
      have hba : Below w5.heap.size w5 (w5.alloc (.cells #[.string X] 9)) := (Below.refl _ _).alloc (Nat.le_refl _) _
      have q6 := hgrow6.cell ((hba.cell (p := ⟨g, d * 6 + 3, none⟩) hgl5).trans q3') (fun e => HNE.out.2.2 e.symm)
      have zz6 := ((hgrow6.frozen_far ⟨g, d * 6 + 3, none⟩ (by simp; omega) (fun e => HNE.out.2.2 e.symm)).trans (hba.frozen (p := ⟨g, d * 6 + 3, none⟩) hgl5)).trans zz3'
      obtain ⟨a6, c6, hv6⟩ := row_form hown6
      subst hv6
      have HO6 := Lib.hid hown6
      have HGR6 := Lib.hid hgrow6
      have HAT6 := Lib.hid hat6
      have HBA := Lib.hid hba
      have hgl6 : g < w6.heap.size := by have := hgrow6.size; simp at this; omega
      clear hown6 hgrow6 hat6 q3' zz3' hba
      obtain ⟨F7, hM7⟩ := jsonO.RM.addKey HM4.out ho HV.out hXd.out (by rw [HNK.out]; exact HSM.out) (by rw [HNK.out]; exact HMP5.out) HGR5.out HBA.out (by rw [HNK.out]; exact HKV.out) (by rw [HNK.out]; exact HO6.out) HGR6.out (by
        rcases HAT6.out with e | e
        · exact .inl e
        · exact .inr ⟨_, e, by simp⟩)
      have hN7 := (((HN4.out.trans (Near.grown (rb := rb) HGR5.out HM4.out.hB.2 (fun c e => by cases e; exact .inl hmB))).trans (Near.below (rb := rb) (HBA.out.mono hB5))).trans (Near.grown (rb := rb) HGR6.out (by simp; omega) (fun c e => .inl ((World.ownsRow.lt HK5.out c e).1)))).setB hgB (d * 6 + 3) (.slice a6 (nk + 1) c6)
      have HM7 := Lib.hid hM7
      have HN7 := Lib.hid hN7
      have HBL7 := Lib.hid (blanks_any _ B rb s (p1 + k) n (d + 1) _ F7 P hM7 (by omega) hs)
      have hdk : s.data.toList.drop (p1 + k) = u.drop k := by rw [← HDR.out, List.drop_drop]
      have HDK := Lib.hid hdk
      clear hM7 hN7 hdk
      go_wp2_with fail
      refine HBL7.out.mono ?_
      rintro e w8 ⟨he, p8, hp8, hp8s, hdr8, hM8, hN8⟩
      rw [HDK.out] at he hdr8
      generalize bs (u.drop k) = v8 at *
      generalize hok : decide (v8 ≠ []) = okb at he
      generalize hcc : hd v8 = cc at he
      subst he
      have HN8 := Lib.hid (HN7.out.trans hN8)
      have HM8 := Lib.hid hM8
      have HG8 := Lib.hid (HG.out.near HN8.out hrB)
      have hsy : w8.cell? ⟨2, 0, none⟩ = some (ev (ad 0)) := HG8.out.err.glob 0 (by decide)
      obtain ⟨g0, g1, g2, g3, g4⟩ := hM8.field
      have z1 := g4 1
      have HDR8 := Lib.hid hdr8
      clear hM8 hN8 g0 g2 g3 g4 hdr8
      clear HBL7
      by_cases h58 : okb = true ∧ cc = 58
      · obtain ⟨rfl, rfl⟩ := h58
        have hv8 : v8 ≠ [] := by simpa using hok
        have hkr : kr = (0, X, v8.tail) := by rw [HKR.out, if_neg (by rintro (h | h); exact hv8 h; exact h hcc)]
        have hlen : s.size - p8 = v8.length := by rw [← HDR8.out, List.length_drop, Array.length_toList, ByteArray.size_data]
        have hpos : 0 < v8.length := List.length_pos_iff.2 hv8
        have hp9 : p8 + 1 ≤ s.size := by omega
        have HFN : Hid (s.data.toList.drop (p8 + 1) = v8.tail) := Lib.hid (by rw [← HDR8.out, List.tail_drop])
        have hM9 := HM8.out.setP (p8 + 1)
        have hN9 := HN8.out.set 1 (.int .i64 ((p8 + 1 : Nat) : Int))
        have HM9 := Lib.hid hM9
        have HN9 := Lib.hid hN9
        have hp8I : (p8 : Int) + 1 ≤ 1000000 := by omega
        clear hM9 hN9 HKR hok hcc hv8 hlen hpos
        go_wp2
        go_ret
        refine ⟨HN9.out, .inr ?_⟩
        rw [hkr]
        exact ⟨rfl, rfl, p8 + 1, F7, hp9, HFN.out, HM9.out⟩
      · have hkr : kr = (1, ByteArray.empty, []) := by
          rw [HKR.out, if_pos]
          by_cases hv8 : v8 = []
          · exact .inl hv8
          · exact .inr (fun h => h58 ⟨by rw [← hok]; simpa using hv8, hcc.symm.trans h⟩)
        cases okb
        · clear HKR hok hcc h58
          go_wp2
          go_ret
          refine ⟨HN8.out, .inl ?_⟩
          rw [hkr]
          exact ⟨by decide, rfl⟩
        · have hne58 : ¬ ((cc : Int) = 58) := fun h => h58 ⟨rfl, by omega⟩
          clear HKR hok hcc h58
          go_wp2
          go_ret
          refine ⟨HN8.out, .inl ?_⟩
          rw [hkr]
          exact ⟨by decide, rfl⟩
end Go.Proofs.YtdbidkfjbhclcaaDoor.jsonF
