/-
  Contracts of (*reader).within, closing, leave.
-/
import Derived.Test.YtdbidkfjbhclcaaDoorJsonA
namespace Go.Proofs.YtdbidkfjbhclcaaDoor.jsonB
open Go.ChangeShapes Go.WideShapes Go.ChangeAt Go.RowKit Go.WideMaps Go.Maps nodeP nodeQ nodeS ownI jsonP jsonM jsonN jsonO jsonA
set_option linter.unusedSimpArgs false
set_option linter.unusedVariables false

theorem ret_int {k : IntKind} {a b : Int} (h : a = b) : Ending.returned (.int k a) = .returned (.int k b) := by rw [h]
theorem row_form {w : World} {B : Nat} {e : TypeId} {sz : Nat} {v : Value} {n : Nat} {xs : List Value} (h : w.ownsRow B e sz v n xs) : ∃ ao c, v = .slice ao n c := by
  rcases h.2 with ⟨rfl, rfl⟩ | ⟨g, cap, cur, rfl, _⟩
  · exact ⟨none, 0, rfl⟩
  · exact ⟨_, cap, rfl⟩
theorem key_form {w : World} {B rb : Nat} {s : ByteArray} {p n d : Nat} {fr : Nat → Fr} {F : Ix → Thing} {P : Nat → Prop} (h : RM w B rb s p n d fr F P) {i : Nat} (hi : i < d) : ∃ ao c, (F (.keys i)).val = .slice ao (fr i).keys.length c := by
  obtain ⟨v, e⟩ := h.kys i hi
  have := h.own.1 (.keys i)
  rw [e] at this ⊢
  exact row_form this
theorem kid_form {w : World} {B rb : Nat} {s : ByteArray} {p n d : Nat} {fr : Nat → Fr} {F : Ix → Thing} {P : Nat → Prop} (h : RM w B rb s p n d fr F P) {i : Nat} (hi : i < d) : ∃ ao c, (F (.kids i)).val = .slice ao (fr i).kids.length c := by
  obtain ⟨v, ls, e, _⟩ := h.kds i hi
  have := h.own.1 (.kids i)
  rw [e] at this ⊢
  exact row_form this
theorem set1_grown (w : World) (b j : Nat) (x : Value) : w.grownBy (w.setCell ⟨b, j, none⟩ x) (some b) := ⟨rfl, rfl, rfl, by simp, fun k _ hk => Below.heap_setCell _ _ _ _ (by intro e; exact hk (by rw [e]))⟩
theorem grown_same {a b c : World} {r : Option Nat} (h : a.grownBy b r) (k : b.grownBy c r) : a.grownBy c r :=
  ⟨k.os.trans h.os, k.tape.trans h.tape, k.output.trans h.output, Nat.le_trans h.size k.size, fun j hj hne => (k.block j (Nat.lt_of_lt_of_le hj h.size) hne).trans (h.block j hj hne)⟩
theorem set5_grown (w : World) (b : Nat) (x0 x1 x2 x3 x4 : Value) : w.grownBy (((((w.setCell ⟨b, 0, none⟩ x0).setCell ⟨b, 1, none⟩ x1).setCell ⟨b, 2, none⟩ x2).setCell ⟨b, 3, none⟩ x3).setCell ⟨b, 4, none⟩ x4) (some b) :=
  grown_same (grown_same (grown_same (grown_same (set1_grown _ _ _ _) (set1_grown _ _ _ _)) (set1_grown _ _ _ _)) (set1_grown _ _ _ _)) (set1_grown _ _ _ _)
theorem set5_whole {w : World} {b : Nat} {t : TypeId} {a0 a1 a2 a3 a4 : Value} (h : Whole w b t [a0, a1, a2, a3, a4]) (x0 x1 x2 x3 x4 : Value) : Whole (((((w.setCell ⟨b, 0, none⟩ x0).setCell ⟨b, 1, none⟩ x1).setCell ⟨b, 2, none⟩ x2).setCell ⟨b, 3, none⟩ x3).setCell ⟨b, 4, none⟩ x4) b t [x0, x1, x2, x3, x4] :=
  ((((((h.set 0 x0).1.set 1 x1).1).set 2 x2).1.set 3 x3).1.set 4 x4).1
theorem whole5 {w : World} {b : Nat} {t : TypeId} {a0 a1 a2 a3 a4 : Value} (h : Whole w b t [a0, a1, a2, a3, a4]) : w.cell? ⟨b, 0, none⟩ = some a0 ∧ w.cell? ⟨b, 1, none⟩ = some a1 ∧ w.cell? ⟨b, 2, none⟩ = some a2 ∧ w.cell? ⟨b, 3, none⟩ = some a3 ∧ w.cell? ⟨b, 4, none⟩ = some a4 := ⟨h.cell 0, h.cell 1, h.cell 2, h.cell 3, h.cell 4⟩
/-- a call that reads -/
def Rd (B rb : Nat) (s : ByteArray) (p n d : Nat) (fr : Nat → Fr) (F : Ix → Thing) (P : Nat → Prop) (v : Value) (w : World) (e : Ending) (w' : World) : Prop := e = .returned v ∧ RM w' B rb s p n d fr F P ∧ Near B rb w w'

set_option maxRecDepth 100000 in
set_option maxHeartbeats 1000000 in
theorem within_any (w : World) (B rb : Nat) (s : ByteArray) (p n d : Nat) (fr : Nat → Fr) (F : Ix → Thing) (P : Nat → Prop) (h : RM w B rb s p n (d + 1) fr F P) (hd : d ≤ 32) :
    Calls Tryd.prog 41 #[.pointer (some ⟨rb, 0, none⟩)] w (Rd B rb s p n (d + 1) fr F P (.int .i64 (kindOf (fr d))) w) := by
  have HM := Lib.hid h
  obtain ⟨g, cap, hv, hgB, hgl, hc1, hc2, hcell, _⟩ := h.top (by omega)
  have f3 := h.field.2.2.2.1
  rw [hv] at f3
  have q := hcell d 0 (by omega) (by omega)
  rw [show (fcells fr F d)[0]? = some (.int .i64 (kindOf (fr d))) from rfl] at q
  rw [Nat.add_zero] at q
  generalize kindOf (fr d) = k at *
  have hdI : IntKind.i64.wrap (d : Int) = (d : Int) := IntWalk.i64_in _ (by omega)
  have hd0 : (0 : Int) ≤ (d : Int) := by omega
  have hd1 : (d : Int) < (d : Int) + 1 := by omega
  have hd2 : d < d + 1 := by omega
  clear h hcell hv
  go_enter Tryd.func41, Tryd.ntmps41
  go_wp2
  go_quiet (fail)
  have HM1 := Lib.hid (HM.out.new (Go.Joins.below_draws w.heap.size w nq))
  have HN1 := Lib.hid (Near.below (rb := rb) (Go.Joins.below_draws B w nq))
  generalize w.drewN nq = w1 at *
  clear HM q f3
  go_wp2
  go_ret
  exact ⟨rfl, HM1.out, HN1.out⟩

set_option maxRecDepth 100000 in
theorem closing_any (w : World) (B rb : Nat) (s : ByteArray) (p n d : Nat) (fr : Nat → Fr) (F : Ix → Thing) (P : Nat → Prop) (h : RM w B rb s p n (d + 1) fr F P) (hd : d ≤ 32) :
    Calls Tryd.prog 39 #[.pointer (some ⟨rb, 0, none⟩)] w (Rd B rb s p n (d + 1) fr F P (.int .u8 ((fr d).close : Nat)) w) := by
  have HW := Lib.hid (within_any w B rb s p n d fr F P h hd)
  clear h
  cases ho : (fr d).obj
  · have HE : Hid (((fr d).close : Nat) = 93) := Lib.hid (by unfold Fr.close; rw [ho]; rfl)
    have hk : kindOf (fr d) = 6 := by unfold kindOf; rw [ho]; rfl
    rw [hk] at HW
    clear ho hk
    go_enter Tryd.func39, Tryd.ntmps39
    go_wp2_with fail
    refine HW.out.mono ?_
    rintro e w1 ⟨rfl, hM, hN⟩
    have HM := Lib.hid hM
    have HN := Lib.hid hN
    clear hM hN HW
    go_wp2
    go_ret
    exact ⟨by rw [HE.out]; rfl, HM.out, HN.out⟩
  · have HE : Hid (((fr d).close : Nat) = 125) := Lib.hid (by unfold Fr.close; rw [ho]; rfl)
    have hk : kindOf (fr d) = 7 := by unfold kindOf; rw [ho]; rfl
    rw [hk] at HW
    clear ho hk
    go_enter Tryd.func39, Tryd.ntmps39
    go_wp2_with fail
    refine HW.out.mono ?_
    rintro e w1 ⟨rfl, hM, hN⟩
    have HM := Lib.hid hM
    have HN := Lib.hid hN
    clear hM hN HW
    go_wp2
    go_ret
    exact ⟨by rw [HE.out]; rfl, HM.out, HN.out⟩

/-- a node is handed back, and a frame is gone -/
def LvP (B rb : Nat) (s : ByteArray) (p n d : Nat) (fr : Nat → Fr) (P : Nat → Prop) (w : World) (e : Ending) (w' : World) : Prop :=
  ∃ cs F' P', e = .returned (.agg cs) ∧ RM w' B rb s (p + 1) n d fr F' P' ∧ NodeIn w' P' (fr d).node cs.toList ∧ Near B rb w w'

set_option maxRecDepth 100000 in
set_option maxHeartbeats 4000000 in
theorem leave_any (w : World) (B rb : Nat) (s : ByteArray) (p n d : Nat) (fr : Nat → Fr) (F : Ix → Thing) (P : Nat → Prop) (h : RM w B rb s p n (d + 1) fr F P) (hd : d ≤ 32) (hp : p ≤ 1000000) (hsm : (fr d).keys.length ≤ maxLen ∧ (fr d).kids.length ≤ maxLen) :
    Calls Tryd.prog 40 #[.pointer (some ⟨rb, 0, none⟩)] w (LvP B rb s p n d fr P w) := by
  have hs0 := h.hB
  have HLT : Hid (∀ b, (P b ∨ ∃ k, (F k).blk = some b) → b < w.heap.size) := Lib.hid (fun b hb => by
    rcases hb with hb | ⟨k, hb⟩
    · exact (h.sealed' b hb).2.1
    · exact (h.blkB k b hb).2)
  have HBB := Lib.hid hs0.2
  have hMa := h.new ((Below.refl w.heap.size w).alloc (Nat.le_refl _) (.cells #[.int .i64 0, .int .i64 0, .string ⟨#[]⟩, .slice none 0 0, .slice none 0 0] 26))
  have hNa : Near B rb w (w.alloc (.cells #[.int .i64 0, .int .i64 0, .string ⟨#[]⟩, .slice none 0 0, .slice none 0 0] 26)) := Near.below ((Below.refl B w).alloc hs0.2 _)
  have hWa := Whole.new w 26 [.int .i64 0, .int .i64 0, .string ⟨#[]⟩, .slice none 0 0, .slice none 0 0]
  change Whole (w.alloc (.cells #[.int .i64 0, .int .i64 0, .string ⟨#[]⟩, .slice none 0 0, .slice none 0 0] 26)) _ _ _ at hWa
  have ga := hMa.field.2.1
  have za := hMa.field.2.2.2.2 1
  have HMa := Lib.hid hMa
  have HNa := Lib.hid hNa
  have HWa := Lib.hid hWa
  have hbs : w.heap.size ≠ rb := by omega
  clear h hMa hNa hWa
  go_enter Tryd.func40, Tryd.ntmps40
  go_wp2
  have hM1 := HMa.out.setP (p + 1)
  have hN1 := HNa.out.set 1 (.int .i64 ((p + 1 : Nat) : Int))
  have hW1 := HWa.out.kept (HMa.out.obj.set 1 (.int .i64 ((p + 1 : Nat) : Int))).2 (fun e => by cases e; exact hbs rfl)
  change RM ((w.alloc (.cells #[.int .i64 0, .int .i64 0, .string ⟨#[]⟩, .slice none 0 0, .slice none 0 0] 26)).setCell ⟨rb, 1, none⟩ (.int .i64 ((p : Int) + 1))) _ _ _ _ _ _ _ _ _ at hM1
  change Near B rb w ((w.alloc (.cells #[.int .i64 0, .int .i64 0, .string ⟨#[]⟩, .slice none 0 0, .slice none 0 0] 26)).setCell ⟨rb, 1, none⟩ (.int .i64 ((p : Int) + 1))) at hN1
  change Whole ((w.alloc (.cells #[.int .i64 0, .int .i64 0, .string ⟨#[]⟩, .slice none 0 0, .slice none 0 0] 26)).setCell ⟨rb, 1, none⟩ (.int .i64 ((p : Int) + 1))) _ _ _ at hW1
  generalize (w.alloc (.cells #[.int .i64 0, .int .i64 0, .string ⟨#[]⟩, .slice none 0 0, .slice none 0 0] 26)).setCell ⟨rb, 1, none⟩ (.int .i64 ((p : Int) + 1)) = w1 at *
  clear HMa HNa HWa ga za
  have HM1 := Lib.hid hM1
  have HN1 := Lib.hid hN1
  have HW1 := Lib.hid hW1
  obtain ⟨g, cap, hv, hgB, hgl, hc1, hc2, hcell, hfz⟩ := hM1.top (by omega)
  have HV := Lib.hid hv
  have f3 := hM1.field.2.2.2.1
  rw [hv] at f3
  have z3 := hM1.field.2.2.2.2 3
  have q0 := hcell d 0 (by omega) (by omega)
  have q1 := hcell d 1 (by omega) (by omega)
  have q2 := hcell d 2 (by omega) (by omega)
  have q3 := hcell d 3 (by omega) (by omega)
  have q4 := hcell d 4 (by omega) (by omega)
  rw [show (fcells fr F d)[0]? = some (.int .i64 (kindOf (fr d))) from rfl, Nat.add_zero] at q0
  rw [show (fcells fr F d)[1]? = some (.int .i64 0) from rfl] at q1
  rw [show (fcells fr F d)[2]? = some (.string ByteArray.empty) from rfl] at q2
  rw [show (fcells fr F d)[3]? = some (F (.keys d)).val from rfl] at q3
  rw [show (fcells fr F d)[4]? = some (F (.kids d)).val from rfl] at q4
  have hdI : IntKind.i64.wrap (d : Int) = (d : Int) := IntWalk.i64_in _ (by omega)
  have hd0 : (0 : Int) ≤ (d : Int) := by omega
  have hd1 : (d : Int) < (d : Int) + 1 := by omega
  have hd2 : d < d + 1 := by omega
  have hrl : rb < w1.heap.size := hM1.obj.lt
  obtain ⟨ak, ck, hfk⟩ := key_form hM1 (show d < d + 1 by omega)
  obtain ⟨ac, cc, hfc⟩ := kid_form hM1 (show d < d + 1 by omega)
  have HFK := Lib.hid hfk
  have HFC := Lib.hid hfc
  have HSM := Lib.hid hsm
  have hM1B := hM1.hB.2
  clear hM1 hN1 hW1 hcell hfz hv
  rw [hfk] at q3
  rw [hfc] at q4
  generalize hkk : kindOf (fr d) = kk at *
  have HKK := Lib.hid hkk
  clear hkk
  generalize hnk : (fr d).keys.length = nk at *
  generalize hnc : (fr d).kids.length = nc at *
  have HNK := Lib.hid hnk
  have HNC := Lib.hid hnc
  clear hnk hnc
  go_region
  have hb2 : Below w1.heap.size w1 (w1.alloc (.cells #[.int .i64 kk, .int .i64 0, .string ByteArray.empty, .slice ak nk ck, .slice ac nc cc] 26)).drew := ((Below.refl _ _).alloc (Nat.le_refl _) _).drew
  have hM2 := HM1.out.new hb2
  have hN2 := HN1.out.trans (Near.below (rb := rb) (hb2.mono hM1B))
  have hW2 := HW1.out.below hb2 HW1.out.lt
  have hX2 := (Whole.new w1 26 [.int .i64 kk, .int .i64 0, .string ByteArray.empty, .slice ak nk ck, .slice ac nc cc]).below (Below.refl (w1.heap.size + 1) _).drew (Nat.lt_succ_self _)
  change Whole (w1.alloc (.cells #[.int .i64 kk, .int .i64 0, .string ByteArray.empty, .slice ak nk ck, .slice ac nc cc] 26)).drew _ _ _ at hX2
  generalize (w1.alloc (.cells #[.int .i64 kk, .int .i64 0, .string ByteArray.empty, .slice ak nk ck, .slice ac nc cc] 26)).drew = w2 at *
  have HM2 := Lib.hid hM2
  have HN2 := Lib.hid hN2
  have HW2 := Lib.hid hW2
  have HX2 := Lib.hid hX2
  have f3' := hM2.field.2.2.2.1
  rw [HV.out] at f3'
  have z3' := hM2.field.2.2.2.2 3
  have hb3 : w1.heap.size ≠ rb := by omega
  have hb23 : w1.heap.size ≠ w.heap.size := by have := HW1.out.lt; omega
  have hdc : d ≤ cap := by omega
  have hdcI : (d : Int) ≤ (cap : Int) := by omega
  generalize w1.heap.size = b3 at *
  generalize w.heap.size = b2 at *
  clear HM1 HN1 HW1 hb2 hM2 hN2 hW2 hX2 f3 z3 q0 q1 q2 q3 q4
  go_wp2
  go_region
  obtain ⟨F4, P4, hM4, hnd, hP4, hP5, hF5⟩ := jsonN.RM.pop HM2.out HV.out (by rw [HNK.out, HNC.out]; exact HSM.out)
  rw [HFK.out, HFC.out, HKK.out] at hnd
  have hdrw : Below (w2.setCell ⟨rb, 3, none⟩ (.slice (some ⟨g, 0, none⟩) d cap)).heap.size (w2.setCell ⟨rb, 3, none⟩ (.slice (some ⟨g, 0, none⟩) d cap)) (w2.setCell ⟨rb, 3, none⟩ (.slice (some ⟨g, 0, none⟩) d cap)).drew := (Below.refl _ _).drew
  have hM5 := hM4.new hdrw
  have hn5 : NodeIn (w2.setCell ⟨rb, 3, none⟩ (.slice (some ⟨g, 0, none⟩) d cap)).drew P4 (fr d).node [.int .i64 kk, .int .i64 0, .string ByteArray.empty, .slice ak nk ck, .slice ac nc cc] := hnd.keep (fun _ h => h) (fun b hb => hdrw.block b (hM4.sealed' b hb).2.1)
  have hset := (HM2.out.obj.set 3 (.slice (some ⟨g, 0, none⟩) d cap)).2
  have hW5 := (HW2.out.kept hset (fun e => by cases e; exact hbs rfl)).below hdrw (by simpa using HW2.out.lt)
  have hX5 := (HX2.out.kept hset (fun e => by cases e; exact hb3 rfl)).below hdrw (by simpa using HX2.out.lt)
  have hN5 := (HN2.out.set 3 (.slice (some ⟨g, 0, none⟩) d cap)).trans (Near.below (rb := rb) (hdrw.mono (by have := hM4.hB.2; exact this)))
  generalize (w2.setCell ⟨rb, 3, none⟩ (.slice (some ⟨g, 0, none⟩) d cap)).drew = w4 at *
  have HM5 := Lib.hid hM5
  have HN5 := Lib.hid hN5
  have HND := Lib.hid hn5
  have HAP : Hid (b2 ≠ rb ∧ ¬ P4 b2 ∧ ∀ k, (F4 k).blk ≠ some b2) := Lib.hid ⟨hbs, fun h => Nat.lt_irrefl _ (HLT.out b2 (hP5 b2 h)), fun k hk => Nat.lt_irrefl _ (HLT.out b2 (.inr ⟨k, hF5 k b2 hk⟩))⟩
  have hB2 := HBB.out
  have a0 := hW5.cell 0
  have a1 := hW5.cell 1
  have a2 := hW5.cell 2
  have a3 := hW5.cell 3
  have a4 := hW5.cell 4
  simp only [List.getElem?_cons_zero, List.getElem?_cons_succ] at a0 a1 a2 a3 a4
  have y0 := hW5.frozen 0
  have y1 := hW5.frozen 1
  have y2 := hW5.frozen 2
  have y3 := hW5.frozen 3
  have y4 := hW5.frozen 4
  have e0 := hX5.cell 0
  have e1 := hX5.cell 1
  have e2 := hX5.cell 2
  have e3 := hX5.cell 3
  have e4 := hX5.cell 4
  simp only [List.getElem?_cons_zero, List.getElem?_cons_succ] at e0 e1 e2 e3 e4
  have HW5 := Lib.hid hW5
  clear hM4 hnd hP4 hP5 hF5 hdrw hM5 hn5 hset hW5 hX5 hN5 HM2 HN2 HW2 HX2 f3' z3'
  go_wp2
  have hG := set5_grown w4 b2 (.int .i64 kk) (.int .i64 0) (.string ByteArray.empty) (.slice ak nk ck) (.slice ac nc cc)
  have hW6 := set5_whole HW5.out (.int .i64 kk) (.int .i64 0) (.string ByteArray.empty) (.slice ak nk ck) (.slice ac nc cc)
  generalize ((((w4.setCell ⟨b2, 0, none⟩ (.int .i64 kk)).setCell ⟨b2, 1, none⟩ (.int .i64 0)).setCell ⟨b2, 2, none⟩ (.string ByteArray.empty)).setCell ⟨b2, 3, none⟩ (.slice ak nk ck)).setCell ⟨b2, 4, none⟩ (.slice ac nc cc) = w5 at *
  obtain ⟨k0, k1, k2, k3, k4⟩ := whole5 hW6
  refine bodyPost_ret (v := .agg #[.int .i64 kk, .int .i64 0, .string ByteArray.empty, .slice ak nk ck, .slice ac nc cc]) (by simp [results, Tryd.results40, go_sem, k0, k1, k2, k3, k4]) rfl ?_
  refine ⟨_, F4, P4, rfl, HM5.out.apart hG (fun c e => by cases e; exact HAP.out), HND.out.keep (fun _ h => h) (fun b hb => hG.block b (HM5.out.sealed' b hb).2.1 (fun e => by cases e; exact HAP.out.2.1 hb)), HN5.out.trans (Near.grown hG HM5.out.hB.2 (fun c e => by cases e; exact .inl HBB.out))⟩
end Go.Proofs.YtdbidkfjbhclcaaDoor.jsonB
