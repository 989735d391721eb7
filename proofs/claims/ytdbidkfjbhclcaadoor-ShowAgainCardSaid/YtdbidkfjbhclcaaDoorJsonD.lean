/-
  Contract of (*reader).add.
-/
import Derived.Test.YtdbidkfjbhclcaaDoorJsonC
import Derived.Test.YtdbidkfjbhclcaaDoorHeld2
namespace Go.Proofs.YtdbidkfjbhclcaaDoor.jsonD
open Go.ChangeShapes Go.WideShapes Go.ChangeAt Go.RowKit Go.WideMaps Go.Maps nodeP nodeQ nodeS ownI jsonP jsonM jsonN jsonO jsonA jsonB jsonC
set_option linter.unusedSimpArgs false
set_option linter.unusedVariables false

theorem infoN : (Tryd.prog.info? 26).map (fun i => (i.zero, i.size, i.bytes)) = some (some (.agg #[.int .i64 0, .int .i64 0, .string ⟨#[]⟩, .slice none 0 0, .slice none 0 0]), 5, 80) := by kernel_rfl
theorem node_form {w : World} {P : Nat → Prop} {x : Nd} {l : List Value} (h : NodeIn w P x l) : ∃ (k n : Int) (t : ByteArray) (a1 : Option Addr) (n1 c1 : Nat) (a2 : Option Addr) (n2 c2 : Nat), l = [.int .i64 k, .int .i64 n, .string t, .slice a1 n1 c1, .slice a2 n2 c2] := by
  cases h with
  | mk k n t ks cs kv ao cap b off ls hz hk hm ha hc hn =>
    obtain ⟨ak, ck, bk, ok, rfl, _⟩ := hk
    exact ⟨k, n, t, ak, _, ck, ao, _, cap, rfl⟩
theorem set5_row {w : World} {B : Nat} {e : TypeId} {g N cap q : Nat} {xs : List Value} {z0 z1 z2 z3 z4 : Value} (h : w.ownsRow B e 5 (.slice (some ⟨g, 0, none⟩) N cap) N (xs ++ [z0, z1, z2, z3, z4])) (hq : xs.length = q) (x0 x1 x2 x3 x4 : Value) :
    (((((w.setCell ⟨g, q, none⟩ x0).setCell ⟨g, q + 1, none⟩ x1).setCell ⟨g, q + 2, none⟩ x2).setCell ⟨g, q + 3, none⟩ x3).setCell ⟨g, q + 4, none⟩ x4).ownsRow B e 5 (.slice (some ⟨g, 0, none⟩) N cap) N (xs ++ [x0, x1, x2, x3, x4]) ∧
      w.grownBy (((((w.setCell ⟨g, q, none⟩ x0).setCell ⟨g, q + 1, none⟩ x1).setCell ⟨g, q + 2, none⟩ x2).setCell ⟨g, q + 3, none⟩ x3).setCell ⟨g, q + 4, none⟩ x4) (some g) := by
  subst hq
  have h4 := ((((h.stored xs.length x0).1.stored (xs.length + 1) x1).1.stored (xs.length + 2) x2).1.stored (xs.length + 3) x3).1.stored (xs.length + 4) x4
  refine ⟨?_, ?_⟩
  · have := h4.1
    rw [List.set_append_right _ _ (by simp), List.set_append_right _ _ (by simp), List.set_append_right _ _ (by simp), List.set_append_right _ _ (by simp), List.set_append_right _ _ (by simp)] at this
    simpa using this
  · exact grown_same (grown_same (grown_same (grown_same (set1_grown _ _ _ _) (set1_grown _ _ _ _)) (set1_grown _ _ _ _)) (set1_grown _ _ _ _)) (set1_grown _ _ _ _)

theorem swapCell (w : World) {a b : Nat} (i j : Nat) (x y : Value) (h : a ≠ b) : (w.setCell ⟨a, i, none⟩ x).setCell ⟨b, j, none⟩ y = (w.setCell ⟨b, j, none⟩ y).setCell ⟨a, i, none⟩ x := by
  unfold World.setCell
  congr 1
  apply Array.ext_getElem?
  intro k
  simp only [Array.getElem?_modify]
  by_cases h1 : b = k
  · subst h1
    rw [if_pos rfl, if_neg h, if_neg h, if_pos rfl]
  · rw [if_neg h1, if_neg h1]
theorem swap5 (w : World) {a b : Nat} (q i : Nat) (x0 x1 x2 x3 x4 y : Value) (h : a ≠ b) :
    ((((((w.setCell ⟨b, i, none⟩ y).setCell ⟨a, q, none⟩ x0).setCell ⟨a, q + 1, none⟩ x1).setCell ⟨a, q + 2, none⟩ x2).setCell ⟨a, q + 3, none⟩ x3).setCell ⟨a, q + 4, none⟩ x4) = (((((w.setCell ⟨a, q, none⟩ x0).setCell ⟨a, q + 1, none⟩ x1).setCell ⟨a, q + 2, none⟩ x2).setCell ⟨a, q + 3, none⟩ x3).setCell ⟨a, q + 4, none⟩ x4).setCell ⟨b, i, none⟩ y := by
  rw [swapCell w i q y x0 (Ne.symm h), swapCell _ i (q + 1) y x1 (Ne.symm h), swapCell _ i (q + 2) y x2 (Ne.symm h), swapCell _ i (q + 3) y x3 (Ne.symm h), swapCell _ i (q + 4) y x4 (Ne.symm h)]
theorem grown_two {a b c : World} {r : Option Nat} {g : Nat} (h : a.grownBy b r) (k : b.grownBy c (some g)) (hg : r = some g ∨ a.heap.size ≤ g) : a.grownBy c r :=
  ⟨k.os.trans h.os, k.tape.trans h.tape, k.output.trans h.output, Nat.le_trans h.size k.size, fun j hj hne => (k.block j (Nat.lt_of_lt_of_le hj h.size) (fun e => by
    rcases hg with hg | hg
    · exact hne (e.trans hg.symm)
    · have := Option.some.inj e; omega)).trans (h.block j hj hne)⟩
/-- what add has loaded has to stay: the node's box; the frame's cell up to the last store -/
def SD (g d fb nk cc : Nat) (ac : Option Addr) (k n0 : Int) (t : ByteArray) (a1 : Option Addr) (n1 c1 : Nat) (a2 : Option Addr) (n2 c2 : Nat) (l : Array Bool) (w' : World) : Prop :=
  (l.getD 14 false = false → w'.cell? ⟨g, d * 6 + 4, none⟩ = some (.slice ac nk cc)) ∧ w'.cell? ⟨fb, 0, none⟩ = some (.int .i64 k) ∧ w'.cell? ⟨fb, 1, none⟩ = some (.int .i64 n0) ∧ w'.cell? ⟨fb, 2, none⟩ = some (.string t) ∧ w'.cell? ⟨fb, 3, none⟩ = some (.slice a1 n1 c1) ∧ w'.cell? ⟨fb, 4, none⟩ = some (.slice a2 n2 c2)
theorem getD_set_far {l : Array Bool} {i j : Nat} (h : i ≠ j) : (l.setIfInBounds i true).getD j false = l.getD j false := by
  simp [Array.getD_eq_getD_getElem?, Array.getElem?_setIfInBounds, h]
theorem SD_far {g d fb nk cc : Nat} {ac : Option Addr} {k n0 : Int} {t : ByteArray} {a1 : Option Addr} {n1 c1 : Nat} {a2 : Option Addr} {n2 c2 : Nat} {i : Nat} (h : i ≠ 14) (l : Array Bool) (w' : World) : SD g d fb nk cc ac k n0 t a1 n1 c1 a2 n2 c2 (l.setIfInBounds i true) w' ↔ SD g d fb nk cc ac k n0 t a1 n1 c1 a2 n2 c2 l w' := by
  unfold SD; rw [getD_set_far h]

/-- a kid more -/
def AdP (B rb : Nat) (s : ByteArray) (p n d : Nat) (fr : Nat → Fr) (P : Nat → Prop) (w : World) (e : Ending) (w' : World) : Prop :=
  e = .returned (.tuple #[]) ∧ ∃ F', RM w' B rb s p n (d + 1) fr F' P ∧ Near B rb w w'

set_option maxRecDepth 100000 in
set_option maxHeartbeats 3000000 in
theorem add_any (w : World) (B rb : Nat) (s : ByteArray) (p n d : Nat) (fr : Nat → Fr) (F : Ix → Thing) (P : Nat → Prop) (x : Nd) (cs : List Value) (h : RM w B rb s p n (d + 1) fr F P) (hx : NodeIn w P x cs) (hd : d ≤ 32) (hk : (fr d).kids.length ≤ 1000000) :
    Calls Tryd.prog 43 #[.pointer (some ⟨rb, 0, none⟩), .agg cs.toArray] w (AdP B rb s p n d (updN fr d ⟨(fr d).obj, (fr d).keys, (fr d).kids ++ [x]⟩) P w) := by
  obtain ⟨k, n0, t, a1, n1, c1, a2, n2, c2, rfl⟩ := node_form hx
  have hs0 := h.hB
  have HX := Lib.hid hx
  have HM := Lib.hid h
  have hba : Below w.heap.size w (w.alloc (.cells #[.int .i64 k, .int .i64 n0, .string t, .slice a1 n1 c1, .slice a2 n2 c2] 26)) := (Below.refl _ _).alloc (Nat.le_refl _) _
  have HBA := Lib.hid hba
  have hMa := h.new hba
  have hXa := Whole.new w 26 [.int .i64 k, .int .i64 n0, .string t, .slice a1 n1 c1, .slice a2 n2 c2]
  change Whole (w.alloc (.cells #[.int .i64 k, .int .i64 n0, .string t, .slice a1 n1 c1, .slice a2 n2 c2] 26)) _ _ _ at hXa
  have HXA := Lib.hid hXa
  have HMA := Lib.hid hMa
  obtain ⟨g, cap, hv, hgB, hgl, hc1, hc2, hcell, hfz⟩ := hMa.top (by omega)
  have HV := Lib.hid hv
  have f3 := hMa.field.2.2.2.1
  rw [hv] at f3
  have HFB : Hid ((∀ k, (F k).blk ≠ some w.heap.size) ∧ w.heap.size ≠ rb ∧ g ≠ w.heap.size) := Lib.hid ⟨fun k e => by have := (h.blkB k _ e).2; omega, by omega, fun e => by
    have := (h.blkB .opn g (by obtain ⟨ov, ho⟩ := h.opn; rw [ho] at hv ⊢; have : ov = _ := hv; rw [this]; rfl)).2; omega⟩
  have hdI : IntKind.i64.wrap (d : Int) = (d : Int) := IntWalk.i64_in _ (by omega)
  have hd0 : (0 : Int) ≤ (d : Int) := by omega
  have hd1 : (d : Int) < (d : Int) + 1 := by omega
  have hd2 : d < d + 1 := by omega
  obtain ⟨i0, hi, hz0, hz1, hz2⟩ := info_parts infoN
  clear h hx hba hMa hXa hcell hfz hv
  go_enter Tryd.func43, Tryd.ntmps43
  go_wp2
  generalize hwa : w.alloc (.cells #[.int .i64 k, .int .i64 n0, .string t, .slice a1 n1 c1, .slice a2 n2 c2] 26) = wa at *
  clear hwa
  go_quiet (fail)
  have hbq := Go.Joins.below_draws wa.heap.size wa nq
  have HB1 := Lib.hid (HBA.out.trans (hbq.mono HBA.out.size))
  have hM1 := HMA.out.new hbq
  have hX1 := HXA.out.below hbq HXA.out.lt
  generalize wa.drewN nq = w1 at *
  obtain ⟨cv, ls, hk1, hk2, hk3⟩ := hM1.kds d (by omega)
  have hok := hM1.own.1 (.kids d)
  rw [hk1] at hok
  have hok' : w1.ownsRow B 26 5 cv (fr d).kids.length ls.flatten := hok
  obtain ⟨ac, cc, hcf⟩ := row_form hok'
  subst hcf
  obtain ⟨g', cap', hv', _, hgl1, _, _, hcell1, hfz1⟩ := hM1.top (by omega)
  rw [HV.out] at hv'
  cases hv'
  have q4 := hcell1 d 4 (by omega) (by omega)
  rw [show (fcells fr F d)[4]? = some (F (.kids d)).val from rfl, hk1] at q4
  change w1.cell? _ = some (.slice ac (fr d).kids.length cc) at q4
  have zz4 := hfz1 (d * 6 + 4)
  have HOK := Lib.hid hok'
  have HM1 := Lib.hid hM1
  have HX1 := Lib.hid hX1
  have HK1 := Lib.hid hk1
  have HK2 := Lib.hid hk2
  have HK3 := Lib.hid hk3
  have x0 := hX1.cell 0
  have x1 := hX1.cell 1
  have x2 := hX1.cell 2
  have x3 := hX1.cell 3
  have x4 := hX1.cell 4
  simp only [List.getElem?_cons_zero, List.getElem?_cons_succ] at x0 x1 x2 x3 x4
  have hlen : ls.flatten.length = (fr d).kids.length * 5 := hok'.1
  have HLEN := Lib.hid hlen
  generalize hnk : (fr d).kids.length = nk at *
  have HNK := Lib.hid hnk
  have hfbs := HFB.out.2
  generalize hfbe : w.heap.size = fb at *
  have HFBE := Lib.hid hfbe
  clear hM1 hX1 hk1 hk2 hk3 hok hok' hcell1 hfz1 hbq HMA HXA f3 hlen hnk hfbe
  go_wp2
  refine held2.region (SD g d fb nk cc ac k n0 t a1 n1 c1 a2 n2 c2) (by kernel_rfl) ?_
  have hS7 : ∀ l, SD g d fb nk cc ac k n0 t a1 n1 c1 a2 n2 c2 l w1.drew := fun l => ⟨fun _ => q4, x0, x1, x2, x3, x4⟩
  refine held2.wpLeft.take (i := 0) (v := ?_) rfl (by kernel_rfl) (by kernel_rfl) (by kernel_rfl) (by kernel_rfl) (fun l w => SD_far (by omega) l w) (fun _ _ _ h => h) (by rfl) ?_ (hS7 _) ?_
  rotate_left
  · (intro w l hl1 hl2 hSw; obtain ⟨s0, s1, s2, s3, s4, s5⟩ := hSw; clear s0; go_simp; try with_reducible rfl)
  simp only [Act.put, List.setIfInBounds_toArray, List.set_cons_zero, List.set_cons_succ]
  refine held2.wpLeft.take (i := 1) (v := ?_) rfl (by kernel_rfl) (by kernel_rfl) (by kernel_rfl) (by kernel_rfl) (fun l w => SD_far (by omega) l w) (fun _ _ _ h => h) (by rfl) ?_ (hS7 _) ?_
  rotate_left
  · (intro w l hl1 hl2 hSw; obtain ⟨s0, s1, s2, s3, s4, s5⟩ := hSw; clear s0; go_simp; try with_reducible rfl)
  simp only [Act.put, List.setIfInBounds_toArray, List.set_cons_zero, List.set_cons_succ]
  refine held2.wpLeft.take (i := 2) (v := ?_) rfl (by kernel_rfl) (by kernel_rfl) (by kernel_rfl) (by kernel_rfl) (fun l w => SD_far (by omega) l w) (fun _ _ _ h => h) (by rfl) ?_ (hS7 _) ?_
  rotate_left
  · (intro w l hl1 hl2 hSw; obtain ⟨s0, s1, s2, s3, s4, s5⟩ := hSw; clear s0; go_simp; try with_reducible rfl)
  simp only [Act.put, List.setIfInBounds_toArray, List.set_cons_zero, List.set_cons_succ]
  refine held2.wpLeft.take (i := 3) (v := ?_) rfl (by kernel_rfl) (by kernel_rfl) (by kernel_rfl) (by kernel_rfl) (fun l w => SD_far (by omega) l w) (fun _ _ _ h => h) (by rfl) ?_ (hS7 _) ?_
  rotate_left
  · (intro w l hl1 hl2 hSw; obtain ⟨s0, s1, s2, s3, s4, s5⟩ := hSw; clear s0; go_simp; try with_reducible rfl)
  simp only [Act.put, List.setIfInBounds_toArray, List.set_cons_zero, List.set_cons_succ]
  refine held2.wpLeft.take (i := 4) (v := ?_) rfl (by kernel_rfl) (by kernel_rfl) (by kernel_rfl) (by kernel_rfl) (fun l w => SD_far (by omega) l w) (fun _ _ _ h => h) (by rfl) ?_ (hS7 _) ?_
  rotate_left
  · (intro w l hl1 hl2 hSw; obtain ⟨s0, s1, s2, s3, s4, s5⟩ := hSw; have s0 := s0 (held2.left_of (i := 4) (j := 14) (f := 15) hl1 (by kernel_rfl) hl2); go_simp; try with_reducible rfl)
  simp only [Act.put, List.setIfInBounds_toArray, List.set_cons_zero, List.set_cons_succ]
  refine held2.wpLeft.take (i := 5) (v := ?_) rfl (by kernel_rfl) (by kernel_rfl) (by kernel_rfl) (by kernel_rfl) (fun l w => SD_far (by omega) l w) (fun _ _ _ h => h) (by rfl) ?_ (hS7 _) ?_
  rotate_left
  · (intro w l hl1 hl2 hSw; obtain ⟨s0, s1, s2, s3, s4, s5⟩ := hSw; clear s0; go_simp; try with_reducible rfl)
  simp only [Act.put, List.setIfInBounds_toArray, List.set_cons_zero, List.set_cons_succ]
  refine held2.wpLeft.take (i := 6) (v := ?_) rfl (by kernel_rfl) (by kernel_rfl) (by kernel_rfl) (by kernel_rfl) (fun l w => SD_far (by omega) l w) (fun _ _ _ h => h) (by rfl) ?_ (hS7 _) ?_
  rotate_left
  · (intro w l hl1 hl2 hSw; obtain ⟨s0, s1, s2, s3, s4, s5⟩ := hSw; clear s0; go_simp; try with_reducible rfl)
  simp only [Act.put, List.setIfInBounds_toArray, List.set_cons_zero, List.set_cons_succ]
  have hbd : Below w1.heap.size w1 (w1.drew.alloc (.cells #[.int .i64 0, .int .i64 0, .string ⟨#[]⟩, .slice none 0 0, .slice none 0 0] 26)) := ((Below.refl _ _).drew).alloc (Nat.le_refl _) _
  have hSA := (hbd.cell (p := ⟨g, d * 6 + 4, none⟩) hgl1).trans q4
  have hXA := HX1.out.below hbd HX1.out.lt
  refine held2.wpLeft.one (i := 7) (by kernel_rfl) rfl (fun K hK => ?_)
  go_simp
  refine hK.out _ _ ⟨fun _ => hSA, hXA.cell 0, hXA.cell 1, hXA.cell 2, hXA.cell 3, hXA.cell 4⟩ ?_
  clear hK K
  refine held2.wpLeft.one (i := 8) (by kernel_rfl) rfl (fun K2 hK2 => ?_)
  refine step_append_lies _ (by rfl) (.tmp 20) (.tmp 23) 22 (by rfl) B 26 i0 _ 5 80 Tryd.underlying22 hi hz0 hz1 hz2 rfl (by omega) (.slice ac nk cc) nk ls.flatten (by rfl) ((HOK.out.drew).alloc _) ⟨w1.heap.size, 0, none⟩ 1 1 [.int .i64 0, .int .i64 0, .string ⟨#[]⟩, .slice none 0 0, .slice none 0 0] (by rfl) (by rfl) (World.news_of_block (cs := #[.int .i64 0, .int .i64 0, .string ⟨#[]⟩, .slice none 0 0, .slice none 0 0]) (t := 26) (fr := (0, 0)) (heap_alloc_new w1.drew _)) (by simp [Value.oneCell']) (by omega) (by unfold maxLen; omega) (by omega) (by have := HM1.out.hB.2; simp; omega) (w1.heap.size + 1) (by simp) ?_
  intro g7 cap7 w7 hown7 hgrow7 hat7 hlt7
  have hblkC : (F (.kids d)).blk = (Value.slice ac nk cc).ownBlock := by rw [HK1.out]; rfl
  have hblkO : (F .opn).blk = some g := by obtain ⟨ov, ho⟩ := HM1.out.opn; have hv := HV.out; rw [ho] at hv ⊢; have : ov = _ := hv; rw [this]; rfl
  have hneO : (Value.slice ac nk cc).ownBlock ≠ some g := fun e => by have := HM1.out.own.2 (.kids d) .opn g (hblkC.trans e) hblkO; cases this
  have hneF : (Value.slice ac nk cc).ownBlock ≠ some fb := fun e => HFB.out.1 (.kids d) (hblkC.trans e)
  have hX7 := hXA.kept hgrow7 hneF
  have hS8 := hgrow7.cell hSA (by intro e; exact hneO e.symm)
  have zz7 : w7.frozen? ⟨g, d * 6 + 4, none⟩ = false := (World.frozen?_of_block (hgrow7.block g (by simp; omega) (fun e => hneO e.symm))).trans ((hbd.frozen (p := ⟨g, d * 6 + 4, none⟩) hgl1).trans zz4)
  have hg7B := hown7.lt g7 rfl
  have hg7g : g7 ≠ g := by
    rcases hat7 with e | e
    · intro e'; exact hneO (by rw [e, e'])
    · omega
  have hg7f : g7 ≠ fb := by
    rcases hat7 with e | e
    · intro e'; exact hneF (by rw [e, e'])
    · have := HX1.out.lt; omega
  have y0 := hown7.cellAt (nk * 5) (by omega)
  have y1 := hown7.cellAt (nk * 5 + 1) (by omega)
  have y2 := hown7.cellAt (nk * 5 + 2) (by omega)
  have y3 := hown7.cellAt (nk * 5 + 3) (by omega)
  have y4 := hown7.cellAt (nk * 5 + 4) (by omega)
  rw [List.getElem?_append_right (by have := HLEN.out; omega), HLEN.out, show nk * 5 - nk * 5 = 0 from by omega] at y0
  rw [List.getElem?_append_right (by have := HLEN.out; omega), HLEN.out, show nk * 5 + 1 - nk * 5 = 1 from by omega] at y1
  rw [List.getElem?_append_right (by have := HLEN.out; omega), HLEN.out, show nk * 5 + 2 - nk * 5 = 2 from by omega] at y2
  rw [List.getElem?_append_right (by have := HLEN.out; omega), HLEN.out, show nk * 5 + 3 - nk * 5 = 3 from by omega] at y3
  rw [List.getElem?_append_right (by have := HLEN.out; omega), HLEN.out, show nk * 5 + 4 - nk * 5 = 4 from by omega] at y4
  simp only [List.getElem?_cons_zero, List.getElem?_cons_succ] at y0 y1 y2 y3 y4
  have u0 := hown7.frozenAt (nk * 5)
  have u1 := hown7.frozenAt (nk * 5 + 1)
  have u2 := hown7.frozenAt (nk * 5 + 2)
  have u3 := hown7.frozenAt (nk * 5 + 3)
  have u4 := hown7.frozenAt (nk * 5 + 4)
  obtain ⟨hown8, hgrow8⟩ := set5_row hown7 HLEN.out (.int .i64 k) (.int .i64 n0) (.string t) (.slice a1 n1 c1) (.slice a2 n2 c2)
  have HO8 := Lib.hid hown8
  have HG8 := Lib.hid hgrow8
  have HG7 := Lib.hid hgrow7
  have hX8 := hX7.kept hgrow8 (fun e => hg7f (Option.some.inj e))
  have hS9 := hgrow8.cell hS8 (fun e => hg7g (Option.some.inj e).symm)
  have hgl7 : g < w7.heap.size := World.block_lt_of_cell? w7 ⟨g, d * 6 + 4, none⟩ hS8
  have zz8 := (hgrow8.frozen_far ⟨g, d * 6 + 4, none⟩ hgl7 (fun e => hg7g (Option.some.inj e).symm)).trans zz7
  have hnk0 : (0 : Int) ≤ (nk : Int) := by omega
  have hnk1 : (nk : Int) < (nk : Int) + 1 := by omega
  have hnk2 : nk < nk + 1 := by omega
  refine hK2.out _ _ ⟨fun _ => hS8, hX7.cell 0, hX7.cell 1, hX7.cell 2, hX7.cell 3, hX7.cell 4⟩ ?_
  clear hK2 K2 hown8 hgrow8
  have hSt : ∀ l, SD g d fb nk cc ac k n0 t a1 n1 c1 a2 n2 c2 l w7 := fun l => ⟨fun _ => hS8, hX7.cell 0, hX7.cell 1, hX7.cell 2, hX7.cell 3, hX7.cell 4⟩
  try simp only [Act.put, List.setIfInBounds_toArray, List.set_cons_zero, List.set_cons_succ]
  refine held2.wpLeft.take (i := 9) (v := ?_) rfl (by kernel_rfl) (by kernel_rfl) (by kernel_rfl) (by kernel_rfl) (fun l w => SD_far (by omega) l w) (fun _ _ _ h => h) (by rfl) ?_ (hSt _) ?_
  rotate_left
  · (intro w l hl1 hl2 hSw; obtain ⟨s0, s1, s2, s3, s4, s5⟩ := hSw; clear s0; go_simp; try with_reducible rfl)
  simp only [Act.put, List.setIfInBounds_toArray, List.set_cons_zero, List.set_cons_succ]
  refine held2.wpLeft.take (i := 11) (v := ?_) rfl (by kernel_rfl) (by kernel_rfl) (by kernel_rfl) (by kernel_rfl) (fun l w => SD_far (by omega) l w) (fun _ _ _ h => h) (by rfl) ?_ (hSt _) ?_
  rotate_left
  · (intro w l hl1 hl2 hSw; obtain ⟨s0, s1, s2, s3, s4, s5⟩ := hSw; clear s0; go_simp; try with_reducible rfl)
  simp only [Act.put, List.setIfInBounds_toArray, List.set_cons_zero, List.set_cons_succ]
  refine held2.wpLeft.take (i := 12) (v := ?_) rfl (by kernel_rfl) (by kernel_rfl) (by kernel_rfl) (by kernel_rfl) (fun l w => SD_far (by omega) l w) (fun _ _ _ h => h) (by rfl) ?_ (hSt _) ?_
  rotate_left
  · (intro w l hl1 hl2 hSw; obtain ⟨s0, s1, s2, s3, s4, s5⟩ := hSw; clear s0; go_simp; try with_reducible rfl)
  simp only [Act.put, List.setIfInBounds_toArray, List.set_cons_zero, List.set_cons_succ]
  refine held2.wpLeft.take (i := 13) (v := ?_) rfl (by kernel_rfl) (by kernel_rfl) (by kernel_rfl) (by kernel_rfl) (fun l w => SD_far (by omega) l w) (fun _ _ _ h => h) (by rfl) ?_ (hSt _) ?_
  rotate_left
  · (intro w l hl1 hl2 hSw; obtain ⟨s0, s1, s2, s3, s4, s5⟩ := hSw; clear s0; go_simp; try with_reducible rfl)
  simp only [Act.put, List.setIfInBounds_toArray, List.set_cons_zero, List.set_cons_succ]
  have HFIN : Hid (AdP B rb s p n d (updN fr d ⟨(fr d).obj, (fr d).keys, (fr d).kids ++ [x]⟩) P w (.returned (.tuple #[])) ((((((w7.setCell ⟨g7, nk * 5, none⟩ (.int .i64 k)).setCell ⟨g7, nk * 5 + 1, none⟩ (.int .i64 n0)).setCell ⟨g7, nk * 5 + 2, none⟩ (.string t)).setCell ⟨g7, nk * 5 + 3, none⟩ (.slice a1 n1 c1)).setCell ⟨g7, nk * 5 + 4, none⟩ (.slice a2 n2 c2)).setCell ⟨g, d * 6 + 4, none⟩ (.slice (some ⟨g7, 0, none⟩) (nk + 1) cap7))) := Lib.hid (by
    have hg78 := grown_two HG7.out HG8.out (by
      rcases hat7 with e | e
      · exact .inl e
      · exact .inr (by rw [e]; simp))
    obtain ⟨F9, hM9⟩ := jsonO.RM.addKid HM1.out hbd HV.out (HX.out.keep (fun _ h => h) (fun b hb => HB1.out.block b (by have := (HM.out.sealed' b hb).2.1; rw [HFBE.out] at this; exact this))) (by rw [HNK.out]; exact HK1.out) (by rw [HNK.out]; exact HK2.out) (by rw [HNK.out]; exact HK3.out) (by rw [HNK.out]; exact HO8.out) hg78 (by
      rcases hat7 with e | e
      · exact .inl e.symm
      · exact .inr ⟨g7, rfl, by rw [e]; simp⟩)
    refine ⟨rfl, F9, hM9, ?_⟩
    have n1' := Near.below (rb := rb) (HB1.out.mono (show B ≤ fb by have := HM.out.hB.2; rw [HFBE.out] at this; exact this))
    have n2' := Near.below (rb := rb) (hbd.mono HM1.out.hB.2)
    have n3' := Near.grown (rb := rb) hg78 (Nat.le_trans HM1.out.hB.2 hbd.size) (fun c hc => .inl (HOK.out.lt c hc).1)
    exact ((n1'.trans n2').trans n3').setB hgB _ _)
  have hX9 := hX8.kept (set1_grown (((((w7.setCell ⟨g7, nk * 5, none⟩ (.int .i64 k)).setCell ⟨g7, nk * 5 + 1, none⟩ (.int .i64 n0)).setCell ⟨g7, nk * 5 + 2, none⟩ (.string t)).setCell ⟨g7, nk * 5 + 3, none⟩ (.slice a1 n1 c1)).setCell ⟨g7, nk * 5 + 4, none⟩ (.slice a2 n2 c2)) g (d * 6 + 4) (.slice (some ⟨g7, 0, none⟩) (nk + 1) cap7)) (fun e => hfbs.2 (Option.some.inj e))
  have hgX := set1_grown w7 g (d * 6 + 4) (.slice (some ⟨g7, 0, none⟩) (nk + 1) cap7)
  have hX10 := hX7.kept hgX (fun e => hfbs.2 (Option.some.inj e))
  have y0' := (hgX.cell_far ⟨g7, nk * 5, none⟩ hg7B.2 (fun e => hg7g (Option.some.inj e))).trans y0
  have y1' := (hgX.cell_far ⟨g7, nk * 5 + 1, none⟩ hg7B.2 (fun e => hg7g (Option.some.inj e))).trans y1
  have y2' := (hgX.cell_far ⟨g7, nk * 5 + 2, none⟩ hg7B.2 (fun e => hg7g (Option.some.inj e))).trans y2
  have y3' := (hgX.cell_far ⟨g7, nk * 5 + 3, none⟩ hg7B.2 (fun e => hg7g (Option.some.inj e))).trans y3
  have y4' := (hgX.cell_far ⟨g7, nk * 5 + 4, none⟩ hg7B.2 (fun e => hg7g (Option.some.inj e))).trans y4
  have u0' := (hgX.frozen_far ⟨g7, nk * 5, none⟩ hg7B.2 (fun e => hg7g (Option.some.inj e))).trans u0
  have u1' := (hgX.frozen_far ⟨g7, nk * 5 + 1, none⟩ hg7B.2 (fun e => hg7g (Option.some.inj e))).trans u1
  have u2' := (hgX.frozen_far ⟨g7, nk * 5 + 2, none⟩ hg7B.2 (fun e => hg7g (Option.some.inj e))).trans u2
  have u3' := (hgX.frozen_far ⟨g7, nk * 5 + 3, none⟩ hg7B.2 (fun e => hg7g (Option.some.inj e))).trans u3
  have u4' := (hgX.frozen_far ⟨g7, nk * 5 + 4, none⟩ hg7B.2 (fun e => hg7g (Option.some.inj e))).trans u4
  have HSW := Lib.hid (swap5 w7 (nk * 5) (d * 6 + 4) (.int .i64 k) (.int .i64 n0) (.string t) (.slice a1 n1 c1) (.slice a2 n2 c2) (.slice (some ⟨g7, 0, none⟩) (nk + 1) cap7) hg7g)
  have hX11 := hX9
  rw [← HSW.out] at hX11
  clear hgX hown7 hgrow7 hbd hat7
  refine held2.wpLeft.two (i := 10) (k := 14) (by kernel_rfl) rfl rfl (fun K4 hK4 => ?_) (fun K5 hK5 => ?_)
  · go_simp
    refine hK4.out _ _ ⟨fun _ => hS9, hX8.cell 0, hX8.cell 1, hX8.cell 2, hX8.cell 3, hX8.cell 4⟩ ?_
    clear hK4 K4
    refine held2.wpLeft.one (i := 14) (by kernel_rfl) rfl (fun K6 hK6 => ?_)
    go_simp
    refine hK6.out _ _ ⟨fun h => (by cases h), hX9.cell 0, hX9.cell 1, hX9.cell 2, hX9.cell 3, hX9.cell 4⟩ ?_
    clear hK6 K6
    refine held2.wpLeft.done (by kernel_rfl) ?_
    go_wp2
    go_end0
    exact HFIN.out
  · go_simp
    refine hK5.out _ _ ⟨fun h => (by cases h), hX10.cell 0, hX10.cell 1, hX10.cell 2, hX10.cell 3, hX10.cell 4⟩ ?_
    clear hK5 K5
    refine held2.wpLeft.one (i := 10) (by kernel_rfl) rfl (fun K6 hK6 => ?_)
    go_simp
    refine hK6.out _ _ ⟨fun h => (by cases h), hX11.cell 0, hX11.cell 1, hX11.cell 2, hX11.cell 3, hX11.cell 4⟩ ?_
    clear hK6 K6
    refine held2.wpLeft.done (by kernel_rfl) ?_
    go_wp2
    go_end0
    rw [HSW.out]
    exact HFIN.out
end Go.Proofs.YtdbidkfjbhclcaaDoor.jsonD
