/-
  Contract of the reference's reader: word.
-/
import Derived.Test.YtjcaffpmcgfhaaaGreatDoorRefA
namespace Go.Proofs.YtjcaffpmcgfhaaaGreatDoor.refW
open Go.ChangeShapes Go.WideShapes Go.ChangeAt Go.RowKit Go.WideMaps Go.Maps nodeP nodeQ nodeS ownI jsonP jsonA jsonB refA
set_option linter.unusedSimpArgs false
set_option linter.unusedVariables false

/-- what word leaves -/
def WoP (rb : Nat) (s t : ByteArray) (p n : Nat) (k : Int) (b : Bool) (w : World) (x : Ending) (w' : World) : Prop :=
  x = .returned (.agg #[.int .i64 k, .int .i64 0, .string ⟨#[]⟩, .slice none 0 0, .slice none 0 0]) ∧ w.grownBy w' (some rb) ∧ Rw w' rb s (p + t.size) (if b then 0 else 1) n
theorem ext_pre (s t : ByteArray) (p : Nat) (h : p + t.size ≤ s.size) : ((s.extract p (p + t.size)).toList == t.toList) = Lib.hasPrefix (s.data.toList.drop p) t.data.toList := by
  rw [Go.ByteArray.toList_eq, Go.ByteArray.toList_eq]
  have e : (s.extract p (p + t.size)).data.toList = (s.data.toList.drop p).take t.size := by
    rw [ByteArray.data_extract, Array.toList_extract, List.extract_eq_take_drop]
    congr 1; omega
  rw [e, Bool.eq_iff_iff, beq_iff_eq, jsonQ.pre_iff, List.prefix_iff_eq_take]
  have hl : t.data.toList.length = t.size := by rw [Array.length_toList, ByteArray.size_data]
  rw [hl]
  exact eq_comm
theorem ext_short (s t : ByteArray) (p : Nat) (h : s.size < p + t.size) (hp : p ≤ s.size) : Lib.hasPrefix (s.data.toList.drop p) t.data.toList = false := by
  rw [Bool.eq_false_iff]
  intro h'
  have := jsonQ.pre_len h'
  rw [List.length_drop, Array.length_toList, ByteArray.size_data, Array.length_toList, ByteArray.size_data] at this
  omega
set_option maxRecDepth 100000 in
set_option maxHeartbeats 4000000 in
theorem word_short (w : World) (rb : Nat) (s t : ByteArray) (p n : Nat) (k : Int) (h : Rw w rb s p 0 n) (hp : p ≤ s.size) (hs : s.size ≤ 1000000) (ht : t.size ≤ 10) (hlen : s.size < p + t.size) :
    Calls Tryz.prog 25 #[.pointer (some ⟨rb, 0, none⟩), .string t, .int .i64 k] w (WoP rb s t p n k false w) := by
  have hba : Below w.heap.size w (w.alloc (.cells #[.int .i64 0, .int .i64 0, .string ⟨#[]⟩, .slice none 0 0, .slice none 0 0] 26)) := (Below.refl _ _).alloc (Nat.le_refl _) _
  have hMa := h.new hba
  have HWa := Lib.hid (Whole.new w 26 [.int .i64 0, .int .i64 0, .string ⟨#[]⟩, .slice none 0 0, .slice none 0 0])
  change Hid (Whole (w.alloc (.cells #[.int .i64 0, .int .i64 0, .string ⟨#[]⟩, .slice none 0 0, .slice none 0 0] 26)) _ _ _) at HWa
  have HGa := Lib.hid (grown_below hba (some rb))
  have hbs : w.heap.size ≠ rb := by have := Whole.lt h; omega
  have hpI : (p : Int) ≤ (s.size : Int) := by omega
  have hp0 : (0 : Int) ≤ (p : Int) := by omega
  have hts : (t.size : Int) ≤ 10 := by omega
  have hwr : IntKind.i64.wrap ((s.size : Int) - (p : Int)) = (s.size : Int) - (p : Int) := IntWalk.i64_in _ (by omega)
  have hwr2 : IntKind.i64.wrap ((p : Int) + (t.size : Int)) = (p : Int) + (t.size : Int) := IntWalk.i64_in _ (by omega)
  have hpp2 : (p : Int) ≤ (p : Int) + (t.size : Int) := by omega
  have HMa := Lib.hid hMa
  have HF : Hid (∀ w2 e, Rw w2 rb s p e n → w.grownBy w2 (some rb) → Whole w2 w.heap.size 26 [.int .i64 0, .int .i64 0, .string ⟨#[]⟩, .slice none 0 0, .slice none 0 0] → ∀ x0 x1 x2 x3 x4,
      Rw ((((((w2.setCell ⟨rb, 1, none⟩ (.int .i64 ((p : Int) + (t.size : Int)))).setCell ⟨w.heap.size, 0, none⟩ x0).setCell ⟨w.heap.size, 1, none⟩ x1).setCell ⟨w.heap.size, 2, none⟩ x2).setCell ⟨w.heap.size, 3, none⟩ x3).setCell ⟨w.heap.size, 4, none⟩ x4) rb s (p + t.size) e n ∧
      w.grownBy ((((((w2.setCell ⟨rb, 1, none⟩ (.int .i64 ((p : Int) + (t.size : Int)))).setCell ⟨w.heap.size, 0, none⟩ x0).setCell ⟨w.heap.size, 1, none⟩ x1).setCell ⟨w.heap.size, 2, none⟩ x2).setCell ⟨w.heap.size, 3, none⟩ x3).setCell ⟨w.heap.size, 4, none⟩ x4) (some rb) ∧
      Whole ((((((w2.setCell ⟨rb, 1, none⟩ (.int .i64 ((p : Int) + (t.size : Int)))).setCell ⟨w.heap.size, 0, none⟩ x0).setCell ⟨w.heap.size, 1, none⟩ x1).setCell ⟨w.heap.size, 2, none⟩ x2).setCell ⟨w.heap.size, 3, none⟩ x3).setCell ⟨w.heap.size, 4, none⟩ x4) w.heap.size 26 [x0, x1, x2, x3, x4]) := Lib.hid (by
    intro w2 e h2 hg hW x0 x1 x2 x3 x4
    have a1 := h2.setP (p + t.size)
    rw [show (((p + t.size : Nat)) : Int) = (p : Int) + (t.size : Int) from by omega] at a1
    have a2 := gr_set hg 1 (.int .i64 ((p : Int) + (t.size : Int)))
    have a3 := Whole.kept hW (g1 w2 rb 1 (.int .i64 ((p : Int) + (t.size : Int)))) (fun e => hbs (Option.some.inj e).symm)
    have a4 := set5_grown (w2.setCell ⟨rb, 1, none⟩ (.int .i64 ((p : Int) + (t.size : Int)))) w.heap.size x0 x1 x2 x3 x4
    exact ⟨Whole.kept a1 a4 (fun e => hbs (Option.some.inj e)), gr_two a2 a4 (.inr (Nat.le_refl _)), set5_whole a3 x0 x1 x2 x3 x4⟩)
  clear h hba
  have hlI : (s.size : Int) - (p : Int) < (t.size : Int) := by omega
  obtain ⟨f0, f1, f2, f3, f4⟩ := hMa.field
  clear f2 f3 f4 hMa
  go_enter Tryz.func25, Tryz.ntmps25
  go_wp2
  generalize w.alloc (.cells #[.int .i64 0, .int .i64 0, .string ⟨#[]⟩, .slice none 0 0, .slice none 0 0] 26) = wa at *
  go_quiet (fail)
  have hM1 := HMa.out.draws nq
  have HG1 := Lib.hid (gr_draws HGa.out nq)
  have HW1 := Lib.hid (Whole.below HWa.out (Go.Joins.below_draws _ _ nq) (Whole.lt HWa.out))
  generalize wa.drewN nq = w1 at *
  have HFL := Lib.hid (fail_new w1 rb s p n 1 hM1 (by omega))
  clear f0 f1 hM1 HMa HWa HGa
  go_wp2_with fail
  refine HFL.out.mono ?_
  rintro e w2 ⟨rfl, hM2, hG2⟩
  have HM2 := Lib.hid hM2
  have HG2 := Lib.hid (gs HG1.out hG2)
  have HW2 := Lib.hid (Whole.kept HW1.out hG2 (fun e => hbs (Option.some.inj e).symm))
  obtain ⟨f0, f1, f2, f3, f4⟩ := hM2.field
  have z1 := f4 1
  have c0 := HW2.out.cell 0
  have c1 := HW2.out.cell 1
  have c2 := HW2.out.cell 2
  have c3 := HW2.out.cell 3
  have c4 := HW2.out.cell 4
  simp only [List.getElem?_cons_zero, List.getElem?_cons_succ] at c0 c1 c2 c3 c4
  have y0 := HW2.out.frozen 0
  have y1 := HW2.out.frozen 1
  have y2 := HW2.out.frozen 2
  have y3 := HW2.out.frozen 3
  have y4 := HW2.out.frozen 4
  obtain ⟨r1, r2, r3⟩ := HF.out w2 1 hM2 HG2.out HW2.out (.int .i64 k) (.int .i64 0) (.string ⟨#[]⟩) (.slice none 0 0) (.slice none 0 0)
  have R1 := Lib.hid r1
  have R2 := Lib.hid r2
  have R3 := Lib.hid r3
  generalize w.heap.size = b0 at *
  clear hM2 hG2 f2 f3 f4 r1 r2 r3 HF
  go_wp2
  generalize ((((((w2.setCell ⟨rb, 1, none⟩ (.int .i64 ((p : Int) + (t.size : Int)))).setCell ⟨b0, 0, none⟩ (.int .i64 k)).setCell ⟨b0, 1, none⟩ (.int .i64 0)).setCell ⟨b0, 2, none⟩ (.string ⟨#[]⟩)).setCell ⟨b0, 3, none⟩ (.slice none 0 0)).setCell ⟨b0, 4, none⟩ (.slice none 0 0)) = w9 at *
  obtain ⟨k0, k1, k2, k3, k4⟩ := whole5 R3.out
  refine bodyPost_ret (v := .agg #[.int .i64 k, .int .i64 0, .string ⟨#[]⟩, .slice none 0 0, .slice none 0 0]) (by simp [results, Tryz.results25, go_sem, k0, k1, k2, k3, k4]) rfl ?_
  exact ⟨rfl, R2.out, R1.out⟩
set_option maxRecDepth 100000 in
set_option maxHeartbeats 4000000 in
theorem word_no (w : World) (rb : Nat) (s t : ByteArray) (p n : Nat) (k : Int) (h : Rw w rb s p 0 n) (hp : p ≤ s.size) (hs : s.size ≤ 1000000) (ht : t.size ≤ 10) (hlen : ¬ s.size < p + t.size) (hbb : Lib.hasPrefix (s.data.toList.drop p) t.data.toList = false) :
    Calls Tryz.prog 25 #[.pointer (some ⟨rb, 0, none⟩), .string t, .int .i64 k] w (WoP rb s t p n k false w) := by
  have hba : Below w.heap.size w (w.alloc (.cells #[.int .i64 0, .int .i64 0, .string ⟨#[]⟩, .slice none 0 0, .slice none 0 0] 26)) := (Below.refl _ _).alloc (Nat.le_refl _) _
  have hMa := h.new hba
  have HWa := Lib.hid (Whole.new w 26 [.int .i64 0, .int .i64 0, .string ⟨#[]⟩, .slice none 0 0, .slice none 0 0])
  change Hid (Whole (w.alloc (.cells #[.int .i64 0, .int .i64 0, .string ⟨#[]⟩, .slice none 0 0, .slice none 0 0] 26)) _ _ _) at HWa
  have HGa := Lib.hid (grown_below hba (some rb))
  have hbs : w.heap.size ≠ rb := by have := Whole.lt h; omega
  have hpI : (p : Int) ≤ (s.size : Int) := by omega
  have hp0 : (0 : Int) ≤ (p : Int) := by omega
  have hts : (t.size : Int) ≤ 10 := by omega
  have hwr : IntKind.i64.wrap ((s.size : Int) - (p : Int)) = (s.size : Int) - (p : Int) := IntWalk.i64_in _ (by omega)
  have hwr2 : IntKind.i64.wrap ((p : Int) + (t.size : Int)) = (p : Int) + (t.size : Int) := IntWalk.i64_in _ (by omega)
  have hpp2 : (p : Int) ≤ (p : Int) + (t.size : Int) := by omega
  have HMa := Lib.hid hMa
  have HF : Hid (∀ w2 e, Rw w2 rb s p e n → w.grownBy w2 (some rb) → Whole w2 w.heap.size 26 [.int .i64 0, .int .i64 0, .string ⟨#[]⟩, .slice none 0 0, .slice none 0 0] → ∀ x0 x1 x2 x3 x4,
      Rw ((((((w2.setCell ⟨rb, 1, none⟩ (.int .i64 ((p : Int) + (t.size : Int)))).setCell ⟨w.heap.size, 0, none⟩ x0).setCell ⟨w.heap.size, 1, none⟩ x1).setCell ⟨w.heap.size, 2, none⟩ x2).setCell ⟨w.heap.size, 3, none⟩ x3).setCell ⟨w.heap.size, 4, none⟩ x4) rb s (p + t.size) e n ∧
      w.grownBy ((((((w2.setCell ⟨rb, 1, none⟩ (.int .i64 ((p : Int) + (t.size : Int)))).setCell ⟨w.heap.size, 0, none⟩ x0).setCell ⟨w.heap.size, 1, none⟩ x1).setCell ⟨w.heap.size, 2, none⟩ x2).setCell ⟨w.heap.size, 3, none⟩ x3).setCell ⟨w.heap.size, 4, none⟩ x4) (some rb) ∧
      Whole ((((((w2.setCell ⟨rb, 1, none⟩ (.int .i64 ((p : Int) + (t.size : Int)))).setCell ⟨w.heap.size, 0, none⟩ x0).setCell ⟨w.heap.size, 1, none⟩ x1).setCell ⟨w.heap.size, 2, none⟩ x2).setCell ⟨w.heap.size, 3, none⟩ x3).setCell ⟨w.heap.size, 4, none⟩ x4) w.heap.size 26 [x0, x1, x2, x3, x4]) := Lib.hid (by
    intro w2 e h2 hg hW x0 x1 x2 x3 x4
    have a1 := h2.setP (p + t.size)
    rw [show (((p + t.size : Nat)) : Int) = (p : Int) + (t.size : Int) from by omega] at a1
    have a2 := gr_set hg 1 (.int .i64 ((p : Int) + (t.size : Int)))
    have a3 := Whole.kept hW (g1 w2 rb 1 (.int .i64 ((p : Int) + (t.size : Int)))) (fun e => hbs (Option.some.inj e).symm)
    have a4 := set5_grown (w2.setCell ⟨rb, 1, none⟩ (.int .i64 ((p : Int) + (t.size : Int)))) w.heap.size x0 x1 x2 x3 x4
    exact ⟨Whole.kept a1 a4 (fun e => hbs (Option.some.inj e)), gr_two a2 a4 (.inr (Nat.le_refl _)), set5_whole a3 x0 x1 x2 x3 x4⟩)
  clear h hba
  have hlI : ¬ ((s.size : Int) - (p : Int) < (t.size : Int)) := by omega
  have hxt : ((s.extract p ((p : Int) + (t.size : Int)).toNat).toList == t.toList) = false := by
    rw [show ((p : Int) + (t.size : Int)).toNat = p + t.size from by omega]; exact (ext_pre s t p (by omega)).trans hbb
  have hpt : (p : Int) + (t.size : Int) ≤ (s.size : Int) := by omega
  obtain ⟨f0, f1, f2, f3, f4⟩ := hMa.field
  clear f2 f3 f4 hMa hlen hbb
  go_enter Tryz.func25, Tryz.ntmps25
  go_wp2
  generalize w.alloc (.cells #[.int .i64 0, .int .i64 0, .string ⟨#[]⟩, .slice none 0 0, .slice none 0 0] 26) = wa at *
  go_quiet (fail)
  have hM1 := HMa.out.draws nq
  have HG1 := Lib.hid (gr_draws HGa.out nq)
  have HW1 := Lib.hid (Whole.below HWa.out (Go.Joins.below_draws _ _ nq) (Whole.lt HWa.out))
  generalize wa.drewN nq = w1 at *
  have HFL := Lib.hid (fail_new w1 rb s p n 1 hM1 (by omega))
  clear f0 f1 hM1 HMa HWa HGa
  have hlI2 : ¬ ((s.size : Int) - (p : Int) < (t.size : Int)) := by omega
  simp only [hlI2, decide_false, hxt, Bool.false_or, Bool.not_false]
  clear hxt hlI hlI2
  go_wp2_with fail
  refine HFL.out.mono ?_
  rintro e w2 ⟨rfl, hM2, hG2⟩
  have HM2 := Lib.hid hM2
  have HG2 := Lib.hid (gs HG1.out hG2)
  have HW2 := Lib.hid (Whole.kept HW1.out hG2 (fun e => hbs (Option.some.inj e).symm))
  obtain ⟨f0, f1, f2, f3, f4⟩ := hM2.field
  have z1 := f4 1
  have c0 := HW2.out.cell 0
  have c1 := HW2.out.cell 1
  have c2 := HW2.out.cell 2
  have c3 := HW2.out.cell 3
  have c4 := HW2.out.cell 4
  simp only [List.getElem?_cons_zero, List.getElem?_cons_succ] at c0 c1 c2 c3 c4
  have y0 := HW2.out.frozen 0
  have y1 := HW2.out.frozen 1
  have y2 := HW2.out.frozen 2
  have y3 := HW2.out.frozen 3
  have y4 := HW2.out.frozen 4
  obtain ⟨r1, r2, r3⟩ := HF.out w2 1 hM2 HG2.out HW2.out (.int .i64 k) (.int .i64 0) (.string ⟨#[]⟩) (.slice none 0 0) (.slice none 0 0)
  have R1 := Lib.hid r1
  have R2 := Lib.hid r2
  have R3 := Lib.hid r3
  generalize w.heap.size = b0 at *
  clear hM2 hG2 f2 f3 f4 r1 r2 r3 HF
  go_wp2
  generalize ((((((w2.setCell ⟨rb, 1, none⟩ (.int .i64 ((p : Int) + (t.size : Int)))).setCell ⟨b0, 0, none⟩ (.int .i64 k)).setCell ⟨b0, 1, none⟩ (.int .i64 0)).setCell ⟨b0, 2, none⟩ (.string ⟨#[]⟩)).setCell ⟨b0, 3, none⟩ (.slice none 0 0)).setCell ⟨b0, 4, none⟩ (.slice none 0 0)) = w9 at *
  obtain ⟨k0, k1, k2, k3, k4⟩ := whole5 R3.out
  refine bodyPost_ret (v := .agg #[.int .i64 k, .int .i64 0, .string ⟨#[]⟩, .slice none 0 0, .slice none 0 0]) (by simp [results, Tryz.results25, go_sem, k0, k1, k2, k3, k4]) rfl ?_
  exact ⟨rfl, R2.out, R1.out⟩
set_option maxRecDepth 100000 in
set_option maxHeartbeats 4000000 in
theorem word_yes (w : World) (rb : Nat) (s t : ByteArray) (p n : Nat) (k : Int) (h : Rw w rb s p 0 n) (hp : p ≤ s.size) (hs : s.size ≤ 1000000) (ht : t.size ≤ 10) (hlen : ¬ s.size < p + t.size) (hbb : Lib.hasPrefix (s.data.toList.drop p) t.data.toList = true) :
    Calls Tryz.prog 25 #[.pointer (some ⟨rb, 0, none⟩), .string t, .int .i64 k] w (WoP rb s t p n k true w) := by
  have hba : Below w.heap.size w (w.alloc (.cells #[.int .i64 0, .int .i64 0, .string ⟨#[]⟩, .slice none 0 0, .slice none 0 0] 26)) := (Below.refl _ _).alloc (Nat.le_refl _) _
  have hMa := h.new hba
  have HWa := Lib.hid (Whole.new w 26 [.int .i64 0, .int .i64 0, .string ⟨#[]⟩, .slice none 0 0, .slice none 0 0])
  change Hid (Whole (w.alloc (.cells #[.int .i64 0, .int .i64 0, .string ⟨#[]⟩, .slice none 0 0, .slice none 0 0] 26)) _ _ _) at HWa
  have HGa := Lib.hid (grown_below hba (some rb))
  have hbs : w.heap.size ≠ rb := by have := Whole.lt h; omega
  have hpI : (p : Int) ≤ (s.size : Int) := by omega
  have hp0 : (0 : Int) ≤ (p : Int) := by omega
  have hts : (t.size : Int) ≤ 10 := by omega
  have hwr : IntKind.i64.wrap ((s.size : Int) - (p : Int)) = (s.size : Int) - (p : Int) := IntWalk.i64_in _ (by omega)
  have hwr2 : IntKind.i64.wrap ((p : Int) + (t.size : Int)) = (p : Int) + (t.size : Int) := IntWalk.i64_in _ (by omega)
  have hpp2 : (p : Int) ≤ (p : Int) + (t.size : Int) := by omega
  have HMa := Lib.hid hMa
  have HF : Hid (∀ w2 e, Rw w2 rb s p e n → w.grownBy w2 (some rb) → Whole w2 w.heap.size 26 [.int .i64 0, .int .i64 0, .string ⟨#[]⟩, .slice none 0 0, .slice none 0 0] → ∀ x0 x1 x2 x3 x4,
      Rw ((((((w2.setCell ⟨rb, 1, none⟩ (.int .i64 ((p : Int) + (t.size : Int)))).setCell ⟨w.heap.size, 0, none⟩ x0).setCell ⟨w.heap.size, 1, none⟩ x1).setCell ⟨w.heap.size, 2, none⟩ x2).setCell ⟨w.heap.size, 3, none⟩ x3).setCell ⟨w.heap.size, 4, none⟩ x4) rb s (p + t.size) e n ∧
      w.grownBy ((((((w2.setCell ⟨rb, 1, none⟩ (.int .i64 ((p : Int) + (t.size : Int)))).setCell ⟨w.heap.size, 0, none⟩ x0).setCell ⟨w.heap.size, 1, none⟩ x1).setCell ⟨w.heap.size, 2, none⟩ x2).setCell ⟨w.heap.size, 3, none⟩ x3).setCell ⟨w.heap.size, 4, none⟩ x4) (some rb) ∧
      Whole ((((((w2.setCell ⟨rb, 1, none⟩ (.int .i64 ((p : Int) + (t.size : Int)))).setCell ⟨w.heap.size, 0, none⟩ x0).setCell ⟨w.heap.size, 1, none⟩ x1).setCell ⟨w.heap.size, 2, none⟩ x2).setCell ⟨w.heap.size, 3, none⟩ x3).setCell ⟨w.heap.size, 4, none⟩ x4) w.heap.size 26 [x0, x1, x2, x3, x4]) := Lib.hid (by
    intro w2 e h2 hg hW x0 x1 x2 x3 x4
    have a1 := h2.setP (p + t.size)
    rw [show (((p + t.size : Nat)) : Int) = (p : Int) + (t.size : Int) from by omega] at a1
    have a2 := gr_set hg 1 (.int .i64 ((p : Int) + (t.size : Int)))
    have a3 := Whole.kept hW (g1 w2 rb 1 (.int .i64 ((p : Int) + (t.size : Int)))) (fun e => hbs (Option.some.inj e).symm)
    have a4 := set5_grown (w2.setCell ⟨rb, 1, none⟩ (.int .i64 ((p : Int) + (t.size : Int)))) w.heap.size x0 x1 x2 x3 x4
    exact ⟨Whole.kept a1 a4 (fun e => hbs (Option.some.inj e)), gr_two a2 a4 (.inr (Nat.le_refl _)), set5_whole a3 x0 x1 x2 x3 x4⟩)
  clear h hba
  have hlI : ¬ ((s.size : Int) - (p : Int) < (t.size : Int)) := by omega
  have hxt : ((s.extract p ((p : Int) + (t.size : Int)).toNat).toList == t.toList) = true := by
    rw [show ((p : Int) + (t.size : Int)).toNat = p + t.size from by omega]; exact (ext_pre s t p (by omega)).trans hbb
  have hpt : (p : Int) + (t.size : Int) ≤ (s.size : Int) := by omega
  obtain ⟨f0, f1, f2, f3, f4⟩ := hMa.field
  clear f2 f3 f4 hMa hlen hbb
  go_enter Tryz.func25, Tryz.ntmps25
  go_wp2
  generalize w.alloc (.cells #[.int .i64 0, .int .i64 0, .string ⟨#[]⟩, .slice none 0 0, .slice none 0 0] 26) = wa at *
  go_quiet (fail)
  have hM2 := HMa.out.draws nq
  have HG2 := Lib.hid (gr_draws HGa.out nq)
  have HW2 := Lib.hid (Whole.below HWa.out (Go.Joins.below_draws _ _ nq) (Whole.lt HWa.out))
  generalize wa.drewN nq = w2 at *
  clear f0 f1 HMa HWa HGa
  have hlI2 : ¬ ((s.size : Int) - (p : Int) < (t.size : Int)) := by omega
  simp only [hlI2, decide_false]
  clear hxt hlI hlI2
  obtain ⟨f0, f1, f2, f3, f4⟩ := hM2.field
  have z1 := f4 1
  have c0 := HW2.out.cell 0
  have c1 := HW2.out.cell 1
  have c2 := HW2.out.cell 2
  have c3 := HW2.out.cell 3
  have c4 := HW2.out.cell 4
  simp only [List.getElem?_cons_zero, List.getElem?_cons_succ] at c0 c1 c2 c3 c4
  have y0 := HW2.out.frozen 0
  have y1 := HW2.out.frozen 1
  have y2 := HW2.out.frozen 2
  have y3 := HW2.out.frozen 3
  have y4 := HW2.out.frozen 4
  obtain ⟨r1, r2, r3⟩ := HF.out w2 0 hM2 HG2.out HW2.out (.int .i64 k) (.int .i64 0) (.string ⟨#[]⟩) (.slice none 0 0) (.slice none 0 0)
  have R1 := Lib.hid r1
  have R2 := Lib.hid r2
  have R3 := Lib.hid r3
  generalize w.heap.size = b0 at *
  clear hM2 f2 f3 f4 r1 r2 r3 HF
  go_wp2
  generalize ((((((w2.setCell ⟨rb, 1, none⟩ (.int .i64 ((p : Int) + (t.size : Int)))).setCell ⟨b0, 0, none⟩ (.int .i64 k)).setCell ⟨b0, 1, none⟩ (.int .i64 0)).setCell ⟨b0, 2, none⟩ (.string ⟨#[]⟩)).setCell ⟨b0, 3, none⟩ (.slice none 0 0)).setCell ⟨b0, 4, none⟩ (.slice none 0 0)) = w9 at *
  obtain ⟨k0, k1, k2, k3, k4⟩ := whole5 R3.out
  refine bodyPost_ret (v := .agg #[.int .i64 k, .int .i64 0, .string ⟨#[]⟩, .slice none 0 0, .slice none 0 0]) (by simp [results, Tryz.results25, go_sem, k0, k1, k2, k3, k4]) rfl ?_
  exact ⟨rfl, R2.out, R1.out⟩
theorem word_any (w : World) (rb : Nat) (s t : ByteArray) (p n : Nat) (k : Int) (h : Rw w rb s p 0 n) (hp : p ≤ s.size) (hs : s.size ≤ 1000000) (ht : t.size ≤ 10) :
    Calls Tryz.prog 25 #[.pointer (some ⟨rb, 0, none⟩), .string t, .int .i64 k] w (WoP rb s t p n k (Lib.hasPrefix (s.data.toList.drop p) t.data.toList) w) := by
  by_cases hlen : s.size < p + t.size
  · rw [ext_short s t p hlen hp]; exact word_short w rb s t p n k h hp hs ht hlen
  · cases hbb : Lib.hasPrefix (s.data.toList.drop p) t.data.toList
    · exact word_no w rb s t p n k h hp hs ht hlen hbb
    · exact word_yes w rb s t p n k h hp hs ht hlen hbb
end Go.Proofs.YtjcaffpmcgfhaaaGreatDoor.refW
