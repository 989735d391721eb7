/-
  Contract: show.plain.
-/
import Derived.Test.YtdbidkfjbhclcaaDoorCloneS
namespace Go.Proofs.YtdbidkfjbhclcaaDoor.cloneT
set_option linter.unusedSimpArgs false
set_option linter.unusedVariables false
open Go.ChangeShapes Go.WideShapes Go.ChangeAt Go.RowKit nodeP nodeQ nodeA cloneP owns cloneQ cloneR cloneS
variable {G0 : Nat → Prop}
set_option maxHeartbeats 4000000 in
set_option maxRecDepth 100000 in
theorem plain_any (x : Nd) (l : List Value) (w : World) (hG0 : ∀ b, G0 b → b < w.heap.size) (hx : NodeG w G0 x l) (hcn : (sz x : Int) ≤ 100000) :
    Calls Tryd.prog 20 #[.agg l.toArray] w (CloP x G0 w) := by
  obtain ⟨xk, xn, xt, xa1, xn1, xc1, xa2, xn2, xc2, rfl⟩ := node_form hx
  have hb : Below w.heap.size w ((w.alloc (.cells #[.int .i64 xk, .int .i64 xn, .string xt, .slice xa1 xn1 xc1, .slice xa2 xn2 xc2] 26)).alloc (.cells #[.int .i64 0, .int .i64 0, .string ByteArray.empty, .slice none 0 0, .slice none 0 0] 26)) := ((Below.refl _ w).alloc (Nat.le_refl _) _).alloc (by simp) _
  have HC := Lib.hid (clone_any (G0 := G0) x _ _ (fun b h => Nat.lt_of_lt_of_le (hG0 b h) hb.size) (hx.move fun b h => ⟨hb.block b (hG0 b h), h⟩) hcn)
  have HG0 := Lib.hid hG0
  clear hG0
  have HW1 := Lib.hid (Whole.new (w.alloc (.cells #[.int .i64 xk, .int .i64 xn, .string xt, .slice xa1 xn1 xc1, .slice xa2 xn2 xc2] 26)) 26 [.int .i64 0, .int .i64 0, .string ByteArray.empty, .slice none 0 0, .slice none 0 0])
  have HB0 := Lib.hid hb
  clear hb hx
  go_enter Tryd.func20, Tryd.ntmps20
  go_wp2_with fail
  refine HC.out.mono ?_
  rintro e w2 ⟨l', rfl, hn, hb2⟩
  have hsz1 : (w.alloc (.cells #[.int .i64 xk, .int .i64 xn, .string xt, .slice xa1 xn1 xc1, .slice xa2 xn2 xc2] 26)).heap.size = w.heap.size + 1 := by simp
  have hWR := HW1.out.below hb2 HW1.out.lt
  rw [hsz1] at hWR
  have HB2 := Lib.hid (HB0.out.trans (hb2.mono HB0.out.size))
  obtain ⟨k1, n1, t1, ak, lk, ck, ac, lc, cc, rfl⟩ := node_form hn
  have HND := Lib.hid hn
  have hsz2 : ((w.alloc (.cells #[.int .i64 xk, .int .i64 xn, .string xt, .slice xa1 xn1 xc1, .slice xa2 xn2 xc2] 26)).alloc (.cells #[.int .i64 0, .int .i64 0, .string ByteArray.empty, .slice none 0 0, .slice none 0 0] 26)).heap.size = w.heap.size + 2 := by simp
  rw [hsz2] at HND
  have HSZ := Lib.hid hb2.size
  rw [hsz2] at HSZ
  clear hsz2
  clear hn hb2
  have a0 := hWR.cell 0
  have a1 := hWR.cell 1
  have a2 := hWR.cell 2
  have a3 := hWR.cell 3
  have a4 := hWR.cell 4
  simp only [List.getElem?_cons_zero, List.getElem?_cons_succ] at a0 a1 a2 a3 a4
  have y0 := hWR.frozen 0
  have y1 := hWR.frozen 1
  have y2 := hWR.frozen 2
  have y3 := hWR.frozen 3
  have y4 := hWR.frozen 4
  have HWR := Lib.hid hWR
  clear hWR
  go_wp2
  have hW6 : Whole (((((w2.setCell ⟨w.heap.size + 1, 0, none⟩ (.int .i64 k1)).setCell ⟨w.heap.size + 1, 1, none⟩ (.int .i64 n1)).setCell ⟨w.heap.size + 1, 2, none⟩ (.string t1)).setCell ⟨w.heap.size + 1, 3, none⟩ (.slice ak lk ck)).setCell ⟨w.heap.size + 1, 4, none⟩ (.slice ac lc cc)) (w.heap.size + 1) 26 [.int .i64 k1, .int .i64 n1, .string t1, .slice ak lk ck, .slice ac lc cc] :=
    ((((((HWR.out.set 0 (.int .i64 k1)).1.set 1 (.int .i64 n1)).1).set 2 (.string t1)).1.set 3 (.slice ak lk ck)).1.set 4 (.slice ac lc cc)).1
  have hB6 : Below w.heap.size w (((((w2.setCell ⟨w.heap.size + 1, 0, none⟩ (.int .i64 k1)).setCell ⟨w.heap.size + 1, 1, none⟩ (.int .i64 n1)).setCell ⟨w.heap.size + 1, 2, none⟩ (.string t1)).setCell ⟨w.heap.size + 1, 3, none⟩ (.slice ak lk ck)).setCell ⟨w.heap.size + 1, 4, none⟩ (.slice ac lc cc)) := by
    refine Below.setCell (Below.setCell (Below.setCell (Below.setCell (Below.setCell HB2.out ?_ _) ?_ _) ?_ _) ?_ _) ?_ _ <;> exact Nat.le_succ _
  have hS6 : ∀ b, b ≠ w.heap.size + 1 → (((((w2.setCell ⟨w.heap.size + 1, 0, none⟩ (.int .i64 k1)).setCell ⟨w.heap.size + 1, 1, none⟩ (.int .i64 n1)).setCell ⟨w.heap.size + 1, 2, none⟩ (.string t1)).setCell ⟨w.heap.size + 1, 3, none⟩ (.slice ak lk ck)).setCell ⟨w.heap.size + 1, 4, none⟩ (.slice ac lc cc)).heap[b]? = w2.heap[b]? := fun b hb => by
    rw [Below.heap_setCell _ _ _ b hb, Below.heap_setCell _ _ _ b hb, Below.heap_setCell _ _ _ b hb, Below.heap_setCell _ _ _ b hb, Below.heap_setCell _ _ _ b hb]
  have hZ6 : (((((w2.setCell ⟨w.heap.size + 1, 0, none⟩ (.int .i64 k1)).setCell ⟨w.heap.size + 1, 1, none⟩ (.int .i64 n1)).setCell ⟨w.heap.size + 1, 2, none⟩ (.string t1)).setCell ⟨w.heap.size + 1, 3, none⟩ (.slice ak lk ck)).setCell ⟨w.heap.size + 1, 4, none⟩ (.slice ac lc cc)).heap.size = w2.heap.size := by simp
  generalize ((((w2.setCell ⟨w.heap.size + 1, 0, none⟩ (.int .i64 k1)).setCell ⟨w.heap.size + 1, 1, none⟩ (.int .i64 n1)).setCell ⟨w.heap.size + 1, 2, none⟩ (.string t1)).setCell ⟨w.heap.size + 1, 3, none⟩ (.slice ak lk ck)).setCell ⟨w.heap.size + 1, 4, none⟩ (.slice ac lc cc) = w9 at *
  have k0 := hW6.cell 0
  have k1' := hW6.cell 1
  have k2 := hW6.cell 2
  have k3 := hW6.cell 3
  have k4 := hW6.cell 4
  simp only [List.getElem?_cons_zero, List.getElem?_cons_succ] at k0 k1' k2 k3 k4
  refine bodyPost_ret (v := .agg #[.int .i64 k1, .int .i64 n1, .string t1, .slice ak lk ck, .slice ac lc cc]) (by simp [results, Tryd.results20, go_sem, k0, k1', k2, k3, k4]) rfl ?_
  refine ⟨[.int .i64 k1, .int .i64 n1, .string t1, .slice ak lk ck, .slice ac lc cc], rfl, ?_, hB6⟩
  refine HND.out.move fun b hb => ⟨hS6 b ?_, ?_⟩
  · rcases hb with ⟨_, h⟩ | ⟨h, _⟩
    · have := HG0.out b h; omega
    · omega
  · rw [hZ6]
    have := HSZ.out
    rcases hb with ⟨_, h⟩ | ⟨h1, h⟩
    · exact .inl ⟨HG0.out b h, h⟩
    · exact .inr ⟨by omega, h⟩
end Go.Proofs.YtdbidkfjbhclcaaDoor.cloneT
