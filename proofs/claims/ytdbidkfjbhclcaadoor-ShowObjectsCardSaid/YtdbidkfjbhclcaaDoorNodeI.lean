/-
  show.writer: value where a value contains no other one; kids.
-/
import Derived.Test.YtdbidkfjbhclcaaDoorNodeH
namespace Go.Proofs.YtdbidkfjbhclcaaDoor.nodeI
open Go.ChangeShapes Go.WideShapes Go.ChangeAt Go.RowKit Go.WideMaps Go.Maps nodeP nodeQ nodeA nodeB nodeC nodeD nodeE nodeF nodeG nodeH runesE bld
open errIs errs

/-- what writing a value comes to -/
def WP (B b : Nat) (o l : List UInt8) (w : World) (e : Ending) (w' : World) : Prop := e = .returned (.bool true) ∧ WB B b (o ++ l) w' ∧ WR B b w w'

set_option maxHeartbeats 1000000 in
set_option maxRecDepth 100000 in
theorem value_1 (n : Int) (t : ByteArray) (ks : List ByteArray) (cs : List Nd) (l : List Value) (w : World) (B b : Nat) (o : List UInt8) (ad : Nat → Addr) (hx : NodeAt w B (.mk 1 n t ks cs) l) (hBw : B ≤ w.heap.size) (h : WB B b o w) (hlen : Lim (o.length + 5)) (hE : Env w ad) :
    Calls Tryd.prog 18 #[.pointer (some ⟨b, 0, none⟩), .agg l.toArray] w (WP B b o (nodeQ.bytes "null") w) := by
  obtain ⟨kv, cv, rfl, _, _, htm, hkv, hcv⟩ := hx.open
  obtain ⟨ao, cap, b', off, ls, rfl, hm, ha, hc, hn⟩ := hcv
  obtain ⟨ak, capk, bk, offk, rfl, hmk, hak, hck, hsk⟩ := hkv
  have HW := Lib.hid h
  have hw0 := hE.wds.1
  have HL : Hid (Lim (o.length + (nodeQ.bytes "null").length)) := Lib.hid (by
    have : (nodeQ.bytes "null").length ≤ 5 := by decide +kernel
    unfold Lim at hlen ⊢; omega)
  generalize nodeQ.bytes "null" = q at *
  clear hx hc hn ha hck hak hsk hm hmk htm h hE hlen
  go_enter Tryd.func18, Tryd.ntmps18
  go_wp2
  obtain ⟨w1, hw1⟩ : ∃ w1, w1 = w.alloc (.cells #[.int .i64 1, .int .i64 n, .string t, .slice ak ks.length capk, .slice ao cs.length cap] 26) := ⟨_, rfl⟩
  have b0 : w1.cell? ⟨w.heap.size, 0, none⟩ = some (.int .i64 1) := by rw [hw1]; exact box_cell w _ _ 0
  have b1 : w1.cell? ⟨13, 1, none⟩ = some (.string ⟨q.toArray⟩) := by rw [hw1]; exact ((Below.refl w.heap.size w).alloc (Nat.le_refl _) _).cell (World.block_lt_of_cell? w _ hw0) |>.trans hw0
  have HW1 : Hid (WB B b o w1) := Lib.hid (by rw [hw1]; exact HW.out.alloc _)
  have HR1 : Hid (WR B b w w1) := Lib.hid (by rw [hw1]; exact (WR.refl _ _ _).alloc hBw _)
  have hs1 : B ≤ w1.heap.size := by rw [hw1]; simp; omega
  rw [← hw1]
  clear hw1 hw0
  go_still_tail 7, (by kernel_rfl)
  change wpList _ _ _ _ _ w1.drew
  go_wp2_with fail
  refine (wString B b o q w1.drew (HW1.out.below (Go.Joins.below_draws _ _ 1)) HL.out hs1).mono ?_
  rintro e w2 ⟨rfl, h2, h3⟩
  have HW2 := Lib.hid h2
  have HR2 := Lib.hid ((HR1.out.trans (WR.of_below (Go.Joins.below_draws _ _ 1) hs1)).trans h3)
  clear h2 h3
  go_wp2
  go_ret
  exact ⟨rfl, HW2.out, HR2.out⟩
set_option maxHeartbeats 1000000 in
set_option maxRecDepth 100000 in
theorem value_2 (n : Int) (t : ByteArray) (ks : List ByteArray) (cs : List Nd) (l : List Value) (w : World) (B b : Nat) (o : List UInt8) (ad : Nat → Addr) (hx : NodeAt w B (.mk 2 n t ks cs) l) (hBw : B ≤ w.heap.size) (h : WB B b o w) (hlen : Lim (o.length + 5)) (hE : Env w ad) :
    Calls Tryd.prog 18 #[.pointer (some ⟨b, 0, none⟩), .agg l.toArray] w (WP B b o (nodeQ.bytes "false") w) := by
  obtain ⟨kv, cv, rfl, _, _, htm, hkv, hcv⟩ := hx.open
  obtain ⟨ao, cap, b', off, ls, rfl, hm, ha, hc, hn⟩ := hcv
  obtain ⟨ak, capk, bk, offk, rfl, hmk, hak, hck, hsk⟩ := hkv
  have HW := Lib.hid h
  have hw0 := hE.wds.2.1
  have HL : Hid (Lim (o.length + (nodeQ.bytes "false").length)) := Lib.hid (by
    have : (nodeQ.bytes "false").length ≤ 5 := by decide +kernel
    unfold Lim at hlen ⊢; omega)
  generalize nodeQ.bytes "false" = q at *
  clear hx hc hn ha hck hak hsk hm hmk htm h hE hlen
  go_enter Tryd.func18, Tryd.ntmps18
  go_wp2
  obtain ⟨w1, hw1⟩ : ∃ w1, w1 = w.alloc (.cells #[.int .i64 2, .int .i64 n, .string t, .slice ak ks.length capk, .slice ao cs.length cap] 26) := ⟨_, rfl⟩
  have b0 : w1.cell? ⟨w.heap.size, 0, none⟩ = some (.int .i64 2) := by rw [hw1]; exact box_cell w _ _ 0
  have b1 : w1.cell? ⟨13, 2, none⟩ = some (.string ⟨q.toArray⟩) := by rw [hw1]; exact ((Below.refl w.heap.size w).alloc (Nat.le_refl _) _).cell (World.block_lt_of_cell? w _ hw0) |>.trans hw0
  have HW1 : Hid (WB B b o w1) := Lib.hid (by rw [hw1]; exact HW.out.alloc _)
  have HR1 : Hid (WR B b w w1) := Lib.hid (by rw [hw1]; exact (WR.refl _ _ _).alloc hBw _)
  have hs1 : B ≤ w1.heap.size := by rw [hw1]; simp; omega
  rw [← hw1]
  clear hw1 hw0
  go_still_tail 7, (by kernel_rfl)
  change wpList _ _ _ _ _ w1.drew
  go_wp2_with fail
  refine (wString B b o q w1.drew (HW1.out.below (Go.Joins.below_draws _ _ 1)) HL.out hs1).mono ?_
  rintro e w2 ⟨rfl, h2, h3⟩
  have HW2 := Lib.hid h2
  have HR2 := Lib.hid ((HR1.out.trans (WR.of_below (Go.Joins.below_draws _ _ 1) hs1)).trans h3)
  clear h2 h3
  go_wp2
  go_ret
  exact ⟨rfl, HW2.out, HR2.out⟩
set_option maxHeartbeats 1000000 in
set_option maxRecDepth 100000 in
theorem value_3 (n : Int) (t : ByteArray) (ks : List ByteArray) (cs : List Nd) (l : List Value) (w : World) (B b : Nat) (o : List UInt8) (ad : Nat → Addr) (hx : NodeAt w B (.mk 3 n t ks cs) l) (hBw : B ≤ w.heap.size) (h : WB B b o w) (hlen : Lim (o.length + 5)) (hE : Env w ad) :
    Calls Tryd.prog 18 #[.pointer (some ⟨b, 0, none⟩), .agg l.toArray] w (WP B b o (nodeQ.bytes "true") w) := by
  obtain ⟨kv, cv, rfl, _, _, htm, hkv, hcv⟩ := hx.open
  obtain ⟨ao, cap, b', off, ls, rfl, hm, ha, hc, hn⟩ := hcv
  obtain ⟨ak, capk, bk, offk, rfl, hmk, hak, hck, hsk⟩ := hkv
  have HW := Lib.hid h
  have hw0 := hE.wds.2.2
  have HL : Hid (Lim (o.length + (nodeQ.bytes "true").length)) := Lib.hid (by
    have : (nodeQ.bytes "true").length ≤ 5 := by decide +kernel
    unfold Lim at hlen ⊢; omega)
  generalize nodeQ.bytes "true" = q at *
  clear hx hc hn ha hck hak hsk hm hmk htm h hE hlen
  go_enter Tryd.func18, Tryd.ntmps18
  go_wp2
  obtain ⟨w1, hw1⟩ : ∃ w1, w1 = w.alloc (.cells #[.int .i64 3, .int .i64 n, .string t, .slice ak ks.length capk, .slice ao cs.length cap] 26) := ⟨_, rfl⟩
  have b0 : w1.cell? ⟨w.heap.size, 0, none⟩ = some (.int .i64 3) := by rw [hw1]; exact box_cell w _ _ 0
  have b1 : w1.cell? ⟨13, 3, none⟩ = some (.string ⟨q.toArray⟩) := by rw [hw1]; exact ((Below.refl w.heap.size w).alloc (Nat.le_refl _) _).cell (World.block_lt_of_cell? w _ hw0) |>.trans hw0
  have HW1 : Hid (WB B b o w1) := Lib.hid (by rw [hw1]; exact HW.out.alloc _)
  have HR1 : Hid (WR B b w w1) := Lib.hid (by rw [hw1]; exact (WR.refl _ _ _).alloc hBw _)
  have hs1 : B ≤ w1.heap.size := by rw [hw1]; simp; omega
  rw [← hw1]
  clear hw1 hw0
  go_still_tail 7, (by kernel_rfl)
  change wpList _ _ _ _ _ w1.drew
  go_wp2_with fail
  refine (wString B b o q w1.drew (HW1.out.below (Go.Joins.below_draws _ _ 1)) HL.out hs1).mono ?_
  rintro e w2 ⟨rfl, h2, h3⟩
  have HW2 := Lib.hid h2
  have HR2 := Lib.hid ((HR1.out.trans (WR.of_below (Go.Joins.below_draws _ _ 1) hs1)).trans h3)
  clear h2 h3
  go_wp2
  go_ret
  exact ⟨rfl, HW2.out, HR2.out⟩
end Go.Proofs.YtdbidkfjbhclcaaDoor.nodeI
