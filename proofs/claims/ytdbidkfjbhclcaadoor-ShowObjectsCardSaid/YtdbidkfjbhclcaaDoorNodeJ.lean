/-
  show.writer: value at numbers and strings; kids.
-/
import Derived.Test.YtdbidkfjbhclcaaDoorNodeI
import Derived.Deep.RegionWith
namespace Go.Proofs.YtdbidkfjbhclcaaDoor.nodeJ
open Go.ChangeShapes Go.WideShapes Go.ChangeAt Go.RowKit Go.WideMaps Go.Maps nodeP nodeQ nodeA nodeB nodeC nodeD nodeE nodeF nodeG nodeH nodeI runesE bld
open errIs errs

set_option maxHeartbeats 1000000 in
set_option maxRecDepth 100000 in
theorem value_4 (n : Int) (t : ByteArray) (ks : List ByteArray) (cs : List Nd) (l : List Value) (w : World) (B b : Nat) (o : List UInt8) (ad : Nat → Addr) (hx : NodeAt w B (.mk 4 n t ks cs) l) (hBw : B ≤ w.heap.size) (h : WB B b o w) (hlen : Lim (o.length + 20)) (hE : Env w ad) :
    Calls Tryd.prog 18 #[.pointer (some ⟨b, 0, none⟩), .agg l.toArray] w (WP B b o (Lib.itoa n) w) := by
  obtain ⟨kv, cv, rfl, _, hn64, htm, hkv, hcv⟩ := hx.open
  obtain ⟨ao, cap, b', off, ls, rfl, hm, ha, hc, hn⟩ := hcv
  obtain ⟨ak, capk, bk, offk, rfl, hmk, hak, hck, hsk⟩ := hkv
  have HW := Lib.hid h
  have HE := Lib.hid hE
  have H64 := Lib.hid hn64
  have HL : Hid (Lim (o.length + (Lib.itoa n).length)) := Lib.hid (by
    have := (intsP.itoa_len n hn64.1 hn64.2).2
    unfold Lim at hlen ⊢; omega)
  have HI : Hid (∀ w1, intsC.Pow w1 → Calls Tryd.prog 28 #[.int .i64 n] w1 fun e w' => e = .returned (.string ⟨(Lib.itoa n).toArray⟩) ∧ Below w1.heap.size w1 w') := Lib.hid (fun w1 hp => intsC.text_any n w1 hp hn64.1 hn64.2)
  generalize Lib.itoa n = q at *
  clear hx hc hn ha hck hak hsk hm hmk htm h hE hlen hn64
  go_enter Tryd.func18, Tryd.ntmps18
  go_wp2
  obtain ⟨w1, hw1⟩ : ∃ w1, w1 = w.alloc (.cells #[.int .i64 4, .int .i64 n, .string t, .slice ak ks.length capk, .slice ao cs.length cap] 26) := ⟨_, rfl⟩
  have b0 : w1.cell? ⟨w.heap.size, 0, none⟩ = some (.int .i64 4) := by rw [hw1]; exact box_cell w _ _ 0
  have b1 : w1.cell? ⟨w.heap.size, 1, none⟩ = some (.int .i64 n) := by rw [hw1]; exact box_cell w _ _ 1
  have HW1 : Hid (WB B b o w1) := Lib.hid (by rw [hw1]; exact HW.out.alloc _)
  have HR1 : Hid (WR B b w w1) := Lib.hid (by rw [hw1]; exact (WR.refl _ _ _).alloc hBw _)
  have HE1 : Hid (Env w1 ad) := Lib.hid (by rw [hw1]; exact HE.out.below ((Below.refl _ _).alloc (Nat.le_refl _) _))
  have hs1 : B ≤ w1.heap.size := by rw [hw1]; simp; omega
  rw [← hw1]
  clear hw1
  go_region_with (first
    | (go_at_call 28; refine (HI.out _ ?_).mono ?_; exact (HE1.out.below (Go.Joins.below_draws _ _ 1)).pow; rintro e w2 ⟨rfl, hb2⟩; have HW2 := Lib.hid ((HW1.out.below (Go.Joins.below_draws _ _ 1)).below hb2); have HR2 := Lib.hid ((HR1.out.trans (WR.of_below (Go.Joins.below_draws _ _ 1) hs1)).trans (WR.of_below hb2 hs1)); have hs2 : B ≤ w2.heap.size := (by have : w1.heap.size ≤ w2.heap.size := hb2.size; omega); clear hb2)
    | (go_at_call 27; refine (wString B b o q _ ?_ HL.out ?_).mono ?_; exact HW2.out; exact hs2; rintro e w3 ⟨rfl, h2, h3⟩; have HW3 := Lib.hid h2; have HR3 := Lib.hid (HR2.out.trans h3); clear h2 h3))
  go_wp2
  go_ret
  exact ⟨rfl, HW3.out, HR3.out⟩

set_option maxHeartbeats 1000000 in
set_option maxRecDepth 100000 in
theorem value_5 (n : Int) (t : ByteArray) (ks : List ByteArray) (cs : List Nd) (l : List Value) (w : World) (B b : Nat) (o : List UInt8) (ad : Nat → Addr) (hx : NodeAt w B (.mk 5 n t ks cs) l) (hBw : B ≤ w.heap.size) (h : WB B b o w) (hlen : Lim (o.length + (6 * t.size + 2))) (hE : Env w ad) (hv : vld t = true) (hts : t.size ≤ 100000) :
    Calls Tryd.prog 18 #[.pointer (some ⟨b, 0, none⟩), .agg l.toArray] w (WP B b o (quoteP.qt t.data.toList) w) := by
  obtain ⟨kv, cv, rfl, _, _, htm, hkv, hcv⟩ := hx.open
  obtain ⟨ao, cap, b', off, ls, rfl, hm, ha, hc, hn⟩ := hcv
  obtain ⟨ak, capk, bk, offk, rfl, hmk, hak, hck, hsk⟩ := hkv
  have HQ : Hid (∀ w1, WB B b o w1 → B ≤ w1.heap.size → Env w1 ad → Calls Tryd.prog 29 #[.pointer (some ⟨b, 0, none⟩), .string t] w1 fun e w' => e = .returned (.bool true) ∧ WB B b (o ++ quoteP.qt t.data.toList) w' ∧ WR B b w1 w') := Lib.hid (fun w1 h1 h2 h3 => quoted_any B b o t w1 ad h1 hv hts hlen h2 h3)
  have HB : ∀ X, Below w.heap.size w (w.alloc X) := fun X => (Below.refl _ _).alloc (Nat.le_refl _) X
  have HW : Hid (∀ X, WB B b o (w.alloc X)) := Lib.hid (fun X => h.alloc X)
  have HE : Hid (∀ X, Env (w.alloc X) ad) := Lib.hid (fun X => hE.below (HB X))
  have HR : Hid (∀ X, WR B b w (w.alloc X)) := Lib.hid (fun X => (WR.refl _ _ _).alloc hBw _)
  generalize quoteP.qt t.data.toList = q at *
  clear hx hc hn ha hck hak hsk hm hmk htm h hE hlen HB hts hv
  go_enter Tryd.func18, Tryd.ntmps18
  go_wp2_with fail
  refine (HQ.out _ (HW.out _) (by simp; omega) (HE.out _)).mono ?_
  rintro e w3 ⟨rfl, h2, h3⟩
  have HW3 := Lib.hid h2
  have HR3 := Lib.hid ((HR.out _).trans h3)
  clear h2 h3
  go_wp2
  go_ret
  exact ⟨rfl, HW3.out, HR3.out⟩

/-- what kids writes, after so many -/
def put6 (cs : List Nd) (m : Nat) : List UInt8 := 91 :: txs true (cs.take m)
def put7 (ks : List ByteArray) (cs : List Nd) (m : Nat) : List UInt8 := 123 :: txo true (ks.take m) (cs.take m)
theorem txs_snoc : ∀ (c : Nd) (cs : List Nd) (b : Bool), txs b (cs ++ [c]) = txs b cs ++ (sep (b && cs.isEmpty) ++ tx c)
  | c, [], b => by simp [txs]
  | c, a :: cs, b => by simp [txs, txs_snoc c cs false]
theorem txo_snoc : ∀ (k : ByteArray) (c : Nd) (ks : List ByteArray) (cs : List Nd) (b : Bool), ks.length = cs.length → txo b (ks ++ [k]) (cs ++ [c]) = txo b ks cs ++ (sep (b && cs.isEmpty) ++ (quoteP.qt k.data.toList ++ ([58] ++ tx c)))
  | k, c, [], [], b, _ => by simp [txo]
  | k, c, k' :: ks, a :: cs, b, h => by simp [txo, txo_snoc k c ks cs false (by simpa using h)]
theorem take_snoc' {α : Type} (l : List α) (m : Nat) (h : m < l.length) : l.take (m + 1) = l.take m ++ [l[m]] := by
  rw [List.take_succ_eq_append_getElem h]
theorem isEmpty_take {α : Type} (l : List α) (m : Nat) (h : m < l.length) : (l.take m).isEmpty = decide (m = 0) := by
  cases m with
  | zero => simp
  | succ m => cases l with
    | nil => simp at h
    | cons a l => simp
theorem put6_0 (cs : List Nd) : put6 cs 0 = [91] := by simp [put6, txs]
theorem put7_0 (ks : List ByteArray) (cs : List Nd) : put7 ks cs 0 = [123] := by simp [put7, txo]
theorem put6_step (cs : List Nd) (m : Nat) (h : m < cs.length) : put6 cs (m + 1) = put6 cs m ++ (sep (decide (m = 0)) ++ tx cs[m]) := by
  unfold put6; rw [take_snoc' cs m h, txs_snoc, isEmpty_take cs m h]; simp
theorem put7_step (ks : List ByteArray) (cs : List Nd) (m : Nat) (h : m < cs.length) (hk : ks.length = cs.length) : put7 ks cs (m + 1) = put7 ks cs m ++ (sep (decide (m = 0)) ++ (quoteP.qt (ks.getD m ByteArray.empty).data.toList ++ ([58] ++ tx cs[m]))) := by
  unfold put7; rw [take_snoc' cs m h, take_snoc ks m ByteArray.empty (by omega), txo_snoc _ _ _ _ _ (by simp; omega), isEmpty_take cs m h]; simp
end Go.Proofs.YtdbidkfjbhclcaaDoor.nodeJ
