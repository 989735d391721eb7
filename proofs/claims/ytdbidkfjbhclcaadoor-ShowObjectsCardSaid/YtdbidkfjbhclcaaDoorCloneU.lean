/-
  Contracts: show.find, show.Get of an Object's own key.
-/
import Derived.Test.YtdbidkfjbhclcaaDoorCloneT
namespace Go.Proofs.YtdbidkfjbhclcaaDoor.cloneU
set_option linter.unusedSimpArgs false
set_option linter.unusedVariables false
open Go.ChangeShapes Go.WideShapes Go.ChangeAt Go.RowKit nodeP nodeQ nodeA cloneP owns cloneQ cloneR cloneS cloneT
/-- an Object of keys and kids -/
def obj (ks : List ByteArray) (cs : List Nd) : Nd := .mk 7 0 ByteArray.empty ks cs
/-- a value that lay there -/
def FdP (x : Nd) (B : Nat) (w : World) (e : Ending) (w' : World) : Prop := ∃ l', e = .returned (.tuple #[.agg l'.toArray, .bool true]) ∧ NodeAt w' B x l' ∧ Below w.heap.size w w'
/-- a value that lies there -/
def AtP (x : Nd) (w : World) (e : Ending) (w' : World) : Prop := ∃ l', e = .returned (.tuple #[.agg l'.toArray, .bool true]) ∧ NodeAt w' w'.heap.size x l' ∧ Below w.heap.size w w'
set_option maxHeartbeats 4000000 in
set_option maxRecDepth 100000 in
theorem find_at (ks : List ByteArray) (cs : List Nd) (m : Nat) (l : List Value) (w : World) (B : Nat) (hB : B ≤ w.heap.size) (hx : NodeAt w B (obj ks cs) l) (hl : ks.length = cs.length) (hm : m < cs.length) (hnd : ks.Nodup) :
    Calls Tryd.prog 22 #[.agg l.toArray, .string (ks.getD m ByteArray.empty)] w (FdP cs[m] B w) := by
  obtain ⟨kv, cv, rfl, _, _, _, hkv, hcv⟩ := hx.open
  obtain ⟨ak, ck, bk, offk, rfl, hmk, hak, hck, hsk⟩ := hkv
  obtain ⟨ao, cap, b, off, ls, rfl, hmm, ha, hc, hn⟩ := hcv
  obtain ⟨rfl, hbk⟩ := hak (by rintro rfl; simp at hl; omega)
  obtain ⟨rfl, hbs⟩ := ha (by rintro rfl; simp at hm)
  have hb : Below w.heap.size w ((w.alloc (.cells #[.int .i64 7, .int .i64 0, .string ByteArray.empty, .slice (some ⟨bk, offk, none⟩) ks.length ck, .slice (some ⟨b, off, none⟩) cs.length cap] 26)).alloc (.cells #[.int .i64 0, .int .i64 0, .string ByteArray.empty, .slice none 0 0, .slice none 0 0] 26)) := ((Below.refl _ w).alloc (Nat.le_refl _) _).alloc (by simp) _
  have hidx : Lib.idxOfS (ks.take ks.length) (ks.getD m ByteArray.empty) = (m : Int) := Lib.idxOfS_hit ks ks.length m _ (by omega) (Nat.le_refl _) rfl (fun j hj e => by
    rw [List.getD_eq_getElem?_getD, List.getD_eq_getElem?_getD, List.getElem?_eq_getElem (by omega), List.getElem?_eq_getElem (by omega)] at e
    exact List.pairwise_iff_getElem.1 hnd j m (by omega) (by omega) hj (by simpa using e))
  have HI := Lib.hid (Tryd.slices_Index_string bk offk ks.length ck ks (ks.getD m ByteArray.empty) _ (Nat.le_refl _) (by unfold maxLen at hmk; omega) (fun j hj => by rw [hb.cell (Nat.lt_of_lt_of_le hbk hB)]; exact hck j hj))
  rw [hidx] at HI
  obtain ⟨k', n', t', ak', lk', ck', ac', lc', cc', hkid, q0, q1, q2, q3, q4⟩ := kid_cells hc hn hm
  rw [← hb.cell (Nat.lt_of_lt_of_le hbs hB)] at q0 q1 q2 q3 q4
  have HK := Lib.hid hkid
  have HB := Lib.hid hb
  have hmI : (m : Int) < (cs.length : Int) := by omega
  have HMC := Lib.hid hmm
  clear hidx hkid hb hx hck hsk hmk hak ha hc hn hnd
  generalize cs[m] = x at *
  have hcl : (cs.length : Int) ≤ 9223372036854775807 := by unfold maxLen at hmm; omega
  clear hmm
  rw [hl] at HI q0 q1 q2 q3 q4 HB ⊢
  generalize cs.length = N at *
  generalize ks.getD m ByteArray.empty = s at *
  go_enter Tryd.func22, Tryd.ntmps22
  go_wp2_with fail
  refine HI.out.mono ?_
  rintro e w2 ⟨rfl, rfl⟩
  go_wp2
  have hc2 := Whole.new (w.alloc (.cells #[.int .i64 7, .int .i64 0, .string ByteArray.empty, .slice (some ⟨bk, offk, none⟩) N ck, .slice (some ⟨b, off, none⟩) N cap] 26)) 26 [.int .i64 k', .int .i64 n', .string t', .slice ak' lk' ck', .slice ac' lc' cc']
  have hs1 : (w.alloc (.cells #[.int .i64 7, .int .i64 0, .string ByteArray.empty, .slice (some ⟨bk, offk, none⟩) N ck, .slice (some ⟨b, off, none⟩) N cap] 26)).heap.size = w.heap.size + 1 := by simp
  rw [hs1] at hc2
  have hb3 : Below w.heap.size w ((w.alloc (.cells #[.int .i64 7, .int .i64 0, .string ByteArray.empty, .slice (some ⟨bk, offk, none⟩) N ck, .slice (some ⟨b, off, none⟩) N cap] 26)).alloc (.cells #[.int .i64 k', .int .i64 n', .string t', .slice ak' lk' ck', .slice ac' lc' cc'] 26)) := ((Below.refl _ w).alloc (Nat.le_refl _) _).alloc (by simp) _
  generalize (w.alloc (.cells #[.int .i64 7, .int .i64 0, .string ByteArray.empty, .slice (some ⟨bk, offk, none⟩) N ck, .slice (some ⟨b, off, none⟩) N cap] 26)).alloc (.cells #[.int .i64 k', .int .i64 n', .string t', .slice ak' lk' ck', .slice ac' lc' cc'] 26) = w9 at hc2 hb3 ⊢
  have k0 := hc2.cell 0
  have k1 := hc2.cell 1
  have k2 := hc2.cell 2
  have k3 := hc2.cell 3
  have k4 := hc2.cell 4
  simp only [List.getElem?_cons_zero, List.getElem?_cons_succ] at k0 k1 k2 k3 k4
  refine bodyPost_ret (v := .tuple #[.agg #[.int .i64 k', .int .i64 n', .string t', .slice ak' lk' ck', .slice ac' lc' cc'], .bool true]) (by simp [results, Tryd.results22, go_sem, k0, k1, k2, k3, k4]) rfl ?_
  exact ⟨_, rfl, HK.out.keep (Go.Joins.below_le hb3 hB), hb3⟩
set_option maxHeartbeats 4000000 in
set_option maxRecDepth 100000 in
theorem get_at (ks : List ByteArray) (cs : List Nd) (m : Nat) (l : List Value) (w : World) (hx : NodeAt w w.heap.size (obj ks cs) l) (hl : ks.length = cs.length) (hm : m < cs.length) (hnd : ks.Nodup) (hsz : (sz cs[m] : Int) ≤ 100000) :
    Calls Tryd.prog 13 #[.agg l.toArray, .string (ks.getD m ByteArray.empty)] w (AtP cs[m] w) := by
  obtain ⟨k, n, t, a1, n1, c1, a2, n2, c2, rfl⟩ := node_form (node_of_at hx)
  have hb : Below w.heap.size w ((w.alloc (.cells #[.int .i64 k, .int .i64 n, .string t, .slice a1 n1 c1, .slice a2 n2 c2] 26)).alloc (.cells #[.int .i64 0, .int .i64 0, .string ByteArray.empty, .slice none 0 0, .slice none 0 0] 26)) := ((Below.refl _ w).alloc (Nat.le_refl _) _).alloc (by simp) _
  have HF := Lib.hid (find_at ks cs m _ _ w.heap.size hb.size (hx.keep hb) hl hm hnd)
  have hW1 := Whole.new (w.alloc (.cells #[.int .i64 k, .int .i64 n, .string t, .slice a1 n1 c1, .slice a2 n2 c2] 26)) 26 [.int .i64 0, .int .i64 0, .string ByteArray.empty, .slice none 0 0, .slice none 0 0]
  have hsz1 : (w.alloc (.cells #[.int .i64 k, .int .i64 n, .string t, .slice a1 n1 c1, .slice a2 n2 c2] 26)).heap.size = w.heap.size + 1 := by simp
  rw [hsz1] at hW1
  have HB := Lib.hid hb
  have HW := Lib.hid hW1
  have hlt2 : ((w.alloc (.cells #[.int .i64 k, .int .i64 n, .string t, .slice a1 n1 c1, .slice a2 n2 c2] 26)).alloc (.cells #[.int .i64 0, .int .i64 0, .string ByteArray.empty, .slice none 0 0, .slice none 0 0] 26)).heap.size = w.heap.size + 2 := by simp
  have HL2 := Lib.hid hlt2
  have HSZ := Lib.hid hsz
  clear hsz
  clear hb hW1 hx hl hnd hsz1 hlt2
  generalize cs[m] = x at *
  generalize ks.getD m ByteArray.empty = s at *
  clear hm
  go_enter Tryd.func13, Tryd.ntmps13
  go_wp2_with fail
  refine HF.out.mono ?_
  rintro e w3 ⟨l', rfl, hk, hb3⟩
  have HB3 := Lib.hid (HB.out.trans (hb3.mono HB.out.size))
  have HW3 := Lib.hid (HW.out.below hb3 (by rw [HL2.out]; omega))
  have HS3 : Hid (w.heap.size + 2 ≤ w3.heap.size) := Lib.hid (by have := hb3.size; rw [HL2.out] at this; exact this)
  obtain ⟨k', n', t', ak', lk', ck', ac', lc', cc', rfl⟩ := node_form (node_of_at hk)
  have hb4 : Below w3.heap.size w3 (w3.alloc (.cells #[.int .i64 k', .int .i64 n', .string t', .slice ak' lk' ck', .slice ac' lc' cc'] 26)) := (Below.refl _ w3).alloc (Nat.le_refl _) _
  have HP := Lib.hid (plain_any (G0 := fun b => b < w.heap.size) x _ _ (fun b h => Nat.lt_of_lt_of_le h (Nat.le_trans HB3.out.size hb4.size)) (node_of_at (hk.keep (Go.Joins.below_le hb4 HB3.out.size))) HSZ.out)
  have HB4 := Lib.hid (HB3.out.trans (hb4.mono HB3.out.size))
  have HW4 := Lib.hid (HW3.out.below hb4 (by have := HS3.out; omega))
  have HS4 : Hid (w.heap.size + 2 ≤ (w3.alloc (.cells #[.int .i64 k', .int .i64 n', .string t', .slice ak' lk' ck', .slice ac' lc' cc'] 26)).heap.size) := Lib.hid (by have := HS3.out; have := hb4.size; omega)
  clear hk hb3 hb4
  go_wp2_with fail
  refine HP.out.mono ?_
  rintro e w5 ⟨l5, rfl, hn, hb5⟩
  obtain ⟨kk, nn, tt, b1, m1, d1, b2, m2, d2, rfl⟩ := node_form hn
  have HB5 := Lib.hid (HB4.out.trans (hb5.mono HB4.out.size))
  have hWR := HW4.out.below hb5 (by have := HS4.out; omega)
  have HN := Lib.hid hn
  have HS5 : Hid (w.heap.size + 2 ≤ w5.heap.size) := Lib.hid (by have := HS4.out; have := hb5.size; omega)
  clear hn hb5
  have a0 := hWR.cell 0
  have a1 := hWR.cell 1
  have a2 := hWR.cell 2
  have a3 := hWR.cell 3
  have a4 := hWR.cell 4
  simp only [List.getElem?_cons_zero, List.getElem?_cons_succ] at a0 a1 a2 a3 a4
  have y0 := hWR.frozen 0
  have y1 := hWR.frozen 1
  have y2 := hWR.frozen 2
  have y3 := hWR.frozen 3
  have y4 := hWR.frozen 4
  have HWR := Lib.hid hWR
  clear hWR
  go_wp2
  have hW6 : Whole (((((w5.setCell ⟨w.heap.size + 1, 0, none⟩ (.int .i64 kk)).setCell ⟨w.heap.size + 1, 1, none⟩ (.int .i64 nn)).setCell ⟨w.heap.size + 1, 2, none⟩ (.string tt)).setCell ⟨w.heap.size + 1, 3, none⟩ (.slice b1 m1 d1)).setCell ⟨w.heap.size + 1, 4, none⟩ (.slice b2 m2 d2)) (w.heap.size + 1) 26 [.int .i64 kk, .int .i64 nn, .string tt, .slice b1 m1 d1, .slice b2 m2 d2] :=
    ((((((HWR.out.set 0 (.int .i64 kk)).1.set 1 (.int .i64 nn)).1).set 2 (.string tt)).1.set 3 (.slice b1 m1 d1)).1.set 4 (.slice b2 m2 d2)).1
  have hB6 : Below w.heap.size w (((((w5.setCell ⟨w.heap.size + 1, 0, none⟩ (.int .i64 kk)).setCell ⟨w.heap.size + 1, 1, none⟩ (.int .i64 nn)).setCell ⟨w.heap.size + 1, 2, none⟩ (.string tt)).setCell ⟨w.heap.size + 1, 3, none⟩ (.slice b1 m1 d1)).setCell ⟨w.heap.size + 1, 4, none⟩ (.slice b2 m2 d2)) := by
    refine Below.setCell (Below.setCell (Below.setCell (Below.setCell (Below.setCell HB5.out ?_ _) ?_ _) ?_ _) ?_ _) ?_ _ <;> exact Nat.le_succ _
  have hS6 : ∀ b, b ≠ w.heap.size + 1 → (((((w5.setCell ⟨w.heap.size + 1, 0, none⟩ (.int .i64 kk)).setCell ⟨w.heap.size + 1, 1, none⟩ (.int .i64 nn)).setCell ⟨w.heap.size + 1, 2, none⟩ (.string tt)).setCell ⟨w.heap.size + 1, 3, none⟩ (.slice b1 m1 d1)).setCell ⟨w.heap.size + 1, 4, none⟩ (.slice b2 m2 d2)).heap[b]? = w5.heap[b]? := fun b hb => by
    rw [Below.heap_setCell _ _ _ b hb, Below.heap_setCell _ _ _ b hb, Below.heap_setCell _ _ _ b hb, Below.heap_setCell _ _ _ b hb, Below.heap_setCell _ _ _ b hb]
  have hZ6 : (((((w5.setCell ⟨w.heap.size + 1, 0, none⟩ (.int .i64 kk)).setCell ⟨w.heap.size + 1, 1, none⟩ (.int .i64 nn)).setCell ⟨w.heap.size + 1, 2, none⟩ (.string tt)).setCell ⟨w.heap.size + 1, 3, none⟩ (.slice b1 m1 d1)).setCell ⟨w.heap.size + 1, 4, none⟩ (.slice b2 m2 d2)).heap.size = w5.heap.size := by simp
  generalize (((((w5.setCell ⟨w.heap.size + 1, 0, none⟩ (.int .i64 kk)).setCell ⟨w.heap.size + 1, 1, none⟩ (.int .i64 nn)).setCell ⟨w.heap.size + 1, 2, none⟩ (.string tt)).setCell ⟨w.heap.size + 1, 3, none⟩ (.slice b1 m1 d1)).setCell ⟨w.heap.size + 1, 4, none⟩ (.slice b2 m2 d2)) = w9 at *
  have k0 := hW6.cell 0
  have k1 := hW6.cell 1
  have k2 := hW6.cell 2
  have k3 := hW6.cell 3
  have k4 := hW6.cell 4
  simp only [List.getElem?_cons_zero, List.getElem?_cons_succ] at k0 k1 k2 k3 k4
  refine bodyPost_ret (v := .tuple #[.agg #[.int .i64 kk, .int .i64 nn, .string tt, .slice b1 m1 d1, .slice b2 m2 d2], .bool true]) (by simp [results, Tryd.results13, go_sem, k0, k1, k2, k3, k4]) rfl ?_
  refine ⟨[.int .i64 kk, .int .i64 nn, .string tt, .slice b1 m1 d1, .slice b2 m2 d2], rfl, ?_, hB6⟩
  refine node_to_at (fun b hb => ?_) (HN.out.move (G' := fun b => b < w9.heap.size) fun b hb => ⟨hS6 b ?_, ?_⟩)
  · exact hb
  · rcases hb with ⟨_, h⟩ | ⟨h, _⟩
    · show b ≠ _; have : b < w.heap.size := h; omega
    · have := HS4.out; omega
  · rw [hZ6]
    have := HS5.out
    rcases hb with ⟨_, h⟩ | ⟨_, h⟩
    · have : b < w.heap.size := h; omega
    · exact h
end Go.Proofs.YtdbidkfjbhclcaaDoor.cloneU
