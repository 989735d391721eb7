/-
  show.writer.value at any right value; show.Text.
-/
import Derived.Test.YtdbidkfjbhclcaaDoorNodeL
namespace Go.Proofs.YtdbidkfjbhclcaaDoor.nodeM
open Go.ChangeShapes Go.WideShapes Go.ChangeAt Go.RowKit Go.WideMaps Go.Maps nodeP nodeQ nodeA nodeB nodeC nodeD nodeE nodeF nodeG nodeH nodeI nodeJ nodeK nodeL runesE bld
open errIs errs

set_option maxHeartbeats 1000000 in
set_option maxRecDepth 100000 in
theorem value_6 (n : Int) (t : ByteArray) (ks : List ByteArray) (cs : List Nd) (l : List Value) (w : World) (B b : Nat) (o q : List UInt8) (hx : NodeAt w B (.mk 6 n t ks cs) l) (hBw : B ≤ w.heap.size)
    (H : ∀ X, Calls Tryd.prog 30 #[.pointer (some ⟨b, 0, none⟩), .agg l.toArray, .int .u8 91, .int .u8 93] (w.alloc X) (WP B b o q (w.alloc X))) :
    Calls Tryd.prog 18 #[.pointer (some ⟨b, 0, none⟩), .agg l.toArray] w (WP B b o q w) := by
  obtain ⟨kv, cv, rfl, _, _, htm, hkv, hcv⟩ := hx.open
  obtain ⟨ao, cap, b', off, ls, rfl, hm, ha, hc, hn⟩ := hcv
  obtain ⟨ak, capk, bk, offk, rfl, hmk, hak, hck, hsk⟩ := hkv
  have HH := Lib.hid H
  have HR : Hid (∀ X, WR B b w (w.alloc X)) := Lib.hid (fun X => (WR.refl _ _ _).alloc hBw _)
  clear hx hc hn ha hck hak hsk hm hmk htm H
  go_enter Tryd.func18, Tryd.ntmps18
  go_wp2_with fail
  refine (HH.out _).mono ?_
  rintro e w3 ⟨rfl, h2, h3⟩
  have HW3 := Lib.hid h2
  have HR3 := Lib.hid ((HR.out _).trans h3)
  clear h2 h3
  go_wp2
  go_ret
  exact ⟨rfl, HW3.out, HR3.out⟩
set_option maxHeartbeats 1000000 in
set_option maxRecDepth 100000 in
theorem value_7 (n : Int) (t : ByteArray) (ks : List ByteArray) (cs : List Nd) (l : List Value) (w : World) (B b : Nat) (o q : List UInt8) (hx : NodeAt w B (.mk 7 n t ks cs) l) (hBw : B ≤ w.heap.size)
    (H : ∀ X, Calls Tryd.prog 30 #[.pointer (some ⟨b, 0, none⟩), .agg l.toArray, .int .u8 123, .int .u8 125] (w.alloc X) (WP B b o q (w.alloc X))) :
    Calls Tryd.prog 18 #[.pointer (some ⟨b, 0, none⟩), .agg l.toArray] w (WP B b o q w) := by
  obtain ⟨kv, cv, rfl, _, _, htm, hkv, hcv⟩ := hx.open
  obtain ⟨ao, cap, b', off, ls, rfl, hm, ha, hc, hn⟩ := hcv
  obtain ⟨ak, capk, bk, offk, rfl, hmk, hak, hck, hsk⟩ := hkv
  have HH := Lib.hid H
  have HR : Hid (∀ X, WR B b w (w.alloc X)) := Lib.hid (fun X => (WR.refl _ _ _).alloc hBw _)
  clear hx hc hn ha hck hak hsk hm hmk htm H
  go_enter Tryd.func18, Tryd.ntmps18
  go_wp2_with fail
  refine (HH.out _).mono ?_
  rintro e w3 ⟨rfl, h2, h3⟩
  have HW3 := Lib.hid h2
  have HR3 := Lib.hid ((HR.out _).trans h3)
  clear h2 h3
  go_wp2
  go_ret
  exact ⟨rfl, HW3.out, HR3.out⟩

theorem lim_le {a b : Nat} (h : Lim b) (hab : a ≤ b) : Lim a := by unfold Lim at h ⊢; omega
theorem size_mem {ks : List ByteArray} {k : ByteArray} (h : k ∈ ks) : k.size ≤ sumL ks := by
  induction ks with
  | nil => simp at h
  | cons a ks ih =>
    rw [sumL_cons]
    rcases List.mem_cons.1 h with rfl | h
    · omega
    · have := ih h; omega

theorem value_any (B b : Nat) (ad : Nat → Addr) : ∀ (x : Nd) (d : Nat), okAt x d = true → sz x ≤ 100000 → Kid B b ad x := by
  intro x
  induction x using Nd.ind with
  | _ k n t ks cs ih =>
  intro d hok hs l w o hx hBw h hlen hE
  have hE0 := hE w (Below.refl _ _)
  simp only [okAt, Bool.and_eq_true, oks_all, List.all_eq_true] at hok
  obtain ⟨h1, hkids⟩ := hok
  simp only [sz] at hs hlen
  have ihK : ∀ c ∈ cs, Kid B b ad c := fun c hc => ih c hc (d + 1) (hkids c hc) (by have := szs_mem hc; omega)
  have hk17 : 1 ≤ k ∧ k ≤ 7 := by
    unfold one at h1
    simp only [Bool.and_eq_true, decide_eq_true_eq] at h1
    exact h1.1.2
  have hX : ∀ X, Below B w (w.alloc X) := fun X => (Below.refl _ _).alloc hBw X
  rcases (show k = 1 ∨ k = 2 ∨ k = 3 ∨ k = 4 ∨ k = 5 ∨ k = 6 ∨ k = 7 by omega) with rfl | rfl | rfl | rfl | rfl | rfl | rfl
  · exact value_1 n t ks cs l w B b o ad hx hBw h (lim_le hlen (by omega)) hE0
  · exact value_2 n t ks cs l w B b o ad hx hBw h (lim_le hlen (by omega)) hE0
  · exact value_3 n t ks cs l w B b o ad hx hBw h (lim_le hlen (by omega)) hE0
  · exact value_4 n t ks cs l w B b o ad hx hBw h (lim_le hlen (by omega)) hE0
  · have hv : vld t = true := by
      simp [one] at h1
      exact h1.2.2
    exact value_5 n t ks cs l w B b o ad hx hBw h (lim_le hlen (by omega)) hE0 hv (by omega)
  · have e : tx (.mk 6 n t ks cs) = put6 cs cs.length ++ [93] := by simp [tx, put6]
    rw [e]
    exact value_6 n t ks cs l w B b o _ hx hBw (fun X => kids_6 n t ks cs l _ B b o ad (hx.keep (hX X)) (by simp; omega) (h.alloc X) (lim_le hlen (by omega)) (fun w' hb => hE w' ((hX X).trans hb)) ihK)
  · have hrk : rk 7 ks cs.length = true := by
      simp [one] at h1
      exact h1.2.2
    simp [rk] at hrk
    have e0 : ks.take cs.length = ks := by rw [← hrk.1.1]; exact List.take_length
    have e : tx (.mk 7 n t ks cs) = put7 ks cs cs.length ++ [125] := by simp [tx, put7, e0]
    rw [e]
    exact value_7 n t ks cs l w B b o _ hx hBw (fun X => kids_7 n t ks cs l _ B b o ad (hx.keep (hX X)) (by simp; omega) (h.alloc X) (lim_le hlen (by omega)) hrk.1.1 (fun k hk => hrk.2 k hk) (fun k hk => by have := size_mem hk; omega) (fun w' hb => hE w' ((hX X).trans hb)) ihK)

/-- what show.Text answers -/
def txV (ad : Nat → Addr) (x : Nd) : Value := if RT x = true then .tuple #[.string ⟨(tx x).toArray⟩, .nilIface] else .tuple #[.string ⟨#[]⟩, ev (ad 5)]

theorem tx_ne {x : Nd} (h : RT x = true) : tx x ≠ [] := by
  cases x with
  | mk k n t ks cs =>
  have hk : 1 ≤ k ∧ k ≤ 7 := by
    unfold RT at h
    simp only [okAt, one, Bool.and_eq_true, decide_eq_true_eq] at h
    exact h.1.1.1.2
  simp only [tx]
  have e1 : nodeQ.bytes "null" ≠ [] := by decide +kernel
  have e2 : nodeQ.bytes "false" ≠ [] := by decide +kernel
  have e3 : nodeQ.bytes "true" ≠ [] := by decide +kernel
  split
  · exact e1
  split
  · exact e2
  split
  · exact e3
  split
  · intro h0
    unfold Lib.itoa at h0
    split at h0
    · cases h0
    · have := Lib.decDigits_length n.toNat
      rw [h0] at this
      have h1 : 1 ≤ Lib.nDigits n.toNat := by unfold Lib.nDigits; split <;> omega
      simp at this; omega
  split
  · unfold quoteP.qt; simp
  split <;> simp

theorem fresh (w : World) : WB w.heap.size w.heap.size [] (w.alloc (.cells #[.pointer none, .slice none 0 0] 50)) :=
  .inl ⟨Nat.le_refl _, _, heap_alloc_new w _, World.ownsRowF_nil _ _ _ _, by simp [Value.ownBlock]⟩

set_option maxHeartbeats 1000000 in
set_option maxRecDepth 100000 in
theorem text_any (x : Nd) (l : List Value) (w : World) (ad : Nat → Addr) (hx : NodeAt w w.heap.size x l) (hE : Env w ad) (hs : sz x ≤ 100000) :
    Calls Tryd.prog 9 #[.agg l.toArray] w fun e w' => e = .returned (txV ad x) ∧ Below w.heap.size w w' := by
  have HX := Lib.hid hx
  have HE := Lib.hid hE
  have HS := Lib.hid hs
  have hxo := hx
  cases x with
  | mk k n t ks cs =>
  obtain ⟨kv, cv, rfl, _, _, htm, hkv, hcv⟩ := hx.open
  obtain ⟨ao, cap, b', off, ls, rfl, hm, ha, hc, hn⟩ := hcv
  obtain ⟨ak, capk, bk, offk, rfl, hmk, hak, hck, hsk⟩ := hkv
  clear hx hxo hc hn ha hck hak hsk hm hmk htm hE hs
  have HB0 : ∀ X, Below w.heap.size w (w.alloc X) := fun X => (Below.refl _ _).alloc (Nat.le_refl _) X
  have HRT := Lib.hid (fun X => Right_any (.mk k n t ks cs) _ (w.alloc X) (stays HX.out (HB0 X)) (HE.out.below (HB0 X)).tabs HS.out)
  have HVA := Lib.hid (fun B b d h => value_any B b ad (.mk k n t ks cs) d h HS.out)
  have HTN := Lib.hid (tx_ne (x := .mk k n t ks cs))
  have HOK : Hid (RT (.mk k n t ks cs) = true → okAt (.mk k n t ks cs) 0 = true) := Lib.hid (fun h => by unfold RT at h; rw [Bool.and_eq_true] at h; exact h.1)
  have HLM : Hid (Lim (0 + 30 * sz (.mk k n t ks cs))) := Lib.hid (by have := HS.out; unfold Lim; omega)
  have HT : Hid (txV ad (.mk k n t ks cs) = if RT (.mk k n t ks cs) = true then .tuple #[.string ⟨(tx (.mk k n t ks cs)).toArray⟩, .nilIface] else .tuple #[.string ⟨#[]⟩, ev (ad 5)]) := Lib.hid rfl
  have HBB := Lib.hid HB0
  clear HB0
  generalize hq : tx (.mk k n t ks cs) = q at *
  have Hq := Lib.hid hq
  clear hq
  go_enter Tryd.func9, Tryd.ntmps9
  go_wp2_with fail
  refine (HRT.out _).mono ?_
  rintro e w1 ⟨rfl, hb1⟩
  have HB1 := Lib.hid ((HBB.out _).trans (Go.Joins.below_le hb1 (by simp)))
  have bx := box_cell w #[.int .i64 k, .int .i64 n, .string t, .slice ak ks.length capk, .slice ao cs.length cap] 26
  have r0 : w1.cell? ⟨w.heap.size, 0, none⟩ = some (.int .i64 k) := (hb1.cell (by simp)).trans (bx 0)
  have r1 : w1.cell? ⟨w.heap.size, 1, none⟩ = some (.int .i64 n) := (hb1.cell (by simp)).trans (bx 1)
  have r2 : w1.cell? ⟨w.heap.size, 2, none⟩ = some (.string t) := (hb1.cell (by simp)).trans (bx 2)
  have r3 : w1.cell? ⟨w.heap.size, 3, none⟩ = some (.slice ak ks.length capk) := (hb1.cell (by simp)).trans (bx 3)
  have r4 : w1.cell? ⟨w.heap.size, 4, none⟩ = some (.slice ao cs.length cap) := (hb1.cell (by simp)).trans (bx 4)
  have hz : w.heap.size < w1.heap.size := by have := hb1.size; simp at this; omega
  clear hb1 bx
  cases hr : RT (.mk k n t ks cs)
  · have g5 : w1.cell? ⟨0, 0, none⟩ = some (ev (ad 5)) := (HE.out.below HB1.out).typ
    rw [hr] at HT
    clear r0 r1 r2 r3 r4
    go_wp2
    go_quiet (fail)
    all_goals (go_wp2; go_ret2; exact ⟨by rw [HT.out]; rfl, HB1.out.trans (Go.Joins.below_draws _ _ _)⟩)
  · rw [hr] at HT
    have HF := Lib.hid (fresh w1)
    have HB2 : Hid (∀ X, Below w1.heap.size w1 (w1.alloc X)) := Lib.hid (fun X => (Below.refl _ _).alloc (Nat.le_refl _) X)
    have HX1 := Lib.hid (HX.out.keep HB1.out)
    go_wp2_with fail
    refine (HVA.out w1.heap.size w1.heap.size 0 (HOK.out hr) _ _ [] ((HX1.out.keep (Go.Joins.below_le (HB2.out _) (by omega))).mono (by omega)) (by simp) HF.out HLM.out (fun w' h => HE.out.below (HB1.out.trans (Go.Joins.below_le ((HB2.out _).trans h) (by omega))))).mono ?_
    rintro e w2 ⟨rfl, h2, h3⟩
    have HW2 : Hid (WB w1.heap.size w1.heap.size q w2) := Lib.hid (by rw [← Hq.out]; exact h2)
    have HB3 := Lib.hid (HB1.out.trans (Go.Joins.below_le ((HB2.out _).trans h3.1) (by omega)))
    clear h2 h3 r0 r1 r2 r3 r4
    go_wp2_with fail
    refine (str w1.heap.size w1.heap.size q w2 HW2.out (HTN.out hr)).mono ?_
    rintro e w3 ⟨rfl, hb3⟩
    have HB4 := Lib.hid (HB3.out.trans (Go.Joins.below_le hb3 (by omega)))
    clear hb3
    go_wp2
    go_ret2
    exact ⟨by rw [HT.out]; rfl, HB4.out⟩
end Go.Proofs.YtdbidkfjbhclcaaDoor.nodeM
