/-
  What a call leaves of what lies below the reader's memory; contract of (*reader).blanks.
-/
import Derived.Test.YtdbidkfjbhclcaaDoorJsoM
import Derived.Test.YtdbidkfjbhclcaaDoorChecked
import Derived.Test.YtdbidkfjbhclcaaDoorIntM
import Derived.Test.YtdbidkfjbhclcaaDoorQuoM
import Derived.WalkKit
import Derived.ProofKit
import Derived.RegionTactic
import Derived.BigRegion
import Derived.Deep.QuietTactic
import Derived.BigQuiet
import Derived.IntWalk
import Derived.OwnWalk
import Derived.Handy
namespace Go.Proofs.YtdbidkfjbhclcaaDoor.jsonA
open Go.ChangeShapes Go.WideShapes Go.ChangeAt Go.RowKit Go.WideMaps Go.Maps nodeP nodeQ nodeS ownI jsonP jsonM jsonN jsonO
set_option linter.unusedSimpArgs false
set_option linter.unusedVariables false

structure Near (B rb : Nat) (w w' : World) : Prop where
  os : w'.os = w.os
  tape : w'.tape = w.tape
  output : w'.output = w.output
  size : w.heap.size ≤ w'.heap.size
  block : ∀ b, b < B → b ≠ rb → w'.heap[b]? = w.heap[b]?
theorem Near.refl (B rb : Nat) (w : World) : Near B rb w w := ⟨rfl, rfl, rfl, Nat.le_refl _, fun _ _ _ => rfl⟩
theorem Near.trans {B rb : Nat} {a b c : World} (h : Near B rb a b) (k : Near B rb b c) : Near B rb a c :=
  ⟨k.os.trans h.os, k.tape.trans h.tape, k.output.trans h.output, Nat.le_trans h.size k.size, fun j h1 h2 => (k.block j h1 h2).trans (h.block j h1 h2)⟩
theorem Near.below {B rb : Nat} {w w' : World} (h : Below B w w') : Near B rb w w' := ⟨h.os, h.tape, h.output, h.size, fun b hb _ => h.block b hb⟩
theorem Near.grown {B rb : Nat} {w w' : World} {row : Option Nat} (h : w.grownBy w' row) (hB : B ≤ w.heap.size) (hr : ∀ c, row = some c → B ≤ c ∨ c = rb) : Near B rb w w' :=
  ⟨h.os, h.tape, h.output, h.size, fun b h1 h2 => h.block b (by omega) (fun e => by rcases hr b e.symm with h | h; omega; exact h2 h)⟩
theorem Near.set {B rb : Nat} {w w' : World} (h : Near B rb w w') (j : Nat) (x : Value) : Near B rb w (w'.setCell ⟨rb, j, none⟩ x) :=
  h.trans ⟨rfl, rfl, rfl, by simp, fun b h1 h2 => Below.heap_setCell _ _ _ _ h2⟩
theorem Near.setB {B rb : Nat} {w w' : World} (h : Near B rb w w') {g : Nat} (hg : B ≤ g) (j : Nat) (x : Value) : Near B rb w (w'.setCell ⟨g, j, none⟩ x) :=
  h.trans ⟨rfl, rfl, rfl, by simp, fun b h1 h2 => Below.heap_setCell _ _ _ _ (by show b ≠ g; omega)⟩

theorem drop_at (s : ByteArray) {k : Nat} (h : k < s.size) : s.data.toList.drop k = s[k] :: s.data.toList.drop (k + 1) := by
  have hl : k < s.data.toList.length := by rw [Array.length_toList, ByteArray.size_data]; exact h
  rw [List.drop_eq_getElem_cons hl]; rfl
theorem drop_no (s : ByteArray) {k : Nat} (h : ¬ k < s.size) : s.data.toList.drop k = [] := List.drop_eq_nil_of_le (by rw [Array.length_toList, ByteArray.size_data]; omega)
theorem bs_yes {c : UInt8} {u : List UInt8} (h : isBl c = true) : bs (c :: u) = bs u := by unfold bs; rw [List.dropWhile_cons, if_pos h]
theorem bs_no {c : UInt8} {u : List UInt8} (h : isBl c = false) : bs (c :: u) = c :: u := by unfold bs; rw [List.dropWhile_cons, if_neg (by rw [h]; simp)]

/-- what blanks leaves -/
def BlP (B rb : Nat) (s : ByteArray) (p n d : Nat) (fr : Nat → Fr) (F : Ix → Thing) (P : Nat → Prop) (w : World) (e : Ending) (w' : World) : Prop :=
  e = .returned (.tuple #[.int .u8 (hd (bs (s.data.toList.drop p)) : Nat), .bool (decide (bs (s.data.toList.drop p) ≠ []))]) ∧ ∃ p', p ≤ p' ∧ p' ≤ s.size ∧ s.data.toList.drop p' = bs (s.data.toList.drop p) ∧ RM w' B rb s p' n d fr F P ∧ Near B rb w w'

theorem gs {a b c : World} {r : Option Nat} (h : a.grownBy b r) (k : b.grownBy c r) : a.grownBy c r :=
  ⟨k.os.trans h.os, k.tape.trans h.tape, k.output.trans h.output, Nat.le_trans h.size k.size, fun j hj hne => (k.block j (Nat.lt_of_lt_of_le hj h.size) hne).trans (h.block j hj hne)⟩
theorem g1 (w : World) (b j : Nat) (x : Value) : w.grownBy (w.setCell ⟨b, j, none⟩ x) (some b) := ⟨rfl, rfl, rfl, by simp, fun k _ hk => Below.heap_setCell _ _ _ _ (by intro e; exact hk (by rw [e]))⟩

set_option maxRecDepth 100000 in
set_option maxHeartbeats 4000000 in
/-- .. and nothing but the place is written -/
theorem blanks_grown (w : World) (B rb : Nat) (s : ByteArray) (p n d : Nat) (fr : Nat → Fr) (F : Ix → Thing) (P : Nat → Prop) (h : RM w B rb s p n d fr F P) (hp : p ≤ s.size) (hs : s.size ≤ 1000000) :
    Calls Tryd.prog 36 #[.pointer (some ⟨rb, 0, none⟩)] w (fun e w' => BlP B rb s p n d fr F P w e w' ∧ w.grownBy w' (some rb)) := by
  have HM := Lib.hid h
  have hrB := h.hB.1
  have hBw := h.hB.2
  clear h
  go_enter Tryd.func36, Tryd.ntmps36
  go_wp2
  go_loopw [2] (fun _ wr => ∃ k : Nat, p ≤ k ∧ k ≤ s.size ∧ RM wr B rb s k n d fr F P ∧ w.grownBy wr (some rb) ∧ Hid (bs (s.data.toList.drop k) = bs (s.data.toList.drop p))) (fun _ wr => s.size - (intOf ((wr.cell? ⟨rb, 1, none⟩).getD (.int .i64 0))).toNat)
  case atStart => exact ⟨p, Nat.le_refl _, hp, HM.out, ⟨rfl, rfl, rfl, Nat.le_refl _, fun _ _ _ => rfl⟩, Lib.hid rfl⟩
  case round =>
    clear HM
    obtain ⟨k, hpk, hk, hM, hN, hB⟩ := hrel
    have HM := Lib.hid hM
    have HN := Lib.hid hN
    obtain ⟨f0, f1, f2, f3, f4⟩ := hM.field
    have HF1 := Lib.hid f1
    clear f2 f3 f4 hM hN
    by_cases hlt : k < s.size
    · have hkI : (k : Int) < (s.size : Int) := by omega
      have hk0 : (0 : Int) ≤ (k : Int) := by omega
      have hdr := drop_at s hlt
      have HDR := Lib.hid hdr
      rw [hdr] at hB
      have hcn : s[k].toNat < 256 := s[k].toNat_lt
      by_cases hbl : isBl s[k] = true
      · have HB2 : Hid (bs (s.data.toList.drop (k + 1)) = bs (s.data.toList.drop p)) := Lib.hid (by rw [← hB.out, bs_yes hbl])
        have hcc : s[k].toNat = 9 ∨ s[k].toNat = 10 ∨ s[k].toNat = 13 ∨ s[k].toNat = 32 := by
          simp only [isBl, Bool.or_eq_true, beq_iff_eq] at hbl
          rcases hbl with ((h | h) | h) | h <;> rw [h] <;> simp
        clear hB hdr hbl HDR
        rcases hcc with hcc | hcc | hcc | hcc
        all_goals
          go_wp2
          go_quiet (fail)
          have hM1 := HM.out.new (Go.Joins.below_draws wr.heap.size wr nq)
          have HN1 := Lib.hid (gs HN.out (grown_below (Go.Joins.below_draws wr.heap.size wr nq) (some rb)))
          generalize wr.drewN nq = w1 at *
          clear f0 f1 HM HN
          have HM1 := Lib.hid hM1
          obtain ⟨f0, f1, f2, f3, f4⟩ := hM1.field
          clear hM1 f2 f3 f4
          go_wp2
          go_quiet (fail)
          have hM2 := HM1.out.new (Go.Joins.below_draws w1.heap.size w1 nq)
          have HN2 := Lib.hid (gs HN1.out (grown_below (Go.Joins.below_draws w1.heap.size w1 nq) (some rb)))
          generalize w1.drewN nq = w2 at *
          clear f0 f1 HM1 HN1
          have HM2 := Lib.hid (hM2.setP (k + 1))
          obtain ⟨f0, f1, f2, f3, f4⟩ := hM2.field
          have z1 := f4 1
          have HN3 := Lib.hid (gs HN2.out (g1 w2 rb 1 (.int .i64 ((k + 1 : Nat) : Int))))
          clear hM2 f2 f3 f4
          go_wp2
          go_roundw
          case rel => exact ⟨k + 1, by omega, by omega, HM2.out, HN3.out, HB2⟩
          case measure =>
            have e1 : (w2.setCell ⟨rb, 1, none⟩ (.int .i64 ((k : Int) + 1))).cell? ⟨rb, 1, none⟩ = some (.int .i64 ((k : Int) + 1)) := HM2.out.field.2.1
            have e2 := HF1.out
            simp only [e1, e2, Option.getD_some, intOf]
            omega
      · have hbl' : isBl s[k] = false := by simpa using hbl
        have HE : Hid (bs (s.data.toList.drop p) = s[k] :: s.data.toList.drop (k + 1)) := Lib.hid (by rw [← hB.out, bs_no hbl'])
        have n1 : s[k].toNat ≠ 9 := fun e => by have : s[k] = 9 := UInt8.toNat_inj.1 e; rw [this] at hbl'; cases hbl'
        have n2 : s[k].toNat ≠ 10 := fun e => by have : s[k] = 10 := UInt8.toNat_inj.1 e; rw [this] at hbl'; cases hbl'
        have n3 : s[k].toNat ≠ 13 := fun e => by have : s[k] = 13 := UInt8.toNat_inj.1 e; rw [this] at hbl'; cases hbl'
        have n4 : s[k].toNat ≠ 32 := fun e => by have : s[k] = 32 := UInt8.toNat_inj.1 e; rw [this] at hbl'; cases hbl'
        have m1 : ¬ ((s[k].toNat : Int) = 9) := by omega
        have m2 : ¬ ((s[k].toNat : Int) = 10) := by omega
        have m3 : ¬ ((s[k].toNat : Int) = 13) := by omega
        have m4 : ¬ ((s[k].toNat : Int) = 32) := by omega
        clear hB hdr hbl hbl' n1 n2 n3 n4
        go_wp2
        go_quiet (fail)
        have hM1 := HM.out.new (Go.Joins.below_draws wr.heap.size wr nq)
        have HN1 := Lib.hid (gs HN.out (grown_below (Go.Joins.below_draws wr.heap.size wr nq) (some rb)))
        generalize wr.drewN nq = w1 at *
        clear f0 f1 HM HN
        have HM1 := Lib.hid hM1
        obtain ⟨f0, f1, f2, f3, f4⟩ := hM1.field
        clear hM1 f2 f3 f4
        go_wp2
        go_quiet (fail)
        have hM2 := HM1.out.new (Go.Joins.below_draws w1.heap.size w1 nq)
        have HN2 := Lib.hid (gs HN1.out (grown_below (Go.Joins.below_draws w1.heap.size w1 nq) (some rb)))
        generalize w1.drewN nq = w2 at *
        clear f0 f1 HM1 HN1
        have HM2 := Lib.hid hM2
        obtain ⟨f0, f1, f2, f3, f4⟩ := hM2.field
        clear hM2 f2 f3 f4
        go_wp2
        go_quiet (fail)
        have hM3 := HM2.out.new (Go.Joins.below_draws w2.heap.size w2 nq)
        have HN3 := Lib.hid (gs HN2.out (grown_below (Go.Joins.below_draws w2.heap.size w2 nq) (some rb)))
        generalize w2.drewN nq = w3 at *
        clear f0 f1 HM2 HN2
        have HM3 := Lib.hid hM3
        clear hM3
        go_wp2
        go_ret2
        exact ⟨⟨by rw [HE.out]; rfl, k, hpk, hk, by rw [HE.out]; exact HDR.out, HM3.out, Near.grown HN3.out hBw (fun c e => .inr (Option.some.inj e).symm)⟩, HN3.out⟩
    · have hkI : ¬ ((k : Int) < (s.size : Int)) := by omega
      have HE : Hid (bs (s.data.toList.drop p) = []) := Lib.hid (by rw [← hB.out, drop_no s hlt]; rfl)
      have HDR := Lib.hid (drop_no s hlt)
      clear hB
      go_wp2
      go_quiet (fail)
      have hM1 := HM.out.new (Go.Joins.below_draws wr.heap.size wr nq)
      have HN1 := Lib.hid (gs HN.out (grown_below (Go.Joins.below_draws wr.heap.size wr nq) (some rb)))
      generalize wr.drewN nq = w1 at *
      clear f0 f1 HM HN
      have HM1 := Lib.hid hM1
      clear hM1
      go_wp2
      go_ret2
      exact ⟨⟨by rw [HE.out]; rfl, k, hpk, hk, by rw [HE.out]; exact HDR.out, HM1.out, Near.grown HN1.out hBw (fun c e => .inr (Option.some.inj e).symm)⟩, HN1.out⟩
theorem blanks_any (w : World) (B rb : Nat) (s : ByteArray) (p n d : Nat) (fr : Nat → Fr) (F : Ix → Thing) (P : Nat → Prop) (h : RM w B rb s p n d fr F P) (hp : p ≤ s.size) (hs : s.size ≤ 1000000) :
    Calls Tryd.prog 36 #[.pointer (some ⟨rb, 0, none⟩)] w (BlP B rb s p n d fr F P w) := (blanks_grown w B rb s p n d fr F P h hp hs).mono (fun _ _ h => h.1)
end Go.Proofs.YtdbidkfjbhclcaaDoor.jsonA
