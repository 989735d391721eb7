/-
  haversacklaw05.alive.
-/
import Derived.Test.YtdbidkfjbhclcaaDoorNodeM
namespace Go.Proofs.YtdbidkfjbhclcaaDoor.nodeN
open Go.ChangeShapes Go.WideShapes Go.ChangeAt Go.RowKit Go.WideMaps Go.Maps nodeP nodeQ nodeA nodeB nodeC nodeD nodeE nodeF nodeG nodeH nodeI nodeJ nodeK nodeL nodeM runesE bld
open errIs errs
set_option linter.unusedSimpArgs false
set_option linter.unusedVariables false

theorem nil_keys (w : World) (B : Nat) : KeysAt w B (.slice none 0 0) [] := ⟨none, 0, 0, 0, rfl, ⟨Nat.zero_le _, Nat.zero_le _⟩, fun h => absurd rfl h, fun i hi => absurd hi (Nat.not_lt_zero _), by simp⟩
theorem nil_kids (w : World) (B : Nat) : KidsAt w B (.slice none 0 0) [] := ⟨none, 0, 0, 0, fun _ => [], rfl, Nat.zero_le _, fun h => absurd rfl h, fun i hi => absurd hi (Nat.not_lt_zero _), fun i hi => absurd hi (Nat.not_lt_zero _)⟩
theorem in64 {z : Int} (h0 : -1000 ≤ z) (h1 : z ≤ 1000) : In64 z := by unfold In64; omega

def aS : ByteArray := ⟨#[97]⟩
def e0 : ByteArray := ⟨#[]⟩
def nNull : Nd := .mk 1 0 e0 [] []
def nOne : Nd := .mk 4 1 e0 [] []
def nObj : Nd := .mk 7 0 e0 [aS] [nNull]
def nEx : Nd := .mk 6 0 e0 [] [nOne, nObj]

theorem ex_rt : RT nEx = true := by
  have hv : vld aS = true := by decide +kernel
  have e1 : okAt nEx 0 = true := by
    simp [nEx, nOne, nObj, nNull, okAt, oks, one, rk, hv, e0, ByteArray.size]
  have e2 : count nEx = 4 := by simp [nEx, nOne, nObj, nNull, count, counts]
  unfold RT
  rw [e1, e2]; rfl
theorem ex_sz : sz nEx ≤ 100000 := by
  have h0 : e0.size = 0 := rfl
  have h1 : aS.size = 1 := rfl
  simp [nEx, nOne, nObj, nNull, sz, szs, sumL, h0, h1]
theorem ex_tx : tx nEx = [91, 49, 44, 123, 34, 97, 34, 58, 110, 117, 108, 108, 125, 93] := by
  have h1 : Lib.itoa 1 = [49] := by
    unfold Lib.itoa; rw [if_neg (by decide)]; exact Lib.decDigits_one (by decide)
  have h2 : quoteP.qt aS.data.toList = [34, 97, 34] := by decide +kernel
  have h3 : nodeQ.bytes "null" = [110, 117, 108, 108] := by decide +kernel
  simp [nEx, nOne, nObj, nNull, tx, txs, txo, sep, h1, h2, h3]

theorem ex_at (w : World) : NodeAt (((w.alloc (.cells #[.string aS] 9)).alloc (.cells #[.int .i64 1, .int .i64 0, .string e0, .slice none 0 0, .slice none 0 0] 26)).alloc (.cells #[.int .i64 4, .int .i64 1, .string e0, .slice none 0 0, .slice none 0 0, .int .i64 7, .int .i64 0, .string e0, .slice (some ⟨w.heap.size, 0, none⟩) 1 1, .slice (some ⟨w.heap.size + 1, 0, none⟩) 1 1] 26)) (w.heap.size + 1 + 1 + 1) nEx
    [.int .i64 6, .int .i64 0, .string e0, .slice none 0 0, .slice (some ⟨w.heap.size + 1 + 1, 0, none⟩) 2 2] := by
  generalize hw1 : w.alloc (.cells #[.string aS] 9) = w1
  generalize hw2 : w1.alloc (.cells #[.int .i64 1, .int .i64 0, .string e0, .slice none 0 0, .slice none 0 0] 26) = w2
  generalize hw3 : w2.alloc (.cells #[.int .i64 4, .int .i64 1, .string e0, .slice none 0 0, .slice none 0 0, .int .i64 7, .int .i64 0, .string e0, .slice (some ⟨w.heap.size, 0, none⟩) 1 1, .slice (some ⟨w.heap.size + 1, 0, none⟩) 1 1] 26) = w3
  have s1 : w1.heap.size = w.heap.size + 1 := by rw [← hw1]; simp
  have s2 : w2.heap.size = w.heap.size + 1 + 1 := by rw [← hw2]; simp [s1]
  have b3 : ∀ j, w3.cell? ⟨w.heap.size + 1 + 1, j, none⟩ = (#[.int .i64 4, .int .i64 1, .string e0, .slice none 0 0, .slice none 0 0, .int .i64 7, .int .i64 0, .string e0, .slice (some ⟨w.heap.size, 0, none⟩) 1 1, .slice (some ⟨w.heap.size + 1, 0, none⟩) 1 1] : Array Value)[j]? := by
    intro j; rw [← hw3, ← s2]; exact box_cell w2 _ _ j
  have b2 : ∀ j, w3.cell? ⟨w.heap.size + 1, j, none⟩ = (#[.int .i64 1, .int .i64 0, .string e0, .slice none 0 0, .slice none 0 0] : Array Value)[j]? := by
    intro j
    have hb : Below w2.heap.size w2 w3 := by rw [← hw3]; exact (Below.refl _ _).alloc (Nat.le_refl _) _
    rw [hb.cell (show w.heap.size + 1 < w2.heap.size by omega), ← hw2, ← s1]; exact box_cell w1 _ _ j
  have b1 : ∀ j, w3.cell? ⟨w.heap.size, j, none⟩ = (#[.string aS] : Array Value)[j]? := by
    intro j
    have hb : Below w1.heap.size w1 w3 := by rw [← hw3, ← hw2]; exact ((Below.refl _ _).alloc (Nat.le_refl _) _).alloc (by simp) _
    rw [hb.cell (show w.heap.size < w1.heap.size by omega), ← hw1]; exact box_cell w _ _ j
  have z0 : e0.size ≤ maxLen := by show 0 ≤ maxLen; exact Nat.zero_le _
  refine .shut ⟨in64 (by omega) (by omega), in64 (by omega) (by omega), z0⟩ (nil_keys _ _) ⟨some ⟨w.heap.size + 1 + 1, 0, none⟩, 2, w.heap.size + 1 + 1, 0, fun i => if i = 0 then [.int .i64 4, .int .i64 1, .string e0, .slice none 0 0, .slice none 0 0] else [.int .i64 7, .int .i64 0, .string e0, .slice (some ⟨w.heap.size, 0, none⟩) 1 1, .slice (some ⟨w.heap.size + 1, 0, none⟩) 1 1], rfl, by unfold maxLen; decide, fun _ => ⟨rfl, by omega⟩, ?_, ?_⟩
  · intro i hi j hj
    rw [b3]
    rcases (show i = 0 ∨ i = 1 by simp at hi; omega) with rfl | rfl
    · rcases (show j = 0 ∨ j = 1 ∨ j = 2 ∨ j = 3 ∨ j = 4 by omega) with rfl | rfl | rfl | rfl | rfl <;> rfl
    · rcases (show j = 0 ∨ j = 1 ∨ j = 2 ∨ j = 3 ∨ j = 4 by omega) with rfl | rfl | rfl | rfl | rfl <;> rfl
  · intro i hi
    rcases (show i = 0 ∨ i = 1 by simp at hi; omega) with rfl | rfl
    · exact .shut ⟨in64 (by omega) (by omega), in64 (by omega) (by omega), z0⟩ (nil_keys _ _) (nil_kids _ _)
    · refine .shut ⟨in64 (by omega) (by omega), in64 (by omega) (by omega), z0⟩ ⟨some ⟨w.heap.size, 0, none⟩, 1, w.heap.size, 0, rfl, by unfold maxLen; decide, fun _ => ⟨rfl, by omega⟩, ?_, ?_⟩ ⟨some ⟨w.heap.size + 1, 0, none⟩, 1, w.heap.size + 1, 0, fun _ => [.int .i64 1, .int .i64 0, .string e0, .slice none 0 0, .slice none 0 0], rfl, by unfold maxLen; decide, fun _ => ⟨rfl, by omega⟩, ?_, ?_⟩
      · intro i hi
        rw [b1]
        obtain rfl : i = 0 := by simp at hi; exact hi
        rfl
      · intro s hs; simp at hs; subst hs; show 1 ≤ maxLen; unfold maxLen; decide
      · intro i hi j hj
        obtain rfl : i = 0 := by simp at hi; exact hi
        rw [b2]
        rcases (show j = 0 ∨ j = 1 ∨ j = 2 ∨ j = 3 ∨ j = 4 by omega) with rfl | rfl | rfl | rfl | rfl <;> rfl
      · intro i hi
        obtain rfl : i = 0 := by simp at hi; exact hi
        exact .shut ⟨in64 (by omega) (by omega), in64 (by omega) (by omega), z0⟩ (nil_keys _ _) (nil_kids _ _)

theorem ex_text (w : World) (ad : Nat → Addr) (hE : Env w ad) : Calls Tryd.prog 9 #[.agg #[.int .i64 6, .int .i64 0, .string ⟨#[]⟩, .slice none 0 0, .slice (some ⟨w.heap.size + 1 + 1, 0, none⟩) 2 2]]
    (((w.alloc (.cells #[.string ⟨#[97]⟩] 9)).alloc (.cells #[.int .i64 1, .int .i64 0, .string ⟨#[]⟩, .slice none 0 0, .slice none 0 0] 26)).alloc (.cells #[.int .i64 4, .int .i64 1, .string ⟨#[]⟩, .slice none 0 0, .slice none 0 0, .int .i64 7, .int .i64 0, .string ⟨#[]⟩, .slice (some ⟨w.heap.size, 0, none⟩) 1 1, .slice (some ⟨w.heap.size + 1, 0, none⟩) 1 1] 26))
    fun e w' => e = .returned (.tuple #[.string ⟨#[91, 49, 44, 123, 34, 97, 34, 58, 110, 117, 108, 108, 125, 93]⟩, .nilIface]) ∧ Below w.heap.size w w' := by
  have h := ex_at w
  have hb : Below w.heap.size w (((w.alloc (.cells #[.string aS] 9)).alloc (.cells #[.int .i64 1, .int .i64 0, .string e0, .slice none 0 0, .slice none 0 0] 26)).alloc (.cells #[.int .i64 4, .int .i64 1, .string e0, .slice none 0 0, .slice none 0 0, .int .i64 7, .int .i64 0, .string e0, .slice (some ⟨w.heap.size, 0, none⟩) 1 1, .slice (some ⟨w.heap.size + 1, 0, none⟩) 1 1] 26)) :=
    (((Below.refl _ _).alloc (Nat.le_refl _) _).alloc (by simp) _).alloc (by simp; omega) _
  refine (text_any nEx _ _ ad (h.mono (by simp)) (hE.below hb) ex_sz).mono ?_
  rintro e w' ⟨rfl, hb'⟩
  refine ⟨?_, hb.trans (Go.Joins.below_le hb' hb.size)⟩
  unfold txV
  rw [if_pos ex_rt, ex_tx]

set_option maxRecDepth 100000 in
theorem alive (w : World) (ad : Nat → Addr) (hE : Env w ad) :
    Calls Tryd.prog 6 #[] w fun e w' => e = .returned (.bool true) ∧ Below w.heap.size w w' := by
  have HE := Lib.hid (ex_text w ad hE)
  have hn := intsC.neqlN
  clear hE
  go_enter Tryd.func6, Tryd.ntmps6
  go_wp2_with fail
  refine HE.out.mono ?_
  rintro e w1 ⟨rfl, hb⟩
  have HB := Lib.hid hb
  clear hb
  go_wp2
  go_ret
  exact ⟨rfl, HB.out⟩
end Go.Proofs.YtdbidkfjbhclcaaDoor.nodeN
