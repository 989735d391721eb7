/-
  Contract: haversacknum.Long.
-/
import Derived.Test.YtdbidkfjbhclcaaDoorCloneV
namespace Go.Proofs.YtdbidkfjbhclcaaDoor.objA
set_option linter.unusedSimpArgs false
set_option linter.unusedVariables false
open Go.ChangeShapes Go.WideShapes Go.ChangeAt Go.RowKit nodeP nodeQ nodeA nodeB cloneP cloneU cloneV
theorem sumL_snoc (l : List ByteArray) (s : ByteArray) : sumL (l ++ [s]) = sumL l + s.size := by simp [sumL]
/-- what Long answers -/
def LoP (ks : List ByteArray) (w : World) (e : Ending) (w' : World) : Prop := ∃ b, e = .returned (.bool b) ∧ (∃ n, w' = w.drewN n) ∧ (b = false → (ks.length + sumL ks : Int) ≤ 2000)
set_option maxRecDepth 100000 in
theorem long_any (ks : List ByteArray) (kv : Value) (w : World) (hk : KeysAt w w.heap.size kv ks) (hl : (ks.length : Int) ≤ 100000) :
    Calls Tryd.prog 10 #[kv, .int .i64 2000] w (LoP ks w) := by
  obtain ⟨ak, ck, bk, offk, rfl, hmk, hak, hck, hsk⟩ := hk
  have HCK := Lib.hid hck
  have HAK := Lib.hid hak
  have HSK := Lib.hid hsk
  have hsz0 : Hid (sumL (ks.take 0) = 0) := Lib.hid rfl
  clear hck hak hsk hmk
  go_enter Tryd.func10, Tryd.ntmps10
  go_wp2
  go_loopw [5, 7, 10] (fun n _ i wr => ∃ m : Nat, m ≤ ks.length ∧ i = .int .i64 m ∧ (∃ z : Int, n = .int .i64 z ∧ 0 ≤ z ∧ z ≤ 2000 ∧ Hid (z = m + sumL (ks.take m))) ∧ ∃ nq, wr = w.drewN nq) (fun _ _ i _ => ks.length - (intOf i).toNat)
  case atStart => exact ⟨0, Nat.zero_le _, rfl, ⟨0, rfl, by omega, by omega, Lib.hid (by rw [hsz0.out]; rfl)⟩, 0, rfl⟩
  case round =>
    obtain ⟨m, hm1, rfl, ⟨z, rfl, hz0, hz1, hz⟩, nq, rfl⟩ := hrel
    by_cases hlt : m < ks.length
    · obtain ⟨rfl, hbs⟩ := HAK.out (by intro h0; rw [h0] at hlt; simp at hlt)
      have q : w.cell? ⟨bk, offk + m, none⟩ = some (.string (ks.getD m ByteArray.empty)) := HCK.out m hlt
      have hmx : (ks.getD m ByteArray.empty).size ≤ maxLen := HSK.out _ (by rw [List.getD_eq_getElem?_getD, List.getElem?_eq_getElem hlt]; exact List.getElem_mem hlt)
      have hstep := Lib.hid (take_snoc ks m ByteArray.empty hlt)
      have hmi : ((ks.getD m ByteArray.empty).size : Int) ≤ 9223372036854775807 := by unfold maxLen at hmx; omega
      clear hmx
      generalize ks.getD m ByteArray.empty = s at *
      by_cases h1 : (2000 : Int) < (s.size : Int)
      · go_wp2
        go_ret
        exact ⟨true, rfl, ⟨nq, rfl⟩, fun h => by cases h⟩
      · by_cases h2 : (2000 : Int) < z + (1 + (s.size : Int))
        · go_wp2
          go_ret
          exact ⟨true, rfl, ⟨nq, rfl⟩, fun h => by cases h⟩
        · have hN : Hid (z + (1 + (s.size : Int)) = ((m + 1 : Nat) : Int) + sumL (ks.take (m + 1))) := Lib.hid (by rw [hstep.out, sumL_snoc, hz.out]; push_cast; omega)
          have hn0 : (0 : Int) ≤ z + (1 + (s.size : Int)) := by omega
          have hn1 : z + (1 + (s.size : Int)) ≤ 2000 := by omega
          go_wp2
          go_roundw
          case rel => exact ⟨m + 1, by omega, by go_num, ⟨_, rfl, hn0, hn1, hN⟩, nq, rfl⟩
          case measure => simp [intOf]; omega
    · obtain rfl : m = ks.length := by omega
      have hN : Hid ((ks.length + sumL ks : Int) ≤ 2000) := Lib.hid (by have := hz.out; rw [List.take_length] at this; omega)
      go_wp2
      go_ret
      exact ⟨false, rfl, ⟨nq, rfl⟩, fun _ => hN.out⟩
end Go.Proofs.YtdbidkfjbhclcaaDoor.objA
