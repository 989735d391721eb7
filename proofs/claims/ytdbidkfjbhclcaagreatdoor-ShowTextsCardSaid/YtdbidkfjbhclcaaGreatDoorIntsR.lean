/-
  The contract of the reference's Text; the laws IntsTexts and IntsBehind return true.
-/
import Derived.Test.YtdbidkfjbhclcaaGreatDoorIntM
import Derived.Laws.BytesArg
import Derived.Handy
namespace Go.Proofs.YtdbidkfjbhclcaaGreatDoor.intsR
open Go.ChangeShapes Go.WideShapes Go.ChangeAt Go.RowKit intsP intsA intsB intsC errIs errs

theorem wf_bd {n : Int} (h : (Lit.int .i64 n).wf = true) : -9223372036854775808 ≤ n ∧ n ≤ 9223372036854775807 := by
  have h1 : IntKind.i64.min = -9223372036854775808 := rfl
  have h2 : IntKind.i64.max = 9223372036854775807 := rfl
  simp only [Lit.wf, Bool.and_eq_true, decide_eq_true_eq] at h
  omega
theorem one_str (w : World) (x : Int) (c : UInt8) (h : UInt8.ofNat x.toNat = c) :
    (convert 40 9 (.slice (some ⟨w.heap.size, 0, none⟩) 1 1)).run Tryz.prog (w.alloc (.cells #[.int .u8 x] 5)) = .ok (.string ⟨#[c]⟩) (w.alloc (.cells #[.int .u8 x] 5)) := by
  have e : (⟨#[c]⟩ : ByteArray) = strOfNums [x] := by simp only [strOfNums, List.map_cons, List.map_nil, h]
  rw [e]
  refine run_convert_bytes_arg (P := Tryz.prog) _ 40 5 Tryz.underlying40 Tryz.underlying5 w.heap.size 0 1 1 [x] rfl ?_ 9 Tryz.underlying9
  intro i hi
  rw [World.cell?_alloc_mark]
  obtain rfl : i = 0 := by have : i < 1 := hi; omega
  rfl
theorem mkC (c : UInt8) (d : List UInt8) : (⟨#[c]⟩ : ByteArray) ++ ⟨d.toArray⟩ = ⟨(c :: d).toArray⟩ := by
  have : ((⟨#[c]⟩ : ByteArray) ++ ⟨d.toArray⟩).data = (c :: d).toArray := by simp [ByteArray.data_append]
  cases h : (⟨#[c]⟩ : ByteArray) ++ ⟨d.toArray⟩ with
  | mk d' => rw [h] at this; simp only at this; rw [this]
theorem neg_tm (m : Nat) : (-(m : Int)).tmod 10 = -((m % 10 : Nat) : Int) := by
  rw [Int.neg_tmod, Int.tmod_eq_emod_of_nonneg (by omega)]; rfl
theorem neg_td (m : Nat) : (-(m : Int)).tdiv 10 = -((m / 10 : Nat) : Int) := by
  rw [Int.neg_tdiv, Int.tdiv_eq_ediv_of_nonneg (by omega)]; rfl

set_option maxRecDepth 100000 in
theorem rtext_neg (u : Nat) (w : World) (h0 : 0 < u) (h1 : (u : Int) ≤ 9223372036854775808) :
    Calls Tryz.prog 17 #[.int .i64 (-(u : Int))] w fun e w' => e = .returned (.string ⟨(45 :: Lib.decDigits u).toArray⟩) ∧ Below w.heap.size w w' := by
  have hlt : -(u : Int) < 0 := by omega
  have hdl : (Lib.decDigits u).length ≤ 19 := dec_len 18 u (by have : (10 : Nat) ^ (18 + 1) = 10000000000000000000 := by decide
                                                               omega)
  go_enter Tryz.func17, Tryz.ntmps17
  go_wp2
  go_loopw [0, 3] (fun z sv wr => ∃ (m : Nat) (d : List UInt8), z = .int .i64 (-(m : Int)) ∧ sv = .string ⟨d.toArray⟩ ∧ (m : Int) ≤ 9223372036854775808 ∧ Below w.heap.size w wr ∧ Hid (Lib.decDigits u = decZ m ++ d)) (fun z _ _ => (intOf z).natAbs)
  case atStart => exact ⟨u, [], rfl, rfl, h1, Below.refl _ _, Lib.hid (by unfold decZ; rw [if_neg (by omega), List.append_nil])⟩
  case round =>
    obtain ⟨m, d, rfl, rfl, hm, hb, hd⟩ := hrel
    have HB := Lib.hid hb
    have hsz := hb.size
    have hX : (⟨d.toArray⟩ : ByteArray).size ≤ 19 := by
      show d.toArray.size ≤ 19
      have := congrArg List.length hd.out
      rw [List.length_append] at this
      simp only [List.size_toArray]; omega
    clear hb
    by_cases hz : m = 0
    · have hN : Hid (Lib.decDigits u = d) := Lib.hid (by rw [hd.out, hz]; rfl)
      have q1 : (-(m : Int) != 0) = false := by rw [hz]; rfl
      have HS : Hid ((⟨#[45]⟩ : ByteArray) ++ ⟨d.toArray⟩ = ⟨(45 :: Lib.decDigits u).toArray⟩) := Lib.hid (by rw [mkC, hN.out])
      generalize (⟨d.toArray⟩ : ByteArray) = X at *
      clear hz hd
      go_wp2
      go_ret
      exact ⟨by rw [← HS.out]; rfl, HB.out⟩
    · have q1 : (-(m : Int) != 0) = true := by rw [bne_iff_ne]; omega
      have hgo := decZ_go m (by omega)
      have hN : Hid (Lib.decDigits u = decZ (m / 10) ++ (UInt8.ofNat (48 + m % 10) :: d)) := Lib.hid (by rw [hd.out, hgo, List.append_assoc]; rfl)
      have e1 := neg_tm m
      have e2 := neg_td m
      have hq10 : m / 10 < m := by omega
      have hr10 : m % 10 < 10 := by omega
      generalize m / 10 = q at *
      generalize m % 10 = r at *
      have hcv := one_str wr (48 + (r : Int)) (UInt8.ofNat (48 + r)) (by congr 1)
      have HS : Hid ((⟨#[UInt8.ofNat (48 + r)]⟩ : ByteArray) ++ ⟨d.toArray⟩ = ⟨(UInt8.ofNat (48 + r) :: d).toArray⟩) := Lib.hid (mkC _ _)
      generalize (⟨d.toArray⟩ : ByteArray) = X at *
      generalize UInt8.ofNat (48 + r) = c at *
      clear hgo hd hz
      go_wp2
      go_roundw
      case rel => exact ⟨q, c :: d, rfl, congrArg Value.string HS.out, by omega, HB.out.alloc hsz _, hN⟩
      case measure => simp [intOf]; omega

def msr (z sv : Value) : Nat := (intOf z).toNat + (match sv with | .string x => if x.size = 0 then 1 else 0 | _ => 0)
theorem emp_yes (d : List UInt8) (h : d = []) : (⟨d.toArray⟩ : ByteArray).toList.isEmpty = true := by rw [Go.ByteArray.toList_eq]; subst h; rfl
theorem empty_list (B : ByteArray) (h : ¬ 0 < B.size) : B.data.toList = [] := List.eq_nil_of_length_eq_zero (by rw [Array.length_toList, ByteArray.size_data]; omega)
theorem full_list (B : ByteArray) (h : 0 < B.size) : B.data.toList ≠ [] := by
  intro e
  have := congrArg List.length e
  rw [Array.length_toList, ByteArray.size_data, List.length_nil] at this
  omega
theorem emp_no (d : List UInt8) (h : d ≠ []) : (⟨d.toArray⟩ : ByteArray).toList.isEmpty = false := by
  rw [Go.ByteArray.toList_eq]; simpa using h
set_option maxRecDepth 100000 in
theorem rtext_pos (u : Nat) (w : World) (h1 : (u : Int) ≤ 9223372036854775807) :
    Calls Tryz.prog 17 #[.int .i64 (u : Int)] w fun e w' => e = .returned (.string ⟨(Lib.decDigits u).toArray⟩) ∧ Below w.heap.size w w' := by
  have hlt : ¬ (u : Int) < 0 := by omega
  have hdl : (Lib.decDigits u).length ≤ 19 := dec_len 18 u (by have : (10 : Nat) ^ (18 + 1) = 10000000000000000000 := by decide
                                                               omega)
  go_enter Tryz.func17, Tryz.ntmps17
  go_wp2
  go_loopw [0, 4] (fun z sv wr => ∃ (m : Nat) (d : List UInt8), z = .int .i64 (m : Int) ∧ sv = .string ⟨d.toArray⟩ ∧ (m : Int) ≤ 9223372036854775807 ∧ Below w.heap.size w wr ∧ Hid ((d = [] ∧ m = u) ∨ (d ≠ [] ∧ Lib.decDigits u = decZ m ++ d))) (fun z sv _ => msr z sv)
  case atStart => exact ⟨u, [], rfl, rfl, h1, Below.refl _ _, Lib.hid (Or.inl ⟨rfl, rfl⟩)⟩
  case round =>
    obtain ⟨m, d, rfl, rfl, hm, hb, hd⟩ := hrel
    have HB := Lib.hid hb
    have hsz := hb.size
    have hX : (⟨d.toArray⟩ : ByteArray).size ≤ 19 := by
      show d.toArray.size ≤ 19
      rcases hd.out with ⟨h, _⟩ | ⟨_, h⟩
      · rw [h]; simp
      · have := congrArg List.length h
        rw [List.length_append] at this
        simp only [List.size_toArray]; omega
    clear hb
    by_cases hz : m = 0
    · by_cases he : d = []
      · have hu : u = 0 := by
          rcases hd.out with ⟨_, h⟩ | ⟨h, _⟩
          · omega
          · exact absurd he h
        have q0 : ¬ (0 : Int) < m := by omega
        have q1 := emp_yes d he
        have hN : Hid (Lib.decDigits u = decZ 0 ++ [48]) := Lib.hid (by rw [hu, dec_small (by omega)]; rfl)
        have e1 : (m : Int) % 10 = 0 := by rw [hz]; rfl
        have e2 : (m : Int) / 10 = 0 := by rw [hz]; rfl
        have hcv := one_str wr 48 48 rfl
        have HS : Hid ((⟨#[48]⟩ : ByteArray) ++ ⟨d.toArray⟩ = ⟨[48].toArray⟩) := Lib.hid (by rw [mkC, he])
        have HM : Hid (msr (.int .i64 0) (.string ⟨[48].toArray⟩) < msr (.int .i64 (m : Int)) (.string ⟨d.toArray⟩)) := Lib.hid (by
          rw [hz, he]; decide)
        generalize (⟨d.toArray⟩ : ByteArray) = X at *
        clear hz hd he hu
        go_wp2
        go_roundw
        case rel => exact ⟨0, [48], rfl, congrArg Value.string HS.out, by omega, HB.out.alloc hsz _, Lib.hid (Or.inr ⟨by simp, hN.out⟩)⟩
        case measure => rw [HS.out]; exact HM.out
      · have hN : Hid (Lib.decDigits u = d) := Lib.hid (by
          rcases hd.out with ⟨h, _⟩ | ⟨_, h⟩
          · exact absurd h he
          · rw [h, hz]; rfl)
        have q0 : ¬ (0 : Int) < m := by omega
        have q1 := emp_no d he
        have HX : Hid ((⟨d.toArray⟩ : ByteArray) = ⟨(Lib.decDigits u).toArray⟩) := Lib.hid (by rw [hN.out])
        generalize (⟨d.toArray⟩ : ByteArray) = X at *
        clear hz hd he
        go_wp2
        go_ret
        exact ⟨by rw [← HX.out]; rfl, HB.out⟩
    · have hgo := decZ_go m (by omega)
      have q0 : (0 : Int) < m := by omega
      have hN : Hid (Lib.decDigits u = decZ (m / 10) ++ (UInt8.ofNat (48 + m % 10) :: d)) := Lib.hid (by
        rcases hd.out with ⟨h, h2⟩ | ⟨_, h⟩
        · have : Lib.decDigits u = decZ u := by unfold decZ; rw [if_neg (by omega)]
          rw [this, ← h2, hgo, h]
        · rw [h, hgo, List.append_assoc]; rfl)
      have e1 : (m : Int) % 10 = ((m % 10 : Nat) : Int) := rfl
      have e2 : (m : Int) / 10 = ((m / 10 : Nat) : Int) := rfl
      have hq10 : m / 10 < m := by omega
      have hr10 : m % 10 < 10 := by omega
      generalize m / 10 = q at *
      generalize m % 10 = r at *
      have hcv := one_str wr (48 + (r : Int)) (UInt8.ofNat (48 + r)) (by congr 1)
      have HS : Hid ((⟨#[UInt8.ofNat (48 + r)]⟩ : ByteArray) ++ ⟨d.toArray⟩ = ⟨(UInt8.ofNat (48 + r) :: d).toArray⟩) := Lib.hid (mkC _ _)
      have HM : Hid (∀ c, msr (.int .i64 (q : Int)) (.string ⟨(c :: d).toArray⟩) < msr (.int .i64 (m : Int)) (.string ⟨d.toArray⟩)) := Lib.hid (by
        intro c
        have hc : (⟨(c :: d).toArray⟩ : ByteArray).size ≠ 0 := by
          show (c :: d).toArray.size ≠ 0
          simp
        unfold msr
        simp only [intOf, if_neg hc]
        omega)
      generalize (⟨d.toArray⟩ : ByteArray) = X at *
      generalize UInt8.ofNat (48 + r) = c at *
      clear hgo hd hz
      go_wp2
      go_roundw
      case rel => exact ⟨q, c :: d, rfl, congrArg Value.string HS.out, by omega, HB.out.alloc hsz _, Lib.hid (Or.inr ⟨by simp, hN.out⟩)⟩
      case measure => rw [HS.out]; exact HM.out c

theorem rtext_any (n : Int) (w : World) (h0 : -9223372036854775808 ≤ n) (h1 : n ≤ 9223372036854775807) :
    Calls Tryz.prog 17 #[.int .i64 n] w fun e w' => e = .returned (.string ⟨(Lib.itoa n).toArray⟩) ∧ Below w.heap.size w w' := by
  unfold Lib.itoa
  by_cases h : n < 0
  · rw [if_pos h]
    have := rtext_neg n.natAbs w (by omega) (by omega)
    rw [show -(n.natAbs : Int) = n by omega] at this
    exact this
  · rw [if_neg h]
    have := rtext_pos n.toNat w (by omega)
    rw [show (n.toNat : Int) = n by omega] at this
    exact this
end Go.Proofs.YtdbidkfjbhclcaaGreatDoor.intsR
