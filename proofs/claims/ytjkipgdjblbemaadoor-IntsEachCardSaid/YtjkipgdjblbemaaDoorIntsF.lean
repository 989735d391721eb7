/-
  The contract of the reference's Text; the laws IntsTexts and IntsBehind return true.
-/
import Derived.Test.YtjkipgdjblbemaaDoorIntsE
import Derived.Laws.BytesArg
import Derived.Handy
namespace Go.Proofs.YtjkipgdjblbemaaDoor.intsF
open Go.ChangeShapes Go.WideShapes Go.ChangeAt Go.RowKit intsP intsA intsB intsC intsD intsE errIs errs

theorem wf_bd {n : Int} (h : (Lit.int .i64 n).wf = true) : -9223372036854775808 ≤ n ∧ n ≤ 9223372036854775807 := by
  have h1 : IntKind.i64.min = -9223372036854775808 := rfl
  have h2 : IntKind.i64.max = 9223372036854775807 := rfl
  simp only [Lit.wf, Bool.and_eq_true, decide_eq_true_eq] at h
  omega
theorem one_str (w : World) (x : Int) (c : UInt8) (h : UInt8.ofNat x.toNat = c) :
    (convert 39 9 (.slice (some ⟨w.heap.size, 0, none⟩) 1 1)).run Tryd.prog (w.alloc (.cells #[.int .u8 x] 5)) = .ok (.string ⟨#[c]⟩) (w.alloc (.cells #[.int .u8 x] 5)) := by
  have e : (⟨#[c]⟩ : ByteArray) = strOfNums [x] := by simp only [strOfNums, List.map_cons, List.map_nil, h]
  rw [e]
  refine run_convert_bytes_arg (P := Tryd.prog) _ 39 5 Tryd.underlying39 Tryd.underlying5 w.heap.size 0 1 1 [x] rfl ?_ 9 Tryd.underlying9
  intro i hi
  rw [World.cell?_alloc_mark]
  obtain rfl : i = 0 := by have : i < 1 := hi; omega
  rfl
theorem mkC (c : UInt8) (d : List UInt8) : (⟨#[c]⟩ : ByteArray) ++ ⟨d.toArray⟩ = ⟨(c :: d).toArray⟩ := by
  have : ((⟨#[c]⟩ : ByteArray) ++ ⟨d.toArray⟩).data = (c :: d).toArray := by simp [ByteArray.data_append]
  cases h : (⟨#[c]⟩ : ByteArray) ++ ⟨d.toArray⟩ with
  | mk d' => rw [h] at this; simp only at this; rw [this]
theorem neg_tm (m : Nat) : (-(m : Int)).tmod 10 = -((m % 10 : Nat) : Int) := by
  rw [Int.neg_tmod, Int.tmod_eq_emod_of_nonneg (by omega)]; rfl
theorem neg_td (m : Nat) : (-(m : Int)).tdiv 10 = -((m / 10 : Nat) : Int) := by
  rw [Int.neg_tdiv, Int.tdiv_eq_ediv_of_nonneg (by omega)]; rfl

set_option maxRecDepth 100000 in
theorem rtext_neg (u : Nat) (w : World) (h0 : 0 < u) (h1 : (u : Int) ≤ 9223372036854775808) :
    Calls Tryd.prog 16 #[.int .i64 (-(u : Int))] w fun e w' => e = .returned (.string ⟨(45 :: Lib.decDigits u).toArray⟩) ∧ Below w.heap.size w w' := by
  have hlt : -(u : Int) < 0 := by omega
  have hdl : (Lib.decDigits u).length ≤ 19 := dec_len 18 u (by have : (10 : Nat) ^ (18 + 1) = 10000000000000000000 := by decide
                                                               omega)
  go_enter Tryd.func16, Tryd.ntmps16
  go_wp2
  go_loopw [0, 3] (fun z sv wr => ∃ (m : Nat) (d : List UInt8), z = .int .i64 (-(m : Int)) ∧ sv = .string ⟨d.toArray⟩ ∧ (m : Int) ≤ 9223372036854775808 ∧ Below w.heap.size w wr ∧ Hid (Lib.decDigits u = decZ m ++ d)) (fun z _ _ => (intOf z).natAbs)
  case atStart => exact ⟨u, [], rfl, rfl, h1, Below.refl _ _, Lib.hid (by unfold decZ; rw [if_neg (by omega), List.append_nil])⟩
  case round =>
    obtain ⟨m, d, rfl, rfl, hm, hb, hd⟩ := hrel
    have HB := Lib.hid hb
    have hsz := hb.size
    have hX : (⟨d.toArray⟩ : ByteArray).size ≤ 19 := by
      show d.toArray.size ≤ 19
      have := congrArg List.length hd.out
      rw [List.length_append] at this
      simp only [List.size_toArray]; omega
    clear hb
    by_cases hz : m = 0
    · have hN : Hid (Lib.decDigits u = d) := Lib.hid (by rw [hd.out, hz]; rfl)
      have q1 : (-(m : Int) != 0) = false := by rw [hz]; rfl
      have HS : Hid ((⟨#[45]⟩ : ByteArray) ++ ⟨d.toArray⟩ = ⟨(45 :: Lib.decDigits u).toArray⟩) := Lib.hid (by rw [mkC, hN.out])
      generalize (⟨d.toArray⟩ : ByteArray) = X at *
      clear hz hd
      go_wp2
      go_ret
      exact ⟨by rw [← HS.out]; rfl, HB.out⟩
    · have q1 : (-(m : Int) != 0) = true := by rw [bne_iff_ne]; omega
      have hgo := decZ_go m (by omega)
      have hN : Hid (Lib.decDigits u = decZ (m / 10) ++ (UInt8.ofNat (48 + m % 10) :: d)) := Lib.hid (by rw [hd.out, hgo, List.append_assoc]; rfl)
      have e1 := neg_tm m
      have e2 := neg_td m
      have hq10 : m / 10 < m := by omega
      have hr10 : m % 10 < 10 := by omega
      generalize m / 10 = q at *
      generalize m % 10 = r at *
      have hcv := one_str wr (48 + (r : Int)) (UInt8.ofNat (48 + r)) (by congr 1)
      have HS : Hid ((⟨#[UInt8.ofNat (48 + r)]⟩ : ByteArray) ++ ⟨d.toArray⟩ = ⟨(UInt8.ofNat (48 + r) :: d).toArray⟩) := Lib.hid (mkC _ _)
      generalize (⟨d.toArray⟩ : ByteArray) = X at *
      generalize UInt8.ofNat (48 + r) = c at *
      clear hgo hd hz
      go_wp2
      go_roundw
      case rel => exact ⟨q, c :: d, rfl, congrArg Value.string HS.out, by omega, HB.out.alloc hsz _, hN⟩
      case measure => simp [intOf]; omega

def msr (z sv : Value) : Nat := (intOf z).toNat + (match sv with | .string x => if x.size = 0 then 1 else 0 | _ => 0)
theorem emp_yes (d : List UInt8) (h : d = []) : (⟨d.toArray⟩ : ByteArray).toList.isEmpty = true := by rw [Go.ByteArray.toList_eq]; subst h; rfl
theorem empty_list (B : ByteArray) (h : ¬ 0 < B.size) : B.data.toList = [] := List.eq_nil_of_length_eq_zero (by rw [Array.length_toList, ByteArray.size_data]; omega)
theorem full_list (B : ByteArray) (h : 0 < B.size) : B.data.toList ≠ [] := by
  intro e
  have := congrArg List.length e
  rw [Array.length_toList, ByteArray.size_data, List.length_nil] at this
  omega
theorem emp_no (d : List UInt8) (h : d ≠ []) : (⟨d.toArray⟩ : ByteArray).toList.isEmpty = false := by
  rw [Go.ByteArray.toList_eq]; simpa using h
set_option maxRecDepth 100000 in
theorem rtext_pos (u : Nat) (w : World) (h1 : (u : Int) ≤ 9223372036854775807) :
    Calls Tryd.prog 16 #[.int .i64 (u : Int)] w fun e w' => e = .returned (.string ⟨(Lib.decDigits u).toArray⟩) ∧ Below w.heap.size w w' := by
  have hlt : ¬ (u : Int) < 0 := by omega
  have hdl : (Lib.decDigits u).length ≤ 19 := dec_len 18 u (by have : (10 : Nat) ^ (18 + 1) = 10000000000000000000 := by decide
                                                               omega)
  go_enter Tryd.func16, Tryd.ntmps16
  go_wp2
  go_loopw [0, 4] (fun z sv wr => ∃ (m : Nat) (d : List UInt8), z = .int .i64 (m : Int) ∧ sv = .string ⟨d.toArray⟩ ∧ (m : Int) ≤ 9223372036854775807 ∧ Below w.heap.size w wr ∧ Hid ((d = [] ∧ m = u) ∨ (d ≠ [] ∧ Lib.decDigits u = decZ m ++ d))) (fun z sv _ => msr z sv)
  case atStart => exact ⟨u, [], rfl, rfl, h1, Below.refl _ _, Lib.hid (Or.inl ⟨rfl, rfl⟩)⟩
  case round =>
    obtain ⟨m, d, rfl, rfl, hm, hb, hd⟩ := hrel
    have HB := Lib.hid hb
    have hsz := hb.size
    have hX : (⟨d.toArray⟩ : ByteArray).size ≤ 19 := by
      show d.toArray.size ≤ 19
      rcases hd.out with ⟨h, _⟩ | ⟨_, h⟩
      · rw [h]; simp
      · have := congrArg List.length h
        rw [List.length_append] at this
        simp only [List.size_toArray]; omega
    clear hb
    by_cases hz : m = 0
    · by_cases he : d = []
      · have hu : u = 0 := by
          rcases hd.out with ⟨_, h⟩ | ⟨h, _⟩
          · omega
          · exact absurd he h
        have q0 : ¬ (0 : Int) < m := by omega
        have q1 := emp_yes d he
        have hN : Hid (Lib.decDigits u = decZ 0 ++ [48]) := Lib.hid (by rw [hu, dec_small (by omega)]; rfl)
        have e1 : (m : Int) % 10 = 0 := by rw [hz]; rfl
        have e2 : (m : Int) / 10 = 0 := by rw [hz]; rfl
        have hcv := one_str wr 48 48 rfl
        have HS : Hid ((⟨#[48]⟩ : ByteArray) ++ ⟨d.toArray⟩ = ⟨[48].toArray⟩) := Lib.hid (by rw [mkC, he])
        have HM : Hid (msr (.int .i64 0) (.string ⟨[48].toArray⟩) < msr (.int .i64 (m : Int)) (.string ⟨d.toArray⟩)) := Lib.hid (by
          rw [hz, he]; decide)
        generalize (⟨d.toArray⟩ : ByteArray) = X at *
        clear hz hd he hu
        go_wp2
        go_roundw
        case rel => exact ⟨0, [48], rfl, congrArg Value.string HS.out, by omega, HB.out.alloc hsz _, Lib.hid (Or.inr ⟨by simp, hN.out⟩)⟩
        case measure => rw [HS.out]; exact HM.out
      · have hN : Hid (Lib.decDigits u = d) := Lib.hid (by
          rcases hd.out with ⟨h, _⟩ | ⟨_, h⟩
          · exact absurd h he
          · rw [h, hz]; rfl)
        have q0 : ¬ (0 : Int) < m := by omega
        have q1 := emp_no d he
        have HX : Hid ((⟨d.toArray⟩ : ByteArray) = ⟨(Lib.decDigits u).toArray⟩) := Lib.hid (by rw [hN.out])
        generalize (⟨d.toArray⟩ : ByteArray) = X at *
        clear hz hd he
        go_wp2
        go_ret
        exact ⟨by rw [← HX.out]; rfl, HB.out⟩
    · have hgo := decZ_go m (by omega)
      have q0 : (0 : Int) < m := by omega
      have hN : Hid (Lib.decDigits u = decZ (m / 10) ++ (UInt8.ofNat (48 + m % 10) :: d)) := Lib.hid (by
        rcases hd.out with ⟨h, h2⟩ | ⟨_, h⟩
        · have : Lib.decDigits u = decZ u := by unfold decZ; rw [if_neg (by omega)]
          rw [this, ← h2, hgo, h]
        · rw [h, hgo, List.append_assoc]; rfl)
      have e1 : (m : Int) % 10 = ((m % 10 : Nat) : Int) := rfl
      have e2 : (m : Int) / 10 = ((m / 10 : Nat) : Int) := rfl
      have hq10 : m / 10 < m := by omega
      have hr10 : m % 10 < 10 := by omega
      generalize m / 10 = q at *
      generalize m % 10 = r at *
      have hcv := one_str wr (48 + (r : Int)) (UInt8.ofNat (48 + r)) (by congr 1)
      have HS : Hid ((⟨#[UInt8.ofNat (48 + r)]⟩ : ByteArray) ++ ⟨d.toArray⟩ = ⟨(UInt8.ofNat (48 + r) :: d).toArray⟩) := Lib.hid (mkC _ _)
      have HM : Hid (∀ c, msr (.int .i64 (q : Int)) (.string ⟨(c :: d).toArray⟩) < msr (.int .i64 (m : Int)) (.string ⟨d.toArray⟩)) := Lib.hid (by
        intro c
        have hc : (⟨(c :: d).toArray⟩ : ByteArray).size ≠ 0 := by
          show (c :: d).toArray.size ≠ 0
          simp
        unfold msr
        simp only [intOf, if_neg hc]
        omega)
      generalize (⟨d.toArray⟩ : ByteArray) = X at *
      generalize UInt8.ofNat (48 + r) = c at *
      clear hgo hd hz
      go_wp2
      go_roundw
      case rel => exact ⟨q, c :: d, rfl, congrArg Value.string HS.out, by omega, HB.out.alloc hsz _, Lib.hid (Or.inr ⟨by simp, hN.out⟩)⟩
      case measure => rw [HS.out]; exact HM.out c

theorem rtext_any (n : Int) (w : World) (h0 : -9223372036854775808 ≤ n) (h1 : n ≤ 9223372036854775807) :
    Calls Tryd.prog 16 #[.int .i64 n] w fun e w' => e = .returned (.string ⟨(Lib.itoa n).toArray⟩) ∧ Below w.heap.size w w' := by
  unfold Lib.itoa
  by_cases h : n < 0
  · rw [if_pos h]
    have := rtext_neg n.natAbs w (by omega) (by omega)
    rw [show -(n.natAbs : Int) = n by omega] at this
    exact this
  · rw [if_neg h]
    have := rtext_pos n.toNat w (by omega)
    rw [show (n.toNat : Int) = n by omega] at this
    exact this

theorem lawTexts (n : Int) (w : World) (ad : Nat → Addr) (hE : Errs w ad) (hR : Rng w) (hP : Pow w) (h0 : -9223372036854775808 ≤ n) (h1 : n ≤ 9223372036854775807) :
    Calls Tryd.prog 7 #[.int .i64 n] w fun e w' => e = .returned (.bool true) ∧ Below w.heap.size w w' := by
  have HA := Lib.hid (alive w ad hE hR)
  have T1 := fun w hP => text_any n w hP h0 h1
  have hl := itoa_len n h0 h1
  have hsz : (⟨(Lib.itoa n).toArray⟩ : ByteArray).size ≤ 20 := by show (Lib.itoa n).toArray.size ≤ 20; simpa using hl.2
  have T2 := fun w hE hR => parse_any ⟨(Lib.itoa n).toArray⟩ w ad (by omega) hE hR
  have T3 := fun w => rtext_any n w h0 h1
  rw [show (⟨(Lib.itoa n).toArray⟩ : ByteArray).data.toList = Lib.itoa n from by simp, parse_itoa n h0 h1] at T2
  unfold prV errV at T2
  simp only [if_true] at T2
  generalize (⟨(Lib.itoa n).toArray⟩ : ByteArray) = X at *
  have T1 := Lib.hid T1
  have T2 := Lib.hid T2
  have T3 := Lib.hid T3
  have HE := Lib.hid hE
  have HR := Lib.hid hR
  have HP := Lib.hid hP
  have hqN := neqlN
  clear hE hR hP hl
  go_enter Tryd.func7, Tryd.ntmps7
  go_wp2_with fail
  refine HA.out.mono ?_
  rintro e w0 ⟨rfl, hb0⟩
  have HB0 := Lib.hid hb0
  have hz0 := hb0.size
  clear hb0
  go_wp2_with fail
  refine (T1.out _ (pow_below HP.out HB0.out)).mono ?_
  rintro e w1 ⟨rfl, hb1⟩
  have HB1 := Lib.hid (HB0.out.trans (hb1.mono hz0))
  have hz1 := HB1.out.size
  clear hb1
  go_wp2_with fail
  refine (T2.out _ (HE.out.below HB1.out) (rng_below HR.out HB1.out)).mono ?_
  rintro e w2 ⟨rfl, hb2⟩
  have HB2 := Lib.hid (HB1.out.trans (hb2.mono hz1))
  have hz2 := HB2.out.size
  clear hb2
  go_wp2_with fail
  refine (T3.out _).mono ?_
  rintro e w3 ⟨rfl, hb3⟩
  have HB3 := Lib.hid (HB2.out.trans (hb3.mono hz2))
  clear hb3
  go_wp2
  go_ret
  exact ⟨ret_bool (by simp), HB3.out⟩

/-! ### IntsBehind -/
theorem behind_big (n : Int) (A B : ByteArray) (w : World) (ad : Nat → Addr) (hE : Errs w ad) (hR : Rng w) (h : 300 < A.size ∨ 300 < B.size) :
    Calls Tryd.prog 4 #[.int .i64 n, .string A, .string B] w fun e w' => e = .returned (.bool true) ∧ Below w.heap.size w w' := by
  have HA := Lib.hid (alive w ad hE hR)
  clear hE hR
  by_cases h1 : 300 < A.size
  · clear h
    go_enter Tryd.func4, Tryd.ntmps4
    go_wp2_with fail
    refine HA.out.mono ?_
    rintro e w0 ⟨rfl, hb0⟩
    have HB0 := Lib.hid hb0
    clear hb0
    go_wp2
    go_ret
    exact ⟨rfl, HB0.out⟩
  · have h2 : 300 < B.size := by omega
    clear h
    go_enter Tryd.func4, Tryd.ntmps4
    go_wp2_with fail
    refine HA.out.mono ?_
    rintro e w0 ⟨rfl, hb0⟩
    have HB0 := Lib.hid hb0
    clear hb0
    go_wp2
    go_ret
    exact ⟨rfl, HB0.out⟩

/-- does what stands behind go on with a number? -/
def goes (B : ByteArray) : Prop := isD (B.data.toList.getD 0 0) = true ∨ bt B.data.toList 0 = 46 ∨ bt B.data.toList 0 = 101 ∨ bt B.data.toList 0 = 69

theorem nonempty_yes (B : ByteArray) (h : 0 < B.size) : B.toList.isEmpty = false := by
  rw [Go.ByteArray.toList_eq]; simpa using full_list B h
theorem nonempty_no (B : ByteArray) (h : ¬ 0 < B.size) : B.toList.isEmpty = true := by
  rw [Go.ByteArray.toList_eq, empty_list B h]; rfl

set_option maxRecDepth 100000 in
theorem behind_on (n : Int) (A B : ByteArray) (w : World) (ad : Nat → Addr) (hE : Errs w ad) (hR : Rng w) (hA : A.size ≤ 300) (hB : B.size ≤ 300) (hg : goes B) :
    Calls Tryd.prog 4 #[.int .i64 n, .string A, .string B] w fun e w' => e = .returned (.bool true) ∧ Below w.heap.size w w' := by
  have HA := Lib.hid (alive w ad hE hR)
  have hp : 0 < B.size := by
    by_cases h : 0 < B.size
    · exact h
    · have := empty_list B h
      unfold goes at hg
      rw [this] at hg
      simp [isD, bt] at hg
  have q0 := nonempty_yes B hp
  have hb0 := bt_in B 0 0 (by omega)
  rw [List.drop_zero] at hb0
  simp only [Nat.add_zero] at hb0
  have hgd : B.data.toList.getD 0 0 = B[0] := bget B 0 hp
  have nA : ¬ 300 < A.size := by omega
  have nB : ¬ 300 < B.size := by omega
  unfold goes at hg
  rw [hgd, hb0] at hg
  clear hE hR hgd hb0
  by_cases h1 : 48 ≤ B[0].toNat ∧ B[0].toNat ≤ 57
  · have g1 : (48 : Int) ≤ B[0].toNat := by omega
    have g2 : (B[0].toNat : Int) ≤ 57 := by omega
    clear hg
    go_enter Tryd.func4, Tryd.ntmps4
    go_wp2_with fail
    refine HA.out.mono ?_
    rintro e w0 ⟨rfl, hb0⟩
    have HB0 := Lib.hid hb0
    clear hb0
    go_wp2
    go_ret
    exact ⟨rfl, HB0.out⟩
  have hg : B[0].toNat = 46 ∨ B[0].toNat = 101 ∨ B[0].toNat = 69 := by
    rcases hg with hg | hg
    · exact absurd (isD_val hg) h1
    · exact hg
  clear h1
  rcases hg with hg | hg | hg
  · have g1 : ¬ (48 : Int) ≤ B[0].toNat := by omega
    have t1 : ((B[0].toNat : Int) == 46) = true := by rw [hg]; rfl
    clear hg
    go_enter Tryd.func4, Tryd.ntmps4
    go_wp2_with fail
    refine HA.out.mono ?_
    rintro e w0 ⟨rfl, hb0⟩
    have HB0 := Lib.hid hb0
    clear hb0
    go_wp2
    go_ret
    exact ⟨rfl, HB0.out⟩
  · have g1 : (48 : Int) ≤ B[0].toNat := by omega
    have g2 : ¬ (B[0].toNat : Int) ≤ 57 := by omega
    have t1 : ((B[0].toNat : Int) == 46) = false := by rw [hg]; rfl
    have t2 : ((B[0].toNat : Int) == 101) = true := by rw [hg]; rfl
    clear hg
    go_enter Tryd.func4, Tryd.ntmps4
    go_wp2_with fail
    refine HA.out.mono ?_
    rintro e w0 ⟨rfl, hb0⟩
    have HB0 := Lib.hid hb0
    clear hb0
    go_wp2
    go_ret
    exact ⟨rfl, HB0.out⟩
  · have g1 : (48 : Int) ≤ B[0].toNat := by omega
    have g2 : ¬ (B[0].toNat : Int) ≤ 57 := by omega
    have t1 : ((B[0].toNat : Int) == 46) = false := by rw [hg]; rfl
    have t2 : ((B[0].toNat : Int) == 101) = false := by rw [hg]; rfl
    have t3 : ((B[0].toNat : Int) == 69) = true := by rw [hg]; rfl
    clear hg
    go_enter Tryd.func4, Tryd.ntmps4
    go_wp2_with fail
    refine HA.out.mono ?_
    rintro e w0 ⟨rfl, hb0⟩
    have HB0 := Lib.hid hb0
    clear hb0
    go_wp2
    go_ret
    exact ⟨rfl, HB0.out⟩

theorem abs3 (A X B : ByteArray) : ((A ++ X) ++ B).data.toList = A.data.toList ++ (X.data.toList ++ B.data.toList) := by simp [ByteArray.data_append]

set_option maxRecDepth 100000 in
theorem behind_off (n : Int) (A B : ByteArray) (w : World) (ad : Nat → Addr) (hE : Errs w ad) (hR : Rng w) (hP : Pow w) (h0 : -9223372036854775808 ≤ n) (h1 : n ≤ 9223372036854775807) (hA : A.size ≤ 300) (hB : B.size ≤ 300) (hg : ¬ goes B) :
    Calls Tryd.prog 4 #[.int .i64 n, .string A, .string B] w fun e w' => e = .returned (.bool true) ∧ Below w.heap.size w w' := by
  have HA := Lib.hid (alive w ad hE hR)
  have T1 := fun w hP => text_any n w hP h0 h1
  have hl := itoa_len n h0 h1
  have hXs : (⟨(Lib.itoa n).toArray⟩ : ByteArray).size = (Lib.itoa n).length := by show (Lib.itoa n).toArray.size = _; simp
  have hsz : (⟨(Lib.itoa n).toArray⟩ : ByteArray).size ≤ 20 := by rw [hXs]; exact hl.2
  have hts : ((A ++ ⟨(Lib.itoa n).toArray⟩) ++ B).size ≤ 1000 := by rw [ByteArray.size_append, ByteArray.size_append]; omega
  have T2 := fun w hE hR => take_any ((A ++ ⟨(Lib.itoa n).toArray⟩) ++ B) (A.size : Int) w ad (by omega) hE hR
  have htk : takeO ((A ++ (⟨(Lib.itoa n).toArray⟩ : ByteArray)) ++ B).data.toList (A.size : Int) = (n, (Lib.itoa n).length, 0) := by
    unfold takeO
    rw [if_neg (by omega), Int.toNat_natCast, abs3]
    have e : A.size = A.data.toList.length := by simp
    rw [e, List.drop_left]
    unfold goes at hg
    refine take_itoa n _ h0 h1 ?_ ?_
    · cases hh : isD (B.data.toList.getD 0 0) with
      | false => rfl
      | true => exact absurd (Or.inl hh) hg
    · refine ⟨fun h => hg (Or.inr (Or.inl h)), fun h => hg (Or.inr (Or.inr (Or.inl h))), fun h => hg (Or.inr (Or.inr (Or.inr h)))⟩
  rw [htk] at T2
  unfold TkPost tkV errV at T2
  simp only [if_true] at T2
  rw [← hXs] at T2
  generalize (⟨(Lib.itoa n).toArray⟩ : ByteArray) = X at *
  have T1 := Lib.hid T1
  have T2 := Lib.hid T2
  have HE := Lib.hid hE
  have HR := Lib.hid hR
  have HP := Lib.hid hP
  have hqN := neqlN
  have nA : ¬ 300 < A.size := by omega
  have nB : ¬ 300 < B.size := by omega
  clear hE hR hP hl hXs htk
  by_cases hp : 0 < B.size
  · have q0 := nonempty_yes B hp
    have hb0 := bt_in B 0 0 (by omega)
    rw [List.drop_zero] at hb0
    simp only [Nat.add_zero] at hb0
    have hgd : B.data.toList.getD 0 0 = B[0] := bget B 0 hp
    unfold goes at hg
    rw [hgd, hb0] at hg
    have t1 : ((B[0].toNat : Int) == 46) = false := by rw [beq_eq_false_iff_ne]; omega
    have t2 : ((B[0].toNat : Int) == 101) = false := by rw [beq_eq_false_iff_ne]; omega
    have t3 : ((B[0].toNat : Int) == 69) = false := by rw [beq_eq_false_iff_ne]; omega
    have hnd : ¬ (48 ≤ B[0].toNat ∧ B[0].toNat ≤ 57) := fun h => hg (Or.inl (isD_yes h.1 h.2))
    clear hg hgd hb0
    by_cases g1' : 48 ≤ B[0].toNat
    · have g1 : (48 : Int) ≤ B[0].toNat := by omega
      have g2 : ¬ (B[0].toNat : Int) ≤ 57 := by omega
      clear hnd
      go_enter Tryd.func4, Tryd.ntmps4
      go_wp2_with fail
      refine HA.out.mono ?_
      rintro e w0 ⟨rfl, hb0⟩
      have HB0 := Lib.hid hb0
      have hz0 := hb0.size
      clear hb0
      go_wp2_with fail
      refine (T1.out _ (pow_below HP.out HB0.out)).mono ?_
      rintro e w1 ⟨rfl, hb1⟩
      have HB1 := Lib.hid (HB0.out.trans (hb1.mono hz0))
      have hz1 := HB1.out.size
      clear hb1
      go_wp2_with fail
      refine (T2.out _ (HE.out.below HB1.out) (rng_below HR.out HB1.out)).mono ?_
      rintro e w2 ⟨rfl, hb2⟩
      have HB2 := Lib.hid (HB1.out.trans (hb2.mono hz1))
      clear hb2
      go_wp2
      go_ret
      exact ⟨ret_bool (by simp), HB2.out⟩
    · have g1 : ¬ (48 : Int) ≤ B[0].toNat := by omega
      clear hnd g1'
      go_enter Tryd.func4, Tryd.ntmps4
      go_wp2_with fail
      refine HA.out.mono ?_
      rintro e w0 ⟨rfl, hb0⟩
      have HB0 := Lib.hid hb0
      have hz0 := hb0.size
      clear hb0
      go_wp2_with fail
      refine (T1.out _ (pow_below HP.out HB0.out)).mono ?_
      rintro e w1 ⟨rfl, hb1⟩
      have HB1 := Lib.hid (HB0.out.trans (hb1.mono hz0))
      have hz1 := HB1.out.size
      clear hb1
      go_wp2_with fail
      refine (T2.out _ (HE.out.below HB1.out) (rng_below HR.out HB1.out)).mono ?_
      rintro e w2 ⟨rfl, hb2⟩
      have HB2 := Lib.hid (HB1.out.trans (hb2.mono hz1))
      clear hb2
      go_wp2
      go_ret
      exact ⟨ret_bool (by simp), HB2.out⟩
  · have q0 := nonempty_no B hp
    clear hg
    go_enter Tryd.func4, Tryd.ntmps4
    go_wp2_with fail
    refine HA.out.mono ?_
    rintro e w0 ⟨rfl, hb0⟩
    have HB0 := Lib.hid hb0
    have hz0 := hb0.size
    clear hb0
    go_wp2_with fail
    refine (T1.out _ (pow_below HP.out HB0.out)).mono ?_
    rintro e w1 ⟨rfl, hb1⟩
    have HB1 := Lib.hid (HB0.out.trans (hb1.mono hz0))
    have hz1 := HB1.out.size
    clear hb1
    go_wp2_with fail
    refine (T2.out _ (HE.out.below HB1.out) (rng_below HR.out HB1.out)).mono ?_
    rintro e w2 ⟨rfl, hb2⟩
    have HB2 := Lib.hid (HB1.out.trans (hb2.mono hz1))
    clear hb2
    go_wp2
    go_ret
    exact ⟨ret_bool (by simp), HB2.out⟩

theorem lawBehind (n : Int) (A B : ByteArray) (w : World) (ad : Nat → Addr) (hE : Errs w ad) (hR : Rng w) (hP : Pow w) (h0 : -9223372036854775808 ≤ n) (h1 : n ≤ 9223372036854775807) :
    Calls Tryd.prog 4 #[.int .i64 n, .string A, .string B] w fun e w' => e = .returned (.bool true) ∧ Below w.heap.size w w' := by
  by_cases h : 300 < A.size ∨ 300 < B.size
  · exact behind_big n A B w ad hE hR h
  · by_cases hg : goes B
    · exact behind_on n A B w ad hE hR (by omega) (by omega) hg
    · exact behind_off n A B w ad hE hR hP h0 h1 (by omega) (by omega) hg

end Go.Proofs.YtjkipgdjblbemaaDoor.intsF
