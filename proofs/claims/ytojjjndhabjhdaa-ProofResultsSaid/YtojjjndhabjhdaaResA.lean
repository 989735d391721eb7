/-
  Contracts of lits.literal, variable, True, All; proof.Model.
-/
import Derived.Test.YtojjjndhabjhdaaShortC
namespace Go.Proofs.Ytojjjndhabjhdaa.resA
open Go.ChangeShapes Go.WideShapes Go.ChangeAt Go.RowKit proofP proofQ proofR owns proofA proofC proofG proofI proofJ proofK proofM proofN proofO proofS proofT proofU proofV proofW proofX cls
set_option linter.unusedSimpArgs false
set_option linter.unusedVariables false

theorem literal_yes (l : Int) (w : World) (hl : lit l) : Calls Try.prog 45 #[.int .i64 l] w fun e w' => e = .returned (.bool true) ∧ w = w' := by
  have h0 : (l != 0) = true := by simpa using hl.1
  have h1 : -20000 ≤ l := hl.2.1
  have h2 : l ≤ 20000 := hl.2.2
  clear hl
  go_enter Try.func45, Try.ntmps45
  go_wp2
  go_ret
  exact ⟨rfl, rfl⟩
theorem literal_no (l : Int) (w : World) (hl : ¬ lit l) : Calls Try.prog 45 #[.int .i64 l] w fun e w' => e = .returned (.bool false) ∧ w = w' := by
  by_cases h0 : l = 0
  · subst h0
    go_enter Try.func45, Try.ntmps45
    go_wp2
    go_ret
    exact ⟨rfl, rfl⟩
  · by_cases h1 : -20000 ≤ l
    · have h2 : ¬ l ≤ 20000 := fun h => hl ⟨h0, h1, h⟩
      clear hl
      go_enter Try.func45, Try.ntmps45
      go_wp2
      go_ret
      exact ⟨rfl, rfl⟩
    · clear hl
      go_enter Try.func45, Try.ntmps45
      go_wp2
      go_ret
      exact ⟨rfl, rfl⟩
theorem variable_any (l : Int) (w : World) (hl : lit l) : Calls Try.prog 46 #[.int .i64 l] w fun e w' => e = .returned (.int .i64 (l.natAbs : Nat)) ∧ w = w' := by
  have h1 : -20000 ≤ l := hl.2.1
  have h2 : l ≤ 20000 := hl.2.2
  have hw : IntKind.i64.wrap (-l) = -l := IntWalk.i64_in _ (by omega)
  have HM : Hid (max l (-l) = (l.natAbs : Nat)) := Lib.hid (by omega)
  clear hl
  by_cases h : l < 0
  · have HE : Hid (((l.natAbs : Nat) : Int) = -l) := Lib.hid (by omega)
    go_enter Try.func46, Try.ntmps46
    go_wp2
    go_ret
    exact ⟨ret_int (by rw [HE.out]; omega), rfl⟩
  · have HE : Hid (((l.natAbs : Nat) : Int) = l) := Lib.hid (by omega)
    go_enter Try.func46, Try.ntmps46
    go_wp2
    go_ret
    exact ⟨ret_int (by rw [HE.out]; omega), rfl⟩

/-- a literal's truth as the program reckons it -/
theorem holds_pos {l : Int} {m : List Bool} (hl : lit l) {k : Nat} (hk : l.natAbs = k + 1) : holds l m = ((decide (k < m.length) && m.getD k false) == decide (0 < l)) := by
  have h0 := hl.1
  unfold holds
  rw [decide_eq_true hl, Bool.true_and]
  by_cases h : l < 0
  · rw [if_pos h, decide_eq_false (show ¬ (0 < l) by omega), show (-l - 1).toNat = k from by omega]
    by_cases h1 : k < m.length
    · rw [decide_eq_false (show ¬ ((m.length : Int) < -l) by omega), decide_eq_true h1]; simp
    · rw [decide_eq_true (show ((m.length : Int) < -l) by omega), decide_eq_false h1]; simp
  · rw [if_neg h, decide_eq_true (show (0 < l) by omega), show (l - 1).toNat = k from by omega]
    by_cases h1 : k < m.length
    · rw [decide_eq_true (show (l ≤ (m.length : Int)) by omega), decide_eq_true h1]; simp
    · rw [decide_eq_false (show ¬ (l ≤ (m.length : Int)) by omega), decide_eq_false h1]; simp

set_option maxRecDepth 100000 in
set_option maxHeartbeats 2000000 in
theorem PTrue_any (cv mv : Value) (c : List Int) (m : List Bool) (w : World) (B B' : Nat) (hc : IntsAt w B cv c) (hm : BoolsAt w B' mv m) :
    Calls Try.prog 36 #[cv, mv] w fun e w' => e = .returned (.bool (trueIn c m)) ∧ w = w' := by
  obtain ⟨ao, cap, b, off, rfl, hcm, ha, hcell, h64⟩ := hc
  obtain ⟨am, capm, bm, offm, rfl, hmm, hma, hmc⟩ := hm
  have HA := Lib.hid ha
  have HC := Lib.hid hcell
  have HMA := Lib.hid hma
  have HMC := Lib.hid hmc
  unfold maxLen at hcm hmm
  clear ha hcell h64 hma hmc
  go_enter Try.func36, Try.ntmps36
  go_wp2
  go_loop [10] (fun it => ∃ k : Nat, k ≤ c.length ∧ it = .int .i64 k ∧ Hid (∀ j, j < k → holds (c.getD j 0) m = false)) (fun it => c.length - (intOf it).toNat)
  case atStart => exact ⟨0, Nat.zero_le _, rfl, Lib.hid (fun j hj => absurd hj (Nat.not_lt_zero _))⟩
  case round =>
    obtain ⟨k, hk, rfl, hg⟩ := hrel
    by_cases hlt : k < c.length
    · obtain ⟨rfl, hbB⟩ := HA.out (by intro h0; rw [h0] at hlt; simp at hlt)
      have q := HC.out k hlt
      have HT : Hid (holds (c.getD k 0) m = true → trueIn c m = true) := Lib.hid (fun h => List.any_eq_true.2 ⟨_, getD_mem hlt, h⟩)
      have HF : Hid (holds (c.getD k 0) m = false → ∀ j, j < k + 1 → holds (c.getD j 0) m = false) := Lib.hid (fun h j hj => by
        by_cases e : j = k
        · rw [e]; exact h
        · exact hg.out j (by omega))
      generalize c.getD k 0 = l at *
      clear hg
      by_cases hlit : lit l
      · have HL := Lib.hid hlit
        obtain ⟨v, hv⟩ : ∃ v : Nat, l.natAbs = v + 1 := ⟨l.natAbs - 1, by have := hlit.1; omega⟩
        have HP := Lib.hid (holds_pos (m := m) hlit hv)
        have HVA : Hid (Calls Try.prog 46 #[.int .i64 l] w fun e w' => e = .returned (.int .i64 ((v : Int) + 1)) ∧ w = w') := Lib.hid (by
          have := variable_any l w hlit; rw [hv] at this; exact this)
        have hb1 : -20000 ≤ l := hlit.2.1
        have hb2 : l ≤ 20000 := hlit.2.2
        have hv2 : v < 20000 := by omega
        have hw1 : IntKind.i64.wrap ((v : Int) + 1 - 1) = (v : Int) := by rw [IntWalk.i64_in _ (by omega)]; omega
        have hne : l ≠ 0 := hlit.1
        clear hlit hv
        generalize holds l m = h at *
        by_cases hvm : v < m.length
        · obtain ⟨rfl, hmB⟩ := HMA.out (by intro h0; rw [h0] at hvm; simp at hvm)
          have qm := HMC.out v hvm
          rw [decide_eq_true hvm, Bool.true_and] at HP
          generalize m.getD v false = r at *
          have hle : decide ((v : Int) + 1 ≤ (m.length : Int)) = true := decide_eq_true (by omega)
          by_cases hpos : 0 < l
          · rw [decide_eq_true hpos] at HP
            have hpd : decide (0 < l) = true := decide_eq_true hpos
            clear hpos
            cases r
            · have HF2 := Lib.hid (HF.out HP.out)
              clear HF HT HP
              go_wp2_with (first | (go_at_call 45; refine (literal_yes _ _ HL.out).mono ?_; rintro e w' ⟨rfl, rfl⟩) | (go_at_call 46; refine HVA.out.mono ?_; rintro e w' ⟨rfl, rfl⟩))
              go_round
              case rel => exact ⟨k + 1, by omega, by go_num, HF2⟩
              case measure => simp [intOf]; omega
            · have HT2 := Lib.hid (HT.out HP.out)
              clear HF HT HP
              go_wp2_with (first | (go_at_call 45; refine (literal_yes _ _ HL.out).mono ?_; rintro e w' ⟨rfl, rfl⟩) | (go_at_call 46; refine HVA.out.mono ?_; rintro e w' ⟨rfl, rfl⟩))
              go_ret
              exact ⟨by rw [HT2.out]; rfl, rfl⟩
          · rw [decide_eq_false hpos] at HP
            have hpd : decide (0 < l) = false := decide_eq_false hpos
            clear hpos
            cases r
            · have HT2 := Lib.hid (HT.out HP.out)
              clear HF HT HP
              go_wp2_with (first | (go_at_call 45; refine (literal_yes _ _ HL.out).mono ?_; rintro e w' ⟨rfl, rfl⟩) | (go_at_call 46; refine HVA.out.mono ?_; rintro e w' ⟨rfl, rfl⟩))
              go_ret
              exact ⟨by rw [HT2.out]; rfl, rfl⟩
            · have HF2 := Lib.hid (HF.out HP.out)
              clear HF HT HP
              go_wp2_with (first | (go_at_call 45; refine (literal_yes _ _ HL.out).mono ?_; rintro e w' ⟨rfl, rfl⟩) | (go_at_call 46; refine HVA.out.mono ?_; rintro e w' ⟨rfl, rfl⟩))
              go_round
              case rel => exact ⟨k + 1, by omega, by go_num, HF2⟩
              case measure => simp [intOf]; omega
        · rw [decide_eq_false hvm, Bool.false_and] at HP
          have hle : decide ((v : Int) + 1 ≤ (m.length : Int)) = false := decide_eq_false (by omega)
          by_cases hpos : 0 < l
          · rw [decide_eq_true hpos] at HP
            have hpd : decide (0 < l) = true := decide_eq_true hpos
            clear hpos
            have HF2 := Lib.hid (HF.out HP.out)
            clear HF HT HP
            go_wp2_with (first | (go_at_call 45; refine (literal_yes _ _ HL.out).mono ?_; rintro e w' ⟨rfl, rfl⟩) | (go_at_call 46; refine HVA.out.mono ?_; rintro e w' ⟨rfl, rfl⟩))
            go_round
            case rel => exact ⟨k + 1, by omega, by go_num, HF2⟩
            case measure => simp [intOf]; omega
          · rw [decide_eq_false hpos] at HP
            have hpd : decide (0 < l) = false := decide_eq_false hpos
            clear hpos
            have HT2 := Lib.hid (HT.out HP.out)
            clear HF HT HP
            go_wp2_with (first | (go_at_call 45; refine (literal_yes _ _ HL.out).mono ?_; rintro e w' ⟨rfl, rfl⟩) | (go_at_call 46; refine HVA.out.mono ?_; rintro e w' ⟨rfl, rfl⟩))
            go_ret
            exact ⟨by rw [HT2.out]; rfl, rfl⟩
      · have HL := Lib.hid hlit
        have HF2 := Lib.hid (HF.out (by unfold holds; rw [decide_eq_false hlit, Bool.false_and]))
        clear HF HT hlit
        go_wp2_with (go_at_call 45; refine (literal_no _ _ HL.out).mono ?_; rintro e w' ⟨rfl, rfl⟩)
        go_round
        case rel => exact ⟨k + 1, by omega, by go_num, HF2⟩
        case measure => simp [intOf]; omega
    · obtain rfl : k = c.length := by omega
      have HE : Hid (trueIn c m = false) := Lib.hid (by
        unfold trueIn
        rw [List.any_eq_false]
        intro l hl
        obtain ⟨j, hj, rfl⟩ := List.mem_iff_getElem.1 hl
        have := hg.out j hj
        rw [List.getD_eq_getElem?_getD, List.getElem?_eq_getElem hj] at this
        simpa using this)
      clear hg
      go_wp2
      go_ret
      exact ⟨by rw [HE.out]; rfl, rfl⟩

set_option maxHeartbeats 1000000 in
theorem PAll_any (cv mv : Value) (cl : List (List Int)) (m : List Bool) (w : World) (B B' : Nat) (hc : ClsAt w B cv cl) (hm : BoolsAt w B' mv m) :
    Calls Try.prog 37 #[cv, mv] w fun e w' => e = .returned (.bool (allIn cl m)) ∧ w = w' := by
  have HM := Lib.hid hm
  obtain ⟨ao, cap, b, off, vs, rfl, hcm, ha, hcell, hn⟩ := hc
  obtain ⟨am, capm, bm, offm, rfl, _, _, _⟩ := hm
  have HA := Lib.hid ha
  have HC := Lib.hid hcell
  have HN := Lib.hid hn
  unfold maxLen at hcm
  clear ha hcell hn
  go_enter Try.func37, Try.ntmps37
  go_wp2
  go_loop [9] (fun it => ∃ k : Nat, k ≤ cl.length ∧ it = .int .i64 k ∧ Hid (∀ j, j < k → trueIn (cl.getD j []) m = true)) (fun it => cl.length - (intOf it).toNat)
  case atStart => exact ⟨0, Nat.zero_le _, rfl, Lib.hid (fun j hj => absurd hj (Nat.not_lt_zero _))⟩
  case round =>
    obtain ⟨k, hk, rfl, hg⟩ := hrel
    by_cases hlt : k < cl.length
    · obtain ⟨rfl, hbB⟩ := HA.out (by intro h0; rw [h0] at hlt; simp at hlt)
      have q := HC.out k hlt
      have HH := Lib.hid (fun w' (h : w = w') => PTrue_any (vs k) _ (cl.getD k []) m w' B B' (h ▸ HN.out k hlt) (h ▸ HM.out))
      have HT : Hid (trueIn (cl.getD k []) m = false → allIn cl m = false) := Lib.hid (fun h => by
        rw [Bool.eq_false_iff]; intro h'
        have := List.all_eq_true.1 h' _ (getD_mem (d := []) hlt)
        rw [h] at this; cases this)
      have HF : Hid (trueIn (cl.getD k []) m = true → ∀ j, j < k + 1 → trueIn (cl.getD j []) m = true) := Lib.hid (fun h j hj => by
        by_cases e : j = k
        · rw [e]; exact h
        · exact hg.out j (by omega))
      generalize hr : trueIn (cl.getD k []) m = r at *
      clear hg hr
      cases r
      · have HT2 := Lib.hid (HT.out rfl)
        clear HF HT
        go_wp2_with (go_at_call 36; refine (HH.out _ rfl).mono ?_; rintro e w' ⟨rfl, rfl⟩)
        go_ret
        exact ⟨by rw [HT2.out]; rfl, rfl⟩
      · have HF2 := Lib.hid (HF.out rfl)
        clear HF HT
        go_wp2_with (go_at_call 36; refine (HH.out _ rfl).mono ?_; rintro e w' ⟨rfl, rfl⟩)
        go_round
        case rel => exact ⟨k + 1, by omega, by go_num, HF2⟩
        case measure => simp [intOf]; omega
    · obtain rfl : k = cl.length := by omega
      have HE : Hid (allIn cl m = true) := Lib.hid (by
        unfold allIn
        rw [List.all_eq_true]
        intro c hl
        obtain ⟨j, hj, rfl⟩ := List.mem_iff_getElem.1 hl
        have := hg.out j hj
        rw [List.getD_eq_getElem?_getD, List.getElem?_eq_getElem hj] at this
        simpa using this)
      clear hg
      go_wp2
      go_ret
      exact ⟨by rw [HE.out]; rfl, rfl⟩

theorem clo_any (l : Int) (mb : Nat) (mv : Value) (m : List Bool) (w : World) (B : Nat) (hcell : w.cell? ⟨mb, 0, none⟩ = some mv) (hm : BoolsAt w B mv m) (hl : In64 l) (hB : B ≤ w.heap.size) (hmb : mb < w.heap.size) :
    Calls Try.prog 35 #[.int .i64 l, .pointer (some ⟨mb, 0, none⟩)] w fun e w' => e = .returned (.bool (!holds l m)) ∧ Below w.heap.size w w' := by
  have hba : Below w.heap.size w (w.alloc (.cells #[.int .i64 l] 3)) := (Below.refl _ _).alloc (Nat.le_refl _) _
  have HBA := Lib.hid hba
  have HPT := Lib.hid (PTrue_any _ mv [l] m _ _ B (ints_new w l hl) (hm.keep (hba.mono hB)))
  have HE : Hid (trueIn [l] m = holds l m) := Lib.hid (by simp [trueIn])
  rw [HE.out] at HPT
  have hc2 : (w.alloc (.cells #[.int .i64 l] 3)).cell? ⟨mb, 0, none⟩ = some mv := by rw [hba.cell (show (⟨mb, 0, none⟩ : Addr).block < w.heap.size from hmb)]; exact hcell
  obtain ⟨am, capm, bm, offm, rfl, _, _, _⟩ := hm
  generalize holds l m = r at *
  clear hba hcell
  go_enter Try.func35, Try.ntmps35
  go_wp2_with (go_at_call 36; refine HPT.out.mono ?_; rintro e w' ⟨rfl, rfl⟩)
  go_ret
  exact ⟨rfl, HBA.out⟩

set_option maxHeartbeats 1000000 in
theorem Index_clo (mb : Nat) (mv av : Value) (m : List Bool) (l : List Int) (w : World) (B : Nat) (hcell : w.cell? ⟨mb, 0, none⟩ = some mv) (hm : BoolsAt w B mv m) (ha : IntsAt w B av l) (hB : B ≤ w.heap.size) (hmb : mb < w.heap.size) :
    Calls Try.prog 47 #[av, .func (.func 35) #[] #[.pointer (some ⟨mb, 0, none⟩)]] w fun e w' => (∃ z : Int, e = .returned (.int .i64 z) ∧ decide (0 ≤ z) = !(l.all fun x => holds x m)) ∧ Below w.heap.size w w' := by
  have HCE := Lib.hid hcell
  have HM := Lib.hid hm
  obtain ⟨ao, cap, b, off, rfl, hcm, ha, hc, h64⟩ := ha
  have HA := Lib.hid ha
  have HC := Lib.hid hc
  have H64 := Lib.hid h64
  unfold maxLen at hcm
  clear ha hc h64 hm hcell
  go_enter Try.func47, Try.ntmps47
  go_wp2
  go_loopw [8] (fun it wr => ∃ k : Nat, k ≤ l.length ∧ it = .int .i64 k ∧ Below w.heap.size w wr ∧ Hid (∀ j, j < k → holds (l.getD j 0) m = true)) (fun it _ => l.length - (intOf it).toNat)
  case atStart => exact ⟨0, Nat.zero_le _, rfl, Below.refl _ _, Lib.hid (fun j hj => absurd hj (Nat.not_lt_zero _))⟩
  case round =>
    obtain ⟨k, hk, rfl, hb, hg⟩ := hrel
    have HB := Lib.hid hb
    have hws := hb.size
    by_cases hlt : k < l.length
    · obtain ⟨rfl, hbB⟩ := HA.out (by intro h0; rw [h0] at hlt; simp at hlt)
      have q : wr.cell? ⟨b, off + k, none⟩ = some (.int .i64 (l.getD k 0)) := by rw [hb.cell (show (⟨b, off + k, none⟩ : Addr).block < w.heap.size from by show b < _; omega)]; exact HC.out k hlt
      have HCL := Lib.hid (clo_any (l.getD k 0) mb mv m wr B (by rw [hb.cell (show (⟨mb, 0, none⟩ : Addr).block < w.heap.size from hmb)]; exact HCE.out) (HM.out.keep (hb.mono hB)) (H64.out _ (getD_mem (d := 0) hlt)) (by omega) (by omega))
      have HT : Hid (holds (l.getD k 0) m = false → (l.all fun x => holds x m) = false) := Lib.hid (fun h => by
        rw [Bool.eq_false_iff]; intro h'
        have := List.all_eq_true.1 h' _ (getD_mem (d := 0) hlt)
        rw [h] at this; cases this)
      have HF : Hid (holds (l.getD k 0) m = true → ∀ j, j < k + 1 → holds (l.getD j 0) m = true) := Lib.hid (fun h j hj => by
        by_cases e : j = k
        · rw [e]; exact h
        · exact hg.out j (by omega))
      generalize holds (l.getD k 0) m = r at *
      generalize l.getD k 0 = x at *
      clear hb hg
      cases r
      · have HT2 := Lib.hid (HT.out rfl)
        clear HF HT
        go_wp2_with (go_at_call 35; refine HCL.out.mono ?_; rintro e w1 ⟨rfl, hb1⟩; have HB1 := Lib.hid (HB.out.trans (hb1.mono hws)); clear hb1)
        go_ret
        exact ⟨⟨_, rfl, by rw [HT2.out, decide_eq_true (by omega)]; rfl⟩, HB1.out⟩
      · have HF2 := Lib.hid (HF.out rfl)
        clear HF HT
        go_wp2_with (go_at_call 35; refine HCL.out.mono ?_; rintro e w1 ⟨rfl, hb1⟩; have HB1 := Lib.hid (HB.out.trans (hb1.mono hws)); clear hb1)
        go_roundw
        case rel => exact ⟨k + 1, by omega, by go_num, HB1.out, HF2⟩
        case measure => simp [intOf]; omega
    · obtain rfl : k = l.length := by omega
      have HE : Hid ((l.all fun x => holds x m) = true) := Lib.hid (by
        rw [List.all_eq_true]
        intro c hl
        obtain ⟨j, hj, rfl⟩ := List.mem_iff_getElem.1 hl
        have := hg.out j hj
        rw [List.getD_eq_getElem?_getD, List.getElem?_eq_getElem hj] at this
        simpa using this)
      clear hg hb
      go_wp2
      go_ret
      exact ⟨⟨-1, rfl, by rw [HE.out]; rfl⟩, HB.out⟩

theorem Contains_clo (mb : Nat) (mv av : Value) (m : List Bool) (l : List Int) (w : World) (B : Nat) (hcell : w.cell? ⟨mb, 0, none⟩ = some mv) (hm : BoolsAt w B mv m) (ha : IntsAt w B av l) (hB : B ≤ w.heap.size) (hmb : mb < w.heap.size) :
    Calls Try.prog 38 #[av, .func (.func 35) #[] #[.pointer (some ⟨mb, 0, none⟩)]] w fun e w' => e = .returned (.bool (!(l.all fun x => holds x m))) ∧ Below w.heap.size w w' := by
  have HI := Lib.hid (Index_clo mb mv av m l w B hcell hm ha hB hmb)
  obtain ⟨ao, cap, b, off, rfl, hcm, _, _, _⟩ := ha
  clear hcell hm
  go_enter Try.func38, Try.ntmps38
  go_wp2_with fail
  refine HI.out.mono ?_
  rintro e w1 ⟨⟨z, rfl, hz⟩, hb⟩
  have HB := Lib.hid hb
  have HZ := Lib.hid hz
  clear hb HI
  clear hz
  go_wp2
  go_ret
  exact ⟨by rw [← HZ.out]; rfl, HB.out⟩

/-- is a model one of clauses and assumptions? -/
def modelOk (cl : List (List Int)) (m : List Bool) (asm : List Int) : Bool := allIn cl m && asm.all fun x => holds x m

set_option maxHeartbeats 1000000 in
theorem Model_any (cv mv av : Value) (cl : List (List Int)) (m : List Bool) (asm : List Int) (w : World) (hc : ClsAt w w.heap.size cv cl) (hm : BoolsAt w w.heap.size mv m) (ha : IntsAt w w.heap.size av asm) :
    Calls Try.prog 22 #[cv, mv, av] w fun e w' => e = .returned (.bool (modelOk cl m asm)) ∧ Below w.heap.size w w' := by
  have hba : Below w.heap.size w (w.alloc (.cells #[mv] 27)) := (Below.refl _ _).alloc (Nat.le_refl _) _
  have HBA := Lib.hid hba
  have hnew : (w.alloc (.cells #[mv] 27)).cell? ⟨w.heap.size, 0, none⟩ = some mv := new_one w mv 27 0 _ rfl
  have HPA := Lib.hid (PAll_any cv mv cl m _ _ _ (hc.keep hba) (hm.keep hba))
  have HCF := Lib.hid (Contains_clo w.heap.size mv av m asm (w.alloc (.cells #[mv] 27)) w.heap.size hnew (hm.keep hba) (ha.keep hba) (by simp) (by simp))
  have HE : Hid (modelOk cl m asm = (allIn cl m && asm.all fun x => holds x m)) := Lib.hid rfl
  obtain ⟨ac, capc, bc, offc, vsc, rfl, _, _, _, _⟩ := hc
  obtain ⟨am, capm, bm, offm, rfl, _, _, _⟩ := hm
  obtain ⟨aa, capa, ba, offa, rfl, _, _, _, _⟩ := ha
  generalize allIn cl m = r1 at *
  generalize (asm.all fun x => holds x m) = r2 at *
  have hsz : (w.alloc (.cells #[.slice am m.length capm] 27)).heap.size = w.heap.size + 1 := by simp
  have HSZ := Lib.hid hsz
  clear hba hsz
  cases r1
  · go_enter Try.func22, Try.ntmps22
    go_wp2_with (first | (go_at_call 37; refine HPA.out.mono ?_; rintro e w' ⟨rfl, rfl⟩))
    go_ret
    exact ⟨by rw [HE.out]; rfl, HBA.out⟩
  · go_enter Try.func22, Try.ntmps22
    go_wp2_with (first | (go_at_call 37; refine HPA.out.mono ?_; rintro e w' ⟨rfl, rfl⟩) | (go_at_call 38; refine HCF.out.mono ?_; rintro e w1 ⟨rfl, hb1⟩; have HB1 := Lib.hid (HBA.out.trans (hb1.mono (by rw [HSZ.out]; omega))); clear hb1))
    go_ret
    exact ⟨by rw [HE.out]; simp, HB1.out⟩
end Go.Proofs.Ytojjjndhabjhdaa.resA
