/-
  Contracts of lits.literal, variable, True, All; proof.Model.
  Contract of proof.Result.
-/
import Derived.Test.YtojjjndhabjhdaaDoorFsM
namespace Go.Proofs.YtojjjndhabjhdaaDoor.resA
open Go.ChangeShapes Go.WideShapes Go.ChangeAt Go.RowKit proofP proofQ proofR owns proofA proofC proofG proofI proofJ proofK proofM proofN proofO proofS proofT proofU proofV proofW proofX cls
set_option linter.unusedSimpArgs false
set_option linter.unusedVariables false

theorem literal_yes (l : Int) (w : World) (hl : lit l) : Calls Tryd.prog 59 #[.int .i64 l] w fun e w' => e = .returned (.bool true) ∧ w = w' := by
  have h0 : (l != 0) = true := by simpa using hl.1
  have h1 : -20000 ≤ l := hl.2.1
  have h2 : l ≤ 20000 := hl.2.2
  clear hl
  go_enter Tryd.func59, Tryd.ntmps59
  go_wp2
  go_ret
  exact ⟨rfl, rfl⟩
theorem literal_no (l : Int) (w : World) (hl : ¬ lit l) : Calls Tryd.prog 59 #[.int .i64 l] w fun e w' => e = .returned (.bool false) ∧ w = w' := by
  by_cases h0 : l = 0
  · subst h0
    go_enter Tryd.func59, Tryd.ntmps59
    go_wp2
    go_ret
    exact ⟨rfl, rfl⟩
  · by_cases h1 : -20000 ≤ l
    · have h2 : ¬ l ≤ 20000 := fun h => hl ⟨h0, h1, h⟩
      clear hl
      go_enter Tryd.func59, Tryd.ntmps59
      go_wp2
      go_ret
      exact ⟨rfl, rfl⟩
    · clear hl
      go_enter Tryd.func59, Tryd.ntmps59
      go_wp2
      go_ret
      exact ⟨rfl, rfl⟩
theorem variable_any (l : Int) (w : World) (hl : lit l) : Calls Tryd.prog 60 #[.int .i64 l] w fun e w' => e = .returned (.int .i64 (l.natAbs : Nat)) ∧ w = w' := by
  have h1 : -20000 ≤ l := hl.2.1
  have h2 : l ≤ 20000 := hl.2.2
  have hw : IntKind.i64.wrap (-l) = -l := IntWalk.i64_in _ (by omega)
  have HM : Hid (max l (-l) = (l.natAbs : Nat)) := Lib.hid (by omega)
  clear hl
  by_cases h : l < 0
  · have HE : Hid (((l.natAbs : Nat) : Int) = -l) := Lib.hid (by omega)
    go_enter Tryd.func60, Tryd.ntmps60
    go_wp2
    go_ret
    exact ⟨ret_int (by rw [HE.out]; omega), rfl⟩
  · have HE : Hid (((l.natAbs : Nat) : Int) = l) := Lib.hid (by omega)
    go_enter Tryd.func60, Tryd.ntmps60
    go_wp2
    go_ret
    exact ⟨ret_int (by rw [HE.out]; omega), rfl⟩

/-- a literal's truth as the program reckons it -/
theorem holds_pos {l : Int} {m : List Bool} (hl : lit l) {k : Nat} (hk : l.natAbs = k + 1) : holds l m = ((decide (k < m.length) && m.getD k false) == decide (0 < l)) := by
  have h0 := hl.1
  unfold holds
  rw [decide_eq_true hl, Bool.true_and]
  by_cases h : l < 0
  · rw [if_pos h, decide_eq_false (show ¬ (0 < l) by omega), show (-l - 1).toNat = k from by omega]
    by_cases h1 : k < m.length
    · rw [decide_eq_false (show ¬ ((m.length : Int) < -l) by omega), decide_eq_true h1]; simp
    · rw [decide_eq_true (show ((m.length : Int) < -l) by omega), decide_eq_false h1]; simp
  · rw [if_neg h, decide_eq_true (show (0 < l) by omega), show (l - 1).toNat = k from by omega]
    by_cases h1 : k < m.length
    · rw [decide_eq_true (show (l ≤ (m.length : Int)) by omega), decide_eq_true h1]; simp
    · rw [decide_eq_false (show ¬ (l ≤ (m.length : Int)) by omega), decide_eq_false h1]; simp

set_option maxRecDepth 100000 in
set_option maxHeartbeats 2000000 in
theorem PTrue_any (cv mv : Value) (c : List Int) (m : List Bool) (w : World) (B B' : Nat) (hc : IntsAt w B cv c) (hm : BoolsAt w B' mv m) :
    Calls Tryd.prog 40 #[cv, mv] w fun e w' => e = .returned (.bool (trueIn c m)) ∧ w = w' := by
  obtain ⟨ao, cap, b, off, rfl, hcm, ha, hcell, h64⟩ := hc
  obtain ⟨am, capm, bm, offm, rfl, hmm, hma, hmc⟩ := hm
  have HA := Lib.hid ha
  have HC := Lib.hid hcell
  have HMA := Lib.hid hma
  have HMC := Lib.hid hmc
  unfold maxLen at hcm hmm
  clear ha hcell h64 hma hmc
  go_enter Tryd.func40, Tryd.ntmps40
  go_wp2
  go_loop [10] (fun it => ∃ k : Nat, k ≤ c.length ∧ it = .int .i64 k ∧ Hid (∀ j, j < k → holds (c.getD j 0) m = false)) (fun it => c.length - (intOf it).toNat)
  case atStart => exact ⟨0, Nat.zero_le _, rfl, Lib.hid (fun j hj => absurd hj (Nat.not_lt_zero _))⟩
  case round =>
    obtain ⟨k, hk, rfl, hg⟩ := hrel
    by_cases hlt : k < c.length
    · obtain ⟨rfl, hbB⟩ := HA.out (by intro h0; rw [h0] at hlt; simp at hlt)
      have q := HC.out k hlt
      have HT : Hid (holds (c.getD k 0) m = true → trueIn c m = true) := Lib.hid (fun h => List.any_eq_true.2 ⟨_, getD_mem hlt, h⟩)
      have HF : Hid (holds (c.getD k 0) m = false → ∀ j, j < k + 1 → holds (c.getD j 0) m = false) := Lib.hid (fun h j hj => by
        by_cases e : j = k
        · rw [e]; exact h
        · exact hg.out j (by omega))
      generalize c.getD k 0 = l at *
      clear hg
      by_cases hlit : lit l
      · have HL := Lib.hid hlit
        obtain ⟨v, hv⟩ : ∃ v : Nat, l.natAbs = v + 1 := ⟨l.natAbs - 1, by have := hlit.1; omega⟩
        have HP := Lib.hid (holds_pos (m := m) hlit hv)
        have HVA : Hid (Calls Tryd.prog 60 #[.int .i64 l] w fun e w' => e = .returned (.int .i64 ((v : Int) + 1)) ∧ w = w') := Lib.hid (by
          have := variable_any l w hlit; rw [hv] at this; exact this)
        have hb1 : -20000 ≤ l := hlit.2.1
        have hb2 : l ≤ 20000 := hlit.2.2
        have hv2 : v < 20000 := by omega
        have hw1 : IntKind.i64.wrap ((v : Int) + 1 - 1) = (v : Int) := by rw [IntWalk.i64_in _ (by omega)]; omega
        have hne : l ≠ 0 := hlit.1
        clear hlit hv
        generalize holds l m = h at *
        by_cases hvm : v < m.length
        · obtain ⟨rfl, hmB⟩ := HMA.out (by intro h0; rw [h0] at hvm; simp at hvm)
          have qm := HMC.out v hvm
          rw [decide_eq_true hvm, Bool.true_and] at HP
          generalize m.getD v false = r at *
          have hle : decide ((v : Int) + 1 ≤ (m.length : Int)) = true := decide_eq_true (by omega)
          by_cases hpos : 0 < l
          · rw [decide_eq_true hpos] at HP
            have hpd : decide (0 < l) = true := decide_eq_true hpos
            clear hpos
            cases r
            · have HF2 := Lib.hid (HF.out HP.out)
              clear HF HT HP
              go_wp2_with (first | (go_at_call 59; refine (literal_yes _ _ HL.out).mono ?_; rintro e w' ⟨rfl, rfl⟩) | (go_at_call 60; refine HVA.out.mono ?_; rintro e w' ⟨rfl, rfl⟩))
              go_round
              case rel => exact ⟨k + 1, by omega, by go_num, HF2⟩
              case measure => simp [intOf]; omega
            · have HT2 := Lib.hid (HT.out HP.out)
              clear HF HT HP
              go_wp2_with (first | (go_at_call 59; refine (literal_yes _ _ HL.out).mono ?_; rintro e w' ⟨rfl, rfl⟩) | (go_at_call 60; refine HVA.out.mono ?_; rintro e w' ⟨rfl, rfl⟩))
              go_ret
              exact ⟨by rw [HT2.out]; rfl, rfl⟩
          · rw [decide_eq_false hpos] at HP
            have hpd : decide (0 < l) = false := decide_eq_false hpos
            clear hpos
            cases r
            · have HT2 := Lib.hid (HT.out HP.out)
              clear HF HT HP
              go_wp2_with (first | (go_at_call 59; refine (literal_yes _ _ HL.out).mono ?_; rintro e w' ⟨rfl, rfl⟩) | (go_at_call 60; refine HVA.out.mono ?_; rintro e w' ⟨rfl, rfl⟩))
              go_ret
              exact ⟨by rw [HT2.out]; rfl, rfl⟩
            · have HF2 := Lib.hid (HF.out HP.out)
              clear HF HT HP
              go_wp2_with (first | (go_at_call 59; refine (literal_yes _ _ HL.out).mono ?_; rintro e w' ⟨rfl, rfl⟩) | (go_at_call 60; refine HVA.out.mono ?_; rintro e w' ⟨rfl, rfl⟩))
              go_round
              case rel => exact ⟨k + 1, by omega, by go_num, HF2⟩
              case measure => simp [intOf]; omega
        · rw [decide_eq_false hvm, Bool.false_and] at HP
          have hle : decide ((v : Int) + 1 ≤ (m.length : Int)) = false := decide_eq_false (by omega)
          by_cases hpos : 0 < l
          · rw [decide_eq_true hpos] at HP
            have hpd : decide (0 < l) = true := decide_eq_true hpos
            clear hpos
            have HF2 := Lib.hid (HF.out HP.out)
            clear HF HT HP
            go_wp2_with (first | (go_at_call 59; refine (literal_yes _ _ HL.out).mono ?_; rintro e w' ⟨rfl, rfl⟩) | (go_at_call 60; refine HVA.out.mono ?_; rintro e w' ⟨rfl, rfl⟩))
            go_round
            case rel => exact ⟨k + 1, by omega, by go_num, HF2⟩
            case measure => simp [intOf]; omega
          · rw [decide_eq_false hpos] at HP
            have hpd : decide (0 < l) = false := decide_eq_false hpos
            clear hpos
            have HT2 := Lib.hid (HT.out HP.out)
            clear HF HT HP
            go_wp2_with (first | (go_at_call 59; refine (literal_yes _ _ HL.out).mono ?_; rintro e w' ⟨rfl, rfl⟩) | (go_at_call 60; refine HVA.out.mono ?_; rintro e w' ⟨rfl, rfl⟩))
            go_ret
            exact ⟨by rw [HT2.out]; rfl, rfl⟩
      · have HL := Lib.hid hlit
        have HF2 := Lib.hid (HF.out (by unfold holds; rw [decide_eq_false hlit, Bool.false_and]))
        clear HF HT hlit
        go_wp2_with (go_at_call 59; refine (literal_no _ _ HL.out).mono ?_; rintro e w' ⟨rfl, rfl⟩)
        go_round
        case rel => exact ⟨k + 1, by omega, by go_num, HF2⟩
        case measure => simp [intOf]; omega
    · obtain rfl : k = c.length := by omega
      have HE : Hid (trueIn c m = false) := Lib.hid (by
        unfold trueIn
        rw [List.any_eq_false]
        intro l hl
        obtain ⟨j, hj, rfl⟩ := List.mem_iff_getElem.1 hl
        have := hg.out j hj
        rw [List.getD_eq_getElem?_getD, List.getElem?_eq_getElem hj] at this
        simpa using this)
      clear hg
      go_wp2
      go_ret
      exact ⟨by rw [HE.out]; rfl, rfl⟩

set_option maxHeartbeats 1000000 in
theorem PAll_any (cv mv : Value) (cl : List (List Int)) (m : List Bool) (w : World) (B B' : Nat) (hc : ClsAt w B cv cl) (hm : BoolsAt w B' mv m) :
    Calls Tryd.prog 41 #[cv, mv] w fun e w' => e = .returned (.bool (allIn cl m)) ∧ w = w' := by
  have HM := Lib.hid hm
  obtain ⟨ao, cap, b, off, vs, rfl, hcm, ha, hcell, hn⟩ := hc
  obtain ⟨am, capm, bm, offm, rfl, _, _, _⟩ := hm
  have HA := Lib.hid ha
  have HC := Lib.hid hcell
  have HN := Lib.hid hn
  unfold maxLen at hcm
  clear ha hcell hn
  go_enter Tryd.func41, Tryd.ntmps41
  go_wp2
  go_loop [9] (fun it => ∃ k : Nat, k ≤ cl.length ∧ it = .int .i64 k ∧ Hid (∀ j, j < k → trueIn (cl.getD j []) m = true)) (fun it => cl.length - (intOf it).toNat)
  case atStart => exact ⟨0, Nat.zero_le _, rfl, Lib.hid (fun j hj => absurd hj (Nat.not_lt_zero _))⟩
  case round =>
    obtain ⟨k, hk, rfl, hg⟩ := hrel
    by_cases hlt : k < cl.length
    · obtain ⟨rfl, hbB⟩ := HA.out (by intro h0; rw [h0] at hlt; simp at hlt)
      have q := HC.out k hlt
      have HH := Lib.hid (fun w' (h : w = w') => PTrue_any (vs k) _ (cl.getD k []) m w' B B' (h ▸ HN.out k hlt) (h ▸ HM.out))
      have HT : Hid (trueIn (cl.getD k []) m = false → allIn cl m = false) := Lib.hid (fun h => by
        rw [Bool.eq_false_iff]; intro h'
        have := List.all_eq_true.1 h' _ (getD_mem (d := []) hlt)
        rw [h] at this; cases this)
      have HF : Hid (trueIn (cl.getD k []) m = true → ∀ j, j < k + 1 → trueIn (cl.getD j []) m = true) := Lib.hid (fun h j hj => by
        by_cases e : j = k
        · rw [e]; exact h
        · exact hg.out j (by omega))
      generalize hr : trueIn (cl.getD k []) m = r at *
      clear hg hr
      cases r
      · have HT2 := Lib.hid (HT.out rfl)
        clear HF HT
        go_wp2_with (go_at_call 40; refine (HH.out _ rfl).mono ?_; rintro e w' ⟨rfl, rfl⟩)
        go_ret
        exact ⟨by rw [HT2.out]; rfl, rfl⟩
      · have HF2 := Lib.hid (HF.out rfl)
        clear HF HT
        go_wp2_with (go_at_call 40; refine (HH.out _ rfl).mono ?_; rintro e w' ⟨rfl, rfl⟩)
        go_round
        case rel => exact ⟨k + 1, by omega, by go_num, HF2⟩
        case measure => simp [intOf]; omega
    · obtain rfl : k = cl.length := by omega
      have HE : Hid (allIn cl m = true) := Lib.hid (by
        unfold allIn
        rw [List.all_eq_true]
        intro c hl
        obtain ⟨j, hj, rfl⟩ := List.mem_iff_getElem.1 hl
        have := hg.out j hj
        rw [List.getD_eq_getElem?_getD, List.getElem?_eq_getElem hj] at this
        simpa using this)
      clear hg
      go_wp2
      go_ret
      exact ⟨by rw [HE.out]; rfl, rfl⟩

theorem clo_any (l : Int) (mb : Nat) (mv : Value) (m : List Bool) (w : World) (B : Nat) (hcell : w.cell? ⟨mb, 0, none⟩ = some mv) (hm : BoolsAt w B mv m) (hl : In64 l) (hB : B ≤ w.heap.size) (hmb : mb < w.heap.size) :
    Calls Tryd.prog 39 #[.int .i64 l, .pointer (some ⟨mb, 0, none⟩)] w fun e w' => e = .returned (.bool (!holds l m)) ∧ Below w.heap.size w w' := by
  have hba : Below w.heap.size w (w.alloc (.cells #[.int .i64 l] 3)) := (Below.refl _ _).alloc (Nat.le_refl _) _
  have HBA := Lib.hid hba
  have HPT := Lib.hid (PTrue_any _ mv [l] m _ _ B (ints_new w l hl) (hm.keep (hba.mono hB)))
  have HE : Hid (trueIn [l] m = holds l m) := Lib.hid (by simp [trueIn])
  rw [HE.out] at HPT
  have hc2 : (w.alloc (.cells #[.int .i64 l] 3)).cell? ⟨mb, 0, none⟩ = some mv := by rw [hba.cell (show (⟨mb, 0, none⟩ : Addr).block < w.heap.size from hmb)]; exact hcell
  obtain ⟨am, capm, bm, offm, rfl, _, _, _⟩ := hm
  generalize holds l m = r at *
  clear hba hcell
  go_enter Tryd.func39, Tryd.ntmps39
  go_wp2_with (go_at_call 40; refine HPT.out.mono ?_; rintro e w' ⟨rfl, rfl⟩)
  go_ret
  exact ⟨rfl, HBA.out⟩

set_option maxHeartbeats 1000000 in
theorem Index_clo (mb : Nat) (mv av : Value) (m : List Bool) (l : List Int) (w : World) (B : Nat) (hcell : w.cell? ⟨mb, 0, none⟩ = some mv) (hm : BoolsAt w B mv m) (ha : IntsAt w B av l) (hB : B ≤ w.heap.size) (hmb : mb < w.heap.size) :
    Calls Tryd.prog 49 #[av, .func (.func 39) #[] #[.pointer (some ⟨mb, 0, none⟩)]] w fun e w' => (∃ z : Int, e = .returned (.int .i64 z) ∧ decide (0 ≤ z) = !(l.all fun x => holds x m)) ∧ Below w.heap.size w w' := by
  have HCE := Lib.hid hcell
  have HM := Lib.hid hm
  obtain ⟨ao, cap, b, off, rfl, hcm, ha, hc, h64⟩ := ha
  have HA := Lib.hid ha
  have HC := Lib.hid hc
  have H64 := Lib.hid h64
  unfold maxLen at hcm
  clear ha hc h64 hm hcell
  go_enter Tryd.func49, Tryd.ntmps49
  go_wp2
  go_loopw [8] (fun it wr => ∃ k : Nat, k ≤ l.length ∧ it = .int .i64 k ∧ Below w.heap.size w wr ∧ Hid (∀ j, j < k → holds (l.getD j 0) m = true)) (fun it _ => l.length - (intOf it).toNat)
  case atStart => exact ⟨0, Nat.zero_le _, rfl, Below.refl _ _, Lib.hid (fun j hj => absurd hj (Nat.not_lt_zero _))⟩
  case round =>
    obtain ⟨k, hk, rfl, hb, hg⟩ := hrel
    have HB := Lib.hid hb
    have hws := hb.size
    by_cases hlt : k < l.length
    · obtain ⟨rfl, hbB⟩ := HA.out (by intro h0; rw [h0] at hlt; simp at hlt)
      have q : wr.cell? ⟨b, off + k, none⟩ = some (.int .i64 (l.getD k 0)) := by rw [hb.cell (show (⟨b, off + k, none⟩ : Addr).block < w.heap.size from by show b < _; omega)]; exact HC.out k hlt
      have HCL := Lib.hid (clo_any (l.getD k 0) mb mv m wr B (by rw [hb.cell (show (⟨mb, 0, none⟩ : Addr).block < w.heap.size from hmb)]; exact HCE.out) (HM.out.keep (hb.mono hB)) (H64.out _ (getD_mem (d := 0) hlt)) (by omega) (by omega))
      have HT : Hid (holds (l.getD k 0) m = false → (l.all fun x => holds x m) = false) := Lib.hid (fun h => by
        rw [Bool.eq_false_iff]; intro h'
        have := List.all_eq_true.1 h' _ (getD_mem (d := 0) hlt)
        rw [h] at this; cases this)
      have HF : Hid (holds (l.getD k 0) m = true → ∀ j, j < k + 1 → holds (l.getD j 0) m = true) := Lib.hid (fun h j hj => by
        by_cases e : j = k
        · rw [e]; exact h
        · exact hg.out j (by omega))
      generalize holds (l.getD k 0) m = r at *
      generalize l.getD k 0 = x at *
      clear hb hg
      cases r
      · have HT2 := Lib.hid (HT.out rfl)
        clear HF HT
        go_wp2_with (go_at_call 39; refine HCL.out.mono ?_; rintro e w1 ⟨rfl, hb1⟩; have HB1 := Lib.hid (HB.out.trans (hb1.mono hws)); clear hb1)
        go_ret
        exact ⟨⟨_, rfl, by rw [HT2.out, decide_eq_true (by omega)]; rfl⟩, HB1.out⟩
      · have HF2 := Lib.hid (HF.out rfl)
        clear HF HT
        go_wp2_with (go_at_call 39; refine HCL.out.mono ?_; rintro e w1 ⟨rfl, hb1⟩; have HB1 := Lib.hid (HB.out.trans (hb1.mono hws)); clear hb1)
        go_roundw
        case rel => exact ⟨k + 1, by omega, by go_num, HB1.out, HF2⟩
        case measure => simp [intOf]; omega
    · obtain rfl : k = l.length := by omega
      have HE : Hid ((l.all fun x => holds x m) = true) := Lib.hid (by
        rw [List.all_eq_true]
        intro c hl
        obtain ⟨j, hj, rfl⟩ := List.mem_iff_getElem.1 hl
        have := hg.out j hj
        rw [List.getD_eq_getElem?_getD, List.getElem?_eq_getElem hj] at this
        simpa using this)
      clear hg hb
      go_wp2
      go_ret
      exact ⟨⟨-1, rfl, by rw [HE.out]; rfl⟩, HB.out⟩

theorem Contains_clo (mb : Nat) (mv av : Value) (m : List Bool) (l : List Int) (w : World) (B : Nat) (hcell : w.cell? ⟨mb, 0, none⟩ = some mv) (hm : BoolsAt w B mv m) (ha : IntsAt w B av l) (hB : B ≤ w.heap.size) (hmb : mb < w.heap.size) :
    Calls Tryd.prog 25 #[av, .func (.func 39) #[] #[.pointer (some ⟨mb, 0, none⟩)]] w fun e w' => e = .returned (.bool (!(l.all fun x => holds x m))) ∧ Below w.heap.size w w' := by
  have HI := Lib.hid (Index_clo mb mv av m l w B hcell hm ha hB hmb)
  obtain ⟨ao, cap, b, off, rfl, hcm, _, _, _⟩ := ha
  clear hcell hm
  go_enter Tryd.func25, Tryd.ntmps25
  go_wp2_with fail
  refine HI.out.mono ?_
  rintro e w1 ⟨⟨z, rfl, hz⟩, hb⟩
  have HB := Lib.hid hb
  have HZ := Lib.hid hz
  clear hb HI
  clear hz
  go_wp2
  go_ret
  exact ⟨by rw [← HZ.out]; rfl, HB.out⟩

/-- is a model one of clauses and assumptions? -/
def modelOk (cl : List (List Int)) (m : List Bool) (asm : List Int) : Bool := allIn cl m && asm.all fun x => holds x m

set_option maxHeartbeats 1000000 in
theorem Model_any (cv mv av : Value) (cl : List (List Int)) (m : List Bool) (asm : List Int) (w : World) (hc : ClsAt w w.heap.size cv cl) (hm : BoolsAt w w.heap.size mv m) (ha : IntsAt w w.heap.size av asm) :
    Calls Tryd.prog 15 #[cv, mv, av] w fun e w' => e = .returned (.bool (modelOk cl m asm)) ∧ Below w.heap.size w w' := by
  have hba : Below w.heap.size w (w.alloc (.cells #[mv] 24)) := (Below.refl _ _).alloc (Nat.le_refl _) _
  have HBA := Lib.hid hba
  have hnew : (w.alloc (.cells #[mv] 24)).cell? ⟨w.heap.size, 0, none⟩ = some mv := new_one w mv 24 0 _ rfl
  have HPA := Lib.hid (PAll_any cv mv cl m _ _ _ (hc.keep hba) (hm.keep hba))
  have HCF := Lib.hid (Contains_clo w.heap.size mv av m asm (w.alloc (.cells #[mv] 24)) w.heap.size hnew (hm.keep hba) (ha.keep hba) (by simp) (by simp))
  have HE : Hid (modelOk cl m asm = (allIn cl m && asm.all fun x => holds x m)) := Lib.hid rfl
  obtain ⟨ac, capc, bc, offc, vsc, rfl, _, _, _, _⟩ := hc
  obtain ⟨am, capm, bm, offm, rfl, _, _, _⟩ := hm
  obtain ⟨aa, capa, ba, offa, rfl, _, _, _, _⟩ := ha
  generalize allIn cl m = r1 at *
  generalize (asm.all fun x => holds x m) = r2 at *
  have hsz : (w.alloc (.cells #[.slice am m.length capm] 24)).heap.size = w.heap.size + 1 := by simp
  have HSZ := Lib.hid hsz
  clear hba hsz
  cases r1
  · go_enter Tryd.func15, Tryd.ntmps15
    go_wp2_with (first | (go_at_call 41; refine HPA.out.mono ?_; rintro e w' ⟨rfl, rfl⟩))
    go_ret
    exact ⟨by rw [HE.out]; rfl, HBA.out⟩
  · go_enter Tryd.func15, Tryd.ntmps15
    go_wp2_with (first | (go_at_call 41; refine HPA.out.mono ?_; rintro e w' ⟨rfl, rfl⟩) | (go_at_call 25; refine HCF.out.mono ?_; rintro e w1 ⟨rfl, hb1⟩; have HB1 := Lib.hid (HBA.out.trans (hb1.mono (by rw [HSZ.out]; omega))); clear hb1))
    go_ret
    exact ⟨by rw [HE.out]; simp, HB1.out⟩
end Go.Proofs.YtojjjndhabjhdaaDoor.resA
namespace Go.Proofs.YtojjjndhabjhdaaDoor.resB
open Go.ChangeShapes Go.WideShapes Go.ChangeAt Go.RowKit proofP proofQ proofR owns proofA proofC proofG proofI proofJ proofK proofM proofN proofO proofS proofT proofU proofV proofW proofX resA cls
set_option linter.unusedSimpArgs false
set_option linter.unusedVariables false

theorem Clone_any (av : Value) (l : List Int) (w : World) (B : Nat) (ha : IntsAt w B av l) (hl : l.length ≤ 100000) :
    Calls Tryd.prog 16 #[av] w fun e w' => ∃ ao c, e = .returned (.slice ao l.length c) ∧ IntsR w' w.heap.size (.slice ao l.length c) l ∧ Below w.heap.size w w' := by
  obtain ⟨ao, cap, b, off, rfl, hcm, ha, hc, h64⟩ := ha
  by_cases h0 : l = []
  · subst h0
    cases ao with
    | none =>
      refine (Tryd.slices_Clone_int_nil _ _ _).mono ?_
      rintro e w' ⟨rfl, rfl⟩
      exact ⟨none, 0, rfl, ⟨rfl, .inl ⟨rfl, rfl⟩⟩, Below.refl _ _⟩
    | some ad =>
      refine (Tryd.slices_Clone_int_zero ad cap w).mono ?_
      rintro e w' ⟨v', rfl, ho, _, hb⟩
      obtain ⟨a3, c3, hv3, _, _, _⟩ := cap_row ho
      subst hv3
      exact ⟨a3, c3, rfl, ho, hb⟩
  · obtain ⟨rfl, _⟩ := ha h0
    refine (Tryd.slices_Clone_int b off l.length cap l w (Nat.le_refl _) (by omega) hc).mono ?_
    rintro e w' ⟨v', rfl, ho, _, hb⟩
    rw [List.take_length] at ho
    obtain ⟨a3, c3, hv3, _, _, _⟩ := cap_row ho
    subst hv3
    exact ⟨a3, c3, rfl, ho, hb⟩

def srt (l : List Int) : List Int := l.mergeSort fun x y => decide (x ≤ y)
theorem srt_len (l : List Int) : (srt l).length = l.length := List.length_mergeSort _
theorem srt_mem (l : List Int) (x : Int) : (srt l).contains x = l.contains x := by
  rw [Bool.eq_iff_iff]; simp [srt, List.mem_mergeSort]
theorem srt_le (l : List Int) : (srt l).Pairwise (· ≤ ·) := by
  have := List.pairwise_mergeSort (le := fun (x y : Int) => decide (x ≤ y)) (fun a b c h1 h2 => by simp at *; omega) (fun a b => by simp; omega) l
  exact this.imp (fun h => by simpa using h)

theorem Sort_any (ao : Option Addr) (c : Nat) (l : List Int) (w : World) (B : Nat) (h : IntsR w B (.slice ao l.length c) l) (hl : l.length ≤ 100000) (hB : B ≤ w.heap.size) :
    Calls Tryd.prog 17 #[.slice ao l.length c] w fun e w' => e = .returned (.tuple #[]) ∧ IntsR w' B (.slice ao l.length c) (srt l) ∧ Below B w w' := by
  by_cases h0 : l = []
  · subst h0
    refine (Tryd.slices_Sort_int_none _ _ _).mono ?_
    rintro e w' ⟨rfl, rfl⟩
    have e0 : srt [] = [] := by simp [srt]
    exact ⟨rfl, by rw [e0]; exact h, Below.refl _ _⟩
  · have hpos : 0 < l.length := List.length_pos_iff.2 h0
    have h' : w.ownsRow B 3 1 (.slice ao l.length c) l.length (l.map (Value.int .i64)) := h
    obtain ⟨g, cap, hv, hg1, hg2, _, _⟩ := own_form h' hpos
    cases hv
    obtain ⟨hH, hgl, hcp⟩ := own_holds h'
    refine (Tryd.slices_Sort_int g 0 c l w hH hgl (by omega)).mono ?_
    rintro e w' ⟨rfl, n, os, hw⟩
    obtain ⟨o2, g2⟩ := own_put h' (srt_len l) n os
    have hw' : w' = Go.Sort.grow (Go.Sort.putRow (Value.int .i64) (Sort.ahead w n) g 0 (srt l).toArray) os := hw
    rw [← hw'] at o2 g2
    refine ⟨rfl, ?_, (Below.refl B w).grown g2 hB (fun k hk => by cases hk; exact hg1)⟩
    show w'.ownsRow B 3 1 _ (srt l).length _
    rw [srt_len]; exact o2

theorem Search_any (ao : Option Addr) (c : Nat) (l : List Int) (x : Int) (w : World) (B : Nat) (h : IntsR w B (.slice ao l.length c) (srt l)) (hl : l.length ≤ 100000) :
    Calls Tryd.prog 18 #[.slice ao l.length c, .int .i64 x] w fun e w' => ∃ z, e = .returned (.tuple #[.int .i64 z, .bool (l.contains x)]) ∧ Below w.heap.size w w' := by
  by_cases h0 : l = []
  · subst h0
    refine (Tryd.slices_BinarySearch_int_empty _ _ _ _).mono ?_
    rintro e w' ⟨rfl, rfl⟩
    exact ⟨0, rfl, Below.refl _ _⟩
  · have hpos : 0 < l.length := List.length_pos_iff.2 h0
    have h' : w.ownsRow B 3 1 (.slice ao l.length c) l.length ((srt l).map (Value.int .i64)) := by
      have : w.ownsRow B 3 1 (.slice ao l.length c) (srt l).length ((srt l).map (Value.int .i64)) := h
      rw [srt_len] at this; exact this
    obtain ⟨g, cap, hv, hg1, hg2, _, _⟩ := own_form h' hpos
    cases hv
    refine (Tryd.slices_BinarySearch_int g 0 l.length c (srt l) x w (by rw [srt_len]; exact Nat.le_refl _) (by omega) (fun j hj => ?_) ?_).mono ?_
    · rw [srt_len] at hj
      have := World.ownsRow.cellAt h' j (by omega)
      rw [Nat.zero_add, this, List.getElem?_map, List.getElem?_eq_getElem (by rw [srt_len]; exact hj), List.getD_eq_getElem?_getD, List.getElem?_eq_getElem (by rw [srt_len]; exact hj)]; rfl
    · rw [← srt_len l, List.take_length]; exact srt_le l
    · rintro e w' ⟨rfl, q, rfl⟩
      refine ⟨_, by rw [show (srt l).take l.length = srt l from by rw [← srt_len l, List.take_length], srt_mem], Go.Joins.below_draws _ _ q⟩

noncomputable def resultOk (cl : List (List Int)) (vars : Int) (asm : List Int) (st : Int) (m : List Bool) (core : List Int) (log : List (List Int)) : Bool :=
  if st = 1 then decide ((m.length : Int) = vars) && modelOk cl m asm
  else if st = 2 then (core.all fun l => asm.contains l) && refutes cl log core
  else decide (bad cl log < 0)

set_option maxRecDepth 100000 in
set_option maxHeartbeats 4000000 in
theorem Result_any (cv av mv kv lv : Value) (vars st cf : Int) (cl log : List (List Int)) (m : List Bool) (asm core : List Int) (w : World) (hc : ClsAt w w.heap.size cv cl) (hl : ClsAt w w.heap.size lv log) (hm : BoolsAt w w.heap.size mv m) (ha : IntsAt w w.heap.size av asm) (hk : IntsAt w w.heap.size kv core)
    (h1 : cl.length ≤ 40000) (h2 : log.length ≤ 40000) (hs1 : ∀ c ∈ cl, c.length ≤ 50000) (hs2 : ∀ c ∈ log, c.length ≤ 50000) (h3 : asm.length ≤ 100000) (h4 : core.length ≤ 100000) (hv64 : In64 vars) (hst : In64 st) :
    Calls Tryd.prog 7 #[cv, .int .i64 vars, av, .agg #[.int .i64 st, mv, kv, lv, .int .i64 cf]] w fun e w' => e = .returned (.bool (resultOk cl vars asm st m core log)) ∧ Below w.heap.size w w' := by
  have hba : Below w.heap.size w (w.alloc (.cells #[.int .i64 st, mv, kv, lv, .int .i64 cf] 26)) := (Below.refl _ _).alloc (Nat.le_refl _) _
  have hW := Whole.new w 26 [.int .i64 st, mv, kv, lv, .int .i64 cf]
  have HRO : Hid (resultOk cl vars asm st m core log = if st = 1 then decide ((m.length : Int) = vars) && modelOk cl m asm else if st = 2 then (core.all fun l => asm.contains l) && refutes cl log core else decide (bad cl log < 0)) := Lib.hid rfl
  have c0 := hW.cell 0
  have c1 := hW.cell 1
  have c2 := hW.cell 2
  have c3 := hW.cell 3
  simp only [List.getElem?_cons_zero, List.getElem?_cons_succ] at c0 c1 c2 c3
  have hsz : w.heap.size ≤ (w.alloc (.cells #[.int .i64 st, mv, kv, lv, .int .i64 cf] 26)).heap.size := hba.size
  have hlt : w.heap.size < (w.alloc (.cells #[.int .i64 st, mv, kv, lv, .int .i64 cf] 26)).heap.size := by simp
  obtain ⟨w0, hw0⟩ : ∃ w0, w0 = w.alloc (.cells #[.int .i64 st, mv, kv, lv, .int .i64 cf] 26) := ⟨_, rfl⟩
  have hW0 := hw0.symm
  change (w.alloc (.cells #[.int .i64 st, mv, kv, lv, .int .i64 cf] 26)).cell? _ = _ at c0 c1 c2 c3
  rw [hW0] at hba c0 c1 c2 c3 hsz hlt
  have HBA := Lib.hid hba
  have hc0 := (hc.keep hba).mono hsz
  have hl0 := (hl.keep hba).mono hsz
  have ha0 := (ha.keep hba).mono hsz
  have hk0 := (hk.keep hba).mono hsz
  have hm0 : BoolsAt w0 w0.heap.size mv m := by
    obtain ⟨am, capm, bm, offm, e, e1, e2, e3⟩ := hm.keep hba
    exact ⟨am, capm, bm, offm, e, e1, fun h => ⟨(e2 h).1, Nat.lt_of_lt_of_le (e2 h).2 hsz⟩, e3⟩
  have HMO := Lib.hid (Model_any cv mv av cl m asm w0 hc0 hm0 ha0)
  have HCK := Lib.hid (Check_any w0 w0.heap.size cv lv cl log hc0 hl0 (Nat.le_refl _) h1 h2 (fun c hc => by have := hs1 c hc; omega) (fun c hc => by have := hs2 c hc; omega))
  have HCN := Lib.hid (Clone_any av asm w0 w0.heap.size ha0 h3)
  have HRF : Hid (∀ wr, Below w0.heap.size w0 wr → Calls Tryd.prog 19 #[cv, lv, kv] wr fun e w' => e = .returned (.bool (refutes cl log core)) ∧ Below w0.heap.size w0 w') := Lib.hid (fun wr hb => by
    refine (Refutes_any wr w0.heap.size cv lv kv cl log core (hc0.keep hb) (hl0.keep hb) (hk0.keep hb) hb.size h1 h2 (fun c hc => by have := hs1 c hc; omega) (fun c hc => by have := hs2 c hc; omega) h4).mono ?_
    rintro e w' ⟨rfl, hb'⟩
    exact ⟨rfl, hb.trans (hb'.mono hb.size)⟩)
  obtain ⟨ac, capc, bc, offc, vsc, rfl, _, _, _, _⟩ := hc
  obtain ⟨al, capl, bl, offl, vsl, rfl, _, _, _, _⟩ := hl
  obtain ⟨am, capm, bm, offm, rfl, hmm, _, _⟩ := hm
  obtain ⟨aa, capa, ba, offa, rfl, _, _, _, _⟩ := ha
  obtain ⟨ak, capk, bk, offk, rfl, _, hka, hkc, hk64⟩ := hk
  have HKA := Lib.hid hka
  have HKC : Hid (∀ wr, Below w0.heap.size w0 wr → ∀ i, i < core.length → wr.cell? ⟨bk, offk + i, none⟩ = some (.int .i64 (core.getD i 0))) := Lib.hid (fun wr hb i hi => by
    have hlt' := (hka (by intro h0; rw [h0] at hi; simp at hi)).2
    rw [((hba.mono (Nat.le_refl _)).trans (hb.mono hsz)).cell (show (⟨bk, offk + i, none⟩ : Addr).block < w.heap.size from hlt')]; exact hkc i hi)
  unfold maxLen at hmm
  clear hba hW hc0 hl0 ha0 hk0 hm0 hka hkc hk64 hs1 hs2
  obtain ⟨v1, v2⟩ := hv64
  obtain ⟨t1, t2⟩ := hst
  have HW0 := Lib.hid hW0
  clear hw0
  by_cases hs1 : st = 1
  · subst hs1
    have HE : Hid (resultOk cl vars asm 1 m core log = (decide ((m.length : Int) = vars) && modelOk cl m asm)) := Lib.hid (by rw [HRO.out]; rfl)
    clear HRO HCK HCN HRF HKA HKC
    by_cases hv : (m.length : Int) = vars
    · rw [decide_eq_true hv, Bool.true_and] at HE
      subst hv
      generalize modelOk cl m asm = r at *
      go_enter Tryd.func7, Tryd.ntmps7
      go_wp2_with fail
      refine HMO.out.mono ?_
      rintro e w1 ⟨rfl, hb1⟩
      have HB1 := Lib.hid (HBA.out.trans (hb1.mono hsz))
      clear hb1 HMO
      go_wp2
      go_ret
      exact ⟨by rw [HE.out]; rfl, HB1.out⟩
    · rw [decide_eq_false hv, Bool.false_and] at HE
      clear HMO
      go_enter Tryd.func7, Tryd.ntmps7
      go_wp2
      go_ret
      exact ⟨by rw [HE.out]; rfl, HBA.out⟩
  · by_cases hs2 : st = 2
    · subst hs2
      have HE : Hid (resultOk cl vars asm 2 m core log = ((core.all fun l => asm.contains l) && refutes cl log core)) := Lib.hid (by rw [HRO.out]; rfl)
      clear HRO HCK HMO
      go_enter Tryd.func7, Tryd.ntmps7
      go_wp2_with fail
      refine HCN.out.mono ?_
      rintro e w1 ⟨a1, ca1, rfl, hr1, hb1⟩
      have HB1 := Lib.hid hb1
      have HSO := Lib.hid (Sort_any a1 ca1 asm w1 w0.heap.size hr1 h3 hb1.size)
      clear hb1 hr1 HCN
      go_wp2_with fail
      refine HSO.out.mono ?_
      rintro e w2 ⟨rfl, hr2, hb2⟩
      have hB2 := HB1.out.trans hb2
      have HB2 := Lib.hid hB2
      have HR2 := Lib.hid hr2
      have d2 := hB2.cell (show (⟨w.heap.size, 2, none⟩ : Addr).block < w0.heap.size from hlt)
      rw [c2] at d2
      have d3 := hB2.cell (show (⟨w.heap.size, 3, none⟩ : Addr).block < w0.heap.size from hlt)
      rw [c3] at d3
      clear hr2 hb2 hB2 HSO c0 c1 c2 c3
      go_wp2
      go_loopw [39] (fun it wr => ∃ k : Nat, k ≤ core.length ∧ it = .int .i64 k ∧ Below w0.heap.size w0 wr ∧ IntsR wr w0.heap.size (.slice a1 asm.length ca1) (srt asm) ∧ Below w2.heap.size w2 wr ∧ Hid (∀ j, j < k → asm.contains (core.getD j 0) = true)) (fun it _ => core.length - (intOf it).toNat)
      case atStart => exact ⟨0, Nat.zero_le _, rfl, HB2.out, HR2.out, Below.refl _ _, Lib.hid (fun j hj => absurd hj (Nat.not_lt_zero _))⟩
      case round =>
        obtain ⟨k, hk, rfl, hb, hr, hbw, hg⟩ := hrel
        have HB := Lib.hid hb
        have HBW := Lib.hid hbw
        have hw2s : w.heap.size < w2.heap.size := Nat.lt_of_lt_of_le hlt HB2.out.size
        have hws := hb.size
        have hwws := hbw.size
        by_cases hlt2 : k < core.length
        · obtain ⟨rfl, hbB⟩ := HKA.out (by intro h0; rw [h0] at hlt2; simp at hlt2)
          have q := HKC.out wr hb k hlt2
          have HSE := Lib.hid (Search_any a1 ca1 asm (core.getD k 0) wr w0.heap.size hr h3)
          have HR := Lib.hid hr
          have HT : Hid (asm.contains (core.getD k 0) = false → (core.all fun l => asm.contains l) = false) := Lib.hid (fun h => by
            rw [Bool.eq_false_iff]; intro h'
            have := List.all_eq_true.1 h' _ (getD_mem (d := 0) hlt2)
            rw [h] at this; cases this)
          have HF : Hid (asm.contains (core.getD k 0) = true → ∀ j, j < k + 1 → asm.contains (core.getD j 0) = true) := Lib.hid (fun h j hj => by
            by_cases e : j = k
            · rw [e]; exact h
            · exact hg.out j (by omega))
          generalize asm.contains (core.getD k 0) = r at *
          generalize core.getD k 0 = x at *
          clear hb hr hbw hg d2 d3
          cases r
          · have HT2 := Lib.hid (HT.out rfl)
            clear HF HT
            go_wp2_with fail
            refine HSE.out.mono ?_
            rintro e w3 ⟨z, rfl, hb3⟩
            have HB3 := Lib.hid (HBA.out.trans ((HB.out.trans (hb3.mono hws)).mono hsz))
            clear hb3 HSE
            go_wp2
            go_ret
            exact ⟨by rw [HE.out, HT2.out]; rfl, HB3.out⟩
          · have HF2 := Lib.hid (HF.out rfl)
            clear HF HT
            go_wp2_with fail
            refine HSE.out.mono ?_
            rintro e w3 ⟨z, rfl, hb3⟩
            have HB3 := Lib.hid (HB.out.trans (hb3.mono hws))
            have HR3 : Hid (IntsR w3 w0.heap.size (.slice a1 asm.length ca1) (srt asm)) := Lib.hid (row_below HR.out hb3)
            have HW3 := Lib.hid (HBW.out.trans (hb3.mono hwws))
            clear hb3 HSE
            go_wp2
            go_roundw
            case rel => exact ⟨k + 1, by omega, by go_num, HB3.out, HR3.out, HW3.out, HF2⟩
            case measure => simp [intOf]; omega
        · obtain rfl : k = core.length := by omega
          have HT : Hid ((core.all fun l => asm.contains l) = true) := Lib.hid (by
            rw [List.all_eq_true]
            intro c hl
            obtain ⟨j, hj, rfl⟩ := List.mem_iff_getElem.1 hl
            have := hg.out j hj
            rw [List.getD_eq_getElem?_getD, List.getElem?_eq_getElem hj] at this
            simpa using this)
          rw [HT.out, Bool.true_and] at HE
          have HQ := Lib.hid (HRF.out wr hb)
          rw [← hbw.cell (show (⟨w.heap.size, 2, none⟩ : Addr).block < w2.heap.size from hw2s)] at d2
          rw [← hbw.cell (show (⟨w.heap.size, 3, none⟩ : Addr).block < w2.heap.size from hw2s)] at d3
          generalize refutes cl log core = r at *
          clear hb hr hbw hg HRF HT
          go_wp2_with fail
          refine HQ.out.mono ?_
          rintro e w3 ⟨rfl, hb3⟩
          have HB3 := Lib.hid (HBA.out.trans (hb3.mono hsz))
          clear hb3 HQ
          go_wp2
          go_ret
          exact ⟨by rw [HE.out]; rfl, HB3.out⟩
    · have HE : Hid (resultOk cl vars asm st m core log = decide (bad cl log < 0)) := Lib.hid (by rw [HRO.out, if_neg hs1, if_neg hs2])
      have e1 : decide (st = 1) = false := decide_eq_false hs1
      have e2 : decide (st = 2) = false := decide_eq_false hs2
      generalize bad cl log = bd at *
      clear HRO HCN HRF HMO HKA HKC
      go_enter Tryd.func7, Tryd.ntmps7
      go_wp2_with fail
      refine HCK.out.mono ?_
      rintro e w1 ⟨rfl, hb1⟩
      have HB1 := Lib.hid (HBA.out.trans (hb1.mono hsz))
      clear hb1 HCK
      go_wp2
      go_ret
      exact ⟨by rw [HE.out]; rfl, HB1.out⟩
end Go.Proofs.YtojjjndhabjhdaaDoor.resB
