/-
  Contracts of the reference's small functions of clauses, and of the law's own: Is, Holds, True, All, Big, Right, big, alive.
-/
import Derived.Test.YtojjjndhabjhdaaProofM
namespace Go.Proofs.Ytojjjndhabjhdaa.proofN
open Go.ChangeShapes Go.WideShapes Go.ChangeAt Go.RowKit proofP proofQ owns proofA proofM cls
set_option linter.unusedSimpArgs false
set_option linter.unusedVariables false

theorem Is_yes (l : Int) (w : World) (hl : lit l) : Calls Try.prog 31 #[.int .i64 l] w fun e w' => e = .returned (.bool true) ∧ w = w' := by
  have h0 : (l != 0) = true := by simpa using hl.1
  have h1 : -20000 ≤ l := hl.2.1
  have h2 : l ≤ 20000 := hl.2.2
  clear hl
  go_enter Try.func31, Try.ntmps31
  go_wp2
  go_ret
  exact ⟨rfl, rfl⟩
theorem Is_no (l : Int) (w : World) (hl : ¬ lit l) : Calls Try.prog 31 #[.int .i64 l] w fun e w' => e = .returned (.bool false) ∧ w = w' := by
  by_cases h0 : l = 0
  · subst h0
    go_enter Try.func31, Try.ntmps31
    go_wp2
    go_ret
    exact ⟨rfl, rfl⟩
  · by_cases h1 : -20000 ≤ l
    · have h2 : ¬ l ≤ 20000 := fun h => hl ⟨h0, h1, h⟩
      clear hl
      go_enter Try.func31, Try.ntmps31
      go_wp2
      go_ret
      exact ⟨rfl, rfl⟩
    · clear hl
      go_enter Try.func31, Try.ntmps31
      go_wp2
      go_ret
      exact ⟨rfl, rfl⟩

/-- a slice of bools -/
def BoolsAt (w : World) (B : Nat) (v : Value) (m : List Bool) : Prop :=
  ∃ ao cap b off, v = .slice ao m.length cap ∧ m.length ≤ maxLen ∧ (m ≠ [] → ao = some ⟨b, off, none⟩ ∧ b < B) ∧ ∀ i, i < m.length → w.cell? ⟨b, off + i, none⟩ = some (.bool (m.getD i false))
theorem BoolsAt.keep {w w' : World} {B : Nat} {v : Value} {l : List Bool} (h : BoolsAt w B v l) (hb : Below B w w') : BoolsAt w' B v l := by
  obtain ⟨ao, cap, b, off, rfl, hm, ha, hc⟩ := h
  refine ⟨ao, cap, b, off, rfl, hm, ha, fun i hi => ?_⟩
  rw [hb.cell (show (⟨b, off + i, none⟩ : Addr).block < B from (ha (by intro h0; rw [h0] at hi; simp at hi)).2)]
  exact hc i hi

/-- is a literal true in a model? -/
def holds (l : Int) (m : List Bool) : Bool := decide (lit l) && (if l < 0 then decide ((m.length : Int) < -l) || !(m.getD (-l - 1).toNat false) else decide (l ≤ (m.length : Int)) && m.getD (l - 1).toNat false)
theorem holds_neg {l : Int} (m : List Bool) (hl : lit l) : (holds (-l) m = true ↔ ¬ holds l m = true) := by
  have hl' := lit_neg hl
  unfold holds
  rw [decide_eq_true hl, decide_eq_true hl', Bool.true_and, Bool.true_and]
  have h0 := hl.1
  by_cases h : l < 0
  · rw [if_pos h, if_neg (by omega)]
    by_cases h1 : (m.length : Int) < -l
    · simp [h1]; intro h2; omega
    · have h2 : -l ≤ (m.length : Int) := by omega
      simp [h1, h2]
  · rw [if_neg h, if_pos (by omega), Int.neg_neg]
    by_cases h1 : (m.length : Int) < l
    · have h2 : ¬ l ≤ (m.length : Int) := by omega
      simp [h1, h2]
    · have h2 : l ≤ (m.length : Int) := by omega
      simp [h1, h2]

set_option maxRecDepth 100000 in
set_option maxHeartbeats 1000000 in
theorem Holds_any (l : Int) (mv : Value) (m : List Bool) (w : World) (B : Nat) (hm : BoolsAt w B mv m) (hl64 : In64 l) :
    Calls Try.prog 21 #[.int .i64 l, mv] w fun e w' => e = .returned (.bool (holds l m)) ∧ w = w' := by
  obtain ⟨ao, cap, b, off, rfl, hml, ha, hc⟩ := hm
  unfold maxLen at hml
  by_cases hl : lit l
  · have b1 : -20000 ≤ l := hl.2.1
    have b2 : l ≤ 20000 := hl.2.2
    have b0 : l ≠ 0 := hl.1
    have HY := Lib.hid hl
    by_cases h : l < 0
    · have HE : Hid (holds l m = (decide ((m.length : Int) < -l) || !(m.getD (-l - 1).toNat false))) := Lib.hid (by unfold holds; rw [decide_eq_true hl, Bool.true_and, if_pos h])
      by_cases h1 : (m.length : Int) < -l
      · have HE2 : Hid (holds l m = true) := Lib.hid (by rw [HE.out]; simp [h1])
        clear hl ha hc HE
        go_enter Try.func21, Try.ntmps21
        go_wp2_with (go_at_call 31; refine (Is_yes _ _ HY.out).mono ?_; rintro e w' ⟨rfl, rfl⟩)
        go_ret
        exact ⟨by rw [HE2.out]; rfl, rfl⟩
      · obtain ⟨k, hk⟩ : ∃ k : Nat, l = -((k : Int) + 1) := ⟨(-l - 1).toNat, by omega⟩
        subst hk
        have hkm : k < m.length := by omega
        have HE2 : Hid (holds (-((k : Int) + 1)) m = !(m.getD k false)) := Lib.hid (by rw [HE.out, decide_eq_false (by omega), Bool.false_or, show (-(-((k : Int) + 1)) - 1).toNat = k from by omega])
        obtain ⟨rfl, hbB⟩ := ha (by intro h0; rw [h0] at hkm; simp at hkm)
        have q := hc k hkm
        have HC := Lib.hid hc
        clear hl ha hc HE
        generalize m.getD k false = r at *
        have h1' : decide ((m.length : Int) < (k : Int) + 1) = false := decide_eq_false (by omega)
        clear h1
        go_enter Try.func21, Try.ntmps21
        go_wp2_with (go_at_call 31; refine (Is_yes _ _ HY.out).mono ?_; rintro e w' ⟨rfl, rfl⟩)
        go_ret
        exact ⟨by rw [HE2.out]; rfl, rfl⟩
    · have HE : Hid (holds l m = (decide (l ≤ (m.length : Int)) && m.getD (l - 1).toNat false)) := Lib.hid (by unfold holds; rw [decide_eq_true hl, Bool.true_and, if_neg h])
      by_cases h1 : l ≤ (m.length : Int)
      · obtain ⟨k, hk⟩ : ∃ k : Nat, l = (k : Int) + 1 := ⟨(l - 1).toNat, by omega⟩
        subst hk
        have hkm : k < m.length := by omega
        have HE2 : Hid (holds ((k : Int) + 1) m = m.getD k false) := Lib.hid (by rw [HE.out, decide_eq_true h1, Bool.true_and, show ((k : Int) + 1 - 1).toNat = k from by omega])
        obtain ⟨rfl, hbB⟩ := ha (by intro h0; rw [h0] at hkm; simp at hkm)
        have q := hc k hkm
        have HC := Lib.hid hc
        clear hl ha hc HE
        generalize m.getD k false = r at *
        have h1' : decide ((k : Int) + 1 ≤ (m.length : Int)) = true := decide_eq_true (by omega)
        clear h1
        go_enter Try.func21, Try.ntmps21
        go_wp2_with (go_at_call 31; refine (Is_yes _ _ HY.out).mono ?_; rintro e w' ⟨rfl, rfl⟩)
        go_ret
        exact ⟨by rw [HE2.out]; rfl, rfl⟩
      · have HE2 : Hid (holds l m = false) := Lib.hid (by rw [HE.out]; simp [h1])
        clear hl ha hc HE
        go_enter Try.func21, Try.ntmps21
        go_wp2_with (go_at_call 31; refine (Is_yes _ _ HY.out).mono ?_; rintro e w' ⟨rfl, rfl⟩)
        go_ret
        exact ⟨by rw [HE2.out]; rfl, rfl⟩
  · have HN := Lib.hid hl
    have HE : Hid (holds l m = false) := Lib.hid (by unfold holds; rw [decide_eq_false hl, Bool.false_and])
    clear hl ha hc
    go_enter Try.func21, Try.ntmps21
    go_wp2_with (go_at_call 31; refine (Is_no _ _ HN.out).mono ?_; rintro e w' ⟨rfl, rfl⟩)
    go_ret
    exact ⟨by rw [HE.out]; rfl, rfl⟩

def trueIn (c : List Int) (m : List Bool) : Bool := c.any fun l => holds l m
def allIn (cl : List (List Int)) (m : List Bool) : Bool := cl.all fun c => trueIn c m
theorem getD_mem {α : Type} {l : List α} {k : Nat} {d : α} (h : k < l.length) : l.getD k d ∈ l := by rw [List.getD_eq_getElem?_getD, List.getElem?_eq_getElem h]; exact List.getElem_mem h

set_option maxHeartbeats 1000000 in
theorem True_any (cv mv : Value) (c : List Int) (m : List Bool) (w : World) (B B' : Nat) (hc : IntsAt w B cv c) (hm : BoolsAt w B' mv m) :
    Calls Try.prog 28 #[cv, mv] w fun e w' => e = .returned (.bool (trueIn c m)) ∧ w = w' := by
  have HM := Lib.hid hm
  obtain ⟨ao, cap, b, off, rfl, hcm, ha, hcell, h64⟩ := hc
  obtain ⟨am, capm, bm, offm, rfl, _, _, _⟩ := hm
  have HA := Lib.hid ha
  have HC := Lib.hid hcell
  have H64 := Lib.hid h64
  unfold maxLen at hcm
  clear ha hcell h64
  go_enter Try.func28, Try.ntmps28
  go_wp2
  go_loop [9] (fun it => ∃ k : Nat, k ≤ c.length ∧ it = .int .i64 k ∧ Hid (∀ j, j < k → holds (c.getD j 0) m = false)) (fun it => c.length - (intOf it).toNat)
  case atStart => exact ⟨0, Nat.zero_le _, rfl, Lib.hid (fun j hj => absurd hj (Nat.not_lt_zero _))⟩
  case round =>
    obtain ⟨k, hk, rfl, hg⟩ := hrel
    by_cases hlt : k < c.length
    · obtain ⟨rfl, hbB⟩ := HA.out (by intro h0; rw [h0] at hlt; simp at hlt)
      have q := HC.out k hlt
      have hin := H64.out _ (getD_mem (d := 0) hlt)
      have HH := Lib.hid (fun w' (h : w = w') => Holds_any (c.getD k 0) _ m w' B' (h ▸ HM.out) hin)
      have HT : Hid (holds (c.getD k 0) m = true → trueIn c m = true) := Lib.hid (fun h => List.any_eq_true.2 ⟨_, getD_mem hlt, h⟩)
      have HF : Hid (holds (c.getD k 0) m = false → ∀ j, j < k + 1 → holds (c.getD j 0) m = false) := Lib.hid (fun h j hj => by
        by_cases e : j = k
        · rw [e]; exact h
        · exact hg.out j (by omega))
      generalize hr : holds (c.getD k 0) m = r at *
      generalize c.getD k 0 = l at *
      clear hg hin hr
      cases r
      · have HF2 := Lib.hid (HF.out rfl)
        clear HF HT
        go_wp2_with (go_at_call 21; refine (HH.out _ rfl).mono ?_; rintro e w' ⟨rfl, rfl⟩)
        go_round
        case rel => exact ⟨k + 1, by omega, by go_num, HF2⟩
        case measure => simp [intOf]; omega
      · have HT2 := Lib.hid (HT.out rfl)
        clear HF HT
        go_wp2_with (go_at_call 21; refine (HH.out _ rfl).mono ?_; rintro e w' ⟨rfl, rfl⟩)
        go_ret
        exact ⟨by rw [HT2.out]; rfl, rfl⟩
    · obtain rfl : k = c.length := by omega
      have HE : Hid (trueIn c m = false) := Lib.hid (by
        unfold trueIn
        rw [List.any_eq_false]
        intro l hl
        obtain ⟨j, hj, rfl⟩ := List.mem_iff_getElem.1 hl
        have := hg.out j hj
        rw [List.getD_eq_getElem?_getD, List.getElem?_eq_getElem hj] at this
        simpa using this)
      clear hg
      go_wp2
      go_ret
      exact ⟨by rw [HE.out]; rfl, rfl⟩

set_option maxHeartbeats 1000000 in
theorem All_any (cv mv : Value) (cl : List (List Int)) (m : List Bool) (w : World) (B B' : Nat) (hc : ClsAt w B cv cl) (hm : BoolsAt w B' mv m) :
    Calls Try.prog 12 #[cv, mv] w fun e w' => e = .returned (.bool (allIn cl m)) ∧ w = w' := by
  have HM := Lib.hid hm
  obtain ⟨ao, cap, b, off, vs, rfl, hcm, ha, hcell, hn⟩ := hc
  obtain ⟨am, capm, bm, offm, rfl, _, _, _⟩ := hm
  have HA := Lib.hid ha
  have HC := Lib.hid hcell
  have HN := Lib.hid hn
  unfold maxLen at hcm
  clear ha hcell hn
  go_enter Try.func12, Try.ntmps12
  go_wp2
  go_loop [9] (fun it => ∃ k : Nat, k ≤ cl.length ∧ it = .int .i64 k ∧ Hid (∀ j, j < k → trueIn (cl.getD j []) m = true)) (fun it => cl.length - (intOf it).toNat)
  case atStart => exact ⟨0, Nat.zero_le _, rfl, Lib.hid (fun j hj => absurd hj (Nat.not_lt_zero _))⟩
  case round =>
    obtain ⟨k, hk, rfl, hg⟩ := hrel
    by_cases hlt : k < cl.length
    · obtain ⟨rfl, hbB⟩ := HA.out (by intro h0; rw [h0] at hlt; simp at hlt)
      have q := HC.out k hlt
      have HH := Lib.hid (fun w' (h : w = w') => True_any (vs k) _ (cl.getD k []) m w' B B' (h ▸ HN.out k hlt) (h ▸ HM.out))
      have HT : Hid (trueIn (cl.getD k []) m = false → allIn cl m = false) := Lib.hid (fun h => by
        rw [Bool.eq_false_iff]; intro h'
        have := List.all_eq_true.1 h' _ (getD_mem (d := []) hlt)
        rw [h] at this; cases this)
      have HF : Hid (trueIn (cl.getD k []) m = true → ∀ j, j < k + 1 → trueIn (cl.getD j []) m = true) := Lib.hid (fun h j hj => by
        by_cases e : j = k
        · rw [e]; exact h
        · exact hg.out j (by omega))
      generalize hr : trueIn (cl.getD k []) m = r at *
      clear hg hr
      cases r
      · have HT2 := Lib.hid (HT.out rfl)
        clear HF HT
        go_wp2_with (go_at_call 28; refine (HH.out _ rfl).mono ?_; rintro e w' ⟨rfl, rfl⟩)
        go_ret
        exact ⟨by rw [HT2.out]; rfl, rfl⟩
      · have HF2 := Lib.hid (HF.out rfl)
        clear HF HT
        go_wp2_with (go_at_call 28; refine (HH.out _ rfl).mono ?_; rintro e w' ⟨rfl, rfl⟩)
        go_round
        case rel => exact ⟨k + 1, by omega, by go_num, HF2⟩
        case measure => simp [intOf]; omega
    · obtain rfl : k = cl.length := by omega
      have HE : Hid (allIn cl m = true) := Lib.hid (by
        unfold allIn
        rw [List.all_eq_true]
        intro c hl
        obtain ⟨j, hj, rfl⟩ := List.mem_iff_getElem.1 hl
        have := hg.out j hj
        rw [List.getD_eq_getElem?_getD, List.getElem?_eq_getElem hj] at this
        simpa using this)
      clear hg
      go_wp2
      go_ret
      exact ⟨by rw [HE.out]; rfl, rfl⟩

def SmallP (cl : List (List Int)) (many long : Nat) (w : World) (e : Ending) (w' : World) : Prop := ∃ b : Bool, e = .returned (.bool b) ∧ w = w' ∧ (b = false → cl.length ≤ many ∧ ∀ c ∈ cl, c.length ≤ long)
set_option maxHeartbeats 1000000 in
theorem Big_any (cv : Value) (cl : List (List Int)) (many long : Nat) (w : World) (B : Nat) (hc : ClsAt w B cv cl) (h1 : many ≤ 1000) (h2 : long ≤ 1000) :
    Calls Try.prog 25 #[cv, .int .i64 many, .int .i64 long] w (SmallP cl many long w) := by
  obtain ⟨ao, cap, b, off, vs, rfl, hcm, ha, hcell, hn⟩ := hc
  have HA := Lib.hid ha
  have HC := Lib.hid hcell
  have HN := Lib.hid hn
  unfold maxLen at hcm
  clear ha hcell hn
  by_cases hb : many < cl.length
  · have hbI : (many : Int) < (cl.length : Int) := by omega
    go_enter Try.func25, Try.ntmps25
    go_wp2
    go_ret
    exact ⟨true, rfl, rfl, fun h => by cases h⟩
  · have hbI : ¬ (many : Int) < (cl.length : Int) := by omega
    go_enter Try.func25, Try.ntmps25
    go_wp2
    go_loop [15] (fun it => ∃ k : Nat, k ≤ cl.length ∧ it = .int .i64 k ∧ Hid (∀ j, j < k → (cl.getD j []).length ≤ long)) (fun it => cl.length - (intOf it).toNat)
    case atStart => exact ⟨0, Nat.zero_le _, rfl, Lib.hid (fun j hj => absurd hj (Nat.not_lt_zero _))⟩
    case round =>
      obtain ⟨k, hk, rfl, hg⟩ := hrel
      by_cases hlt : k < cl.length
      · obtain ⟨rfl, hbB⟩ := HA.out (by intro h0; rw [h0] at hlt; simp at hlt)
        have q := HC.out k hlt
        obtain ⟨ai, capi, bi, offi, hvi, hmi, _, _, _⟩ := HN.out k hlt
        unfold maxLen at hmi
        rw [hvi] at q
        clear hvi
        by_cases hl : long < (cl.getD k []).length
        · generalize (cl.getD k []).length = L at *
          have hlI : (long : Int) < (L : Int) := by omega
          go_wp2
          go_ret
          exact ⟨true, rfl, rfl, fun h => by cases h⟩
        · have HF : Hid (∀ j, j < k + 1 → (cl.getD j []).length ≤ long) := Lib.hid (fun j hj => by
            by_cases e : j = k
            · rw [e]; omega
            · exact hg.out j (by omega))
          generalize (cl.getD k []).length = L at *
          have hlI : ¬ (long : Int) < (L : Int) := by omega
          go_wp2
          go_round
          case rel => exact ⟨k + 1, by omega, by go_num, HF⟩
          case measure => simp [intOf]; omega
      · obtain rfl : k = cl.length := by omega
        have HE : Hid (∀ c ∈ cl, c.length ≤ long) := Lib.hid (fun c hl => by
          obtain ⟨j, hj, rfl⟩ := List.mem_iff_getElem.1 hl
          have := hg.out j hj
          rw [List.getD_eq_getElem?_getD, List.getElem?_eq_getElem hj] at this
          simpa using this)
        clear hg
        go_wp2
        go_ret
        exact ⟨false, rfl, rfl, fun _ => ⟨by omega, HE.out⟩⟩

/-- what is small -/
def Few (cl log : List (List Int)) : Prop := cl.length ≤ 30 ∧ (∀ c ∈ cl, c.length ≤ 10) ∧ log.length ≤ 12 ∧ ∀ c ∈ log, c.length ≤ 10
def FewP (cl log : List (List Int)) (w : World) (e : Ending) (w' : World) : Prop := ∃ b : Bool, e = .returned (.bool b) ∧ w = w' ∧ (b = false → Few cl log)
theorem big_any (cv lv : Value) (cl log : List (List Int)) (w : World) (B : Nat) (hc : ClsAt w B cv cl) (hl : ClsAt w B lv log) :
    Calls Try.prog 9 #[cv, lv] w (FewP cl log w) := by
  have H1 := Lib.hid (Big_any cv cl 30 10 w B hc (by omega) (by omega))
  have H2 := Lib.hid (Big_any lv log 12 10 w B hl (by omega) (by omega))
  obtain ⟨ac, capc, bc, offc, vsc, rfl, _, _, _, _⟩ := hc
  obtain ⟨al, capl, bl, offl, vsl, rfl, _, _, _, _⟩ := hl
  go_enter Try.func9, Try.ntmps9
  go_wp2_with fail
  refine H1.out.mono ?_
  rintro e w1 ⟨b1, rfl, rfl, hs1⟩
  clear H1
  cases b1
  · have HS1 := Lib.hid (hs1 rfl)
    clear hs1
    go_wp2_with fail
    refine H2.out.mono ?_
    rintro e w1 ⟨b2, rfl, rfl, hs2⟩
    have HF : Hid (b2 = false → Few cl log) := Lib.hid (fun h => ⟨HS1.out.1, HS1.out.2, (hs2 h).1, (hs2 h).2⟩)
    clear hs2 H2 HS1
    go_wp2
    go_ret
    exact ⟨b2, rfl, rfl, HF.out⟩
  · clear hs1
    go_wp2
    go_ret
    exact ⟨true, rfl, rfl, fun h => by cases h⟩
end Go.Proofs.Ytojjjndhabjhdaa.proofN
