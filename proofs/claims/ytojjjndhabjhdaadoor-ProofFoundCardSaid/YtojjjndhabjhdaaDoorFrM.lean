/-
  Plain law of shortening a log.
  Contract of (*prover).checkBehind.
-/
import Derived.Test.YtojjjndhabjhdaaDoorFoM
import Derived.Test.YtojjjndhabjhdaaDoorFqM
import Derived.StillTailTactics
namespace Go.Proofs.YtojjjndhabjhdaaDoor.shortP
open Go.Proofs.YtojjjndhabjhdaaDoor.proofP Go.Proofs.YtojjjndhabjhdaaDoor.proofQ Go.Proofs.YtojjjndhabjhdaaDoor.proofM
set_option linter.unusedSimpArgs false
set_option linter.unusedVariables false

def chosen (log : List (List Int)) (m : Nat → Bool) (k : Nat) : List (List Int) := (List.range k).filterMap fun i => if m i = true then some (log.getD i []) else none
theorem chosen_yes {log : List (List Int)} {m : Nat → Bool} {k : Nat} (h : m k = true) : chosen log m (k + 1) = chosen log m k ++ [log.getD k []] := by
  unfold chosen; rw [List.range_succ, List.filterMap_append]; simp [h]
theorem chosen_no {log : List (List Int)} {m : Nat → Bool} {k : Nat} (h : m k = false) : chosen log m (k + 1) = chosen log m k := by
  unfold chosen; rw [List.range_succ, List.filterMap_append]; simp [h]
theorem chosen_congr {log : List (List Int)} {m m' : Nat → Bool} : ∀ {k : Nat}, (∀ i, i < k → m i = m' i) → chosen log m k = chosen log m' k := by
  intro k
  induction k with
  | zero => intro _; rfl
  | succ k ih =>
    intro h
    have e := ih (fun i hi => h i (by omega))
    have hk := h k (by omega)
    cases hm : m k
    · rw [chosen_no hm, chosen_no (hk ▸ hm), e]
    · rw [chosen_yes hm, chosen_yes (hk ▸ hm), e]
theorem chosen_len {log : List (List Int)} {m : Nat → Bool} (k : Nat) : (chosen log m k).length ≤ k := by
  induction k with
  | zero => simp [chosen]
  | succ k ih =>
    cases hm : m k
    · rw [chosen_no hm]; omega
    · rw [chosen_yes hm]; simp; omega
theorem mem_chosen {log : List (List Int)} {m : Nat → Bool} {k : Nat} {c : List Int} : c ∈ chosen log m k ↔ ∃ i, i < k ∧ m i = true ∧ log.getD i [] = c := by
  unfold chosen
  rw [List.mem_filterMap]
  constructor
  · rintro ⟨i, hi, h⟩
    rw [List.mem_range] at hi
    by_cases hf : m i = true
    · rw [if_pos hf] at h; exact ⟨i, hi, hf, by simpa using h⟩
    · rw [if_neg hf] at h; cases h
  · rintro ⟨i, hi, hf, h⟩
    exact ⟨i, List.mem_range.2 hi, by rw [if_pos hf, h]⟩
theorem chosen_take {log : List (List Int)} {m : Nat → Bool} : ∀ {k : Nat}, k ≤ log.length → (∀ i, i < k → m i = true) → chosen log m k = log.take k := by
  intro k
  induction k with
  | zero => intro _ _; simp [chosen]
  | succ k ih =>
    intro hk h
    rw [chosen_yes (h k (by omega)), ih (by omega) (fun i hi => h i (by omega)), List.take_succ_eq_append_getElem (by omega), List.getD_eq_getElem?_getD, List.getElem?_eq_getElem (by omega)]; rfl

theorem bad_iff {cl log : List (List Int)} : bad cl log = -1 ↔ ∀ j, j < log.length → pl (cl ++ log.take j) (log.getD j []) = true := by
  constructor
  · intro h
    rcases bad_cases cl log with ⟨_, h1⟩ | ⟨i, hi, h1, _⟩
    · exact h1
    · rw [h] at h1; omega
  · exact bad_none
theorem bad_neg {cl log : List (List Int)} : bad cl log < 0 ↔ bad cl log = -1 := by
  rcases bad_cases cl log with ⟨h, _⟩ | ⟨i, hi, h1, _⟩ <;> omega
theorem bad_snoc {cl l : List (List Int)} {x : List Int} : bad cl (l ++ [x]) = -1 ↔ bad cl l = -1 ∧ pl (cl ++ l) x = true := by
  rw [bad_iff, bad_iff]
  constructor
  · intro h
    refine ⟨fun j hj => ?_, ?_⟩
    · have := h j (by simp; omega)
      rw [List.take_append_of_le_length (by omega), List.getD_eq_getElem?_getD, List.getElem?_append_left hj, ← List.getD_eq_getElem?_getD] at this
      exact this
    · have := h l.length (by simp)
      rw [List.take_append_of_le_length (by omega), List.take_length, List.getD_eq_getElem?_getD, List.getElem?_append_right (by omega)] at this
      simpa using this
  · rintro ⟨h1, h2⟩ j hj
    simp at hj
    by_cases e : j < l.length
    · rw [List.take_append_of_le_length (by omega), List.getD_eq_getElem?_getD, List.getElem?_append_left e, ← List.getD_eq_getElem?_getD]
      exact h1 j e
    · obtain rfl : j = l.length := by omega
      rw [List.take_append_of_le_length (by omega), List.take_length, List.getD_eq_getElem?_getD, List.getElem?_append_right (by omega)]
      simpa using h2
theorem bad_chosen {cl log : List (List Int)} {m : Nat → Bool} (k : Nat) : bad cl (chosen log m k) = -1 ↔ ∀ i, i < k → m i = true → pl (cl ++ chosen log m i) (log.getD i []) = true := by
  induction k with
  | zero => exact ⟨fun _ i hi => absurd hi (Nat.not_lt_zero _), fun _ => bad_none fun j hj => by simp [chosen] at hj⟩
  | succ k ih =>
    cases hm : m k
    · rw [chosen_no hm, ih]
      exact ⟨fun h i hi hmi => by
        by_cases e : i = k
        · rw [e, hm] at hmi; cases hmi
        · exact h i (by omega) hmi, fun h i hi => h i (by omega)⟩
    · rw [chosen_yes hm, bad_snoc, ih]
      exact ⟨fun h i hi hmi => by
        by_cases e : i = k
        · rw [e]; exact h.2
        · exact h.1 i (by omega) hmi, fun h => ⟨fun i hi => h i (by omega), h k (by omega) hm⟩⟩

/-- the clauses behind a place stay plain without those that are out -/
theorem behind_iff {cl log : List (List Int)} (hb : bad cl log = -1) {m : Nat → Bool} {p : Nat} (hp : p < log.length) (hm : ∀ j, j < p → m j = true) (hmp : m p = false) :
    bad cl (chosen log m log.length) = -1 ↔ ∀ i, p < i → i < log.length → m i = true → pl (cl ++ chosen log m i) (log.getD i []) = true := by
  rw [bad_chosen]
  constructor
  · exact fun h i _ hi hmi => h i hi hmi
  · intro h i hi hmi
    by_cases e : p < i
    · exact h i e hi hmi
    · by_cases e2 : i = p
      · rw [e2, hmp] at hmi; cases hmi
      · rw [chosen_take (by omega) (fun j hj => hm j (by omega))]
        exact bad_iff.1 hb i hi

noncomputable def stepM (cl log : List (List Int)) (m : Nat → Bool) (i : Nat) : Nat → Bool := updN m i (decide (0 ≤ bad cl (chosen log (updN m i false) log.length)))
noncomputable def maskM (cl log : List (List Int)) : Nat → Nat → Bool
  | 0 => fun _ => true
  | t + 1 => stepM cl log (maskM cl log t) (log.length - 2 - t)
theorem mask_left {cl log : List (List Int)} : ∀ (t j : Nat), j + t + 1 < log.length → maskM cl log t j = true := by
  intro t
  induction t with
  | zero => intro j _; rfl
  | succ t ih =>
    intro j hj
    show stepM cl log (maskM cl log t) (log.length - 2 - t) j = true
    unfold stepM
    rw [updN_other _ _ (by omega)]
    exact ih j (by omega)
noncomputable def shortened (cl log : List (List Int)) : List (List Int) := if bad cl log = -1 then chosen log (maskM cl log (log.length - 1)) log.length else []

/-- one step of shortening, as the program takes it -/
theorem mask_step {cl log : List (List Int)} (hb : bad cl log = -1) {t place : Nat} (ht : t + 2 ≤ log.length) (hp : place = log.length - 2 - t) {b : Bool}
    (hbi : b = true ↔ ∀ i, place < i → i < log.length → updN (fun j => !maskM cl log t j) place true i = false → pl (cl ++ chosen log (fun j => !updN (fun j => !maskM cl log t j) place true j) i) (log.getD i []) = true) :
    updN (updN (fun j => !maskM cl log t j) place true) place b = fun j => !maskM cl log (t + 1) j := by
  have hm : ∀ j, (!updN (fun j => !maskM cl log t j) place true j) = updN (maskM cl log t) place false j := fun j => by
    by_cases e : j = place
    · subst e; rw [updN_same, updN_same]; rfl
    · rw [updN_other _ _ e, updN_other _ _ e]; simp
  have hfun : (fun j => !updN (fun j => !maskM cl log t j) place true j) = updN (maskM cl log t) place false := funext hm
  rw [hfun] at hbi
  have hbi2 : b = true ↔ bad cl (chosen log (updN (maskM cl log t) place false) log.length) = -1 := by
    rw [hbi, behind_iff hb (p := place) (by omega) (fun j hj => by rw [updN_other _ _ (by omega)]; exact mask_left t j (by omega)) (updN_same _ _ _)]
    constructor
    · intro h i h1 h2 h3
      exact h i h1 h2 (by have := hm i; rw [h3] at this; simpa using this)
    · intro h i h1 h2 h3
      exact h i h1 h2 (by have := hm i; rw [h3] at this; exact this.symm)
  funext j
  show _ = !stepM cl log (maskM cl log t) (log.length - 2 - t) j
  unfold stepM
  rw [← hp]
  by_cases e : j = place
  · subst e
    rw [updN_same, updN_same]
    rcases bad_cases cl (chosen log (updN (maskM cl log t) j false) log.length) with ⟨h, _⟩ | ⟨i, _, h, _⟩
    · rw [hbi2.2 h, h]; rfl
    · have : b = false := by
        cases b
        · rfl
        · have := hbi2.1 rfl; rw [h] at this; omega
      rw [this, h]; simp
  · rw [updN_other _ _ e, updN_other _ _ e, updN_other _ _ e]

/-- what checkBehind has on while it looks at a place -/
def onF (n : Nat) (o : Nat → Bool) (k j : Nat) : Bool := decide (j < n) || (decide (j - n < k) && !o (j - n))
theorem sel_onF {cl log : List (List Int)} {o : Nat → Bool} {k : Nat} (hk : k ≤ log.length) (c : List Int) : pl (sel (cl ++ log) (onF cl.length o k)) c = pl (cl ++ chosen log (fun j => !o j) k) c := pl_same _ fun x => by
  rw [mem_sel, List.mem_append, mem_chosen]
  constructor
  · rintro ⟨i, hi, hf, h⟩
    by_cases e : i < cl.length
    · left
      rw [List.getD_eq_getElem?_getD, List.getElem?_append_left e, List.getElem?_eq_getElem e] at h
      exact h ▸ List.getElem_mem e
    · right
      simp only [onF, e, decide_false, Bool.false_or, Bool.and_eq_true, decide_eq_true_eq] at hf
      refine ⟨i - cl.length, hf.1, hf.2, ?_⟩
      rw [List.getD_eq_getElem?_getD, List.getElem?_append_right (by omega), ← List.getD_eq_getElem?_getD] at h
      exact h
  · rintro (h | ⟨i, hi, hf, h⟩)
    · obtain ⟨i, hi, h⟩ := List.mem_iff_getElem.1 h
      refine ⟨i, by rw [List.length_append]; omega, by simp [onF, hi], ?_⟩
      rw [List.getD_eq_getElem?_getD, List.getElem?_append_left hi, List.getElem?_eq_getElem hi]; exact h
    · refine ⟨cl.length + i, by rw [List.length_append]; omega, by simp [onF, hi]; right; simpa using hf, ?_⟩
      rw [List.getD_eq_getElem?_getD, List.getElem?_append_right (by omega), ← List.getD_eq_getElem?_getD, Nat.add_sub_cancel_left]; exact h
end Go.Proofs.YtojjjndhabjhdaaDoor.shortP
namespace Go.Proofs.YtojjjndhabjhdaaDoor.shortA
open Go.ChangeShapes Go.WideShapes Go.ChangeAt Go.RowKit proofP proofQ proofR owns proofA proofC proofG proofI proofJ proofK proofM proofN proofO proofS proofT proofU proofV proofW proofX shortP cls
set_option linter.unusedSimpArgs false
set_option linter.unusedVariables false

def obs (n : Nat) (o : Nat → Bool) : List Value := (List.range n).map fun j => .bool (o j)
theorem obs_len (n : Nat) (o : Nat → Bool) : (obs n o).length = n := by simp [obs]
theorem obs_at {n : Nat} {o : Nat → Bool} {j : Nat} (h : j < n) : (obs n o)[j]? = some (.bool (o j)) := by simp [obs, h]
theorem obs_set {n : Nat} {o : Nat → Bool} {k : Nat} (hk : k < n) (b : Bool) : (obs n o).set k (.bool b) = obs n (updN o k b) := map_set_upd hk _ _

/-- while the log's clauses ahead of a place are put on -/
def F1 (n : Nat) (o f : Nat → Bool) (place k j : Nat) : Bool := if j < n + k then onF n o place j else f j

set_option maxHeartbeats 4000000 in
set_option maxRecDepth 100000 in
theorem behind_any (w : World) (W0 bp : Nat) (lv : Value) (cl log : List (List Int)) (f o : Nat → Bool) (place g cap : Nat) (h : PVx ⟨4, .slice (some ⟨g, 0, none⟩) log.length cap, obs log.length o⟩ w W0 bp lv cl log f) (hf : ∀ j, j < cl.length → f j = true) (hl : ClsAt w W0 lv log) (hp : place < log.length) (ho : o place = true)
    (h1 : cl.length ≤ 40000) (h2 : log.length ≤ 40000) (hs : ∀ c ∈ log, c.length ≤ 100000) :
    Calls Tryd.prog 22 #[.pointer (some ⟨bp, 0, none⟩), .int .i64 place, .slice (some ⟨g, 0, none⟩) log.length cap] w fun e w' => ∃ b f', e = .returned (.bool b) ∧ (b = true ↔ ∀ i, place < i → i < log.length → o i = false → pl (cl ++ chosen log (fun j => !o j) i) (log.getD i []) = true) ∧
      PVx ⟨4, .slice (some ⟨g, 0, none⟩) log.length cap, obs log.length o⟩ w' W0 bp lv cl log f' ∧ (∀ j, j < cl.length → f' j = true) ∧ Below W0 w w' := by
  have HS := Lib.hid hs
  have HO := Lib.hid ho
  have HF0 := Lib.hid hf
  have f0 := pv_log h
  have HP0 : Hid (PVx ⟨4, .slice (some ⟨g, 0, none⟩) log.length cap, obs log.length o⟩ w W0 bp lv cl log (F1 cl.length o f place 0)) := Lib.hid (pv_alike h fun j hj => by
    unfold F1 onF
    by_cases e : j < cl.length
    · rw [if_pos (by omega), hf j e]; simp [e]
    · rw [if_neg (by omega)])
  obtain ⟨al, capl, bl, offl, vsl, rfl, hml, hal, hcl, hnl⟩ := hl
  obtain ⟨rfl, hbB⟩ := hal (by intro h0; rw [h0] at hp; simp at hp)
  have HCL := Lib.hid hcl
  have HNL := Lib.hid hnl
  clear h hs hal hcl hnl hml hf ho
  go_enter Tryd.func22, Tryd.ntmps22
  go_wp2
  go_loopw [14] (fun it wr => ∃ k : Nat, k ≤ log.length ∧ it = .int .i64 k ∧ PVx ⟨4, .slice (some ⟨g, 0, none⟩) log.length cap, obs log.length o⟩ wr W0 bp (.slice (some ⟨bl, offl, none⟩) log.length capl) cl log (F1 cl.length o f place k) ∧ Below W0 w wr) (fun it _ => log.length - (intOf it).toNat)
  case atStart => exact ⟨0, Nat.zero_le _, rfl, HP0.out, Below.refl _ _⟩
  case round =>
    clear HP0 f0
    obtain ⟨k, hk, rfl, hpv, hb⟩ := hrel
    have HB := Lib.hid hb
    by_cases hlt : k < log.length
    · obtain ⟨p0, p1, hbp, g3, cap3, p3, hgB, hcells, hset⟩ := pv_on hpv (by omega)
      obtain ⟨c1, z1⟩ := hcells (cl.length + k) (by omega)
      obtain ⟨x1, x2, x3, x4, x5⟩ := pv_extra hpv rfl
      have xk := x4 k (by rw [obs_len]; exact hlt)
      rw [obs_at hlt] at xk
      have hstep : ∀ j, updN (F1 cl.length o f place k) (cl.length + k) (decide (k < place) && !o k) j = F1 cl.length o f place (k + 1) j := fun j => by
        unfold F1
        by_cases e : j = cl.length + k
        · subst e; rw [updN_same, if_pos (by omega)]; unfold onF; rw [decide_eq_false (show ¬ (cl.length + k < cl.length) by omega), Nat.add_sub_cancel_left]; simp
        · rw [updN_other _ _ e]
          by_cases e2 : j < cl.length + k
          · rw [if_pos e2, if_pos (by omega)]
          · rw [if_neg e2, if_neg (by omega)]
      have HNX : Hid (∀ b, (decide (k < place) && !o k) = b → PVx ⟨4, .slice (some ⟨g, 0, none⟩) log.length cap, obs log.length o⟩ (wr.setCell ⟨g3, cl.length + k, none⟩ (.bool b)).drew W0 bp (.slice (some ⟨bl, offl, none⟩) log.length capl) cl log (F1 cl.length o f place (k + 1))) := Lib.hid (fun b hb => pv_below (pv_alike (hset (cl.length + k) b (by omega)) (fun j _ => by rw [← hb]; exact hstep j)) (Below.refl _ _).drew)
      have HBS := Lib.hid (fun b => (HB.out.setCell (p := ⟨g3, cl.length + k, none⟩) hgB (.bool b)).drew)
      have hw1 : IntKind.i64.wrap ((cl.length : Int) + (k : Int)) = (cl.length : Int) + (k : Int) := IntWalk.i64_in _ (by omega)
      have hw2 : (0 : Int) ≤ (cl.length : Int) + (k : Int) := by omega
      have hw3 : ((cl.length : Int) + (k : Int)).toNat = cl.length + k := by omega
      have hw4 : cl.length + k < cl.length + log.length := by omega
      clear hpv hb hcells hset hstep x4 x5 x3
      generalize F1 cl.length o f place k (cl.length + k) = ob at *
      by_cases hkp : k < place
      · have hki : (k : Int) < (place : Int) := by omega
        cases hok : o k
        · rw [hok] at xk
          have HN1 := Lib.hid (HNX.out true (by rw [hok]; simp [hkp]))
          have HB1 := Lib.hid (HBS.out true)
          clear HNX HBS hok
          go_wp2
          go_still_tail 21, (by kernel_rfl)
          change wpList _ _ _ _ _ wr.drew
          go_wp2
          go_roundw
          case rel => exact ⟨k + 1, by omega, by go_num, HN1.out, HB1.out⟩
          case measure => simp [intOf]; omega
        · rw [hok] at xk
          have HN1 := Lib.hid (HNX.out false (by rw [hok]; simp))
          have HB1 := Lib.hid (HBS.out false)
          clear HNX HBS hok
          go_wp2
          go_still_tail 21, (by kernel_rfl)
          change wpList _ _ _ _ _ wr.drew
          go_wp2
          go_roundw
          case rel => exact ⟨k + 1, by omega, by go_num, HN1.out, HB1.out⟩
          case measure => simp [intOf]; omega
      · have hki : ¬ ((k : Int) < (place : Int)) := by omega
        have HN1 := Lib.hid (HNX.out false (by simp [hkp]))
        have HB1 := Lib.hid (HBS.out false)
        clear HNX HBS xk
        go_wp2
        go_region
        all_goals
          go_wp2
          go_roundw
          case rel => exact ⟨k + 1, by omega, by go_num, HN1.out, HB1.out⟩
          case measure => simp [intOf]; omega
    · obtain rfl : k = log.length := by omega
      have HP1 : Hid (PVx ⟨4, .slice (some ⟨g, 0, none⟩) log.length cap, obs log.length o⟩ wr W0 bp (.slice (some ⟨bl, offl, none⟩) log.length capl) cl log (onF cl.length o (place + 1))) := Lib.hid (pv_alike hpv fun j hj => by
        unfold F1
        rw [if_pos hj]
        unfold onF
        by_cases e : j < cl.length
        · simp [e]
        · by_cases e2 : j - cl.length = place
          · rw [e2, HO.out]; simp
          · have : (j - cl.length < place) ↔ (j - cl.length < place + 1) := by omega
            simp only [this])
      clear hpv hb
      go_wp2
      go_loopw [8] (fun it wr => ∃ k : Nat, place < k ∧ k ≤ log.length ∧ it = .int .i64 k ∧ PVx ⟨4, .slice (some ⟨g, 0, none⟩) log.length cap, obs log.length o⟩ wr W0 bp (.slice (some ⟨bl, offl, none⟩) log.length capl) cl log (onF cl.length o k) ∧ Below W0 w wr ∧ Hid (∀ i, place < i → i < k → o i = false → pl (cl ++ chosen log (fun j => !o j) i) (log.getD i []) = true)) (fun it _ => log.length - (intOf it).toNat)
      case atStart => exact ⟨place + 1, by omega, by omega, by go_num, HP1.out, HB.out, Lib.hid (fun i hi1 hi2 => by omega)⟩
      case round =>
        clear HP1 HB hlt hk
        obtain ⟨k, hpk, hk, rfl, hpv, hb, hgd⟩ := hrel
        have HB := Lib.hid hb
        have p0 := pv_log hpv
        by_cases hlt : k < log.length
        · obtain ⟨x1, x2, x3, x4, x5⟩ := pv_extra hpv rfl
          have xk := x4 k (by rw [obs_len]; exact hlt)
          rw [obs_at hlt] at xk
          have q : wr.cell? ⟨bl, offl + k, none⟩ = some (vsl k) := by rw [hb.cell (show (⟨bl, offl + k, none⟩ : Addr).block < W0 from hbB)]; exact HCL.out k hlt
          cases hok : o k
          · rw [hok] at xk
            have HPL := Lib.hid (plain_pv _ wr W0 bp _ (vsl k) cl log _ (log.getD k []) hpv (((HNL.out k hlt).keep hb).ex _) (HS.out _ (getD_mem (d := []) hlt)))
            rw [sel_onF hk] at HPL
            have HGF : Hid (pl (cl ++ chosen log (fun j => !o j) k) (log.getD k []) = false → (∀ i, place < i → i < log.length → o i = false → pl (cl ++ chosen log (fun j => !o j) i) (log.getD i []) = true) → False) := Lib.hid (fun hr hall => by
              have := hall k hpk hlt hok; rw [hr] at this; cases this)
            have HGT : Hid (pl (cl ++ chosen log (fun j => !o j) k) (log.getD k []) = true → ∀ i, place < i → i < k + 1 → o i = false → pl (cl ++ chosen log (fun j => !o j) i) (log.getD i []) = true) := Lib.hid (fun hr i hi1 hi2 hoi => by
              by_cases e : i = k
              · rw [e]; exact hr
              · exact hgd.out i hi1 (by omega) hoi)
            have HOK := Lib.hid hok
            generalize pl (cl ++ chosen log (fun j => !o j) k) (log.getD k []) = r at *
            clear hpv hb x3 x4 x5 hok hgd
            go_wp2_with fail
            refine HPL.out.mono ?_
            rintro e w1 ⟨rfl, hp1, hb1⟩
            have HB1 := Lib.hid (HB.out.trans hb1)
            cases r
            · have HFA := Lib.hid (HGF.out rfl)
              have HP1 := Lib.hid hp1
              clear hp1 hb1 HGT HGF HPL
              go_wp2
              go_ret
              exact ⟨false, _, rfl, ⟨fun h => (by cases h), fun h => (HFA.out h).elim⟩, HP1.out, fun j hj => by simp [onF, hj], HB1.out⟩
            · obtain ⟨p0', p1, hbp, g3, cap3, p3, hgB, hcells, hset⟩ := pv_on hp1 (by omega)
              obtain ⟨c1, z1⟩ := hcells (cl.length + k) (by omega)
              have HNX : Hid (PVx ⟨4, .slice (some ⟨g, 0, none⟩) log.length cap, obs log.length o⟩ (w1.setCell ⟨g3, cl.length + k, none⟩ (.bool true)).drew W0 bp (.slice (some ⟨bl, offl, none⟩) log.length capl) cl log (onF cl.length o (k + 1))) := Lib.hid (pv_below (pv_alike (hset (cl.length + k) true (by omega)) (fun j hj => by
                by_cases e : j = cl.length + k
                · subst e; rw [updN_same]; unfold onF; rw [Nat.add_sub_cancel_left]; simp [HOK.out]
                · rw [updN_other _ _ e]
                  unfold onF
                  by_cases e2 : j < cl.length
                  · simp [e2]
                  · have : (j - cl.length < k) ↔ (j - cl.length < k + 1) := by omega
                    simp only [this])) (Below.refl _ _).drew)
              have hw1 : IntKind.i64.wrap ((cl.length : Int) + (k : Int)) = (cl.length : Int) + (k : Int) := IntWalk.i64_in _ (by omega)
              have hw2 : (0 : Int) ≤ (cl.length : Int) + (k : Int) := by omega
              have hw3 : ((cl.length : Int) + (k : Int)).toNat = cl.length + k := by omega
              have hw4 : cl.length + k < cl.length + log.length := by omega
              have HBS := Lib.hid ((HB1.out.setCell (p := ⟨g3, cl.length + k, none⟩) hgB (.bool true)).drew)
              have HGD := Lib.hid (HGT.out rfl)
              generalize onF cl.length o k (cl.length + k) = ob at *
              clear hp1 hb1 hcells hset HGT HGF HPL p0' xk q
              go_wp2
              go_region
              all_goals
                go_wp2
                go_roundw
                case rel => exact ⟨k + 1, by omega, by omega, by go_num, HNX.out, HBS.out, HGD⟩
                case measure => simp [intOf]; omega
          · rw [hok] at xk
            have HP1 : Hid (PVx ⟨4, .slice (some ⟨g, 0, none⟩) log.length cap, obs log.length o⟩ wr W0 bp (.slice (some ⟨bl, offl, none⟩) log.length capl) cl log (onF cl.length o (k + 1))) := Lib.hid (pv_alike hpv fun j hj => by
              unfold onF
              by_cases e : j < cl.length
              · simp [e]
              · by_cases e2 : j - cl.length = k
                · rw [e2, hok]; simp
                · have : (j - cl.length < k) ↔ (j - cl.length < k + 1) := by omega
                  simp only [this])
            have HGD : Hid (∀ i, place < i → i < k + 1 → o i = false → pl (cl ++ chosen log (fun j => !o j) i) (log.getD i []) = true) := Lib.hid (fun i hi1 hi2 hoi => by
              by_cases e : i = k
              · rw [e, hok] at hoi; cases hoi
              · exact hgd.out i hi1 (by omega) hoi)
            clear hpv hb x3 x4 x5 hok hgd q
            go_wp2
            go_roundw
            case rel => exact ⟨k + 1, by omega, by omega, by go_num, HP1.out, HB.out, HGD⟩
            case measure => simp [intOf]; omega
        · obtain rfl : k = log.length := by omega
          have HP1 := Lib.hid hpv
          clear hpv hb
          go_wp2
          go_ret
          exact ⟨true, _, rfl, ⟨fun _ i h1 h2 h3 => hgd.out i h1 h2 h3, fun _ => rfl⟩, HP1.out, fun j hj => by simp [onF, hj], HB.out⟩
end Go.Proofs.YtojjjndhabjhdaaDoor.shortA
