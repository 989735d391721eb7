/-
  Plain: a log that was shortened proves what it proved; the opposites of a core are plain from the log.
-/
import Derived.Test.YtojjjndhabjhdaaDoorFrM
import Derived.Test.YtojjjndhabjhdaaDoorFtM
import Derived.Test.YtojjjndhabjhdaaDoorFuM
namespace Go.Proofs.YtojjjndhabjhdaaDoor.foundP
set_option linter.unusedSimpArgs false
set_option linter.unusedVariables false
open proofP proofQ shortP satP satA satX satCa satSe satMa satMc proofN

theorem mask_bad {cl log : List (List Int)} (hb : bad cl log = -1) : ∀ t, t + 1 ≤ log.length → bad cl (chosen log (maskM cl log t) log.length) = -1 := by
  intro t
  induction t with
  | zero =>
    intro _
    have e : chosen log (maskM cl log 0) log.length = log.take log.length := chosen_take (Nat.le_refl _) (fun i _ => rfl)
    rw [e, List.take_length]
    exact hb
  | succ t ih =>
    intro ht
    show bad cl (chosen log (stepM cl log (maskM cl log t) (log.length - 2 - t)) log.length) = -1
    unfold stepM
    by_cases h : 0 ≤ bad cl (chosen log (updN (maskM cl log t) (log.length - 2 - t) false) log.length)
    · rw [decide_eq_true h]
      rw [chosen_congr (m' := maskM cl log t) fun i _ => ?_]
      · exact ih (by omega)
      · by_cases e : i = log.length - 2 - t
        · rw [e, updN_same, mask_left t _ (by omega)]
        · rw [updN_other _ _ e]
    · rw [decide_eq_false h]
      exact bad_neg.1 (by omega)
theorem mask_last {cl log : List (List Int)} : ∀ t, t + 1 ≤ log.length → maskM cl log t (log.length - 1) = true := by
  intro t
  induction t with
  | zero => intro _; rfl
  | succ t ih =>
    intro ht
    show stepM cl log (maskM cl log t) (log.length - 2 - t) (log.length - 1) = true
    unfold stepM
    rw [updN_other _ _ (by omega)]
    exact ih (by omega)
theorem short_bad {cl log : List (List Int)} (hb : bad cl log = -1) : bad cl (shortened cl log) = -1 := by
  unfold shortened
  rw [if_pos hb]
  by_cases h0 : log.length = 0
  · rw [h0]; exact bad_none fun j hj => by simp [chosen] at hj
  · exact mask_bad hb _ (by omega)
theorem short_len {cl log : List (List Int)} : (shortened cl log).length ≤ log.length := by
  unfold shortened
  split
  · exact chosen_len _
  · simp
theorem short_mem {cl log : List (List Int)} {c : List Int} (h : c ∈ shortened cl log) : c ∈ log := by
  unfold shortened at h
  split at h
  · obtain ⟨i, hi, _, rfl⟩ := mem_chosen.1 h
    exact getD_mem hi
  · cases h
theorem short_last {cl l : List (List Int)} {x : List Int} (hb : bad cl (l ++ [x]) = -1) : x ∈ shortened cl (l ++ [x]) := by
  unfold shortened
  rw [if_pos hb]
  refine mem_chosen.2 ⟨l.length, by simp, ?_, by simp⟩
  have := mask_last (cl := cl) (log := l ++ [x]) ((l ++ [x]).length - 1) (by simp)
  simpa using this
/-- the opposites of a core -/
theorem core_plain {cl L : List (List Int)} {K : List Nat} (hx : clz (K.map opp) ∈ L) (hr : ∀ x, x ∈ K → 2 ≤ x ∧ x < 40002) : pl (cl ++ L) ((clz K).map proofW.ng) = true := by
  refine pl_iff.2 ?_
  have h := pl_iff.1 (pl_self (cl := cl ++ L) (c := clz (K.map opp)) (List.mem_append_right _ hx))
  refine Clash.from (fun z hz hl => ?_) h
  obtain ⟨u, hu, rfl⟩ := List.mem_map.1 hz
  obtain ⟨y, hy, rfl⟩ := clz_mem.1 hu
  obtain ⟨k, hk, rfl⟩ := List.mem_map.1 hy
  have hk2 := hr k hk
  rw [litOf_opp k hk2.1, Int.neg_neg]
  refine List.mem_map.2 ⟨proofW.ng (litOf k), List.mem_map.2 ⟨litOf k, clz_mem.2 ⟨k, hk, rfl⟩, rfl⟩, ?_⟩
  rw [proofW.ng_lit (litOf_lit k hk2.1 hk2.2), Int.neg_neg]
section
open resB resA proofX cls
variable {w : World} {cs : List (List Int)} {V : Nat} {asm : List Int} {b r st conf : Int} {mv cv lv : Value} {logs : List (List Int)}
/-- a search's result is proved, by its log and by the log shortened -/
theorem found_ok (h : Ans w cs V asm b r st conf mv cv lv logs) (hb : cmax ≤ b) (hV : V ≤ 20) :
    ∃ (m : List Bool) (core : List Int), BoolsAt w w.heap.size mv m ∧ IntsAt w w.heap.size cv core ∧ core.length ≤ 100 ∧ resultOk cs V asm st m core logs = true ∧ resultOk cs V asm st m core (shortened cs logs) = true := by
  have hbad := log_bad h.ok
  rcases h.kind with ⟨e1, e2, m, hm, hl, h1, h2⟩ | ⟨e1, e2, K, l, hr, hn, hK, hlog⟩ | h4
  · subst e1 e2 hl
    have hok : modelOk cs m asm = true := by
      unfold modelOk
      rw [h1, Bool.true_and]
      exact List.all_eq_true.2 h2
    refine ⟨m, [], hm, ⟨none, 0, 0, 0, rfl, Nat.zero_le _, fun h => absurd rfl h, fun i hi => absurd hi (Nat.not_lt_zero _), by simp⟩, by simp, ?_, ?_⟩ <;>
    · unfold resultOk
      rw [if_pos rfl, hok, Bool.and_true]
      exact decide_eq_true rfl
  · subst e1 e2
    have hlen : (clz K).length ≤ 100 := by
      have h1 : (clz K).length = K.length := by unfold clz satX.srt; rw [List.length_map, List.length_mergeSort, List.length_map]
      have := nodup_bound hn (m := 2 * V + 2) fun x hx => (hK x hx).2.1
      omega
    have hin : ((clz K).all fun l => asm.contains l) = true := List.all_eq_true.2 fun z hz => by
      obtain ⟨y, hy, rfl⟩ := clz_mem.1 hz
      exact List.contains_iff_mem.2 (hK y hy).2.2
    have hrg : ∀ x, x ∈ K → 2 ≤ x ∧ x < 40002 := fun x hx => by have := hK x hx; omega
    refine ⟨[], clz K, ⟨none, 0, 0, 0, rfl, Nat.zero_le _, fun h => absurd rfl h, fun i hi => absurd hi (Nat.not_lt_zero _)⟩, hr, hlen, ?_, ?_⟩
    · unfold resultOk refutes
      rw [if_neg (by decide), if_pos rfl, hin, Bool.true_and, hbad, core_plain (by rw [hlog]; simp) hrg]
      rfl
    · unfold resultOk refutes
      rw [if_neg (by decide), if_pos rfl, hin, Bool.true_and, short_bad hbad, core_plain (by rw [hlog] at hbad ⊢; exact short_last hbad) hrg]
      rfl
  · have := h4.2.2.2.1
    have := h.cfl.2
    omega
end
end Go.Proofs.YtojjjndhabjhdaaDoor.foundP
