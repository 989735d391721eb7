/-
  The reader's memory: a frame is pushed, is popped; a key, a kid is added.
-/
import Derived.Test.YtjcaffpmcgfhaaaDoorJsonM
namespace Go.Proofs.YtjcaffpmcgfhaaaDoor.jsonN
open Go.ChangeShapes Go.WideShapes Go.ChangeAt Go.RowKit Go.WideMaps Go.Maps nodeP nodeQ nodeS ownI jsonP jsonM
set_option linter.unusedSimpArgs false
set_option linter.unusedVariables false

section
variable {w wA w1 : World} {B rb : Nat} {s : ByteArray} {p n d : Nat} {fr : Nat → Fr} {F : Ix → Thing} {P : Nat → Prop}
theorem fcells_alike {fr fr' : Nat → Fr} {F F' : Ix → Thing} {i : Nat} (h0 : (fr i).obj = (fr' i).obj) (h1 : (F (.keys i)).val = (F' (.keys i)).val) (h2 : (F (.kids i)).val = (F' (.kids i)).val) (h3 : (F (.seen i)).val = (F' (.seen i)).val) : fcells fr F i = fcells fr' F' i := by
  unfold fcells kindOf; rw [h0, h1, h2, h3]

theorem RM.push (h : RM w B rb s p n d fr F P) (hbA : Below w.heap.size w wA) (o : Bool) (it : Thing) (hit : it.ok wA B) (hitb : it.blk = none ∨ ∃ b, it.blk = some b ∧ w.heap.size ≤ b) (hito : (o = true → ∃ b, it = .map b 0 (seenD [])) ∧ (o = false → it = .nomap))
    {v' : Value} (hown : w1.ownsRow B 72 6 v' (d + 1) (ocells fr F d ++ [.int .i64 (if o then 7 else 6), .int .i64 0, .string ByteArray.empty, .slice none 0 0, .slice none 0 0, it.val])) (hg : wA.grownBy w1 (F .opn).val.ownBlock) (hat : v'.ownBlock = (F .opn).val.ownBlock ∨ ∃ b, v'.ownBlock = some b ∧ wA.heap.size ≤ b) :
    ∃ F', RM (w1.setCell ⟨rb, 3, none⟩ v') B rb s p n (d + 1) (updN fr d ⟨o, [], []⟩) F' P := by
  have hsA := hbA.size
  have hs1 := hg.size
  obtain ⟨ov, hov⟩ := h.opn
  have hblk : (F .opn).blk = (F .opn).val.ownBlock := by rw [hov]; rfl
  obtain ⟨ok1, ok2, ok3⟩ := h.out d (Nat.le_refl _)
  have O1 := h.own.step (.seen d) it (grown_below hbA _) hit (.inr hitb)
  have hfc : fcells (updN fr d ⟨o, [], []⟩) (upd F (.seen d) it) d = [.int .i64 (if o then 7 else 6), .int .i64 0, .string ByteArray.empty, .slice none 0 0, .slice none 0 0, it.val] := by
    unfold fcells kindOf
    rw [updN_same, upd_same, upd_other _ _ (by simp), upd_other _ _ (by simp), ok1, ok2]; rfl
  have hfo : ∀ i, i < d → fcells fr F i = fcells (updN fr d ⟨o, [], []⟩) (upd F (.seen d) it) i := fun i hi => fcells_alike (by rw [updN_other _ _ (by omega)]) (by rw [upd_other _ _ (by simp)]) (by rw [upd_other _ _ (by simp)]) (by rw [upd_other _ _ (by simp; omega)])
  have hoc : ocells fr F d ++ [.int .i64 (if o then 7 else 6), .int .i64 0, .string ByteArray.empty, .slice none 0 0, .slice none 0 0, it.val] = ocells (updN fr d ⟨o, [], []⟩) (upd F (.seen d) it) (d + 1) := by
    rw [ocells_succ, hfc, ocells_congr hfo]
  rw [hoc] at hown
  have O2 := O1.step .opn (.row 72 6 v' (d + 1) (ocells (updN fr d ⟨o, [], []⟩) (upd F (.seen d) it) (d + 1))) (w' := w1) (by rw [upd_other _ _ (by simp), hblk]; exact hg) hown (by
    rw [upd_other _ _ (by simp), hblk]
    rcases hat with e | ⟨b, e, hle⟩
    · exact .inl e
    · exact .inr (.inr ⟨b, e, hle⟩))
  have hW1 : Whole w1 rb 43 [.string s, .int .i64 p, .int .i64 n, (F .opn).val] := (h.obj.below hbA (by have := h.hB; omega)).kept hg (fun e => by have := (h.blkB .opn rb (hblk.trans e)).1; have := h.hB.1; omega)
  obtain ⟨hW2, hg2⟩ := hW1.set 3 v'
  have hPk : ∀ b, P b → (w1.setCell ⟨rb, 3, none⟩ v').heap[b]? = w.heap[b]? := fun b hb => by
    obtain ⟨q1, q2, q3⟩ := h.sealed' b hb
    rw [hg2.block b (by omega) (fun e => by cases e; have := h.hB.1; omega), hg.block b (by omega) (fun e => q3 .opn (hblk.trans e.symm)), hbA.block b q2]
  refine ⟨_, O2.apart hg2 (fun k b hk e => ?_), ⟨h.hB.1, by have := h.hB.2; simp; omega⟩, by rw [upd_same]; exact hW2, ⟨v', ?_⟩, fun i hi => ?_, fun i hi => ?_, fun i hi => ?_, fun i hi => ?_, fun b hb => ?_, fun i hi => ?_⟩
  · cases e; have := ((O2.1 k).lt _ hk).1; have := h.hB.1; omega
  · rw [upd_same]
    congr 1
  · rw [upd_other _ _ (by simp), upd_other _ _ (by simp)]
    by_cases e : i = d
    · subst e; rw [updN_same, ok1]; exact ⟨_, rfl⟩
    · rw [updN_other _ _ e]; exact h.kys i (by omega)
  · rw [upd_other _ _ (by simp), upd_other _ _ (by simp)]
    by_cases e : i = d
    · subst e; rw [updN_same, ok2]; exact ⟨_, [], rfl, rfl, fun j hj => absurd hj (Nat.not_lt_zero _)⟩
    · rw [updN_other _ _ e]
      obtain ⟨v, ls, e1, e2, e3⟩ := h.kds i (by omega)
      exact ⟨v, ls, e1, e2, fun j hj => (e3 j hj).keep (fun _ h => h) hPk⟩
  · rw [upd_other _ _ (by simp)]
    by_cases e : i = d
    · subst e; rw [updN_same, upd_same]; exact hito
    · rw [updN_other _ _ e, upd_other _ _ (by simpa using e)]; exact h.sen i (by omega)
  · rw [upd_other _ _ (by simp), upd_other _ _ (by simp), upd_other _ _ (by simp), upd_other _ _ (by simp), upd_other _ _ (by simp), upd_other _ _ (by simp; omega)]; exact h.out i (by omega)
  · obtain ⟨q1, q2, q3⟩ := h.sealed' b hb
    refine ⟨q1, by simp; omega, fun k => ?_⟩
    by_cases e : k = .opn
    · subst e; rw [upd_same]
      rcases hat with e | ⟨b', e, hle⟩
      · show v'.ownBlock ≠ _; rw [e, ← hblk]; exact q3 .opn
      · show v'.ownBlock ≠ _; rw [e]; intro e'; cases e'; omega
    · rw [upd_other _ _ e]
      by_cases e2 : k = .seen d
      · subst e2; rw [upd_same]
        rcases hitb with e | ⟨b', e, hle⟩
        · rw [e]; simp
        · rw [e]; intro e'; cases e'; omega
      · rw [upd_other _ _ e2]; exact q3 k
  · by_cases e : i = d
    · subst e; rw [updN_same]; simp
    · rw [updN_other _ _ e]; exact h.sml i (by omega)

theorem flat_get {ls : List (List Value)} (h5 : ∀ j, j < ls.length → (ls.getD j []).length = 5) : ∀ {i j : Nat}, i < ls.length → j < 5 → ls.flatten[5 * i + j]? = (ls.getD i [])[j]? := by
  induction ls with
  | nil => intro i j hi _; simp at hi
  | cons a ls ih =>
    intro i j hi hj
    have ha : a.length = 5 := h5 0 (by simp)
    rw [List.flatten_cons]
    cases i with
    | zero => rw [List.getElem?_append_left (by omega)]; simp
    | succ i =>
      rw [List.getElem?_append_right (by omega), ha, show 5 * (i + 1) + j - 5 = 5 * i + j from by omega]
      have := ih (fun j hj => by have := h5 (j + 1) (by simp; omega); simpa using this) (i := i) (j := j) (by simp at hi; omega) hj
      rw [this]; simp
theorem flat_len {ls : List (List Value)} (h5 : ∀ j, j < ls.length → (ls.getD j []).length = 5) : ls.flatten.length = ls.length * 5 := by
  induction ls with
  | nil => rfl
  | cons a ls ih =>
    have ha : a.length = 5 := h5 0 (by simp)
    rw [List.flatten_cons, List.length_append, ha, ih (fun j hj => by have := h5 (j + 1) (by simp; omega); simpa using this)]
    simp; omega

theorem RM.pop (h : RM w B rb s p n (d + 1) fr F P) {g cap : Nat} (hv : (F .opn).val = .slice (some ⟨g, 0, none⟩) (d + 1) cap) (hsm : (fr d).keys.length ≤ maxLen ∧ (fr d).kids.length ≤ maxLen) :
    ∃ F' P', RM (w.setCell ⟨rb, 3, none⟩ (.slice (some ⟨g, 0, none⟩) d cap)) B rb s p n d fr F' P' ∧ NodeIn (w.setCell ⟨rb, 3, none⟩ (.slice (some ⟨g, 0, none⟩) d cap)) P' (fr d).node [.int .i64 (kindOf (fr d)), .int .i64 0, .string ByteArray.empty, (F (.keys d)).val, (F (.kids d)).val] ∧ (∀ b, P b → P' b) ∧ (∀ b, P' b → P b ∨ ∃ k, (F k).blk = some b) ∧ ∀ k b, (F' k).blk = some b → (F k).blk = some b := by
  obtain ⟨ov, hov⟩ := h.opn
  rw [hov] at hv
  have hv' : ov = .slice (some ⟨g, 0, none⟩) (d + 1) cap := hv
  subst hv'
  have hrow : w.ownsRow B 72 6 (.slice (some ⟨g, 0, none⟩) (d + 1) cap) (d + 1) (ocells fr F (d + 1)) := by have := h.own.1 .opn; rw [hov] at this; exact this
  have hcut : w.ownsRow B 72 6 (.slice (some ⟨g, 0, none⟩) d cap) d (ocells fr F d) := by
    refine ⟨ocells_len fr F d, .inr ?_⟩
    rcases hrow.2 with ⟨e, _⟩ | ⟨g', cap', cur, e, hb, hg, hn', hm, hc, ht⟩
    · cases e
    · simp only [Value.slice.injEq, Option.some.injEq, Addr.mk.injEq, and_true, true_and] at e
      obtain ⟨rfl, rfl⟩ := e
      refine ⟨g, cap, cur, rfl, hb, hg, by omega, hm, hc, ?_⟩
      have : cur.toList.take (d * 6) = (cur.toList.take ((d + 1) * 6)).take (d * 6) := by rw [List.take_take]; congr 1; omega
      rw [this, ht, ocells_succ, List.take_left' (ocells_len fr F d)]
  have hgB := hrow.lt g rfl
  obtain ⟨kv, hk⟩ := h.kys d (by omega)
  obtain ⟨cv, ls, hc1, hc2, hc3⟩ := h.kds d (by omega)
  have hkr : w.ownsRow B 9 1 kv (fr d).keys.length ((fr d).keys.map Value.string) := by have := h.own.1 (.keys d); rw [hk] at this; exact this
  have hcr : w.ownsRow B 28 5 cv (fr d).kids.length ls.flatten := by have := h.own.1 (.kids d); rw [hc1] at this; exact this
  have O1 := h.own.step .opn (.row 72 6 (.slice (some ⟨g, 0, none⟩) d cap) d (ocells fr F d)) (w' := w) ⟨rfl, rfl, rfl, Nat.le_refl _, fun _ _ _ => rfl⟩ hcut (.inl (by rw [hov]; rfl))
  have O2 := O1.drop (.keys d) nilK ⟨rfl, .inl ⟨rfl, rfl⟩⟩ rfl
  have O3 := O2.drop (.kids d) nilC ⟨rfl, .inl ⟨rfl, rfl⟩⟩ rfl
  have O4 := O3.drop (.seen d) .nomap trivial rfl
  obtain ⟨hW2, hg2⟩ := h.obj.set 3 (.slice (some ⟨g, 0, none⟩) d cap)
  have hkeep : ∀ b, B ≤ b → b < w.heap.size → (w.setCell ⟨rb, 3, none⟩ (.slice (some ⟨g, 0, none⟩) d cap)).heap[b]? = w.heap[b]? := fun b h1 h2 => hg2.block b h2 (fun e => by cases e; have := h.hB.1; omega)
  have hblkK : (F (.keys d)).blk = kv.ownBlock := by rw [hk]; rfl
  have hblkC : (F (.kids d)).blk = cv.ownBlock := by rw [hc1]; rfl
  have hPb : ∀ b, (P b ∨ (F (.keys d)).blk = some b ∨ (F (.kids d)).blk = some b) → B ≤ b ∧ b < w.heap.size := by
    rintro b (hb | hb | hb)
    · exact ⟨(h.sealed' b hb).1, (h.sealed' b hb).2.1⟩
    · exact h.blkB _ b hb
    · exact h.blkB _ b hb
  have hPk : ∀ b, P b → (w.setCell ⟨rb, 3, none⟩ (.slice (some ⟨g, 0, none⟩) d cap)).heap[b]? = w.heap[b]? := fun b hb => hkeep b (h.sealed' b hb).1 (h.sealed' b hb).2.1
  refine ⟨_, fun b => P b ∨ (F (.keys d)).blk = some b ∨ (F (.kids d)).blk = some b, ⟨O4.apart hg2 (fun k b hk e => ?_), ⟨h.hB.1, by simpa using h.hB.2⟩, ?_, ⟨.slice (some ⟨g, 0, none⟩) d cap, ?_⟩, fun i hi => ?_, fun i hi => ?_, fun i hi => ?_, fun i hi => ?_, fun b hb => ?_, fun i hi => h.sml i (by omega)⟩, ?_, fun b hb => .inl hb, fun b hb => ?_, fun k b hk => ?_⟩
  · cases e; have := ((O4.1 k).lt _ hk).1; have := h.hB.1; omega
  · rw [upd_other _ _ (by simp), upd_other _ _ (by simp), upd_other _ _ (by simp), upd_same]
    exact hW2
  · rw [upd_other _ _ (by simp), upd_other _ _ (by simp), upd_other _ _ (by simp), upd_same]
    congr 1
    exact ocells_congr fun i hi => fcells_alike rfl (by rw [upd_other _ _ (by simp), upd_other _ _ (by simp), upd_other _ _ (by simp; omega), upd_other _ _ (by simp)]) (by rw [upd_other _ _ (by simp), upd_other _ _ (by simp; omega), upd_other _ _ (by simp), upd_other _ _ (by simp)]) (by rw [upd_other _ _ (by simp; omega), upd_other _ _ (by simp), upd_other _ _ (by simp), upd_other _ _ (by simp)])
  · rw [upd_other _ _ (by simp), upd_other _ _ (by simp), upd_other _ _ (by simp; omega), upd_other _ _ (by simp)]; exact h.kys i (by omega)
  · rw [upd_other _ _ (by simp), upd_other _ _ (by simp; omega), upd_other _ _ (by simp), upd_other _ _ (by simp)]
    obtain ⟨v, l2, e1, e2, e3⟩ := h.kds i (by omega)
    exact ⟨v, l2, e1, e2, fun j hj => (e3 j hj).keep (fun _ h => .inl h) hPk⟩
  · rw [upd_other _ _ (by simp; omega), upd_other _ _ (by simp), upd_other _ _ (by simp), upd_other _ _ (by simp)]; exact h.sen i (by omega)
  · by_cases e : i = d
    · subst e
      refine ⟨?_, ?_, upd_same _ _ _⟩
      · rw [upd_other _ _ (by simp), upd_other _ _ (by simp), upd_same]
      · rw [upd_other _ _ (by simp), upd_same]
    · obtain ⟨q1, q2, q3⟩ := h.out i (by omega)
      refine ⟨?_, ?_, ?_⟩
      · rw [upd_other _ _ (by simp), upd_other _ _ (by simp), upd_other _ _ (by simpa using e), upd_other _ _ (by simp)]; exact q1
      · rw [upd_other _ _ (by simp), upd_other _ _ (by simpa using e), upd_other _ _ (by simp), upd_other _ _ (by simp)]; exact q2
      · rw [upd_other _ _ (by simpa using e), upd_other _ _ (by simp), upd_other _ _ (by simp), upd_other _ _ (by simp)]; exact q3
  · obtain ⟨q1, q2⟩ := hPb b hb
    refine ⟨q1, by simpa using q2, fun k => ?_⟩
    have hF : (F k).blk = some b → k = .keys d ∨ k = .kids d := by
      intro hk
      rcases hb with hb | hb | hb
      · exact absurd hk ((h.sealed' b hb).2.2 k)
      · exact .inl (h.own.2 k (.keys d) b hk hb)
      · exact .inr (h.own.2 k (.kids d) b hk hb)
    by_cases e4 : k = .seen d
    · subst e4; rw [upd_same]; simp [Thing.blk]
    rw [upd_other _ _ e4]
    by_cases e3 : k = .kids d
    · subst e3; rw [upd_same]; simp [Thing.blk, nilC, Value.ownBlock]
    rw [upd_other _ _ e3]
    by_cases e2 : k = .keys d
    · subst e2; rw [upd_same]; simp [Thing.blk, nilK, Value.ownBlock]
    rw [upd_other _ _ e2]
    by_cases e1 : k = .opn
    · subst e1
      rw [upd_same]
      intro hk
      rcases hF (by rw [hov]; exact hk) with e | e
      · cases e
      · cases e
    · rw [upd_other _ _ e1]
      intro hk
      rcases hF hk with e | e
      · exact e2 e
      · exact e3 e
  · have hvk : (F (.keys d)).val = kv := by rw [hk]; rfl
    have hvc : (F (.kids d)).val = cv := by rw [hc1]; rfl
    have hK : KeysIn (w.setCell ⟨rb, 3, none⟩ (.slice (some ⟨g, 0, none⟩) d cap)) (fun b => P b ∨ (F (.keys d)).blk = some b ∨ (F (.kids d)).blk = some b) kv (fr d).keys := by
      rcases hkr.2 with ⟨rfl, h0⟩ | ⟨g1, c1, cur, rfl, hb, hg, hn', hm, hc, ht⟩
      · have : (fr d).keys = [] := List.length_eq_zero_iff.1 h0
        rw [this]
        exact ⟨none, 0, 0, 0, rfl, Nat.zero_le _, fun h => absurd rfl h, fun i hi => absurd hi (Nat.not_lt_zero _), by simp⟩
      · refine ⟨_, c1, g1, 0, rfl, hsm.1, fun _ => ⟨rfl, .inr (.inl hblkK)⟩, fun i hi => ?_, h.sml d (by omega)⟩
        have := hkr.cellAt i (by omega)
        rw [Nat.zero_add, World.cell?_of_block (w := w) (hkeep g1 hb (Array.getElem?_eq_some_iff.1 hg).1), this, List.getElem?_map, List.getElem?_eq_getElem hi, List.getD_eq_getElem?_getD, List.getElem?_eq_getElem hi]; rfl
    have h5 : ∀ j, j < ls.length → (ls.getD j []).length = 5 := fun j hj => (hc3 j (by omega)).len
    have hkd : In64 (kindOf (fr d)) ∧ In64 0 ∧ ByteArray.empty.size ≤ maxLen := by
      refine ⟨?_, by constructor <;> omega, by simp [maxLen]⟩
      unfold kindOf; split <;> constructor <;> omega
    rw [hvk, hvc]
    have hno : (fr d).node = .mk (kindOf (fr d)) 0 ByteArray.empty (fr d).keys (fr d).kids := by unfold Fr.node kindOf; rfl
    rw [hno]
    rcases hcr.2 with ⟨rfl, h0⟩ | ⟨g1, c1, cur, rfl, hb, hg, hn', hm, hc, ht⟩
    · have he : (fr d).kids = [] := List.length_eq_zero_iff.1 h0
      rw [he]
      exact .mk _ _ _ _ [] _ none 0 0 0 (fun _ => []) hkd hK (Nat.zero_le _) (fun h => absurd rfl h) (fun i hi => absurd hi (Nat.not_lt_zero _)) (fun i hi => absurd hi (Nat.not_lt_zero _))
    · refine .mk _ _ _ _ (fr d).kids _ _ c1 g1 0 (fun i => ls.getD i []) hkd hK hsm.2 (fun _ => ⟨rfl, .inr (.inr hblkC)⟩) (fun i hi j hj => ?_) (fun i hi => ?_)
      · rw [World.cell?_of_block (w := w) (hkeep g1 hb (Array.getElem?_eq_some_iff.1 hg).1), show (0 + 5 * i + j) = 5 * i + j from by omega, hcr.cellAt (5 * i + j) (by omega)]
        exact flat_get h5 (by omega) hj
      · have := (hc3 i hi).keep (P' := fun b => P b ∨ (F (.keys d)).blk = some b ∨ (F (.kids d)).blk = some b) (fun _ h => .inl h) hPk
        rw [List.getD_eq_getElem?_getD, List.getElem?_eq_getElem hi] at this
        exact this
  · rcases hb with hb | hb | hb
    · exact .inl hb
    · exact .inr ⟨_, hb⟩
    · exact .inr ⟨_, hb⟩
  · by_cases e4 : k = .seen d
    · subst e4; rw [upd_same] at hk; cases hk
    rw [upd_other _ _ e4] at hk
    by_cases e3 : k = .kids d
    · subst e3; rw [upd_same] at hk; cases hk
    rw [upd_other _ _ e3] at hk
    by_cases e2 : k = .keys d
    · subst e2; rw [upd_same] at hk; cases hk
    rw [upd_other _ _ e2] at hk
    by_cases e1 : k = .opn
    · subst e1; rw [upd_same] at hk; rw [hov]; exact hk
    · rw [upd_other _ _ e1] at hk; exact hk
end
end Go.Proofs.YtjcaffpmcgfhaaaDoor.jsonN
