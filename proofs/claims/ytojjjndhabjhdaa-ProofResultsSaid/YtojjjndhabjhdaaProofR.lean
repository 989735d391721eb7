/-
  Plain: literals in order, and propagation clause by clause, as the reference does it.
-/
import Derived.Test.YtojjjndhabjhdaaProofQ
namespace Go.Proofs.Ytojjjndhabjhdaa.proofR
open proofP proofQ

def less (a b : Int) : Bool := decide (a.natAbs < b.natAbs) || (decide (a.natAbs = b.natAbs) && decide (a < b))
theorem less_iff {a b : Int} : less a b = true ↔ a.natAbs < b.natAbs ∨ (a.natAbs = b.natAbs ∧ a < b) := by simp [less]
theorem less_irr (a : Int) : less a a = false := by simp [less]
theorem less_trans {a b c : Int} (h : less a b = true) (h' : less b c = true) : less a c = true := by rw [less_iff] at *; omega
theorem less_tri {a b : Int} (h : less a b = false) (hne : a ≠ b) : less b a = true := by
  rw [less_iff]
  have : ¬ (a.natAbs < b.natAbs ∨ (a.natAbs = b.natAbs ∧ a < b)) := fun hh => by rw [← less_iff] at hh; rw [h] at hh; cases hh
  omega
def put : List Int → Int → List Int
  | [], x => [x]
  | y :: t, x => if less y x = true then y :: put t x else if y = x then y :: t else x :: y :: t
theorem mem_put (l : List Int) (x z : Int) : z ∈ put l x ↔ z ∈ l ∨ z = x := by
  induction l with
  | nil => simp [put]
  | cons y t ih =>
    unfold put
    split
    · simp [ih, or_assoc]
    · split
      · rename_i _ e; subst e
        simp
        intro e; exact .inl e
      · simp only [List.mem_cons]
        constructor
        · rintro (h | h)
          · exact .inr h
          · exact .inl h
        · rintro (h | h)
          · exact .inr h
          · exact .inl h
def Srt (l : List Int) : Prop := l.Pairwise fun a b => less a b = true
theorem srt_put {l : List Int} (h : Srt l) (x : Int) : Srt (put l x) := by
  induction l with
  | nil => simp [put, Srt]
  | cons y t ih =>
    have h' := List.pairwise_cons.1 h
    unfold put
    split
    · rename_i hl
      refine List.pairwise_cons.2 ⟨fun z hz => ?_, ih h'.2⟩
      rcases (mem_put t x z).1 hz with hz | rfl
      · exact h'.1 z hz
      · exact hl
    · rename_i hl
      split
      · exact h
      · rename_i hne
        refine List.pairwise_cons.2 ⟨fun z hz => ?_, h⟩
        have hxy := less_tri (Bool.eq_false_iff.2 hl) hne
        rcases List.mem_cons.1 hz with rfl | hz
        · exact hxy
        · exact less_trans hxy (h'.1 z hz)
theorem srt_nodup {l : List Int} (h : Srt l) : l.Nodup := by
  unfold List.Nodup
  refine List.Pairwise.imp ?_ h
  intro a b hab e
  subst e
  rw [less_irr] at hab; cases hab
theorem put_len {l : List Int} {x : Int} (h : x ∉ l) : (put l x).length = l.length + 1 := by
  induction l with
  | nil => simp [put]
  | cons y t ih =>
    unfold put
    split
    · simp [ih (fun hh => h (by simp [hh]))]
    · split
      · rename_i _ e; exact absurd (by simp [e]) h
      · simp
theorem put_le (l : List Int) (x : Int) : (put l x).length ≤ l.length + 1 := by
  induction l with
  | nil => simp [put]
  | cons y t ih =>
    unfold put
    split
    · simp [ih]
    · split
      · simp
      · simp
theorem put_at {l : List Int} {x : Int} (k : Nat) (hk : k ≤ l.length) (h : ∀ j, j < k → less (l.getD j 0) x = true) : put l x = l.take k ++ put (l.drop k) x := by
  induction k generalizing l with
  | zero => simp
  | succ k ih =>
    cases l with
    | nil => simp at hk
    | cons y t =>
      have h0 := h 0 (by omega)
      simp only [List.getD_cons_zero] at h0
      rw [put, if_pos h0, List.take_succ_cons, List.drop_succ_cons, List.cons_append]
      rw [ih (by simpa using hk) (fun j hj => by have := h (j + 1) (by omega); simpa using this)]
theorem put_end {l : List Int} {x : Int} (h : ∀ j, j < l.length → less (l.getD j 0) x = true) : put l x = l ++ [x] := by
  rw [put_at l.length (Nat.le_refl _) h]; simp [put]
theorem put_same {l : List Int} {x : Int} (k : Nat) (hk : k < l.length) (h : ∀ j, j < k → less (l.getD j 0) x = true) (he : l.getD k 0 = x) : put l x = l := by
  rw [put_at k (by omega) h, List.drop_eq_getElem_cons hk]
  rw [List.getD_eq_getElem?_getD, List.getElem?_eq_getElem hk, Option.getD_some] at he
  rw [put, he, if_neg (by rw [less_irr]; simp), if_pos rfl, ← he, ← List.drop_eq_getElem_cons hk, List.take_append_drop]
theorem put_mid {l : List Int} {x : Int} (k : Nat) (hk : k < l.length) (h : ∀ j, j < k → less (l.getD j 0) x = true) (hn : less (l.getD k 0) x = false) (he : l.getD k 0 ≠ x) : put l x = l.take k ++ [x] ++ l.drop k := by
  rw [put_at k (by omega) h, List.drop_eq_getElem_cons hk]
  rw [List.getD_eq_getElem?_getD, List.getElem?_eq_getElem hk, Option.getD_some] at he hn
  rw [put, if_neg (by rw [hn]; simp), if_neg he]
  simp

theorem nodup_map_code {l : List Int} (h : l.Nodup) (hl : ∀ x ∈ l, lit x) : (l.map code).Nodup := by
  unfold List.Nodup
  rw [List.pairwise_map]
  refine List.Pairwise.imp_of_mem ?_ h
  intro a b ha hb hne e
  apply hne
  rw [← litOf_code a (hl a ha), e, litOf_code b (hl b hb)]
theorem srt_bound {l : List Int} (h : Srt l) (hl : ∀ x ∈ l, lit x) : l.length ≤ 40002 := by
  have := nodup_bound (nodup_map_code (srt_nodup h) hl) (m := 40002) (fun x hx => by
    obtain ⟨y, hy, rfl⟩ := List.mem_map.1 hx
    exact (code_rng y (hl y hy)).2)
  simpa using this

structure RI (cl : List (List Int)) (fr set : List Int) : Prop where
  srt : Srt set
  lits : ∀ l ∈ set, lit l
  con : ∀ l ∈ set, -l ∉ set
  der : ∀ l ∈ set, Der cl fr l
theorem RI.nil (cl : List (List Int)) (fr : List Int) : RI cl fr [] := ⟨List.Pairwise.nil, by simp, by simp, by simp⟩
theorem RI.more {cl : List (List Int)} {fr set : List Int} (h : RI cl fr set) {x : Int} (hl : lit x) (h2 : -x ∉ set) (hd : Der cl fr x) : RI cl fr (put set x) := by
  refine ⟨srt_put h.srt x, fun l hm => ?_, fun l hm hn => ?_, fun l hm => ?_⟩
  · rcases (mem_put _ _ _).1 hm with hm | rfl
    · exact h.lits l hm
    · exact hl
  · rcases (mem_put _ _ _).1 hm with hm | e1 <;> rcases (mem_put _ _ _).1 hn with hn | e2
    · exact h.con l hm hn
    · rw [← e2, Int.neg_neg] at h2; exact h2 hm
    · rw [e1] at hn; exact h2 hn
    · unfold lit at hl; omega
  · rcases (mem_put _ _ _).1 hm with hm | rfl
    · exact h.der l hm
    · exact hd
theorem RI.fail {cl : List (List Int)} {fr set : List Int} (h : RI cl fr set) {x : Int} (hx : x ∈ fr) (hl : lit x) (h2 : -x ∈ set) : Clash cl fr := .inl ⟨x, .start hx hl, h.der _ h2⟩
theorem RI.len {cl : List (List Int)} {fr set : List Int} (h : RI cl fr set) : set.length ≤ 40002 := srt_bound h.srt h.lits

/-- a clause's literals that are not refuted, in order; whether one is set -/
def lefts (set c : List Int) : List Int := c.foldl (fun acc l => if lit l ∧ -l ∉ set then put acc l else acc) []
def isDone (set c : List Int) : Bool := c.any fun l => decide (lit l ∧ l ∈ set)
theorem lefts_snoc (set c : List Int) (l : Int) : lefts set (c ++ [l]) = if lit l ∧ -l ∉ set then put (lefts set c) l else lefts set c := by simp [lefts]
theorem isDone_snoc (set c : List Int) (l : Int) : isDone set (c ++ [l]) = (isDone set c || decide (lit l ∧ l ∈ set)) := by simp [isDone]
theorem mem_foldl (set : List Int) : ∀ (c acc : List Int) (x : Int), x ∈ c.foldl (fun acc l => if lit l ∧ -l ∉ set then put acc l else acc) acc ↔ x ∈ acc ∨ (x ∈ c ∧ lit x ∧ -x ∉ set)
  | [], acc, x => by simp
  | y :: c, acc, x => by
    rw [List.foldl_cons, mem_foldl set c]
    by_cases h : lit y ∧ -y ∉ set
    · rw [if_pos h, mem_put]
      constructor
      · rintro ((h1 | h1) | h1)
        · exact .inl h1
        · subst h1; exact .inr ⟨by simp, h⟩
        · exact .inr ⟨by simp [h1.1], h1.2⟩
      · rintro (h1 | ⟨h1, h2⟩)
        · exact .inl (.inl h1)
        · rcases List.mem_cons.1 h1 with h1 | h1
          · exact .inl (.inr h1)
          · exact .inr ⟨h1, h2⟩
    · rw [if_neg h]
      constructor
      · rintro (h1 | h1)
        · exact .inl h1
        · exact .inr ⟨by simp [h1.1], h1.2⟩
      · rintro (h1 | ⟨h1, h2⟩)
        · exact .inl h1
        · rcases List.mem_cons.1 h1 with h1 | h1
          · subst h1; exact absurd h2 h
          · exact .inr ⟨h1, h2⟩
theorem mem_lefts (set c : List Int) (x : Int) : x ∈ lefts set c ↔ x ∈ c ∧ lit x ∧ -x ∉ set := by
  unfold lefts; rw [mem_foldl]; simp
theorem srt_lefts (set : List Int) (c : List Int) : Srt (lefts set c) := by
  unfold lefts
  suffices h : ∀ (c acc : List Int), Srt acc → Srt (c.foldl (fun acc l => if lit l ∧ -l ∉ set then put acc l else acc) acc) from h c [] List.Pairwise.nil
  intro c
  induction c with
  | nil => intro acc h; exact h
  | cons y c ih =>
    intro acc h
    rw [List.foldl_cons]
    apply ih
    split
    · exact srt_put h y
    · exact h
theorem lits_lefts (set c : List Int) : ∀ x ∈ lefts set c, lit x := fun x hx => ((mem_lefts set c x).1 hx).2.1
theorem isDone_iff (set c : List Int) : isDone set c = true ↔ ∃ l ∈ c, lit l ∧ l ∈ set := by simp [isDone]

def ClosedC (set c : List Int) : Prop := (∃ l ∈ c, lit l ∧ l ∈ set) ∨ ∃ a ∈ c, ∃ b ∈ c, lit a ∧ lit b ∧ a ≠ b ∧ -a ∉ set ∧ -b ∉ set
theorem closed_done {set c : List Int} (h : isDone set c = true) : ClosedC set c := .inl ((isDone_iff set c).1 h)
theorem closed_two {set c : List Int} (h : 2 ≤ (lefts set c).length) : ClosedC set c := by
  have hs := srt_lefts set c
  match hL : lefts set c, h with
  | a :: b :: t, _ =>
    have ha := (mem_lefts set c a).1 (by rw [hL]; simp)
    have hb := (mem_lefts set c b).1 (by rw [hL]; simp)
    rw [hL] at hs
    have hab := (List.pairwise_cons.1 hs).1 b (by simp)
    refine .inr ⟨a, ha.1, b, hb.1, ha.2.1, hb.2.1, ?_, ha.2.2, hb.2.2⟩
    intro e; subst e; rw [less_irr] at hab; cases hab
theorem der_left {cl : List (List Int)} {fr set c : List Int} (h : RI cl fr set) (hc : c ∈ cl) {x : Int} (hx : x ∈ c) (hl : lit x) (ho : ∀ y ∈ lefts set c, y = x) : Der cl fr x := by
  refine .unit hc hx hl fun y hy hly hne => ?_
  by_cases hn : -y ∈ set
  · exact h.der _ hn
  · exact absurd (ho y ((mem_lefts set c y).2 ⟨hy, hly, hn⟩)) hne
theorem clash_none {cl : List (List Int)} {fr set c : List Int} (h : RI cl fr set) (hc : c ∈ cl) (h0 : lefts set c = []) : Clash cl fr := by
  by_cases hl : ∃ l ∈ c, lit l
  · obtain ⟨l, hm, hl⟩ := hl
    have hn : -l ∈ set := by
      by_cases hn : -l ∈ set
      · exact hn
      · have := (mem_lefts set c l).2 ⟨hm, hl, hn⟩
        rw [h0] at this; simp at this
    exact .inl ⟨l, der_left h hc hm hl (by rw [h0]; simp), h.der _ hn⟩
  · exact .inr ⟨c, hc, fun l hm h' => hl ⟨l, hm, h'⟩⟩
theorem RI.one {cl : List (List Int)} {fr set c : List Int} (h : RI cl fr set) (hc : c ∈ cl) {x : Int} (h1 : lefts set c = [x]) (hd : isDone set c = false) : RI cl fr (put set x) ∧ (put set x).length = set.length + 1 := by
  obtain ⟨hm, hl, hn⟩ := (mem_lefts set c x).1 (by rw [h1]; simp)
  refine ⟨h.more hl hn (der_left h hc hm hl (by rw [h1]; simp)), put_len fun hin => ?_⟩
  have : isDone set c = true := (isDone_iff set c).2 ⟨x, hm, hl, hin⟩
  rw [hd] at this; cases this
theorem RI.fin {cl : List (List Int)} {fr set : List Int} (h : RI cl fr set) (hf : ∀ l ∈ fr, lit l → l ∈ set) (hc : ∀ c ∈ cl, ClosedC set c) : ¬ Clash cl fr := by
  refine no_clash (fun l => l ∈ set) (fun l h1 h2 => h.con l h1 h2) hf fun c hm => ?_
  rcases hc c hm with h1 | h1
  · exact .inl h1
  · exact .inr (.inl h1)
end Go.Proofs.Ytojjjndhabjhdaa.proofR
