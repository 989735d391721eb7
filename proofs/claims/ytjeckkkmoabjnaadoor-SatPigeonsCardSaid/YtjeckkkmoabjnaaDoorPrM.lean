/-
  Plain: literals in order, and propagation clause by clause, as the reference does it.
  Contracts of the reference's small functions of clauses, and of the law's own: Is, Holds, True, All, Big, Right, big, alive.
  The law's alive; haversackref17.Right (it answers); the law ProofSound.
-/
import Derived.Test.YtjeckkkmoabjnaaDoorSqM
import Derived.Test.YtjeckkkmoabjnaaDoorSjM
import Derived.Deep.QuietTactic
import Derived.BigQuiet
import Derived.Deep.DeepCutAuto
import Derived.Carry
import Derived.StillTailTactics
namespace Go.Proofs.YtjeckkkmoabjnaaDoor.proofR
set_option linter.unusedSimpArgs false
set_option linter.unusedVariables false
open proofP proofQ

def less (a b : Int) : Bool := decide (a.natAbs < b.natAbs) || (decide (a.natAbs = b.natAbs) && decide (a < b))
theorem less_iff {a b : Int} : less a b = true ↔ a.natAbs < b.natAbs ∨ (a.natAbs = b.natAbs ∧ a < b) := by simp [less]
theorem less_irr (a : Int) : less a a = false := by simp [less]
theorem less_trans {a b c : Int} (h : less a b = true) (h' : less b c = true) : less a c = true := by rw [less_iff] at *; omega
theorem less_tri {a b : Int} (h : less a b = false) (hne : a ≠ b) : less b a = true := by
  rw [less_iff]
  have : ¬ (a.natAbs < b.natAbs ∨ (a.natAbs = b.natAbs ∧ a < b)) := fun hh => by rw [← less_iff] at hh; rw [h] at hh; cases hh
  omega
def put : List Int → Int → List Int
  | [], x => [x]
  | y :: t, x => if less y x = true then y :: put t x else if y = x then y :: t else x :: y :: t
theorem mem_put (l : List Int) (x z : Int) : z ∈ put l x ↔ z ∈ l ∨ z = x := by
  induction l with
  | nil => simp [put]
  | cons y t ih =>
    unfold put
    split
    · simp [ih, or_assoc]
    · split
      · rename_i _ e; subst e
        simp
        intro e; exact .inl e
      · simp only [List.mem_cons]
        constructor
        · rintro (h | h)
          · exact .inr h
          · exact .inl h
        · rintro (h | h)
          · exact .inr h
          · exact .inl h
def Srt (l : List Int) : Prop := l.Pairwise fun a b => less a b = true
theorem srt_put {l : List Int} (h : Srt l) (x : Int) : Srt (put l x) := by
  induction l with
  | nil => simp [put, Srt]
  | cons y t ih =>
    have h' := List.pairwise_cons.1 h
    unfold put
    split
    · rename_i hl
      refine List.pairwise_cons.2 ⟨fun z hz => ?_, ih h'.2⟩
      rcases (mem_put t x z).1 hz with hz | rfl
      · exact h'.1 z hz
      · exact hl
    · rename_i hl
      split
      · exact h
      · rename_i hne
        refine List.pairwise_cons.2 ⟨fun z hz => ?_, h⟩
        have hxy := less_tri (Bool.eq_false_iff.2 hl) hne
        rcases List.mem_cons.1 hz with rfl | hz
        · exact hxy
        · exact less_trans hxy (h'.1 z hz)
theorem srt_nodup {l : List Int} (h : Srt l) : l.Nodup := by
  unfold List.Nodup
  refine List.Pairwise.imp ?_ h
  intro a b hab e
  subst e
  rw [less_irr] at hab; cases hab
theorem put_len {l : List Int} {x : Int} (h : x ∉ l) : (put l x).length = l.length + 1 := by
  induction l with
  | nil => simp [put]
  | cons y t ih =>
    unfold put
    split
    · simp [ih (fun hh => h (by simp [hh]))]
    · split
      · rename_i _ e; exact absurd (by simp [e]) h
      · simp
theorem put_le (l : List Int) (x : Int) : (put l x).length ≤ l.length + 1 := by
  induction l with
  | nil => simp [put]
  | cons y t ih =>
    unfold put
    split
    · simp [ih]
    · split
      · simp
      · simp
theorem put_at {l : List Int} {x : Int} (k : Nat) (hk : k ≤ l.length) (h : ∀ j, j < k → less (l.getD j 0) x = true) : put l x = l.take k ++ put (l.drop k) x := by
  induction k generalizing l with
  | zero => simp
  | succ k ih =>
    cases l with
    | nil => simp at hk
    | cons y t =>
      have h0 := h 0 (by omega)
      simp only [List.getD_cons_zero] at h0
      rw [put, if_pos h0, List.take_succ_cons, List.drop_succ_cons, List.cons_append]
      rw [ih (by simpa using hk) (fun j hj => by have := h (j + 1) (by omega); simpa using this)]
theorem put_end {l : List Int} {x : Int} (h : ∀ j, j < l.length → less (l.getD j 0) x = true) : put l x = l ++ [x] := by
  rw [put_at l.length (Nat.le_refl _) h]; simp [put]
theorem put_same {l : List Int} {x : Int} (k : Nat) (hk : k < l.length) (h : ∀ j, j < k → less (l.getD j 0) x = true) (he : l.getD k 0 = x) : put l x = l := by
  rw [put_at k (by omega) h, List.drop_eq_getElem_cons hk]
  rw [List.getD_eq_getElem?_getD, List.getElem?_eq_getElem hk, Option.getD_some] at he
  rw [put, he, if_neg (by rw [less_irr]; simp), if_pos rfl, ← he, ← List.drop_eq_getElem_cons hk, List.take_append_drop]
theorem put_mid {l : List Int} {x : Int} (k : Nat) (hk : k < l.length) (h : ∀ j, j < k → less (l.getD j 0) x = true) (hn : less (l.getD k 0) x = false) (he : l.getD k 0 ≠ x) : put l x = l.take k ++ [x] ++ l.drop k := by
  rw [put_at k (by omega) h, List.drop_eq_getElem_cons hk]
  rw [List.getD_eq_getElem?_getD, List.getElem?_eq_getElem hk, Option.getD_some] at he hn
  rw [put, if_neg (by rw [hn]; simp), if_neg he]
  simp

theorem nodup_map_code {l : List Int} (h : l.Nodup) (hl : ∀ x ∈ l, lit x) : (l.map code).Nodup := by
  unfold List.Nodup
  rw [List.pairwise_map]
  refine List.Pairwise.imp_of_mem ?_ h
  intro a b ha hb hne e
  apply hne
  rw [← litOf_code a (hl a ha), e, litOf_code b (hl b hb)]
theorem srt_bound {l : List Int} (h : Srt l) (hl : ∀ x ∈ l, lit x) : l.length ≤ 40002 := by
  have := nodup_bound (nodup_map_code (srt_nodup h) hl) (m := 40002) (fun x hx => by
    obtain ⟨y, hy, rfl⟩ := List.mem_map.1 hx
    exact (code_rng y (hl y hy)).2)
  simpa using this

structure RI (cl : List (List Int)) (fr set : List Int) : Prop where
  srt : Srt set
  lits : ∀ l ∈ set, lit l
  con : ∀ l ∈ set, -l ∉ set
  der : ∀ l ∈ set, Der cl fr l
theorem RI.nil (cl : List (List Int)) (fr : List Int) : RI cl fr [] := ⟨List.Pairwise.nil, by simp, by simp, by simp⟩
theorem RI.more {cl : List (List Int)} {fr set : List Int} (h : RI cl fr set) {x : Int} (hl : lit x) (h2 : -x ∉ set) (hd : Der cl fr x) : RI cl fr (put set x) := by
  refine ⟨srt_put h.srt x, fun l hm => ?_, fun l hm hn => ?_, fun l hm => ?_⟩
  · rcases (mem_put _ _ _).1 hm with hm | rfl
    · exact h.lits l hm
    · exact hl
  · rcases (mem_put _ _ _).1 hm with hm | e1 <;> rcases (mem_put _ _ _).1 hn with hn | e2
    · exact h.con l hm hn
    · rw [← e2, Int.neg_neg] at h2; exact h2 hm
    · rw [e1] at hn; exact h2 hn
    · unfold lit at hl; omega
  · rcases (mem_put _ _ _).1 hm with hm | rfl
    · exact h.der l hm
    · exact hd
theorem RI.fail {cl : List (List Int)} {fr set : List Int} (h : RI cl fr set) {x : Int} (hx : x ∈ fr) (hl : lit x) (h2 : -x ∈ set) : Clash cl fr := .inl ⟨x, .start hx hl, h.der _ h2⟩
theorem RI.len {cl : List (List Int)} {fr set : List Int} (h : RI cl fr set) : set.length ≤ 40002 := srt_bound h.srt h.lits

/-- a clause's literals that are not refuted, in order; whether one is set -/
def lefts (set c : List Int) : List Int := c.foldl (fun acc l => if lit l ∧ -l ∉ set then put acc l else acc) []
def isDone (set c : List Int) : Bool := c.any fun l => decide (lit l ∧ l ∈ set)
theorem lefts_snoc (set c : List Int) (l : Int) : lefts set (c ++ [l]) = if lit l ∧ -l ∉ set then put (lefts set c) l else lefts set c := by simp [lefts]
theorem isDone_snoc (set c : List Int) (l : Int) : isDone set (c ++ [l]) = (isDone set c || decide (lit l ∧ l ∈ set)) := by simp [isDone]
theorem mem_foldl (set : List Int) : ∀ (c acc : List Int) (x : Int), x ∈ c.foldl (fun acc l => if lit l ∧ -l ∉ set then put acc l else acc) acc ↔ x ∈ acc ∨ (x ∈ c ∧ lit x ∧ -x ∉ set)
  | [], acc, x => by simp
  | y :: c, acc, x => by
    rw [List.foldl_cons, mem_foldl set c]
    by_cases h : lit y ∧ -y ∉ set
    · rw [if_pos h, mem_put]
      constructor
      · rintro ((h1 | h1) | h1)
        · exact .inl h1
        · subst h1; exact .inr ⟨by simp, h⟩
        · exact .inr ⟨by simp [h1.1], h1.2⟩
      · rintro (h1 | ⟨h1, h2⟩)
        · exact .inl (.inl h1)
        · rcases List.mem_cons.1 h1 with h1 | h1
          · exact .inl (.inr h1)
          · exact .inr ⟨h1, h2⟩
    · rw [if_neg h]
      constructor
      · rintro (h1 | h1)
        · exact .inl h1
        · exact .inr ⟨by simp [h1.1], h1.2⟩
      · rintro (h1 | ⟨h1, h2⟩)
        · exact .inl h1
        · rcases List.mem_cons.1 h1 with h1 | h1
          · subst h1; exact absurd h2 h
          · exact .inr ⟨h1, h2⟩
theorem mem_lefts (set c : List Int) (x : Int) : x ∈ lefts set c ↔ x ∈ c ∧ lit x ∧ -x ∉ set := by
  unfold lefts; rw [mem_foldl]; simp
theorem srt_lefts (set : List Int) (c : List Int) : Srt (lefts set c) := by
  unfold lefts
  suffices h : ∀ (c acc : List Int), Srt acc → Srt (c.foldl (fun acc l => if lit l ∧ -l ∉ set then put acc l else acc) acc) from h c [] List.Pairwise.nil
  intro c
  induction c with
  | nil => intro acc h; exact h
  | cons y c ih =>
    intro acc h
    rw [List.foldl_cons]
    apply ih
    split
    · exact srt_put h y
    · exact h
theorem lits_lefts (set c : List Int) : ∀ x ∈ lefts set c, lit x := fun x hx => ((mem_lefts set c x).1 hx).2.1
theorem isDone_iff (set c : List Int) : isDone set c = true ↔ ∃ l ∈ c, lit l ∧ l ∈ set := by simp [isDone]

def ClosedC (set c : List Int) : Prop := (∃ l ∈ c, lit l ∧ l ∈ set) ∨ ∃ a ∈ c, ∃ b ∈ c, lit a ∧ lit b ∧ a ≠ b ∧ -a ∉ set ∧ -b ∉ set
theorem closed_done {set c : List Int} (h : isDone set c = true) : ClosedC set c := .inl ((isDone_iff set c).1 h)
theorem closed_two {set c : List Int} (h : 2 ≤ (lefts set c).length) : ClosedC set c := by
  have hs := srt_lefts set c
  match hL : lefts set c, h with
  | a :: b :: t, _ =>
    have ha := (mem_lefts set c a).1 (by rw [hL]; simp)
    have hb := (mem_lefts set c b).1 (by rw [hL]; simp)
    rw [hL] at hs
    have hab := (List.pairwise_cons.1 hs).1 b (by simp)
    refine .inr ⟨a, ha.1, b, hb.1, ha.2.1, hb.2.1, ?_, ha.2.2, hb.2.2⟩
    intro e; subst e; rw [less_irr] at hab; cases hab
theorem der_left {cl : List (List Int)} {fr set c : List Int} (h : RI cl fr set) (hc : c ∈ cl) {x : Int} (hx : x ∈ c) (hl : lit x) (ho : ∀ y ∈ lefts set c, y = x) : Der cl fr x := by
  refine .unit hc hx hl fun y hy hly hne => ?_
  by_cases hn : -y ∈ set
  · exact h.der _ hn
  · exact absurd (ho y ((mem_lefts set c y).2 ⟨hy, hly, hn⟩)) hne
theorem clash_none {cl : List (List Int)} {fr set c : List Int} (h : RI cl fr set) (hc : c ∈ cl) (h0 : lefts set c = []) : Clash cl fr := by
  by_cases hl : ∃ l ∈ c, lit l
  · obtain ⟨l, hm, hl⟩ := hl
    have hn : -l ∈ set := by
      by_cases hn : -l ∈ set
      · exact hn
      · have := (mem_lefts set c l).2 ⟨hm, hl, hn⟩
        rw [h0] at this; simp at this
    exact .inl ⟨l, der_left h hc hm hl (by rw [h0]; simp), h.der _ hn⟩
  · exact .inr ⟨c, hc, fun l hm h' => hl ⟨l, hm, h'⟩⟩
theorem RI.one {cl : List (List Int)} {fr set c : List Int} (h : RI cl fr set) (hc : c ∈ cl) {x : Int} (h1 : lefts set c = [x]) (hd : isDone set c = false) : RI cl fr (put set x) ∧ (put set x).length = set.length + 1 := by
  obtain ⟨hm, hl, hn⟩ := (mem_lefts set c x).1 (by rw [h1]; simp)
  refine ⟨h.more hl hn (der_left h hc hm hl (by rw [h1]; simp)), put_len fun hin => ?_⟩
  have : isDone set c = true := (isDone_iff set c).2 ⟨x, hm, hl, hin⟩
  rw [hd] at this; cases this
theorem RI.fin {cl : List (List Int)} {fr set : List Int} (h : RI cl fr set) (hf : ∀ l ∈ fr, lit l → l ∈ set) (hc : ∀ c ∈ cl, ClosedC set c) : ¬ Clash cl fr := by
  refine no_clash (fun l => l ∈ set) (fun l h1 h2 => h.con l h1 h2) hf fun c hm => ?_
  rcases hc c hm with h1 | h1
  · exact .inl h1
  · exact .inr (.inl h1)
end Go.Proofs.YtjeckkkmoabjnaaDoor.proofR
namespace Go.Proofs.YtjeckkkmoabjnaaDoor.proofN
open Go.ChangeShapes Go.WideShapes Go.ChangeAt Go.RowKit proofP proofQ owns cls
set_option linter.unusedSimpArgs false
set_option linter.unusedVariables false

theorem Is_yes (l : Int) (w : World) (hl : lit l) : Calls Tryd.prog 50 #[.int .i64 l] w fun e w' => e = .returned (.bool true) ∧ w = w' := by
  have h0 : (l != 0) = true := by simpa using hl.1
  have h1 : -20000 ≤ l := hl.2.1
  have h2 : l ≤ 20000 := hl.2.2
  clear hl
  go_enter Tryd.func50, Tryd.ntmps50
  go_wp2
  go_ret
  exact ⟨rfl, rfl⟩
theorem Is_no (l : Int) (w : World) (hl : ¬ lit l) : Calls Tryd.prog 50 #[.int .i64 l] w fun e w' => e = .returned (.bool false) ∧ w = w' := by
  by_cases h0 : l = 0
  · subst h0
    go_enter Tryd.func50, Tryd.ntmps50
    go_wp2
    go_ret
    exact ⟨rfl, rfl⟩
  · by_cases h1 : -20000 ≤ l
    · have h2 : ¬ l ≤ 20000 := fun h => hl ⟨h0, h1, h⟩
      clear hl
      go_enter Tryd.func50, Tryd.ntmps50
      go_wp2
      go_ret
      exact ⟨rfl, rfl⟩
    · clear hl
      go_enter Tryd.func50, Tryd.ntmps50
      go_wp2
      go_ret
      exact ⟨rfl, rfl⟩

/-- a slice of bools -/
def BoolsAt (w : World) (B : Nat) (v : Value) (m : List Bool) : Prop :=
  ∃ ao cap b off, v = .slice ao m.length cap ∧ m.length ≤ maxLen ∧ (m ≠ [] → ao = some ⟨b, off, none⟩ ∧ b < B) ∧ ∀ i, i < m.length → w.cell? ⟨b, off + i, none⟩ = some (.bool (m.getD i false))
theorem BoolsAt.keep {w w' : World} {B : Nat} {v : Value} {l : List Bool} (h : BoolsAt w B v l) (hb : Below B w w') : BoolsAt w' B v l := by
  obtain ⟨ao, cap, b, off, rfl, hm, ha, hc⟩ := h
  refine ⟨ao, cap, b, off, rfl, hm, ha, fun i hi => ?_⟩
  rw [hb.cell (show (⟨b, off + i, none⟩ : Addr).block < B from (ha (by intro h0; rw [h0] at hi; simp at hi)).2)]
  exact hc i hi

/-- is a literal true in a model? -/
def holds (l : Int) (m : List Bool) : Bool := decide (lit l) && (if l < 0 then decide ((m.length : Int) < -l) || !(m.getD (-l - 1).toNat false) else decide (l ≤ (m.length : Int)) && m.getD (l - 1).toNat false)
theorem holds_neg {l : Int} (m : List Bool) (hl : lit l) : (holds (-l) m = true ↔ ¬ holds l m = true) := by
  have hl' := lit_neg hl
  unfold holds
  rw [decide_eq_true hl, decide_eq_true hl', Bool.true_and, Bool.true_and]
  have h0 := hl.1
  by_cases h : l < 0
  · rw [if_pos h, if_neg (by omega)]
    by_cases h1 : (m.length : Int) < -l
    · simp [h1]; intro h2; omega
    · have h2 : -l ≤ (m.length : Int) := by omega
      simp [h1, h2]
  · rw [if_neg h, if_pos (by omega), Int.neg_neg]
    by_cases h1 : (m.length : Int) < l
    · have h2 : ¬ l ≤ (m.length : Int) := by omega
      simp [h1, h2]
    · have h2 : l ≤ (m.length : Int) := by omega
      simp [h1, h2]

set_option maxRecDepth 100000 in
set_option maxHeartbeats 1000000 in
theorem Holds_any (l : Int) (mv : Value) (m : List Bool) (w : World) (B : Nat) (hm : BoolsAt w B mv m) (hl64 : In64 l) :
    Calls Tryd.prog 29 #[.int .i64 l, mv] w fun e w' => e = .returned (.bool (holds l m)) ∧ w = w' := by
  obtain ⟨ao, cap, b, off, rfl, hml, ha, hc⟩ := hm
  unfold maxLen at hml
  by_cases hl : lit l
  · have b1 : -20000 ≤ l := hl.2.1
    have b2 : l ≤ 20000 := hl.2.2
    have b0 : l ≠ 0 := hl.1
    have HY := Lib.hid hl
    by_cases h : l < 0
    · have HE : Hid (holds l m = (decide ((m.length : Int) < -l) || !(m.getD (-l - 1).toNat false))) := Lib.hid (by unfold holds; rw [decide_eq_true hl, Bool.true_and, if_pos h])
      by_cases h1 : (m.length : Int) < -l
      · have HE2 : Hid (holds l m = true) := Lib.hid (by rw [HE.out]; simp [h1])
        clear hl ha hc HE
        go_enter Tryd.func29, Tryd.ntmps29
        go_wp2_with (go_at_call 50; refine (Is_yes _ _ HY.out).mono ?_; rintro e w' ⟨rfl, rfl⟩)
        go_ret
        exact ⟨by rw [HE2.out]; rfl, rfl⟩
      · obtain ⟨k, hk⟩ : ∃ k : Nat, l = -((k : Int) + 1) := ⟨(-l - 1).toNat, by omega⟩
        subst hk
        have hkm : k < m.length := by omega
        have HE2 : Hid (holds (-((k : Int) + 1)) m = !(m.getD k false)) := Lib.hid (by rw [HE.out, decide_eq_false (by omega), Bool.false_or, show (-(-((k : Int) + 1)) - 1).toNat = k from by omega])
        obtain ⟨rfl, hbB⟩ := ha (by intro h0; rw [h0] at hkm; simp at hkm)
        have q := hc k hkm
        have HC := Lib.hid hc
        clear hl ha hc HE
        generalize m.getD k false = r at *
        have h1' : decide ((m.length : Int) < (k : Int) + 1) = false := decide_eq_false (by omega)
        clear h1
        go_enter Tryd.func29, Tryd.ntmps29
        go_wp2_with (go_at_call 50; refine (Is_yes _ _ HY.out).mono ?_; rintro e w' ⟨rfl, rfl⟩)
        go_ret
        exact ⟨by rw [HE2.out]; rfl, rfl⟩
    · have HE : Hid (holds l m = (decide (l ≤ (m.length : Int)) && m.getD (l - 1).toNat false)) := Lib.hid (by unfold holds; rw [decide_eq_true hl, Bool.true_and, if_neg h])
      by_cases h1 : l ≤ (m.length : Int)
      · obtain ⟨k, hk⟩ : ∃ k : Nat, l = (k : Int) + 1 := ⟨(l - 1).toNat, by omega⟩
        subst hk
        have hkm : k < m.length := by omega
        have HE2 : Hid (holds ((k : Int) + 1) m = m.getD k false) := Lib.hid (by rw [HE.out, decide_eq_true h1, Bool.true_and, show ((k : Int) + 1 - 1).toNat = k from by omega])
        obtain ⟨rfl, hbB⟩ := ha (by intro h0; rw [h0] at hkm; simp at hkm)
        have q := hc k hkm
        have HC := Lib.hid hc
        clear hl ha hc HE
        generalize m.getD k false = r at *
        have h1' : decide ((k : Int) + 1 ≤ (m.length : Int)) = true := decide_eq_true (by omega)
        clear h1
        go_enter Tryd.func29, Tryd.ntmps29
        go_wp2_with (go_at_call 50; refine (Is_yes _ _ HY.out).mono ?_; rintro e w' ⟨rfl, rfl⟩)
        go_ret
        exact ⟨by rw [HE2.out]; rfl, rfl⟩
      · have HE2 : Hid (holds l m = false) := Lib.hid (by rw [HE.out]; simp [h1])
        clear hl ha hc HE
        go_enter Tryd.func29, Tryd.ntmps29
        go_wp2_with (go_at_call 50; refine (Is_yes _ _ HY.out).mono ?_; rintro e w' ⟨rfl, rfl⟩)
        go_ret
        exact ⟨by rw [HE2.out]; rfl, rfl⟩
  · have HN := Lib.hid hl
    have HE : Hid (holds l m = false) := Lib.hid (by unfold holds; rw [decide_eq_false hl, Bool.false_and])
    clear hl ha hc
    go_enter Tryd.func29, Tryd.ntmps29
    go_wp2_with (go_at_call 50; refine (Is_no _ _ HN.out).mono ?_; rintro e w' ⟨rfl, rfl⟩)
    go_ret
    exact ⟨by rw [HE.out]; rfl, rfl⟩

def trueIn (c : List Int) (m : List Bool) : Bool := c.any fun l => holds l m
def allIn (cl : List (List Int)) (m : List Bool) : Bool := cl.all fun c => trueIn c m
theorem getD_mem {α : Type} {l : List α} {k : Nat} {d : α} (h : k < l.length) : l.getD k d ∈ l := by rw [List.getD_eq_getElem?_getD, List.getElem?_eq_getElem h]; exact List.getElem_mem h

set_option maxHeartbeats 1000000 in
theorem True_any (cv mv : Value) (c : List Int) (m : List Bool) (w : World) (B B' : Nat) (hc : IntsAt w B cv c) (hm : BoolsAt w B' mv m) :
    Calls Tryd.prog 31 #[cv, mv] w fun e w' => e = .returned (.bool (trueIn c m)) ∧ w = w' := by
  have HM := Lib.hid hm
  obtain ⟨ao, cap, b, off, rfl, hcm, ha, hcell, h64⟩ := hc
  obtain ⟨am, capm, bm, offm, rfl, _, _, _⟩ := hm
  have HA := Lib.hid ha
  have HC := Lib.hid hcell
  have H64 := Lib.hid h64
  unfold maxLen at hcm
  clear ha hcell h64
  go_enter Tryd.func31, Tryd.ntmps31
  go_wp2
  go_loop [9] (fun it => ∃ k : Nat, k ≤ c.length ∧ it = .int .i64 k ∧ Hid (∀ j, j < k → holds (c.getD j 0) m = false)) (fun it => c.length - (intOf it).toNat)
  case atStart => exact ⟨0, Nat.zero_le _, rfl, Lib.hid (fun j hj => absurd hj (Nat.not_lt_zero _))⟩
  case round =>
    obtain ⟨k, hk, rfl, hg⟩ := hrel
    by_cases hlt : k < c.length
    · obtain ⟨rfl, hbB⟩ := HA.out (by intro h0; rw [h0] at hlt; simp at hlt)
      have q := HC.out k hlt
      have hin := H64.out _ (getD_mem (d := 0) hlt)
      have HH := Lib.hid (fun w' (h : w = w') => Holds_any (c.getD k 0) _ m w' B' (h ▸ HM.out) hin)
      have HT : Hid (holds (c.getD k 0) m = true → trueIn c m = true) := Lib.hid (fun h => List.any_eq_true.2 ⟨_, getD_mem hlt, h⟩)
      have HF : Hid (holds (c.getD k 0) m = false → ∀ j, j < k + 1 → holds (c.getD j 0) m = false) := Lib.hid (fun h j hj => by
        by_cases e : j = k
        · rw [e]; exact h
        · exact hg.out j (by omega))
      generalize hr : holds (c.getD k 0) m = r at *
      generalize c.getD k 0 = l at *
      clear hg hin hr
      cases r
      · have HF2 := Lib.hid (HF.out rfl)
        clear HF HT
        go_wp2_with (go_at_call 29; refine (HH.out _ rfl).mono ?_; rintro e w' ⟨rfl, rfl⟩)
        go_round
        case rel => exact ⟨k + 1, by omega, by go_num, HF2⟩
        case measure => simp [intOf]; omega
      · have HT2 := Lib.hid (HT.out rfl)
        clear HF HT
        go_wp2_with (go_at_call 29; refine (HH.out _ rfl).mono ?_; rintro e w' ⟨rfl, rfl⟩)
        go_ret
        exact ⟨by rw [HT2.out]; rfl, rfl⟩
    · obtain rfl : k = c.length := by omega
      have HE : Hid (trueIn c m = false) := Lib.hid (by
        unfold trueIn
        rw [List.any_eq_false]
        intro l hl
        obtain ⟨j, hj, rfl⟩ := List.mem_iff_getElem.1 hl
        have := hg.out j hj
        rw [List.getD_eq_getElem?_getD, List.getElem?_eq_getElem hj] at this
        simpa using this)
      clear hg
      go_wp2
      go_ret
      exact ⟨by rw [HE.out]; rfl, rfl⟩

set_option maxHeartbeats 1000000 in
theorem All_any (cv mv : Value) (cl : List (List Int)) (m : List Bool) (w : World) (B B' : Nat) (hc : ClsAt w B cv cl) (hm : BoolsAt w B' mv m) :
    Calls Tryd.prog 16 #[cv, mv] w fun e w' => e = .returned (.bool (allIn cl m)) ∧ w = w' := by
  have HM := Lib.hid hm
  obtain ⟨ao, cap, b, off, vs, rfl, hcm, ha, hcell, hn⟩ := hc
  obtain ⟨am, capm, bm, offm, rfl, _, _, _⟩ := hm
  have HA := Lib.hid ha
  have HC := Lib.hid hcell
  have HN := Lib.hid hn
  unfold maxLen at hcm
  clear ha hcell hn
  go_enter Tryd.func16, Tryd.ntmps16
  go_wp2
  go_loop [9] (fun it => ∃ k : Nat, k ≤ cl.length ∧ it = .int .i64 k ∧ Hid (∀ j, j < k → trueIn (cl.getD j []) m = true)) (fun it => cl.length - (intOf it).toNat)
  case atStart => exact ⟨0, Nat.zero_le _, rfl, Lib.hid (fun j hj => absurd hj (Nat.not_lt_zero _))⟩
  case round =>
    obtain ⟨k, hk, rfl, hg⟩ := hrel
    by_cases hlt : k < cl.length
    · obtain ⟨rfl, hbB⟩ := HA.out (by intro h0; rw [h0] at hlt; simp at hlt)
      have q := HC.out k hlt
      have HH := Lib.hid (fun w' (h : w = w') => True_any (vs k) _ (cl.getD k []) m w' B B' (h ▸ HN.out k hlt) (h ▸ HM.out))
      have HT : Hid (trueIn (cl.getD k []) m = false → allIn cl m = false) := Lib.hid (fun h => by
        rw [Bool.eq_false_iff]; intro h'
        have := List.all_eq_true.1 h' _ (getD_mem (d := []) hlt)
        rw [h] at this; cases this)
      have HF : Hid (trueIn (cl.getD k []) m = true → ∀ j, j < k + 1 → trueIn (cl.getD j []) m = true) := Lib.hid (fun h j hj => by
        by_cases e : j = k
        · rw [e]; exact h
        · exact hg.out j (by omega))
      generalize hr : trueIn (cl.getD k []) m = r at *
      clear hg hr
      cases r
      · have HT2 := Lib.hid (HT.out rfl)
        clear HF HT
        go_wp2_with (go_at_call 31; refine (HH.out _ rfl).mono ?_; rintro e w' ⟨rfl, rfl⟩)
        go_ret
        exact ⟨by rw [HT2.out]; rfl, rfl⟩
      · have HF2 := Lib.hid (HF.out rfl)
        clear HF HT
        go_wp2_with (go_at_call 31; refine (HH.out _ rfl).mono ?_; rintro e w' ⟨rfl, rfl⟩)
        go_round
        case rel => exact ⟨k + 1, by omega, by go_num, HF2⟩
        case measure => simp [intOf]; omega
    · obtain rfl : k = cl.length := by omega
      have HE : Hid (allIn cl m = true) := Lib.hid (by
        unfold allIn
        rw [List.all_eq_true]
        intro c hl
        obtain ⟨j, hj, rfl⟩ := List.mem_iff_getElem.1 hl
        have := hg.out j hj
        rw [List.getD_eq_getElem?_getD, List.getElem?_eq_getElem hj] at this
        simpa using this)
      clear hg
      go_wp2
      go_ret
      exact ⟨by rw [HE.out]; rfl, rfl⟩

def SmallP (cl : List (List Int)) (many long : Nat) (w : World) (e : Ending) (w' : World) : Prop := ∃ b : Bool, e = .returned (.bool b) ∧ w = w' ∧ (b = false → cl.length ≤ many ∧ ∀ c ∈ cl, c.length ≤ long)
set_option maxHeartbeats 1000000 in
theorem Big_any (cv : Value) (cl : List (List Int)) (many long : Nat) (w : World) (B : Nat) (hc : ClsAt w B cv cl) (h1 : many ≤ 1000) (h2 : long ≤ 1000) :
    Calls Tryd.prog 18 #[cv, .int .i64 many, .int .i64 long] w (SmallP cl many long w) := by
  obtain ⟨ao, cap, b, off, vs, rfl, hcm, ha, hcell, hn⟩ := hc
  have HA := Lib.hid ha
  have HC := Lib.hid hcell
  have HN := Lib.hid hn
  unfold maxLen at hcm
  clear ha hcell hn
  by_cases hb : many < cl.length
  · have hbI : (many : Int) < (cl.length : Int) := by omega
    go_enter Tryd.func18, Tryd.ntmps18
    go_wp2
    go_ret
    exact ⟨true, rfl, rfl, fun h => by cases h⟩
  · have hbI : ¬ (many : Int) < (cl.length : Int) := by omega
    go_enter Tryd.func18, Tryd.ntmps18
    go_wp2
    go_loop [15] (fun it => ∃ k : Nat, k ≤ cl.length ∧ it = .int .i64 k ∧ Hid (∀ j, j < k → (cl.getD j []).length ≤ long)) (fun it => cl.length - (intOf it).toNat)
    case atStart => exact ⟨0, Nat.zero_le _, rfl, Lib.hid (fun j hj => absurd hj (Nat.not_lt_zero _))⟩
    case round =>
      obtain ⟨k, hk, rfl, hg⟩ := hrel
      by_cases hlt : k < cl.length
      · obtain ⟨rfl, hbB⟩ := HA.out (by intro h0; rw [h0] at hlt; simp at hlt)
        have q := HC.out k hlt
        obtain ⟨ai, capi, bi, offi, hvi, hmi, _, _, _⟩ := HN.out k hlt
        unfold maxLen at hmi
        rw [hvi] at q
        clear hvi
        by_cases hl : long < (cl.getD k []).length
        · generalize (cl.getD k []).length = L at *
          have hlI : (long : Int) < (L : Int) := by omega
          go_wp2
          go_ret
          exact ⟨true, rfl, rfl, fun h => by cases h⟩
        · have HF : Hid (∀ j, j < k + 1 → (cl.getD j []).length ≤ long) := Lib.hid (fun j hj => by
            by_cases e : j = k
            · rw [e]; omega
            · exact hg.out j (by omega))
          generalize (cl.getD k []).length = L at *
          have hlI : ¬ (long : Int) < (L : Int) := by omega
          go_wp2
          go_round
          case rel => exact ⟨k + 1, by omega, by go_num, HF⟩
          case measure => simp [intOf]; omega
      · obtain rfl : k = cl.length := by omega
        have HE : Hid (∀ c ∈ cl, c.length ≤ long) := Lib.hid (fun c hl => by
          obtain ⟨j, hj, rfl⟩ := List.mem_iff_getElem.1 hl
          have := hg.out j hj
          rw [List.getD_eq_getElem?_getD, List.getElem?_eq_getElem hj] at this
          simpa using this)
        clear hg
        go_wp2
        go_ret
        exact ⟨false, rfl, rfl, fun _ => ⟨by omega, HE.out⟩⟩

/-- what is small -/
def Few (cl log : List (List Int)) : Prop := cl.length ≤ 30 ∧ (∀ c ∈ cl, c.length ≤ 10) ∧ log.length ≤ 12 ∧ ∀ c ∈ log, c.length ≤ 10
def FewP (cl log : List (List Int)) (w : World) (e : Ending) (w' : World) : Prop := ∃ b : Bool, e = .returned (.bool b) ∧ w = w' ∧ (b = false → Few cl log)
end Go.Proofs.YtjeckkkmoabjnaaDoor.proofN
namespace Go.Proofs.YtjeckkkmoabjnaaDoor.proofO
open Go.ChangeShapes Go.WideShapes Go.ChangeAt Go.RowKit proofP proofQ owns proofN cls
set_option linter.unusedSimpArgs false
set_option linter.unusedVariables false

theorem ints_block {w : World} {b B : Nat} {t : TypeId} {l : List Int} (h : Whole w b t (l.map (Value.int .i64))) (hb : b < B) (hl : l.length ≤ maxLen) (h64 : ∀ x ∈ l, In64 x) (cap : Nat) : IntsAt w B (.slice (some ⟨b, 0, none⟩) l.length cap) l := by
  refine ⟨_, cap, b, 0, rfl, hl, fun _ => ⟨rfl, hb⟩, fun i hi => ?_, h64⟩
  rw [Nat.zero_add, h.cell i, List.getElem?_map, List.getElem?_eq_getElem hi, List.getD_eq_getElem?_getD, List.getElem?_eq_getElem hi]; rfl
theorem cls_block {w : World} {b B : Nat} {t : TypeId} {l : List (List Int)} {vs : List Value} (h : Whole w b t vs) (hb : b < B) (hl : l.length ≤ maxLen) (hv : vs.length = l.length) (hn : ∀ i, i < l.length → IntsAt w B (vs.getD i undef) (l.getD i [])) (cap : Nat) : ClsAt w B (.slice (some ⟨b, 0, none⟩) l.length cap) l := by
  refine ⟨_, cap, b, 0, fun i => vs.getD i undef, rfl, hl, fun _ => ⟨rfl, hb⟩, fun i hi => ?_, hn⟩
  rw [Nat.zero_add, h.cell i, List.getElem?_eq_getElem (by omega)]
  dsimp only
  rw [List.getD_eq_getElem?_getD, List.getElem?_eq_getElem (by omega)]; rfl

def c12 : List (List Int) := [[1, 2], [-1, 2]]
theorem bad1 : bad c12 [[2]] = -1 := by
  refine bad_none fun j hj => ?_
  obtain rfl : j = 0 := by simp at hj; omega
  rw [pl_iff]
  have hn : Der ((c12) ++ [[2]].take 0) ([(2 : Int)].map fun l => -l) (-2) := .start (by simp) (by decide)
  have h1 : Der ((c12) ++ [[2]].take 0) ([(2 : Int)].map fun l => -l) 1 := .unit (c := [1, 2]) (by simp [c12]) (by simp) (by decide) (fun x hx _ hne => by
    simp at hx
    rcases hx with rfl | rfl
    · exact absurd rfl hne
    · exact hn)
  have h2 : Der ((c12) ++ [[2]].take 0) ([(2 : Int)].map fun l => -l) (-1) := .unit (c := [-1, 2]) (by simp [c12]) (by simp) (by decide) (fun x hx _ hne => by
    simp at hx
    rcases hx with rfl | rfl
    · exact absurd rfl hne
    · exact hn)
  exact .inl ⟨1, h1, h2⟩
theorem bad2 : bad c12 [[1]] = 0 := by
  refine bad_at (i := 0) (by simp) (fun j hj => absurd hj (Nat.not_lt_zero _)) ?_
  rw [pl_no]
  refine no_clash (fun l => l = -1 ∨ l = 2) (fun l h1 h2 => by omega) (fun l hl _ => by simp at hl; exact .inl hl) (fun c hc => ?_)
  simp [c12] at hc
  rcases hc with rfl | rfl
  · exact .inl ⟨2, by simp, by decide, .inr rfl⟩
  · exact .inl ⟨2, by simp, by decide, .inr rfl⟩

def o1 : Obj := .cells #[.int .i64 1, .int .i64 2] 3
def o2 : Obj := .cells #[.int .i64 (-1), .int .i64 2] 3
def o3 (n : Nat) : Obj := .cells #[.slice (some ⟨n, 0, none⟩) 2 2, .slice (some ⟨n + 1, 0, none⟩) 2 2] 38
def o4 (x : Int) : Obj := .cells #[.int .i64 x] 3
def o5 (n : Nat) : Obj := .cells #[.slice (some ⟨n, 0, none⟩) 1 1] 38
theorem in1 : In64 1 := by unfold In64; omega
theorem in2 : In64 2 := by unfold In64; omega
theorem inm : In64 (-1) := by unfold In64; omega

theorem world3 (w : World) : ClsAt (((w.alloc o1).alloc o2).alloc (o3 w.heap.size)) (w.heap.size + 3) (.slice (some ⟨w.heap.size + 2, 0, none⟩) 2 2) c12 := by
  have s1 : (w.alloc o1).heap.size = w.heap.size + 1 := by simp
  have s2 : ((w.alloc o1).alloc o2).heap.size = w.heap.size + 2 := by simp
  have a1 : Whole (((w.alloc o1).alloc o2).alloc (o3 w.heap.size)) w.heap.size 3 ([1, 2].map (Value.int .i64)) :=
    ((Whole.new w 3 ([1, 2].map (Value.int .i64))).below ((Below.refl _ _).alloc (Nat.le_refl _) o2) (by show w.heap.size < (w.alloc o1).heap.size; omega)).below ((Below.refl _ _).alloc (Nat.le_refl _) (o3 w.heap.size)) (by show w.heap.size < ((w.alloc o1).alloc o2).heap.size; omega)
  have a2 : Whole (((w.alloc o1).alloc o2).alloc (o3 w.heap.size)) (w.heap.size + 1) 3 ([-1, 2].map (Value.int .i64)) := by
    have := (Whole.new (w.alloc o1) 3 ([-1, 2].map (Value.int .i64))).below ((Below.refl _ _).alloc (Nat.le_refl _) (o3 w.heap.size)) (by simp)
    rw [s1] at this; exact this
  have a3 : Whole (((w.alloc o1).alloc o2).alloc (o3 w.heap.size)) (w.heap.size + 2) 38 [.slice (some ⟨w.heap.size, 0, none⟩) 2 2, .slice (some ⟨w.heap.size + 1, 0, none⟩) 2 2] := by
    have := Whole.new ((w.alloc o1).alloc o2) 38 [.slice (some ⟨w.heap.size, 0, none⟩) 2 2, .slice (some ⟨w.heap.size + 1, 0, none⟩) 2 2]
    rw [s2] at this; exact this
  refine cls_block (l := c12) a3 (by omega) (by decide) rfl (fun i hi => ?_) 2
  rcases (show i = 0 ∨ i = 1 by simp [c12] at hi; omega) with rfl | rfl
  · exact ints_block a1 (by omega) (by decide) (by intro x hx; simp at hx; rcases hx with rfl | rfl; exact in1; exact in2) 2
  · exact ints_block a2 (by omega) (by decide) (by intro x hx; simp at hx; rcases hx with rfl | rfl; exact inm; exact in2) 2
theorem world5 (w : World) (x : Int) (hx : In64 x) : ClsAt ((w.alloc (o4 x)).alloc (o5 w.heap.size)) (w.heap.size + 2) (.slice (some ⟨w.heap.size + 1, 0, none⟩) 1 1) [[x]] := by
  have s1 : (w.alloc (o4 x)).heap.size = w.heap.size + 1 := by simp
  have a1 : Whole ((w.alloc (o4 x)).alloc (o5 w.heap.size)) w.heap.size 3 ([x].map (Value.int .i64)) :=
    (Whole.new w 3 ([x].map (Value.int .i64))).below ((Below.refl _ _).alloc (Nat.le_refl _) (o5 w.heap.size)) (by show w.heap.size < (w.alloc (o4 x)).heap.size; omega)
  have a2 : Whole ((w.alloc (o4 x)).alloc (o5 w.heap.size)) (w.heap.size + 1) 38 [.slice (some ⟨w.heap.size, 0, none⟩) 1 1] := by
    have := Whole.new (w.alloc (o4 x)) 38 [.slice (some ⟨w.heap.size, 0, none⟩) 1 1]
    rw [s1] at this; exact this
  refine cls_block (l := [[x]]) a2 (by omega) (by unfold maxLen; simp) rfl (fun i hi => ?_) 1
  obtain rfl : i = 0 := by simp at hi; omega
  exact ints_block a1 (by omega) (by unfold maxLen; simp) (by intro y hy; simp at hy; rw [hy]; exact hx) 1

theorem alloc_below (w : World) (o : Obj) (B : Nat) (h : B ≤ w.heap.size) : Below B w (w.alloc o) := (Below.refl _ _).alloc h o

def SomeB (w : World) (e : Ending) (w' : World) : Prop := ∃ b : Bool, e = .returned (.bool b) ∧ w = w'
set_option maxRecDepth 100000 in
set_option maxHeartbeats 1000000 in
theorem Right_some (cv : Value) (cl : List (List Int)) (vars : Int) (w : World) (B : Nat) (hc : ClsAt w B cv cl) (h1 : 0 ≤ vars) (h2 : vars ≤ 1000) :
    Calls Tryd.prog 19 #[cv, .int .i64 vars] w (SomeB w) := by
  obtain ⟨ao, cap, b, off, vs, rfl, hcm, ha, hcell, hn⟩ := hc
  have HA := Lib.hid ha
  have HC := Lib.hid hcell
  have HN := Lib.hid hn
  unfold maxLen at hcm
  clear ha hcell hn
  go_enter Tryd.func19, Tryd.ntmps19
  go_wp2
  go_loop [11] (fun it => ∃ k : Nat, k ≤ cl.length ∧ it = .int .i64 k) (fun it => cl.length - (intOf it).toNat)
  case atStart => exact ⟨0, Nat.zero_le _, rfl⟩
  case round =>
    obtain ⟨k, hk, rfl⟩ := hrel
    by_cases hlt : k < cl.length
    · obtain ⟨rfl, hbB⟩ := HA.out (by intro h0; rw [h0] at hlt; simp at hlt)
      have q := HC.out k hlt
      obtain ⟨ai, capi, bi, offi, hvi, hmi, hai, hci, h64⟩ := HN.out k hlt
      unfold maxLen at hmi
      rw [hvi] at q
      have HAI := Lib.hid hai
      have HCI := Lib.hid hci
      have H64 := Lib.hid h64
      generalize cl.getD k [] = c at *
      clear hvi hai hci h64
      go_wp2
      go_loop [17] (fun it => ∃ j : Nat, j ≤ c.length ∧ it = .int .i64 j) (fun it => c.length - (intOf it).toNat)
      case atStart => exact ⟨0, Nat.zero_le _, rfl⟩
      case round =>
        clear q
        obtain ⟨j, hj, rfl⟩ := hrel
        by_cases hjl : j < c.length
        · obtain ⟨rfl, hbi⟩ := HAI.out (by intro h0; rw [h0] at hjl; simp at hjl)
          have q := HCI.out j hjl
          have hin := H64.out _ (getD_mem (d := 0) hjl)
          obtain ⟨i1, i2⟩ := hin
          generalize c.getD j 0 = l at *
          by_cases g0 : l = 0
          · subst g0
            go_wp2
            go_ret
            exact ⟨false, rfl, rfl⟩
          · have g0' : (l == 0) = false := by simpa using g0
            by_cases g1 : vars < l
            · clear g0
              go_wp2
              go_ret
              exact ⟨false, rfl, rfl⟩
            · by_cases g2 : l < -vars
              · clear g0
                go_wp2
                go_ret
                exact ⟨false, rfl, rfl⟩
              · clear g0
                go_wp2
                go_round
                case rel => exact ⟨j + 1, by omega, by go_num⟩
                case measure => simp [intOf]; omega
        · obtain rfl : j = c.length := by omega
          go_wp2
          go_round
          case rel => exact ⟨k + 1, by omega, by go_num⟩
          case measure => simp [intOf]; omega
    · obtain rfl : k = cl.length := by omega
      go_wp2
      go_ret
      exact ⟨true, rfl, rfl⟩

theorem snd_law {cl log : List (List Int)} (h : bad cl log = -1) (m : List Bool) (hm : allIn cl m = true) : allIn log m = true := by
  have hg : ∀ j, j < log.length → pl (cl ++ log.take j) (log.getD j []) = true := by
    rcases bad_cases cl log with ⟨_, hg⟩ | ⟨i, hi, he, _⟩
    · exact hg
    · rw [h] at he; omega
  have key : ∀ j, j ≤ log.length → ∀ c ∈ log.take j, trueIn c m = true := by
    intro j
    induction j with
    | zero => intro _ c hc; simp at hc
    | succ j ih =>
      intro hj c hc
      rw [List.take_succ_eq_append_getElem (by omega), List.mem_append] at hc
      rcases hc with hc | hc
      · exact ih (by omega) c hc
      · simp only [List.mem_singleton] at hc
        have hcd : c = log.getD j [] := by rw [hc, List.getD_eq_getElem?_getD, List.getElem?_eq_getElem (by omega)]; rfl
        by_cases ht : trueIn c m = true
        · exact ht
        · exfalso
          have hp := pl_iff.1 (hg j (by omega))
          rw [← hcd] at hp
          refine sound (fun l => holds l m = true) (fun l hl => holds_neg m hl) (fun l hl hlit => ?_) (fun d hd => ?_) hp
          · obtain ⟨x, hx, rfl⟩ := List.mem_map.1 hl
            rw [holds_neg m (lit_back hlit)]
            intro hh
            exact ht (List.any_eq_true.2 ⟨x, hx, hh⟩)
          · have hd' : trueIn d m = true := by
              rcases List.mem_append.1 hd with hd | hd
              · exact List.all_eq_true.1 hm d hd
              · exact ih (by omega) d hd
            obtain ⟨l, hl, hh⟩ := List.any_eq_true.1 hd'
            refine ⟨l, hl, ?_, hh⟩
            unfold holds at hh
            simp only [Bool.and_eq_true, decide_eq_true_eq] at hh
            exact hh.1
  exact List.all_eq_true.2 fun c hc => key log.length (Nat.le_refl _) c (by rw [List.take_length]; exact hc)
theorem bad_ge {cl log : List (List Int)} (h : bad cl log < 0) : bad cl log = -1 := by
  rcases bad_cases cl log with ⟨h1, _⟩ | ⟨i, _, h1, _⟩
  · exact h1
  · omega
theorem bools_row {w : World} {B g : Nat} {e : TypeId} {bs : List Bool} (h : w.ownsRow B e 1 (.slice (some ⟨g, 0, none⟩) bs.length bs.length) bs.length (bs.map Value.bool)) (hm : bs.length ≤ maxLen) : BoolsAt w w.heap.size (.slice (some ⟨g, 0, none⟩) bs.length bs.length) bs := by
  refine ⟨_, _, g, 0, rfl, hm, fun _ => ⟨rfl, (h.lt g rfl).2⟩, fun i hi => ?_⟩
  rw [Nat.zero_add, h.cellAt i (by omega), List.getElem?_map, List.getElem?_eq_getElem hi, List.getD_eq_getElem?_getD, List.getElem?_eq_getElem hi]; rfl

end Go.Proofs.YtjeckkkmoabjnaaDoor.proofO
