/-
  Plain: what propagation sets, which clauses are plain from others, the first clause of a log that is not.
-/
import Derived.Test.YtojjjndhabjhdaaProg
namespace Go.Proofs.Ytojjjndhabjhdaa.proofP

def lit (l : Int) : Prop := l ≠ 0 ∧ -20000 ≤ l ∧ l ≤ 20000
instance (l : Int) : Decidable (lit l) := inferInstanceAs (Decidable (_ ∧ _ ∧ _))
theorem lit_neg {l : Int} (h : lit l) : lit (-l) := by unfold lit at *; omega
theorem lit_back {l : Int} (h : lit (-l)) : lit l := by unfold lit at *; omega

inductive Der (cl : List (List Int)) (fr : List Int) : Int → Prop where
  | start {l : Int} (h : l ∈ fr) (hl : lit l) : Der cl fr l
  | unit {c : List Int} {l : Int} (hc : c ∈ cl) (h : l ∈ c) (hl : lit l) (ho : ∀ x, x ∈ c → lit x → x ≠ l → Der cl fr (-x)) : Der cl fr l

def Clash (cl : List (List Int)) (fr : List Int) : Prop := (∃ l, Der cl fr l ∧ Der cl fr (-l)) ∨ ∃ c, c ∈ cl ∧ ∀ l ∈ c, ¬ lit l
def Plain (cl : List (List Int)) (c : List Int) : Prop := Clash cl (c.map fun l => -l)
noncomputable def pl (cl : List (List Int)) (c : List Int) : Bool := @decide (Plain cl c) (Classical.propDecidable _)
theorem pl_iff {cl : List (List Int)} {c : List Int} : pl cl c = true ↔ Plain cl c := by simp [pl]
theorem pl_no {cl : List (List Int)} {c : List Int} : pl cl c = false ↔ ¬ Plain cl c := by simp [pl]

theorem Der.islit {cl : List (List Int)} {fr : List Int} {l : Int} (h : Der cl fr l) : lit l := by cases h <;> assumption
theorem Der.mono {cl cl' : List (List Int)} {fr : List Int} {l : Int} (hs : ∀ c, c ∈ cl → c ∈ cl') (h : Der cl fr l) : Der cl' fr l := by
  induction h with
  | start h hl => exact .start h hl
  | unit hc h hl _ ih => exact .unit (hs _ hc) h hl ih
theorem Der.from {cl : List (List Int)} {fr fr' : List Int} {l : Int} (hs : ∀ x, x ∈ fr → lit x → x ∈ fr') (h : Der cl fr l) : Der cl fr' l := by
  induction h with
  | start h hl => exact .start (hs _ h hl) hl
  | unit hc h hl _ ih => exact .unit hc h hl ih
theorem Clash.mono {cl cl' : List (List Int)} {fr : List Int} (hs : ∀ c, c ∈ cl → c ∈ cl') (h : Clash cl fr) : Clash cl' fr := by
  rcases h with ⟨l, h1, h2⟩ | ⟨c, hc, h⟩
  · exact .inl ⟨l, h1.mono hs, h2.mono hs⟩
  · exact .inr ⟨c, hs c hc, h⟩
theorem Clash.from {cl : List (List Int)} {fr fr' : List Int} (hs : ∀ x, x ∈ fr → lit x → x ∈ fr') (h : Clash cl fr) : Clash cl fr' := by
  rcases h with ⟨l, h1, h2⟩ | ⟨c, hc, h⟩
  · exact .inl ⟨l, h1.from hs, h2.from hs⟩
  · exact .inr ⟨c, hc, h⟩
theorem pl_mono {cl cl' : List (List Int)} {c : List Int} (hs : ∀ x, x ∈ cl → x ∈ cl') (h : pl cl c = true) : pl cl' c = true := pl_iff.2 ((pl_iff.1 h).mono hs)
theorem pl_same {cl cl' : List (List Int)} (c : List Int) (hs : ∀ x, x ∈ cl ↔ x ∈ cl') : pl cl c = pl cl' c := by
  rw [Bool.eq_iff_iff]; exact ⟨pl_mono fun x => (hs x).1, pl_mono fun x => (hs x).2⟩

/-- what is closed, and has no opposites, shows that there is no conflict -/
theorem no_clash {cl : List (List Int)} {fr : List Int} (S : Int → Prop) (hc : ∀ l, S l → S (-l) → False) (hf : ∀ l ∈ fr, lit l → S l)
    (hcl : ∀ c ∈ cl, (∃ l ∈ c, lit l ∧ S l) ∨ (∃ a ∈ c, ∃ b ∈ c, lit a ∧ lit b ∧ a ≠ b ∧ ¬ S (-a) ∧ ¬ S (-b)) ∨ (∃ a ∈ c, lit a ∧ -a ∈ c)) : ¬ Clash cl fr := by
  have key : ∀ l, Der cl fr l → S l := by
    intro l h
    induction h with
    | start h hl => exact hf _ h hl
    | @unit c l hm h hl ho ih =>
      rcases hcl c hm with ⟨x, hx, hlx, hS⟩ | ⟨a, ha, b, hb, hla, hlb, hab, h1, h2⟩ | ⟨a, ha, hla, hna⟩
      · by_cases e : x = l
        · rw [← e]; exact hS
        · exact absurd (ih x hx hlx e) (fun h' => hc x hS h')
      · by_cases e : a = l
        · exact absurd (ih b hb hlb (fun e' => hab (e.trans e'.symm))) h2
        · exact absurd (ih a ha hla e) h1
      · by_cases e : a = l
        · have := ih (-a) hna (lit_neg hla) (by unfold lit at hla; omega)
          rw [Int.neg_neg, e] at this; exact this
        · by_cases e2 : -a = l
          · rw [← e2]; exact ih a ha hla e
          · have h1 := ih a ha hla e
            have h2 := ih (-a) hna (lit_neg hla) e2
            exact (hc (-a) h1 h2).elim
  rintro (⟨l, h1, h2⟩ | ⟨c, hm, hno⟩)
  · exact hc l (key l h1) (key _ h2)
  · rcases hcl c hm with ⟨x, hx, hlx, _⟩ | ⟨a, ha, b, hb, hla, _⟩ | ⟨a, ha, hla, _⟩
    · exact hno x hx hlx
    · exact hno a ha hla
    · exact hno a ha hla

/-- in a model of clauses nothing clashes -/
theorem sound {cl : List (List Int)} {fr : List Int} (M : Int → Prop) (hm : ∀ l, lit l → (M (-l) ↔ ¬ M l)) (hf : ∀ l ∈ fr, lit l → M l) (hcl : ∀ c ∈ cl, ∃ l ∈ c, lit l ∧ M l) : ¬ Clash cl fr := by
  refine no_clash (fun l => lit l ∧ M l) ?_ (fun l h hl => ⟨hl, hf l h hl⟩) (fun c hc => ?_)
  · rintro l ⟨hl, h1⟩ ⟨_, h2⟩
    exact (hm l hl).1 h2 h1
  · obtain ⟨l, h, hl, h1⟩ := hcl c hc
    exact .inl ⟨l, h, hl, hl, h1⟩
/-- a clause is plain from clauses that it is among -/
theorem pl_self {cl : List (List Int)} {c : List Int} (h : c ∈ cl) : pl cl c = true := by
  rw [pl_iff]
  by_cases hl : ∃ l ∈ c, lit l
  · obtain ⟨l, hm, hl⟩ := hl
    have hn : ∀ x ∈ c, lit x → Der cl (c.map fun l => -l) (-x) := fun x hx hlx => .start (List.mem_map.2 ⟨x, hx, rfl⟩) (lit_neg hlx)
    exact .inl ⟨l, .unit h hm hl fun x hx hlx _ => hn x hx hlx, hn l hm hl⟩
  · exact .inr ⟨c, h, fun l hm h' => hl ⟨l, hm, h'⟩⟩
/-- two opposites in a clause -/
theorem pl_taut {cl : List (List Int)} {c : List Int} {l : Int} (h : l ∈ c) (hl : lit l) (h' : -l ∈ c) : pl cl c = true := by
  rw [pl_iff]
  refine .inl ⟨l, .start (List.mem_map.2 ⟨-l, h', Int.neg_neg l⟩) hl, .start (List.mem_map.2 ⟨l, h, rfl⟩) (lit_neg hl)⟩

/-- the place of the first clause of a log that is not plain -/
noncomputable def bad (cl log : List (List Int)) : Int :=
  match (List.range log.length).find? (fun i => !pl (cl ++ log.take i) (log.getD i [])) with
  | some i => (i : Int)
  | none => -1
theorem bad_at {cl log : List (List Int)} {i : Nat} (hi : i < log.length) (hg : ∀ j, j < i → pl (cl ++ log.take j) (log.getD j []) = true) (h : pl (cl ++ log.take i) (log.getD i []) = false) : bad cl log = (i : Int) := by
  have : (List.range log.length).find? (fun i => !pl (cl ++ log.take i) (log.getD i [])) = some i := by
    rw [List.find?_range_eq_some]
    refine ⟨by show (!pl _ _) = true; rw [h]; rfl, by simpa using hi, fun j hj => by show (!!pl _ _) = true; rw [hg j hj]; rfl⟩
  unfold bad; rw [this]
theorem bad_none {cl log : List (List Int)} (hg : ∀ j, j < log.length → pl (cl ++ log.take j) (log.getD j []) = true) : bad cl log = -1 := by
  have : (List.range log.length).find? (fun i => !pl (cl ++ log.take i) (log.getD i [])) = none := by
    rw [List.find?_eq_none]
    intro j hj
    show ¬ (!pl _ _) = true
    rw [hg j (by simpa using hj)]; simp
  unfold bad; rw [this]
theorem bad_cases (cl log : List (List Int)) : (bad cl log = -1 ∧ ∀ j, j < log.length → pl (cl ++ log.take j) (log.getD j []) = true) ∨
    ∃ i, i < log.length ∧ bad cl log = (i : Int) ∧ (∀ j, j < i → pl (cl ++ log.take j) (log.getD j []) = true) ∧ pl (cl ++ log.take i) (log.getD i []) = false := by
  cases h : (List.range log.length).find? (fun i => !pl (cl ++ log.take i) (log.getD i [])) with
  | none =>
    left
    refine ⟨by unfold bad; rw [h], fun j hj => ?_⟩
    have := (List.find?_eq_none.1 h) j (by simpa using hj)
    simpa using this
  | some i =>
    right
    rw [List.find?_range_eq_some] at h
    refine ⟨i, by simpa using h.2.1, bad_at (by simpa using h.2.1) (fun j hj => by simpa using h.2.2 j hj) (by simpa using h.1), fun j hj => by simpa using h.2.2 j hj, by simpa using h.1⟩
end Go.Proofs.Ytojjjndhabjhdaa.proofP
