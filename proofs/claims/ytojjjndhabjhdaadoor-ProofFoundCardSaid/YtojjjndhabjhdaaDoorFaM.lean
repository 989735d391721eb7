/-
  Plain: what propagation sets, which clauses are plain from others, the first clause of a log that is not.
  Plain: codes of literals, rows that are watched by two codes, what holds while propagation goes on.
  Plain: a search's trail, its levels, why its codes are true, which rows watch which codes.
  Plain: what holds while what watches a false code is gone through.
  Plain: what is learned from a row all of whose codes are false.
  Plain: a row more; the search after a conflict; the core of a refutation; what a full trail shows.
-/
import Derived.Test.YtojjjndhabjhdaaDoorProg
namespace Go.Proofs.YtojjjndhabjhdaaDoor.proofP
set_option linter.unusedSimpArgs false
set_option linter.unusedVariables false

def lit (l : Int) : Prop := l ≠ 0 ∧ -20000 ≤ l ∧ l ≤ 20000
instance (l : Int) : Decidable (lit l) := inferInstanceAs (Decidable (_ ∧ _ ∧ _))
theorem lit_neg {l : Int} (h : lit l) : lit (-l) := by unfold lit at *; omega
theorem lit_back {l : Int} (h : lit (-l)) : lit l := by unfold lit at *; omega

inductive Der (cl : List (List Int)) (fr : List Int) : Int → Prop where
  | start {l : Int} (h : l ∈ fr) (hl : lit l) : Der cl fr l
  | unit {c : List Int} {l : Int} (hc : c ∈ cl) (h : l ∈ c) (hl : lit l) (ho : ∀ x, x ∈ c → lit x → x ≠ l → Der cl fr (-x)) : Der cl fr l

def Clash (cl : List (List Int)) (fr : List Int) : Prop := (∃ l, Der cl fr l ∧ Der cl fr (-l)) ∨ ∃ c, c ∈ cl ∧ ∀ l ∈ c, ¬ lit l
def Plain (cl : List (List Int)) (c : List Int) : Prop := Clash cl (c.map fun l => -l)
noncomputable def pl (cl : List (List Int)) (c : List Int) : Bool := @decide (Plain cl c) (Classical.propDecidable _)
theorem pl_iff {cl : List (List Int)} {c : List Int} : pl cl c = true ↔ Plain cl c := by simp [pl]
theorem pl_no {cl : List (List Int)} {c : List Int} : pl cl c = false ↔ ¬ Plain cl c := by simp [pl]

theorem Der.mono {cl cl' : List (List Int)} {fr : List Int} {l : Int} (hs : ∀ c, c ∈ cl → c ∈ cl') (h : Der cl fr l) : Der cl' fr l := by
  induction h with
  | start h hl => exact .start h hl
  | unit hc h hl _ ih => exact .unit (hs _ hc) h hl ih
theorem Der.from {cl : List (List Int)} {fr fr' : List Int} {l : Int} (hs : ∀ x, x ∈ fr → lit x → x ∈ fr') (h : Der cl fr l) : Der cl fr' l := by
  induction h with
  | start h hl => exact .start (hs _ h hl) hl
  | unit hc h hl _ ih => exact .unit hc h hl ih
theorem Clash.mono {cl cl' : List (List Int)} {fr : List Int} (hs : ∀ c, c ∈ cl → c ∈ cl') (h : Clash cl fr) : Clash cl' fr := by
  rcases h with ⟨l, h1, h2⟩ | ⟨c, hc, h⟩
  · exact .inl ⟨l, h1.mono hs, h2.mono hs⟩
  · exact .inr ⟨c, hs c hc, h⟩
theorem Clash.from {cl : List (List Int)} {fr fr' : List Int} (hs : ∀ x, x ∈ fr → lit x → x ∈ fr') (h : Clash cl fr) : Clash cl fr' := by
  rcases h with ⟨l, h1, h2⟩ | ⟨c, hc, h⟩
  · exact .inl ⟨l, h1.from hs, h2.from hs⟩
  · exact .inr ⟨c, hc, h⟩
theorem pl_mono {cl cl' : List (List Int)} {c : List Int} (hs : ∀ x, x ∈ cl → x ∈ cl') (h : pl cl c = true) : pl cl' c = true := pl_iff.2 ((pl_iff.1 h).mono hs)
theorem pl_same {cl cl' : List (List Int)} (c : List Int) (hs : ∀ x, x ∈ cl ↔ x ∈ cl') : pl cl c = pl cl' c := by
  rw [Bool.eq_iff_iff]; exact ⟨pl_mono fun x => (hs x).1, pl_mono fun x => (hs x).2⟩

/-- what is closed, and has no opposites, shows that there is no conflict -/
theorem no_clash {cl : List (List Int)} {fr : List Int} (S : Int → Prop) (hc : ∀ l, S l → S (-l) → False) (hf : ∀ l ∈ fr, lit l → S l)
    (hcl : ∀ c ∈ cl, (∃ l ∈ c, lit l ∧ S l) ∨ (∃ a ∈ c, ∃ b ∈ c, lit a ∧ lit b ∧ a ≠ b ∧ ¬ S (-a) ∧ ¬ S (-b)) ∨ (∃ a ∈ c, lit a ∧ -a ∈ c)) : ¬ Clash cl fr := by
  have key : ∀ l, Der cl fr l → S l := by
    intro l h
    induction h with
    | start h hl => exact hf _ h hl
    | @unit c l hm h hl ho ih =>
      rcases hcl c hm with ⟨x, hx, hlx, hS⟩ | ⟨a, ha, b, hb, hla, hlb, hab, h1, h2⟩ | ⟨a, ha, hla, hna⟩
      · by_cases e : x = l
        · rw [← e]; exact hS
        · exact absurd (ih x hx hlx e) (fun h' => hc x hS h')
      · by_cases e : a = l
        · exact absurd (ih b hb hlb (fun e' => hab (e.trans e'.symm))) h2
        · exact absurd (ih a ha hla e) h1
      · by_cases e : a = l
        · have := ih (-a) hna (lit_neg hla) (by unfold lit at hla; omega)
          rw [Int.neg_neg, e] at this; exact this
        · by_cases e2 : -a = l
          · rw [← e2]; exact ih a ha hla e
          · have h1 := ih a ha hla e
            have h2 := ih (-a) hna (lit_neg hla) e2
            exact (hc (-a) h1 h2).elim
  rintro (⟨l, h1, h2⟩ | ⟨c, hm, hno⟩)
  · exact hc l (key l h1) (key _ h2)
  · rcases hcl c hm with ⟨x, hx, hlx, _⟩ | ⟨a, ha, b, hb, hla, _⟩ | ⟨a, ha, hla, _⟩
    · exact hno x hx hlx
    · exact hno a ha hla
    · exact hno a ha hla

/-- in a model of clauses nothing clashes -/
theorem sound {cl : List (List Int)} {fr : List Int} (M : Int → Prop) (hm : ∀ l, lit l → (M (-l) ↔ ¬ M l)) (hf : ∀ l ∈ fr, lit l → M l) (hcl : ∀ c ∈ cl, ∃ l ∈ c, lit l ∧ M l) : ¬ Clash cl fr := by
  refine no_clash (fun l => lit l ∧ M l) ?_ (fun l h hl => ⟨hl, hf l h hl⟩) (fun c hc => ?_)
  · rintro l ⟨hl, h1⟩ ⟨_, h2⟩
    exact (hm l hl).1 h2 h1
  · obtain ⟨l, h, hl, h1⟩ := hcl c hc
    exact .inl ⟨l, h, hl, hl, h1⟩
/-- a clause is plain from clauses that it is among -/
theorem pl_self {cl : List (List Int)} {c : List Int} (h : c ∈ cl) : pl cl c = true := by
  rw [pl_iff]
  by_cases hl : ∃ l ∈ c, lit l
  · obtain ⟨l, hm, hl⟩ := hl
    have hn : ∀ x ∈ c, lit x → Der cl (c.map fun l => -l) (-x) := fun x hx hlx => .start (List.mem_map.2 ⟨x, hx, rfl⟩) (lit_neg hlx)
    exact .inl ⟨l, .unit h hm hl fun x hx hlx _ => hn x hx hlx, hn l hm hl⟩
  · exact .inr ⟨c, h, fun l hm h' => hl ⟨l, hm, h'⟩⟩
/-- the place of the first clause of a log that is not plain -/
noncomputable def bad (cl log : List (List Int)) : Int :=
  match (List.range log.length).find? (fun i => !pl (cl ++ log.take i) (log.getD i [])) with
  | some i => (i : Int)
  | none => -1
theorem bad_at {cl log : List (List Int)} {i : Nat} (hi : i < log.length) (hg : ∀ j, j < i → pl (cl ++ log.take j) (log.getD j []) = true) (h : pl (cl ++ log.take i) (log.getD i []) = false) : bad cl log = (i : Int) := by
  have : (List.range log.length).find? (fun i => !pl (cl ++ log.take i) (log.getD i [])) = some i := by
    rw [List.find?_range_eq_some]
    refine ⟨by show (!pl _ _) = true; rw [h]; rfl, by simpa using hi, fun j hj => by show (!!pl _ _) = true; rw [hg j hj]; rfl⟩
  unfold bad; rw [this]
theorem bad_none {cl log : List (List Int)} (hg : ∀ j, j < log.length → pl (cl ++ log.take j) (log.getD j []) = true) : bad cl log = -1 := by
  have : (List.range log.length).find? (fun i => !pl (cl ++ log.take i) (log.getD i [])) = none := by
    rw [List.find?_eq_none]
    intro j hj
    show ¬ (!pl _ _) = true
    rw [hg j (by simpa using hj)]; simp
  unfold bad; rw [this]
theorem bad_cases (cl log : List (List Int)) : (bad cl log = -1 ∧ ∀ j, j < log.length → pl (cl ++ log.take j) (log.getD j []) = true) ∨
    ∃ i, i < log.length ∧ bad cl log = (i : Int) ∧ (∀ j, j < i → pl (cl ++ log.take j) (log.getD j []) = true) ∧ pl (cl ++ log.take i) (log.getD i []) = false := by
  cases h : (List.range log.length).find? (fun i => !pl (cl ++ log.take i) (log.getD i [])) with
  | none =>
    left
    refine ⟨by unfold bad; rw [h], fun j hj => ?_⟩
    have := (List.find?_eq_none.1 h) j (by simpa using hj)
    simpa using this
  | some i =>
    right
    rw [List.find?_range_eq_some] at h
    refine ⟨i, by simpa using h.2.1, bad_at (by simpa using h.2.1) (fun j hj => by simpa using h.2.2 j hj) (by simpa using h.1), fun j hj => by simpa using h.2.2 j hj, by simpa using h.1⟩
end Go.Proofs.YtojjjndhabjhdaaDoor.proofP
namespace Go.Proofs.YtojjjndhabjhdaaDoor.proofQ
set_option linter.unusedSimpArgs false
set_option linter.unusedVariables false
open proofP

def code (l : Int) : Nat := if l < 0 then (-2 * l).toNat else (2 * l + 1).toNat
def litOf (c : Nat) : Int := if c % 2 = 0 then -((c / 2 : Nat) : Int) else ((c / 2 : Nat) : Int)
def opp (c : Nat) : Nat := if c % 2 = 0 then c + 1 else c - 1

theorem litOf_code (l : Int) (h : lit l) : litOf (code l) = l := by
  unfold lit at h
  unfold litOf code
  by_cases h0 : l < 0
  · rw [if_pos h0, if_pos (by omega)]; omega
  · rw [if_neg h0, if_neg (by omega)]; omega
theorem code_litOf (c : Nat) (h : 2 ≤ c) : code (litOf c) = c := by
  unfold litOf code
  by_cases h0 : c % 2 = 0
  · rw [if_pos h0, if_pos (by omega)]; omega
  · rw [if_neg h0, if_neg (by omega)]; omega
theorem code_neg (l : Int) (h : lit l) : code (-l) = opp (code l) := by
  unfold lit at h
  unfold opp code
  by_cases h0 : l < 0
  · rw [if_pos h0, if_neg (by omega), if_pos (by omega)]; omega
  · rw [if_neg h0, if_pos (by omega), if_neg (by omega)]; omega
theorem code_rng (l : Int) (h : lit l) : 2 ≤ code l ∧ code l < 40002 := by
  unfold lit at h
  unfold code
  by_cases h0 : l < 0
  · rw [if_pos h0]; omega
  · rw [if_neg h0]; omega
theorem litOf_lit (c : Nat) (h : 2 ≤ c) (h' : c < 40002) : lit (litOf c) := by
  unfold lit litOf
  split <;> omega
theorem litOf_opp (c : Nat) (h : 2 ≤ c) : litOf (opp c) = - litOf c := by
  unfold litOf opp
  by_cases h0 : c % 2 = 0
  · rw [if_pos h0, if_pos h0, if_neg (by omega)]; omega
  · rw [if_neg h0, if_neg h0, if_pos (by omega)]; omega
theorem opp_opp (c : Nat) : opp (opp c) = c := by
  unfold opp
  by_cases h0 : c % 2 = 0
  · rw [if_pos h0, if_neg (by omega)]; omega
  · rw [if_neg h0, if_pos (by omega)]; omega
theorem opp_ne (c : Nat) : opp c ≠ c := by unfold opp; split <;> omega
theorem opp_rng (c : Nat) (h : 2 ≤ c) (h' : c < 40002) : 2 ≤ opp c ∧ opp c < 40002 := by unfold opp; split <;> omega
theorem opp_inj {a b : Nat} (h : opp a = opp b) : a = b := by rw [← opp_opp a, h, opp_opp]

def updN {α : Type} (f : Nat → α) (i : Nat) (x : α) : Nat → α := fun j => if j = i then x else f j
theorem updN_same {α : Type} (f : Nat → α) (i : Nat) (x : α) : updN f i x i = x := by simp [updN]
theorem updN_other {α : Type} (f : Nat → α) {i j : Nat} (x : α) (h : j ≠ i) : updN f i x j = f j := by simp [updN, h]

/-- a row holds the codes of a clause's literals -/
def RowOf (r : List Nat) (c : List Int) : Prop := ∀ x, x ∈ r ↔ ∃ l, l ∈ c ∧ lit l ∧ code l = x
theorem RowOf.rng {r : List Nat} {c : List Int} (h : RowOf r c) {x : Nat} (hx : x ∈ r) : 2 ≤ x ∧ x < 40002 := by
  obtain ⟨l, _, hl, rfl⟩ := (h x).1 hx; exact code_rng l hl
theorem RowOf.lit {r : List Nat} {c : List Int} (h : RowOf r c) {x : Nat} (hx : x ∈ r) : litOf x ∈ c ∧ proofP.lit (litOf x) := by
  obtain ⟨l, hm, hl, rfl⟩ := (h x).1 hx; rw [litOf_code l hl]; exact ⟨hm, hl⟩

def D (cl : List (List Int)) (fr : List Int) (c : Nat) : Prop := Der cl fr (litOf c)

theorem unitD {cl : List (List Int)} {fr : List Int} {r : List Nat} {c : List Int} (hr : RowOf r c) (hc : c ∈ cl) {x : Nat} (hx : x ∈ r) (ho : ∀ y ∈ r, y ≠ x → D cl fr (opp y)) : D cl fr x := by
  obtain ⟨hm, hl⟩ := hr.lit hx
  refine .unit hc hm hl fun y hy hly hne => ?_
  have hyr : code y ∈ r := (hr _).2 ⟨y, hy, hly, rfl⟩
  have := ho (code y) hyr (fun e => hne (by rw [← e, litOf_code y hly]))
  unfold D at this
  rw [litOf_opp _ (code_rng y hly).1, litOf_code y hly] at this
  exact this
theorem clashD {cl : List (List Int)} {fr : List Int} {x : Nat} (h2 : 2 ≤ x) (h : D cl fr x) (h' : D cl fr (opp x)) : Clash cl fr :=
  .inl ⟨litOf x, h, by rw [← litOf_opp x h2]; exact h'⟩

def taut (r : List Nat) : Prop := ∃ x, x ∈ r ∧ opp x ∈ r
/-- two places of a row exchanged -/
def sw (r : List Nat) (j k : Nat) : List Nat := (r.set j (r.getD k 0)).set k (r.getD j 0)
theorem sw_len (r : List Nat) (j k : Nat) : (sw r j k).length = r.length := by simp [sw]
theorem sw_get (r : List Nat) (j k i : Nat) (hj : j < r.length) (hk : k < r.length) : (sw r j k).getD i 0 = if i = k then r.getD j 0 else if i = j then r.getD k 0 else r.getD i 0 := by
  unfold sw
  simp only [List.getD_eq_getElem?_getD, List.getElem?_set, List.length_set]
  by_cases e1 : i = k
  · subst e1; simp [hk]
  · rw [if_neg (fun h => e1 h.symm), if_neg e1]
    by_cases e2 : i = j
    · subst e2; simp [hj]
    · rw [if_neg (fun h => e2 h.symm), if_neg e2]
theorem mem_get {r : List Nat} {x : Nat} : x ∈ r ↔ ∃ i, i < r.length ∧ r.getD i 0 = x := by
  rw [List.mem_iff_getElem]
  constructor
  · rintro ⟨i, h, rfl⟩; exact ⟨i, h, by rw [List.getD_eq_getElem?_getD, List.getElem?_eq_getElem h]; rfl⟩
  · rintro ⟨i, h, rfl⟩; exact ⟨i, h, by rw [List.getD_eq_getElem?_getD, List.getElem?_eq_getElem h]; rfl⟩
theorem get_mem {r : List Nat} {i : Nat} (h : i < r.length) : r.getD i 0 ∈ r := mem_get.2 ⟨i, h, rfl⟩
theorem sw_mem (r : List Nat) (j k : Nat) (hj : j < r.length) (hk : k < r.length) (x : Nat) : x ∈ sw r j k ↔ x ∈ r := by
  rw [mem_get, mem_get, sw_len]
  constructor
  · rintro ⟨i, hi, rfl⟩
    rw [sw_get r j k i hj hk]
    split
    · exact ⟨j, hj, rfl⟩
    · split
      · exact ⟨k, hk, rfl⟩
      · exact ⟨i, hi, rfl⟩
  · rintro ⟨i, hi, rfl⟩
    by_cases e1 : i = k
    · subst e1
      by_cases e2 : j = i
      · subst e2; exact ⟨j, hj, by rw [sw_get r j j j hj hk, if_pos rfl]⟩
      · exact ⟨j, hj, by rw [sw_get r j i j hj hk, if_neg e2, if_pos rfl]⟩
    · by_cases e2 : i = j
      · subst e2; exact ⟨k, hk, by rw [sw_get r i k k hj hk, if_pos rfl]⟩
      · exact ⟨i, hi, by rw [sw_get r j k i hj hk, if_neg e1, if_neg e2]⟩
theorem nodup_get {r : List Nat} : r.Nodup ↔ ∀ i j, i < r.length → j < r.length → r.getD i 0 = r.getD j 0 → i = j := by
  constructor
  · intro h i j hi hj e
    rw [List.getD_eq_getElem?_getD, List.getElem?_eq_getElem hi, List.getD_eq_getElem?_getD, List.getElem?_eq_getElem hj] at e
    exact (List.getElem?_inj hi h).1 (by rw [List.getElem?_eq_getElem hi, List.getElem?_eq_getElem hj]; simpa using e)
  · intro h
    rw [List.Nodup, List.pairwise_iff_getElem]
    intro i j hi hj hij e
    have := h i j hi hj (by rw [List.getD_eq_getElem?_getD, List.getElem?_eq_getElem hi, List.getD_eq_getElem?_getD, List.getElem?_eq_getElem hj, e])
    omega
theorem sw_nodup (r : List Nat) (j k : Nat) (hj : j < r.length) (hk : k < r.length) (h : r.Nodup) : (sw r j k).Nodup := by
  rw [nodup_get] at h ⊢
  intro a b ha hb e
  rw [sw_len] at ha hb
  rw [sw_get r j k a hj hk, sw_get r j k b hj hk] at e
  split at e <;> split at e <;> try split at e
  all_goals (try split at e)
  all_goals first
    | omega
    | (have h1 := h _ _ (by omega) (by omega) e; omega)

structure TI (trail : List Nat) : Prop where
  nd : trail.Nodup
  rng : ∀ x, x ∈ trail → 2 ≤ x ∧ x < 40002
  con : ∀ x, x ∈ trail → opp x ∉ trail
theorem TI.nil : TI [] := ⟨List.nodup_nil, by simp, by simp⟩
theorem TI.snoc {trail : List Nat} (h : TI trail) {x : Nat} (hx : 2 ≤ x ∧ x < 40002) (h1 : x ∉ trail) (h2 : opp x ∉ trail) : TI (trail ++ [x]) := by
  refine ⟨?_, ?_, ?_⟩
  · rw [List.nodup_append]
    refine ⟨h.nd, by simp, ?_⟩
    intro a ha b hb e
    simp at hb; subst hb; subst e; exact h1 ha
  · intro y hy
    rcases List.mem_append.1 hy with hy | hy
    · exact h.rng y hy
    · simp at hy; subst hy; exact hx
  · intro y hya hna
    rcases List.mem_append.1 hya with hy | hy <;> rcases List.mem_append.1 hna with hn | hn
    · exact h.con y hy hn
    · simp at hn; rw [← hn, opp_opp] at h2; exact h2 hy
    · simp at hy; rw [hy] at hn; exact h2 hn
    · simp at hy hn; rw [hy] at hn; exact opp_ne x hn
theorem nodup_bound {l : List Nat} (h : l.Nodup) {m : Nat} (hm : ∀ x, x ∈ l → x < m) : l.length ≤ m := by
  have := h.length_le_of_subset (l₂ := List.range m) (fun x hx => List.mem_range.2 (hm x hx))
  simpa using this
theorem TI.len {trail : List Nat} (h : TI trail) : trail.length ≤ 40002 := nodup_bound h.nd fun x hx => (h.rng x hx).2
/-- what a code's value is -/
def val (trail : List Nat) (x : Nat) : Int := if x ∈ trail then 1 else if opp x ∈ trail then -1 else 0
theorem val_pos {trail : List Nat} {x : Nat} (h : x ∈ trail) : val trail x = 1 := by unfold val; rw [if_pos h]
theorem val_neg {trail : List Nat} {x : Nat} (h : x ∉ trail) (h' : opp x ∈ trail) : val trail x = -1 := by unfold val; rw [if_neg h, if_pos h']
theorem val_zero {trail : List Nat} {x : Nat} (h : x ∉ trail) (h' : opp x ∉ trail) : val trail x = 0 := by unfold val; rw [if_neg h, if_neg h']

structure SI (n : Nat) (row W : Nat → List Nat) : Prop where
  nd : ∀ c, (W c).Nodup
  rd : ∀ i, i < n → (row i).Nodup
  wat : ∀ c i, i ∈ W c → i < n ∧ 2 ≤ (row i).length ∧ ((row i).getD 0 0 = c ∨ (row i).getD 1 0 = c)
  has : ∀ i, i < n → 2 ≤ (row i).length → ¬ taut (row i) → i ∈ W ((row i).getD 0 0) ∧ i ∈ W ((row i).getD 1 0)

theorem taut_sw {r : List Nat} {j k : Nat} (hj : j < r.length) (hk : k < r.length) : taut (sw r j k) ↔ taut r := by
  unfold taut
  constructor
  · rintro ⟨x, h1, h2⟩; exact ⟨x, (sw_mem r j k hj hk x).1 h1, (sw_mem r j k hj hk _).1 h2⟩
  · rintro ⟨x, h1, h2⟩; exact ⟨x, (sw_mem r j k hj hk x).2 h1, (sw_mem r j k hj hk _).2 h2⟩

theorem SI.swap {n : Nat} {row W : Nat → List Nat} (h : SI n row W) {i : Nat} (h2 : 2 ≤ (row i).length) : SI n (updN row i (sw (row i) 0 1)) W := by
  have g0 : (sw (row i) 0 1).getD 0 0 = (row i).getD 1 0 := by rw [sw_get _ 0 1 0 (by omega) (by omega)]; simp
  have g1 : (sw (row i) 0 1).getD 1 0 = (row i).getD 0 0 := by rw [sw_get _ 0 1 1 (by omega) (by omega)]; simp
  refine ⟨h.nd, fun j hj => ?_, fun c j hj => ?_, fun j hj hl ht => ?_⟩
  · by_cases e : j = i
    · subst e; rw [updN_same]; exact sw_nodup _ _ _ (by omega) (by omega) (h.rd j hj)
    · rw [updN_other _ _ e]; exact h.rd j hj
  · obtain ⟨a, b, c'⟩ := h.wat c j hj
    by_cases e : j = i
    · subst e; rw [updN_same, sw_len, g0, g1]; exact ⟨a, b, c'.symm⟩
    · rw [updN_other _ _ e]; exact ⟨a, b, c'⟩
  · by_cases e : j = i
    · subst e
      rw [updN_same] at hl ht ⊢
      rw [sw_len] at hl
      rw [taut_sw (by omega) (by omega)] at ht
      rw [g0, g1]
      exact (h.has j hj hl ht).symm
    · rw [updN_other _ _ e] at hl ht ⊢; exact h.has j hj hl ht

/-- rows that are on: satisfied, or watched by codes that are not false by what was followed -/
def PI (n : Nat) (row : Nat → List Nat) (on : Nat → Bool) (trail : List Nat) (head : Nat) : Prop :=
  ∀ i, i < n → on i = true → 2 ≤ (row i).length → ¬ taut (row i) → (∃ c, c ∈ row i ∧ c ∈ trail) ∨ ∀ j, j < 2 → opp ((row i).getD j 0) ∉ trail.take head
def PL (n : Nat) (row : Nat → List Nat) (on : Nat → Bool) (trail : List Nat) (head lost : Nat) (rest : List Nat) : Prop :=
  ∀ i, i < n → on i = true → 2 ≤ (row i).length → ¬ taut (row i) → (∃ c, c ∈ row i ∧ c ∈ trail) ∨ ∀ j, j < 2 → opp ((row i).getD j 0) ∉ trail.take head ∧ ((row i).getD j 0 = lost → i ∈ rest)

/-- while what watches a code is followed: kept rows, and the rest -/
structure FI (n : Nat) (on : Nat → Bool) (cls : Nat → List Int) (cl : List (List Int)) (fr : List Int) (row W : Nat → List Nat) (trail : List Nat) (head lost : Nat) (kept rest : List Nat) : Prop where
  si : SI n row (updN W lost (kept ++ rest))
  pi : PL n row on trail head lost rest
  ti : TI trail
  dv : ∀ x, x ∈ trail → D cl fr x
  hl : head < trail.length
  hd : trail.getD head 0 = opp lost
  ro : ∀ i, i < n → RowOf (row i) (cls i)
  on : ∀ i, i < n → on i = true → cls i ∈ cl

section
variable {n : Nat} {on : Nat → Bool} {cls : Nat → List Int} {cl : List (List Int)} {fr : List Int} {row W : Nat → List Nat} {trail : List Nat} {head lost i k : Nat} {kept rest : List Nat}

theorem FI.lostIn (h : FI n on cls cl fr row W trail head lost kept rest) : opp lost ∈ trail := by rw [← h.hd]; exact get_mem h.hl
theorem FI.at (h : FI n on cls cl fr row W trail head lost kept (i :: rest)) : i < n ∧ 2 ≤ (row i).length ∧ ((row i).getD 0 0 = lost ∨ (row i).getD 1 0 = lost) :=
  h.si.wat lost i (by rw [updN_same]; simp)
theorem FI.swap (h : FI n on cls cl fr row W trail head lost kept (i :: rest)) : FI n on cls cl fr (updN row i (sw (row i) 0 1)) W trail head lost kept (i :: rest) := by
  obtain ⟨hi, h2, _⟩ := h.at
  have g0 : (sw (row i) 0 1).getD 0 0 = (row i).getD 1 0 := by rw [sw_get _ 0 1 0 (by omega) (by omega)]; simp
  have g1 : (sw (row i) 0 1).getD 1 0 = (row i).getD 0 0 := by rw [sw_get _ 0 1 1 (by omega) (by omega)]; simp
  refine ⟨h.si.swap h2, fun j hj hon hl ht => ?_, h.ti, h.dv, h.hl, h.hd, fun j hj => ?_, h.on⟩
  · by_cases e : j = i
    · subst e
      rw [updN_same] at hl ht ⊢
      rw [sw_len] at hl
      rw [taut_sw (by omega) (by omega)] at ht
      rcases h.pi j hj hon hl ht with ⟨c, h1, h3⟩ | h1
      · exact .inl ⟨c, (sw_mem _ _ _ (by omega) (by omega) c).2 h1, h3⟩
      · right
        intro q hq
        rcases (show q = 0 ∨ q = 1 by omega) with rfl | rfl
        · rw [g0]; exact h1 1 (by omega)
        · rw [g1]; exact h1 0 (by omega)
    · rw [updN_other _ _ e] at hl ht ⊢; exact h.pi j hj hon hl ht
  · by_cases e : j = i
    · subst e; rw [updN_same]; intro x; rw [sw_mem _ _ _ (by omega) (by omega)]; exact h.ro j hj x
    · rw [updN_other _ _ e]; exact h.ro j hj
theorem FI.keep (h : FI n on cls cl fr row W trail head lost kept (i :: rest)) (hk : on i = false ∨ (row i).getD 0 0 ∈ trail) : FI n on cls cl fr row W trail head lost (kept ++ [i]) rest := by
  obtain ⟨hi, h2, _⟩ := h.at
  refine ⟨by rw [List.append_assoc]; exact h.si, fun j hj hon hl ht => ?_, h.ti, h.dv, h.hl, h.hd, h.ro, h.on⟩
  by_cases e : j = i
  · subst e
    rcases hk with hk | hk
    · rw [hk] at hon; cases hon
    · exact .inl ⟨_, get_mem (by omega), hk⟩
  · rcases h.pi j hj hon hl ht with h1 | h1
    · exact .inl h1
    · right
      intro q hq
      refine ⟨(h1 q hq).1, fun hh => ?_⟩
      rcases List.mem_cons.1 ((h1 q hq).2 hh) with h' | h'
      · exact absurd h' e
      · exact h'
theorem FI.unit (h : FI n on cls cl fr row W trail head lost kept (i :: rest)) (hon : on i = true) (h1 : (row i).getD 1 0 = lost) (hm : ∀ k, 2 ≤ k → k < (row i).length → opp ((row i).getD k 0) ∈ trail) : D cl fr ((row i).getD 0 0) := by
  obtain ⟨hi, h2, _⟩ := h.at
  refine unitD (h.ro i hi) (h.on i hi hon) (get_mem (by omega)) fun y hy hne => ?_
  obtain ⟨k, hk, rfl⟩ := mem_get.1 hy
  refine h.dv _ ?_
  by_cases e0 : k = 0
  · subst e0; exact absurd rfl hne
  · by_cases e1 : k = 1
    · subst e1; rw [h1]; exact h.lostIn
    · exact hm k (by omega) hk
theorem FI.fail (h : FI n on cls cl fr row W trail head lost kept (i :: rest)) (hon : on i = true) (h1 : (row i).getD 1 0 = lost) (hm : ∀ k, 2 ≤ k → k < (row i).length → opp ((row i).getD k 0) ∈ trail) (h0 : opp ((row i).getD 0 0) ∈ trail) : Clash cl fr :=
  clashD ((h.ro i h.at.1).rng (get_mem (by have := h.at.2.1; omega))).1 (h.unit hon h1 hm) (h.dv _ h0)
theorem FI.push (h : FI n on cls cl fr row W trail head lost kept (i :: rest)) (hon : on i = true) (h1 : (row i).getD 1 0 = lost) (hm : ∀ k, 2 ≤ k → k < (row i).length → opp ((row i).getD k 0) ∈ trail)
    (h0 : (row i).getD 0 0 ∉ trail) (h0' : opp ((row i).getD 0 0) ∉ trail) : FI n on cls cl fr row W (trail ++ [(row i).getD 0 0]) head lost (kept ++ [i]) rest := by
  obtain ⟨hi, h2, _⟩ := h.at
  have hD := h.unit hon h1 hm
  have hhl := h.hl
  have htk : (trail ++ [(row i).getD 0 0]).take head = trail.take head := List.take_append_of_le_length (by omega)
  refine ⟨by rw [List.append_assoc]; exact h.si, fun j hj hon' hl ht => ?_, h.ti.snoc ((h.ro i hi).rng (get_mem (by omega))) h0 h0', ?_, by simp; omega, ?_, h.ro, h.on⟩
  · by_cases e : j = i
    · subst e; exact .inl ⟨(row j).getD 0 0, get_mem (by omega), by simp⟩
    · rcases h.pi j hj hon' hl ht with ⟨c, hc, hc'⟩ | hq
      · exact .inl ⟨c, hc, by simp [hc']⟩
      · right
        intro q hqq
        rw [htk]
        refine ⟨(hq q hqq).1, fun hh => ?_⟩
        rcases List.mem_cons.1 ((hq q hqq).2 hh) with h' | h'
        · exact absurd h' e
        · exact h'
  · intro x hx
    rcases List.mem_append.1 hx with hx | hx
    · exact h.dv x hx
    · simp only [List.mem_singleton] at hx; rw [hx]; exact hD
  · rw [← h.hd]; simp only [List.getD_eq_getElem?_getD]; rw [List.getElem?_append_left hhl]

theorem FI.move (h : FI n on cls cl fr row W trail head lost kept (i :: rest)) (h1 : (row i).getD 1 0 = lost) (hk : 2 ≤ k) (hkl : k < (row i).length) (hc : opp ((row i).getD k 0) ∉ trail) :
    FI n on cls cl fr (updN row i (sw (row i) 1 k)) (updN W ((row i).getD k 0) (W ((row i).getD k 0) ++ [i])) trail head lost kept rest := by
  obtain ⟨hi, h2, _⟩ := h.at
  have hnd := nodup_get.1 (h.si.rd i hi)
  have g0 : (sw (row i) 1 k).getD 0 0 = (row i).getD 0 0 := by rw [sw_get _ 1 k 0 (by omega) hkl, if_neg (by omega), if_neg (by omega)]
  have g1 : (sw (row i) 1 k).getD 1 0 = (row i).getD k 0 := by rw [sw_get _ 1 k 1 (by omega) hkl, if_neg (by omega), if_pos rfl]
  generalize hcode : (row i).getD k 0 = code at *
  have n0 : (row i).getD 0 0 ≠ code := by rw [← hcode]; intro e; have := hnd 0 k (by omega) hkl e; omega
  have n1 : lost ≠ code := by rw [← hcode, ← h1]; intro e; have := hnd 1 k (by omega) hkl e; omega
  have n01 : (row i).getD 0 0 ≠ lost := by rw [← h1]; intro e; have := hnd 0 1 (by omega) (by omega) e; omega
  have hWc : updN W lost (kept ++ (i :: rest)) code = W code := updN_other _ _ (fun e => n1 e.symm)
  have hni : i ∉ W code := by
    intro hin
    rw [← hWc] at hin
    have hh := (h.si.wat code i hin).2.2
    rw [h1] at hh
    rcases hh with hh | hh
    · exact n0 hh
    · exact n1 hh
  have hnl : (kept ++ i :: rest).Nodup := by have := h.si.nd lost; rw [updN_same] at this; exact this
  have hnl' : (kept ++ rest).Nodup := hnl.sublist (List.Sublist.append (List.Sublist.refl _) (List.sublist_cons_self _ _))
  have hni2 : i ∉ kept ++ rest := by
    rw [List.nodup_append] at hnl
    intro hin
    rcases List.mem_append.1 hin with hin | hin
    · exact hnl.2.2 i hin i (by simp) rfl
    · exact (List.nodup_cons.1 hnl.2.1).1 hin
  have hW : ∀ c, (c = lost → updN (updN W code (W code ++ [i])) lost (kept ++ rest) c = kept ++ rest) ∧ (c = code → updN (updN W code (W code ++ [i])) lost (kept ++ rest) c = W code ++ [i]) ∧
      (c ≠ lost → c ≠ code → updN (updN W code (W code ++ [i])) lost (kept ++ rest) c = updN W lost (kept ++ i :: rest) c) := by
    intro c
    refine ⟨fun e => by rw [e, updN_same], fun e => ?_, fun e1 e2 => ?_⟩
    · rw [e, updN_other _ _ (fun e => n1 e.symm), updN_same]
    · rw [updN_other _ _ e1, updN_other _ _ e2, updN_other _ _ e1]
  -- for another row: in the new list iff in the old one
  have hoth : ∀ c j, j ≠ i → (j ∈ updN (updN W code (W code ++ [i])) lost (kept ++ rest) c ↔ j ∈ updN W lost (kept ++ i :: rest) c) := by
    intro c j hj
    by_cases e1 : c = lost
    · rw [(hW c).1 e1, e1, updN_same]
      simp [hj]
    · by_cases e2 : c = code
      · rw [(hW c).2.1 e2, e2, hWc]; simp [hj]
      · rw [(hW c).2.2 e1 e2]
  refine ⟨⟨fun c => ?_, fun j hj => ?_, fun c j hj => ?_, fun j hj hl ht => ?_⟩, fun j hj hon hl ht => ?_, h.ti, h.dv, h.hl, h.hd, fun j hj => ?_, h.on⟩
  · by_cases e1 : c = lost
    · rw [(hW c).1 e1]; exact hnl'
    · by_cases e2 : c = code
      · rw [(hW c).2.1 e2, List.nodup_append]
        refine ⟨by have := h.si.nd code; rw [hWc] at this; exact this, by simp, ?_⟩
        intro a ha b hb e
        simp at hb; subst hb; subst e; exact hni ha
      · rw [(hW c).2.2 e1 e2]; exact h.si.nd c
  · by_cases e : j = i
    · subst e; rw [updN_same]; exact sw_nodup _ _ _ (by omega) hkl (h.si.rd j hj)
    · rw [updN_other _ _ e]; exact h.si.rd j hj
  · by_cases e : j = i
    · subst e
      rw [updN_same, sw_len, g0, g1]
      refine ⟨hi, h2, ?_⟩
      by_cases e1 : c = lost
      · rw [(hW c).1 e1] at hj; exact absurd hj hni2
      · by_cases e2 : c = code
        · exact .inr e2.symm
        · rw [(hW c).2.2 e1 e2] at hj
          rcases (h.si.wat c j hj).2.2 with h' | h'
          · exact .inl h'
          · rw [h1] at h'; exact absurd h'.symm e1
    · rw [updN_other _ _ e]; exact h.si.wat c j ((hoth c j e).1 hj)
  · by_cases e : j = i
    · subst e
      rw [updN_same] at hl ht ⊢
      rw [sw_len] at hl
      rw [taut_sw (by omega) hkl] at ht
      rw [g0, g1, (hW code).2.1 rfl, (hW _).2.2 n01 n0]
      exact ⟨(h.si.has j hj hl ht).1, by simp⟩
    · rw [updN_other _ _ e] at hl ht ⊢
      rw [hoth _ _ e, hoth _ _ e]
      exact h.si.has j hj hl ht
  · by_cases e : j = i
    · subst e
      rw [updN_same] at hl ht ⊢
      rw [sw_len] at hl
      rw [taut_sw (by omega) hkl] at ht
      rcases h.pi j hj hon hl ht with ⟨c, hc1, hc2⟩ | hq
      · exact .inl ⟨c, (sw_mem _ _ _ (by omega) hkl c).2 hc1, hc2⟩
      · right
        intro q hqq
        rcases (show q = 0 ∨ q = 1 by omega) with rfl | rfl
        · rw [g0]; exact ⟨(hq 0 (by omega)).1, fun e => absurd e n01⟩
        · rw [g1]; exact ⟨fun hin => hc (List.mem_of_mem_take hin), fun e => absurd e.symm n1⟩
    · rw [updN_other _ _ e] at hl ht ⊢
      rcases h.pi j hj hon hl ht with hq | hq
      · exact .inl hq
      · right
        intro q hqq
        refine ⟨(hq q hqq).1, fun hh => ?_⟩
        rcases List.mem_cons.1 ((hq q hqq).2 hh) with h' | h'
        · exact absurd h' e
        · exact h'
  · by_cases e : j = i
    · subst e; rw [updN_same]; intro x; rw [sw_mem _ _ _ (by omega) hkl]; exact h.ro j hj x
    · rw [updN_other _ _ e]; exact h.ro j hj
theorem FI.done (h : FI n on cls cl fr row W trail head lost kept []) : PI n row on trail (head + 1) := by
  intro i hi hon hl ht
  rcases h.pi i hi hon hl ht with h1 | h1
  · exact .inl h1
  · right
    intro j hj
    have hhl := h.hl
    have hhd := h.hd
    rw [List.take_succ_eq_append_getElem hhl, List.mem_append]
    rintro (hin | hin)
    · exact (h1 j hj).1 hin
    · simp only [List.mem_singleton] at hin
      rw [List.getD_eq_getElem?_getD, List.getElem?_eq_getElem hhl, Option.getD_some, ← hin] at hhd
      have := (h1 j hj).2 (opp_inj hhd)
      simp at this
end

/-- what is followed to the end without a conflict is closed -/
theorem closed {n : Nat} {on : Nat → Bool} {cls : Nat → List Int} {cl : List (List Int)} {fr : List Int} {row : Nat → List Nat} {trail : List Nat} (T : TI trail) (ro : ∀ i, i < n → RowOf (row i) (cls i)) (rd : ∀ i, i < n → (row i).Nodup)
    (hcl : ∀ c, c ∈ cl → ∃ i, i < n ∧ on i = true ∧ cls i = c) (hfr : ∀ l, l ∈ fr → lit l → code l ∈ trail) (hs : ∀ i, i < n → on i = true → (row i).length < 2 → ∃ x, x ∈ row i ∧ x ∈ trail)
    (hp : PI n row on trail trail.length) : ¬ Clash cl fr := by
  refine no_clash (fun l => lit l ∧ code l ∈ trail) ?_ (fun l h hl => ⟨hl, hfr l h hl⟩) (fun c hc => ?_)
  · rintro l ⟨hl, h1⟩ ⟨_, h2⟩
    rw [code_neg l hl] at h2
    exact T.con _ h1 h2
  · obtain ⟨i, hi, hon, rfl⟩ := hcl c hc
    have sat : ∀ x, x ∈ row i → x ∈ trail → ∃ l ∈ cls i, lit l ∧ (lit l ∧ code l ∈ trail) := by
      intro x hx hxt
      obtain ⟨hm, hl⟩ := (ro i hi).lit hx
      exact ⟨_, hm, hl, hl, by rw [code_litOf x ((ro i hi).rng hx).1]; exact hxt⟩
    by_cases h2 : 2 ≤ (row i).length
    · by_cases ht : taut (row i)
      · obtain ⟨x, hx, hx'⟩ := ht
        obtain ⟨hm, hl⟩ := (ro i hi).lit hx
        obtain ⟨hm', _⟩ := (ro i hi).lit hx'
        rw [litOf_opp x ((ro i hi).rng hx).1] at hm'
        exact .inr (.inr ⟨_, hm, hl, hm'⟩)
      · rcases hp i hi hon h2 ht with ⟨x, hx, hxt⟩ | hq
        · exact .inl (sat x hx hxt)
        · rw [List.take_length] at hq
          have m0 : (row i).getD 0 0 ∈ row i := get_mem (by omega)
          have m1 : (row i).getD 1 0 ∈ row i := get_mem (by omega)
          obtain ⟨a1, a2⟩ := (ro i hi).lit m0
          obtain ⟨b1, b2⟩ := (ro i hi).lit m1
          have r0 := ((ro i hi).rng m0).1
          have r1 := ((ro i hi).rng m1).1
          refine .inr (.inl ⟨_, a1, _, b1, a2, b2, ?_, ?_, ?_⟩)
          · intro e
            have := congrArg code e
            rw [code_litOf _ r0, code_litOf _ r1] at this
            have := nodup_get.1 (rd i hi) 0 1 (by omega) (by omega) this
            omega
          · rintro ⟨_, h⟩
            rw [code_neg _ a2, code_litOf _ r0] at h
            exact hq 0 (by omega) h
          · rintro ⟨_, h⟩
            rw [code_neg _ b2, code_litOf _ r1] at h
            exact hq 1 (by omega) h
    · obtain ⟨x, hx, hxt⟩ := hs i hi hon (by omega)
      exact .inl (sat x hx hxt)
end Go.Proofs.YtojjjndhabjhdaaDoor.proofQ
namespace Go.Proofs.YtojjjndhabjhdaaDoor.satP
set_option linter.unusedSimpArgs false
set_option linter.unusedVariables false
open proofP proofQ

theorem opp_half (x : Nat) : opp x / 2 = x / 2 := by unfold opp; split <;> omega
theorem half_eq {x y : Nat} (h : x / 2 = y / 2) : x = y ∨ x = opp y := by unfold opp; split <;> omega
theorem opp_rng2 {V x : Nat} (h : 2 ≤ x ∧ x < 2 * V + 2) : 2 ≤ opp x ∧ opp x < 2 * V + 2 := by unfold opp; split <;> omega

/-- the trail and its levels -/
structure Base (V : Nat) (trail starts : List Nat) (lvl : Nat → Nat) : Prop where
  nd : trail.Nodup
  rng : ∀ x, x ∈ trail → 2 ≤ x ∧ x < 2 * V + 2
  con : ∀ x, x ∈ trail → opp x ∉ trail
  mono : ∀ (j k a b : Nat), starts[j]? = some a → starts[k]? = some b → j ≤ k → a ≤ b
  le : ∀ s, s ∈ starts → s ≤ trail.length
  lv : ∀ (p x : Nat), trail[p]? = some x → ∀ j, j < lvl (x / 2) ↔ ∃ s, starts[j]? = some s ∧ s ≤ p

section
variable {V : Nat} {trail starts : List Nat} {lvl : Nat → Nat}
theorem mem_at {l : List Nat} {x : Nat} : x ∈ l ↔ ∃ p : Nat, l[p]? = some x := List.mem_iff_getElem?
theorem at_lt {α : Type} {l : List α} {p : Nat} {x : α} (h : l[p]? = some x) : p < l.length := (List.getElem?_eq_some_iff.1 h).1
theorem take_at {α : Type} {l : List α} {q p : Nat} {x : α} : (l.take q)[p]? = some x ↔ p < q ∧ l[p]? = some x := by
  rw [List.getElem?_take]
  by_cases h : p < q
  · simp [h]
  · simp [h]
theorem mem_take {l : List Nat} {q x : Nat} : x ∈ l.take q ↔ ∃ p : Nat, p < q ∧ l[p]? = some x := by
  rw [mem_at]
  constructor
  · rintro ⟨p, h⟩; exact ⟨p, take_at.1 h⟩
  · rintro ⟨p, h⟩; exact ⟨p, take_at.2 h⟩
theorem snoc_at {α : Type} {l : List α} {y x : α} {p : Nat} : (l ++ [y])[p]? = some x ↔ (l[p]? = some x ∨ (p = l.length ∧ x = y)) := by
  rw [List.getElem?_append]
  split
  · rename_i h
    constructor
    · exact .inl
    · rintro (h' | ⟨h', _⟩)
      · exact h'
      · omega
  · rename_i h
    constructor
    · intro h'
      by_cases e : p = l.length
      · subst e; simp at h'; exact .inr ⟨rfl, h'.symm⟩
      · rw [List.getElem?_eq_none (by simp; omega)] at h'; cases h'
    · rintro (h' | ⟨h', h''⟩)
      · exact absurd (at_lt h') h
      · subst h'; subst h''; simp
theorem take_snoc {l : List Nat} {y q : Nat} (h : q ≤ l.length) : (l ++ [y]).take q = l.take q := List.take_append_of_le_length h

theorem Base.at_inj (h : Base V trail starts lvl) {p q x : Nat} (h1 : trail[p]? = some x) (h2 : trail[q]? = some x) : p = q :=
  (List.getElem?_inj (at_lt h1) h.nd).1 (h1.trans h2.symm)
theorem Base.at_var (h : Base V trail starts lvl) {p q x y : Nat} (h1 : trail[p]? = some x) (h2 : trail[q]? = some y) (e : x / 2 = y / 2) : p = q ∧ x = y := by
  rcases half_eq e with e' | e'
  · subst e'; exact ⟨h.at_inj h1 h2, rfl⟩
  · exact absurd (mem_at.2 ⟨p, h1⟩) (by rw [e']; exact h.con _ (mem_at.2 ⟨q, h2⟩))
theorem Base.lv_le (h : Base V trail starts lvl) {p x : Nat} (hp : trail[p]? = some x) : lvl (x / 2) ≤ starts.length := by
  by_cases e : lvl (x / 2) ≤ starts.length
  · exact e
  · obtain ⟨s, hs, _⟩ := (h.lv p x hp starts.length).1 (by omega)
    exact absurd (at_lt hs) (by omega)
/-- what stands ahead has no higher level -/
theorem Base.lv_mono (h : Base V trail starts lvl) {p q x y : Nat} (hp : trail[p]? = some x) (hq : trail[q]? = some y) (hpq : p ≤ q) : lvl (x / 2) ≤ lvl (y / 2) := by
  by_cases e : lvl (x / 2) ≤ lvl (y / 2)
  · exact e
  · obtain ⟨s, hs, hle⟩ := (h.lv p x hp (lvl (y / 2))).1 (by omega)
    have := (h.lv q y hq (lvl (y / 2))).2 ⟨s, hs, by omega⟩
    omega
/-- a level is at most b just if its place is ahead of where the next one starts -/
theorem Base.lv_cut (h : Base V trail starts lvl) {p x b t : Nat} (hp : trail[p]? = some x) (hb : starts[b]? = some t) : lvl (x / 2) ≤ b ↔ p < t := by
  constructor
  · intro hle
    by_cases e : p < t
    · exact e
    · have := (h.lv p x hp b).2 ⟨t, hb, by omega⟩; omega
  · intro hlt
    by_cases e : lvl (x / 2) ≤ b
    · exact e
    · obtain ⟨s, hs, hle⟩ := (h.lv p x hp b).1 (by omega)
      rw [hb] at hs; cases hs; omega
theorem Base.lv_top (h : Base V trail starts lvl) {p x : Nat} (hp : trail[p]? = some x) (hs : ∀ s, s ∈ starts → s ≤ p) : lvl (x / 2) = starts.length := by
  have h1 := h.lv_le hp
  by_cases e : lvl (x / 2) = starts.length
  · exact e
  · have hlt : lvl (x / 2) < starts.length := by omega
    have := (h.lv p x hp (lvl (x / 2))).2 ⟨starts[lvl (x / 2)], List.getElem?_eq_getElem hlt, hs _ (List.getElem_mem hlt)⟩
    omega
theorem Base.len (h : Base V trail starts lvl) : trail.length ≤ V := by
  have hnd : (trail.map fun x => x / 2 - 1).Nodup := by
    rw [List.Nodup, List.pairwise_iff_getElem]
    intro i j hi hj hij e
    simp only [List.length_map] at hi hj
    simp only [List.getElem_map] at e
    have a := h.rng _ (List.getElem_mem hi)
    have b := h.rng _ (List.getElem_mem hj)
    have := (h.at_var (List.getElem?_eq_getElem hi) (List.getElem?_eq_getElem hj) (by omega)).1
    omega
  have := nodup_bound hnd (m := V) (fun x hx => by
    obtain ⟨y, hy, rfl⟩ := List.mem_map.1 hx
    have := h.rng y hy; omega)
  simpa using this
theorem Base.nil (V : Nat) (lvl : Nat → Nat) : Base V [] [] lvl := ⟨List.nodup_nil, by simp, by simp, by simp, by simp, by simp⟩
theorem Base.set (h : Base V trail starts lvl) {x : Nat} (hx : 2 ≤ x ∧ x < 2 * V + 2) (h1 : x ∉ trail) (h2 : opp x ∉ trail) : Base V (trail ++ [x]) starts (updN lvl (x / 2) starts.length) := by
  refine ⟨?_, ?_, ?_, h.mono, ?_, ?_⟩
  · rw [List.nodup_append]
    refine ⟨h.nd, by simp, ?_⟩
    intro a ha b hb e
    simp at hb; subst hb; subst e; exact h1 ha
  · intro y hy
    rcases List.mem_append.1 hy with hy | hy
    · exact h.rng y hy
    · simp at hy; subst hy; exact hx
  · intro y hya hna
    rcases List.mem_append.1 hya with hy | hy <;> rcases List.mem_append.1 hna with hn | hn
    · exact h.con y hy hn
    · simp at hn; rw [← hn, opp_opp] at h2; exact h2 hy
    · simp at hy; rw [hy] at hn; exact h2 hn
    · simp at hy hn; rw [hy] at hn; exact opp_ne x hn
  · intro s hs; have := h.le s hs; simp; omega
  · intro p y hp j
    rcases snoc_at.1 hp with hq | ⟨rfl, rfl⟩
    · have hne : y / 2 ≠ x / 2 := by
        intro e
        rcases half_eq e with e' | e'
        · rw [e'] at hq; exact h1 (mem_at.2 ⟨p, hq⟩)
        · rw [e'] at hq; exact h2 (mem_at.2 ⟨p, hq⟩)
      rw [updN_other _ _ hne]
      exact h.lv p y hq j
    · rw [updN_same]
      constructor
      · intro hj; exact ⟨starts[j], List.getElem?_eq_getElem hj, h.le _ (List.getElem_mem hj)⟩
      · rintro ⟨s, hs, _⟩; exact at_lt hs
theorem Base.start (h : Base V trail starts lvl) : Base V trail (starts ++ [trail.length]) lvl := by
  refine ⟨h.nd, h.rng, h.con, ?_, ?_, ?_⟩
  · intro j k a b ha hb hjk
    rcases snoc_at.1 ha with ha | ⟨rfl, rfl⟩ <;> rcases snoc_at.1 hb with hb | ⟨rfl, rfl⟩
    · exact h.mono j k a b ha hb hjk
    · exact h.le _ (mem_at.2 ⟨j, ha⟩)
    · exact absurd (at_lt hb) (by omega)
    · exact Nat.le_refl _
  · intro s hs
    rcases List.mem_append.1 hs with hs | hs
    · exact h.le s hs
    · simp at hs; omega
  · intro p x hp j
    rw [h.lv p x hp j]
    constructor
    · rintro ⟨s, hs, hle⟩; exact ⟨s, snoc_at.2 (.inl hs), hle⟩
    · rintro ⟨s, hs, hle⟩
      rcases snoc_at.1 hs with hs | ⟨rfl, rfl⟩
      · exact ⟨s, hs, hle⟩
      · have := at_lt hp; omega
theorem Base.back (h : Base V trail starts lvl) {b t : Nat} (hb : starts[b]? = some t) : Base V (trail.take t) (starts.take b) lvl := by
  refine ⟨h.nd.sublist (List.take_sublist _ _), fun x hx => h.rng x (List.mem_of_mem_take hx), fun x hx hn => h.con x (List.mem_of_mem_take hx) (List.mem_of_mem_take hn), ?_, ?_, ?_⟩
  · intro j k a c ha hc hjk
    exact h.mono j k a c (take_at.1 ha).2 (take_at.1 hc).2 hjk
  · intro s hs
    obtain ⟨j, hj, hs⟩ := mem_take.1 hs
    have h1 := h.mono j b s t hs hb (by omega)
    have h2 := h.le t (mem_at.2 ⟨b, hb⟩)
    simp; omega
  · intro p x hp j
    obtain ⟨hpt, hp⟩ := take_at.1 hp
    rw [h.lv p x hp j]
    constructor
    · rintro ⟨s, hs, hle⟩
      refine ⟨s, take_at.2 ⟨?_, hs⟩, hle⟩
      by_cases e : j < b
      · exact e
      · have := h.mono b j t s hb hs (by omega); omega
    · rintro ⟨s, hs, hle⟩; exact ⟨s, (take_at.1 hs).2, hle⟩
end

/-- why codes are true: a row whose other codes are false by what stands ahead; or a clause alone; or a decision -/
def Why (n : Nat) (row : Nat → List Nat) (cl : List (List Int)) (trail starts : List Nat) (lvl : Nat → Nat) (rsn : Nat → Option Nat) : Prop :=
  ∀ p x, trail[p]? = some x → (∃ i, rsn (x / 2) = some i ∧ i < n ∧ 0 < (row i).length ∧ (row i).getD 0 0 = x ∧ ∀ y, y ∈ row i → y ≠ x → opp y ∈ trail.take p) ∨
    (rsn (x / 2) = none ∧ ((lvl (x / 2) = 0 ∧ D cl [] x) ∨ p ∈ starts))

/-- rows are clauses -/
structure Rows (V n : Nat) (row : Nat → List Nat) (cls : Nat → List Int) (cl : List (List Int)) : Prop where
  nd : ∀ i, i < n → (row i).Nodup
  two : ∀ i, i < n → 2 ≤ (row i).length
  rng : ∀ i, i < n → ∀ x, x ∈ row i → 2 ≤ x ∧ x < 2 * V + 2
  nt : ∀ i, i < n → ¬ taut (row i)
  of : ∀ i, i < n → RowOf (row i) (cls i)
  mem : ∀ i, i < n → cls i ∈ cl
/-- who watches what -/
structure Wat (n : Nat) (row : Nat → List Nat) (gone : Nat → Bool) (W : Nat → List Nat) : Prop where
  nd : ∀ c, (W c).Nodup
  wat : ∀ c i, i ∈ W c → i < n ∧ ((row i).getD 0 0 = c ∨ (row i).getD 1 0 = c)
  has : ∀ i, i < n → gone i = false → i ∈ W ((row i).getD 0 0) ∧ i ∈ W ((row i).getD 1 0)
/-- a watched code that is false, by what was followed, has a true one beside it, of no higher level -/
def Pro (n : Nat) (row : Nat → List Nat) (gone : Nat → Bool) (trail : List Nat) (head : Nat) (lvl : Nat → Nat) : Prop :=
  ∀ i, i < n → gone i = false → ∀ j, j < 2 → opp ((row i).getD j 0) ∈ trail.take head → (row i).getD (1 - j) 0 ∈ trail ∧ lvl ((row i).getD (1 - j) 0 / 2) ≤ lvl ((row i).getD j 0 / 2)

theorem D.mono {cl cl' : List (List Int)} {fr : List Int} {c : Nat} (hs : ∀ x, x ∈ cl → x ∈ cl') (h : D cl fr c) : D cl' fr c := Der.mono hs h
theorem D.from {cl : List (List Int)} {fr fr' : List Int} {c : Nat} (hs : ∀ x, x ∈ fr → lit x → x ∈ fr') (h : D cl fr c) : D cl fr' c := Der.from hs h
theorem D.any {cl : List (List Int)} {fr : List Int} {c : Nat} (h : D cl [] c) : D cl fr c := D.from (by simp) h
theorem Why.mono {n n' : Nat} {row : Nat → List Nat} {cl cl' : List (List Int)} {trail starts : List Nat} {lvl : Nat → Nat} {rsn : Nat → Option Nat} (h : Why n row cl trail starts lvl rsn) (hs : ∀ x, x ∈ cl → x ∈ cl') (hn : n ≤ n') : Why n' row cl' trail starts lvl rsn := by
  intro p x hp
  rcases h p x hp with ⟨i, h1, h2, h3⟩ | ⟨h1, ⟨h2, h3⟩ | h2⟩
  · exact .inl ⟨i, h1, by omega, h3⟩
  · exact .inr ⟨h1, .inl ⟨h2, D.mono hs h3⟩⟩
  · exact .inr ⟨h1, .inr h2⟩

section
variable {V n : Nat} {row : Nat → List Nat} {gone : Nat → Bool} {W : Nat → List Nat} {cls : Nat → List Int} {cl : List (List Int)} {trail starts : List Nat} {lvl : Nat → Nat} {rsn : Nat → Option Nat} {head : Nat}
theorem Rows.mono {cl' : List (List Int)} (h : Rows V n row cls cl) (hs : ∀ x, x ∈ cl → x ∈ cl') : Rows V n row cls cl' := ⟨h.nd, h.two, h.rng, h.nt, h.of, fun i hi => hs _ (h.mem i hi)⟩
/-- two codes of a row change places -/
theorem Rows.sw (h : Rows V n row cls cl) {i j k : Nat} (hj : j < (row i).length) (hk : k < (row i).length) : Rows V n (updN row i (sw (row i) j k)) cls cl := by
  refine ⟨fun q hq => ?_, fun q hq => ?_, fun q hq => ?_, fun q hq => ?_, fun q hq => ?_, h.mem⟩ <;> by_cases e : q = i
  · subst e; rw [updN_same]; exact sw_nodup _ _ _ hj hk (h.nd q hq)
  · rw [updN_other _ _ e]; exact h.nd q hq
  · subst e; rw [updN_same, sw_len]; exact h.two q hq
  · rw [updN_other _ _ e]; exact h.two q hq
  · subst e; rw [updN_same]; intro x hx; exact h.rng q hq x ((sw_mem _ _ _ hj hk x).1 hx)
  · rw [updN_other _ _ e]; exact h.rng q hq
  · subst e; rw [updN_same, taut_sw hj hk]; exact h.nt q hq
  · rw [updN_other _ _ e]; exact h.nt q hq
  · subst e; rw [updN_same]; intro x; rw [sw_mem _ _ _ hj hk]; exact h.of q hq x
  · rw [updN_other _ _ e]; exact h.of q hq
/-- .. where neither is the first: what it is a reason of stays so -/
theorem Why.sw (h : Why n row cl trail starts lvl rsn) (hR : Rows V n row cls cl) {i j k : Nat} (hj : j < (row i).length) (hk : k < (row i).length) (h0 : (row i).getD 0 0 ∉ trail ∨ (sw (row i) j k).getD 0 0 = (row i).getD 0 0) : Why n (updN row i (proofQ.sw (row i) j k)) cl trail starts lvl rsn := by
  intro p x hp
  rcases h p x hp with ⟨q, h1, h2, h3, h4, h5⟩ | h1
  · left
    refine ⟨q, h1, h2, ?_⟩
    by_cases e : q = i
    · subst e
      rw [updN_same, sw_len]
      rcases h0 with h0 | h0
      · rw [h4] at h0; exact absurd (mem_at.2 ⟨p, hp⟩) h0
      · exact ⟨h3, h0.trans h4, fun y hy => h5 y ((sw_mem _ _ _ hj hk y).1 hy)⟩
    · rw [updN_other _ _ e]; exact ⟨h3, h4, h5⟩
  · exact .inr h1
/-- what is true of level 0 follows from the clauses -/
theorem Why.zero (h : Why n row cl trail starts lvl rsn) (hB : Base V trail starts lvl) (hR : Rows V n row cls cl) : ∀ (p x : Nat), trail[p]? = some x → lvl (x / 2) = 0 → D cl [] x := by
  intro p
  induction p using Nat.strongRecOn with
  | ind p ih =>
    intro x hp h0
    rcases h p x hp with ⟨i, h1, h2, h3, h4, h5⟩ | ⟨h1, ⟨h2, h3⟩ | h2⟩
    · subst h4
      refine unitD (hR.of i h2) (hR.mem i h2) (get_mem h3) fun y hy hne => ?_
      obtain ⟨q, hq, hqy⟩ := mem_take.1 (h5 y hy hne)
      refine ih q hq _ hqy ?_
      have := hB.lv_mono hqy hp (by omega)
      omega
    · exact h3
    · obtain ⟨j, hj⟩ := mem_at.1 h2
      have := (hB.lv p x hp j).2 ⟨p, hj, Nat.le_refl _⟩
      omega
theorem Why.set (h : Why n row cl trail starts lvl rsn) (hB : Base V trail starts lvl) {x : Nat} {r : Option Nat} (h1 : x ∉ trail) (h2 : opp x ∉ trail)
    (hr : (∃ i, r = some i ∧ i < n ∧ 0 < (row i).length ∧ (row i).getD 0 0 = x ∧ ∀ y, y ∈ row i → y ≠ x → opp y ∈ trail) ∨ (r = none ∧ ((starts = [] ∧ D cl [] x) ∨ trail.length ∈ starts))) :
    Why n row cl (trail ++ [x]) starts (updN lvl (x / 2) starts.length) (updN rsn (x / 2) r) := by
  intro p y hp
  rcases snoc_at.1 hp with hq | ⟨rfl, rfl⟩
  · have hne : y / 2 ≠ x / 2 := by
      intro e
      rcases half_eq e with e' | e'
      · rw [e'] at hq; exact h1 (mem_at.2 ⟨p, hq⟩)
      · rw [e'] at hq; exact h2 (mem_at.2 ⟨p, hq⟩)
    rw [updN_other _ _ hne, updN_other _ _ hne, take_snoc (by have := at_lt hq; omega)]
    exact h p y hq
  · rw [updN_same, updN_same, take_snoc (Nat.le_refl _), List.take_length]
    rcases hr with ⟨i, h3⟩ | ⟨h3, ⟨h4, h5⟩ | h4⟩
    · exact .inl ⟨i, h3⟩
    · exact .inr ⟨h3, .inl ⟨by rw [h4]; rfl, h5⟩⟩
    · exact .inr ⟨h3, .inr h4⟩
theorem Why.start (h : Why n row cl trail starts lvl rsn) : Why n row cl trail (starts ++ [trail.length]) lvl rsn := by
  intro p x hp
  rcases h p x hp with h1 | ⟨h1, h2 | h2⟩
  · exact .inl h1
  · exact .inr ⟨h1, .inl h2⟩
  · exact .inr ⟨h1, .inr (List.mem_append_left _ h2)⟩
/-- what is taken back is reasonless; whatever else is so of reasons that were known -/
theorem Why.back (h : Why n row cl trail starts lvl rsn) (hB : Base V trail starts lvl) {b t : Nat} (hb : starts[b]? = some t) {rsn' : Nat → Option Nat} (hr : ∀ p x, trail[p]? = some x → p < t → rsn' (x / 2) = rsn (x / 2)) : Why n row cl (trail.take t) (starts.take b) lvl rsn' := by
  intro p x hp
  obtain ⟨hpt, hp⟩ := take_at.1 hp
  rw [hr p x hp hpt]
  have htt : (trail.take t).take p = trail.take p := by rw [List.take_take]; congr 1; omega
  rcases h p x hp with ⟨i, h1, h2, h3, h4, h5⟩ | ⟨h1, h2 | h2⟩
  · exact .inl ⟨i, h1, h2, h3, h4, by rw [htt]; exact h5⟩
  · exact .inr ⟨h1, .inl h2⟩
  · refine .inr ⟨h1, .inr ?_⟩
    obtain ⟨j, hj⟩ := mem_at.1 h2
    refine mem_take.2 ⟨j, ?_, hj⟩
    by_cases e : j < b
    · exact e
    · have := hB.mono b j t p hb hj (by omega); omega
theorem Pro.back (h : Pro n row gone trail head lvl) (hB : Base V trail starts lvl) {b t : Nat} (hb : starts[b]? = some t) (hh : t ≤ head) : Pro n row gone (trail.take t) t lvl := by
  intro i hi hg j hj ho
  obtain ⟨p, hp, hop⟩ := mem_take.1 ho
  obtain ⟨hpt, hop⟩ := take_at.1 hop
  obtain ⟨h1, h2⟩ := h i hi hg j hj (mem_take.2 ⟨p, by omega, hop⟩)
  refine ⟨?_, h2⟩
  obtain ⟨q, hq⟩ := mem_at.1 h1
  refine mem_take.2 ⟨q, ?_, hq⟩
  have h3 := (hB.lv_cut hop hb).2 hpt
  rw [opp_half] at h3
  exact (hB.lv_cut hq hb).1 (by omega)
theorem Pro.forget (h : Pro n row gone trail head lvl) {gone' : Nat → Bool} (hg : ∀ i, gone' i = false → gone i = false) : Pro n row gone' trail head lvl := fun i hi hgi => h i hi (hg i hgi)
theorem Wat.forget (h : Wat n row gone W) {gone' : Nat → Bool} (hg : ∀ i, gone' i = false → gone i = false) : Wat n row gone' W := ⟨h.nd, h.wat, fun i hi hgi => h.has i hi (hg i hgi)⟩
end

/-- how far a search has come: the places that no level starts with -/
def msr (V : Nat) (starts : List Nat) : Nat → Nat
  | 0 => 0
  | p + 1 => msr V starts p + if p ∈ starts then 0 else 2 ^ (V - 1 - p)
theorem msr_le (V : Nat) (starts : List Nat) (q : Nat) : ∀ d, q + d ≤ V → msr V starts (q + d) + 2 ^ (V - (q + d)) ≤ msr V starts q + 2 ^ (V - q) := by
  intro d
  induction d with
  | zero => intro _; exact Nat.le_refl _
  | succ d ih =>
    intro h
    have := ih (by omega)
    have e : 2 ^ (V - (q + d)) = 2 ^ (V - (q + (d + 1))) + 2 ^ (V - (q + (d + 1))) := by
      rw [show V - (q + d) = (V - (q + (d + 1))) + 1 from by omega, Nat.pow_succ]; omega
    have e2 : V - 1 - (q + d) = V - (q + (d + 1)) := by omega
    have : msr V starts (q + (d + 1)) ≤ msr V starts (q + d) + 2 ^ (V - (q + (d + 1))) := by
      show msr V starts (q + d) + (if (q + d) ∈ starts then 0 else 2 ^ (V - 1 - (q + d))) ≤ _
      rw [e2]
      generalize 2 ^ (V - (q + (d + 1))) = z
      split <;> omega
    omega
theorem msr_lt (V : Nat) (starts : List Nat) (n : Nat) (h : n ≤ V) : msr V starts n < 2 ^ V := by
  have := msr_le V starts 0 n (by omega)
  simp only [Nat.zero_add, msr, Nat.sub_zero] at this
  have : 0 < 2 ^ (V - n) := Nat.pow_pos (by omega)
  omega
theorem msr_congr {V : Nat} {s s' : List Nat} (n : Nat) (h : ∀ p, p < n → (p ∈ s ↔ p ∈ s')) : msr V s n = msr V s' n := by
  induction n with
  | zero => rfl
  | succ n ih =>
    show msr V s n + _ = msr V s' n + _
    rw [ih fun p hp => h p (by omega)]
    have := h n (by omega)
    by_cases e : n ∈ s
    · rw [if_pos e, if_pos (this.1 e)]
    · rw [if_neg e, if_neg (fun e' => e (this.2 e'))]
theorem msr_mono (V : Nat) (starts : List Nat) (q d : Nat) : msr V starts q ≤ msr V starts (q + d) := by
  induction d with
  | zero => exact Nat.le_refl _
  | succ d ih => exact Nat.le_trans ih (Nat.le_add_right _ _)
/-- a conflict leaves the measure greater -/
theorem msr_learn {V : Nat} {trail starts : List Nat} {lvl : Nat → Nat} (h : Base V trail starts lvl) {b t : Nat} (hb : starts[b]? = some t) (ht : t < trail.length) (hn : t ∉ starts.take b) : msr V starts trail.length < msr V (starts.take b) (t + 1) := by
  have hl := h.len
  have h1 := msr_le V starts (t + 1) (trail.length - (t + 1)) (by omega)
  rw [show t + 1 + (trail.length - (t + 1)) = trail.length from by omega] at h1
  have h2 : msr V starts (t + 1) = msr V starts t := by
    show _ + _ = _
    rw [if_pos (mem_at.2 ⟨b, hb⟩)]; rfl
  have h3 : msr V (starts.take b) (t + 1) = msr V starts t + 2 ^ (V - 1 - t) := by
    show _ + _ = _
    rw [if_neg hn]
    congr 1
    refine msr_congr _ fun p hp => ⟨fun h' => List.mem_of_mem_take h', fun h' => ?_⟩
    obtain ⟨j, hj⟩ := mem_at.1 h'
    refine mem_take.2 ⟨j, ?_, hj⟩
    by_cases e : j < b
    · exact e
    · have := h.mono b j t p hb hj (by omega); omega
  have h4 : 0 < 2 ^ (V - trail.length) := Nat.pow_pos (by omega)
  rw [show V - (t + 1) = V - 1 - t from by omega] at h1
  omega
end Go.Proofs.YtojjjndhabjhdaaDoor.satP
namespace Go.Proofs.YtojjjndhabjhdaaDoor.satQ
set_option linter.unusedSimpArgs false
set_option linter.unusedVariables false
open proofP proofQ satP

/-- where the place is h, the code that is false there lost; i, still in the rest, wasn't looked at -/
def Look (n : Nat) (row : Nat → List Nat) (gone : Nat → Bool) (trail : List Nat) (h lost : Nat) (rest : List Nat) (lvl : Nat → Nat) : Prop :=
  ∀ i, i < n → gone i = false → ∀ j, j < 2 → opp ((row i).getD j 0) ∈ trail.take (h + 1) → ((row i).getD j 0 = lost ∧ i ∈ rest) ∨ ((row i).getD (1 - j) 0 ∈ trail ∧ lvl ((row i).getD (1 - j) 0 / 2) ≤ lvl ((row i).getD j 0 / 2))

structure Fol (V n : Nat) (gone : Nat → Bool) (cls : Nat → List Int) (cl : List (List Int)) (starts : List Nat) (h lost : Nat) (row W : Nat → List Nat) (trail : List Nat) (lvl : Nat → Nat) (rsn : Nat → Option Nat) (kept rest : List Nat) : Prop where
  B : Base V trail starts lvl
  R : Rows V n row cls cl
  Y : Why n row cl trail starts lvl rsn
  wt : Wat n row gone (updN W lost (kept ++ rest))
  lk : Look n row gone trail h lost rest lvl
  hl : trail[h]? = some (opp lost)
  top : ∀ s, s ∈ starts → s ≤ h

section
variable {V n : Nat} {gone : Nat → Bool} {cls : Nat → List Int} {cl : List (List Int)} {starts : List Nat} {h lost : Nat} {row W : Nat → List Nat} {trail : List Nat} {lvl : Nat → Nat} {rsn : Nat → Option Nat} {kept rest : List Nat} {i k : Nat}

theorem Fol.lostIn (f : Fol V n gone cls cl starts h lost row W trail lvl rsn kept rest) : opp lost ∈ trail := mem_at.2 ⟨h, f.hl⟩
theorem Fol.lostOut (f : Fol V n gone cls cl starts h lost row W trail lvl rsn kept rest) : lost ∉ trail := fun e => f.B.con _ e f.lostIn
theorem Fol.lostLv (f : Fol V n gone cls cl starts h lost row W trail lvl rsn kept rest) : lvl (lost / 2) = starts.length := by
  have := f.B.lv_top f.hl f.top
  rwa [opp_half] at this
theorem Fol.at (f : Fol V n gone cls cl starts h lost row W trail lvl rsn kept (i :: rest)) : i < n ∧ 2 ≤ (row i).length ∧ ((row i).getD 0 0 = lost ∨ (row i).getD 1 0 = lost) := by
  have := f.wt.wat lost i (by rw [updN_same]; simp)
  exact ⟨this.1, f.R.two i this.1, this.2⟩
theorem Fol.lvLe (f : Fol V n gone cls cl starts h lost row W trail lvl rsn kept rest) {x : Nat} (hx : x ∈ trail) : lvl (x / 2) ≤ lvl (lost / 2) := by
  rw [f.lostLv]
  obtain ⟨p, hp⟩ := mem_at.1 hx
  exact f.B.lv_le hp
/-- a row that is gone is let go -/
theorem Fol.drop (f : Fol V n gone cls cl starts h lost row W trail lvl rsn kept (i :: rest)) (hg : gone i = true) : Fol V n gone cls cl starts h lost row W trail lvl rsn kept rest := by
  have hsub : ∀ c j, j ∈ updN W lost (kept ++ rest) c → j ∈ updN W lost (kept ++ i :: rest) c := by
    intro c j hj
    by_cases e : c = lost
    · subst e; rw [updN_same] at hj ⊢; simp at hj ⊢; rcases hj with h | h <;> simp [h]
    · rw [updN_other _ _ e] at hj ⊢; exact hj
  have hoth : ∀ c j, gone j = false → j ∈ updN W lost (kept ++ i :: rest) c → j ∈ updN W lost (kept ++ rest) c := by
    intro c j hgj hj
    have hne : j ≠ i := by intro e; subst e; rw [hg] at hgj; cases hgj
    by_cases e : c = lost
    · subst e; rw [updN_same] at hj ⊢; simpa [hne] using hj
    · rw [updN_other _ _ e] at hj ⊢; exact hj
  refine ⟨f.B, f.R, f.Y, ⟨fun c => ?_, fun c j hj => f.wt.wat c j (hsub c j hj), fun j hj hgj => ⟨hoth _ j hgj (f.wt.has j hj hgj).1, hoth _ j hgj (f.wt.has j hj hgj).2⟩⟩, fun j hj hgj q hq ho => ?_, f.hl, f.top⟩
  · have h1 := f.wt.nd c
    by_cases e : c = lost
    · subst e
      rw [updN_same] at h1 ⊢
      exact h1.sublist (List.Sublist.append (List.Sublist.refl _) (List.sublist_cons_self _ _))
    · rw [updN_other _ _ e] at h1 ⊢; exact h1
  · rcases f.lk j hj hgj q hq ho with ⟨h1, h2⟩ | h1
    · refine .inl ⟨h1, ?_⟩
      rcases List.mem_cons.1 h2 with h2 | h2
      · subst h2; rw [hg] at hgj; cases hgj
      · exact h2
    · exact .inr h1
/-- its first two codes change places -/
theorem Fol.swap (f : Fol V n gone cls cl starts h lost row W trail lvl rsn kept (i :: rest)) (h0 : (row i).getD 0 0 = lost) : Fol V n gone cls cl starts h lost (updN row i (sw (row i) 0 1)) W trail lvl rsn kept (i :: rest) := by
  obtain ⟨hi, h2, _⟩ := f.at
  have g0 : (sw (row i) 0 1).getD 0 0 = (row i).getD 1 0 := by rw [sw_get _ 0 1 0 (by omega) (by omega)]; simp
  have g1 : (sw (row i) 0 1).getD 1 0 = (row i).getD 0 0 := by rw [sw_get _ 0 1 1 (by omega) (by omega)]; simp
  refine ⟨f.B, f.R.sw (by omega) (by omega), f.Y.sw f.R (by omega) (by omega) (.inl (by rw [h0]; exact f.lostOut)), ⟨f.wt.nd, fun c j hj => ?_, fun j hj hg => ?_⟩, fun j hj hg q hq => ?_, f.hl, f.top⟩
  · obtain ⟨a, b⟩ := f.wt.wat c j hj
    by_cases e : j = i
    · subst e; rw [updN_same, g0, g1]; exact ⟨a, b.symm⟩
    · rw [updN_other _ _ e]; exact ⟨a, b⟩
  · by_cases e : j = i
    · subst e; rw [updN_same, g0, g1]; exact (f.wt.has j hj hg).symm
    · rw [updN_other _ _ e]; exact f.wt.has j hj hg
  · by_cases e : j = i
    · subst e
      rw [updN_same]
      rcases (show q = 0 ∨ q = 1 by omega) with rfl | rfl
      · rw [g0, show 1 - 0 = 1 from rfl, g1]; exact f.lk j hj hg 1 (by omega)
      · rw [g1, show 1 - 1 = 0 from rfl, g0]; exact f.lk j hj hg 0 (by omega)
    · rw [updN_other _ _ e]; exact f.lk j hj hg q hq
theorem wat_shift {n : Nat} {row : Nat → List Nat} {gone : Nat → Bool} {W : Nat → List Nat} {lost i : Nat} {kept rest : List Nat} (h : Wat n row gone (updN W lost (kept ++ i :: rest))) : Wat n row gone (updN W lost (kept ++ [i] ++ rest)) := by
  rw [List.append_assoc]; exact h
/-- it is kept: its first code is true -/
theorem Fol.keep (f : Fol V n gone cls cl starts h lost row W trail lvl rsn kept (i :: rest)) (h1 : (row i).getD 1 0 = lost) (h0 : (row i).getD 0 0 ∈ trail) : Fol V n gone cls cl starts h lost row W trail lvl rsn (kept ++ [i]) rest := by
  refine ⟨f.B, f.R, f.Y, wat_shift f.wt, fun j hj hg q hq ho => ?_, f.hl, f.top⟩
  by_cases e : j = i
  · subst e
    right
    rcases (show q = 0 ∨ q = 1 by omega) with rfl | rfl
    · exact absurd (List.mem_of_mem_take ho) (f.B.con _ h0)
    · rw [h1]; exact ⟨h0, f.lvLe h0⟩
  · rcases f.lk j hj hg q hq ho with ⟨h1, h2⟩ | h1
    · refine .inl ⟨h1, ?_⟩
      rcases List.mem_cons.1 h2 with h2 | h2
      · exact absurd h2 e
      · exact h2
    · exact .inr h1
/-- its first code is made true -/
theorem Fol.push (f : Fol V n gone cls cl starts h lost row W trail lvl rsn kept (i :: rest)) (h1 : (row i).getD 1 0 = lost) (hm : ∀ k, 2 ≤ k → k < (row i).length → opp ((row i).getD k 0) ∈ trail) (h0 : (row i).getD 0 0 ∉ trail) (h0' : opp ((row i).getD 0 0) ∉ trail) :
    Fol V n gone cls cl starts h lost row W (trail ++ [(row i).getD 0 0]) (updN lvl ((row i).getD 0 0 / 2) starts.length) (updN rsn ((row i).getD 0 0 / 2) (some i)) (kept ++ [i]) rest := by
  obtain ⟨hi, h2, _⟩ := f.at
  have hlen := at_lt f.hl
  generalize hx : (row i).getD 0 0 = x at *
  have hlv : ∀ y, (y ∈ trail ∨ opp y ∈ trail) → updN lvl (x / 2) starts.length (y / 2) = lvl (y / 2) := by
    intro y hy
    refine updN_other _ _ ?_
    intro e
    rcases half_eq e with e' | e'
    · subst e'; rcases hy with hy | hy
      · exact h0 hy
      · exact h0' hy
    · subst e'; rw [opp_opp] at hy; rcases hy with hy | hy
      · exact h0' hy
      · exact h0 hy
  refine ⟨f.B.set (by rw [← hx]; exact f.R.rng i hi _ (get_mem (by omega))) h0 h0', f.R, f.Y.set f.B h0 h0' (.inl ⟨i, rfl, hi, by omega, hx, fun y hy hne => ?_⟩), wat_shift f.wt, fun j hj hg q hq ho => ?_, snoc_at.2 (.inl f.hl), f.top⟩
  · obtain ⟨k, hk, rfl⟩ := mem_get.1 hy
    by_cases e0 : k = 0
    · subst e0; exact absurd hx hne
    · by_cases e1 : k = 1
      · subst e1; rw [h1]; exact f.lostIn
      · exact hm k (by omega) hk
  · rw [take_snoc (by omega)] at ho
    by_cases e : j = i
    · subst e
      rcases (show q = 0 ∨ q = 1 by omega) with rfl | rfl
      · rw [hx] at ho; exact absurd (List.mem_of_mem_take ho) h0'
      · right
        rw [show 1 - 1 = 0 from rfl, hx, h1]
        refine ⟨by simp, ?_⟩
        rw [updN_same, hlv lost (.inr f.lostIn), f.lostLv]
        exact Nat.le_refl _
    · rcases f.lk j hj hg q hq ho with ⟨h1, h2⟩ | ⟨h1, h2⟩
      · refine .inl ⟨h1, ?_⟩
        rcases List.mem_cons.1 h2 with h2 | h2
        · exact absurd h2 e
        · exact h2
      · right
        refine ⟨List.mem_append_left _ h1, ?_⟩
        rw [hlv _ (.inl h1), hlv _ (.inr (List.mem_of_mem_take ho))]
        exact h2
/-- it watches another code -/
theorem Fol.move (f : Fol V n gone cls cl starts h lost row W trail lvl rsn kept (i :: rest)) (h1 : (row i).getD 1 0 = lost) (h0 : (row i).getD 0 0 ∉ trail) (hk : 2 ≤ k) (hkl : k < (row i).length) (hc : opp ((row i).getD k 0) ∉ trail) :
    Fol V n gone cls cl starts h lost (updN row i (sw (row i) 1 k)) (updN W ((row i).getD k 0) (W ((row i).getD k 0) ++ [i])) trail lvl rsn kept rest := by
  obtain ⟨hi, h2, _⟩ := f.at
  have hnd := nodup_get.1 (f.R.nd i hi)
  have g0 : (sw (row i) 1 k).getD 0 0 = (row i).getD 0 0 := by rw [sw_get _ 1 k 0 (by omega) hkl, if_neg (by omega), if_neg (by omega)]
  have g1 : (sw (row i) 1 k).getD 1 0 = (row i).getD k 0 := by rw [sw_get _ 1 k 1 (by omega) hkl, if_neg (by omega), if_pos rfl]
  have hR := f.R.sw (i := i) (j := 1) (k := k) (by omega) hkl
  have hY := f.Y.sw f.R (i := i) (j := 1) (k := k) (by omega) hkl (.inr g0)
  generalize hcode : (row i).getD k 0 = code at *
  have n0 : (row i).getD 0 0 ≠ code := by rw [← hcode]; intro e; have := hnd 0 k (by omega) hkl e; omega
  have n1 : lost ≠ code := by rw [← hcode, ← h1]; intro e; have := hnd 1 k (by omega) hkl e; omega
  have n01 : (row i).getD 0 0 ≠ lost := by rw [← h1]; intro e; have := hnd 0 1 (by omega) (by omega) e; omega
  have hWc : updN W lost (kept ++ (i :: rest)) code = W code := updN_other _ _ (fun e => n1 e.symm)
  have hni : i ∉ W code := by
    intro hin
    rw [← hWc] at hin
    have hh := (f.wt.wat code i hin).2
    rw [h1] at hh
    rcases hh with hh | hh
    · exact n0 hh
    · exact n1 hh
  have hnl : (kept ++ i :: rest).Nodup := by have := f.wt.nd lost; rw [updN_same] at this; exact this
  have hnl' : (kept ++ rest).Nodup := hnl.sublist (List.Sublist.append (List.Sublist.refl _) (List.sublist_cons_self _ _))
  have hni2 : i ∉ kept ++ rest := by
    rw [List.nodup_append] at hnl
    intro hin
    rcases List.mem_append.1 hin with hin | hin
    · exact hnl.2.2 i hin i (by simp) rfl
    · exact (List.nodup_cons.1 hnl.2.1).1 hin
  have hW : ∀ c, (c = lost → updN (updN W code (W code ++ [i])) lost (kept ++ rest) c = kept ++ rest) ∧ (c = code → updN (updN W code (W code ++ [i])) lost (kept ++ rest) c = W code ++ [i]) ∧
      (c ≠ lost → c ≠ code → updN (updN W code (W code ++ [i])) lost (kept ++ rest) c = updN W lost (kept ++ i :: rest) c) := by
    intro c
    refine ⟨fun e => by rw [e, updN_same], fun e => ?_, fun e1 e2 => ?_⟩
    · rw [e, updN_other _ _ (fun e => n1 e.symm), updN_same]
    · rw [updN_other _ _ e1, updN_other _ _ e2, updN_other _ _ e1]
  have hoth : ∀ c j, j ≠ i → (j ∈ updN (updN W code (W code ++ [i])) lost (kept ++ rest) c ↔ j ∈ updN W lost (kept ++ i :: rest) c) := by
    intro c j hj
    by_cases e1 : c = lost
    · rw [(hW c).1 e1, e1, updN_same]
      simp [hj]
    · by_cases e2 : c = code
      · rw [(hW c).2.1 e2, e2, hWc]; simp [hj]
      · rw [(hW c).2.2 e1 e2]
  refine ⟨f.B, hR, hY, ⟨fun c => ?_, fun c j hj => ?_, fun j hj hg => ?_⟩, fun j hj hg q hq => ?_, f.hl, f.top⟩
  · by_cases e1 : c = lost
    · rw [(hW c).1 e1]; exact hnl'
    · by_cases e2 : c = code
      · rw [(hW c).2.1 e2, List.nodup_append]
        refine ⟨by have := f.wt.nd code; rw [hWc] at this; exact this, by simp, ?_⟩
        intro a ha b hb e
        simp at hb; subst hb; subst e; exact hni ha
      · rw [(hW c).2.2 e1 e2]; exact f.wt.nd c
  · by_cases e : j = i
    · subst e
      rw [updN_same, g0, g1]
      refine ⟨hi, ?_⟩
      by_cases e1 : c = lost
      · rw [(hW c).1 e1] at hj; exact absurd hj hni2
      · by_cases e2 : c = code
        · exact .inr e2.symm
        · rw [(hW c).2.2 e1 e2] at hj
          rcases (f.wt.wat c j hj).2 with h' | h'
          · exact .inl h'
          · rw [h1] at h'; exact absurd h'.symm e1
    · rw [updN_other _ _ e]; exact f.wt.wat c j ((hoth c j e).1 hj)
  · by_cases e : j = i
    · subst e
      rw [updN_same, g0, g1, (hW code).2.1 rfl, (hW _).2.2 n01 n0]
      exact ⟨(f.wt.has j hj hg).1, by simp⟩
    · rw [updN_other _ _ e, hoth _ _ e, hoth _ _ e]
      exact f.wt.has j hj hg
  · by_cases e : j = i
    · subst e
      rw [updN_same]
      rcases (show q = 0 ∨ q = 1 by omega) with rfl | rfl
      · rw [g0]
        intro ho
        rcases f.lk j hj hg 0 (by omega) ho with ⟨h', _⟩ | ⟨h', _⟩
        · exact absurd h' n01
        · rw [show 1 - 0 = 1 from rfl, h1] at h'; exact absurd h' f.lostOut
      · rw [g1]
        intro ho
        exact absurd (List.mem_of_mem_take ho) hc
    · rw [updN_other _ _ e]
      intro ho
      rcases f.lk j hj hg q hq ho with ⟨h1, h2⟩ | h1
      · refine .inl ⟨h1, ?_⟩
        rcases List.mem_cons.1 h2 with h2 | h2
        · exact absurd h2 e
        · exact h2
      · exact .inr h1
/-- all was gone through -/
theorem Fol.done (f : Fol V n gone cls cl starts h lost row W trail lvl rsn kept []) : Pro n row gone trail (h + 1) lvl := by
  intro i hi hg j hj ho
  rcases f.lk i hi hg j hj ho with ⟨_, h2⟩ | h1
  · simp at h2
  · exact h1
/-- .. up to the code -/
theorem Fol.part (f : Fol V n gone cls cl starts h lost row W trail lvl rsn kept rest) : Pro n row gone trail h lvl := by
  intro i hi hg j hj ho
  obtain ⟨p, hp, hop⟩ := mem_take.1 ho
  rcases f.lk i hi hg j hj (mem_take.2 ⟨p, by omega, hop⟩) with ⟨h1, _⟩ | h1
  · rw [h1] at hop
    have := f.B.at_inj hop f.hl; omega
  · exact h1
/-- a code is taken up -/
theorem Fol.begin {head : Nat} (hB : Base V trail starts lvl) (hR : Rows V n row cls cl) (hY : Why n row cl trail starts lvl rsn) (hW : Wat n row gone W) (hP : Pro n row gone trail head lvl) (ht : ∀ s, s ∈ starts → s ≤ head) {c : Nat} (hc : trail[head]? = some c) :
    Fol V n gone cls cl starts head (opp c) row W trail lvl rsn [] (W (opp c)) := by
  have hu : updN W (opp c) ([] ++ W (opp c)) = W := by
    funext x
    by_cases e : x = opp c
    · subst e; rw [updN_same]; rfl
    · rw [updN_other _ _ e]
  refine ⟨hB, hR, hY, by rw [hu]; exact hW, fun i hi hg j hj ho => ?_, by rw [opp_opp]; exact hc, ht⟩
  obtain ⟨p, hp, hop⟩ := mem_take.1 ho
  by_cases e : p = head
  · subst e
    rw [hc] at hop
    have hx : (row i).getD j 0 = opp c := by
      have := Option.some.inj hop
      rw [this, opp_opp]
    left
    refine ⟨hx, ?_⟩
    have := hW.has i hi hg
    rcases (show j = 0 ∨ j = 1 by omega) with rfl | rfl
    · rw [← hx]; exact this.1
    · rw [← hx]; exact this.2
  · exact .inr (hP i hi hg j hj (mem_take.2 ⟨p, by omega, hop⟩))
/-- all of a row's codes are false, one of them at the present level -/
structure Lost (n : Nat) (row : Nat → List Nat) (trail starts : List Nat) (lvl : Nat → Nat) (i : Nat) : Prop where
  lt : i < n
  all : ∀ y, y ∈ row i → opp y ∈ trail
  top : ∃ y, y ∈ row i ∧ lvl (y / 2) = starts.length
theorem Fol.fail (f : Fol V n gone cls cl starts h lost row W trail lvl rsn kept (i :: rest)) (h1 : (row i).getD 1 0 = lost) (hm : ∀ k, 2 ≤ k → k < (row i).length → opp ((row i).getD k 0) ∈ trail) (h0 : opp ((row i).getD 0 0) ∈ trail) : Lost n row trail starts lvl i := by
  obtain ⟨hi, h2, _⟩ := f.at
  refine ⟨hi, fun y hy => ?_, ⟨lost, by rw [← h1]; exact get_mem (by omega), f.lostLv⟩⟩
  obtain ⟨k, hk, rfl⟩ := mem_get.1 hy
  by_cases e0 : k = 0
  · subst e0; exact h0
  · by_cases e1 : k = 1
    · subst e1; rw [h1]; exact f.lostIn
    · exact hm k (by omega) hk
end
end Go.Proofs.YtojjjndhabjhdaaDoor.satQ
namespace Go.Proofs.YtojjjndhabjhdaaDoor.satR
set_option linter.unusedSimpArgs false
set_option linter.unusedVariables false
open proofP proofQ satP satQ

/-- if the opposites of cs, the codes mk and the opposites of the row's rest are derived, it is a clash -/
def Imp (cl : List (List Int)) (cs mk rest : List Nat) (code : Nat) : Prop :=
  ∀ fr, (∀ c, c ∈ cs → D cl fr (opp c)) → (∀ x, x ∈ mk → D cl fr x) → (∀ y, y ∈ rest → y ≠ code → D cl fr (opp y)) → Clash cl fr

/-- while the codes of a row are gone through: below the place a -/
structure Ana (trail starts : List Nat) (lvl : Nat → Nat) (cl : List (List Int)) (a code : Nat) (cs mk rest : List Nat) (seen : Nat → Bool) : Prop where
  pc : ∀ c, c ∈ cs → opp c ∈ trail ∧ 0 < lvl (c / 2) ∧ lvl (c / 2) < starts.length
  nd : List.Nodup cs
  pm : ∀ x, x ∈ mk → x ∈ trail.take a ∧ lvl (x / 2) = starts.length
  nm : List.Nodup mk
  ps : ∀ v, seen v = true ↔ (∃ c, c ∈ cs ∧ c / 2 = v) ∨ ∃ x, x ∈ mk ∧ x / 2 = v
  pr : ∀ y, y ∈ rest → y ≠ code → opp y ∈ trail.take a
  imp : Imp cl cs mk rest code

section
variable {V n : Nat} {row : Nat → List Nat} {cls : Nat → List Int} {cl : List (List Int)} {trail starts : List Nat} {lvl : Nat → Nat} {rsn : Nat → Option Nat} {a code y : Nat} {cs mk rest : List Nat} {seen : Nat → Bool}

theorem Ana.start (hB : Base V trail starts lvl) (hR : Rows V n row cls cl) {i : Nat} (h : Lost n row trail starts lvl i) : Ana trail starts lvl cl trail.length 0 [] [] (row i) fun _ => false := by
  refine ⟨by simp, by simp, by simp, by simp, by simp, fun y hy _ => by rw [List.take_length]; exact h.all y hy, fun fr _ _ h3 => ?_⟩
  have h2 := hR.two i h.lt
  have hD : ∀ y, y ∈ row i → D cl fr (opp y) := fun y hy => h3 y hy (by have := hR.rng i h.lt y hy; omega)
  have m0 := get_mem (r := row i) (i := 0) (by omega)
  exact clashD (hR.rng i h.lt _ m0).1 (unitD (hR.of i h.lt) (hR.mem i h.lt) m0 fun y hy _ => hD y hy) (hD _ m0)
/-- a code that needn't be added -/
theorem Ana.skip (h : Ana trail starts lvl cl a code cs mk (y :: rest) seen) (hB : Base V trail starts lvl) (hz : ∀ x, x ∈ trail → lvl (x / 2) = 0 → D cl [] x) (hy : y = code ∨ seen (y / 2) = true ∨ lvl (y / 2) = 0) :
    Ana trail starts lvl cl a code cs mk rest seen := by
  refine ⟨h.pc, h.nd, h.pm, h.nm, h.ps, fun z hz => h.pr z (List.mem_cons_of_mem _ hz), fun fr h1 h2 h3 => h.imp fr h1 h2 fun z hz' hne => ?_⟩
  rcases List.mem_cons.1 hz' with rfl | hz'
  · have ho : opp z ∈ trail := List.mem_of_mem_take (h.pr z (by simp) hne)
    rcases hy with hy | hy | hy
    · exact absurd hy hne
    · rcases (h.ps _).1 hy with ⟨c, hc, e⟩ | ⟨x, hx, e⟩
      · rcases half_eq e with e' | e'
        · subst e'; exact h1 c hc
        · have := (h.pc c hc).1
          rw [e', opp_opp] at this
          exact absurd ho (hB.con _ this)
      · have hxt := List.mem_of_mem_take (h.pm x hx).1
        rcases half_eq e with e' | e'
        · subst e'; exact absurd ho (hB.con _ hxt)
        · rw [← e']; exact h2 x hx
    · exact D.any (hz _ ho (by rw [opp_half]; exact hy))
  · exact h3 z hz' hne
theorem Ana.fresh (h : Ana trail starts lvl cl a code cs mk (y :: rest) seen) (hs : seen (y / 2) = false) : y ∉ cs ∧ opp y ∉ mk := by
  constructor
  · intro hin
    have := (h.ps (y / 2)).2 (.inl ⟨y, hin, rfl⟩)
    rw [hs] at this; cases this
  · intro hin
    have := (h.ps (y / 2)).2 (.inr ⟨opp y, hin, opp_half y⟩)
    rw [hs] at this; cases this
/-- one of the present level -/
theorem Ana.mark (h : Ana trail starts lvl cl a code cs mk (y :: rest) seen) (hne : y ≠ code) (hs : seen (y / 2) = false) (hl : lvl (y / 2) = starts.length) :
    Ana trail starts lvl cl a code cs (mk ++ [opp y]) rest (updN seen (y / 2) true) := by
  refine ⟨h.pc, h.nd, fun x hx => ?_, ?_, fun v => ?_, fun z hz => h.pr z (List.mem_cons_of_mem _ hz), fun fr h1 h2 h3 => h.imp fr h1 (fun x hx => h2 x (by simp [hx])) fun z hz hne' => ?_⟩
  · rcases List.mem_append.1 hx with hx | hx
    · exact h.pm x hx
    · simp at hx; subst hx; exact ⟨h.pr y (by simp) hne, by rw [opp_half]; exact hl⟩
  · rw [List.nodup_append]
    refine ⟨h.nm, by simp, ?_⟩
    intro b hb c hc e
    simp at hc; subst hc; subst e
    exact (h.fresh hs).2 hb
  · by_cases e : v = y / 2
    · subst e; rw [updN_same]; simp only [true_iff]; exact .inr ⟨opp y, by simp, opp_half y⟩
    · rw [updN_other _ _ e, h.ps v]
      constructor
      · rintro (h1 | ⟨x, hx, e2⟩)
        · exact .inl h1
        · exact .inr ⟨x, by simp [hx], e2⟩
      · rintro (h1 | ⟨x, hx, e2⟩)
        · exact .inl h1
        · rcases List.mem_append.1 hx with hx | hx
          · exact .inr ⟨x, hx, e2⟩
          · simp at hx; subst hx; rw [opp_half] at e2; exact absurd e2.symm e
  · rcases List.mem_cons.1 hz with rfl | hz
    · exact h2 _ (by simp)
    · exact h3 z hz hne'
/-- one of a lower level -/
theorem Ana.add (h : Ana trail starts lvl cl a code cs mk (y :: rest) seen) (hne : y ≠ code) (hs : seen (y / 2) = false) (hl : lvl (y / 2) < starts.length) (h0 : 0 < lvl (y / 2)) :
    Ana trail starts lvl cl a code (cs ++ [y]) mk rest (updN seen (y / 2) true) := by
  refine ⟨fun c hc => ?_, ?_, h.pm, h.nm, fun v => ?_, fun z hz => h.pr z (List.mem_cons_of_mem _ hz), fun fr h1 h2 h3 => h.imp fr (fun c hc => h1 c (by simp [hc])) h2 fun z hz hne' => ?_⟩
  · rcases List.mem_append.1 hc with hc | hc
    · exact h.pc c hc
    · simp at hc; subst hc; exact ⟨List.mem_of_mem_take (h.pr c (by simp) hne), h0, hl⟩
  · rw [List.nodup_append]
    refine ⟨h.nd, by simp, ?_⟩
    intro b hb c hc e
    simp at hc; subst hc; subst e
    exact (h.fresh hs).1 hb
  · by_cases e : v = y / 2
    · subst e; rw [updN_same]; simp only [true_iff]; exact .inl ⟨y, by simp, rfl⟩
    · rw [updN_other _ _ e, h.ps v]
      constructor
      · rintro (⟨c, hc, e2⟩ | h1)
        · exact .inl ⟨c, by simp [hc], e2⟩
        · exact .inr h1
      · rintro (⟨c, hc, e2⟩ | h1)
        · rcases List.mem_append.1 hc with hc | hc
          · exact .inl ⟨c, hc, e2⟩
          · simp at hc; subst hc; exact absurd e2.symm e
        · exact .inr h1
  · rcases List.mem_cons.1 hz with rfl | hz
    · exact h1 _ (by simp)
    · exact h3 z hz hne'

/-- the place of the last one that is seen -/
theorem Ana.seenAt (h : Ana trail starts lvl cl a code cs mk [] seen) (hB : Base V trail starts lvl) {x p : Nat} (hx : x ∈ mk) : ∃ p, p < a ∧ trail[p]? = some x ∧ seen (x / 2) = true := by
  obtain ⟨p, hp, hpx⟩ := mem_take.1 (h.pm x hx).1
  exact ⟨p, hp, hpx, (h.ps _).2 (.inr ⟨x, hx, rfl⟩)⟩
/-- what is popped is one of the present level -/
theorem Ana.popIn (h : Ana trail starts lvl cl a code cs mk [] seen) (hB : Base V trail starts lvl) (hm : mk ≠ []) {p x : Nat} (hpa : p < a) (hp : trail[p]? = some x) (hs : seen (x / 2) = true) (hh : ∀ q z, p < q → q < a → trail[q]? = some z → seen (z / 2) = false) : x ∈ mk := by
  obtain ⟨m, hmm⟩ := List.exists_mem_of_ne_nil _ hm
  obtain ⟨q, hq, hqm⟩ := mem_take.1 (h.pm m hmm).1
  have hms : seen (m / 2) = true := (h.ps _).2 (.inr ⟨m, hmm, rfl⟩)
  have hqp : q ≤ p := by
    by_cases e : q ≤ p
    · exact e
    · have := hh q m (by omega) hq hqm; rw [hms] at this; cases this
  have hlx : starts.length ≤ lvl (x / 2) := by
    have := hB.lv_mono hqm hp hqp
    rw [(h.pm m hmm).2] at this; exact this
  rcases (h.ps _).1 hs with ⟨c, hc, e⟩ | ⟨z, hz, e⟩
  · have := (h.pc c hc).2.2; rw [e] at this; omega
  · obtain ⟨q', hq', hzq⟩ := mem_take.1 (h.pm z hz).1
    rw [← (hB.at_var hzq hp e).2]; exact hz
/-- .. and the others are ahead of it -/
theorem Ana.popAhead (h : Ana trail starts lvl cl a code cs mk [] seen) (hB : Base V trail starts lvl) {p x : Nat} (hp : trail[p]? = some x) (hh : ∀ q z, p < q → q < a → trail[q]? = some z → seen (z / 2) = false) : ∀ z, z ∈ mk.erase x → z ∈ trail.take p := by
  intro z hz
  have hzm := List.mem_of_mem_erase hz
  have hne : z ≠ x := fun e => by subst e; exact absurd hz (h.nm.not_mem_erase)
  obtain ⟨q, hq, hqz⟩ := mem_take.1 (h.pm z hzm).1
  refine mem_take.2 ⟨q, ?_, hqz⟩
  by_cases e : p < q
  · have := hh q z e hq hqz
    rw [(h.ps _).2 (.inr ⟨z, hzm, rfl⟩)] at this; cases this
  · by_cases e2 : q = p
    · subst e2; rw [hp] at hqz; exact absurd (Option.some.inj hqz).symm hne
    · omega
theorem Ana.popSeen (h : Ana trail starts lvl cl a code cs mk [] seen) (hB : Base V trail starts lvl) {x : Nat} (hx : x ∈ mk) (v : Nat) : updN seen (x / 2) false v = true ↔ (∃ c, c ∈ cs ∧ c / 2 = v) ∨ ∃ z, z ∈ mk.erase x ∧ z / 2 = v := by
  have hxt := List.mem_of_mem_take (h.pm x hx).1
  by_cases e : v = x / 2
  · subst e
    rw [updN_same]
    constructor
    · intro h'; cases h'
    · rintro (⟨c, hc, e⟩ | ⟨z, hz, e⟩)
      · have h1 := (h.pc c hc).2.2
        have h2 := (h.pm x hx).2
        rw [e] at h1; omega
      · have hzm := List.mem_of_mem_erase hz
        have hne : z ≠ x := fun e => by subst e; exact absurd hz (h.nm.not_mem_erase)
        have hzt := List.mem_of_mem_take (h.pm z hzm).1
        rcases half_eq e with e' | e'
        · exact absurd e' hne
        · subst e'; exact absurd hzt (hB.con _ hxt)
  · rw [updN_other _ _ e, h.ps v]
    constructor
    · rintro (h1 | ⟨z, hz, e2⟩)
      · exact .inl h1
      · refine .inr ⟨z, ?_, e2⟩
        have hne : z ≠ x := fun e3 => e (by rw [← e2, e3])
        exact (List.mem_erase_of_ne hne).2 hz
    · rintro (h1 | ⟨z, hz, e2⟩)
      · exact .inl h1
      · exact .inr ⟨z, List.mem_of_mem_erase hz, e2⟩
/-- .. it has a reason, and the reason's row is taken up -/
theorem Ana.pop (h : Ana trail starts lvl cl a code cs mk [] seen) (hB : Base V trail starts lvl) (hR : Rows V n row cls cl) (hY : Why n row cl trail starts lvl rsn) {p x : Nat} (hx : x ∈ mk) (hp : trail[p]? = some x) (hh : ∀ q z, p < q → q < a → trail[q]? = some z → seen (z / 2) = false)
    (hpa : p < a) (hs0 : 0 < starts.length) (hm : mk.erase x ≠ []) : ∃ i, rsn (x / 2) = some i ∧ i < n ∧ Ana trail starts lvl cl p x cs (mk.erase x) (row i) (updN seen (x / 2) false) := by
  have hah := h.popAhead hB hp hh
  obtain ⟨m, hmm⟩ := List.exists_mem_of_ne_nil _ hm
  obtain ⟨q, hq, hqm⟩ := mem_take.1 (hah m hmm)
  have hml := (h.pm m (List.mem_of_mem_erase hmm)).2
  rcases hY p x hp with ⟨i, h1, h2, h3, h4, h5⟩ | ⟨h1, ⟨h2, _⟩ | h2⟩
  · refine ⟨i, h1, h2, h.pc, h.nd, fun z hz => ⟨hah z hz, (h.pm z (List.mem_of_mem_erase hz)).2⟩, h.nm.erase x, h.popSeen hB hx, h5, fun fr k1 k2 k3 => h.imp fr k1 (fun z hz => ?_) (by simp)⟩
    by_cases e : z = x
    · subst e; subst h4
      exact unitD (hR.of i h2) (hR.mem i h2) (get_mem h3) fun y hy hne => k3 y hy hne
    · exact k2 z ((List.mem_erase_of_ne e).2 hz)
  · have := (h.pm x hx).2; omega
  · obtain ⟨j, hj⟩ := mem_at.1 h2
    have hjl := at_lt hj
    have h6 := (hB.lv q m hqm j).1 (by omega)
    obtain ⟨s, hs, hsq⟩ := h6
    rw [hj] at hs; cases hs; omega
end

/-- what is left when one code of the present level is left -/
structure Uip (trail starts : List Nat) (lvl : Nat → Nat) (cl : List (List Int)) (code : Nat) (cs : List Nat) (seen : Nat → Bool) : Prop where
  pc : ∀ c, c ∈ cs → opp c ∈ trail ∧ 0 < lvl (c / 2) ∧ lvl (c / 2) < starts.length
  nd : List.Nodup cs
  pk : code ∈ trail ∧ lvl (code / 2) = starts.length
  ps : ∀ v, seen v = true ↔ ∃ c, c ∈ cs ∧ c / 2 = v
  imp : ∀ fr, (∀ c, c ∈ cs → D cl fr (opp c)) → D cl fr code → Clash cl fr
theorem Ana.uip {V : Nat} {cl : List (List Int)} {trail starts : List Nat} {lvl : Nat → Nat} {a code x : Nat} {cs mk : List Nat} {seen : Nat → Bool} (h : Ana trail starts lvl cl a code cs mk [] seen) (hB : Base V trail starts lvl) (hx : x ∈ mk) (hm : mk.erase x = []) :
    Uip trail starts lvl cl x cs (updN seen (x / 2) false) := by
  refine ⟨h.pc, h.nd, ⟨List.mem_of_mem_take (h.pm x hx).1, (h.pm x hx).2⟩, fun v => ?_, fun fr h1 h2 => h.imp fr h1 (fun z hz => ?_) (by simp)⟩
  · rw [h.popSeen hB hx v, hm]; simp
  · by_cases e : z = x
    · subst e; exact h2
    · have := (List.mem_erase_of_ne e).2 hz
      rw [hm] at this; simp at this

/-- does a code follow from the others? -/
def Folw (row : Nat → List Nat) (lvl : Nat → Nat) (rsn : Nat → Option Nat) (seen : Nat → Bool) (c : Nat) : Prop :=
  ∃ i, rsn (c / 2) = some i ∧ ∀ y, y ∈ row i → ¬ (y / 2 ≠ c / 2 ∧ 0 < lvl (y / 2) ∧ seen (y / 2) = false)
/-- the learned clause's codes -/
structure Lrn (trail starts : List Nat) (lvl : Nat → Nat) (cl : List (List Int)) (code : Nat) (ks : List Nat) : Prop where
  pc : ∀ c, c ∈ ks → opp c ∈ trail ∧ 0 < lvl (c / 2) ∧ lvl (c / 2) < starts.length
  nd : List.Nodup ks
  pk : code ∈ trail ∧ lvl (code / 2) = starts.length
  imp : ∀ fr, (∀ c, c ∈ ks → D cl fr (opp c)) → D cl fr code → Clash cl fr
theorem Uip.short {V n : Nat} {row : Nat → List Nat} {cls : Nat → List Int} {cl : List (List Int)} {trail starts : List Nat} {lvl : Nat → Nat} {rsn : Nat → Option Nat} {code : Nat} {cs ks : List Nat} {seen : Nat → Bool} (h : Uip trail starts lvl cl code cs seen)
    (hB : Base V trail starts lvl) (hR : Rows V n row cls cl) (hY : Why n row cl trail starts lvl rsn) (hs : ks.Sublist cs) (hk : ∀ c, c ∈ cs → c ∉ ks → Folw row lvl rsn seen c) : Lrn trail starts lvl cl code ks := by
  refine ⟨fun c hc => h.pc c (hs.subset hc), h.nd.sublist hs, h.pk, fun fr h1 h2 => h.imp fr ?_ h2⟩
  have key : ∀ (p c : Nat), c ∈ cs → trail[p]? = some (opp c) → D cl fr (opp c) := by
    intro p
    induction p using Nat.strongRecOn with
    | ind p ih =>
      intro c hc hp
      by_cases e : c ∈ ks
      · exact h1 c e
      · obtain ⟨i, hi, hall⟩ := hk c hc e
        rcases hY p _ hp with ⟨j, k1, k2, k3, k4, k5⟩ | ⟨k1, _⟩
        · rw [opp_half, hi] at k1; cases k1
          rw [← k4]
          refine unitD (hR.of i k2) (hR.mem i k2) (get_mem k3) fun y hy hne => ?_
          rw [k4] at hne
          obtain ⟨q, hq, hqy⟩ := mem_take.1 (k5 y hy hne)
          have hv : y / 2 ≠ c / 2 := by
            intro e
            rw [← opp_half y, ← opp_half c] at e
            have := (hB.at_var hqy hp e).1; omega
          have := hall y hy
          by_cases h0 : 0 < lvl (y / 2)
          · have hs : seen (y / 2) = true := by
              cases hh : seen (y / 2)
              · exact absurd ⟨hv, h0, hh⟩ this
              · rfl
            obtain ⟨z, hz, e⟩ := (h.ps _).1 hs
            have hzt := (h.pc z hz).1
            rcases half_eq e with e' | e'
            · subst e'; exact ih q hq z hz hqy
            · subst e'
              rw [opp_opp] at hzt
              exact absurd (mem_at.2 ⟨q, hqy⟩) (hB.con _ hzt)
          · exact D.any (hY.zero hB hR q _ hqy (by rw [opp_half]; omega))
        · rw [opp_half, hi] at k1; cases k1
  intro c hc
  obtain ⟨p, hp⟩ := mem_at.1 (h.pc c hc).1
  exact key p c hc hp
/-- the clause that is learned is plain -/
theorem Lrn.plain {cl : List (List Int)} {trail starts : List Nat} {lvl : Nat → Nat} {code : Nat} {ks : List Nat} (h : Lrn trail starts lvl cl code ks) {V : Nat} (hB : Base V trail starts lvl) (hV : V ≤ 20000) {c : List Int} (hc : ∀ x, x ∈ opp code :: ks → litOf x ∈ c) : pl cl c = true := by
  have hst : ∀ x, x ∈ opp code :: ks → 2 ≤ x → x < 40002 → D cl (c.map fun l => -l) (opp x) := by
    intro x hx h2 h3
    refine .start (List.mem_map.2 ⟨litOf x, hc x hx, (litOf_opp x h2).symm⟩) ?_
    have := opp_rng x h2 h3
    exact litOf_lit _ this.1 this.2
  refine pl_iff.2 (h.imp _ (fun x hx => ?_) ?_)
  · have := hB.rng _ (h.pc x hx).1
    have := opp_rng2 this
    rw [opp_opp] at this
    exact hst x (by simp [hx]) this.1 (by omega)
  · have := hB.rng _ h.pk.1
    have h2 := opp_rng2 this
    have h3 := hst (opp code) (by simp) h2.1 (by omega)
    rwa [opp_opp] at h3

/-- the search goes back, and the learned clause's one open code is made true -/
theorem Lrn.nodup {cl : List (List Int)} {trail starts : List Nat} {lvl : Nat → Nat} {code : Nat} {ks : List Nat} (h : Lrn trail starts lvl cl code ks) : (opp code :: ks).Nodup := by
  rw [List.nodup_cons]
  refine ⟨fun hin => ?_, h.nd⟩
  have h1 := (h.pc _ hin).2.2
  rw [opp_half] at h1
  have := h.pk.2; omega
theorem Lrn.rng {cl : List (List Int)} {trail starts : List Nat} {lvl : Nat → Nat} {code V : Nat} {ks : List Nat} (h : Lrn trail starts lvl cl code ks) (hB : Base V trail starts lvl) : ∀ x, x ∈ opp code :: ks → 2 ≤ x ∧ x < 2 * V + 2 := by
  intro x hx
  rcases List.mem_cons.1 hx with rfl | hx
  · exact opp_rng2 (hB.rng _ h.pk.1)
  · have := opp_rng2 (hB.rng _ (h.pc x hx).1)
    rwa [opp_opp] at this
theorem Lrn.nt {cl : List (List Int)} {trail starts : List Nat} {lvl : Nat → Nat} {code V : Nat} {ks : List Nat} (h : Lrn trail starts lvl cl code ks) (hB : Base V trail starts lvl) : ¬ taut (opp code :: ks) := by
  have hf : ∀ x, x ∈ opp code :: ks → opp x ∈ trail := by
    intro x hx
    rcases List.mem_cons.1 hx with rfl | hx
    · rw [opp_opp]; exact h.pk.1
    · exact (h.pc x hx).1
  rintro ⟨x, h1, h2⟩
  have a := hf x h1
  have b := hf _ h2
  rw [opp_opp] at b
  exact hB.con _ b a
end Go.Proofs.YtojjjndhabjhdaaDoor.satR
namespace Go.Proofs.YtojjjndhabjhdaaDoor.satS
set_option linter.unusedSimpArgs false
set_option linter.unusedVariables false
open proofP proofQ satP satQ satR

section
variable {V n : Nat} {row : Nat → List Nat} {gone : Nat → Bool} {W : Nat → List Nat} {cls : Nat → List Int} {cl : List (List Int)} {trail starts : List Nat} {lvl : Nat → Nat} {rsn : Nat → Option Nat} {head : Nat} {K : List Nat} {c : List Int}

theorem _root_.Go.Proofs.YtojjjndhabjhdaaDoor.satP.Rows.add (h : Rows V n row cls cl) (h1 : K.Nodup) (h2 : 2 ≤ K.length) (h3 : ∀ x, x ∈ K → 2 ≤ x ∧ x < 2 * V + 2) (h4 : ¬ taut K) (h5 : RowOf K c) (h6 : c ∈ cl) : Rows V (n + 1) (updN row n K) (updN cls n c) cl := by
  refine ⟨fun i hi => ?_, fun i hi => ?_, fun i hi => ?_, fun i hi => ?_, fun i hi => ?_, fun i hi => ?_⟩ <;> by_cases e : i = n
  · subst e; rw [updN_same]; exact h1
  · rw [updN_other _ _ e]; exact h.nd i (by omega)
  · subst e; rw [updN_same]; exact h2
  · rw [updN_other _ _ e]; exact h.two i (by omega)
  · subst e; rw [updN_same]; exact h3
  · rw [updN_other _ _ e]; exact h.rng i (by omega)
  · subst e; rw [updN_same]; exact h4
  · rw [updN_other _ _ e]; exact h.nt i (by omega)
  · subst e; rw [updN_same, updN_same]; exact h5
  · rw [updN_other _ _ e, updN_other _ _ e]; exact h.of i (by omega)
  · subst e; rw [updN_same]; exact h6
  · rw [updN_other _ _ e]; exact h.mem i (by omega)
theorem _root_.Go.Proofs.YtojjjndhabjhdaaDoor.satP.Why.add (h : Why n row cl trail starts lvl rsn) : Why (n + 1) (updN row n K) cl trail starts lvl rsn := by
  intro p x hp
  rcases h p x hp with ⟨i, h1, h2, h3⟩ | h1
  · refine .inl ⟨i, h1, by omega, ?_⟩
    rw [updN_other _ _ (by omega)]; exact h3
  · exact .inr h1
def watched (W : Nat → List Nat) (n : Nat) (K : List Nat) : Nat → List Nat := updN (updN W (K.getD 0 0) (W (K.getD 0 0) ++ [n])) (K.getD 1 0) (W (K.getD 1 0) ++ [n])
theorem _root_.Go.Proofs.YtojjjndhabjhdaaDoor.satP.Wat.add (h : Wat n row gone W) (h1 : K.Nodup) (h2 : 2 ≤ K.length) : Wat (n + 1) (updN row n K) (updN gone n false) (watched W n K) := by
  have hne : K.getD 0 0 ≠ K.getD 1 0 := fun e => by have := nodup_get.1 h1 0 1 (by omega) (by omega) e; omega
  have hw : ∀ x, watched W n K x = if x = K.getD 0 0 ∨ x = K.getD 1 0 then W x ++ [n] else W x := by
    intro x
    unfold watched
    by_cases e1 : x = K.getD 1 0
    · rw [e1, updN_same, if_pos (.inr rfl)]
    · rw [updN_other _ _ e1]
      by_cases e0 : x = K.getD 0 0
      · rw [e0, updN_same, if_pos (.inl rfl)]
      · rw [updN_other _ _ e0, if_neg (fun h => h.elim e0 e1)]
  have hnn : ∀ x, n ∉ W x := fun x hx => by have := (h.wat x n hx).1; omega
  refine ⟨fun x => ?_, fun x i hi => ?_, fun i hi hg => ?_⟩
  · rw [hw]
    split
    · rw [List.nodup_append]
      refine ⟨h.nd x, by simp, ?_⟩
      intro a ha b hb e
      simp at hb; subst hb; subst e; exact hnn x ha
    · exact h.nd x
  · rw [hw] at hi
    by_cases e : i = n
    · subst e
      rw [updN_same]
      refine ⟨by omega, ?_⟩
      split at hi
      · rename_i hx; rcases hx with hx | hx
        · exact .inl hx.symm
        · exact .inr hx.symm
      · exact absurd hi (hnn x)
    · rw [updN_other _ _ e]
      have : i ∈ W x := by
        split at hi
        · simpa [e] using hi
        · exact hi
      have := h.wat x i this
      exact ⟨by omega, this.2⟩
  · by_cases e : i = n
    · subst e; rw [updN_same, hw, hw]; simp
    · rw [updN_other _ _ e] at hg ⊢
      have := h.has i (by omega) hg
      rw [hw, hw]
      refine ⟨?_, ?_⟩
      · split
        · exact List.mem_append_left _ this.1
        · exact this.1
      · split
        · exact List.mem_append_left _ this.2
        · exact this.2
theorem _root_.Go.Proofs.YtojjjndhabjhdaaDoor.satP.Pro.add (h : Pro n row gone trail head lvl) (hk : ∀ j, j < 2 → opp (K.getD j 0) ∈ trail.take head → K.getD (1 - j) 0 ∈ trail ∧ lvl (K.getD (1 - j) 0 / 2) ≤ lvl (K.getD j 0 / 2)) : Pro (n + 1) (updN row n K) (updN gone n false) trail head lvl := by
  intro i hi hg j hj ho
  by_cases e : i = n
  · subst e; rw [updN_same] at ho ⊢; exact hk j hj ho
  · rw [updN_other _ _ e] at ho ⊢
    rw [updN_other _ _ e] at hg
    exact h i (by omega) hg j hj ho
/-- a code is set; what was followed stays -/
theorem _root_.Go.Proofs.YtojjjndhabjhdaaDoor.satP.Pro.set (h : Pro n row gone trail head lvl) (hh : head ≤ trail.length) {x l : Nat} (h1 : x ∉ trail) (h2 : opp x ∉ trail) : Pro n row gone (trail ++ [x]) head (updN lvl (x / 2) l) := by
  have hlv : ∀ y, (y ∈ trail ∨ opp y ∈ trail) → updN lvl (x / 2) l (y / 2) = lvl (y / 2) := by
    intro y hy
    refine updN_other _ _ ?_
    intro e
    rcases half_eq e with e' | e'
    · subst e'; rcases hy with hy | hy
      · exact h1 hy
      · exact h2 hy
    · subst e'; rw [opp_opp] at hy; rcases hy with hy | hy
      · exact h2 hy
      · exact h1 hy
  intro i hi hg j hj ho
  rw [take_snoc hh] at ho
  obtain ⟨k1, k2⟩ := h i hi hg j hj ho
  refine ⟨List.mem_append_left _ k1, ?_⟩
  rw [hlv _ (.inl k1), hlv _ (.inr (List.mem_of_mem_take ho))]
  exact k2

/-- what a learned row of two codes or more leaves -/
theorem learned (hB : Base V trail starts lvl) (hR : Rows V n row cls cl) (hY : Why n row cl trail starts lvl rsn) (hP : Pro n row gone trail head lvl) {code : Nat} {ks : List Nat} (hL : Lrn trail starts lvl cl code ks)
    (hK : ∀ x, x ∈ K ↔ x ∈ opp code :: ks) (hn : K.Nodup) (h2 : 2 ≤ K.length) (h0 : K.getD 0 0 = opp code) (hmax : ∀ x, x ∈ ks → lvl (x / 2) ≤ lvl (K.getD 1 0 / 2)) {b t : Nat} (hb : lvl (K.getD 1 0 / 2) = b) (ht : starts[b]? = some t) (hth : t ≤ head)
    (hc : RowOf K c) (hm : c ∈ cl) {rsn' : Nat → Option Nat} (hr : ∀ p x, trail[p]? = some x → p < t → rsn' (x / 2) = rsn (x / 2)) :
    Rows V (n + 1) (updN row n K) (updN cls n c) cl ∧ Base V (trail.take t ++ [opp code]) (starts.take b) (updN lvl (opp code / 2) b) ∧ Why (n + 1) (updN row n K) cl (trail.take t ++ [opp code]) (starts.take b) (updN lvl (opp code / 2) b) (updN rsn' (opp code / 2) (some n)) ∧
      Pro (n + 1) (updN row n K) (updN gone n false) (trail.take t ++ [opp code]) t (updN lvl (opp code / 2) b) ∧ (opp code ∉ trail.take t ∧ opp (opp code) ∉ trail.take t) ∧ msr V starts trail.length < msr V (starts.take b) (t + 1) ∧ (∀ s, s ∈ starts.take b → s < t) ∧ t < trail.length ∧ b < starts.length := by
  have hbs : b < starts.length := at_lt ht
  have hk1 : K.getD 1 0 ∈ ks := by
    have h1 : K.getD 1 0 ∈ K := get_mem (by omega)
    rcases List.mem_cons.1 ((hK _).1 h1) with e | e
    · rw [← h0] at e
      have := nodup_get.1 hn 1 0 (by omega) (by omega) e; omega
    · exact e
  have hcl := hL.pk
  obtain ⟨pc, hpc⟩ := mem_at.1 hcl.1
  have htp : t ≤ pc := by
    have := (hB.lv_cut hpc ht)
    by_cases e : t ≤ pc
    · exact e
    · have := this.2 (by omega); omega
  have n1 : opp code ∉ trail := fun e => hB.con _ hcl.1 e
  have n2 : opp (opp code) ∉ trail.take t := by
    rw [opp_opp]
    intro e
    obtain ⟨q, hq, hqc⟩ := mem_take.1 e
    have := hB.at_inj hqc hpc; omega
  have n1' : opp code ∉ trail.take t := fun e => n1 (List.mem_of_mem_take e)
  have hLen := at_lt hpc
  have htl : (trail.take t).length = t := by simp; omega
  have hBb := hB.back ht
  have hsl : (starts.take b).length = b := by simp; omega
  have hRa := hR.add hn h2 (fun x hx => hL.rng hB x ((hK x).1 hx)) (by rintro ⟨x, hx, hx'⟩; exact hL.nt hB ⟨x, (hK x).1 hx, (hK _).1 hx'⟩) hc hm
  have hYb := hY.back hB ht hr
  have hin : ∀ y, y ∈ ks → opp y ∈ trail.take t := by
    intro y hy
    obtain ⟨q, hq⟩ := mem_at.1 (hL.pc y hy).1
    refine mem_take.2 ⟨q, ?_, hq⟩
    have := hmax y hy
    rw [← opp_half y] at this
    exact (hB.lv_cut hq ht).1 (by omega)
  have hne0 : starts.take b ≠ [] ∨ b = 0 := by
    by_cases e : b = 0
    · exact .inr e
    · left; intro e'; rw [e'] at hsl; simp at hsl; omega
  have hBs := hBb.set (hL.rng hB (opp code) (by simp)) n1' n2
  rw [hsl] at hBs
  have hYs := (Why.add (K := K) hYb).set hBb (r := some n) n1' n2 (.inl ⟨n, rfl, by omega, by rw [updN_same]; omega, by rw [updN_same]; exact h0, fun y hy hne => by
    rw [updN_same] at hy
    rcases List.mem_cons.1 ((hK y).1 hy) with e | e
    · exact absurd e hne
    · exact hin y e⟩)
  rw [hsl] at hYs
  have hlt : ∀ s, s ∈ starts.take b → s < t := by
    intro s hs
    obtain ⟨j, hj, hs⟩ := mem_take.1 hs
    obtain ⟨q, hq⟩ := mem_at.1 (hL.pc _ hk1).1
    have hlv : lvl (opp (K.getD 1 0) / 2) = b := by rw [opp_half]; exact hb
    have h3 : q < t := (hB.lv_cut hq ht).1 (by omega)
    obtain ⟨s', hs', hle⟩ := (hB.lv q _ hq j).1 (by omega)
    rw [hs] at hs'; cases hs'; omega
  have hPs := (hP.back hB ht hth).set (x := opp code) (l := b) (by omega) n1' n2
  refine ⟨hRa, hBs, hYs, hPs.add ?_, ⟨n1', n2⟩, msr_learn hB ht (by omega) (fun e => by have := hlt t e; omega), hlt, by omega, hbs⟩
  intro j hj ho
  rw [take_snoc (by omega), List.take_of_length_le (by omega)] at ho
  rcases (show j = 0 ∨ j = 1 by omega) with rfl | rfl
  · rw [h0] at ho; exact absurd ho n2
  · rw [show 1 - 1 = 0 from rfl, h0]
    refine ⟨by simp, ?_⟩
    rw [updN_same, updN_other _ _ ?_, hb]
    · exact Nat.le_refl _
    · intro e
      rw [opp_half] at e
      have := hcl.2
      rw [← e] at this; omega
/-- a clause of one code is learned -/
theorem learnedOne (hB : Base V trail starts lvl) (hY : Why n row cl trail starts lvl rsn) (hP : Pro n row gone trail head lvl) {code : Nat} (hL : Lrn trail starts lvl cl code []) {t : Nat} (ht : starts[0]? = some t) (hth : t ≤ head) (hD : D cl [] (opp code))
    {rsn' : Nat → Option Nat} (hr : ∀ p x, trail[p]? = some x → p < t → rsn' (x / 2) = rsn (x / 2)) :
    Base V (trail.take t ++ [opp code]) [] (updN lvl (opp code / 2) 0) ∧ Why n row cl (trail.take t ++ [opp code]) [] (updN lvl (opp code / 2) 0) (updN rsn' (opp code / 2) none) ∧
      Pro n row gone (trail.take t ++ [opp code]) t (updN lvl (opp code / 2) 0) ∧ (opp code ∉ trail.take t ∧ opp (opp code) ∉ trail.take t) ∧ msr V starts trail.length < msr V [] (t + 1) ∧ t < trail.length := by
  have hcl := hL.pk
  obtain ⟨pc, hpc⟩ := mem_at.1 hcl.1
  have hs0 := at_lt ht
  have htp : t ≤ pc := by
    have := (hB.lv_cut hpc ht)
    by_cases e : t ≤ pc
    · exact e
    · have := this.2 (by omega); omega
  have n2 : opp (opp code) ∉ trail.take t := by
    rw [opp_opp]
    intro e
    obtain ⟨q, hq, hqc⟩ := mem_take.1 e
    have := hB.at_inj hqc hpc; omega
  have n1' : opp code ∉ trail.take t := fun e => hB.con _ hcl.1 (List.mem_of_mem_take e)
  have hLen := at_lt hpc
  have htl : (trail.take t).length = t := by simp; omega
  have hBb := hB.back ht
  have hBs := hBb.set (hL.rng hB (opp code) (by simp)) n1' n2
  have hYs := (hY.back hB ht hr).set hBb (r := none) n1' n2 (.inr ⟨rfl, .inl ⟨by simp, hD⟩⟩)
  have hPs := (hP.back hB ht hth).set (x := opp code) (l := 0) (by omega) n1' n2
  have hm := msr_learn hB ht (by omega) (by simp)
  simp only [List.take_zero, List.length_nil] at hBs hYs hm
  exact ⟨hBs, hYs, hPs, ⟨n1', n2⟩, hm, by omega⟩
end

/-- while a core is gathered: below the place a -/
structure Cor (wanted trail starts : List Nat) (lvl : Nat → Nat) (cl : List (List Int)) (G : List Int → Prop) (a : Nat) (core : List Nat) (seen : Nat → Bool) : Prop where
  sn : ∀ v, seen v = true → ∃ x, x ∈ trail.take a ∧ x / 2 = v ∧ 0 < lvl v
  want : ∀ c, c ∈ core → c ∈ wanted ∧ c ∈ trail
  out : ∀ c, c ∈ core → c ∉ trail.take a
  nd : core.Nodup
  imp : ∀ fr, (∀ c, c ∈ core → D cl fr c) → (∀ x, x ∈ trail.take a → seen (x / 2) = true → D cl fr x) → G fr

section
variable {V n : Nat} {row : Nat → List Nat} {cls : Nat → List Int} {cl : List (List Int)} {wanted trail starts : List Nat} {lvl : Nat → Nat} {rsn : Nat → Option Nat} {G : List Int → Prop} {a : Nat} {core : List Nat} {seen : Nat → Bool}

/-- codes that are false are marked, but those of level 0 -/
theorem Cor.start (hB : Base V trail starts lvl) (hz : ∀ x, x ∈ trail → lvl (x / 2) = 0 → D cl [] x) {codes : List Nat} (hc : ∀ y, y ∈ codes → opp y ∈ trail) (hs : ∀ v, seen v = true ↔ ∃ y, y ∈ codes ∧ y / 2 = v ∧ 0 < lvl v) : Cor wanted trail starts lvl cl (fun fr => ∀ y, y ∈ codes → D cl fr (opp y)) trail.length [] seen := by
  refine ⟨fun v hv => ?_, by simp, by simp, by simp, fun fr _ h2 y hy => ?_⟩
  · obtain ⟨y, hy, e, h0⟩ := (hs v).1 hv
    exact ⟨opp y, by rw [List.take_length]; exact hc y hy, by rw [opp_half]; exact e, h0⟩
  · by_cases h0 : 0 < lvl (y / 2)
    · exact h2 _ (by rw [List.take_length]; exact hc y hy) (by rw [opp_half]; exact (hs _).2 ⟨y, hy, rfl, h0⟩)
    · exact D.any (hz _ (hc y hy) (by rw [opp_half]; omega))
theorem take_step {l : List Nat} {p x : Nat} (h : l[p]? = some x) : ∀ y, y ∈ l.take (p + 1) ↔ y ∈ l.take p ∨ y = x := by
  intro y
  rw [mem_take, mem_take]
  constructor
  · rintro ⟨q, hq, hy⟩
    by_cases e : q = p
    · subst e; rw [h] at hy; cases hy; exact .inr rfl
    · exact .inl ⟨q, by omega, hy⟩
  · rintro (⟨q, hq, hy⟩ | rfl)
    · exact ⟨q, by omega, hy⟩
    · exact ⟨p, by omega, h⟩
theorem Cor.pass (h : Cor wanted trail starts lvl cl G (a + 1) core seen) {x : Nat} (hx : trail[a]? = some x) (hs : seen (x / 2) = false) (hB : Base V trail starts lvl) : Cor wanted trail starts lvl cl G a core seen := by
  refine ⟨fun v hv => ?_, h.want, fun c hc hin => h.out c hc ((take_step hx c).2 (.inl hin)), h.nd, fun fr h1 h2 => h.imp fr h1 fun y hy hsy => ?_⟩
  · obtain ⟨y, hy, e, h0⟩ := h.sn v hv
    rcases (take_step hx y).1 hy with hy | rfl
    · exact ⟨y, hy, e, h0⟩
    · rw [e, hv] at hs; cases hs
  · rcases (take_step hx y).1 hy with hy | rfl
    · exact h2 y hy hsy
    · rw [hs] at hsy; cases hsy
theorem at_notin (hB : Base V trail starts lvl) {x : Nat} (hx : trail[a]? = some x) : x ∉ trail.take a ∧ opp x ∉ trail.take a := by
  constructor
  · intro e
    obtain ⟨q, hq, hqx⟩ := mem_take.1 e
    have := hB.at_inj hqx hx; omega
  · intro e; exact hB.con _ (mem_at.2 ⟨a, hx⟩) (List.mem_of_mem_take e)
theorem var_ne (hB : Base V trail starts lvl) {x y : Nat} (hx : trail[a]? = some x) (hy : y ∈ trail.take a) : y / 2 ≠ x / 2 := by
  intro e
  obtain ⟨h1, h2⟩ := at_notin hB hx
  rcases half_eq e with e' | e'
  · subst e'; exact h1 hy
  · subst e'; exact h2 hy
theorem Cor.take (h : Cor wanted trail starts lvl cl G (a + 1) core seen) {x : Nat} (hx : trail[a]? = some x) (hB : Base V trail starts lvl) (hw : x ∈ wanted) : Cor wanted trail starts lvl cl G a (core ++ [x]) (updN seen (x / 2) false) := by
  obtain ⟨n1, n2⟩ := at_notin hB hx
  refine ⟨fun v hv => ?_, fun c hc => ?_, fun c hc hin => ?_, ?_, fun fr h1 h2 => h.imp fr (fun c hc => h1 c (by simp [hc])) fun y hy hsy => ?_⟩
  · by_cases e : v = x / 2
    · subst e; rw [updN_same] at hv; cases hv
    · rw [updN_other _ _ e] at hv
      obtain ⟨y, hy, e', h0⟩ := h.sn v hv
      rcases (take_step hx y).1 hy with hy | rfl
      · exact ⟨y, hy, e', h0⟩
      · exact absurd e'.symm e
  · rcases List.mem_append.1 hc with hc | hc
    · exact h.want c hc
    · simp at hc; subst hc; exact ⟨hw, mem_at.2 ⟨a, hx⟩⟩
  · rcases List.mem_append.1 hc with hc | hc
    · exact h.out c hc ((take_step hx c).2 (.inl hin))
    · simp at hc; subst hc; exact n1 hin
  · rw [List.nodup_append]
    refine ⟨h.nd, by simp, ?_⟩
    intro b hb c hc e
    simp at hc; subst hc; subst e
    exact h.out b hb ((take_step hx b).2 (.inr rfl))
  · rcases (take_step hx y).1 hy with hy | rfl
    · exact h2 y hy (by rw [updN_other _ _ (var_ne hB hx hy)]; exact hsy)
    · exact h1 y (by simp)
/-- a code that has a reason gives way to the reason's other codes -/
theorem Cor.open (h : Cor wanted trail starts lvl cl G (a + 1) core seen) {x : Nat} (hx : trail[a]? = some x) (hB : Base V trail starts lvl) (hR : Rows V n row cls cl) (hY : Why n row cl trail starts lvl rsn) {i : Nat} (hi : rsn (x / 2) = some i) {seen' : Nat → Bool}
    (hs : ∀ v, seen' v = true ↔ (v ≠ x / 2 ∧ seen v = true) ∨ ∃ y, y ∈ row i ∧ y / 2 ≠ x / 2 ∧ y / 2 = v ∧ 0 < lvl v) : Cor wanted trail starts lvl cl G a core seen' := by
  obtain ⟨h1, h2, h3, h4⟩ : i < n ∧ 0 < (row i).length ∧ (row i).getD 0 0 = x ∧ ∀ y, y ∈ row i → y ≠ x → opp y ∈ trail.take a := by
    rcases hY a x hx with ⟨j, k1, k2⟩ | ⟨k1, _⟩
    · rw [hi] at k1; cases k1; exact k2
    · rw [hi] at k1; cases k1
  refine ⟨fun v hv => ?_, h.want, fun c hc hin => h.out c hc ((take_step hx c).2 (.inl hin)), h.nd, fun fr k1 k2 => h.imp fr k1 fun y hy hsy => ?_⟩
  · rcases (hs v).1 hv with ⟨hne, hv⟩ | ⟨y, hy, hne, e, h0⟩
    · obtain ⟨y, hy, e', h0⟩ := h.sn v hv
      rcases (take_step hx y).1 hy with hy | rfl
      · exact ⟨y, hy, e', h0⟩
      · exact absurd e'.symm hne
    · exact ⟨opp y, h4 y hy (fun e2 => by subst e2; exact hne rfl), by rw [opp_half]; exact e, h0⟩
  · rcases (take_step hx y).1 hy with hy | rfl
    · exact k2 y hy ((hs _).2 (.inl ⟨var_ne hB hx hy, hsy⟩))
    · rw [← h3]
      refine unitD (hR.of i h1) (hR.mem i h1) (get_mem h2) fun z hz hne => ?_
      rw [h3] at hne
      have hzt := h4 z hz hne
      have hv := var_ne hB hx hzt
      rw [opp_half] at hv
      by_cases h0 : 0 < lvl (z / 2)
      · exact k2 _ hzt (by rw [opp_half]; exact (hs _).2 (.inr ⟨z, hz, hv, rfl, h0⟩))
      · obtain ⟨q, hq, hqz⟩ := mem_take.1 hzt
        exact D.any (hY.zero hB hR q _ hqz (by rw [opp_half]; omega))
theorem Cor.done (h : Cor wanted trail starts lvl cl G a core seen) (hB : Base V trail starts lvl) (ha : starts[0]? = some a) : (∀ v, seen v = false) ∧ ∀ fr, (∀ c, c ∈ core → D cl fr c) → G fr := by
  have hno : ∀ v, seen v = false := by
    intro v
    cases hv : seen v
    · rfl
    · obtain ⟨x, hx, e, h0⟩ := h.sn v hv
      obtain ⟨q, hq, hqx⟩ := mem_take.1 hx
      have := (hB.lv_cut hqx ha).2 hq
      rw [e] at this; omega
  exact ⟨hno, fun fr h1 => h.imp fr h1 fun x _ hs => by rw [hno] at hs; cases hs⟩
end

/-- a row all of whose codes are derived to be false clashes -/
theorem row_clash {V n : Nat} {row : Nat → List Nat} {cls : Nat → List Int} {cl : List (List Int)} (hR : Rows V n row cls cl) {i : Nat} (hi : i < n) {fr : List Int} (h : ∀ y, y ∈ row i → D cl fr (opp y)) : Clash cl fr := by
  have h2 := hR.two i hi
  have m0 := get_mem (r := row i) (i := 0) (by omega)
  exact clashD (hR.rng i hi _ m0).1 (unitD (hR.of i hi) (hR.mem i hi) m0 fun y hy _ => h y hy) (h _ m0)
/-- the clause of a core's opposites is plain -/
theorem core_plain {cl : List (List Int)} {core : List Nat} {c : List Int} {V : Nat} (hV : V ≤ 20000) (hr : ∀ x, x ∈ core → 2 ≤ x ∧ x < 2 * V + 2) (hc : ∀ x, x ∈ core → litOf (opp x) ∈ c) (h : ∀ fr, (∀ x, x ∈ core → D cl fr x) → Clash cl fr) : pl cl c = true := by
  refine pl_iff.2 (h _ fun x hx => ?_)
  have := hr x hx
  refine .start (List.mem_map.2 ⟨litOf (opp x), hc x hx, ?_⟩) (litOf_lit _ this.1 (by omega))
  rw [litOf_opp x this.1]; simp
/-- all is followed, and every variable is set: each row that isn't gone has a true code -/
theorem full {V n : Nat} {row : Nat → List Nat} {gone : Nat → Bool} {cls : Nat → List Int} {cl : List (List Int)} {trail starts : List Nat} {lvl : Nat → Nat} (hB : Base V trail starts lvl) (hR : Rows V n row cls cl) (hP : Pro n row gone trail trail.length lvl)
    (hf : ∀ v, 1 ≤ v → v ≤ V → 2 * v ∈ trail ∨ 2 * v + 1 ∈ trail) {i : Nat} (hi : i < n) (hg : gone i = false) : ∃ x, x ∈ row i ∧ x ∈ trail := by
  have h2 := hR.two i hi
  have m0 := get_mem (r := row i) (i := 0) (by omega)
  have m1 := get_mem (r := row i) (i := 1) (by omega)
  have r0 := hR.rng i hi _ m0
  by_cases e : (row i).getD 0 0 ∈ trail
  · exact ⟨_, m0, e⟩
  · have ho : opp ((row i).getD 0 0) ∈ trail := by
      rcases hf ((row i).getD 0 0 / 2) (by omega) (by omega) with h | h <;>
      · by_cases hp : (row i).getD 0 0 % 2 = 0
        · first
          | (rw [show 2 * ((row i).getD 0 0 / 2) = (row i).getD 0 0 from by omega] at h; exact absurd h e)
          | (unfold opp; rw [if_pos hp, show (row i).getD 0 0 + 1 = 2 * ((row i).getD 0 0 / 2) + 1 from by omega]; exact h)
        · first
          | (rw [show 2 * ((row i).getD 0 0 / 2) + 1 = (row i).getD 0 0 from by omega] at h; exact absurd h e)
          | (unfold opp; rw [if_neg hp, show (row i).getD 0 0 - 1 = 2 * ((row i).getD 0 0 / 2) from by omega]; exact h)
    have := (hP i hi hg 0 (by omega) (by rw [List.take_length]; exact ho)).1
    exact ⟨_, m1, this⟩
end Go.Proofs.YtojjjndhabjhdaaDoor.satS
