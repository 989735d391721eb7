/-
  Plain facts on patterns, with no program in sight: which texts a pattern matches (gm), and what the greedy search needs of it.
-/
import GoSem.Conv.IntToString
namespace Go.Proofs.YtlmfcacmfaihgaaDoor.globP

/-- the byte of the star -/
def star : UInt8 := 42

/-- does a pattern match a text? -/
def gm : List UInt8 → List UInt8 → Bool
  | [], [] => true
  | [], _ :: _ => false
  | c :: p, [] => if c = star then gm p [] else false
  | c :: p, d :: s => if c = star then (gm p (d :: s) || gm (c :: p) s) else (c == d && gm p s)
termination_by p s => p.length + s.length

theorem gm_nil (s : List UInt8) : gm [] s = s.isEmpty := by cases s <;> simp [gm]
theorem gm_star_nil (p : List UInt8) : gm (star :: p) [] = gm p [] := by simp [gm]
theorem gm_star_cons (p : List UInt8) (d : UInt8) (s : List UInt8) : gm (star :: p) (d :: s) = (gm p (d :: s) || gm (star :: p) s) := by
  rw [gm]; simp
theorem gm_lit_nil (c : UInt8) (p : List UInt8) (h : c ≠ star) : gm (c :: p) [] = false := by rw [gm, if_neg h]
theorem gm_lit (c d : UInt8) (p s : List UInt8) (h : c ≠ star) : gm (c :: p) (d :: s) = (c == d && gm p s) := by
  rw [gm, if_neg h]

/-- a star takes any text ahead -/
theorem gm_star (p : List UInt8) : ∀ s, gm (star :: p) s = true ↔ ∃ a b, s = a ++ b ∧ gm p b = true
  | [] => by
    rw [gm_star_nil]
    constructor
    · intro h; exact ⟨[], [], rfl, h⟩
    · rintro ⟨a, b, h, hb⟩
      obtain ⟨rfl, rfl⟩ : a = [] ∧ b = [] := by simpa using h.symm
      exact hb
  | d :: s => by
    rw [gm_star_cons, Bool.or_eq_true, gm_star p s]
    constructor
    · rintro (h | ⟨a, b, rfl, hb⟩)
      · exact ⟨[], _, rfl, h⟩
      · exact ⟨d :: a, b, rfl, hb⟩
    · rintro ⟨a, b, h, hb⟩
      cases a with
      | nil => left; rw [h]; exact hb
      | cons x a =>
        obtain ⟨rfl, rfl⟩ : d = x ∧ s = a ++ b := by simpa using h
        exact Or.inr ⟨a, b, rfl, hb⟩

/-- two patterns one behind the other -/
theorem gm_append (p q : List UInt8) : ∀ s, gm (p ++ q) s = true ↔ ∃ a b, s = a ++ b ∧ gm p a = true ∧ gm q b = true := by
  induction p with
  | nil =>
    intro s
    constructor
    · intro h; exact ⟨[], s, rfl, by simp [gm_nil], h⟩
    · rintro ⟨a, b, rfl, ha, hb⟩
      rw [gm_nil] at ha
      obtain rfl : a = [] := by simpa using ha
      exact hb
  | cons c p ih =>
    intro s
    by_cases hc : c = star
    · subst hc
      rw [List.cons_append, gm_star]
      constructor
      · rintro ⟨a, b, rfl, h⟩
        obtain ⟨x, y, rfl, hx, hy⟩ := (ih b).1 h
        exact ⟨a ++ x, y, by simp, (gm_star p _).2 ⟨a, x, rfl, hx⟩, hy⟩
      · rintro ⟨a, b, rfl, ha, hb⟩
        obtain ⟨x, y, rfl, hy⟩ := (gm_star p a).1 ha
        exact ⟨x, y ++ b, by simp, (ih _).2 ⟨y, b, rfl, hy, hb⟩⟩
    · cases s with
      | nil =>
        rw [List.cons_append, gm_lit_nil _ _ hc]
        constructor
        · intro h; cases h
        · rintro ⟨a, b, h, ha, hb⟩
          obtain ⟨rfl, rfl⟩ : a = [] ∧ b = [] := by simpa using h.symm
          rw [gm_lit_nil _ _ hc] at ha; cases ha
      | cons d s =>
        rw [List.cons_append, gm_lit _ _ _ _ hc, Bool.and_eq_true, ih s]
        constructor
        · rintro ⟨e, a, b, rfl, ha, hb⟩
          exact ⟨d :: a, b, rfl, by rw [gm_lit _ _ _ _ hc, Bool.and_eq_true]; exact ⟨e, ha⟩, hb⟩
        · rintro ⟨a, b, h, ha, hb⟩
          cases a with
          | nil => rw [gm_lit_nil _ _ hc] at ha; cases ha
          | cons x a =>
            obtain ⟨rfl, rfl⟩ : d = x ∧ s = a ++ b := by simpa using h
            rw [gm_lit _ _ _ _ hc, Bool.and_eq_true] at ha
            exact ⟨ha.1, a, b, rfl, ha.2, hb⟩

/-- how many bytes a pattern wants at the least -/
def need (p : List UInt8) : Nat := (p.filter fun c => c != star).length

theorem gm_need (p : List UInt8) : ∀ s, gm p s = true → need p ≤ s.length := by
  induction p with
  | nil => intro s _; simp [need]
  | cons c p ih =>
    intro s h
    by_cases hc : c = star
    · subst hc
      obtain ⟨a, b, rfl, hb⟩ := (gm_star p s).1 h
      have := ih b hb
      have e : need (star :: p) = need p := by simp [need]
      rw [e, List.length_append]; omega
    · have e : need (c :: p) = need p + 1 := by simp [need, hc]
      cases s with
      | nil => rw [gm_lit_nil _ _ hc] at h; cases h
      | cons d s =>
        rw [gm_lit _ _ _ _ hc, Bool.and_eq_true] at h
        have := ih s h.2
        rw [e, List.length_cons]; omega

/-- a text without a star matches itself alone -/
def plainT (l : List UInt8) : Prop := ∀ c, c ∈ l → c ≠ star

theorem gm_plain (l : List UInt8) (h : plainT l) : ∀ s, gm l s = true ↔ s = l := by
  induction l with
  | nil => intro s; rw [gm_nil]; simp
  | cons c l ih =>
    have hc : c ≠ star := h c (by simp)
    have hl : plainT l := fun x hx => h x (by simp [hx])
    intro s
    cases s with
    | nil => rw [gm_lit_nil _ _ hc]; simp
    | cons d s =>
      rw [gm_lit _ _ _ _ hc, Bool.and_eq_true, ih hl s]
      constructor
      · rintro ⟨h1, rfl⟩
        rw [beq_iff_eq.1 h1]
      · intro h1
        obtain ⟨rfl, rfl⟩ : d = c ∧ s = l := by simpa using h1
        exact ⟨beq_self_eq_true _, rfl⟩

theorem need_plain (l q : List UInt8) (h : plainT l) : need (l ++ q) = l.length + need q := by
  unfold need
  rw [List.filter_append, List.length_append]
  congr 2
  rw [List.filter_eq_self]
  intro a ha; simp [h a ha]

/-- what is plain ahead of both goes away -/
theorem gm_same (l q t : List UInt8) (h : plainT l) : gm (l ++ q) (l ++ t) = gm q t := by
  rw [Bool.eq_iff_iff, gm_append]
  constructor
  · rintro ⟨a, b, e, ha, hb⟩
    obtain rfl := (gm_plain l h a).1 ha
    obtain rfl : t = b := by simpa using e
    exact hb
  · intro hq; exact ⟨l, t, rfl, (gm_plain l h l).2 rfl, hq⟩

/-- STEP 1 of the greedy search: a new star behind what was matched -/
theorem greedy_star (l q t : List UInt8) (h : plainT l) : gm (star :: (l ++ star :: q)) (l ++ t) = gm (star :: q) t := by
  rw [Bool.eq_iff_iff, gm_star]
  constructor
  · rintro ⟨a, b, e, hb⟩
    obtain ⟨x, y, rfl, hx, hy⟩ := (gm_append l (star :: q) b).1 hb
    obtain rfl := (gm_plain l h x).1 hx
    obtain ⟨u, v, rfl, hv⟩ := (gm_star q y).1 hy
    have e2 : t = (x ++ t).drop x.length := by simp
    rw [e2, e]
    have e3 : a ++ (x ++ (u ++ v)) = (a ++ x ++ u) ++ v := by simp
    rw [e3, List.drop_append_of_le_length (by simp; omega)]
    exact (gm_star q _).2 ⟨_, v, rfl, hv⟩
  · intro hq
    exact ⟨[], l ++ t, rfl, (gm_append l (star :: q) _).2 ⟨l, t, rfl, (gm_plain l h l).2 rfl, hq⟩⟩

/-- STEP 2: the text is at its end -/
theorem greedy_end (l q : List UInt8) (h : plainT l) (hq : ∀ c r, q = c :: r → c ≠ star) : gm (star :: (l ++ q)) l = q.isEmpty := by
  rw [Bool.eq_iff_iff]
  constructor
  · intro hm
    cases q with
    | nil => rfl
    | cons c r =>
      have n1 := gm_need _ _ hm
      have n2 : need (star :: (l ++ c :: r)) = need (l ++ c :: r) := by simp [need]
      rw [n2, need_plain l _ h] at n1
      have n3 : need (c :: r) = need r + 1 := by simp [need, hq c r rfl]
      omega
  · intro hm
    obtain rfl : q = [] := by simpa using hm
    exact (gm_star _ _).2 ⟨[], l, rfl, by rw [List.append_nil]; exact (gm_plain l h l).2 rfl⟩

/-- STEP 3: what was tried at this place fails: the next place -/
theorem greedy_next (P : List UInt8) (d : UInt8) (t : List UInt8) (h : gm P (d :: t) = false) : gm (star :: P) (d :: t) = gm (star :: P) t := by
  rw [gm_star_cons, h, Bool.false_or]
theorem miss_end (l : List UInt8) (d : UInt8) (t : List UInt8) (h : plainT l) : gm l (l ++ d :: t) = false := by
  have := gm_same l [] (d :: t) h
  rw [List.append_nil] at this
  rw [this, gm_nil]; rfl
theorem miss (l q : List UInt8) (c d : UInt8) (t : List UInt8) (h : plainT l) (hc : c ≠ star) (hd : c ≠ d) : gm (l ++ c :: q) (l ++ d :: t) = false := by
  rw [gm_same _ _ _ h, gm_lit _ _ _ _ hc]; simp [hd]

theorem gm_lone (s : List UInt8) : gm [star] s = true := (gm_star [] s).2 ⟨s, [], by simp, by simp [gm]⟩

/-- the reference's table: a byte more of the pattern, at a text's end -/
theorem gm_snoc_star (p s : List UInt8) (d : UInt8) : gm (p ++ [star]) (s ++ [d]) = (gm p (s ++ [d]) || gm (p ++ [star]) s) := by
  rw [Bool.eq_iff_iff, Bool.or_eq_true, gm_append, gm_append]
  constructor
  · rintro ⟨a, b, e, ha, hb⟩
    rcases List.eq_nil_or_concat b with rfl | ⟨b', x, rfl⟩
    · left; rw [e]; simpa using ha
    · rw [List.concat_eq_append, ← List.append_assoc] at e
      have e1 : s = a ++ b' := (List.append_inj' e rfl).1
      exact Or.inr ⟨a, b', e1, ha, gm_lone _⟩
  · rintro (h | ⟨a, b, rfl, ha, hb⟩)
    · exact ⟨s ++ [d], [], by simp, h, gm_lone _⟩
    · exact ⟨a, b ++ [d], by simp, ha, gm_lone _⟩
theorem gm_snoc_star_nil (p : List UInt8) : gm (p ++ [star]) [] = gm p [] := by
  rw [Bool.eq_iff_iff, gm_append]
  constructor
  · rintro ⟨a, b, e, ha, hb⟩
    obtain ⟨rfl, rfl⟩ : a = [] ∧ b = [] := by simpa using e.symm
    exact ha
  · intro h; exact ⟨[], [], rfl, h, gm_lone _⟩
theorem gm_snoc_lit (p s : List UInt8) (c d : UInt8) (h : c ≠ star) : gm (p ++ [c]) (s ++ [d]) = (gm p s && d == c) := by
  have hp : plainT [c] := by intro x hx; simp at hx; rw [hx]; exact h
  rw [Bool.eq_iff_iff, Bool.and_eq_true, gm_append]
  constructor
  · rintro ⟨a, b, e, ha, hb⟩
    obtain rfl := (gm_plain [c] hp b).1 hb
    obtain ⟨rfl, e2⟩ := List.append_inj' e rfl
    exact ⟨ha, by simpa using e2⟩
  · rintro ⟨h1, h2⟩
    obtain rfl : d = c := by simpa using h2
    exact ⟨s, [d], rfl, h1, (gm_plain [d] hp _).2 rfl⟩
theorem gm_snoc_lit_nil (p : List UInt8) (c : UInt8) (h : c ≠ star) : gm (p ++ [c]) [] = false := by
  have hp : plainT [c] := by intro x hx; simp at hx; rw [hx]; exact h
  rw [Bool.eq_false_iff]
  intro hm
  obtain ⟨a, b, e, ha, hb⟩ := (gm_append p [c] []).1 hm
  obtain ⟨rfl, rfl⟩ : a = [] ∧ b = [] := by simpa using e.symm
  rw [gm_plain [c] hp] at hb; cases hb

end Go.Proofs.YtlmfcacmfaihgaaDoor.globP
