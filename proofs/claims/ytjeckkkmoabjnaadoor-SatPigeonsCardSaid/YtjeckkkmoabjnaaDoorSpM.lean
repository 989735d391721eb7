/-
  Plain: the chapter's example; so many pigeons in so many holes.
  A row of clauses beside the clause that grows: what appends do to them.
-/
import Derived.Test.YtjeckkkmoabjnaaDoorSmM
import Derived.Test.YtjeckkkmoabjnaaDoorPsM
import Derived.Test.YtjeckkkmoabjnaaDoorProofW
namespace Go.Proofs.YtjeckkkmoabjnaaDoor.satPg
set_option linter.unusedSimpArgs false
set_option linter.unusedVariables false
open proofP proofQ proofR owns cls satP satA satX satCa satCf satSe proofN proofO proofS proofT satLg satMa

def c3 : List (List Int) := [[1, 2], [-1, 2], [1, -2]]
def c4 : List (List Int) := [[1, 2], [-1, 2], [1, -2], [-1, -2]]
theorem psb3 : Psb c3 2 [] := ⟨[true, true], rfl, by decide, by simp⟩
theorem two {m : List Bool} (h : m.length = 2) : ∃ a b, m = [a, b] := by
  cases m with
  | nil => cases h
  | cons a m =>
    cases m with
    | nil => cases h
    | cons b m =>
      cases m with
      | nil => exact ⟨a, b, rfl⟩
      | cons d m => simp at h
theorem mod3 {m : List Bool} (h : m.length = 2) (h1 : allIn c3 m = true) : m = [true, true] := by
  obtain ⟨a, b, rfl⟩ := two h
  cases a <;> cases b <;> first | rfl | (revert h1; decide)
theorem psb4 : ¬ Psb c4 2 [] := by
  rintro ⟨m, h, h1, _⟩
  obtain ⟨a, b, rfl⟩ := two h
  cases a <;> cases b <;> (revert h1; decide)
theorem core_nil {K : List Nat} (h : ∀ x, x ∈ K → litOf x ∈ ([] : List Int)) : K = [] := by
  cases K with
  | nil => rfl
  | cons x K => have := h x (by simp); cases this
theorem clz_nil : clz [] = [] := by unfold clz srt; simp

/-! ### pigeons -/
/-- pigeon p in hole h -/
def pat (H p h : Nat) : Int := (p : Int) * H + h + 1
def pq (H p h q : Nat) : List Int := [-(pat H p h), -(pat H q h)]
def pin (H p h n : Nat) : List (List Int) := (List.range n).map (pq H p h)
def pmid (H p n : Nat) : List (List Int) := (List.range n).flatMap fun h => pin H p h p
def prow (H p n : Nat) : List Int := (List.range n).map (pat H p)
def pout (H n : Nat) : List (List Int) := (List.range n).flatMap fun p => pmid H p H ++ [prow H p H]
section
variable {H P p h n : Nat}
theorem pin_succ : pin H p h (n + 1) = pin H p h n ++ [pq H p h n] := by unfold pin; rw [List.range_succ, List.map_append]; rfl
theorem pmid_succ : pmid H p (n + 1) = pmid H p n ++ pin H p n p := by unfold pmid; rw [List.range_succ, List.flatMap_append]; simp
theorem prow_succ : prow H p (n + 1) = prow H p n ++ [pat H p n] := by unfold prow; rw [List.range_succ, List.map_append]; rfl
theorem pout_succ : pout H (n + 1) = pout H n ++ pmid H n H ++ [prow H n H] := by unfold pout; rw [List.range_succ, List.flatMap_append]; simp
theorem pin_len : (pin H p h n).length = n := by simp [pin]
theorem prow_len : (prow H p n).length = n := by simp [prow]
theorem pmid_len : (pmid H p n).length = n * p := by
  induction n with
  | zero => simp [pmid]
  | succ n ih => rw [pmid_succ, List.length_append, ih, pin_len, Nat.succ_mul]
theorem pout_len : (pout H n).length ≤ n * (H * n + 1) := by
  have key : ∀ k, k ≤ n → (pout H k).length ≤ k * (H * n + 1) := by
    intro k
    induction k with
    | zero => intro _; simp [pout]
    | succ k ih =>
      intro hk
      rw [pout_succ, List.length_append, List.length_append, pmid_len, List.length_singleton, Nat.succ_mul]
      have := ih (by omega)
      have h2 : H * k ≤ H * n := Nat.mul_le_mul_left _ (by omega)
      omega
  exact key n (Nat.le_refl _)
theorem pout_mem {c : List Int} : c ∈ pout H P ↔ ∃ p, p < P ∧ ((∃ h q, h < H ∧ q < p ∧ c = pq H p h q) ∨ c = prow H p H) := by
  unfold pout
  rw [List.mem_flatMap]
  constructor
  · rintro ⟨p, hp, hc⟩
    rw [List.mem_range] at hp
    refine ⟨p, hp, ?_⟩
    rcases List.mem_append.1 hc with hc | hc
    · unfold pmid at hc
      obtain ⟨h, hh, hc⟩ := List.mem_flatMap.1 hc
      unfold pin at hc
      obtain ⟨q, hq, rfl⟩ := List.mem_map.1 hc
      exact .inl ⟨h, q, List.mem_range.1 hh, List.mem_range.1 hq, rfl⟩
    · exact .inr (List.mem_singleton.1 hc)
  · rintro ⟨p, hp, hc⟩
    refine ⟨p, List.mem_range.2 hp, List.mem_append.2 ?_⟩
    rcases hc with ⟨h, q, hh, hq, rfl⟩ | rfl
    · refine .inl (List.mem_flatMap.2 ⟨h, List.mem_range.2 hh, List.mem_map.2 ⟨q, List.mem_range.2 hq, rfl⟩⟩)
    · exact .inr (by simp)
theorem pat_rng (hp : p < P) (hh : h < H) : 1 ≤ pat H p h ∧ pat H p h ≤ (P * H : Nat) := by
  unfold pat
  have h1 : (p + 1) * H ≤ P * H := Nat.mul_le_mul_right _ hp
  rw [Nat.succ_mul] at h1
  have e : (p : Int) * H = ((p * H : Nat) : Int) := by push_cast; rfl
  rw [e]
  omega
theorem pout_in {c : List Int} (hc : c ∈ pout H P) : ∀ x, x ∈ c → x ≠ 0 ∧ -((P * H : Nat) : Int) ≤ x ∧ x ≤ (P * H : Nat) := by
  obtain ⟨p, hp, h1⟩ := pout_mem.1 hc
  intro x hx
  rcases h1 with ⟨h, q, hh, hq, rfl⟩ | rfl
  · have a := pat_rng hp hh
    have b := pat_rng (Nat.lt_trans hq hp) hh
    unfold pq at hx
    simp only [List.mem_cons, List.not_mem_nil, or_false] at hx
    rcases hx with rfl | rfl <;> omega
  · unfold prow at hx
    obtain ⟨h, hh, rfl⟩ := List.mem_map.1 hx
    have a := pat_rng hp (List.mem_range.1 hh)
    omega
theorem pout_lens {c : List Int} (hc : c ∈ pout H P) : c.length ≤ H + 2 := by
  obtain ⟨p, hp, h1⟩ := pout_mem.1 hc
  rcases h1 with ⟨h, q, hh, hq, rfl⟩ | rfl
  · simp [pq]
  · rw [prow_len]; omega
/-- more pigeons than holes -/
theorem pig_no (hl : P * H ≤ 20000) (hPH : H < P) : ¬ Psb (pout H P) (P * H) [] := by
  rintro ⟨m, hm, h1, _⟩
  unfold allIn at h1
  have h2 := List.all_eq_true.1 h1
  have hf : ∀ p, ∃ f, p < P → f < H ∧ holds (pat H p f) m = true := by
    intro p
    by_cases hp : p < P
    · have h3 := h2 (prow H p H) (pout_mem.2 ⟨p, hp, .inr rfl⟩)
      unfold trueIn at h3
      obtain ⟨x, hx, h4⟩ := List.any_eq_true.1 h3
      unfold prow at hx
      obtain ⟨h, hh, rfl⟩ := List.mem_map.1 hx
      exact ⟨h, fun _ => ⟨List.mem_range.1 hh, h4⟩⟩
    · exact ⟨0, fun h => absurd h hp⟩
  have ⟨f, hf⟩ := Classical.axiomOfChoice hf
  have key : ∀ p q, p < P → q < p → f p ≠ f q := by
    intro p q hp hq e
    have a := hf p hp
    have b := hf q (Nat.lt_trans hq hp)
    rw [← e] at b
    have h3 := h2 (pq H p (f p) q) (pout_mem.2 ⟨p, hp, .inl ⟨f p, q, a.1, hq, rfl⟩⟩)
    have ra := pat_rng hp a.1
    have rb := pat_rng (Nat.lt_trans hq hp) a.1
    unfold trueIn pq at h3
    simp only [List.any_cons, List.any_nil, Bool.or_false, Bool.or_eq_true] at h3
    rcases h3 with h3 | h3
    · exact (holds_neg m ⟨by omega, by omega, by omega⟩).1 h3 a.2
    · exact (holds_neg m ⟨by omega, by omega, by omega⟩).1 h3 b.2
  have hn : ((List.range P).map f).Nodup := by
    rw [List.Nodup, List.pairwise_map]
    have h5 : (List.range P).Pairwise (· < ·) := List.pairwise_lt_range
    refine List.Pairwise.imp_of_mem ?_ h5
    intro a b ha hb hab e
    exact key b a (List.mem_range.1 hb) hab e.symm
  have := nodup_bound hn (m := H) fun x hx => by
    obtain ⟨p, hp, rfl⟩ := List.mem_map.1 hx
    exact (hf p (List.mem_range.1 hp)).1
  rw [List.length_map, List.length_range] at this
  omega
/-- a hole for each -/
theorem pig_yes (hl : P * H ≤ 20000) (hPH : P ≤ H) : Psb (pout H P) (P * H) [] := by
  refine ⟨(List.range (P * H)).map fun i => decide (i / H = i % H), by simp, ?_, by simp⟩
  have hh : ∀ p h, p < P → h < H → (holds (pat H p h) ((List.range (P * H)).map fun i => decide (i / H = i % H)) = true ↔ p = h) := by
    intro p h hp hh
    have r := pat_rng hp hh
    unfold holds
    rw [decide_eq_true (show lit (pat H p h) from ⟨by omega, by omega, by omega⟩), Bool.true_and, if_neg (by omega), List.length_map, List.length_range, decide_eq_true r.2, Bool.true_and]
    have e : (pat H p h - 1).toNat = p * H + h := by unfold pat; have : (p : Int) * H = ((p * H : Nat) : Int) := by push_cast; rfl
                                                     omega
    have hlt : p * H + h < P * H := by
      have h1 : (p + 1) * H ≤ P * H := Nat.mul_le_mul_right _ hp
      rw [Nat.succ_mul] at h1
      omega
    rw [e, List.getD_eq_getElem?_getD, List.getElem?_map, List.getElem?_range hlt]
    have e1 : (p * H + h) / H = p := by rw [Nat.add_comm, Nat.add_mul_div_right _ _ (by omega), Nat.div_eq_of_lt hh]; omega
    have e2 : (p * H + h) % H = h := by rw [Nat.add_comm, Nat.add_mul_mod_self_right, Nat.mod_eq_of_lt hh]
    show decide _ = true ↔ _
    rw [e1, e2]
    simp
  unfold allIn
  refine List.all_eq_true.2 fun c hc => ?_
  obtain ⟨p, hp, h1⟩ := pout_mem.1 hc
  unfold trueIn
  rcases h1 with ⟨h, q, hh', hq, rfl⟩ | rfl
  · by_cases e : p = h
    · refine List.any_eq_true.2 ⟨-(pat H q h), by simp [pq], ?_⟩
      have r := pat_rng (Nat.lt_trans hq hp) hh'
      refine (holds_neg _ ⟨by omega, by omega, by omega⟩).2 fun h3 => ?_
      have := (hh q h (Nat.lt_trans hq hp) hh').1 h3
      omega
    · refine List.any_eq_true.2 ⟨-(pat H p h), by simp [pq], ?_⟩
      have r := pat_rng hp hh'
      refine (holds_neg _ ⟨by omega, by omega, by omega⟩).2 fun h3 => ?_
      exact e ((hh p h hp hh').1 h3)
  · exact List.any_eq_true.2 ⟨pat H p p, List.mem_map.2 ⟨p, List.mem_range.2 (by omega), rfl⟩, (hh p p hp (by omega)).2 rfl⟩
end
end Go.Proofs.YtjeckkkmoabjnaaDoor.satPg
namespace Go.Proofs.YtjeckkkmoabjnaaDoor.satPh
open Go.ChangeShapes Go.WideShapes Go.ChangeAt Go.RowKit proofP proofQ proofR owns proofN proofO proofS proofT proofU proofW cls
set_option linter.unusedSimpArgs false
set_option linter.unusedVariables false

/-- integers that do not lie in the blocks that are written -/
def IntsIn (w : World) (bad : Nat → Prop) (v : Value) (l : List Int) : Prop :=
  ∃ ao cap b off, v = .slice ao l.length cap ∧ l.length ≤ maxLen ∧ (l ≠ [] → ao = some ⟨b, off, none⟩ ∧ b < w.heap.size ∧ ¬ bad b) ∧ (∀ i, i < l.length → w.cell? ⟨b, off + i, none⟩ = some (.int .i64 (l.getD i 0))) ∧ ∀ x ∈ l, In64 x
theorem IntsIn.at {w : World} {bad : Nat → Prop} {v : Value} {l : List Int} (h : IntsIn w bad v l) : IntsAt w w.heap.size v l := by
  obtain ⟨ao, cap, b, off, rfl, hm, ha, hc, hs⟩ := h
  exact ⟨ao, cap, b, off, rfl, hm, fun h => ⟨(ha h).1, (ha h).2.1⟩, hc, hs⟩
theorem IntsIn.grown {w w' : World} {bad bad' : Nat → Prop} {v : Value} {l : List Int} {row : Option Nat} (h : IntsIn w bad v l) (hg : w.grownBy w' row) (hr : ∀ b, row = some b → bad b ∨ w.heap.size ≤ b) (hb : ∀ b, bad' b → bad b ∨ w.heap.size ≤ b) : IntsIn w' bad' v l := by
  obtain ⟨ao, cap, b, off, rfl, hm, ha, hc, hs⟩ := h
  refine ⟨ao, cap, b, off, rfl, hm, fun h => ⟨(ha h).1, Nat.lt_of_lt_of_le (ha h).2.1 hg.size, fun e => ?_⟩, fun i hi => ?_, hs⟩
  · rcases hb b e with e | e
    · exact (ha h).2.2 e
    · have := (ha h).2.1; omega
  · have h3 := ha (by intro h0; rw [h0] at hi; simp at hi)
    rw [World.cell?_of_block (w := w) (hg.block b h3.2.1 (fun e => (hr b e.symm).elim h3.2.2 fun e => absurd h3.2.1 (by omega)))]
    exact hc i hi
theorem ints_in {w : World} {B : Nat} {bad : Nat → Prop} {v : Value} {l : List Int} (h : IntsR w B v l) (hs : ∀ x ∈ l, In64 x) (hb : ∀ b, v.ownBlock = some b → ¬ bad b) : IntsIn w bad v l := by
  have h' : w.ownsRow B 3 1 v l.length (l.map (Value.int .i64)) := h
  rcases h'.2 with ⟨rfl, h0⟩ | ⟨g, cap, cur, rfl, hbb, hg, hn, hm, hc, ht⟩
  · obtain rfl : l = [] := List.length_eq_zero_iff.1 h0
    exact ⟨none, 0, 0, 0, rfl, Nat.zero_le _, fun h => absurd rfl h, fun i hi => absurd hi (Nat.not_lt_zero _), by simp⟩
  · refine ⟨_, cap, g, 0, rfl, by omega, fun _ => ⟨rfl, (Array.getElem?_eq_some_iff.1 hg).1, hb g rfl⟩, fun i hi => ?_, hs⟩
    have := World.ownsRow.cellAt h' i (by omega)
    rw [Nat.zero_add, this, List.getElem?_map, List.getElem?_eq_getElem hi, List.getD_eq_getElem?_getD, List.getElem?_eq_getElem hi]; rfl

/-- the blocks of two rows -/
def Two (a b : Value) (x : Nat) : Prop := a.ownBlock = some x ∨ b.ownBlock = some x
/-- a row of clauses, and a clause that grows -/
structure Pg (w : World) (B : Nat) (cv : Value) (cl : List (List Int)) (ov : Value) (o : List Int) : Prop where
  row : ∃ vl, w.ownsRow B 38 1 cv cl.length vl ∧ ∀ i, i < cl.length → IntsIn w (Two cv ov) (vl.getD i undef) (cl.getD i [])
  own : IntsR w B ov o
  ne : ∀ b, cv.ownBlock = some b → ov.ownBlock ≠ some b
theorem kept_ne {w w' : World} {B : Nat} {e : TypeId} {v : Value} {n : Nat} {xs : List Value} {row : Option Nat} (h : w.ownsRow B e 1 v n xs) (hg : w.grownBy w' row) (hr : ∀ b, v.ownBlock = some b → row ≠ some b) : w'.ownsRow B e 1 v n xs :=
  h.kept hg (by
    cases hv : v.ownBlock with
    | none => exact .inl rfl
    | some b => exact .inr (fun hh => hr b hv hh.symm))
section
variable {w w' : World} {B : Nat} {cv ov : Value} {cl : List (List Int)} {o : List Int}
theorem Pg.at (h : Pg w B cv cl ov o) : ClsAt w w.heap.size cv cl := by
  obtain ⟨⟨vl, h1, h2⟩, _, _⟩ := h
  exact ClsAt.ofRow h1 (fun i hi => (h2 i hi).at)
theorem Pg.below (h : Pg w B cv cl ov o) (hb : Below w.heap.size w w') : Pg w' B cv cl ov o := by
  obtain ⟨⟨vl, h1, h2⟩, h3, h4⟩ := h
  have hg := grown_below hb none
  exact ⟨⟨vl, kept_ne h1 hg (fun b _ h => by cases h), fun i hi => (h2 i hi).grown hg (fun b h => by cases h) fun b h => .inl h⟩, kept_ne h3 hg (fun b _ h => by cases h), h4⟩
theorem Pg.alloc (h : Pg w B cv cl ov o) (ob : Obj) : Pg (w.alloc ob) B cv cl ov o := h.below ((Below.refl _ _).alloc (Nat.le_refl _) _)
theorem Pg.start (w : World) (hB : B ≤ w.heap.size) : Pg (w.alloc (.cells #[] 38)) B (.slice (some ⟨w.heap.size, 0, none⟩) 0 0) [] (.slice none 0 0) [] :=
  ⟨⟨[], World.ownsRow.mono (own_empty w _) hB, fun i hi => absurd hi (Nat.not_lt_zero _)⟩, ⟨rfl, .inl ⟨rfl, rfl⟩⟩, fun b _ h => by cases h⟩
/-- the clause is done -/
theorem Pg.drop (h : Pg w B cv cl ov o) : Pg w B cv cl (.slice none 0 0) [] := by
  obtain ⟨⟨vl, h1, h2⟩, h3, h4⟩ := h
  refine ⟨⟨vl, h1, fun i hi => (h2 i hi).grown (World.grownBy.refl _ none) (fun b h => by cases h) fun b h => ?_⟩, ⟨rfl, .inl ⟨rfl, rfl⟩⟩, fun b _ h => by cases h⟩
  rcases h with h | h
  · exact .inl (.inl h)
  · cases h
theorem Pg.done (h : Pg w B cv cl ov o) (hs : ∀ x ∈ o, In64 x) : IntsIn w (Two cv (.slice none 0 0)) ov o := by
  refine ints_in h.own hs fun b hb e => ?_
  rcases e with e | e
  · exact h.ne b e hb
  · cases e
/-- another begins -/
theorem Pg.fresh (h : Pg w B cv cl ov o) (hB : B ≤ w.heap.size) : Pg (w.alloc (.cells #[] 3)) B cv cl (.slice (some ⟨w.heap.size, 0, none⟩) 0 0) [] := by
  have hd := h.drop
  obtain ⟨⟨vl, h1, h2⟩, h3, h4⟩ := hd
  have hg := grown_below ((Below.refl w.heap.size w).alloc (Nat.le_refl _) (.cells #[] 3)) none
  refine ⟨⟨vl, kept_ne h1 hg (fun b _ h => by cases h), fun i hi => (h2 i hi).grown hg (fun b h => by cases h) fun b h => ?_⟩, World.ownsRow.mono (IntsR.empty w) hB, fun b hb e => ?_⟩
  · rcases h with h | h
    · exact .inl (.inl h)
    · cases h; exact .inr (Nat.le_refl _)
  · cases e
    exact absurd (h1.lt _ hb).2 (Nat.lt_irrefl _)
/-- where what is new may lie -/
theorem Pg.new (h : Pg w B cv cl ov o) : ∀ b, Two cv ov b → b < w.heap.size := by
  obtain ⟨⟨vl, h1, h2⟩, h3, h4⟩ := h
  have h3' : w.ownsRow B 3 1 ov o.length (o.map (Value.int .i64)) := h3
  intro b hb
  rcases hb with hb | hb
  · exact (h1.lt _ hb).2
  · exact (h3'.lt _ hb).2
/-- a row of two literals, and a row of the one clause, made for an append -/
theorem Pg.pair (h : Pg w B cv cl ov o) (x y : Int) (hx : In64 x) (hy : In64 y) :
    Pg ((w.alloc (.cells #[.int .i64 x, .int .i64 y] 3)).alloc (.cells #[.slice (some ⟨w.heap.size, 0, none⟩) 2 2] 38)) B cv cl ov o ∧
    ((w.alloc (.cells #[.int .i64 x, .int .i64 y] 3)).alloc (.cells #[.slice (some ⟨w.heap.size, 0, none⟩) 2 2] 38)).cell? ⟨w.heap.size + 1, 0, none⟩ = some (.slice (some ⟨w.heap.size, 0, none⟩) 2 2) ∧
    IntsIn ((w.alloc (.cells #[.int .i64 x, .int .i64 y] 3)).alloc (.cells #[.slice (some ⟨w.heap.size, 0, none⟩) 2 2] 38)) (Two cv ov) (.slice (some ⟨w.heap.size, 0, none⟩) 2 2) [x, y] := by
  have s1 : (w.alloc (.cells #[.int .i64 x, .int .i64 y] 3)).heap.size = w.heap.size + 1 := by simp
  have hw1 : Whole (w.alloc (.cells #[.int .i64 x, .int .i64 y] 3)) w.heap.size 3 ([x, y].map (Value.int .i64)) := Whole.new w 3 ([x, y].map (Value.int .i64))
  have hw2 := hw1.below ((Below.refl _ _).alloc (Nat.le_refl _) (.cells #[.slice (some ⟨w.heap.size, 0, none⟩) 2 2] 38)) (by show w.heap.size < (w.alloc (.cells #[.int .i64 x, .int .i64 y] 3)).heap.size; omega)
  have hw3 := Whole.new (w.alloc (.cells #[.int .i64 x, .int .i64 y] 3)) 38 [.slice (some ⟨w.heap.size, 0, none⟩) 2 2]
  rw [s1] at hw3
  refine ⟨(h.alloc _).alloc _, hw3.cell 0, ⟨_, 2, w.heap.size, 0, rfl, by unfold maxLen; simp, fun _ => ⟨rfl, by simp; omega, fun e => absurd (h.new _ e) (Nat.lt_irrefl _)⟩, fun i hi => ?_, fun z hz => ?_⟩⟩
  · rw [Nat.zero_add, hw2.cell i, List.getElem?_map, List.getElem?_eq_getElem hi, List.getD_eq_getElem?_getD, List.getElem?_eq_getElem hi]; rfl
  · simp only [List.mem_cons, List.not_mem_nil, or_false] at hz
    rcases hz with rfl | rfl
    · exact hx
    · exact hy
/-- a row of the clause that is done -/
theorem Pg.last (h : Pg w B cv cl (.slice none 0 0) []) {dv : Value} {d : List Int} (hd : IntsIn w (Two cv (.slice none 0 0)) dv d) :
    Pg (w.alloc (.cells #[dv] 38)) B cv cl (.slice none 0 0) [] ∧ (w.alloc (.cells #[dv] 38)).cell? ⟨w.heap.size, 0, none⟩ = some dv ∧ IntsIn (w.alloc (.cells #[dv] 38)) (Two cv (.slice none 0 0)) dv d := by
  have hg := grown_below ((Below.refl w.heap.size w).alloc (Nat.le_refl _) (.cells #[dv] 38)) none
  exact ⟨h.alloc _, (Whole.new w 38 [dv]).cell 0, hd.grown hg (fun b h => by cases h) fun b h => .inl h⟩
end

section
variable (w : World)
/-- append(clauses, d) -/
theorem app_cls {ops : Array Oper} {rest : List Oper} {oo : Oper} {a : Act} {Q : Exit → Act → World → Prop} (hgd : oo.guard = none) (s x : Operand)
    (ho : oo.op = .call { callee := .builtin .append, args := #[s, x], argTypes := #[22, 22] })
    (B : Nat) (cv dv ov : Value) (xb : Nat) (cl : List (List Int)) (d o : List Int) (hs : a.eval s = cv) (hr : Pg w B cv cl ov o) (hx : a.eval x = .slice (some ⟨xb, 0, none⟩) 1 1) (hxc : w.cell? ⟨xb, 0, none⟩ = some dv) (hxi : IntsIn w (Two cv ov) dv d)
    (h1 : cl.length ≤ 100000) (hB : B ≤ w.heap.size)
    (h : ∀ ao c w', Pg w' B (.slice ao (cl.length + 1) c) (cl ++ [d]) ov o → Below B w w' → w.grownBy w' cv.ownBlock → wpList Tryd.prog ops Q rest (a.put oo.dst (.slice ao (cl.length + 1) c)) w') :
    wpList Tryd.prog ops Q (oo :: rest) a w := by
  obtain ⟨i0, hi0, hz0, hz1, hz2⟩ := info_parts infoC
  have hnw := hr.new
  obtain ⟨⟨vl, ho1, hin⟩, hown, hne⟩ := hr
  have hown' : w.ownsRow B 3 1 ov o.length (o.map (Value.int .i64)) := hown
  have hlen : vl.length = cl.length := by have := ho1.1; omega
  refine wpList_append_opt w hgd s x _ ho B 38 i0 (.slice none 0 0) 24 Tryd.underlying22 hi0 hz0 hz1 hz2 rfl cv cl.length vl hs ho1 (some ⟨xb, 0, none⟩) 1 1 [dv] hx (fun h0 => by cases h0) rfl ?_ ?_ (by unfold maxLen; omega) (by omega) hB ?_
  · intro ad had j u hu
    cases had
    have hj : j = 0 := by have := (List.getElem?_eq_some_iff.1 hu).1; simp at this; exact this
    subst hj
    simp at hu; subst hu
    rw [proofT.clsadd]; exact hxc
  · intro u hu
    simp at hu; subst hu
    exact ints_one hxi.at
  · intro v' w' ho' hg' hat
    have hb : Below B w w' := (Below.refl B w).grown hg' hB (fun j hj => (ho1.lt j hj).1)
    obtain ⟨a3, c3, hv3, _, _, _⟩ := cap_row ho'
    subst hv3
    have hbad : ∀ b, Two (.slice a3 (cl.length + 1) c3) ov b → Two cv ov b ∨ w.heap.size ≤ b := fun b hb => by
      rcases hb with hb | hb
      · rcases hat with e | e
        · exact .inl (.inl (e.symm.trans hb))
        · rw [e] at hb; cases hb; exact .inr (Nat.le_refl _)
      · exact .inl (.inr hb)
    refine h a3 c3 w' ⟨⟨vl ++ [dv], by rw [List.length_append]; exact ho', fun i hi => ?_⟩, ?_, fun b hb e => ?_⟩ hb hg'
    · rw [List.length_append] at hi
      by_cases hlt : i < cl.length
      · rw [List.getD_eq_getElem?_getD, List.getElem?_append_left (by omega), List.getD_eq_getElem?_getD, List.getElem?_append_left hlt, ← List.getD_eq_getElem?_getD, ← List.getD_eq_getElem?_getD]
        exact (hin i hlt).grown hg' (fun b h => .inl (.inl h)) hbad
      · have e : i = cl.length := by simp at hi; omega
        subst e
        rw [List.getD_eq_getElem?_getD, List.getElem?_append_right (by omega), List.getD_eq_getElem?_getD, List.getElem?_append_right (by omega), hlen, Nat.sub_self]
        exact hxi.grown hg' (fun b h => .inl (.inl h)) hbad
    · exact kept_ne hown' hg' fun b hb h => hne b h hb
    · rcases hat with e2 | e2
      · exact hne b (e2.symm.trans hb) e
      · rw [e2] at hb; cases hb
        exact absurd (hown'.lt _ e).2 (Nat.lt_irrefl _)
/-- c = append(c, x) -/
theorem app_int {ops : Array Oper} {rest : List Oper} {oo : Oper} {a : Act} {Q : Exit → Act → World → Prop} (hgd : oo.guard = none) (s x : Operand) (t : TypeId)
    (ho : oo.op = .call { callee := .builtin .append, args := #[s, x], argTypes := #[t, t] }) (ht : Tryd.prog.underlying t = some (.slice 3))
    (B : Nat) (cv ov xv : Value) (cl : List (List Int)) (o m : List Int) (hs : a.eval s = ov) (hr : Pg w B cv cl ov o) (hx : a.eval x = xv) (hxv : IntsAt w w.heap.size xv m) (hnil : Nilv xv)
    (h1 : o.length ≤ 1000000) (h2 : m.length ≤ 1000000) (hB : B ≤ w.heap.size)
    (h : ∀ ao c w', Pg w' B cv cl (.slice ao (o.length + m.length) c) (o ++ m) → Below B w w' → w.grownBy w' ov.ownBlock → wpList Tryd.prog ops Q rest (a.put oo.dst (.slice ao (o.length + m.length) c)) w') :
    wpList Tryd.prog ops Q (oo :: rest) a w := by
  obtain ⟨i0, hi0, hz0, hz1, hz2⟩ := info_parts infoIS
  obtain ⟨⟨vl, ho1, hin⟩, hown, hne⟩ := hr
  obtain ⟨ao, cap, b, off, rfl, _, ha, hc, hn⟩ := hxv
  have hown' : w.ownsRow B 3 1 ov o.length (o.map (Value.int .i64)) := hown
  refine wpList_append_opt w hgd s x t ho B 3 i0 (.int .i64 0) 8 ht hi0 hz0 hz1 hz2 rfl ov o.length (o.map (Value.int .i64)) hs hown' ao m.length cap (m.map (Value.int .i64)) hx (fun h0 => ?_) (by simp) ?_ ?_ (by unfold maxLen; omega) (by omega) hB ?_
  · subst h0; exact hnil _ _ rfl
  · intro ad had j u hu
    rw [List.getElem?_map] at hu
    obtain ⟨z, hz, rfl⟩ := Option.map_eq_some_iff.1 hu
    have hj := (List.getElem?_eq_some_iff.1 hz).1
    obtain ⟨rfl, _⟩ := ha (by intro h0; rw [h0] at hj; simp at hj)
    cases had
    rw [proofT.clsadd, hc j hj, List.getD_eq_getElem?_getD, hz]; rfl
  · intro u hu
    obtain ⟨j, hj, rfl⟩ := List.mem_map.1 hu
    rfl
  · intro v' w' ho' hg' hat
    have hb : Below B w w' := (Below.refl B w).grown hg' hB (fun j hj => (hown'.lt j hj).1)
    obtain ⟨a3, c3, hv3, _, _, _⟩ := cap_row ho'
    subst hv3
    have hbad : ∀ b, Two cv (.slice a3 (o.length + m.length) c3) b → Two cv ov b ∨ w.heap.size ≤ b := fun b hb => by
      rcases hb with hb | hb
      · exact .inl (.inl hb)
      · rcases hat with e | e
        · exact .inl (.inr (e.symm.trans hb))
        · rw [e] at hb; cases hb; exact .inr (Nat.le_refl _)
    refine h a3 c3 w' ⟨⟨vl, kept_ne ho1 hg' (fun b hb h => hne b hb h), fun i hi => (hin i hi).grown hg' (fun b h => .inl (.inr h)) hbad⟩, ?_, fun b hb e => ?_⟩ hb hg'
    · unfold IntsR
      rw [List.length_append, List.map_append]
      exact ho'
    · rcases hat with e2 | e2
      · exact hne b hb (e2.symm.trans e)
      · rw [e2] at e; cases e
        exact absurd (ho1.lt _ hb).2 (Nat.lt_irrefl _)
end
end Go.Proofs.YtjeckkkmoabjnaaDoor.satPh
