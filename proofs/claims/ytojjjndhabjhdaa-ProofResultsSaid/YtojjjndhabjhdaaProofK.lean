/-
  proof.newProver: while watches are laid.
-/
import Derived.Test.YtojjjndhabjhdaaProofJ
namespace Go.Proofs.Ytojjjndhabjhdaa.proofK
set_option linter.unusedSimpArgs false
set_option linter.unusedVariables false
open Go.ChangeShapes Go.WideShapes Go.ChangeAt Go.RowKit proofP proofQ owns proofA proofB proofC proofD proofE proofF proofG proofH proofI proofJ cls

def tautB (r : List Nat) : Bool := r.any fun x => r.contains (opp x)
theorem tautB_iff {r : List Nat} : tautB r = true ↔ taut r := by simp [tautB, taut]
/-- two neighbours that are opposites, among so many first places -/
def adj (r : List Nat) : Nat → Bool
  | 0 => false
  | q + 1 => adj r q || (decide (1 ≤ q) && decide (r.getD q 0 = opp (r.getD (q - 1) 0)))
theorem adj_iff (r : List Nat) (q : Nat) : adj r q = true ↔ ∃ t, 1 ≤ t ∧ t < q ∧ r.getD t 0 = opp (r.getD (t - 1) 0) := by
  induction q with
  | zero => simp [adj]
  | succ q ih =>
    simp only [adj, Bool.or_eq_true, ih, Bool.and_eq_true, decide_eq_true_eq]
    constructor
    · rintro (⟨t, h1, h2, h3⟩ | ⟨h1, h2⟩)
      · exact ⟨t, h1, by omega, h3⟩
      · exact ⟨q, h1, by omega, h2⟩
    · rintro ⟨t, h1, h2, h3⟩
      by_cases e : t = q
      · subst e; exact .inr ⟨h1, h3⟩
      · exact .inl ⟨t, h1, by omega, h3⟩
theorem adj_taut {r : List Nat} (h : r.Pairwise (· < ·)) : adj r r.length = tautB r := by
  rw [Bool.eq_iff_iff, tautB_iff, adj_iff]
  have hp : ∀ a b, a < b → b < r.length → r.getD a 0 < r.getD b 0 := by
    intro a b hab hb
    have := List.pairwise_iff_getElem.1 h a b (by omega) hb hab
    rw [List.getD_eq_getElem?_getD, List.getElem?_eq_getElem (by omega), List.getD_eq_getElem?_getD, List.getElem?_eq_getElem hb]; exact this
  constructor
  · rintro ⟨t, h1, h2, h3⟩
    exact ⟨r.getD (t - 1) 0, get_mem (by omega), by rw [← h3]; exact get_mem h2⟩
  · rintro ⟨x, hx, hx'⟩
    have key : ∀ y, y % 2 = 0 → y ∈ r → y + 1 ∈ r → ∃ t, 1 ≤ t ∧ t < r.length ∧ r.getD t 0 = opp (r.getD (t - 1) 0) := by
      intro y hy h1 h2
      obtain ⟨a, ha, ea⟩ := mem_get.1 h1
      obtain ⟨b, hb, eb⟩ := mem_get.1 h2
      have hab : a < b := by
        rcases Nat.lt_trichotomy a b with h' | h' | h'
        · exact h'
        · subst h'; omega
        · have := hp b a h' ha; omega
      have hb1 : b = a + 1 := by
        by_cases e : b = a + 1
        · exact e
        · have h1 := hp a (a + 1) (by omega) (by omega)
          have h2 := hp (a + 1) b (by omega) hb
          omega
      refine ⟨b, by omega, hb, ?_⟩
      rw [hb1, Nat.add_sub_cancel, ea, ← hb1, eb]
      unfold opp; rw [if_pos hy]
    by_cases hx2 : x % 2 = 0
    · exact key x hx2 hx (by have : opp x = x + 1 := by unfold opp; rw [if_pos hx2]
                             rw [← this]; exact hx')
    · have e : opp x = x - 1 := by unfold opp; rw [if_neg hx2]
      rw [e] at hx'
      exact key (x - 1) (by omega) hx' (by rw [Nat.sub_add_cancel (by omega)]; exact hx)

/-- memory, with what is known of 'always' -/
structure MB (w : World) (B bp : Nat) (lv : Value) (first nv : Nat) (A : Nat → Bool) (s : PS) (F : Ix → Ent) : Prop where
  mem : Mem w B bp lv (F .always).v first nv s F
  al : (F .always).xs = (List.range s.n).map fun j => .bool (A j)

theorem map_set_upd {n k : Nat} (hk : k < n) (f : Nat → Bool) (b : Bool) : ((List.range n).map fun j => Value.bool (f j)).set k (.bool b) = (List.range n).map fun j => .bool (updN f k b j) := by
  apply List.ext_getElem?
  intro j
  rw [List.getElem?_set]
  simp only [List.length_map, List.length_range, List.getElem?_map]
  by_cases e : k = j
  · subst e; simp [hk, updN]
  · rw [if_neg e]
    by_cases hj : j < n
    · simp only [List.getElem?_range hj, Option.map_some]; rw [updN_other _ _ (fun e' => e e'.symm)]
    · rw [List.getElem?_eq_none (by simp; omega)]; rfl

section
variable {w : World} {B bp : Nat} {lv : Value} {first nv : Nat} {A : Nat → Bool} {s : PS} {F : Ix → Ent}
theorem MB.below {w' : World} (h : MB w B bp lv first nv A s F) (hb : Below w.heap.size w w') : MB w' B bp lv first nv A s F := ⟨h.mem.below hb, h.al⟩
theorem MB.setOn (h : MB w B bp lv first nv A s F) {g cap k : Nat} (hv : (F .on).v = .slice (some ⟨g, 0, none⟩) s.n cap) (hk : k < s.n) (b : Bool) :
    ∃ F', MB (w.setCell ⟨g, k, none⟩ (.bool b)) B bp lv first nv A { s with on := updN s.on k b } F' ∧ ∀ j, (F' j).v = (F j).v := by
  obtain ⟨O1, G1⟩ := h.mem.own.set hv k (.bool b)
  have hg : g ≠ bp := fun e => h.mem.ne .on (by rw [hv, e]; rfl)
  refine ⟨_, ⟨⟨O1, ?_, h.mem.hx, fun j => ?_, fun j => ?_, ?_, ?_, ?_, ?_, ?_, ?_, fun i => ?_, fun i => ?_⟩, ?_⟩, fun j => ?_⟩
  · have := h.mem.obj.kept G1 (by intro e; cases e; exact hg rfl)
    simpa [upd] using this
  · by_cases e : j = .on
    · subst e; rw [upd_same]; exact h.mem.ne _
    · rw [upd_other _ _ e]; exact h.mem.ne j
  · by_cases e : j = .on
    · subst e; rw [upd_same]; exact h.mem.te _
    · rw [upd_other _ _ e]; exact h.mem.te j
  · rw [upd_same]; dsimp only; rw [h.mem.on]; exact map_set_upd hk _ _
  · simp [upd, h.mem.short]
  · simp [upd, h.mem.rows]
  · simp [upd, h.mem.watches]
  · simp [upd, h.mem.value]
  · simp [upd, h.mem.trail]
  · simp [upd, h.mem.row]
  · simp [upd, h.mem.watch]
  · simp [upd, h.al]
  · by_cases e : j = .on
    · subst e; rw [upd_same]
    · rw [upd_other _ _ e]
theorem MB.setAl (h : MB w B bp lv first nv A s F) {g cap k : Nat} (hv : (F .always).v = .slice (some ⟨g, 0, none⟩) s.n cap) (hk : k < s.n) (b : Bool) :
    ∃ F', MB (w.setCell ⟨g, k, none⟩ (.bool b)) B bp lv first nv (updN A k b) s F' ∧ ∀ j, (F' j).v = (F j).v := by
  obtain ⟨O1, G1⟩ := h.mem.own.set hv k (.bool b)
  have hg : g ≠ bp := fun e => h.mem.ne .always (by rw [hv, e]; rfl)
  refine ⟨_, ⟨⟨O1, ?_, h.mem.hx, fun j => ?_, fun j => ?_, ?_, ?_, ?_, ?_, ?_, ?_, fun i => ?_, fun i => ?_⟩, ?_⟩, fun j => ?_⟩
  · have := h.mem.obj.kept G1 (by intro e; cases e; exact hg rfl)
    simpa [upd] using this
  · by_cases e : j = .always
    · subst e; rw [upd_same]; exact h.mem.ne _
    · rw [upd_other _ _ e]; exact h.mem.ne j
  · by_cases e : j = .always
    · subst e; rw [upd_same]; exact h.mem.te _
    · rw [upd_other _ _ e]; exact h.mem.te j
  · simp [upd, h.mem.on]
  · simp [upd, h.mem.short]
  · simp [upd, h.mem.rows]
  · simp [upd, h.mem.watches]
  · simp [upd, h.mem.value]
  · simp [upd, h.mem.trail]
  · simp [upd, h.mem.row]
  · simp [upd, h.mem.watch]
  · rw [upd_same]; dsimp only; rw [h.al]; exact map_set_upd hk _ _
  · by_cases e : j = .always
    · subst e; rw [upd_same]
    · rw [upd_other _ _ e]
theorem MB.alAt (h : MB w B bp lv first nv A s F) (hn : 0 < s.n) : ∃ g cap, (F .always).v = .slice (some ⟨g, 0, none⟩) s.n cap ∧ (∀ i, i < s.n → w.cell? ⟨g, i, none⟩ = some (.bool (A i))) ∧ B ≤ g ∧ ∀ i, w.frozen? ⟨g, i, none⟩ = false := by
  have hl : (F .always).xs.length = s.n := by rw [h.al]; simp
  obtain ⟨g, cap, hv, h1, h2, _, _⟩ := h.mem.own.form .always (by omega)
  rw [hl] at hv
  exact ⟨g, cap, hv, fun i hi => by rw [h.mem.own.cell hv i (by omega), h.al]; simp [hi], h1, fun i => h.mem.own.frozen hv i⟩
/-- a short row is told -/
theorem MB.pushShort (h : MB w B bp lv first nv A s F) {w1 : World} {v' : Value} {i : Nat} (o : Obj) (hown : w1.ownsRow B 3 1 v' (s.short.length + 1) (s.short.map iv ++ [.int .i64 i])) (hg : (w.alloc o).grownBy w1 (F .short).v.ownBlock)
    (hat : v'.ownBlock = (F .short).v.ownBlock ∨ v'.ownBlock = some (w.alloc o).heap.size) :
    ∃ F', MB (w1.setCell ⟨bp, 5, none⟩ v') B bp lv first nv A { s with short := s.short ++ [i] } F' ∧ ∀ j, j ≠ .short → (F' j).v = (F j).v := by
  have O1 := (h.mem.own.alloc o).step .short ⟨3, v', s.short.map iv ++ [.int .i64 i]⟩ hg (by simpa using hown) (by
    rcases hat with hat | hat
    · exact .inl hat
    · exact .inr (.inr ⟨_, hat, Nat.le_refl _⟩))
  have hob := (h.mem.obj.below ((Below.refl _ _).alloc (Nat.le_refl _) o) h.mem.obj.lt).kept hg (h.mem.ne .short)
  obtain ⟨hob2, G2⟩ := hob.set 5 v'
  have hlt := h.mem.obj.lt
  have hv'n : v'.ownBlock ≠ some bp := by
    rcases hat with hat | hat
    · rw [hat]; exact h.mem.ne .short
    · rw [hat]; intro e; simp at e; omega
  have hnk : ∀ k, (upd F .short ⟨3, v', s.short.map iv ++ [.int .i64 i]⟩ k).v.ownBlock ≠ some bp := by
    intro k
    by_cases e1 : k = .short
    · subst e1; rw [upd_same]; exact hv'n
    · rw [upd_other _ _ e1]; exact h.mem.ne k
  refine ⟨_, ⟨⟨O1.apart G2 (fun k b hk e => hnk k (by rw [hk]; exact e.symm)), ?_, h.mem.hx, hnk, fun j => ?_, ?_, ?_, ?_, ?_, ?_, ?_, fun i => ?_, fun i => ?_⟩, ?_⟩, fun j hj => ?_⟩
  · simpa [upd] using hob2
  · by_cases e : j = .short
    · subst e; rw [upd_same]; rfl
    · rw [upd_other _ _ e]; exact h.mem.te j
  · simp [upd, h.mem.on]
  · rw [upd_same]; dsimp only; rw [List.map_append]; rfl
  · simp [upd, h.mem.rows]
  · simp [upd, h.mem.watches]
  · simp [upd, h.mem.value]
  · simp [upd, h.mem.trail]
  · simp [upd, h.mem.row]
  · simp [upd, h.mem.watch]
  · simp [upd, h.al]
  · rw [upd_other _ _ hj]
end

/-- so many rows are done -/
structure P2 (done : List (List Int)) (first m k : Nat) (A : Nat → Bool) (s : PS) : Prop where
  n : s.n = done.length
  m : s.m = m
  row : ∀ i, s.row i = rowOf (done.getD i [])
  trail : s.trail = []
  on : ∀ j, j < k → s.on j = decide (j < first)
  al : ∀ j, k ≤ j → A j = false
  short : ∀ i, i ∈ s.short ↔ i < k ∧ (s.row i).length < 2
  shl : s.short.length ≤ k
  nd : ∀ c, (s.W c).Nodup
  wat : ∀ c i, i ∈ s.W c → i < k ∧ 2 ≤ (s.row i).length ∧ ((s.row i).getD 0 0 = c ∨ (s.row i).getD 1 0 = c)
  has : ∀ i, i < k → 2 ≤ (s.row i).length → ¬ taut (s.row i) → i ∈ s.W ((s.row i).getD 0 0) ∧ i ∈ s.W ((s.row i).getD 1 0)

section
variable {done : List (List Int)} {first m k : Nat} {A : Nat → Bool} {s : PS}
theorem P2.short1 (h : P2 done first m k A s) (hs : (s.row k).length < 2) : P2 done first m (k + 1) (updN A k (tautB (s.row k))) { s with on := updN s.on k (decide (k < first)), short := s.short ++ [k] } := by
  refine ⟨h.n, h.m, h.row, h.trail, fun j hj => ?_, fun j hj => ?_, fun i => ?_, by simp; exact h.shl, h.nd, fun c i hi => ?_, fun i hi hl ht => ?_⟩
  · by_cases e : j = k
    · subst e; dsimp only; rw [updN_same]
    · dsimp only; rw [updN_other _ _ e]; exact h.on j (by omega)
  · rw [updN_other _ _ (by omega)]; exact h.al j (by omega)
  · dsimp only
    rw [List.mem_append, h.short, List.mem_singleton]
    constructor
    · rintro (⟨h1, h2⟩ | rfl)
      · exact ⟨by omega, h2⟩
      · exact ⟨by omega, hs⟩
    · rintro ⟨h1, h2⟩
      by_cases e : i = k
      · exact .inr e
      · exact .inl ⟨by omega, h2⟩
  · obtain ⟨a, b⟩ := h.wat c i hi; exact ⟨by omega, b⟩
  · dsimp only at hl ht ⊢
    by_cases e : i = k
    · subst e; omega
    · exact h.has i (by omega) hl ht
theorem P2.taut1 (h : P2 done first m k A s) (hs : 2 ≤ (s.row k).length) (ht : tautB (s.row k) = true) : P2 done first m (k + 1) (updN A k (tautB (s.row k))) { s with on := updN s.on k (decide (k < first)) } := by
  refine ⟨h.n, h.m, h.row, h.trail, fun j hj => ?_, fun j hj => ?_, fun i => ?_, by have := h.shl; dsimp only; omega, h.nd, fun c i hi => ?_, fun i hi hl hnt => ?_⟩
  · by_cases e : j = k
    · subst e; dsimp only; rw [updN_same]
    · dsimp only; rw [updN_other _ _ e]; exact h.on j (by omega)
  · rw [updN_other _ _ (by omega)]; exact h.al j (by omega)
  · dsimp only
    rw [h.short]
    constructor
    · rintro ⟨h1, h2⟩; exact ⟨by omega, h2⟩
    · rintro ⟨h1, h2⟩
      by_cases e : i = k
      · subst e; omega
      · exact ⟨by omega, h2⟩
  · obtain ⟨a, b⟩ := h.wat c i hi; exact ⟨by omega, b⟩
  · dsimp only at hl hnt ⊢
    by_cases e : i = k
    · subst e; exact absurd (tautB_iff.1 ht) hnt
    · exact h.has i (by omega) hl hnt
theorem P2.watch1 (h : P2 done first m k A s) (hs : 2 ≤ (s.row k).length) (hd : (s.row k).Nodup) {x y : Nat} (hx : (s.row k).getD 0 0 = x) (hy : (s.row k).getD 1 0 = y) {W' : Nat → List Nat} (hW : W' = updN (updN s.W x (s.W x ++ [k])) y (s.W y ++ [k])) :
    P2 done first m (k + 1) (updN A k (tautB (s.row k))) { s with on := updN s.on k (decide (k < first)), W := W' } := by
  have hxy : x ≠ y := by
    intro e
    have := nodup_get.1 hd 0 1 (by omega) (by omega) (by rw [hx, hy, e])
    omega
  have nk : ∀ c, k ∉ s.W c := fun c hc => by have := (h.wat c k hc).1; omega
  have hWx : W' x = s.W x ++ [k] := by rw [hW, updN_other _ _ hxy, updN_same]
  have hWy : W' y = s.W y ++ [k] := by rw [hW, updN_same]
  have hWo : ∀ c, c ≠ x → c ≠ y → W' c = s.W c := fun c h1 h2 => by rw [hW, updN_other _ _ h2, updN_other _ _ h1]
  have snd : ∀ c, (s.W c ++ [k]).Nodup := by
    intro c
    rw [List.nodup_append]
    refine ⟨h.nd c, by simp, ?_⟩
    intro a ha b hb e
    simp at hb; subst hb; subst e; exact nk c ha
  refine ⟨h.n, h.m, h.row, h.trail, fun j hj => ?_, fun j hj => ?_, fun i => ?_, by have := h.shl; dsimp only; omega, fun c => ?_, fun c i hi => ?_, fun i hi hl hnt => ?_⟩
  · by_cases e : j = k
    · subst e; dsimp only; rw [updN_same]
    · dsimp only; rw [updN_other _ _ e]; exact h.on j (by omega)
  · rw [updN_other _ _ (by omega)]; exact h.al j (by omega)
  · dsimp only
    rw [h.short]
    constructor
    · rintro ⟨h1, h2⟩; exact ⟨by omega, h2⟩
    · rintro ⟨h1, h2⟩
      by_cases e : i = k
      · subst e; omega
      · exact ⟨by omega, h2⟩
  · dsimp only
    by_cases e1 : c = x
    · rw [e1, hWx]; exact snd x
    · by_cases e2 : c = y
      · rw [e2, hWy]; exact snd y
      · rw [hWo c e1 e2]; exact h.nd c
  · dsimp only at hi ⊢
    by_cases e1 : c = x
    · rw [e1, hWx, List.mem_append, List.mem_singleton] at hi
      rcases hi with hi | rfl
      · obtain ⟨a, b⟩ := h.wat x i hi; exact ⟨by omega, by rw [e1]; exact b⟩
      · exact ⟨by omega, hs, .inl (by rw [hx, e1])⟩
    · by_cases e2 : c = y
      · rw [e2, hWy, List.mem_append, List.mem_singleton] at hi
        rcases hi with hi | rfl
        · obtain ⟨a, b⟩ := h.wat y i hi; exact ⟨by omega, by rw [e2]; exact b⟩
        · exact ⟨by omega, hs, .inr (by rw [hy, e2])⟩
      · rw [hWo c e1 e2] at hi
        obtain ⟨a, b⟩ := h.wat c i hi; exact ⟨by omega, b⟩
  · dsimp only at hl hnt ⊢
    have sub : ∀ c i, i ∈ s.W c → i ∈ W' c := by
      intro c i hi
      by_cases e1 : c = x
      · rw [e1] at hi ⊢; rw [hWx]; simp [hi]
      · by_cases e2 : c = y
        · rw [e2] at hi ⊢; rw [hWy]; simp [hi]
        · rw [hWo c e1 e2]; exact hi
    by_cases e : i = k
    · subst e; rw [hx, hy, hWx, hWy]; simp
    · obtain ⟨a, b⟩ := h.has i (by omega) hl hnt
      exact ⟨sub _ _ a, sub _ _ b⟩
theorem P2.good (h : P2 done first m done.length A s) (hm : ∀ c, c ∈ done → ∀ x, x ∈ rowOf c → x < m) (hn : done.length ≤ 100000) : PGood s (fun i => done.getD i []) := by
  have hmem : ∀ i, i < done.length → done.getD i [] ∈ done := fun i hi => by rw [List.getD_eq_getElem?_getD, List.getElem?_eq_getElem hi]; exact List.getElem_mem hi
  refine ⟨⟨h.nd, fun i hi => by rw [h.row]; exact row_nodup _, fun c i hi => by rw [h.n]; exact h.wat c i hi, fun i hi => by rw [h.n] at hi; exact h.has i hi⟩, fun i hi => by rw [h.row]; exact row_is _, by rw [h.trail]; exact TI.nil, fun i hi l hl hlit => ?_, fun i => by rw [h.n]; exact h.short i, by rw [h.n]; exact hn⟩
  rw [h.m]
  rw [h.n] at hi
  exact hm _ (hmem i hi) _ ((row_is _ _).2 ⟨l, hl, hlit, rfl⟩)
end

def st0 (done : List (List Int)) (m : Nat) : PS := ⟨done.length, m, fun i => rowOf (done.getD i []), fun _ => [], fun _ => false, [], [], ⟨3, nl, []⟩⟩
theorem row_nil : rowOf [] = [] := by
  have : norm (cods []) = [] := List.eq_nil_iff_forall_not_mem.2 (fun x hx => by rw [norm_mem] at hx; simp [cods] at hx)
  unfold rowOf; rw [this]; rfl
theorem rep_map {α : Type} (n : Nat) (x : α) : List.replicate n x = (List.range n).map fun _ => x := by
  apply List.ext_getElem?
  intro j
  by_cases hj : j < n
  · simp [hj]
  · simp [hj]
/-- all rows are collected, and 'on', 'always', 'watches' are made -/
theorem mb_start {w w' : World} {B bp : Nat} {lv : Value} {first nv m : Nat} {done : List (List Int)} {F : Ix → Ent} {g1 g2 g3 : Nat} (h : BM w B bp lv first nv done F)
    (hO : OB w' B bp [lv, iv first, (F .rows).v, .slice (some ⟨g1, 0, none⟩) done.length done.length, .slice (some ⟨g2, 0, none⟩) done.length done.length, nl, .slice (some ⟨g3, 0, none⟩) m m, (F .value).v, nl]
      (upd (upd (upd F .on ⟨4, .slice (some ⟨g1, 0, none⟩) done.length done.length, List.replicate done.length (.bool false)⟩) .always ⟨4, .slice (some ⟨g2, 0, none⟩) done.length done.length, List.replicate done.length (.bool false)⟩) .watches ⟨29, .slice (some ⟨g3, 0, none⟩) m m, List.replicate m nl⟩)) :
    ∃ F', MB w' B bp lv first nv (fun _ => false) (st0 done m) F' ∧ P2 done first m 0 (fun _ => false) (st0 done m) ∧ (F' .rows).v = (F .rows).v := by
  have hnil : ∀ k, k ≠ .rows → k ≠ .value → (∀ i, i < done.length → k ≠ .row i) → (F k).v = nl ∧ (F k).xs = [] := h.nil
  refine ⟨_, ⟨⟨hO.own, ?_, ⟨hO.hB, ?_⟩, hO.ne, fun k => ?_, ?_, ?_, ?_, ?_, ?_, ?_, fun i => ?_, fun c => ?_⟩, ?_⟩, ⟨rfl, rfl, fun _ => rfl, rfl, fun j hj => absurd hj (Nat.not_lt_zero _), fun _ _ => rfl, fun i => by simp [st0], Nat.le_refl _, fun c => List.nodup_nil, fun c i hi => by simp [st0] at hi, fun i hi => absurd hi (Nat.not_lt_zero _)⟩, ?_⟩
  · have e1 := (hnil .short (by simp) (by simp) (by simp)).1
    have e2 := (hnil .trail (by simp) (by simp) (by simp)).1
    have := hO.obj
    simpa [upd, e1, e2] using this
  · rw [upd_other _ _ (by simp), upd_other _ _ (by simp), upd_other _ _ (by simp)]
    obtain ⟨e1, e2⟩ := hnil .extra (by simp) (by simp) (by simp)
    show (⟨(F .extra).e, (F .extra).v, (F .extra).xs⟩ : Ent) = ⟨3, nl, []⟩
    rw [e1, e2, h.te]; rfl
  · by_cases e3 : k = .watches
    · subst e3; rw [upd_same]; rfl
    · rw [upd_other _ _ e3]
      by_cases e2 : k = .always
      · subst e2; rw [upd_same]; rfl
      · rw [upd_other _ _ e2]
        by_cases e1 : k = .on
        · subst e1; rw [upd_same]; rfl
        · rw [upd_other _ _ e1]; cases k <;> exact h.te _
  · rw [upd_other _ _ (by simp), upd_other _ _ (by simp), upd_same]; exact rep_map _ _
  · rw [upd_other _ _ (by simp), upd_other _ _ (by simp), upd_other _ _ (by simp)]; exact (hnil .short (by simp) (by simp) (by simp)).2
  · rw [upd_other _ _ (by simp), upd_other _ _ (by simp), upd_other _ _ (by simp), h.rows]
    apply List.map_congr_left
    intro i _
    rw [upd_other _ _ (by simp), upd_other _ _ (by simp), upd_other _ _ (by simp)]
  · rw [upd_same]
    dsimp only
    rw [rep_map]
    apply List.map_congr_left
    intro c _
    rw [upd_other _ _ (by simp), upd_other _ _ (by simp), upd_other _ _ (by simp)]
    exact ((hnil (.watch c) (by simp) (by simp) (by simp)).1).symm
  · rw [upd_other _ _ (by simp), upd_other _ _ (by simp), upd_other _ _ (by simp)]; exact h.value
  · rw [upd_other _ _ (by simp), upd_other _ _ (by simp), upd_other _ _ (by simp)]; exact (hnil .trail (by simp) (by simp) (by simp)).2
  · rw [upd_other _ _ (by simp), upd_other _ _ (by simp), upd_other _ _ (by simp)]
    by_cases hi : i < done.length
    · exact h.row i hi
    · rw [(hnil (.row i) (by simp) (by simp) (fun j hj => by simp; omega)).2]
      show [] = (rowOf (done.getD i [])).map iv
      have : done.getD i [] = [] := by rw [List.getD_eq_getElem?_getD, List.getElem?_eq_none (by omega)]; rfl
      rw [this, row_nil]; rfl
  · rw [upd_other _ _ (by simp), upd_other _ _ (by simp), upd_other _ _ (by simp)]; exact (hnil (.watch c) (by simp) (by simp) (by simp)).2
  · rw [upd_other _ _ (by simp), upd_same]; exact rep_map _ _
  · rw [upd_other _ _ (by simp), upd_other _ _ (by simp), upd_other _ _ (by simp)]
end Go.Proofs.Ytojjjndhabjhdaa.proofK
