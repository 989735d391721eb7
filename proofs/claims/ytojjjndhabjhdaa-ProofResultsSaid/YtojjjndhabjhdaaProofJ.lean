/-
  proof.newProver: its memory while rows are collected, and while watches are laid.
-/
import Derived.Test.YtojjjndhabjhdaaProofI
namespace Go.Proofs.Ytojjjndhabjhdaa.proofJ
set_option linter.unusedSimpArgs false
set_option linter.unusedVariables false
open Go.ChangeShapes Go.WideShapes Go.ChangeAt Go.RowKit proofP proofQ owns proofA proofB proofC proofD proofE proofF proofG proofH proofI cls

def nl : Value := .slice none 0 0
theorem infoS : (Try.prog.info? 29).map (fun i => (i.zero, i.size, i.bytes)) = some (some (.slice none 0 0), 1, 24) := by kernel_rfl
theorem info8 : (Try.prog.info? 72).map (fun i => (i.zero, i.size, i.bytes)) = some (some (.int .i8 0), 1, 1) := by kernel_rfl
theorem infoB : (Try.prog.info? 4).map (fun i => (i.zero, i.size, i.bytes)) = some (some (.bool false), 1, 1) := by kernel_rfl

structure BM (w : World) (B bp : Nat) (lv : Value) (first nv : Nat) (done : List (List Int)) (F : Ix → Ent) : Prop where
  own : Owns w B F
  obj : Whole w bp 68 [lv, iv first, (F .rows).v, nl, nl, nl, nl, (F .value).v, nl]
  hB : B ≤ bp
  ne : ∀ k, (F k).v.ownBlock ≠ some bp
  te : ∀ k, (F k).e = ty k
  rows : (F .rows).xs = (List.range done.length).map fun i => (F (.row i)).v
  row : ∀ i, i < done.length → (F (.row i)).xs = (rowOf (done.getD i [])).map iv
  nil : ∀ k, k ≠ .rows → k ≠ .value → (∀ i, i < done.length → k ≠ .row i) → (F k).v = nl ∧ (F k).xs = []
  value : (F .value).xs = (List.range nv).map fun c => .int .i8 (val [] c)

theorem own_mono {w : World} {B B' : Nat} {e : TypeId} {v : Value} {n : Nat} {xs : List Value} (h : w.ownsRow B e 1 v n xs) (hB : B' ≤ B) : w.ownsRow B' e 1 v n xs := by
  refine ⟨h.1, ?_⟩
  rcases h.2 with h1 | ⟨g, cap, cur, hv, hb, r⟩
  · exact .inl h1
  · exact .inr ⟨g, cap, cur, hv, by omega, r⟩

theorem BM.below {w w' : World} {B bp : Nat} {lv : Value} {first nv : Nat} {done : List (List Int)} {F : Ix → Ent} (h : BM w B bp lv first nv done F) (hb : Below w.heap.size w w') : BM w' B bp lv first nv done F :=
  ⟨h.own.below hb, h.obj.below hb h.obj.lt, h.hB, h.ne, h.te, h.rows, h.row, h.nil, h.value⟩

theorem snoc_get {α : Type} {l : List α} {x d : α} {i : Nat} (h : i < l.length) : (l ++ [x]).getD i d = l.getD i d := by
  rw [List.getD_eq_getElem?_getD, List.getD_eq_getElem?_getD, List.getElem?_append_left h]
theorem snoc_last {α : Type} (l : List α) (x d : α) : (l ++ [x]).getD l.length d = x := by simp

/-- a row is added -/
theorem BM.push {w w1 w2 : World} {B bp : Nat} {lv v v' : Value} {first nv : Nat} {done : List (List Int)} {F : Ix → Ent} {c : List Int} {o : Obj} (h : BM w B bp lv first nv done F) (hb : Below w.heap.size w w1) (hr : w1.ownsRow w.heap.size 3 1 v (rowOf c).length ((rowOf c).map iv))
    (hown : w2.ownsRow B 29 1 v' (done.length + 1) ((F .rows).xs ++ [v])) (hg : (w1.alloc o).grownBy w2 (F .rows).v.ownBlock) (hat : v'.ownBlock = (F .rows).v.ownBlock ∨ v'.ownBlock = some (w1.alloc o).heap.size) :
    ∃ F', BM (w2.setCell ⟨bp, 2, none⟩ v') B bp lv first nv (done ++ [c]) F' ∧ ∀ b, b < w.heap.size → b ≠ bp → (∀ k, (F k).v.ownBlock ≠ some b) → (w2.setCell ⟨bp, 2, none⟩ v').heap[b]? = w.heap[b]? ∧ ∀ k, (F' k).v.ownBlock ≠ some b := by
  have hBw : B ≤ w.heap.size := Nat.le_trans h.hB (Nat.le_of_lt h.obj.lt)
  have hn := (h.nil (.row done.length) (by simp) (by simp) (fun i hi => by simp; omega))
  have hfresh : ∀ b, v.ownBlock = some b → w.heap.size ≤ b := fun b hb => (hr.lt b hb).1
  have O1 : Owns w1 B (upd F (.row done.length) ⟨3, v, (rowOf c).map iv⟩) := h.own.step _ _ (grown_below hb _) (by simpa using own_mono hr hBw) (by
    cases hv : v.ownBlock with
    | none => exact .inr (.inl rfl)
    | some b => exact .inr (.inr ⟨b, rfl, hfresh b hv⟩))
  have hro : (upd F (.row done.length) ⟨3, v, (rowOf c).map iv⟩ .rows) = F .rows := upd_other _ _ (by simp)
  have O2 : Owns w2 B (upd (upd F (.row done.length) ⟨3, v, (rowOf c).map iv⟩) .rows ⟨29, v', (F .rows).xs ++ [v]⟩) := (O1.alloc o).step _ _ (by rw [hro]; exact hg) (by
      dsimp only
      have hl : ((F .rows).xs ++ [v]).length = done.length + 1 := by rw [h.rows]; simp
      rw [hl]; exact hown) (by
    rw [hro]
    rcases hat with hat | hat
    · exact .inl hat
    · exact .inr (.inr ⟨_, hat, Nat.le_refl _⟩))
  have hbl := h.obj.lt
  have hob2 : Whole w2 bp 68 [lv, iv first, (F .rows).v, nl, nl, nl, nl, (F .value).v, nl] :=
    ((h.obj.below hb h.obj.lt).below ((Below.refl _ _).alloc (Nat.le_refl _) o) (by have := hb.size; omega)).kept hg (h.ne .rows)
  obtain ⟨hob3, G3⟩ := hob2.set 2 v'
  have hvn : v.ownBlock ≠ some bp := fun e => by have := hfresh bp e; omega
  have hv'n : v'.ownBlock ≠ some bp := by
    rcases hat with hat | hat
    · rw [hat]; exact h.ne .rows
    · rw [hat]; intro e; have := hb.size; simp at e; omega
  have hnk : ∀ k, (upd (upd F (.row done.length) ⟨3, v, (rowOf c).map iv⟩) .rows ⟨29, v', (F .rows).xs ++ [v]⟩ k).v.ownBlock ≠ some bp := by
    intro k
    by_cases e1 : k = .rows
    · subst e1; rw [upd_same]; exact hv'n
    · rw [upd_other _ _ e1]
      by_cases e2 : k = .row done.length
      · subst e2; rw [upd_same]; exact hvn
      · rw [upd_other _ _ e2]; exact h.ne k
  refine ⟨_, ⟨O2.apart G3 (fun k b hk e => hnk k (by rw [hk]; exact e.symm)), ?_, h.hB, hnk, fun k => ?_, ?_, fun i hi => ?_, fun k h1 h2 h3 => ?_, ?_⟩, fun b hlt hbb hk => ⟨?_, fun k => ?_⟩⟩
  rotate_right
  rotate_right
  · have hs1 := hb.size
    rw [G3.block b (by have := hg.size; simp at this; omega) (by simpa using hbb), hg.block b (by simp; omega) (fun e => hk .rows e.symm), Below.heap_alloc _ _ _ (by omega)]
    exact hb.block b hlt
  · by_cases e1 : k = .rows
    · subst e1; rw [upd_same]
      rcases hat with hat | hat
      · dsimp only; rw [hat]; exact hk .rows
      · dsimp only; rw [hat]; intro e; have := hb.size; simp at e; omega
    · rw [upd_other _ _ e1]
      by_cases e2 : k = .row done.length
      · subst e2; rw [upd_same]; intro e; have := hfresh b e; omega
      · rw [upd_other _ _ e2]; exact hk k
  · simpa [upd] using hob3
  · by_cases e1 : k = .rows
    · subst e1; rw [upd_same]; rfl
    · rw [upd_other _ _ e1]
      by_cases e2 : k = .row done.length
      · subst e2; rw [upd_same]; rfl
      · rw [upd_other _ _ e2]; exact h.te k
  · rw [upd_same]
    dsimp only
    rw [h.rows, List.length_append, List.length_singleton, List.range_succ, List.map_append]
    congr 1
    · apply List.map_congr_left
      intro i hi
      rw [List.mem_range] at hi
      rw [upd_other _ _ (by simp), upd_other _ _ (by simp; omega)]
    · simp only [List.map_cons, List.map_nil]
      rw [upd_other _ _ (by simp), upd_same]
  · rw [upd_other _ _ (by simp)]
    by_cases e : i = done.length
    · subst e; rw [upd_same, snoc_last]
    · rw [upd_other _ _ (by simpa using e), snoc_get (by simp at hi; omega)]
      exact h.row i (by simp at hi; omega)
  · rw [upd_other _ _ h1, upd_other _ _ (h3 done.length (by simp))]
    exact h.nil k h1 h2 (fun i hi => h3 i (by simp; omega))
  · rw [upd_other _ _ (by simp), upd_other _ _ (by simp)]; exact h.value

/-- the first object -/
theorem BM.start {w w1 : World} {nv : Nat} {lv : Value} {first : Nat} {gv : Value} (hown : w1.ownsRow w.heap.size 72 1 gv nv (List.replicate nv (.int .i8 0))) (hb : Below w.heap.size w w1) :
    ∃ F, BM (w1.alloc (.cells #[lv, .int .i64 first, nl, nl, nl, nl, nl, gv, nl] 68)) w.heap.size w1.heap.size lv first nv [] F := by
  refine ⟨fun k => if k = .value then ⟨72, gv, List.replicate nv (.int .i8 0)⟩ else ⟨ty k, nl, []⟩, ⟨fun k => ?_, fun j k b hj hk => ?_⟩, ?_, hb.size, fun k => ?_, fun k => ?_, rfl, fun i hi => absurd hi (Nat.not_lt_zero _), fun k h1 h2 h3 => by simp [h2], ?_⟩
  · by_cases e : k = .value
    · simp only [e, if_true]; have := hown.alloc (.cells #[lv, .int .i64 first, nl, nl, nl, nl, nl, gv, nl] 68); simpa using this
    · simp only [e, if_false]; exact World.ownsRow_nil _ _ _ _
  · by_cases e1 : j = .value <;> by_cases e2 : k = .value
    · rw [e1, e2]
    · simp [e2, nl, Value.ownBlock] at hk
    · simp [e1, nl, Value.ownBlock] at hj
    · simp [e1, nl, Value.ownBlock] at hj
  · exact Whole.new w1 _ [lv, .int .i64 first, nl, nl, nl, nl, nl, gv, nl]
  · by_cases e : k = .value
    · simp only [e, if_true]
      intro hh
      have := (hown.lt _ hh).2
      omega
    · simp [e, nl, Value.ownBlock]
  · by_cases e : k = .value
    · simp only [e, if_true]; rfl
    · simp only [e, if_false]
  · simp only [if_true]
    apply List.ext_getElem?
    intro j
    by_cases hj : j < nv
    · simp [hj, val]
    · simp [hj]

/-- rows of the call's own, and the object; no more is said -/
structure OB (w : World) (B bp : Nat) (cs : List Value) (F : Ix → Ent) : Prop where
  own : Owns w B F
  obj : Whole w bp 68 cs
  hB : B ≤ bp
  ne : ∀ k, (F k).v.ownBlock ≠ some bp
theorem OB.add {w w1 : World} {B bp : Nat} {cs : List Value} {F : Ix → Ent} (h : OB w B bp cs F) {k : Ix} {e : TypeId} {g n cap : Nat} {xs : List Value} (f : Nat) (hk : (F k).v = nl) (hgr : w.grownBy w1 none) (hx : xs.length = n) (ho : w1.ownsRow B e 1 (.slice (some ⟨g, 0, none⟩) n cap) n xs) (hg : w.heap.size ≤ g) :
    OB (w1.setCell ⟨bp, f, none⟩ (.slice (some ⟨g, 0, none⟩) n cap)) B bp (cs.set f (.slice (some ⟨g, 0, none⟩) n cap)) (upd F k ⟨e, .slice (some ⟨g, 0, none⟩) n cap, xs⟩) := by
  have hlt := h.obj.lt
  have O1 := h.own.step k ⟨e, .slice (some ⟨g, 0, none⟩) n cap, xs⟩ (w' := w1) (by rw [hk]; exact hgr) (by dsimp only; rw [hx]; exact ho) (.inr (.inr ⟨g, rfl, hg⟩))
  obtain ⟨W2, G2⟩ := (h.obj.kept hgr (by simp)).set f (.slice (some ⟨g, 0, none⟩) n cap)
  have hnk : ∀ j, (upd F k ⟨e, .slice (some ⟨g, 0, none⟩) n cap, xs⟩ j).v.ownBlock ≠ some bp := by
    intro j
    by_cases e1 : j = k
    · subst e1; rw [upd_same]; intro e; have e' : g = bp := by simpa [Value.ownBlock] using e
      omega
    · rw [upd_other _ _ e1]; exact h.ne j
  exact ⟨O1.apart G2 (fun k b hk e => hnk k (by rw [hk]; exact e.symm)), W2, h.hB, hnk⟩
theorem BM.ob {w : World} {B bp : Nat} {lv : Value} {first nv : Nat} {done : List (List Int)} {F : Ix → Ent} (h : BM w B bp lv first nv done F) : OB w B bp [lv, iv first, (F .rows).v, nl, nl, nl, nl, (F .value).v, nl] F := ⟨h.own, h.obj, h.hB, h.ne⟩

/-- codes of rows are below a number -/
def Gr (done : List (List Int)) (g : Nat) : Prop := g < 40002 ∧ ∀ c, c ∈ done → ∀ x, x ∈ rowOf c → x ≤ g
theorem Gr.start : Gr [] 0 := ⟨by omega, by simp⟩
theorem last_max {r : List Nat} (h : r.Pairwise (· < ·)) {x : Nat} (hx : x ∈ r) : x ≤ r.getD (r.length - 1) 0 := by
  obtain ⟨i, hi, rfl⟩ := mem_get.1 hx
  by_cases e : i = r.length - 1
  · rw [e]; exact Nat.le_refl _
  · have := List.pairwise_iff_getElem.1 h i (r.length - 1) hi (by omega) (by omega)
    rw [List.getD_eq_getElem?_getD, List.getElem?_eq_getElem hi, List.getD_eq_getElem?_getD, List.getElem?_eq_getElem (by omega)]
    simp only [Option.getD_some]; omega
theorem Gr.push {done : List (List Int)} {g : Nat} {c : List Int} (h : Gr done g) (h0 : 0 < (rowOf c).length) : Gr (done ++ [c]) (max g ((rowOf c).getD ((rowOf c).length - 1) 0)) := by
  have hr := ((row_is c).rng (get_mem (r := rowOf c) (i := (rowOf c).length - 1) (by omega))).2
  refine ⟨by have := h.1; omega, fun d hd x hx => ?_⟩
  rcases List.mem_append.1 hd with hd | hd
  · have := h.2 d hd x hx; omega
  · simp only [List.mem_singleton] at hd
    rw [hd] at hx
    have := last_max (row_sorted c) hx; omega
theorem Gr.skip {done : List (List Int)} {g : Nat} {c : List Int} (h : Gr done g) (h0 : (rowOf c).length = 0) : Gr (done ++ [c]) g := by
  refine ⟨h.1, fun d hd x hx => ?_⟩
  rcases List.mem_append.1 hd with hd | hd
  · exact h.2 d hd x hx
  · simp only [List.mem_singleton] at hd
    rw [hd, List.length_eq_zero_iff.1 h0] at hx; simp at hx
end Go.Proofs.Ytojjjndhabjhdaa.proofJ
