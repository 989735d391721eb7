/-
  The reader's memory: a stack of frames, each with its keys, kids and the keys that were seen.
-/
import Derived.Test.YtjcaffpmcgfhaaaDoorOwnI
import Derived.Test.YtjcaffpmcgfhaaaDoorJsonP
namespace Go.Proofs.YtjcaffpmcgfhaaaDoor.jsonM
open Go.ChangeShapes Go.WideShapes Go.ChangeAt Go.RowKit Go.WideMaps Go.Maps nodeP nodeQ nodeS ownI jsonP
set_option linter.unusedSimpArgs false
set_option linter.unusedVariables false

inductive Ix where
  | opn | keys (i : Nat) | kids (i : Nat) | seen (i : Nat)
deriving DecidableEq
instance : Inhabited Nd := ⟨word 0⟩
def updN {α : Type} (f : Nat → α) (i : Nat) (x : α) : Nat → α := fun j => if j = i then x else f j
theorem updN_same {α : Type} (f : Nat → α) (i : Nat) (x : α) : updN f i x i = x := by simp [updN]
theorem updN_other {α : Type} (f : Nat → α) {i j : Nat} (x : α) (h : j ≠ i) : updN f i x j = f j := by simp [updN, h]
def nilK : Thing := .row 9 1 (.slice none 0 0) 0 []
def nilC : Thing := .row 28 5 (.slice none 0 0) 0 []
def kindOf (f : Fr) : Int := if f.obj then 7 else 6
def fcells (fr : Nat → Fr) (F : Ix → Thing) (i : Nat) : List Value := [.int .i64 (kindOf (fr i)), .int .i64 0, .string ByteArray.empty, (F (.keys i)).val, (F (.kids i)).val, (F (.seen i)).val]
def ocells (fr : Nat → Fr) (F : Ix → Thing) (d : Nat) : List Value := (List.range d).flatMap (fcells fr F)
theorem ocells_succ (fr : Nat → Fr) (F : Ix → Thing) (d : Nat) : ocells fr F (d + 1) = ocells fr F d ++ fcells fr F d := by simp [ocells, List.range_succ]
theorem ocells_len (fr : Nat → Fr) (F : Ix → Thing) (d : Nat) : (ocells fr F d).length = d * 6 := by
  induction d with
  | zero => rfl
  | succ d ih => rw [ocells_succ, List.length_append, ih]; simp [fcells]; omega
theorem ocells_congr {fr fr' : Nat → Fr} {F F' : Ix → Thing} {d : Nat} (h : ∀ i, i < d → fcells fr F i = fcells fr' F' i) : ocells fr F d = ocells fr' F' d := by
  induction d with
  | zero => rfl
  | succ d ih => rw [ocells_succ, ocells_succ, ih (fun i hi => h i (by omega)), h d (by omega)]
theorem ocells_get (fr : Nat → Fr) (F : Ix → Thing) {d i j : Nat} (hi : i < d) (hj : j < 6) : (ocells fr F d)[i * 6 + j]? = (fcells fr F i)[j]? := by
  induction d with
  | zero => omega
  | succ d ih =>
    rw [ocells_succ]
    have hl := ocells_len fr F d
    by_cases e : i = d
    · subst e; rw [List.getElem?_append_right (by omega), hl]; congr 1; omega
    · rw [List.getElem?_append_left (by omega)]; exact ih (by omega)
theorem ocells_set (fr fr' : Nat → Fr) (F F' : Ix → Thing) {d i j : Nat} {x : Value} (hi : i < d) (hj : j < 6) (h : ∀ k, k < d → fcells fr' F' k = if k = i then (fcells fr F i).set j x else fcells fr F k) : (ocells fr F d).set (i * 6 + j) x = ocells fr' F' d := by
  induction d with
  | zero => omega
  | succ d ih =>
    rw [ocells_succ, ocells_succ, h d (by omega)]
    have hl := ocells_len fr F d
    by_cases e : i = d
    · subst e
      rw [List.set_append_right _ _ (by omega), hl, if_pos rfl, show i * 6 + j - i * 6 = j from by omega]
      congr 1
      exact ocells_congr (fun k hk => by rw [h k (by omega), if_neg (by omega)])
    · rw [List.set_append_left _ _ (by omega), if_neg (fun e' => e e'.symm), ih (by omega) (fun k hk => h k (by omega))]

structure RM (w : World) (B rb : Nat) (s : ByteArray) (p n d : Nat) (fr : Nat → Fr) (F : Ix → Thing) (P : Nat → Prop) : Prop where
  own : OwnsI w B F
  hB : rb < B ∧ B ≤ w.heap.size
  obj : Whole w rb 43 [.string s, .int .i64 p, .int .i64 n, (F .opn).val]
  opn : ∃ ov, F .opn = .row 72 6 ov d (ocells fr F d)
  kys : ∀ i, i < d → ∃ v, F (.keys i) = .row 9 1 v (fr i).keys.length ((fr i).keys.map Value.string)
  kds : ∀ i, i < d → ∃ v, ∃ ls : List (List Value), F (.kids i) = .row 28 5 v (fr i).kids.length ls.flatten ∧ ls.length = (fr i).kids.length ∧ ∀ j, j < (fr i).kids.length → NodeIn w P ((fr i).kids.getD j default) (ls.getD j [])
  sen : ∀ i, i < d → ((fr i).obj = true → ∃ b, F (.seen i) = .map b (fr i).keys.length (seenD (fr i).keys)) ∧ ((fr i).obj = false → F (.seen i) = .nomap)
  out : ∀ i, d ≤ i → F (.keys i) = nilK ∧ F (.kids i) = nilC ∧ F (.seen i) = .nomap
  sealed' : ∀ b, P b → B ≤ b ∧ b < w.heap.size ∧ ∀ k, (F k).blk ≠ some b
  sml : ∀ i, i < d → ∀ k ∈ (fr i).keys, k.size ≤ maxLen

section
variable {w w' : World} {B rb : Nat} {s : ByteArray} {p n d : Nat} {fr : Nat → Fr} {F : Ix → Thing} {P : Nat → Prop}
theorem RM.blkB (h : RM w B rb s p n d fr F P) (k : Ix) (b : Nat) (hb : (F k).blk = some b) : B ≤ b ∧ b < w.heap.size := (h.own.1 k).lt b hb
/-- what lies below the reader's memory is written, or new blocks are made -/
theorem RM.grown (h : RM w B rb s p n d fr F P) {row : Option Nat} (hg : w.grownBy w' row) (hr : ∀ c, row = some c → c < B ∧ c ≠ rb) : RM w' B rb s p n d fr F P := by
  have hs := hg.size
  have hPk : ∀ b, P b → w'.heap[b]? = w.heap[b]? := fun b hb => hg.block b (h.sealed' b hb).2.1 (fun e => by have := (hr b e.symm).1; have := (h.sealed' b hb).1; omega)
  refine ⟨h.own.apart hg (fun k b hk e => by have := (hr b e).1; have := (h.blkB k b hk).1; omega), ⟨h.hB.1, Nat.le_trans h.hB.2 hs⟩, h.obj.kept hg (fun e => (hr rb e).2 rfl), h.opn, h.kys, fun i hi => ?_, h.sen, h.out, fun b hb => ?_, h.sml⟩
  · obtain ⟨v, ls, e1, e2, e3⟩ := h.kds i hi
    exact ⟨v, ls, e1, e2, fun j hj => (e3 j hj).keep (fun _ h => h) hPk⟩
  · have := h.sealed' b hb
    exact ⟨this.1, Nat.lt_of_lt_of_le this.2.1 hs, this.2.2⟩
/-- a block that is none of the reader's is written -/
theorem RM.apart (h : RM w B rb s p n d fr F P) {row : Option Nat} (hg : w.grownBy w' row) (hr : ∀ c, row = some c → c ≠ rb ∧ ¬ P c ∧ ∀ k, (F k).blk ≠ some c) : RM w' B rb s p n d fr F P := by
  have hs := hg.size
  have hPk : ∀ b, P b → w'.heap[b]? = w.heap[b]? := fun b hb => hg.block b (h.sealed' b hb).2.1 (fun e => (hr b e.symm).2.1 hb)
  refine ⟨h.own.apart hg (fun k b hk e => (hr b e).2.2 k hk), ⟨h.hB.1, Nat.le_trans h.hB.2 hs⟩, h.obj.kept hg (fun e => (hr rb e).1 rfl), h.opn, h.kys, fun i hi => ?_, h.sen, h.out, fun b hb => ?_, h.sml⟩
  · obtain ⟨v, ls, e1, e2, e3⟩ := h.kds i hi
    exact ⟨v, ls, e1, e2, fun j hj => (e3 j hj).keep (fun _ h => h) hPk⟩
  · have := h.sealed' b hb
    exact ⟨this.1, Nat.lt_of_lt_of_le this.2.1 hs, this.2.2⟩
theorem RM.new (h : RM w B rb s p n d fr F P) (hb : Below w.heap.size w w') : RM w' B rb s p n d fr F P := h.grown (grown_below hb none) (fun c e => by cases e)
/-- the place, or the count, is written -/
theorem RM.setR (h : RM w B rb s p n d fr F P) (j : Nat) (x : Value) {p' n' : Nat} (he : [Value.string s, .int .i64 p, .int .i64 n, (F .opn).val].set j x = [Value.string s, .int .i64 p', .int .i64 n', (F .opn).val]) : RM (w.setCell ⟨rb, j, none⟩ x) B rb s p' n' d fr F P := by
  obtain ⟨hw, hg⟩ := h.obj.set j x
  have hPk : ∀ b, P b → (w.setCell ⟨rb, j, none⟩ x).heap[b]? = w.heap[b]? := fun b hb => hg.block b (h.sealed' b hb).2.1 (fun e => by cases e; have := (h.sealed' _ hb).1; have := h.hB.1; omega)
  refine ⟨h.own.apart hg (fun k b hk e => by cases e; have := (h.blkB k _ hk).1; have := h.hB.1; omega), ⟨h.hB.1, by simpa using h.hB.2⟩, he ▸ hw, h.opn, h.kys, fun i hi => ?_, h.sen, h.out, fun b hb => by simpa using h.sealed' b hb, h.sml⟩
  obtain ⟨v, ls, e1, e2, e3⟩ := h.kds i hi
  exact ⟨v, ls, e1, e2, fun j hj => (e3 j hj).keep (fun _ h => h) hPk⟩
theorem RM.setP (h : RM w B rb s p n d fr F P) (p' : Nat) : RM (w.setCell ⟨rb, 1, none⟩ (.int .i64 p')) B rb s p' n d fr F P := h.setR 1 _ rfl
theorem RM.setN (h : RM w B rb s p n d fr F P) (n' : Nat) : RM (w.setCell ⟨rb, 2, none⟩ (.int .i64 n')) B rb s p n' d fr F P := h.setR 2 _ rfl
theorem RM.field (h : RM w B rb s p n d fr F P) : w.cell? ⟨rb, 0, none⟩ = some (.string s) ∧ w.cell? ⟨rb, 1, none⟩ = some (.int .i64 p) ∧ w.cell? ⟨rb, 2, none⟩ = some (.int .i64 n) ∧ w.cell? ⟨rb, 3, none⟩ = some (F .opn).val ∧ ∀ j, w.frozen? ⟨rb, j, none⟩ = false :=
  ⟨h.obj.cell 0, h.obj.cell 1, h.obj.cell 2, h.obj.cell 3, h.obj.frozen⟩
/-- the innermost frame -/
theorem RM.top (h : RM w B rb s p n d fr F P) (hd : 0 < d) : ∃ g cap, (F .opn).val = .slice (some ⟨g, 0, none⟩) d cap ∧ B ≤ g ∧ g < w.heap.size ∧ d ≤ cap ∧ cap ≤ maxLen ∧ (∀ i j, i < d → j < 6 → w.cell? ⟨g, i * 6 + j, none⟩ = (fcells fr F i)[j]?) ∧ ∀ j, w.frozen? ⟨g, j, none⟩ = false := by
  obtain ⟨ov, ho⟩ := h.opn
  have hk := h.own.1 .opn
  rw [ho] at hk ⊢
  have hk' : w.ownsRow B 72 6 ov d (ocells fr F d) := hk
  rcases hk'.2 with ⟨_, h0⟩ | ⟨g, cap, cur, hv, hb, hg, hn', hm, _⟩
  · omega
  · subst hv
    refine ⟨g, cap, rfl, hb, (Array.getElem?_eq_some_iff.1 hg).1, hn', hm, fun i j hi hj => ?_, fun j => hk'.frozenAt j⟩
    rw [hk'.cellAt (i * 6 + j) (by omega), ocells_get fr F hi hj]
end
end Go.Proofs.YtjcaffpmcgfhaaaDoor.jsonM
