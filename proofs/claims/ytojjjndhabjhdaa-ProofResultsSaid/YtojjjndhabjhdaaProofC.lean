/-
  What holds while (*prover).follow goes on.
-/
import Derived.Test.YtojjjndhabjhdaaProofB
namespace Go.Proofs.Ytojjjndhabjhdaa.proofC
set_option linter.unusedSimpArgs false
set_option linter.unusedVariables false
open Go.ChangeShapes Go.WideShapes Go.ChangeAt Go.RowKit proofP proofQ owns proofA proofB

section
variable {w w' : World} {B bp : Nat} {lv va : Value} {first nv : Nat} {s : PS} {F : Ix → Ent}
theorem _root_.Go.Proofs.Ytojjjndhabjhdaa.proofA.Mem.below (h : Mem w B bp lv va first nv s F) (hb : Below w.heap.size w w') : Mem w' B bp lv va first nv s F :=
  ⟨h.own.below hb, h.obj.below hb h.obj.lt, h.hx, h.ne, h.te, h.on, h.short, h.rows, h.watches, h.value, h.trail, h.row, h.watch⟩
/-- a cell of a watching list is written -/
theorem _root_.Go.Proofs.Ytojjjndhabjhdaa.proofA.Mem.setWatch (h : Mem w B bp lv va first nv s F) {lost gL capL N : Nat} (hv : (F (.watch lost)).v = .slice (some ⟨gL, 0, none⟩) N capL) (q i : Nat) :
    Mem (w.setCell ⟨gL, q, none⟩ (.int .i64 i)) B bp lv va first nv { s with W := updN s.W lost ((s.W lost).set q i) } (upd F (.watch lost) ⟨(F (.watch lost)).e, (F (.watch lost)).v, (F (.watch lost)).xs.set q (.int .i64 i)⟩) := by
  obtain ⟨O1, G1⟩ := h.own.set hv q (.int .i64 i)
  have hg : gL ≠ bp := fun e => h.ne (.watch lost) (by rw [hv, e]; rfl)
  refine ⟨O1, ?_, h.hx, fun k => ?_, fun k => ?_, ?_, ?_, ?_, ?_, ?_, ?_, fun i => ?_, fun c => ?_⟩
  · have := h.obj.kept G1 (by intro e; cases e; exact hg rfl)
    simpa [upd] using this
  · by_cases e : k = .watch lost
    · subst e; rw [upd_same]; exact h.ne _
    · rw [upd_other _ _ e]; exact h.ne k
  · by_cases e : k = .watch lost
    · subst e; rw [upd_same]; exact h.te _
    · rw [upd_other _ _ e]; exact h.te k
  · simp [upd, h.on]
  · simp [upd, h.short]
  · simp [upd, h.rows]
  · rw [upd_other _ _ (by simp), h.watches]
    apply List.map_congr_left
    intro c _
    by_cases e : c = lost
    · subst e; rw [upd_same]
    · rw [upd_other _ _ (by simpa using e)]
  · simp [upd, h.value]
  · simp [upd, h.trail]
  · rw [upd_other _ _ (by simp), h.row]
  · by_cases e : c = lost
    · subst e; rw [upd_same]; dsimp only; rw [updN_same, h.watch, List.map_set]; rfl
    · rw [upd_other _ _ (by simpa using e), h.watch]; dsimp only; rw [updN_other _ _ e]
/-- two codes of a row exchanged -/
theorem _root_.Go.Proofs.Ytojjjndhabjhdaa.proofA.Mem.swapRow (h : Mem w B bp lv va first nv s F) {i gi capi L x y : Nat} (hv : (F (.row i)).v = .slice (some ⟨gi, 0, none⟩) L capi) (hx : (s.row i).getD 1 0 = x) (hy : (s.row i).getD 0 0 = y) :
    Mem ((w.setCell ⟨gi, 0, none⟩ (.int .i64 x)).setCell ⟨gi, 1, none⟩ (.int .i64 y)) B bp lv va first nv { s with row := updN s.row i (sw (s.row i) 0 1) } (upd F (.row i) ⟨(F (.row i)).e, (F (.row i)).v, ((F (.row i)).xs.set 0 (.int .i64 x)).set 1 (.int .i64 y)⟩) := by
  obtain ⟨O1, G1⟩ := h.own.set2 hv 0 1 (.int .i64 x) (.int .i64 y)
  have hg : gi ≠ bp := fun e => h.ne (.row i) (by rw [hv, e]; rfl)
  refine ⟨O1, ?_, h.hx, fun k => ?_, fun k => ?_, ?_, ?_, ?_, ?_, ?_, ?_, fun j => ?_, fun c => ?_⟩
  · have := h.obj.kept G1 (by intro e; cases e; exact hg rfl)
    simpa [upd] using this
  · by_cases e : k = .row i
    · subst e; rw [upd_same]; exact h.ne _
    · rw [upd_other _ _ e]; exact h.ne k
  · by_cases e : k = .row i
    · subst e; rw [upd_same]; exact h.te _
    · rw [upd_other _ _ e]; exact h.te k
  · simp [upd, h.on]
  · simp [upd, h.short]
  · rw [upd_other _ _ (by simp), h.rows]
    apply List.map_congr_left
    intro c _
    by_cases e : c = i
    · subst e; rw [upd_same]
    · rw [upd_other _ _ (by simpa using e)]
  · simp [upd, h.watches]
  · simp [upd, h.value]
  · simp [upd, h.trail]
  · by_cases e : j = i
    · subst e
      rw [upd_same]
      dsimp only
      rw [updN_same, h.row]
      unfold sw
      rw [hx, hy, List.map_set, List.map_set]
      rfl
    · rw [upd_other _ _ (by simpa using e), h.row]; dsimp only; rw [updN_other _ _ e]
  · rw [upd_other _ _ (by simp), h.watch]
theorem _root_.Go.Proofs.Ytojjjndhabjhdaa.proofA.Mem.cutWatch (h : Mem w B bp lv va first nv s F) {lost gL capL N q : Nat} (hv : (F (.watch lost)).v = .slice (some ⟨gL, 0, none⟩) N capL) (hq : q ≤ N) (hN : (s.W lost).length = N) : w.ownsRow B 3 1 (.slice (some ⟨gL, 0, none⟩) q capL) q (((s.W lost).take q).map iv) := by
  have h1 := h.own.1 (.watch lost)
  have hlen : (F (.watch lost)).xs.length = N := by rw [h.watch]; simpa using hN
  rcases h1.2 with ⟨hv', _⟩ | ⟨g, cap, cur, hv', hb, hg, hn', hm', hc, ht⟩
  · rw [hv] at hv'; cases hv'
  · rw [hv] at hv'
    cases hv'
    have he := h.te (.watch lost)
    rw [show tx s.extra.e (.watch lost) = 3 from rfl] at he
    rw [he] at hg
    refine ⟨by simp; omega, .inr ⟨gL, capL, cur, rfl, hb, hg, by omega, hm', hc, ?_⟩⟩
    rw [h.watch] at ht
    have : cur.toList.take (q * 1) = (cur.toList.take (((s.W lost).map iv).length * 1)).take q := by rw [List.take_take]; congr 1; simp; omega
    rw [this, ht, List.map_take]
/-- a watching list is put back -/
theorem _root_.Go.Proofs.Ytojjjndhabjhdaa.proofA.Mem.putWatch (h : Mem w B bp lv va first nv s F) {lost gL capL N gW capW : Nat} (hm : lost < s.m) (hv : (F (.watch lost)).v = .slice (some ⟨gL, 0, none⟩) N capL) {l : List Nat} (hg : w.grownBy w' (some gL))
    (hcut : w'.ownsRow B 3 1 (.slice (some ⟨gL, 0, none⟩) l.length capL) l.length (l.map iv)) (hWv : (F .watches).v = .slice (some ⟨gW, 0, none⟩) s.m capW) :
    ∃ F', Mem (w'.setCell ⟨gW, lost, none⟩ (.slice (some ⟨gL, 0, none⟩) l.length capL)) B bp lv va first nv { s with W := updN s.W lost l } F' := by
  have O1 := h.own.step (.watch lost) ⟨3, .slice (some ⟨gL, 0, none⟩) l.length capL, l.map iv⟩ (w' := w') (by rw [hv]; exact hg) (by
    dsimp only
    rw [List.length_map]; exact hcut) (.inl (by rw [hv]; rfl))
  have hWv1 : (upd F (.watch lost) ⟨3, .slice (some ⟨gL, 0, none⟩) l.length capL, l.map iv⟩ .watches).v = .slice (some ⟨gW, 0, none⟩) s.m capW := by rw [upd_other _ _ (by simp)]; exact hWv
  obtain ⟨O2, G2⟩ := O1.set hWv1 lost (.slice (some ⟨gL, 0, none⟩) l.length capL)
  have hgW : gW ≠ bp := fun e => h.ne .watches (by rw [hWv, e]; rfl)
  have hgL : gL ≠ bp := fun e => h.ne (.watch lost) (by rw [hv, e]; rfl)
  refine ⟨_, O2, ?_, h.hx, fun k => ?_, fun k => ?_, ?_, ?_, ?_, ?_, ?_, ?_, fun j => ?_, fun c => ?_⟩
  · have := (h.obj.kept hg (by intro e; cases e; exact hgL rfl)).kept G2 (by intro e; cases e; exact hgW rfl)
    simpa [upd] using this
  · by_cases e1 : k = .watches
    · subst e1; rw [upd_same]; dsimp only; rw [hWv1]; intro e; cases e; exact hgW rfl
    · rw [upd_other _ _ e1]
      by_cases e2 : k = .watch lost
      · subst e2; rw [upd_same]; intro e; cases e; exact hgL rfl
      · rw [upd_other _ _ e2]; exact h.ne k
  · by_cases e1 : k = .watches
    · subst e1; rw [upd_same]; dsimp only; rw [upd_other _ _ (by simp)]; exact h.te .watches
    · rw [upd_other _ _ e1]
      by_cases e2 : k = .watch lost
      · subst e2; rw [upd_same]; rfl
      · rw [upd_other _ _ e2]; exact h.te k
  · simp [upd, h.on]
  · simp [upd, h.short]
  · simp [upd, h.rows]
  · rw [upd_same]
    dsimp only
    rw [upd_other _ _ (by simp), h.watches]
    apply List.ext_getElem?
    intro j
    rw [List.getElem?_set]
    simp only [List.length_map, List.length_range, List.getElem?_map]
    by_cases e : lost = j
    · subst e
      simp only [if_true, hm, List.getElem?_range hm, Option.map_some]
      rw [upd_other _ _ (by simp), upd_same]
    · rw [if_neg e]
      by_cases hj : j < s.m
      · simp only [List.getElem?_range hj, Option.map_some]
        rw [upd_other _ _ (by simp), upd_other _ _ (by simp; exact fun e' => e e'.symm)]
      · rw [List.getElem?_eq_none (by simp; omega)]; rfl
  · simp [upd, h.value]
  · simp [upd, h.trail]
  · rw [upd_other _ _ (by simp), upd_other _ _ (by simp), h.row]
  · rw [upd_other _ _ (by simp)]
    by_cases e : c = lost
    · subst e; rw [upd_same]; dsimp only; rw [updN_same]
    · rw [upd_other _ _ (by simpa using e), h.watch]; dsimp only; rw [updN_other _ _ e]
end

theorem FI.other {n : Nat} {on : Nat → Bool} {cls : Nat → List Int} {cl : List (List Int)} {fr : List Int} {row W W' : Nat → List Nat} {trail : List Nat} {head lost : Nat} {kept rest : List Nat}
    (h : FI n on cls cl fr row W trail head lost kept rest) (hw : ∀ c, c ≠ lost → W' c = W c) : FI n on cls cl fr row W' trail head lost kept rest := by
  have e : updN W' lost (kept ++ rest) = updN W lost (kept ++ rest) := by
    funext c
    by_cases e : c = lost
    · rw [e, updN_same, updN_same]
    · rw [updN_other _ _ e, updN_other _ _ e, hw c e]
  exact ⟨by rw [e]; exact h.si, h.pi, h.ti, h.dv, h.hl, h.hd, h.ro, h.on⟩

/-- what a call keeps of the prover -/
structure Same (s s' : PS) : Prop where
  n : s'.n = s.n
  m : s'.m = s.m
  on : s'.on = s.on
  short : s'.short = s.short
  len : ∀ i, (s'.row i).length = (s.row i).length
  ex : s'.extra = s.extra
theorem Same.refl (s : PS) : Same s s := ⟨rfl, rfl, rfl, rfl, fun _ => rfl, rfl⟩
theorem Same.trans {a b c : PS} (h : Same a b) (k : Same b c) : Same a c := ⟨k.n.trans h.n, k.m.trans h.m, k.on.trans h.on, k.short.trans h.short, fun i => (k.len i).trans (h.len i), k.ex.trans h.ex⟩
theorem updN_len {row : Nat → List Nat} {i : Nat} {r : List Nat} (h : r.length = (row i).length) (j : Nat) : (updN row i r j).length = (row j).length := by
  by_cases e : j = i
  · subst e; rw [updN_same, h]
  · rw [updN_other _ _ e]

structure PGood (s : PS) (cls : Nat → List Int) : Prop where
  si : SI s.n s.row s.W
  ro : ∀ i, i < s.n → RowOf (s.row i) (cls i)
  ti : TI s.trail
  hm : ∀ i, i < s.n → ∀ l, l ∈ cls i → lit l → code l < s.m
  sh : ∀ i, i ∈ s.short ↔ i < s.n ∧ (s.row i).length < 2
  hn : s.n ≤ 100000
theorem PGood.watchLen {s : PS} {cls : Nat → List Int} (h : PGood s cls) (c : Nat) : (s.W c).length ≤ 100000 :=
  Nat.le_trans (nodup_bound (h.si.nd c) fun x hx => (h.si.wat c x hx).1) h.hn
theorem rowLong {r : List Nat} {c : List Int} (h : RowOf r c) (hd : r.Nodup) : r.length ≤ 100000 :=
  Nat.le_trans (nodup_bound hd fun x hx => (h.rng hx).2) (by omega)

/-- the place in the midst: kept rows, and the rest from k on -/
def FRel (B bp : Nat) (lv : Value) (first nv : Nat) (s : PS) (cls : Nat → List Int) (cl : List (List Int)) (fr : List Int) (head lost gL capL N : Nat) (w : World) (q k : Nat) (wr : World) : Prop :=
  ∃ va st F kept, Mem wr B bp lv va first nv st F ∧ (F (.watch lost)).v = .slice (some ⟨gL, 0, none⟩) N capL ∧ (st.W lost).length = N ∧ kept.length = q ∧ (st.W lost).take q = kept ∧ q ≤ k ∧ Same s st ∧ (∀ x, x ∈ s.trail → x ∈ st.trail) ∧
    FI s.n s.on cls cl fr st.row st.W st.trail head lost kept ((st.W lost).drop k) ∧ Below B w wr
/-- a row, whose second code is the one that is followed -/
def FMid (B bp : Nat) (lv : Value) (first nv : Nat) (s : PS) (cls : Nat → List Int) (cl : List (List Int)) (fr : List Int) (head lost gL capL N : Nat) (w : World) (q k i gi capi L : Nat) (wr : World) : Prop :=
  ∃ va st F kept, Mem wr B bp lv va first nv st F ∧ (F (.watch lost)).v = .slice (some ⟨gL, 0, none⟩) N capL ∧ (st.W lost).length = N ∧ kept.length = q ∧ (st.W lost).take q = kept ∧ q ≤ k ∧ Same s st ∧ (∀ x, x ∈ s.trail → x ∈ st.trail) ∧
    FI s.n s.on cls cl fr st.row st.W st.trail head lost kept (i :: (st.W lost).drop (k + 1)) ∧ Below B w wr ∧ (F (.row i)).v = .slice (some ⟨gi, 0, none⟩) L capi ∧ (st.row i).length = L ∧ (st.row i).getD 1 0 = lost

theorem set_take {l : List Nat} {q i : Nat} (h : q < l.length) : (l.set q i).take (q + 1) = l.take q ++ [i] := by
  rw [List.take_succ_eq_append_getElem (by simpa using h), List.take_set_of_le (Nat.le_refl _)]; simp

section
variable {w wr wy : World} {B bp : Nat} {lv va : Value} {first nv : Nat} {s st : PS} {F : Ix → Ent} {cls : Nat → List Int} {cl : List (List Int)} {fr : List Int} {head lost gL capL N q k i : Nat} {kept : List Nat}
/-- a row is kept: memory -/
theorem keep_mem (hM : Mem wr B bp lv va first nv st F) (hv : (F (.watch lost)).v = .slice (some ⟨gL, 0, none⟩) N capL) (hb2 : Below wr.heap.size wr wy) (q i : Nat) :
    ∃ F', Mem (wy.setCell ⟨gL, q, none⟩ (.int .i64 i)) B bp lv va first nv { st with W := updN st.W lost ((st.W lost).set q i) } F' ∧ ∀ k, (F' k).v = (F k).v :=
  ⟨_, (hM.below hb2).setWatch hv q i, fun k => by
    by_cases e : k = .watch lost
    · subst e; rw [upd_same]
    · rw [upd_other _ _ e]⟩
/-- a row is kept -/
theorem rel_keep (hM : Mem wy B bp lv va first nv { st with W := updN st.W lost ((st.W lost).set q i) } F) (hv : (F (.watch lost)).v = .slice (some ⟨gL, 0, none⟩) N capL) (hN : (st.W lost).length = N) (hkl : kept.length = q) (htk : (st.W lost).take q = kept) (hqk : q ≤ k) (hkN : k < N)
    (hs : Same s st) (ht : ∀ x, x ∈ s.trail → x ∈ st.trail) (hF : FI s.n s.on cls cl fr st.row st.W st.trail head lost (kept ++ [i]) ((st.W lost).drop (k + 1))) (hb : Below B w wy) :
    FRel B bp lv first nv s cls cl fr head lost gL capL N w (q + 1) (k + 1) wy := by
  refine ⟨va, { st with W := updN st.W lost ((st.W lost).set q i) }, F, kept ++ [i], hM, hv, ?_, by simp [hkl], ?_, by omega, ⟨hs.n, hs.m, hs.on, hs.short, hs.len, hs.ex⟩, ht, ?_, hb⟩
  · dsimp only; rw [updN_same]; simpa using hN
  · dsimp only; rw [updN_same, set_take (by omega), htk]
  · dsimp only
    rw [updN_same, List.drop_set_of_lt (by omega)]
    exact FI.other hF (fun c hc => updN_other _ _ hc)
end
end Go.Proofs.Ytojjjndhabjhdaa.proofC
