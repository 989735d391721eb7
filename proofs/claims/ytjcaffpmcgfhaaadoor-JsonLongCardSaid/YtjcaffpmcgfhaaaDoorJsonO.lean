/-
  The reader's memory: a kid, a key is added to the innermost frame.
-/
import Derived.Test.YtjcaffpmcgfhaaaDoorJsonN
namespace Go.Proofs.YtjcaffpmcgfhaaaDoor.jsonO
open Go.ChangeShapes Go.WideShapes Go.ChangeAt Go.RowKit Go.WideMaps Go.Maps nodeP nodeQ nodeS ownI jsonP jsonM jsonN
set_option linter.unusedSimpArgs false
set_option linter.unusedVariables false

theorem getD_left {α : Type} (l m : List α) (j : Nat) (d : α) (h : j < l.length) : (l ++ m).getD j d = l.getD j d := by
  rw [List.getD_eq_getElem?_getD, List.getElem?_append_left h, ← List.getD_eq_getElem?_getD]
theorem getD_last {α : Type} (l : List α) (x d : α) : (l ++ [x]).getD l.length d = x := by
  rw [List.getD_eq_getElem?_getD, List.getElem?_append_right (Nat.le_refl _), Nat.sub_self]; rfl
theorem grown_trans {a b c : World} {r : Option Nat} (h : Below a.heap.size a b) (k : b.grownBy c r) : a.grownBy c r :=
  ⟨k.os.trans h.os, k.tape.trans h.tape, k.output.trans h.output, Nat.le_trans h.size k.size, fun j hj hne => (k.block j (Nat.lt_of_lt_of_le hj h.size) hne).trans (h.block j hj)⟩

section
variable {w w0 wA w1 : World} {B rb : Nat} {s : ByteArray} {p n d : Nat} {fr : Nat → Fr} {F : Ix → Thing} {P : Nat → Prop}

theorem RM.addKid (h : RM w B rb s p n (d + 1) fr F P) (hbA : Below w.heap.size w wA) {g cap : Nat} (hv : (F .opn).val = .slice (some ⟨g, 0, none⟩) (d + 1) cap) {x : Nd} {cs : List Value} (hx : NodeIn w P x cs)
    {cv v' : Value} {ls : List (List Value)} (hc1 : F (.kids d) = .row 28 5 cv (fr d).kids.length ls.flatten) (hc2 : ls.length = (fr d).kids.length) (hc3 : ∀ j, j < (fr d).kids.length → NodeIn w P ((fr d).kids.getD j default) (ls.getD j []))
    (hown : w1.ownsRow B 28 5 v' ((fr d).kids.length + 1) (ls.flatten ++ cs)) (hg : wA.grownBy w1 cv.ownBlock) (hat : v'.ownBlock = cv.ownBlock ∨ ∃ b, v'.ownBlock = some b ∧ wA.heap.size ≤ b) :
    ∃ F', RM (w1.setCell ⟨g, d * 6 + 4, none⟩ v') B rb s p n (d + 1) (updN fr d ⟨(fr d).obj, (fr d).keys, (fr d).kids ++ [x]⟩) F' P := by
  have hsA := hbA.size
  have hs1 := hg.size
  have hgt := grown_trans hbA hg
  obtain ⟨ov, hov⟩ := h.opn
  rw [hov] at hv
  have hv' : ov = .slice (some ⟨g, 0, none⟩) (d + 1) cap := hv
  subst hv'
  have hblk : (F (.kids d)).blk = cv.ownBlock := by rw [hc1]; rfl
  have hblkO : (F .opn).blk = some g := by rw [hov]; rfl
  have hgB := h.blkB .opn g hblkO
  have O1 := h.own.step (.kids d) (.row 28 5 v' ((fr d).kids.length + 1) (ls.flatten ++ cs)) (by rw [hblk]; exact hgt) hown (by
    rw [hblk]
    rcases hat with e | ⟨b, e, hle⟩
    · exact .inl e
    · exact .inr (.inr ⟨b, e, by omega⟩))
  have hne : some g ≠ cv.ownBlock := fun e => by have := h.own.2 .opn (.kids d) g hblkO (hblk.trans e.symm); cases this
  have hrow : w1.ownsRow B 72 6 (.slice (some ⟨g, 0, none⟩) (d + 1) cap) (d + 1) (ocells fr F (d + 1)) := by
    have := O1.1 .opn; rw [upd_other _ _ (by simp), hov] at this; exact this
  obtain ⟨r1, r2⟩ := hrow.stored (d * 6 + 4) v'
  have hos : (ocells fr F (d + 1)).set (d * 6 + 4) v' = ocells (updN fr d ⟨(fr d).obj, (fr d).keys, (fr d).kids ++ [x]⟩) (upd F (.kids d) (.row 28 5 v' ((fr d).kids.length + 1) (ls.flatten ++ cs))) (d + 1) :=
    ocells_set fr _ F _ (by omega) (by omega) (fun k hk => by
      by_cases e : k = d
      · subst e; rw [if_pos rfl]; unfold fcells kindOf; rw [updN_same, upd_same, upd_other _ _ (by simp), upd_other _ _ (by simp)]; rfl
      · rw [if_neg e]; exact fcells_alike (by rw [updN_other _ _ e]) (by rw [upd_other _ _ (by simp)]) (by rw [upd_other _ _ (by simpa using e)]) (by rw [upd_other _ _ (by simp)]))
  rw [hos] at r1
  have O2 := O1.step .opn (.row 72 6 (.slice (some ⟨g, 0, none⟩) (d + 1) cap) (d + 1) (ocells (updN fr d ⟨(fr d).obj, (fr d).keys, (fr d).kids ++ [x]⟩) (upd F (.kids d) (.row 28 5 v' ((fr d).kids.length + 1) (ls.flatten ++ cs))) (d + 1))) (by rw [upd_other _ _ (by simp), hblkO]; exact r2) r1 (.inl (by rw [upd_other _ _ (by simp), hov]; rfl))
  have hW1 : Whole w1 rb 43 [.string s, .int .i64 p, .int .i64 n, (F .opn).val] := h.obj.kept hgt (fun e => by have := (h.blkB (.kids d) rb (hblk.trans e)).1; have := h.hB.1; omega)
  have hW2 := hW1.kept r2 (fun e => by cases e; have := h.hB.1; omega)
  have hPk : ∀ b, P b → (w1.setCell ⟨g, d * 6 + 4, none⟩ v').heap[b]? = w.heap[b]? := fun b hb => by
    obtain ⟨q1, q2, q3⟩ := h.sealed' b hb
    rw [r2.block b (by omega) (fun e => q3 .opn (hblkO.trans e.symm)), hgt.block b q2 (fun e => q3 (.kids d) (hblk.trans e.symm))]
  refine ⟨_, O2, ⟨h.hB.1, by have := h.hB.2; simp; omega⟩, ?_, ⟨.slice (some ⟨g, 0, none⟩) (d + 1) cap, ?_⟩, fun i hi => ?_, fun i hi => ?_, fun i hi => ?_, fun i hi => ?_, fun b hb => ?_, fun i hi => ?_⟩
  · rw [upd_same]; rw [hov] at hW2; exact hW2
  · rw [upd_same]
    congr 1
  · rw [upd_other _ _ (by simp), upd_other _ _ (by simp)]
    by_cases e : i = d
    · subst e; rw [updN_same]; exact h.kys i hi
    · rw [updN_other _ _ e]; exact h.kys i hi
  · rw [upd_other _ _ (by simp)]
    by_cases e : i = d
    · subst e
      rw [updN_same, upd_same]
      refine ⟨v', ls ++ [cs], by simp, by simp [hc2], fun j hj => ?_⟩
      dsimp only at hj ⊢
      rw [List.length_append] at hj
      by_cases ej : j < (fr i).kids.length
      · rw [getD_left _ _ _ _ ej, getD_left _ _ _ _ (by omega)]
        exact (hc3 j ej).keep (fun _ h => h) hPk
      · have e2 : j = (fr i).kids.length := by simp at hj; omega
        subst e2
        rw [getD_last, ← hc2, getD_last]
        exact hx.keep (fun _ h => h) hPk
    · rw [updN_other _ _ e, upd_other _ _ (by simpa using e)]
      obtain ⟨v, l2, e1, e2, e3⟩ := h.kds i hi
      exact ⟨v, l2, e1, e2, fun j hj => (e3 j hj).keep (fun _ h => h) hPk⟩
  · rw [upd_other _ _ (by simp), upd_other _ _ (by simp)]
    by_cases e : i = d
    · subst e; rw [updN_same]; exact h.sen i hi
    · rw [updN_other _ _ e]; exact h.sen i hi
  · rw [upd_other _ _ (by simp), upd_other _ _ (by simp), upd_other _ _ (by simp), upd_other _ _ (by simp; omega), upd_other _ _ (by simp), upd_other _ _ (by simp)]; exact h.out i hi
  · obtain ⟨q1, q2, q3⟩ := h.sealed' b hb
    refine ⟨q1, by simp; omega, fun k => ?_⟩
    by_cases e : k = .opn
    · subst e; rw [upd_same]; show some g ≠ some b; rw [← hblkO]; exact q3 .opn
    · rw [upd_other _ _ e]
      by_cases e2 : k = .kids d
      · subst e2; rw [upd_same]
        show v'.ownBlock ≠ _
        rcases hat with e | ⟨b', e, hle⟩
        · rw [e, ← hblk]; exact q3 _
        · rw [e]; intro e'; cases e'; omega
      · rw [upd_other _ _ e2]; exact q3 k
  · by_cases e : i = d
    · subst e; rw [updN_same]; exact h.sml i hi
    · rw [updN_other _ _ e]; exact h.sml i hi

theorem RM.addKey (h : RM w B rb s p n (d + 1) fr F P) (ho : (fr d).obj = true) {g cap : Nat} (hv : (F .opn).val = .slice (some ⟨g, 0, none⟩) (d + 1) cap) {x : ByteArray} (hx : x.size ≤ maxLen) {mb : Nat} (hm : F (.seen d) = .map mb (fr d).keys.length (seenD (fr d).keys))
    (hmap : w0.ownsMap Tryd.prog 9 (plainElem Tryd.prog 3) mb ((fr d).keys.length + 1) (seenD ((fr d).keys ++ [x]))) (hg0 : w.grownBy w0 (some mb)) (hbA : Below w0.heap.size w0 wA)
    {kv v' : Value} (hk : F (.keys d) = .row 9 1 kv (fr d).keys.length ((fr d).keys.map Value.string))
    (hown : w1.ownsRow B 9 1 v' ((fr d).keys.length + 1) ((fr d).keys.map Value.string ++ [Value.string x])) (hg : wA.grownBy w1 kv.ownBlock) (hat : v'.ownBlock = kv.ownBlock ∨ ∃ b, v'.ownBlock = some b ∧ wA.heap.size ≤ b) :
    ∃ F', RM (w1.setCell ⟨g, d * 6 + 3, none⟩ v') B rb s p n (d + 1) (updN fr d ⟨true, (fr d).keys ++ [x], (fr d).kids⟩) F' P := by
  have hs0 := hg0.size
  have hsA := hbA.size
  have hs1 := hg.size
  have hgt := grown_trans hbA hg
  obtain ⟨ov, hov⟩ := h.opn
  rw [hov] at hv
  have hv' : ov = .slice (some ⟨g, 0, none⟩) (d + 1) cap := hv
  subst hv'
  have hblk : (F (.keys d)).blk = kv.ownBlock := by rw [hk]; rfl
  have hblkO : (F .opn).blk = some g := by rw [hov]; rfl
  have hblkM : (F (.seen d)).blk = some mb := by rw [hm]; rfl
  have hgB := h.blkB .opn g hblkO
  have hmB := h.blkB (.seen d) mb hblkM
  have O0 := h.own.step (.seen d) (.map mb ((fr d).keys.length + 1) (seenD ((fr d).keys ++ [x]))) (w' := w0) (by rw [hblkM]; exact hg0) ⟨hmB.1, hmap⟩ (.inl (by rw [hblkM]; rfl))
  have O1 := O0.step (.keys d) (.row 9 1 v' ((fr d).keys.length + 1) ((fr d).keys.map Value.string ++ [Value.string x])) (w' := w1) (by rw [upd_other _ _ (by simp), hblk]; exact hgt) hown (by
    rw [upd_other _ _ (by simp), hblk]
    rcases hat with e | ⟨b, e, hle⟩
    · exact .inl e
    · exact .inr (.inr ⟨b, e, by omega⟩))
  have hrow : w1.ownsRow B 72 6 (.slice (some ⟨g, 0, none⟩) (d + 1) cap) (d + 1) (ocells fr F (d + 1)) := by
    have := O1.1 .opn; rw [upd_other _ _ (by simp), upd_other _ _ (by simp), hov] at this; exact this
  obtain ⟨r1, r2⟩ := hrow.stored (d * 6 + 3) v'
  have hos : (ocells fr F (d + 1)).set (d * 6 + 3) v' = ocells (updN fr d ⟨true, (fr d).keys ++ [x], (fr d).kids⟩) (upd (upd F (.seen d) (.map mb ((fr d).keys.length + 1) (seenD ((fr d).keys ++ [x])))) (.keys d) (.row 9 1 v' ((fr d).keys.length + 1) ((fr d).keys.map Value.string ++ [Value.string x]))) (d + 1) :=
    ocells_set fr _ F _ (by omega) (by omega) (fun k hk' => by
      by_cases e : k = d
      · subst e; rw [if_pos rfl]; unfold fcells kindOf; rw [updN_same, upd_same, upd_other _ _ (by simp), upd_other _ _ (by simp), upd_other _ _ (by simp), upd_same, hm, ho]; rfl
      · rw [if_neg e]; exact fcells_alike (by rw [updN_other _ _ e]) (by rw [upd_other _ _ (by simpa using e), upd_other _ _ (by simp)]) (by rw [upd_other _ _ (by simp), upd_other _ _ (by simp)]) (by rw [upd_other _ _ (by simp), upd_other _ _ (by simpa using e)]))
  rw [hos] at r1
  have O2 := O1.step .opn (.row 72 6 (.slice (some ⟨g, 0, none⟩) (d + 1) cap) (d + 1) (ocells (updN fr d ⟨true, (fr d).keys ++ [x], (fr d).kids⟩) (upd (upd F (.seen d) (.map mb ((fr d).keys.length + 1) (seenD ((fr d).keys ++ [x])))) (.keys d) (.row 9 1 v' ((fr d).keys.length + 1) ((fr d).keys.map Value.string ++ [Value.string x]))) (d + 1))) (by rw [upd_other _ _ (by simp), upd_other _ _ (by simp), hblkO]; exact r2) r1 (.inl (by rw [upd_other _ _ (by simp), upd_other _ _ (by simp), hov]; rfl))
  have hW0 : Whole w0 rb 43 [.string s, .int .i64 p, .int .i64 n, (F .opn).val] := h.obj.kept hg0 (fun e => by cases e; have := h.hB.1; omega)
  have hW1 := hW0.kept hgt (fun e => by have := (h.blkB (.keys d) rb (hblk.trans e)).1; have := h.hB.1; omega)
  have hW2 := hW1.kept r2 (fun e => by cases e; have := h.hB.1; omega)
  have hPk : ∀ b, P b → (w1.setCell ⟨g, d * 6 + 3, none⟩ v').heap[b]? = w.heap[b]? := fun b hb => by
    obtain ⟨q1, q2, q3⟩ := h.sealed' b hb
    rw [r2.block b (by omega) (fun e => q3 .opn (hblkO.trans e.symm)), hgt.block b (by omega) (fun e => q3 (.keys d) (hblk.trans e.symm)), hg0.block b q2 (fun e => q3 (.seen d) (hblkM.trans e.symm))]
  refine ⟨_, O2, ⟨h.hB.1, by have := h.hB.2; simp; omega⟩, ?_, ⟨.slice (some ⟨g, 0, none⟩) (d + 1) cap, ?_⟩, fun i hi => ?_, fun i hi => ?_, fun i hi => ?_, fun i hi => ?_, fun b hb => ?_, fun i hi => ?_⟩
  · rw [upd_same]; rw [hov] at hW2; exact hW2
  · rw [upd_same]
    congr 1
  · rw [upd_other _ _ (by simp)]
    by_cases e : i = d
    · subst e; rw [updN_same, upd_same]; exact ⟨v', by simp⟩
    · rw [updN_other _ _ e, upd_other _ _ (by simpa using e), upd_other _ _ (by simp)]; exact h.kys i hi
  · rw [upd_other _ _ (by simp), upd_other _ _ (by simp), upd_other _ _ (by simp)]
    obtain ⟨v, l2, e1, e2, e3⟩ := h.kds i hi
    by_cases e : i = d
    · subst e; rw [updN_same]; exact ⟨v, l2, e1, e2, fun j hj => (e3 j hj).keep (fun _ h => h) hPk⟩
    · rw [updN_other _ _ e]; exact ⟨v, l2, e1, e2, fun j hj => (e3 j hj).keep (fun _ h => h) hPk⟩
  · rw [upd_other _ _ (by simp), upd_other _ _ (by simp)]
    by_cases e : i = d
    · subst e; rw [updN_same, upd_same]; exact ⟨fun _ => ⟨mb, by simp⟩, fun e => by cases e⟩
    · rw [updN_other _ _ e, upd_other _ _ (by simpa using e)]; exact h.sen i hi
  · rw [upd_other _ _ (by simp), upd_other _ _ (by simp; omega), upd_other _ _ (by simp), upd_other _ _ (by simp), upd_other _ _ (by simp), upd_other _ _ (by simp), upd_other _ _ (by simp), upd_other _ _ (by simp), upd_other _ _ (by simp; omega)]; exact h.out i hi
  · obtain ⟨q1, q2, q3⟩ := h.sealed' b hb
    refine ⟨q1, by simp; omega, fun k => ?_⟩
    by_cases e : k = .opn
    · subst e; rw [upd_same]; show some g ≠ some b; rw [← hblkO]; exact q3 .opn
    · rw [upd_other _ _ e]
      by_cases e2 : k = .keys d
      · subst e2; rw [upd_same]
        show v'.ownBlock ≠ _
        rcases hat with e | ⟨b', e, hle⟩
        · rw [e, ← hblk]; exact q3 _
        · rw [e]; intro e'; cases e'; omega
      · rw [upd_other _ _ e2]
        by_cases e3 : k = .seen d
        · subst e3; rw [upd_same]; show some mb ≠ some b; rw [← hblkM]; exact q3 _
        · rw [upd_other _ _ e3]; exact q3 k
  · by_cases e : i = d
    · subst e; rw [updN_same]
      intro k hk'
      rcases List.mem_append.1 hk' with hk' | hk'
      · exact h.sml i hi k hk'
      · simp at hk'; rw [hk']; exact hx
    · rw [updN_other _ _ e]; exact h.sml i hi
end
end Go.Proofs.YtjcaffpmcgfhaaaDoor.jsonO
