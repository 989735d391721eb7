/-
  The memory of an Array or an Object that the reference reads.
-/
import Derived.Test.YtjcaffpmcgfhaaaGreatDoorRefA
import Derived.Test.YtjcaffpmcgfhaaaGreatDoorJsoM
namespace Go.Proofs.YtjcaffpmcgfhaaaGreatDoor.refB
open Go.ChangeShapes Go.WideShapes Go.ChangeAt Go.RowKit Go.WideMaps Go.Maps nodeP nodeQ nodeS ownI jsonP jsonM jsonN jsonO jsonA jsonB refA
set_option linter.unusedSimpArgs false
set_option linter.unusedVariables false

inductive Jx where | keys | kids
deriving DecidableEq

structure OM (w : World) (B rb ob : Nat) (s : ByteArray) (p e n : Nat) (kd : Int) (ks : List ByteArray) (cs : List Nd) (F : Jx → Thing) (P : Nat → Prop) : Prop where
  own : OwnsI w B F
  hB : rb < B ∧ ob < B ∧ ob ≠ rb ∧ B ≤ w.heap.size
  rd : Rw w rb s p e n
  out : Whole w ob 26 [.int .i64 kd, .int .i64 0, .string ByteArray.empty, (F .keys).val, (F .kids).val]
  kys : ∃ v, F .keys = .row 9 1 v ks.length (ks.map Value.string)
  kds : ∃ v, ∃ ls : List (List Value), F .kids = .row 26 5 v cs.length ls.flatten ∧ ls.length = cs.length ∧ (e = 0 → ∀ j, j < cs.length → NodeIn w P (cs.getD j default) (ls.getD j []))
  sealed' : ∀ b, P b → B ≤ b ∧ b < w.heap.size ∧ ∀ k, (F k).blk ≠ some b
  sml : ∀ k ∈ ks, k.size ≤ maxLen
section
variable {w w' wA w1 : World} {B rb ob : Nat} {s : ByteArray} {p e n p' e' n' : Nat} {kd : Int} {ks : List ByteArray} {cs : List Nd} {F : Jx → Thing} {P : Nat → Prop}
theorem OM.blkB (h : OM w B rb ob s p e n kd ks cs F P) (k : Jx) (b : Nat) (hb : (F k).blk = some b) : B ≤ b ∧ b < w.heap.size := (h.own.1 k).lt b hb
theorem OM.call (h : OM w B rb ob s p e n kd ks cs F P) (hg : w.grownBy w' (some rb)) (hr : Rw w' rb s p' e' n') (he : e' = 0 → e = 0) : OM w' B rb ob s p' e' n' kd ks cs F P := by
  have hs := hg.size
  have hPk : ∀ b, P b → w'.heap[b]? = w.heap[b]? := fun b hb => hg.block b (h.sealed' b hb).2.1 (fun e => by cases e; have := (h.sealed' _ hb).1; have := h.hB.1; omega)
  refine ⟨h.own.apart hg (fun k b hk e => by cases e; have := (h.blkB k _ hk).1; have := h.hB.1; omega), ⟨h.hB.1, h.hB.2.1, h.hB.2.2.1, by have := h.hB.2.2.2; omega⟩, hr, h.out.kept hg (fun e => h.hB.2.2.1 (Option.some.inj e).symm), h.kys, ?_, fun b hb => ?_, h.sml⟩
  · obtain ⟨v, ls, e1, e2, e3⟩ := h.kds
    exact ⟨v, ls, e1, e2, fun h0 j hj => (e3 (he h0) j hj).keep (fun _ h => h) hPk⟩
  · have := h.sealed' b hb
    exact ⟨this.1, by omega, this.2.2⟩
theorem OM.new (h : OM w B rb ob s p e n kd ks cs F P) (hb : Below w.heap.size w w') : OM w' B rb ob s p e n kd ks cs F P := h.call (grown_below hb _) (h.rd.new hb) id
theorem OM.shut (h : OM w B rb ob s p e n kd ks cs F P) (Q : Nat → Prop) (hQ : ∀ b, Q b → B ≤ b ∧ b < w.heap.size ∧ ∀ k, (F k).blk ≠ some b) : OM w B rb ob s p e n kd ks cs F (fun b => P b ∨ Q b) := by
  refine ⟨h.own, h.hB, h.rd, h.out, h.kys, ?_, fun b hb => ?_, h.sml⟩
  · obtain ⟨v, ls, e1, e2, e3⟩ := h.kds
    exact ⟨v, ls, e1, e2, fun h0 j hj => (e3 h0 j hj).keep (fun _ h => .inl h) (fun _ _ => rfl)⟩
  · rcases hb with hb | hb
    · exact h.sealed' b hb
    · exact hQ b hb
theorem OM.start (hR : Rw w rb s p 0 n) (hW : Whole w ob 26 [.int .i64 kd, .int .i64 0, .string ByteArray.empty, .slice none 0 0, .slice none 0 0]) (h1 : rb < B ∧ ob < B ∧ ob ≠ rb ∧ B ≤ w.heap.size) :
    ∃ F, OM w B rb ob s p 0 n kd [] [] F (fun _ => False) := by
  refine ⟨fun k => match k with
    | .keys => nilK
    | .kids => nilC, ⟨⟨fun k => ?_, fun j k b hj => ?_⟩, h1, hR, hW, ⟨_, rfl⟩, ⟨_, [], rfl, rfl, fun _ j hj => absurd hj (Nat.not_lt_zero _)⟩, fun b hb => hb.elim, by simp⟩⟩
  · cases k
    · exact ⟨rfl, .inl ⟨rfl, rfl⟩⟩
    · exact ⟨rfl, .inl ⟨rfl, rfl⟩⟩
  · cases j <;> cases hj
theorem OM.addKid (h : OM w B rb ob s p e n kd ks cs F P) (hbA : Below w.heap.size w wA) {x : Nd} {l : List Value} (hx : e = 0 → NodeIn w P x l) {cv v' : Value} {ls : List (List Value)} (hc1 : F .kids = .row 26 5 cv cs.length ls.flatten) (hc2 : ls.length = cs.length)
    (hc3 : e = 0 → ∀ j, j < cs.length → NodeIn w P (cs.getD j default) (ls.getD j []))
    (hown : w1.ownsRow B 26 5 v' (cs.length + 1) (ls.flatten ++ l)) (hg : wA.grownBy w1 cv.ownBlock) (hat : v'.ownBlock = cv.ownBlock ∨ ∃ b, v'.ownBlock = some b ∧ wA.heap.size ≤ b) :
    ∃ F', OM (w1.setCell ⟨ob, 4, none⟩ v') B rb ob s p e n kd ks (cs ++ [x]) F' P := by
  have hsA := hbA.size
  have hs1 := hg.size
  have hgt := grown_trans hbA hg
  have hblk : (F .kids).blk = cv.ownBlock := by rw [hc1]; rfl
  have O1 := h.own.step .kids (.row 26 5 v' (cs.length + 1) (ls.flatten ++ l)) (by rw [hblk]; exact hgt) hown (by
    rw [hblk]
    rcases hat with e | ⟨b, e, hle⟩
    · exact .inl e
    · exact .inr (.inr ⟨b, e, by omega⟩))
  have hne : cv.ownBlock ≠ some ob := fun e => by have := (h.blkB .kids ob (hblk.trans e)).1; have := h.hB; omega
  have hneR : cv.ownBlock ≠ some rb := fun e => by have := (h.blkB .kids rb (hblk.trans e)).1; have := h.hB; omega
  have hW1 := h.out.kept hgt hne
  have hR1 : Rw w1 rb s p e n := Whole.kept h.rd hgt hneR
  obtain ⟨r1, r2⟩ := hW1.set 4 v'
  have hPk : ∀ b, P b → (w1.setCell ⟨ob, 4, none⟩ v').heap[b]? = w.heap[b]? := fun b hb => by
    obtain ⟨q1, q2, q3⟩ := h.sealed' b hb
    rw [r2.block b (by omega) (fun e => by cases e; have := h.hB; omega), hgt.block b q2 (fun e => q3 .kids (hblk.trans e.symm))]
  refine ⟨_, ⟨O1.apart r2 (fun k b hk e => ?_), ⟨h.hB.1, h.hB.2.1, h.hB.2.2.1, by have := h.hB.2.2.2; simp; omega⟩, Whole.kept hR1 r2 (fun e => h.hB.2.2.1 (Option.some.inj e)), ?_, ?_, ⟨v', ls ++ [l], ?_, by simp [hc2], fun h0 j hj => ?_⟩, fun b hb => ?_, h.sml⟩⟩
  · have e' := Option.some.inj e
    subst e'
    have := ((O1.1 k).lt _ hk).1
    have := h.hB
    omega
  · rw [upd_same, upd_other _ _ (by simp)]; exact r1
  · rw [upd_other _ _ (by simp)]; exact h.kys
  · rw [upd_same]; simp
  · rw [List.length_append] at hj
    by_cases ej : j < cs.length
    · rw [getD_left _ _ _ _ ej, getD_left _ _ _ _ (by omega)]
      exact (hc3 h0 j ej).keep (fun _ h => h) hPk
    · have e2 : j = cs.length := by simp at hj; omega
      subst e2
      rw [getD_last, ← hc2, getD_last]
      exact (hx h0).keep (fun _ h => h) hPk
  · obtain ⟨q1, q2, q3⟩ := h.sealed' b hb
    refine ⟨q1, by simp; omega, fun k => ?_⟩
    by_cases e2 : k = .kids
    · subst e2; rw [upd_same]
      show v'.ownBlock ≠ _
      rcases hat with e | ⟨b', e, hle⟩
      · rw [e, ← hblk]; exact q3 _
      · rw [e]; intro e'; cases e'; omega
    · rw [upd_other _ _ e2]; exact q3 k
theorem OM.addKey (h : OM w B rb ob s p e n kd ks cs F P) (hbA : Below w.heap.size w wA) {x : ByteArray} (hx : x.size ≤ maxLen) {kv v' : Value} (hk : F .keys = .row 9 1 kv ks.length (ks.map Value.string))
    (hown : w1.ownsRow B 9 1 v' (ks.length + 1) (ks.map Value.string ++ [Value.string x])) (hg : wA.grownBy w1 kv.ownBlock) (hat : v'.ownBlock = kv.ownBlock ∨ ∃ b, v'.ownBlock = some b ∧ wA.heap.size ≤ b) :
    ∃ F', OM (w1.setCell ⟨ob, 3, none⟩ v') B rb ob s p e n kd (ks ++ [x]) cs F' P ∧ (F' .keys).val = v' ∧ F' .kids = F .kids := by
  have hsA := hbA.size
  have hs1 := hg.size
  have hgt := grown_trans hbA hg
  have hblk : (F .keys).blk = kv.ownBlock := by rw [hk]; rfl
  have O1 := h.own.step .keys (.row 9 1 v' (ks.length + 1) (ks.map Value.string ++ [Value.string x])) (by rw [hblk]; exact hgt) hown (by
    rw [hblk]
    rcases hat with e | ⟨b, e, hle⟩
    · exact .inl e
    · exact .inr (.inr ⟨b, e, by omega⟩))
  have hne : kv.ownBlock ≠ some ob := fun e => by have := (h.blkB .keys ob (hblk.trans e)).1; have := h.hB; omega
  have hneR : kv.ownBlock ≠ some rb := fun e => by have := (h.blkB .keys rb (hblk.trans e)).1; have := h.hB; omega
  have hW1 := h.out.kept hgt hne
  have hR1 : Rw w1 rb s p e n := Whole.kept h.rd hgt hneR
  obtain ⟨r1, r2⟩ := hW1.set 3 v'
  have hPk : ∀ b, P b → (w1.setCell ⟨ob, 3, none⟩ v').heap[b]? = w.heap[b]? := fun b hb => by
    obtain ⟨q1, q2, q3⟩ := h.sealed' b hb
    rw [r2.block b (by omega) (fun e => by cases e; have := h.hB; omega), hgt.block b q2 (fun e => q3 .keys (hblk.trans e.symm))]
  refine ⟨_, ⟨O1.apart r2 (fun k b hk e => ?_), ⟨h.hB.1, h.hB.2.1, h.hB.2.2.1, by have := h.hB.2.2.2; simp; omega⟩, Whole.kept hR1 r2 (fun e => h.hB.2.2.1 (Option.some.inj e)), ?_, ⟨v', ?_⟩, ?_, fun b hb => ?_, fun k hk' => ?_⟩, by rw [upd_same]; rfl, by rw [upd_other _ _ (by simp)]⟩
  · have e' := Option.some.inj e
    subst e'
    have := ((O1.1 k).lt _ hk).1
    have := h.hB
    omega
  · rw [upd_same, upd_other _ _ (by simp)]; exact r1
  · rw [upd_same]; simp
  · rw [upd_other _ _ (by simp)]
    obtain ⟨v, l2, e1, e2, e3⟩ := h.kds
    exact ⟨v, l2, e1, e2, fun h0 j hj => (e3 h0 j hj).keep (fun _ h => h) hPk⟩
  · obtain ⟨q1, q2, q3⟩ := h.sealed' b hb
    refine ⟨q1, by simp; omega, fun k => ?_⟩
    by_cases e2 : k = .keys
    · subst e2; rw [upd_same]
      show v'.ownBlock ≠ _
      rcases hat with e | ⟨b', e, hle⟩
      · rw [e, ← hblk]; exact q3 _
      · rw [e]; intro e'; cases e'; omega
    · rw [upd_other _ _ e2]; exact q3 k
  · rcases List.mem_append.1 hk' with hk' | hk'
    · exact h.sml k hk'
    · simp at hk'; rw [hk']; exact hx
/-- what is read, when it is done -/
theorem OM.done (h : OM w B rb ob s p 0 n kd ks cs F P) (hk : In64 kd) (h1 : ks.length ≤ maxLen) (h2 : cs.length ≤ maxLen) {B0 : Nat} (hB : B0 ≤ B) :
    NodeIn w (fun b => B0 ≤ b ∧ b < w.heap.size) (.mk kd 0 ByteArray.empty ks cs) [.int .i64 kd, .int .i64 0, .string ByteArray.empty, (F .keys).val, (F .kids).val] := by
  obtain ⟨kv, hkv⟩ := h.kys
  obtain ⟨cv, ls, hc1, hc2, hc3⟩ := h.kds
  have hkr : w.ownsRow B 9 1 kv ks.length (ks.map Value.string) := by have := h.own.1 .keys; rw [hkv] at this; exact this
  have hcr : w.ownsRow B 26 5 cv cs.length ls.flatten := by have := h.own.1 .kids; rw [hc1] at this; exact this
  have hblkK : (F .keys).blk = kv.ownBlock := by rw [hkv]; rfl
  have hblkC : (F .kids).blk = cv.ownBlock := by rw [hc1]; rfl
  have h5 : ∀ j, j < ls.length → (ls.getD j []).length = 5 := fun j hj => (hc3 rfl j (by omega)).len
  have hK : KeysIn w (fun b => B0 ≤ b ∧ b < w.heap.size) (F .keys).val ks := by
    rw [hkv]
    show KeysIn w _ kv ks
    rcases hkr.2 with ⟨rfl, h0⟩ | ⟨g1, c1, cur, rfl, hb, hg, hn', hm, hc, ht⟩
    · have he : ks = [] := List.length_eq_zero_iff.1 h0
      subst he
      exact ⟨none, 0, 0, 0, rfl, Nat.zero_le _, fun h => absurd rfl h, fun i hi => absurd hi (Nat.not_lt_zero _), by simp⟩
    · refine ⟨_, c1, g1, 0, rfl, h1, fun _ => ⟨rfl, by omega, (Array.getElem?_eq_some_iff.1 hg).1⟩, fun i hi => ?_, h.sml⟩
      rw [Nat.zero_add, hkr.cellAt i (by omega)]
      simp [List.getD, hi]
  rw [hc1]
  show NodeIn w _ _ [_, _, _, _, cv]
  rcases hcr.2 with ⟨rfl, h0⟩ | ⟨g1, c1, cur, rfl, hb, hg, hn', hm, hc, ht⟩
  · have he : cs = [] := List.length_eq_zero_iff.1 h0
    subst he
    exact .mk _ _ _ _ [] _ none 0 0 0 (fun _ => []) ⟨hk, by unfold In64; omega, Nat.zero_le _⟩ hK (Nat.zero_le _) (fun h => absurd rfl h) (fun i hi => absurd hi (Nat.not_lt_zero _)) (fun i hi => absurd hi (Nat.not_lt_zero _))
  · refine .mk _ _ _ _ cs _ _ c1 g1 0 (fun i => ls.getD i []) ⟨hk, by unfold In64; omega, Nat.zero_le _⟩ hK h2 (fun _ => ⟨rfl, by omega, (Array.getElem?_eq_some_iff.1 hg).1⟩) (fun i hi j hj => ?_) (fun i hi => ?_)
    · rw [show (0 + 5 * i + j) = 5 * i + j from by omega, hcr.cellAt (5 * i + j) (by omega)]
      exact flat_get h5 (by omega) hj
    · have := (hc3 rfl i hi).keep (P' := fun b => B0 ≤ b ∧ b < w.heap.size) (fun b hb => by have := h.sealed' b hb; omega) (fun _ _ => rfl)
      rw [List.getD_eq_getElem?_getD, List.getElem?_eq_getElem hi] at this
      exact this
end
end Go.Proofs.YtjcaffpmcgfhaaaGreatDoor.refB
