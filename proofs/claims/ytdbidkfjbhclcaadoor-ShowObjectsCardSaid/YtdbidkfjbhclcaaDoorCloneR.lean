/-
  Contracts: slices.Clone of texts and of nodes.
-/
import Derived.Test.YtdbidkfjbhclcaaDoorCloM
import Derived.Test.YtdbidkfjbhclcaaDoorShelf
namespace Go.Proofs.YtdbidkfjbhclcaaDoor.cloneR
set_option linter.unusedSimpArgs false
set_option linter.unusedVariables false
open Go.ChangeShapes Go.WideShapes Go.ChangeAt Go.RowKit nodeP nodeQ cloneP owns cloneQ

/-- a new block of texts -/
def NewS (B : Nat) (w : World) (b : Nat) : Prop := B ≤ b ∧ ∃ cells, Whole w b 9 cells
theorem keys_row {w : World} {B : Nat} {v : Value} {ks : List ByteArray} (h : w.ownsRow B 9 1 v ks.length (ks.map Value.string)) (hs : ∀ s ∈ ks, s.size ≤ maxLen) : KeysG w (NewS B w) v ks := by
  rcases h.2 with ⟨rfl, h0⟩ | ⟨g, cap, cur, rfl, hb, hg, hn, hm, hc, ht⟩
  · obtain rfl : ks = [] := List.length_eq_zero_iff.1 h0
    exact nil_keys _ _
  · refine ⟨_, cap, g, 0, rfl, ⟨by omega, hn⟩, fun _ => ⟨rfl, hb, cur.toList, by unfold Whole; simpa using hg⟩, fun i hi => ?_, hs⟩
    have := World.ownsRow.cellAt h i (by omega)
    rw [Nat.zero_add, this, List.getElem?_map, List.getElem?_eq_getElem hi, List.getD_eq_getElem?_getD, List.getElem?_eq_getElem hi]; rfl
theorem Clone_keys (kv : Value) (ks : List ByteArray) (w : World) (h : KeysAt w w.heap.size kv ks) (hl : ks.length ≤ 100000) :
    Calls Tryd.prog 50 #[kv] w fun e w' => ∃ kv', e = .returned kv' ∧ KeysG w' (NewS w.heap.size w') kv' ks ∧ Below w.heap.size w w' := by
  obtain ⟨ao, cap, b, off, rfl, hm, ha, hc, hs⟩ := h
  by_cases h0 : ks = []
  · subst h0
    cases ao with
    | none =>
      refine (Tryd.slices_Clone_string_nil 0 cap w).mono ?_
      rintro e w' ⟨rfl, rfl⟩
      exact ⟨_, rfl, nil_keys _ _, Below.refl _ _⟩
    | some a =>
      refine (Tryd.slices_Clone_string_zero a cap w).mono ?_
      rintro e w' ⟨v', rfl, ho, _, hb⟩
      exact ⟨_, rfl, keys_row (ks := []) ho (by simp), hb⟩
  · obtain ⟨rfl, hb⟩ := ha h0
    refine (Tryd.slices_Clone_string b off ks.length cap ks w (Nat.le_refl _) (by omega) hc).mono ?_
    rintro e w' ⟨v', rfl, ho, _, hb⟩
    rw [List.take_length] at ho
    exact ⟨_, rfl, keys_row ho hs, hb⟩

/-- the cells of a list of nodes -/
def ncells (n : Nat) (ls : Nat → List Value) : List Value := (List.range (5 * n)).map fun q => (ls (q / 5)).getD (q % 5) undef
theorem ncells_len (n : Nat) (ls : Nat → List Value) : (ncells n ls).length = n * 5 := by simp [ncells]; omega
theorem ncells_at {n : Nat} {ls : Nat → List Value} {i j : Nat} (hi : i < n) (hj : j < 5) (h5 : (ls i).length = 5) : (ncells n ls)[5 * i + j]? = (ls i)[j]? := by
  unfold ncells
  rw [List.getElem?_map, List.getElem?_range (by omega), Option.map_some, show (5 * i + j) / 5 = i by omega, show (5 * i + j) % 5 = j by omega, List.getElem?_eq_getElem (by omega), List.getD_eq_getElem?_getD, List.getElem?_eq_getElem (by omega)]; rfl
theorem infoN : (Tryd.prog.info? 26).map (fun i => (i.zero, i.size, i.bytes)) = some (some (.agg #[.int .i64 0, .int .i64 0, .string ByteArray.empty, .slice none 0 0, .slice none 0 0]), 5, 80) := by kernel_rfl
theorem parts {t : TypeId} {z : Value} {s b : Nat} (h : (Tryd.prog.info? t).map (fun i => (i.zero, i.size, i.bytes)) = some (some z, s, b)) : ∃ i, Tryd.prog.info? t = some i ∧ i.zero = some z ∧ i.size = s ∧ i.bytes = b := by
  cases hi : Tryd.prog.info? t with
  | none => rw [hi] at h; cases h
  | some i => rw [hi] at h; simp at h; exact ⟨i, rfl, h.1, h.2.1, h.2.2⟩
/-- a node's cells are one cell each -/
theorem node_cells {w : World} {B : Nat} {x : Nd} {l : List Value} (h : NodeAt w B x l) : l.length = 5 ∧ ∀ u ∈ l, u.oneCell' = true := by
  cases x with
  | mk k n t ks cs =>
    obtain ⟨kv, cv, rfl, _, _, _, hkv, hcv⟩ := h.open
    obtain ⟨ak, capk, bk, offk, rfl, _⟩ := hkv
    obtain ⟨ao, cap, b, off, ls, rfl, _⟩ := hcv
    refine ⟨rfl, fun u hu => ?_⟩
    simp only [List.mem_cons, List.not_mem_nil, or_false] at hu
    rcases hu with rfl | rfl | rfl | rfl | rfl <;> rfl
/-- what a copy of a list of nodes is -/
def CopyN (n : Nat) (ls : Nat → List Value) (w : World) (e : Ending) (w' : World) : Prop :=
  ∃ bo cap', e = .returned (.slice bo n cap') ∧ Below w.heap.size w w' ∧ n ≤ cap' ∧ (n ≠ 0 → ∃ b' cells, bo = some ⟨b', 0, none⟩ ∧ w.heap.size ≤ b' ∧ Whole w' b' 26 cells ∧ 5 * n ≤ cells.length ∧ ∀ i, i < n → ∀ j, j < 5 → w'.cell? ⟨b', 5 * i + j, none⟩ = (ls i)[j]?)
set_option maxRecDepth 100000 in
set_option maxHeartbeats 2000000 in
theorem Clone_node (ao : Option Addr) (cap b off : Nat) (cs : List Nd) (ls : Nat → List Value) (w : World) (hl : cs.length ≤ 100000) (ha : cs ≠ [] → ao = some ⟨b, off, none⟩ ∧ b < w.heap.size) (hc : ∀ i, i < cs.length → ∀ j, j < 5 → w.cell? ⟨b, off + 5 * i + j, none⟩ = (ls i)[j]?) (hn : ∀ i (h : i < cs.length), NodeAt w w.heap.size cs[i] (ls i)) :
    Calls Tryd.prog 51 #[.slice ao cs.length cap] w (CopyN cs.length ls w) := by
  have q22 : ∀ (w : World) (a : Option Addr) (n c n' c' : Nat), (binOp .eql 22 (.slice a n c) (.slice none n' c')).run Tryd.prog w = .ok (.bool a.isNone) w := fun w a n c n' c' => Lib.run_eql_slice_nil w _ _ a n c n' c' Tryd.underlying22
  obtain ⟨i0, hi0, hz0, hz1, hz2⟩ := parts infoN
  by_cases h0 : cs = []
  · subst h0
    cases ao with
    | none =>
      go_enter Tryd.func51, Tryd.ntmps51
      go_wp2
      go_ret
      exact ⟨none, 0, rfl, Below.refl _ _, Nat.zero_le _, fun h => absurd rfl h⟩
    | some a =>
      go_enter Tryd.func51, Tryd.ntmps51
      go_wp2_with (at_builtin; refine wpList_append_own _ rfl _ _ 22 rfl w.heap.size 26 i0 _ 5 80 Tryd.underlying22 hi0 hz0 hz1 hz2 rfl (by omega) _ _ _ rfl (World.ownsRow_made w #[] 0 (Nat.le_refl _) (Nat.zero_le _) (by simp)) a 0 cap [] rfl ?qa1 ?qa2 ?qa3 ?qa4 ?qa5 ?qa6 ?_)
      case qa1 => rfl
      case qa2 => intro j u hj; simp at hj
      case qa3 => simp
      case qa4 => simp
      case qa5 => simp
      case qa6 => simp
      intro v' w1 hown hgrow hnil
      have hb1 : Below w.heap.size w w1 := ((Below.refl _ w).alloc (Nat.le_refl _) _).grown hgrow (by simp) (by intro k hk; simp [Value.ownBlock] at hk; omega)
      have hform : ∃ bo cap', v' = .slice bo 0 cap' := by
        rcases hown.2 with ⟨e, _⟩ | ⟨g, cap2, cur, e, _⟩
        · exact ⟨none, 0, e⟩
        · exact ⟨_, cap2, by simpa using e⟩
      obtain ⟨bo, cap', rfl⟩ := hform
      have HB1 := Lib.hid hb1
      clear hown hgrow hnil hb1
      go_wp2
      go_ret
      exact ⟨bo, cap', rfl, HB1.out, Nat.zero_le _, fun h => absurd rfl h⟩
  · obtain ⟨rfl, hb⟩ := ha h0
    have HN : Hid (∀ i, i < cs.length → (ls i).length = 5 ∧ ∀ u ∈ ls i, u.oneCell' = true) := Lib.hid fun i hi => node_cells (hn i hi)
    have HC := Lib.hid hc
    have HL := Lib.hid hl
    clear hc hn ha
    generalize cs.length = n at *
    go_enter Tryd.func51, Tryd.ntmps51
    go_wp2_with (at_builtin; refine wpList_append_own _ rfl _ _ 22 rfl w.heap.size 26 i0 _ 5 80 Tryd.underlying22 hi0 hz0 hz1 hz2 rfl (by omega) _ _ _ rfl (World.ownsRow_made w #[] 0 (Nat.le_refl _) (Nat.zero_le _) (by simp)) ⟨b, off, none⟩ n cap (ncells n ls) rfl ?qc1 ?qc2 ?qc3 ?qc4 ?qc5 ?qc6 ?_)
    case qc1 => rw [ncells_len]
    case qc2 =>
      intro j u hj
      have hjl : j < 5 * n := by have := (List.getElem?_eq_some_iff.1 hj).1; rw [ncells_len] at this; omega
      have e : j = 5 * (j / 5) + j % 5 := by omega
      rw [Addr.add_lit]
      refine Lib.cell?_alloc_some _ ?_
      have h1 := HC.out (j / 5) (by omega) (j % 5) (by omega)
      have h2 := ncells_at (ls := ls) (n := n) (i := j / 5) (j := j % 5) (by omega) (by omega) (HN.out _ (by omega)).1
      rw [← e] at h2
      rw [hj] at h2
      rw [← h2, show off + 5 * (j / 5) + j % 5 = off + j by omega] at h1
      exact h1
    case qc3 =>
      intro u hu
      obtain ⟨q, hq, rfl⟩ := List.mem_map.1 hu
      rw [List.mem_range] at hq
      have h1 := HN.out (q / 5) (by omega)
      refine h1.2 _ ?_
      rw [List.getD_eq_getElem?_getD, List.getElem?_eq_getElem (by omega)]
      exact List.getElem_mem _
    case qc4 => unfold maxLen; omega
    case qc5 => omega
    case qc6 => simp
    intro v' w1 hown hgrow hnil
    have hb1 : Below w.heap.size w w1 := ((Below.refl _ w).alloc (Nat.le_refl _) _).grown hgrow (by simp) (by intro k hk; simp [Value.ownBlock] at hk; omega)
    have hres : ∃ g cap' cur, v' = .slice (some ⟨g, 0, none⟩) n cap' ∧ n ≤ cap' ∧ w.heap.size ≤ g ∧ w1.heap[g]? = some (.cells cur 26 (0, 0)) ∧ cur.size = cap' * 5 ∧ ∀ j, j < n * 5 → w1.cell? ⟨g, j, none⟩ = (ncells n ls)[j]? := by
      rcases hown.2 with ⟨e, _⟩ | ⟨g, cap2, cur, e, h1, h2, h3, _, h4, _⟩
      · exact absurd e hnil
      · subst e
        exact ⟨g, cap2, cur, rfl, h3, h1, h2, h4, fun j hj => World.ownsRow.cellAt hown j hj⟩
    obtain ⟨g, cap', cur, rfl, h1, h2, h3, h4, h5⟩ := hres
    have HR : Hid (CopyN n ls w (.returned (.slice (some ⟨g, 0, none⟩) n cap')) w1) := Lib.hid ⟨_, cap', rfl, hb1, h1, fun _ => ⟨g, cur.toList, rfl, h2, by unfold Whole; simpa using h3, by simp; omega, fun i hi j hj => by rw [h5 _ (by omega)]; exact ncells_at hi hj (HN.out i hi).1⟩⟩
    clear hown hgrow hnil hb1 h1 h2 h3 h4 h5
    go_wp2
    go_ret
    exact HR.out
end Go.Proofs.YtdbidkfjbhclcaaDoor.cloneR
