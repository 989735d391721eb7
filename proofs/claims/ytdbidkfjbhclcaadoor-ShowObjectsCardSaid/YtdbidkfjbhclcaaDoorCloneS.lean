/-
  Contract: show.clone with a change that changes nothing.
-/
import Derived.Test.YtdbidkfjbhclcaaDoorCloneR
import Derived.Test.YtdbidkfjbhclcaaDoorNodeA
import Derived.Deep.LoopGhost
namespace Go.Proofs.YtdbidkfjbhclcaaDoor.cloneS
set_option linter.unusedSimpArgs false
set_option linter.unusedVariables false
open Go.ChangeShapes Go.WideShapes Go.ChangeAt Go.RowKit nodeP nodeQ nodeA cloneP owns cloneQ cloneR

theorem infoK : (Tryd.prog.info? 22).map (fun i => (i.zero, i.size, i.bytes)) = some (some (.slice none 0 0), 1, 24) := by kernel_rfl
theorem count_kids' (x : Nd) : count x = 1 + counts x.kids := by cases x; simp [count, Nd.kids]; try omega
structure F where
  va : Value
  cs : List Nd
def cnt (L : List F) : Nat := (L.map fun e => counts e.cs).sum
def tot (L : List F) : Nat := (L.map fun e => 1 + counts e.cs).sum
def rowOf (L : List F) : List Value := L.map F.va
theorem rowOf_snoc (L : List F) (e : F) : rowOf (L ++ [e]) = rowOf L ++ [e.va] := by simp [rowOf]
theorem rowOf_len (L : List F) : (rowOf L).length = L.length := by simp [rowOf]
theorem cnt_snoc (L : List F) (e : F) : cnt (L ++ [e]) = cnt L + counts e.cs := by simp [cnt]
theorem tot_snoc (L : List F) (e : F) : tot (L ++ [e]) = tot L + (1 + counts e.cs) := by simp [tot]
theorem len_tot (L : List F) : L.length ≤ tot L := by
  induction L with
  | nil => simp
  | cons e L ih => simp only [tot, List.map_cons, List.sum_cons, List.length_cons] at *; omega
theorem last_or (L : List F) : L = [] ∨ ∃ L' e, L = L' ++ [e] := by
  rcases List.eq_nil_or_concat L with h | ⟨L', e, h⟩
  · exact .inl h
  · exact .inr ⟨L', e, by rw [h, List.concat_eq_append]⟩
/-- a row without its last one -/
theorem row_pop {w : World} {B : Nat} {e : TypeId} {g n cap : Nat} {xs : List Value} {a : Value} (h : w.ownsRow B e 1 (.slice (some ⟨g, 0, none⟩) (n + 1) cap) (n + 1) (xs ++ [a])) : w.ownsRow B e 1 (.slice (some ⟨g, 0, none⟩) n cap) n xs := by
  obtain ⟨h1, h2⟩ := h
  rcases h2 with ⟨h2, _⟩ | ⟨g', cap', cur, hv, hb, hg, hn, hm, hc, ht⟩
  · cases h2
  · cases hv
    have hl : xs.length = n * 1 := by rw [List.length_append] at h1; simp at h1; omega
    refine ⟨hl, .inr ⟨g, cap, cur, rfl, hb, hg, by omega, hm, hc, ?_⟩⟩
    have : cur.toList.take (n * 1) = (cur.toList.take ((n + 1) * 1)).take (n * 1) := by rw [List.take_take]; congr 1; omega
    rw [this, ht, List.take_left' hl]
theorem row_some {w : World} {B : Nat} {e : TypeId} {n : Nat} {v : Value} {xs : List Value} (h : w.ownsRow B e 1 v (n + 1) xs) : ∃ g cap, v = .slice (some ⟨g, 0, none⟩) (n + 1) cap ∧ B ≤ g ∧ g < w.heap.size ∧ n + 1 ≤ cap := by
  rcases h.2 with ⟨_, h0⟩ | ⟨g, cap, cur, hv, hb, hg, hn, _⟩
  · omega
  · exact ⟨g, cap, hv, hb, (Array.getElem?_eq_some_iff.1 hg).1, hn⟩
/-- so many values among the kids' kids -/
def ck (cs : List Nd) : Nat := (cs.map fun c => counts c.kids).sum
theorem counts_ck (cs : List Nd) : counts cs = cs.length + ck cs := by
  induction cs with
  | nil => rfl
  | cons c cs ih => simp only [counts, ck, List.map_cons, List.sum_cons, List.length_cons] at *; rw [ih, count_kids']; omega
theorem ck_drop (cs : List Nd) (m : Nat) (h : m < cs.length) : ck (cs.drop m) = counts cs[m].kids + ck (cs.drop (m + 1)) := by
  rw [List.drop_eq_getElem_cons h]; unfold ck; rw [List.map_cons, List.sum_cons]


/-- what is still to be done -/
def totz (L : List F) : Nat := (L.map fun e => 1 + szs e.cs).sum
theorem totz_snoc (L : List F) (e : F) : totz (L ++ [e]) = totz L + (1 + szs e.cs) := by simp [totz]
theorem len_totz (L : List F) : L.length ≤ totz L := by
  induction L with
  | nil => simp
  | cons e L ih => simp only [totz, List.map_cons, List.sum_cons, List.length_cons] at *; omega
theorem szs_len : ∀ cs : List Nd, cs.length ≤ szs cs
  | [] => by simp
  | c :: cs => by have h1 := szs_len cs; have h2 := sz_pos c; simp [szs]; omega
theorem szs_drop (cs : List Nd) (m : Nat) (h : m < cs.length) : szs (cs.drop m) = sz cs[m] + szs (cs.drop (m + 1)) := by
  rw [List.drop_eq_getElem_cons h]; simp [szs]
/-- the lists still to be done, the value that is cloned, the result's cell; what is read lies in good blocks -/
structure CW (w : World) (G0 : Nat → Prop) (wr : World) (v T : Value) (x : Nd) (R : Nat) (L : List F) (G : Nat → Prop) : Prop where
  row : wr.ownsRow w.heap.size 22 1 v L.length (rowOf L)
  bel : Below w.heap.size w wr
  good : ∀ b, G b → b < wr.heap.size ∧ ((b < w.heap.size ∧ G0 b) ∨ (w.heap.size ≤ b ∧ ∃ t cells, Whole wr b t cells ∧ t ≠ 22))
  lst : ∀ e ∈ L, Lst wr w.heap.size G e.va e.cs ∧ e.cs ≠ []
  top : Lst wr w.heap.size G T [x]
  res : ¬ G R ∧ ∃ cells, cells.length = 5 ∧ Whole wr R 26 cells
section
variable {G0 : Nat → Prop}
theorem CW.below {w wr w' : World} {v T : Value} {x : Nd} {R : Nat} {L : List F} {G : Nat → Prop} (h : CW w G0 wr v T x R L G) (hb : Below wr.heap.size wr w') : CW w G0 w' v T x R L G := by
  obtain ⟨hR, cells, h1, h2⟩ := h.res
  have hG : ∀ b, G b → b < wr.heap.size ∧ G b := fun b hg => ⟨(h.good b hg).1, hg⟩
  refine ⟨h.row.kept (row := none) ⟨hb.os, hb.tape, hb.output, hb.size, fun k hk _ => hb.block k hk⟩ (by cases hv : v.ownBlock with
    | none => exact .inl rfl
    | some b => exact .inr (by simp)), h.bel.trans (hb.mono h.bel.size), fun b hg => ?_, fun e he => ⟨(h.lst e he).1.below hb hG, (h.lst e he).2⟩, h.top.below hb hG, hR, cells, h1, h2.below hb h2.lt⟩
  obtain ⟨h3, h4⟩ := h.good b hg
  refine ⟨Nat.lt_of_lt_of_le h3 hb.size, ?_⟩
  rcases h4 with h4 | ⟨hB, t, cs, h4, h5⟩
  · exact .inl h4
  · exact .inr ⟨hB, t, cs, h4.below hb h4.lt, h5⟩
/-- more blocks are good -/
theorem CW.more {w wr : World} {v T : Value} {x : Nd} {R : Nat} {L : List F} {G G' : Nat → Prop} (h : CW w G0 wr v T x R L G) (hG : ∀ b, G b → G' b) (hR : R < wr.heap.size → ¬ G R → ¬ G' R) (hg : ∀ b, G' b → b < wr.heap.size ∧ ((b < w.heap.size ∧ G0 b) ∨ (w.heap.size ≤ b ∧ ∃ t cells, Whole wr b t cells ∧ t ≠ 22))) : CW w G0 wr v T x R L G' :=
  ⟨h.row, h.bel, hg, fun e he => ⟨(h.lst e he).1.move (fun b hb => ⟨rfl, hG b hb⟩) fun _ _ h => h, (h.lst e he).2⟩, h.top.move (fun b hb => ⟨rfl, hG b hb⟩) fun _ _ h => h, by obtain ⟨h1, c, h2, h3⟩ := h.res; exact ⟨hR h3.lt h1, c, h2, h3⟩⟩
theorem set_whole {w : World} {g o : Nat} {u : Value} {cells : List Value} (hW : Whole w g 26 cells) : ∀ b t cs, Whole w b t cs → ∃ cells', cells'.length = cs.length ∧ Whole (w.setCell ⟨g, o, none⟩ u) b t cells' := fun b t cs hb => by
  by_cases e : g = b
  · subst e
    exact ⟨cs.set o u, by simp, (hb.set o u).1⟩
  · refine ⟨cs, rfl, ?_⟩
    unfold Whole at *
    rw [Below.heap_setCell w ⟨g, o, none⟩ u b (fun h => e h.symm)]
    exact hb
/-- a cell of a block of nodes is put anew -/
theorem CW.put {w wr : World} {v T s s' : Value} {x : Nd} {R g o : Nat} {L : List F} {G : Nat → Prop} {cells : List Value} (h : CW w G0 wr v T x R L G) (hW : Whole wr g 26 cells) (hg : w.heap.size ≤ g) (H : Reads s s' wr (wr.setCell ⟨g, o, none⟩ s') G) : CW w G0 (wr.setCell ⟨g, o, none⟩ s') v T x R L G := by
  have hw := set_whole (o := o) (u := s') hW
  obtain ⟨hR, rc, h1, h2⟩ := h.res
  obtain ⟨rc', h3, h4⟩ := hw _ _ _ h2
  refine ⟨h.row.kept (hW.set o s').2 ?_, h.bel.setCell hg _, fun b hg => ?_, fun e he => ⟨(h.lst e he).1.reads H hw, (h.lst e he).2⟩, h.top.reads H hw, hR, rc', by omega, h4⟩
  · cases hv : v.ownBlock with
    | none => exact .inl rfl
    | some b =>
      refine .inr fun e => ?_
      have e2 : b = g := Option.some.inj e
      subst e2
      rcases h.row.2 with ⟨e3, _⟩ | ⟨b2, cap, cur, e3, _, hh, _⟩
      · rw [e3] at hv; cases hv
      · rw [e3] at hv
        cases hv
        unfold Whole at hW
        rw [hW] at hh
        simp only [Option.some.injEq, Obj.cells.injEq] at hh
        exact absurd hh.2.1 (by decide)
  · obtain ⟨h5, h6⟩ := h.good b hg
    refine ⟨by simpa using h5, ?_⟩
    rcases h6 with h6 | ⟨hB, t, cs, h6, h7⟩
    · exact .inl h6
    · obtain ⟨cs', _, h8⟩ := hw _ _ _ h6
      exact .inr ⟨hB, t, cs', h8, h7⟩
set_option maxRecDepth 100000 in
theorem noop (p : Value) (w : World) : Calls Tryd.prog 32 #[p] w fun e w' => e = .returned (.tuple #[]) ∧ w = w' := by
  go_enter Tryd.func32, Tryd.ntmps32
  go_wp2
  go_end0
  exact ⟨rfl, rfl⟩
/-- a node of a list in a block of its own -/
theorem lst_node {w : World} {B0 b n cap m : Nat} {G : Nat → Prop} {cs : List Nd} (h : Lst w B0 G (.slice (some ⟨b, 0, none⟩) n cap) cs) (hm : m < cs.length) :
    ∃ cells l, B0 ≤ b ∧ Whole w b 26 cells ∧ NodeG w G cs[m] l ∧ ∀ j, j < 5 → w.cell? ⟨b, m * 5 + j, none⟩ = l[j]? := by
  obtain ⟨b', cap', cells, hv, hb, hW, hl, hk⟩ := h
  cases hv
  obtain ⟨ao, capk, bk, offk, ls, hvk, hmk, hak, hck, hnk⟩ := hk
  injection hvk with e1 e2 e3
  obtain ⟨e4, _⟩ := hak (by intro e; rw [e] at hm; simp at hm)
  rw [← e1] at e4
  cases e4
  exact ⟨cells, ls m, hb, hW, hnk m hm, fun j hj => by rw [← hck m hm j hj, show 0 + 5 * m + j = m * 5 + j by omega]⟩
/-- the keys of a node are put anew, in all that is known -/
theorem keys_put {w w4 : World} {v T kv' : Value} {x : Nd} {R b la capb m : Nat} {L : List F} {G : Nat → Prop} {cs : List Nd} {ks : List ByteArray} {kv : Value} (h : CW w G0 w4 v T x R L G) (hl : Lst w4 w.heap.size G (.slice (some ⟨b, 0, none⟩) la capb) cs) (hm : m < cs.length)
    (hc : w4.cell? ⟨b, m * 5 + 3, none⟩ = some kv) (hk : KeysG w4 G kv ks) (hk' : KeysG w4 G kv' ks) :
    CW w G0 (w4.setCell ⟨b, m * 5 + 3, none⟩ kv') v T x R L G ∧ Lst (w4.setCell ⟨b, m * 5 + 3, none⟩ kv') w.heap.size G (.slice (some ⟨b, 0, none⟩) la capb) cs := by
  obtain ⟨cells, l, hb, hW, _, _⟩ := lst_node hl hm
  have H := put_keys hc hk hk'
  exact ⟨h.put hW hb H, hl.reads H (set_whole hW)⟩
/-- the kids of a node are put anew, in all that is known -/
theorem kids_put {w w5 w6 : World} {v T : Value} {x : Nd} {R b la capb m : Nat} {L : List F} {G : Nat → Prop} {cs : List Nd} {k n : Int} {t : ByteArray} {ks : List ByteArray} {gs : List Nd} {ao bo : Option Addr} {cap cap' bg offg : Nat} {ls : Nat → List Value} (h : CW w G0 w5 v T x R L G) (hl : Lst w5 w.heap.size G (.slice (some ⟨b, 0, none⟩) la capb) cs) (hm : m < cs.length) (hcs : cs[m] = .mk k n t ks gs)
    (hc4 : w5.cell? ⟨b, m * 5 + 4, none⟩ = some (.slice ao gs.length cap)) (hg : gs.length ≤ maxLen ∧ (gs ≠ [] → ao = some ⟨bg, offg, none⟩ ∧ G bg) ∧ (∀ i, i < gs.length → ∀ j, j < 5 → w5.cell? ⟨bg, offg + 5 * i + j, none⟩ = (ls i)[j]?) ∧ ∀ i (h : i < gs.length), NodeG w5 G gs[i] (ls i))
    (hb : Below w5.heap.size w5 w6) (hcap : gs.length ≤ cap') (hnew : gs.length ≠ 0 → ∃ b' cells, bo = some ⟨b', 0, none⟩ ∧ w5.heap.size ≤ b' ∧ Whole w6 b' 26 cells ∧ 5 * gs.length ≤ cells.length ∧ ∀ i, i < gs.length → ∀ j, j < 5 → w6.cell? ⟨b', 5 * i + j, none⟩ = (ls i)[j]?) :
    w6.cell? ⟨b, m * 5 + 4, none⟩ = some (.slice ao gs.length cap) ∧ w6.frozen? ⟨b, m * 5 + 4, none⟩ = false ∧ ∃ G' : Nat → Prop, CW w G0 (w6.setCell ⟨b, m * 5 + 4, none⟩ (.slice bo gs.length cap')) v T x R L G' ∧ Lst (w6.setCell ⟨b, m * 5 + 4, none⟩ (.slice bo gs.length cap')) w.heap.size G' (.slice (some ⟨b, 0, none⟩) la capb) cs ∧ (gs ≠ [] → Lst (w6.setCell ⟨b, m * 5 + 4, none⟩ (.slice bo gs.length cap')) w.heap.size G' (.slice bo gs.length cap') gs) := by
  have hG5 : ∀ b, G b → b < w5.heap.size := fun b hg => (h.good b hg).1
  obtain ⟨G', hG'⟩ : ∃ G' : Nat → Prop, G' = fun b => G b ∨ (w5.heap.size ≤ b ∧ ∃ cells, Whole w6 b 26 cells) := ⟨_, rfl⟩
  have hGG : ∀ b, G b → G' b := fun b hb => by rw [hG']; exact .inl hb
  have h60 := h.below hb
  have h6 : CW w G0 w6 v T x R L G' := h60.more hGG (fun _ h1 h2 => by
    rw [hG'] at h2
    obtain ⟨_, cR, _, hWR⟩ := h.res
    have hlt := hWR.lt
    rcases h2 with h2 | ⟨h2, _⟩
    · exact h1 h2
    · omega) fun b hb2 => by
    rw [hG'] at hb2
    rcases hb2 with h1 | ⟨hB, cl, h2⟩
    · exact h60.good b h1
    · exact ⟨h2.lt, .inr ⟨Nat.le_trans h.bel.size hB, _, cl, h2, by decide⟩⟩
  have hmv : ∀ b, G b → w6.heap[b]? = w5.heap[b]? ∧ G' b := fun b hg => ⟨hb.block b (hG5 b hg), hGG b hg⟩
  have hl6 : Lst w6 w.heap.size G' (.slice (some ⟨b, 0, none⟩) la capb) cs := hl.below hb fun b hg => ⟨hG5 b hg, hGG b hg⟩
  obtain ⟨cells, l, hbB, hW, _, _⟩ := lst_node hl6 hm
  have hbl : b < w5.heap.size := by obtain ⟨_, _, _, h1, _⟩ := lst_node hl hm; exact h1.lt
  have q := (hb.cell (show (⟨b, m * 5 + 4, none⟩ : Addr).block < w5.heap.size from hbl)).trans hc4
  obtain ⟨g1, g2, g3, g4⟩ := hg
  have g2' : gs ≠ [] → ao = some ⟨bg, offg, none⟩ ∧ G' bg := fun e => ⟨(g2 e).1, hGG _ (g2 e).2⟩
  have g3' : ∀ i, i < gs.length → ∀ j, j < 5 → w6.cell? ⟨bg, offg + 5 * i + j, none⟩ = (ls i)[j]? := fun i hi j hj => by
    rw [hb.cell (show (⟨bg, offg + 5 * i + j, none⟩ : Addr).block < w5.heap.size from hG5 _ (g2 (by intro e; rw [e] at hi; simp at hi)).2)]
    exact g3 i hi j hj
  have g4' : ∀ i (h : i < gs.length), NodeG w6 G' gs[i] (ls i) := fun i hi => (g4 i hi).move hmv
  obtain ⟨b', hb', hcc⟩ : ∃ b', (gs ≠ [] → bo = some ⟨b', 0, none⟩ ∧ G' b' ∧ b' ≠ b) ∧ ∀ i, i < gs.length → ∀ j, j < 5 → w6.cell? ⟨b', 5 * i + j, none⟩ = (ls i)[j]? := by
    by_cases e : gs = []
    · exact ⟨0, fun h => absurd e h, fun i hi => by rw [e] at hi; simp at hi⟩
    · obtain ⟨b', cl, h1, h2, h3, _, h5⟩ := hnew (fun h => e (List.length_eq_zero_iff.1 h))
      exact ⟨b', fun _ => ⟨h1, by rw [hG']; exact .inr ⟨h2, cl, h3⟩, by omega⟩, h5⟩
  have H := put_kids q g1 g2' g3' g4' hcap hb' hcc
  have hl7 := hl6.reads H (set_whole hW)
  refine ⟨q, hW.frozen _, G', h6.put hW hbB H, hl7, fun e => ?_⟩
  obtain ⟨b2, cl, h1, h2, h3, h4, _⟩ := hnew (fun h => e (List.length_eq_zero_iff.1 h))
  obtain ⟨cl', h5, h6'⟩ := set_whole (o := m * 5 + 4) (u := .slice bo gs.length cap') hW _ _ _ h3
  obtain ⟨_, l7, _, _, hn7, hc7⟩ := lst_node hl7 hm
  rw [hcs] at hn7
  obtain ⟨kv, cv, el, _, _, _, _, hk7⟩ := hn7.open
  have h7 := hc7 4 (by omega)
  rw [World.cell?_setCell_same _ _ _ q, el] at h7
  simp only [List.getElem?_cons_zero, List.getElem?_cons_succ, Option.some.injEq] at h7
  subst h7
  subst h1
  exact ⟨b2, cap', cl', rfl, by have := h.bel.size; omega, h6', by omega, hk7⟩
/-- what clone answers -/
def CloP (x : Nd) (G0 : Nat → Prop) (w : World) (e : Ending) (w' : World) : Prop := ∃ l', e = .returned (.agg l'.toArray) ∧ NodeG w' (fun b => (b < w.heap.size ∧ G0 b) ∨ (w.heap.size ≤ b ∧ b < w'.heap.size)) x l' ∧ Below w.heap.size w w'
theorem node_form {w : World} {G : Nat → Prop} {x : Nd} {l : List Value} (hx : NodeG w G x l) : ∃ k n t a1 n1 c1 a2 n2 c2, l = [.int .i64 k, .int .i64 n, .string t, .slice a1 n1 c1, .slice a2 n2 c2] := by
  cases x with
  | mk k n t ks cs =>
  obtain ⟨kv, cv, rfl, _, _, _, ⟨ak, ck, _, _, rfl, _⟩, ⟨ac, cc, _, _, _, rfl, _⟩⟩ := hx.open
  exact ⟨_, _, _, _, _, _, _, _, _, rfl⟩
/-- before the loop -/
theorem start {w : World} {x : Nd} {k n : Int} {t : ByteArray} {a1 a2 : Option Addr} {n1 c1 n2 c2 : Nat} (hx : NodeG w G0 x [.int .i64 k, .int .i64 n, .string t, .slice a1 n1 c1, .slice a2 n2 c2]) (o1 o2 : Obj) (cells : List Value) (hG0 : ∀ b, G0 b → b < w.heap.size) (ho : o2 = .cells cells.toArray 26) (hc : cells.length = 5) :
    CW w G0 ((((w.alloc o1).alloc o2).alloc (.cells #[.int .i64 k, .int .i64 n, .string t, .slice a1 n1 c1, .slice a2 n2 c2] 26)).alloc (.cells #[.slice (some ⟨w.heap.size + 2, 0, none⟩) 1 1] 22)) (.slice (some ⟨w.heap.size + 3, 0, none⟩) 1 1) (.slice (some ⟨w.heap.size + 2, 0, none⟩) 1 1) x (w.heap.size + 1) [⟨.slice (some ⟨w.heap.size + 2, 0, none⟩) 1 1, [x]⟩] (fun b => G0 b ∨ b = w.heap.size + 2) := by
  have b1 : Below w.heap.size w (w.alloc o1) := (Below.refl _ _).alloc (Nat.le_refl _) _
  have s1 : (w.alloc o1).heap.size = w.heap.size + 1 := by simp
  have W2 := Whole.new (w.alloc o1) 26 cells
  rw [← ho, s1] at W2
  have b2 : Below w.heap.size w ((w.alloc o1).alloc o2) := b1.alloc (by omega) _
  have s2 : ((w.alloc o1).alloc o2).heap.size = w.heap.size + 2 := by simp
  generalize (w.alloc o1).alloc o2 = w2 at *
  have W3 := Whole.new w2 26 [.int .i64 k, .int .i64 n, .string t, .slice a1 n1 c1, .slice a2 n2 c2]
  have c23 : Below w2.heap.size w2 (w2.alloc (.cells #[.int .i64 k, .int .i64 n, .string t, .slice a1 n1 c1, .slice a2 n2 c2] 26)) := (Below.refl _ _).alloc (Nat.le_refl _) _
  have s3 : (w2.alloc (.cells #[.int .i64 k, .int .i64 n, .string t, .slice a1 n1 c1, .slice a2 n2 c2] 26)).heap.size = w.heap.size + 3 := by simp [s2]
  rw [s2] at W3
  have b3 := b2.trans (c23.mono (by omega))
  have W23 := W2.below c23 (by omega)
  generalize w2.alloc (.cells #[.int .i64 k, .int .i64 n, .string t, .slice a1 n1 c1, .slice a2 n2 c2] 26) = w3 at *
  have W4 := Whole.new w3 22 [.slice (some ⟨w.heap.size + 2, 0, none⟩) 1 1]
  have c34 : Below w3.heap.size w3 (w3.alloc (.cells #[.slice (some ⟨w.heap.size + 2, 0, none⟩) 1 1] 22)) := (Below.refl _ _).alloc (Nat.le_refl _) _
  have s4 : (w3.alloc (.cells #[.slice (some ⟨w.heap.size + 2, 0, none⟩) 1 1] 22)).heap.size = w.heap.size + 4 := by simp [s3]
  rw [s3] at W4
  have b4 := b3.trans (c34.mono (by omega))
  have W24 := W23.below c34 (by omega)
  have W34 := W3.below c34 (by omega)
  generalize w3.alloc (.cells #[.slice (some ⟨w.heap.size + 2, 0, none⟩) 1 1] 22) = w4 at *
  have hx4 : NodeG w4 (fun b => G0 b ∨ b = w.heap.size + 2) x _ := hx.move fun b hb => ⟨b4.block b (hG0 b hb), .inl hb⟩
  have hL : Lst w4 w.heap.size (fun b => G0 b ∨ b = w.heap.size + 2) (.slice (some ⟨w.heap.size + 2, 0, none⟩) 1 1) [x] := by
    refine ⟨w.heap.size + 2, 1, _, rfl, by omega, W34, by simp, some ⟨w.heap.size + 2, 0, none⟩, 1, w.heap.size + 2, 0, fun _ => [.int .i64 k, .int .i64 n, .string t, .slice a1 n1 c1, .slice a2 n2 c2], rfl, by unfold maxLen; simp, fun _ => ⟨rfl, .inr rfl⟩, fun i hi j hj => ?_, fun i hi => ?_⟩
    · obtain rfl : i = 0 := by simp at hi; omega
      rw [show 0 + 5 * 0 + j = j by omega]
      exact W34.cell j
    · obtain rfl : i = 0 := by simp at hi; omega
      exact hx4
  refine ⟨⟨rfl, .inr ⟨w.heap.size + 3, 1, _, rfl, by omega, W4, Nat.le_refl _, by unfold maxLen; simp, rfl, rfl⟩⟩, b4, fun b hb => ?_, fun e he => ?_, hL, (by rintro (h | h); have := hG0 _ h; omega; omega), cells, hc, W24⟩
  · rcases hb with hb | rfl
    · have := hG0 b hb; exact ⟨by omega, .inl ⟨this, hb⟩⟩
    · exact ⟨by omega, .inr ⟨by omega, _, _, W34, by decide⟩⟩
  simp at he
  subst he
  exact ⟨hL, by simp⟩
/-- a list is put onto the row -/
theorem CW.app {w w7 w8 : World} {v T v' av va : Value} {x : Nd} {R N : Nat} {L : List F} {G : Nat → Prop} {cs gs : List Nd} (h : CW w G0 w7 v T x R L G) (hl : Lst w7 w.heap.size G va cs) (hn : Lst w7 w.heap.size G av gs) (hne : gs ≠ [])
    (hown : w8.ownsRow w.heap.size 22 1 v' N (rowOf L ++ [av])) (hN : N = L.length + 1) (hgrow : (w7.alloc (.cells #[av] 22)).grownBy w8 v.ownBlock) : CW w G0 w8 v' T x R (L ++ [⟨av, gs⟩]) G ∧ Lst w8 w.heap.size G va cs := by
  subst hN
  have hb0 : Below w7.heap.size w7 (w7.alloc (.cells #[av] 22)) := (Below.refl _ _).alloc (Nat.le_refl _) _
  have hbel : Below w.heap.size w w8 := (h.bel.trans (hb0.mono h.bel.size)).grown hgrow (Nat.le_trans h.bel.size hb0.size) fun j hj => (World.ownsRow.lt h.row j hj).1
  have hsz : w7.heap.size ≤ w8.heap.size := Nat.le_trans hb0.size hgrow.size
  have hblk : ∀ b, b < w7.heap.size → v.ownBlock ≠ some b → w8.heap[b]? = w7.heap[b]? := fun b h1 h2 => (hgrow.block b (Nat.lt_of_lt_of_le h1 hb0.size) (fun e => h2 (by first | exact e | exact e.symm | simp_all))).trans (hb0.block b h1)
  have hty : ∀ b t cells, Whole w7 b t cells → t ≠ 22 → v.ownBlock ≠ some b := fun b t cells hW ht hv => by
    rcases h.row.2 with ⟨e3, _⟩ | ⟨b2, cap, cur, e3, _, hh, _⟩
    · rw [e3] at hv; cases hv
    · rw [e3] at hv
      cases hv
      unfold Whole at hW
      rw [hW] at hh
      simp only [Option.some.injEq, Obj.cells.injEq] at hh
      exact ht hh.2.1
  have hG : ∀ b, G b → w8.heap[b]? = w7.heap[b]? ∧ G b := fun b hg => by
    obtain ⟨h1, h2⟩ := h.good b hg
    refine ⟨hblk b h1 ?_, hg⟩
    rcases h2 with h2 | ⟨_, t, cells, h2, h3⟩
    · intro e
      have := (World.ownsRow.lt h.row b e).1
      have := h2.1
      omega
    · exact hty b t cells h2 h3
  have hW : ∀ b t cells, t ≠ 22 → Whole w7 b t cells → Whole w8 b t cells := fun b t cells ht hW => by
    have e := hblk b hW.lt (hty b t cells hW ht)
    unfold Whole at *
    rw [e]; exact hW
  have hWN : ∀ b cells, Whole w7 b 26 cells → Whole w8 b 26 cells := fun b cells h => hW b _ cells (by decide) h
  obtain ⟨hR, rc, h1, h2⟩ := h.res
  refine ⟨⟨by rw [rowOf_snoc, List.length_append]; exact hown, hbel, fun b hg => ?_, fun e he => ?_, h.top.move hG hWN, hR, rc, h1, hWN _ _ h2⟩, hl.move hG hWN⟩
  · obtain ⟨h3, h4⟩ := h.good b hg
    refine ⟨by omega, ?_⟩
    rcases h4 with h4 | ⟨hB, t, cells, h4, h5⟩
    · exact .inl h4
    · exact .inr ⟨hB, t, cells, hW b t cells h5 h4, h5⟩
  · rcases List.mem_append.1 he with he | he
    · exact ⟨(h.lst e he).1.move hG hWN, (h.lst e he).2⟩
    · simp at he
      subst he
      exact ⟨hn.move hG hWN, hne⟩
set_option maxHeartbeats 8000000 in
set_option maxRecDepth 100000 in
theorem clone_any (x : Nd) (l : List Value) (w : World) (hG0 : ∀ b, G0 b → b < w.heap.size) (hx : NodeG w G0 x l) (hcn : (sz x : Int) ≤ 100000) :
    Calls Tryd.prog 31 #[.agg l.toArray, .func (Fn.func 32) #[] #[]] w (CloP x G0 w) := by
  obtain ⟨xk, xn, xt, xa1, xn1, xc1, xa2, xn2, xc2, rfl⟩ := node_form hx
  have hst := start hx (.cells #[.int .i64 xk, .int .i64 xn, .string xt, .slice xa1 xn1 xc1, .slice xa2 xn2 xc2] 26) (.cells #[.int .i64 0, .int .i64 0, .string ByteArray.empty, .slice none 0 0, .slice none 0 0] 26) [.int .i64 0, .int .i64 0, .string ByteArray.empty, .slice none 0 0, .slice none 0 0] hG0 rfl rfl
  have HST := Lib.hid hst
  have HT0 : Hid (totz [⟨.slice (some ⟨w.heap.size + 2, 0, none⟩) 1 1, [x]⟩] ≤ sz x + 1) := Lib.hid (by simp [totz, szs]; omega)
  have HCN : Hid (sz x ≤ 100000) := Lib.hid (by omega)
  clear hx hst hcn
  go_enter Tryd.func31, Tryd.ntmps31
  go_wp2
  go_loopg [6] (sz x + 1) (fun gk v wr => ∃ (L : List F) (G : Nat → Prop), CW w G0 wr v (.slice (some ⟨w.heap.size + 2, 0, none⟩) 1 1) x (w.heap.size + 1) L G ∧ Hid (totz L ≤ gk) ∧ Hid (gk ≤ sz x + 1))
  case atStart => exact ⟨_, _, HST.out, HT0, Lib.hid (Nat.le_refl _)⟩
  case round =>
    clear HST HT0
    obtain ⟨L, G, hI, htot, hgk⟩ := hrel
    rcases last_or L with rfl | ⟨L', e, rfl⟩
    · obtain ⟨ao, c0, hv⟩ : ∃ a c, u6 = .slice a 0 c := by
        rcases hI.row.2 with ⟨e, _⟩ | ⟨g, cap2, cur, e, _⟩
        · exact ⟨none, 0, e⟩
        · exact ⟨_, cap2, e⟩
      subst hv
      obtain ⟨cellsT, l, _, hWT, hnd, hcells⟩ := lst_node hI.top (m := 0) (by simp)
      obtain ⟨k1, n1, t1, ak, lk, ck, ac, lc, cc, rfl⟩ := node_form hnd
      have p0 := hcells 0 (by omega)
      have p1 := hcells 1 (by omega)
      have p2 := hcells 2 (by omega)
      have p3 := hcells 3 (by omega)
      have p4 := hcells 4 (by omega)
      simp only [Nat.zero_mul, Nat.zero_add, List.getElem?_cons_zero, List.getElem?_cons_succ] at p0 p1 p2 p3 p4
      have HI := Lib.hid hI
      have HND := Lib.hid hnd
      obtain ⟨hGR, rc, hrc, hWR⟩ := hI.res
      obtain ⟨r0, r1, r2, r3, r4, rfl⟩ : ∃ r0 r1 r2 r3 r4, rc = [r0, r1, r2, r3, r4] := by
        match rc, hrc with
        | [r0, r1, r2, r3, r4], _ => exact ⟨r0, r1, r2, r3, r4, rfl⟩
      have a0 := hWR.cell 0
      have a1 := hWR.cell 1
      have a2 := hWR.cell 2
      have a3 := hWR.cell 3
      have a4 := hWR.cell 4
      simp only [List.getElem?_cons_zero, List.getElem?_cons_succ] at a0 a1 a2 a3 a4
      have y0 := hWR.frozen 0
      have y1 := hWR.frozen 1
      have y2 := hWR.frozen 2
      have y3 := hWR.frozen 3
      have y4 := hWR.frozen 4
      have HWR := Lib.hid hWR
      clear hI hnd hWT hcells hWR hrc
      go_wp2
      have hW6 : Whole (((((wr.setCell ⟨w.heap.size + 1, 0, none⟩ (.int .i64 k1)).setCell ⟨w.heap.size + 1, 1, none⟩ (.int .i64 n1)).setCell ⟨w.heap.size + 1, 2, none⟩ (.string t1)).setCell ⟨w.heap.size + 1, 3, none⟩ (.slice ak lk ck)).setCell ⟨w.heap.size + 1, 4, none⟩ (.slice ac lc cc)) (w.heap.size + 1) 26 [.int .i64 k1, .int .i64 n1, .string t1, .slice ak lk ck, .slice ac lc cc] :=
        ((((((HWR.out.set 0 (.int .i64 k1)).1.set 1 (.int .i64 n1)).1).set 2 (.string t1)).1.set 3 (.slice ak lk ck)).1.set 4 (.slice ac lc cc)).1
      have hB6 : Below w.heap.size w (((((wr.setCell ⟨w.heap.size + 1, 0, none⟩ (.int .i64 k1)).setCell ⟨w.heap.size + 1, 1, none⟩ (.int .i64 n1)).setCell ⟨w.heap.size + 1, 2, none⟩ (.string t1)).setCell ⟨w.heap.size + 1, 3, none⟩ (.slice ak lk ck)).setCell ⟨w.heap.size + 1, 4, none⟩ (.slice ac lc cc)) := by
        refine Below.setCell (Below.setCell (Below.setCell (Below.setCell (Below.setCell HI.out.bel ?_ _) ?_ _) ?_ _) ?_ _) ?_ _ <;> exact Nat.le_succ _
      have hS6 : ∀ b, b ≠ w.heap.size + 1 → (((((wr.setCell ⟨w.heap.size + 1, 0, none⟩ (.int .i64 k1)).setCell ⟨w.heap.size + 1, 1, none⟩ (.int .i64 n1)).setCell ⟨w.heap.size + 1, 2, none⟩ (.string t1)).setCell ⟨w.heap.size + 1, 3, none⟩ (.slice ak lk ck)).setCell ⟨w.heap.size + 1, 4, none⟩ (.slice ac lc cc)).heap[b]? = wr.heap[b]? := fun b hb => by
        rw [Below.heap_setCell _ _ _ b hb, Below.heap_setCell _ _ _ b hb, Below.heap_setCell _ _ _ b hb, Below.heap_setCell _ _ _ b hb, Below.heap_setCell _ _ _ b hb]
      have hZ6 : (((((wr.setCell ⟨w.heap.size + 1, 0, none⟩ (.int .i64 k1)).setCell ⟨w.heap.size + 1, 1, none⟩ (.int .i64 n1)).setCell ⟨w.heap.size + 1, 2, none⟩ (.string t1)).setCell ⟨w.heap.size + 1, 3, none⟩ (.slice ak lk ck)).setCell ⟨w.heap.size + 1, 4, none⟩ (.slice ac lc cc)).heap.size = wr.heap.size := by simp
      generalize ((((wr.setCell ⟨w.heap.size + 1, 0, none⟩ (.int .i64 k1)).setCell ⟨w.heap.size + 1, 1, none⟩ (.int .i64 n1)).setCell ⟨w.heap.size + 1, 2, none⟩ (.string t1)).setCell ⟨w.heap.size + 1, 3, none⟩ (.slice ak lk ck)).setCell ⟨w.heap.size + 1, 4, none⟩ (.slice ac lc cc) = w9 at *
      have k0 := hW6.cell 0
      have k1' := hW6.cell 1
      have k2 := hW6.cell 2
      have k3 := hW6.cell 3
      have k4 := hW6.cell 4
      simp only [List.getElem?_cons_zero, List.getElem?_cons_succ] at k0 k1' k2 k3 k4
      refine bodyPost_ret (v := .agg #[.int .i64 k1, .int .i64 n1, .string t1, .slice ak lk ck, .slice ac lc cc]) (by simp [results, Tryd.results31, go_sem, k0, k1', k2, k3, k4]) rfl ?_
      refine ⟨_, rfl, HND.out.move fun b hb => ⟨hS6 b (fun e => HI.out.res.1 (e ▸ hb)), by
        have h1 := HI.out.good b hb
        rcases h1.2 with h2 | ⟨h2, _⟩
        · exact .inl h2
        · exact .inr ⟨h2, by have := h1.1; omega⟩⟩, hB6⟩
    · obtain ⟨va, cs⟩ := e
      obtain ⟨hla, hne⟩ := hI.lst ⟨va, cs⟩ (by simp)
      dsimp only at hla hne
      have hrow := hI.row
      rw [rowOf_snoc, List.length_append] at hrow
      dsimp only at hrow
      change wr.ownsRow _ _ 1 _ (L'.length + 1) _ at hrow
      obtain ⟨g, cap, hv, hgB, hgl, hcap⟩ := row_some hrow
      rw [hv] at hrow
      have hrl := rowOf_len L'
      have c0 := hrow.cellAt L'.length (by omega)
      rw [List.getElem?_append_right (by omega), hrl, Nat.sub_self] at c0
      simp only [List.getElem?_cons_zero] at c0
      obtain ⟨b, capb, cells, rfl, hbB, hWb, hcl, hkb⟩ := hla
      have hCW : CW w G0 wr (.slice (some ⟨g, 0, none⟩) L'.length cap) (.slice (some ⟨w.heap.size + 2, 0, none⟩) 1 1) x (w.heap.size + 1) L' G := ⟨row_pop hrow, hI.bel, hI.good, fun e he => hI.lst e (by simp [he]), hI.top, hI.res⟩
      have HCW := Lib.hid hCW
      have HLA : Hid (Lst wr w.heap.size G (.slice (some ⟨b, 0, none⟩) cs.length capb) cs) := Lib.hid ⟨b, capb, cells, rfl, hbB, hWb, hcl, hkb⟩
      have HTT : Hid (totz L' + (1 + szs cs) ≤ gk) := Lib.hid (by have := htot.out; rw [totz_snoc] at this; exact this)
      have hn100 : (L'.length : Int) ≤ 1000000 := by have h1 := len_totz L'; have h2 := HTT.out; have h3 := hgk.out; have h4 := HCN.out; omega
      have hn0 : (0 : Int) ≤ (L'.length : Int) := by omega
      have hn1 : (L'.length : Int) < (L'.length : Int) + 1 := by omega
      have hn2 : (0 : Int) < (L'.length : Int) + 1 := by omega
      have hn3 : L'.length < L'.length + 1 := by omega
      have hla1 : (cs.length : Int) ≤ 1000000 := by have h1 := szs_len cs; have h2 := HTT.out; have h3 := hgk.out; have h4 := HCN.out; omega
      subst hv
      clear hI hrow hrl htot hWb hcl hkb hCW
      generalize hLn : L'.length = nl at *
      clear hLn
      have hcapI : (nl : Int) ≤ (cap : Int) := by omega
      have hcapN : nl ≤ cap := by omega
      generalize hlen : cs.length = la at *
      have HLN := Lib.hid hlen
      clear hlen hne
      have HTK : Hid (totz (L' ++ []) + szs (cs.drop 0) + 1 ≤ gk) := Lib.hid (by rw [List.append_nil]; have := HTT.out; simp; omega)
      go_wp2
      go_loopw [6, 29] (fun v i w3 => ∃ (m : Nat) (K : List F) (G : Nat → Prop), m ≤ la ∧ i = .int .i64 m ∧ Hid (CW w G0 w3 v (.slice (some ⟨w.heap.size + 2, 0, none⟩) 1 1) x (w.heap.size + 1) (L' ++ K) G) ∧ Hid (Lst w3 w.heap.size G (.slice (some ⟨b, 0, none⟩) la capb) cs) ∧ Hid (totz (L' ++ K) + szs (cs.drop m) + 1 ≤ gk)) (fun _ i _ => la - (intOf i).toNat)
      case atStart => exact ⟨0, [], _, Nat.zero_le _, rfl, Lib.hid (by rw [List.append_nil]; exact HCW.out), HLA, HTK⟩
      case round =>
        clear HCW HLA HTK c0
        obtain ⟨wo, hwo⟩ : ∃ wo : World, wo = wr := ⟨_, rfl⟩
        clear hwo
        obtain ⟨m, K, G, hm, rfl, hcw, hlst, htt⟩ := hrel
        by_cases hlt : m < la
        · have hc1 : m < cs.length := by have := HLN.out; omega
          obtain ⟨cellsb, l, _, hWb, hnd, hcells⟩ := lst_node hlst.out hc1
          obtain ⟨k1, n1, t1, ak, lk, ck, ac, lc, cc, rfl⟩ := node_form hnd
          obtain ⟨kx, nx, tx, ksx, gsx, hcs⟩ : ∃ kx nx tx ksx gsx, cs[m] = .mk kx nx tx ksx gsx := by cases h : cs[m]; exact ⟨_, _, _, _, _, rfl⟩
          have hnd2 := hnd
          rw [hcs] at hnd2
          obtain ⟨kv, cv, e, _, _, _, hkv, hcv⟩ := hnd2.open
          cases e
          have q3 := hcells 3 (by omega)
          have f3 := hWb.frozen (m * 5 + 3)
          simp only [List.getElem?_cons_zero, List.getElem?_cons_succ] at q3
          have HCS := Lib.hid hcs
          have HQ3 := Lib.hid q3
          have HKV := Lib.hid hkv
          have hI0 : (0 : Int) ≤ (m : Int) := by omega
          have hI1 : (m : Int) < (la : Int) := by omega
          have HKL : Hid (ksx.length ≤ 100000 ∧ gsx.length ≤ 100000) := Lib.hid (by
            have h1 := htt.out
            rw [szs_drop cs m hc1, hcs] at h1
            have h2 := hgk.out
            have h3 := HCN.out
            have h4 := szs_len gsx
            simp only [sz] at h1
            omega)
          have HCK := Lib.hid (Clone_keys (.slice ak lk ck) ksx _ (keys_to_at (fun b hb => (hcw.out.good b hb).1) hkv) HKL.out.1)
          clear hcells hnd hnd2 hcv hWb hkv hcs
          go_wp2_with fail
          refine HCK.out.mono ?_
          rintro e w4 ⟨kv', rfl, hk4, hb4⟩
          obtain ⟨a4, c4, b4, o4, rfl, hk4r⟩ := id hk4
          have HBW := Lib.hid (lst_node hlst.out hc1)
          have hbl : b < wr.heap.size := by obtain ⟨_, _, _, h1, _⟩ := HBW.out; exact h1.lt
          have hcw40 := hcw.out.below hb4
          obtain ⟨G4, hG4⟩ : ∃ G4 : Nat → Prop, G4 = fun b => G b ∨ NewS wr.heap.size w4 b := ⟨_, rfl⟩
          have hGG : ∀ b, G b → G4 b := fun b hb => by rw [hG4]; exact .inl hb
          have hcw4 := hcw40.more hGG (fun _ h1 h2 => by
            rw [hG4] at h2
            obtain ⟨_, cR, _, hWR⟩ := hcw.out.res
            have hlt := hWR.lt
            rcases h2 with h2 | ⟨h2, _⟩
            · exact h1 h2
            · omega) (fun b hb2 => by
            rw [hG4] at hb2
            rcases hb2 with h1 | ⟨hB, cl, h2⟩
            · exact hcw40.good b h1
            · exact ⟨h2.lt, .inr ⟨Nat.le_trans hcw.out.bel.size hB, _, cl, h2, by decide⟩⟩)
          have hl4 := hlst.out.below hb4 (G' := G4) (fun b hg => ⟨(hcw.out.good b hg).1, hGG b hg⟩)
          have hk44 := hk4.move (w' := w4) (G' := G4) (fun b hb => ⟨rfl, by rw [hG4]; exact .inr hb⟩)
          have q34 := (hb4.cell (show (⟨b, m * 5 + 3, none⟩ : Addr).block < wr.heap.size from hbl)).trans HQ3.out
          have hkv4 := HKV.out.move (w' := w4) (G' := G4) (fun b hg => ⟨hb4.block b (hcw.out.good b hg).1, hGG b hg⟩)
          obtain ⟨hcw5, hl5⟩ := keys_put hcw4 hl4 hc1 q34 hkv4 hk44
          have f34 : w4.frozen? ⟨b, m * 5 + 3, none⟩ = false := by obtain ⟨_, _, _, h1, _⟩ := lst_node hl4 hc1; exact h1.frozen _
          obtain ⟨cells5, l5, _, hW5, hnd5, hcells5⟩ := lst_node hl5 hc1
          obtain ⟨k5, n5, t5, ak5, lk5, ck5, ac5, lc5, cc5, rfl⟩ := node_form hnd5
          have hnd52 := hnd5
          rw [HCS.out] at hnd52
          obtain ⟨kv5, cv5, e5, _, _, _, _, hcv5⟩ := hnd52.open
          cases e5
          have q4 := hcells5 4 (by omega)
          simp only [List.getElem?_cons_zero, List.getElem?_cons_succ] at q4
          obtain ⟨aog, capg, bg, offg, lsg, eg, hmg, hag, hcg, hng⟩ := hcv5
          cases eg
          have HCN5 := Lib.hid (Clone_node ac5 cc5 bg offg gsx lsg _ HKL.out.2 (fun h => ⟨(hag h).1, (hcw5.good _ (hag h).2).1⟩) hcg (fun i hi => node_to_at (fun b hb => (hcw5.good b hb).1) (hng i hi)))
          have HCW5 := Lib.hid hcw5
          have HL5 := Lib.hid hl5
          have HG5 := Lib.hid (And.intro hmg (And.intro hag (And.intro hcg hng)))
          have HQ4 := Lib.hid q4
          have hsz5 : (w4.setCell ⟨b, m * 5 + 3, none⟩ (.slice a4 ksx.length c4)).heap.size = w4.heap.size := by simp
          have HZ5 := Lib.hid hsz5
          have HB34 := Lib.hid hb4
          clear hk4 hk4r hb4 hcw4 hcw40 hk44 hGG hG4 hl4 hkv4 hcw5 hl5 hW5 hnd5 hnd52 hcells5 hmg hag hcg hng hsz5 HCK HBW q3 f3 HQ3 HKV
          go_wp2_with fail
          refine HCN5.out.mono ?_
          rintro e w6 ⟨bo, cap', rfl, hb6, hcap', hnew⟩
          obtain ⟨q46, f46, G7, hcw7, hl7, hnew7⟩ := kids_put HCW5.out HL5.out hc1 HCS.out HQ4.out HG5.out hb6 hcap' hnew
          have HNO := Lib.hid (noop (.pointer (some ⟨b, m * 5, none⟩)) (w6.setCell ⟨b, m * 5 + 4, none⟩ (.slice bo gsx.length cap')))
          have HCW7 := Lib.hid hcw7
          have HL7 := Lib.hid hl7
          have HN7 := Lib.hid hnew7
          have q47 : (w6.setCell ⟨b, m * 5 + 4, none⟩ (.slice bo gsx.length cap')).cell? ⟨b, m * 5 + 4, none⟩ = some (.slice bo gsx.length cap') := World.cell?_setCell_same _ _ _ q46
          clear hb6 hnew hcw7 hl7 hnew7 HCN5 HCW5 HL5 HG5 HQ4 HZ5 HB34 q34 f34 q4
          go_wp2_with fail
          refine HNO.out.mono ?_
          rintro e w7 ⟨rfl, rfl⟩
          clear HNO q46 f46
          generalize w6.setCell ⟨b, m * 5 + 4, none⟩ (.slice bo gsx.length cap') = w7 at *
          have HLEN : Hid ((L' ++ K).length ≤ 1000000) := Lib.hid (by have h1 := len_totz (L' ++ K); have h2 := htt.out; have h3 := hgk.out; have h4 := HCN.out; omega)
          have HTM : Hid (totz (L' ++ K) + (1 + szs gsx) + szs (cs.drop (m + 1)) + 1 ≤ gk) := Lib.hid (by
            have h1 := htt.out
            rw [szs_drop cs m hc1, HCS.out] at h1
            simp only [sz] at h1
            omega)
          by_cases hl1 : 0 < gsx.length
          · have HNE : Hid (gsx ≠ []) := Lib.hid (by intro e; rw [e] at hl1; simp at hl1)
            generalize gsx.length = lg at *
            have hl1I : (0 : Int) < (lg : Int) := by omega
            obtain ⟨i0, hi, hz0, hz1, hz2⟩ := parts infoK
            go_wp2_with (at_builtin; refine wpList_append_own_at _ rfl _ _ 92 rfl w.heap.size 22 i0 (.slice none 0 0) 1 24 Tryd.underlying92 hi hz0 hz1 hz2 rfl (by decide) u6 (L' ++ K).length (rowOf (L' ++ K)) rfl ?c0 ⟨w7.heap.size, 0, none⟩ 1 1 [.slice bo lg cap'] rfl rfl ?c1 ?c2 ?c3 ?c4 ?c5 ?_)
            case c0 => exact HCW7.out.row.alloc _
            case c1 => exact cell_one_new w7 (.slice bo lg cap') 22
            case c2 => simp [Value.oneCell']
            case c3 => have := HLEN.out; unfold maxLen; omega
            case c4 => have := HLEN.out; omega
            case c5 => have := HCW7.out.bel.size; simp; omega
            intro v' w8 hown8 hgrow8 _ hat8
            have HA := Lib.hid (HCW7.out.app HL7.out (HN7.out HNE.out) HNE.out hown8 (by rw [List.length_append]) hgrow8)
            have HT7 : Hid (totz (L' ++ (K ++ [⟨.slice bo lg cap', gsx⟩])) + szs (cs.drop (m + 1)) + 1 ≤ gk) := Lib.hid (by
              have h1 := HTM.out
              rw [← List.append_assoc, totz_snoc]
              show totz (L' ++ K) + (1 + szs gsx) + _ + 1 ≤ gk
              omega)
            clear hown8 hgrow8 hat8 htt
            go_wp2
            go_roundw
            case rel => exact ⟨m + 1, K ++ [⟨.slice bo lg cap', gsx⟩], G7, by omega, by go_num, Lib.hid (by rw [← List.append_assoc]; exact HA.out.1), Lib.hid HA.out.2, HT7⟩
            case measure => simp [intOf]; omega
          · have hl0 : gsx.length = 0 := by omega
            have hl1I : ¬ ((0 : Int) < (gsx.length : Int)) := by omega
            have HT7 : Hid (totz (L' ++ K) + szs (cs.drop (m + 1)) + 1 ≤ gk) := Lib.hid (by have h1 := HTM.out; omega)
            clear htt
            go_wp2
            go_roundw
            case rel => exact ⟨m + 1, K, G7, by omega, by go_num, HCW7, HL7, HT7⟩
            case measure => simp [intOf]; omega
        · have hem : m = la := by omega
          have HT7 : Hid (totz (L' ++ K) + 1 ≤ gk) := Lib.hid (by have := htt.out; omega)
          subst hem
          clear htt
          go_wp2
          go_roundg (totz (L' ++ K))
          case measure => have := HT7.out; omega
          case rel => exact ⟨L' ++ K, G, hcw.out, Lib.hid (Nat.le_refl _), Lib.hid (by have h1 := HT7.out; have h2 := hgk.out; omega)⟩
end
end Go.Proofs.YtdbidkfjbhclcaaDoor.cloneS
