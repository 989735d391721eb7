/-
  Values (api.Node) that came in: a tree, and where it lies.
  Plain functions of a value: how many values, how great, how deep, is it right, its text.
-/
import Derived.Test.YtdbidkfjbhclcaaDoorProg
import Derived.SliceStrings
import Derived.ProofKit
import Derived.OpenShut
import Derived.ChangeArms
import Derived.Below
import Derived.Lib.SmallJoins
import Derived.Test.YtdbidkfjbhclcaaDoorUtfM
import Derived.Lib.ItoaNum
namespace Go.Proofs.YtdbidkfjbhclcaaDoor.nodeP
open Go.ChangeShapes Go.WideShapes Go.ChangeAt Go.RowKit

inductive Nd where
  | mk (kind n : Int) (text : ByteArray) (keys : List ByteArray) (kids : List Nd)

def Nd.kind : Nd → Int | .mk k _ _ _ _ => k
def Nd.n : Nd → Int | .mk _ n _ _ _ => n
def Nd.text : Nd → ByteArray | .mk _ _ t _ _ => t
def Nd.keys : Nd → List ByteArray | .mk _ _ _ ks _ => ks
def Nd.kids : Nd → List Nd | .mk _ _ _ _ cs => cs

theorem Nd.ind {M : Nd → Prop} (h : ∀ k n t ks cs, (∀ c ∈ cs, M c) → M (.mk k n t ks cs)) : ∀ x, M x
  | .mk k n t ks cs => h k n t ks cs (fun c _ => Nd.ind h c)

/-- a slice of texts in blocks below B -/
def KeysAt (w : World) (B : Nat) (v : Value) (ks : List ByteArray) : Prop :=
  ∃ ao cap b off, v = .slice ao ks.length cap ∧ (ks.length ≤ maxLen ∧ ks.length ≤ cap) ∧ (ks ≠ [] → ao = some ⟨b, off, none⟩ ∧ b < B) ∧ (∀ i, i < ks.length → w.cell? ⟨b, off + i, none⟩ = some (.string (ks.getD i ByteArray.empty))) ∧ ∀ s ∈ ks, s.size ≤ maxLen

def In64 (z : Int) : Prop := -9223372036854775808 ≤ z ∧ z ≤ 9223372036854775807

inductive NodeAt (w : World) (B : Nat) : Nd → List Value → Prop where
  | mk (k n : Int) (t : ByteArray) (ks : List ByteArray) (cs : List Nd) (kv : Value) (ao : Option Addr) (cap b off : Nat) (ls : Nat → List Value)
      (hz : In64 k ∧ In64 n ∧ t.size ≤ maxLen) (hk : KeysAt w B kv ks) (hm : cs.length ≤ maxLen) (ha : cs ≠ [] → ao = some ⟨b, off, none⟩ ∧ b < B)
      (hc : ∀ i, i < cs.length → ∀ j, j < 5 → w.cell? ⟨b, off + 5 * i + j, none⟩ = (ls i)[j]?)
      (hn : ∀ i (h : i < cs.length), NodeAt w B cs[i] (ls i)) : NodeAt w B (.mk k n t ks cs) [.int .i64 k, .int .i64 n, .string t, kv, .slice ao cs.length cap]

def KidsAt (w : World) (B : Nat) (v : Value) (cs : List Nd) : Prop :=
  ∃ ao cap b off, ∃ ls : Nat → List Value, v = .slice ao cs.length cap ∧ cs.length ≤ maxLen ∧ (cs ≠ [] → ao = some ⟨b, off, none⟩ ∧ b < B) ∧
    (∀ i, i < cs.length → ∀ j, j < 5 → w.cell? ⟨b, off + 5 * i + j, none⟩ = (ls i)[j]?) ∧ ∀ i (h : i < cs.length), NodeAt w B cs[i] (ls i)

theorem KeysAt.keep {w w' : World} {B : Nat} {v : Value} {ks : List ByteArray} (h : KeysAt w B v ks) (hb : Below B w w') : KeysAt w' B v ks := by
  obtain ⟨ao, cap, b, off, rfl, hm, ha, hc, hs⟩ := h
  refine ⟨ao, cap, b, off, rfl, hm, ha, fun i hi => ?_, hs⟩
  rw [hb.cell (show (⟨b, off + i, none⟩ : Addr).block < B from (ha (by intro h0; rw [h0] at hi; simp at hi)).2)]
  exact hc i hi

theorem NodeAt.keep {w w' : World} {B : Nat} (hb : Below B w w') {x : Nd} {l : List Value} (h : NodeAt w B x l) : NodeAt w' B x l := by
  induction h with
  | mk k n t ks cs kv ao cap b off ls hz hk hm ha hc _ ih =>
    refine .mk k n t ks cs kv ao cap b off ls hz (hk.keep hb) hm ha (fun i hi j hj => ?_) ih
    rw [hb.cell (show (⟨b, off + 5 * i + j, none⟩ : Addr).block < B from (ha (by intro h0; rw [h0] at hi; simp at hi)).2)]
    exact hc i hi j hj

theorem KidsAt.keep {w w' : World} {B : Nat} {v : Value} {cs : List Nd} (h : KidsAt w B v cs) (hb : Below B w w') : KidsAt w' B v cs := by
  obtain ⟨ao, cap, b, off, ls, rfl, hm, ha, hc, hn⟩ := h
  refine ⟨ao, cap, b, off, ls, rfl, hm, ha, fun i hi j hj => ?_, fun i hi => (hn i hi).keep hb⟩
  rw [hb.cell (show (⟨b, off + 5 * i + j, none⟩ : Addr).block < B from (ha (by intro h0; rw [h0] at hi; simp at hi)).2)]
  exact hc i hi j hj

theorem KeysAt.mono {w : World} {B B' : Nat} (hB : B ≤ B') {v : Value} {ks : List ByteArray} (h : KeysAt w B v ks) : KeysAt w B' v ks := by
  obtain ⟨ao, cap, b, off, rfl, hm, ha, hc, hs⟩ := h
  exact ⟨ao, cap, b, off, rfl, hm, fun h => ⟨(ha h).1, by have := (ha h).2; omega⟩, hc, hs⟩
theorem NodeAt.mono {w : World} {B B' : Nat} (hB : B ≤ B') {x : Nd} {l : List Value} (h : NodeAt w B x l) : NodeAt w B' x l := by
  induction h with
  | mk k n t ks cs kv ao cap b off ls hz hk hm ha hc _ ih =>
    exact .mk k n t ks cs kv ao cap b off ls hz (hk.mono hB) hm (fun h => ⟨(ha h).1, by have := (ha h).2; omega⟩) hc ih
theorem KidsAt.mono {w : World} {B B' : Nat} (hB : B ≤ B') {v : Value} {cs : List Nd} (h : KidsAt w B v cs) : KidsAt w B' v cs := by
  obtain ⟨ao, cap, b, off, ls, rfl, hm, ha, hc, hn⟩ := h
  exact ⟨ao, cap, b, off, ls, rfl, hm, fun h => ⟨(ha h).1, by have := (ha h).2; omega⟩, hc, fun i hi => (hn i hi).mono hB⟩

/-- a node's cells, opened -/
theorem NodeAt.open {w : World} {B : Nat} {k n : Int} {t : ByteArray} {ks : List ByteArray} {cs : List Nd} {l : List Value} (h : NodeAt w B (.mk k n t ks cs) l) :
    ∃ kv cv, l = [.int .i64 k, .int .i64 n, .string t, kv, cv] ∧ In64 k ∧ In64 n ∧ t.size ≤ maxLen ∧ KeysAt w B kv ks ∧ KidsAt w B cv cs := by
  cases h with
  | mk _ _ _ _ _ kv ao cap b off ls hz hk hm ha hc hn => exact ⟨kv, _, rfl, hz.1, hz.2.1, hz.2.2, hk, ao, cap, b, off, ls, rfl, hm, ha, hc, hn⟩
theorem NodeAt.shut {w : World} {B : Nat} {k n : Int} {t : ByteArray} {ks : List ByteArray} {cs : List Nd} {kv cv : Value} (hz : In64 k ∧ In64 n ∧ t.size ≤ maxLen) (hk : KeysAt w B kv ks) (hc : KidsAt w B cv cs) :
    NodeAt w B (.mk k n t ks cs) [.int .i64 k, .int .i64 n, .string t, kv, cv] := by
  obtain ⟨ao, cap, b, off, ls, rfl, hm, ha, hc, hn⟩ := hc
  exact .mk k n t ks cs kv ao cap b off ls hz hk hm ha hc hn

theorem cells_block {w : World} {a : Addr} {n : Nat} {l : List Value} (h : w.cells? 0 a n = some l) : l.length = n ∧ ∀ i, i < n → w.cell? (a.add i) = l[i]? := by
  unfold World.cells? at h
  rw [if_pos (Nat.zero_le _)] at h
  exact ⟨by simpa using mapM_some_length h, fun i hi => mapM_some_get h i i (by simp [hi])⟩
theorem cell_lt {w : World} {a : Addr} {v : Value} (h : w.cell? a = some v) : a.block < w.heap.size := by
  unfold World.cell? at h
  by_cases hb : a.block < w.heap.size
  · exact hb
  · rw [Array.getElem?_eq_none (by omega)] at h; simp at h

theorem keys_of {H : Type} {enc : TypeId × Value → H} {w : World} {fuel : Nat} {v : Value} {x : DataW H × List MemPlace}
    (hf : DataW.trod enc Tryd.prog w 0 (fun _ => true) true fuel 24 [v] = some x) : ∃ ks, KeysAt w w.heap.size v ks := by
  rcases open_strings Tryd.underlying24 Tryd.underlying9 (by kernel_rfl) hf with ⟨hcs, hx⟩ | ⟨a, len', cap', ss, hcs, _, hl, hm, hz, hx, hcell, hws⟩
  · simp at hcs
    subst hcs
    exact ⟨[], none, 0, 0, 0, rfl, ⟨Nat.zero_le _, Nat.zero_le _⟩, fun h => absurd rfl h, fun i hi => absurd hi (Nat.not_lt_zero _), by simp⟩
  · simp at hcs
    subst hcs
    simp only [if_true] at hz
    have hl' : (ss.take len').length = len' := by rw [List.length_take]; omega
    by_cases h0 : len' = 0
    · subst h0
      exact ⟨[], some a, cap', 0, 0, rfl, ⟨Nat.zero_le _, Nat.zero_le _⟩, fun h => absurd rfl h, fun i hi => absurd hi (Nat.not_lt_zero _), by simp⟩
    · obtain ⟨b, off, spot⟩ := a
      have hspot : spot = none := by simpa [Addr.add] using World.cell?_spot (hcell 0 (by omega))
      subst hspot
      have hcell' : ∀ i, i < len' → w.cell? ⟨b, off + i, none⟩ = some (.string ((ss.take len').getD i ByteArray.empty)) := by
        intro i hi
        have := hcell i (by omega)
        rw [show (⟨b, off, none⟩ : Addr).add i = ⟨b, off + i, none⟩ from by unfold Addr.add; split <;> simp_all] at this
        rw [this]
        simp [List.getD, hi]
      refine ⟨ss.take len', some ⟨b, off, none⟩, cap', b, off, by rw [hl'], ⟨by rw [hl']; omega, by rw [hl']; omega⟩, fun _ => ⟨rfl, cell_lt (hcell' 0 (by omega))⟩, fun i hi => hcell' i (by omega), fun s hs => hws s (List.mem_of_mem_take hs)⟩

theorem in64_of {z : Int} (h : (Lit.int .i64 z).wf = true) : In64 z := by
  have h1 : IntKind.i64.min = -9223372036854775808 := by decide
  have h2 : IntKind.i64.max = 9223372036854775807 := by decide
  simp [Lit.wf] at h
  unfold In64
  omega

theorem choose_list {α β : Type} [Inhabited α] [Inhabited β] (n : Nat) (p : Nat → α → β → Prop) (h : ∀ i, i < n → ∃ a b, p i a b) : ∃ (l : List α) (f : Nat → β), l.length = n ∧ ∀ i (hi : i < l.length), p i l[i] (f i) := by
  induction n with
  | zero => exact ⟨[], fun _ => default, rfl, fun i hi => absurd hi (Nat.not_lt_zero _)⟩
  | succ n ih =>
    obtain ⟨l, f, hl, hp⟩ := ih (fun i hi => h i (by omega))
    obtain ⟨a, b, hab⟩ := h n (by omega)
    refine ⟨l ++ [a], fun i => if i = n then b else f i, by simp [hl], fun i hi => ?_⟩
    by_cases e : i = n
    · subst e; simpa [hl, List.getElem_append] using hab
    · have hi' : i < l.length := by simp at hi; omega
      simp only [if_neg e, List.getElem_append_left hi']
      exact hp i hi'

instance : Inhabited Nd := ⟨.mk 0 0 ByteArray.empty [] []⟩

set_option maxRecDepth 100000 in
theorem kids_of {H : Type} {enc : TypeId × Value → H} {w : World} {fuel : Nat} (ih : ∀ m, m ≤ fuel → ∀ (l : List Value) (x : DataW H × List MemPlace),
    DataW.trod enc Tryd.prog w 0 (fun _ => true) true m 26 l = some x → ∃ nd, NodeAt w w.heap.size nd l) {v : Value} {x : DataW H × List MemPlace}
    (hf : DataW.trod enc Tryd.prog w 0 (fun _ => true) true fuel 22 [v] = some x) : ∃ cs, KidsAt w w.heap.size v cs := by
  rcases DataW.trod_slice Tryd.underlying22 hf with ⟨hcs, _⟩ | ⟨a, len, cap, elems, rest, n, rfl, hcs, _, _, hl, hm, hel, hg, _⟩
  · simp at hcs
    subst hcs
    exact ⟨[], none, 0, 0, 0, fun _ => [], rfl, Nat.zero_le _, fun h => absurd rfl h, fun i hi => absurd hi (Nat.not_lt_zero _), fun i hi => absurd hi (Nat.not_lt_zero _)⟩
  · simp at hcs
    subst hcs
    by_cases h0 : len = 0
    · subst h0
      exact ⟨[], some a, cap, 0, 0, fun _ => [], rfl, Nat.zero_le _, fun h => absurd rfl h, fun i hi => absurd hi (Nat.not_lt_zero _), fun i hi => absurd hi (Nat.not_lt_zero _)⟩
    · rw [show Tryd.prog.cellsOf 26 = 5 from by kernel_rfl] at hg
      have hall : ∀ i, i < len → ∃ (nd : Nd) (l : List Value), (l.length = 5 ∧ ∀ j, j < 5 → w.cell? ((a.add (i * 5)).add j) = l[j]?) ∧ NodeAt w w.heap.size nd l := by
        intro i hi
        have h1 := hg i hi
        rw [List.getElem?_eq_getElem (by omega)] at h1
        obtain ⟨l, h2, h3⟩ := Option.bind_eq_some_iff.1 h1
        obtain ⟨nd, hnd⟩ := ih n (by omega) l _ h3
        exact ⟨nd, l, cells_block h2, hnd⟩
      obtain ⟨cs, ls, hcl, hp⟩ := choose_list len (fun i (nd : Nd) (l : List Value) => (l.length = 5 ∧ ∀ j, j < 5 → w.cell? ((a.add (i * 5)).add j) = l[j]?) ∧ NodeAt w w.heap.size nd l) hall
      obtain ⟨b, off, spot⟩ := a
      have hc0 := (hp 0 (by omega)).1
      obtain ⟨u, hu⟩ : ∃ u, (ls 0)[0]? = some u := ⟨(ls 0)[0]'(by omega), List.getElem?_eq_getElem _⟩
      have hfirst := hc0.2 0 (by omega)
      rw [hu] at hfirst
      have hspot : spot = none := by
        have := World.cell?_spot hfirst
        simpa [Addr.add] using this
      subst hspot
      have hadd : ∀ i j, ((⟨b, off, none⟩ : Addr).add (i * 5)).add j = ⟨b, off + 5 * i + j, none⟩ := by
        intro i j
        have add1 : ∀ o n, (⟨b, o, none⟩ : Addr).add n = ⟨b, o + n, none⟩ := by intro o n; unfold Addr.add; split <;> simp_all
        rw [add1, add1, Nat.mul_comm]
      refine ⟨cs, some ⟨b, off, none⟩, cap, b, off, ls, by rw [hcl], by omega, fun _ => ⟨rfl, ?_⟩, fun i hi j hj => ?_, fun i hi => (hp i hi).2⟩
      · rw [hadd] at hfirst
        exact cell_lt hfirst
      · rw [← hadd]; exact (hp i hi).1.2 j hj

set_option maxRecDepth 100000 in
theorem node_of {H : Type} {enc : TypeId × Value → H} {w : World} : ∀ (fuel : Nat) (l : List Value) (x : DataW H × List MemPlace),
    DataW.trod enc Tryd.prog w 0 (fun _ => true) true fuel 26 l = some x → ∃ nd, NodeAt w w.heap.size nd l := by
  intro fuel
  induction fuel using Nat.strongRecOn with
  | ind fuel ih =>
    intro l x h
    obtain ⟨xs, n, rfl, _, hl, hxs, hfs⟩ := DataW.trod_struct Tryd.underlying26 h
    rw [show Tryd.prog.cellsOf 26 = 5 from by kernel_rfl] at hl
    obtain ⟨c0, c1, c2, c3, c4, rfl⟩ : ∃ c0 c1 c2 c3 c4, l = [c0, c1, c2, c3, c4] := by
      match l, hl with
      | [c0, c1, c2, c3, c4], _ => exact ⟨c0, c1, c2, c3, c4, rfl⟩
    have get : ∀ i, i < 5 → ∃ y, xs[i]? = some y := fun i hi => ⟨xs[i]'(by rw [hxs]; exact hi), List.getElem?_eq_getElem _⟩
    have f0 : ∃ y, DataW.trod enc Tryd.prog w 0 (fun _ => true) true n 3 [c0] = some y := by obtain ⟨y, hy⟩ := get 0 (by omega); exact ⟨y, (hfs 0 _ rfl).trans hy⟩
    have f1 : ∃ y, DataW.trod enc Tryd.prog w 0 (fun _ => true) true n 3 [c1] = some y := by obtain ⟨y, hy⟩ := get 1 (by omega); exact ⟨y, (hfs 1 _ rfl).trans hy⟩
    have f2 : ∃ y, DataW.trod enc Tryd.prog w 0 (fun _ => true) true n 9 [c2] = some y := by obtain ⟨y, hy⟩ := get 2 (by omega); exact ⟨y, (hfs 2 _ rfl).trans hy⟩
    have f3 : ∃ y, DataW.trod enc Tryd.prog w 0 (fun _ => true) true n 24 [c3] = some y := by obtain ⟨y, hy⟩ := get 3 (by omega); exact ⟨y, (hfs 3 _ rfl).trans hy⟩
    have f4 : ∃ y, DataW.trod enc Tryd.prog w 0 (fun _ => true) true n 22 [c4] = some y := by obtain ⟨y, hy⟩ := get 4 (by omega); exact ⟨y, (hfs 4 _ rfl).trans hy⟩
    obtain ⟨y0, f0⟩ := f0
    obtain ⟨y1, f1⟩ := f1
    obtain ⟨y2, f2⟩ := f2
    obtain ⟨y3, f3⟩ := f3
    obtain ⟨y4, f4⟩ := f4
    obtain ⟨k, e0, _, hk⟩ := DataW.trod_int Tryd.underlying3 f0
    obtain ⟨z, e1, _, hz⟩ := DataW.trod_int Tryd.underlying3 f1
    obtain ⟨t, e2, _, ht⟩ := DataW.trod_string Tryd.underlying9 f2
    obtain ⟨ks, hks⟩ := keys_of f3
    simp only [List.cons.injEq, and_true] at e0 e1 e2
    subst e0 e1 e2
    obtain ⟨cs, hcs⟩ : ∃ cs, KidsAt w w.heap.size c4 cs := kids_of (fuel := n) (fun m hm => ih m (by omega)) f4
    exact ⟨.mk k z t ks cs, .shut ⟨in64_of hk, in64_of hz, ht⟩ hks hcs⟩

set_option maxRecDepth 100000 in
/-- a Node among the arguments -/
theorem arg_node {H : Type} {enc : TypeId × Value → H} {W : World} {base : Nat} {v : Value} {d : DataW H} {ps : List MemPlace} (ok : Value.okWide Tryd.prog W .any base 26 v)
    (h : DataW.Trod enc Tryd.prog W 0 (fun _ => true) true 26 v d ps) : ∃ nd cs, v = .agg cs ∧ NodeAt W W.heap.size nd cs.toList := by
  obtain ⟨cs, rfl, _⟩ := okWide_struct Tryd.underlying26 ok
  obtain ⟨fuel, hf⟩ := h
  obtain ⟨nd, hnd⟩ := node_of fuel _ _ hf
  exact ⟨nd, cs, rfl, hnd⟩
set_option maxRecDepth 100000 in
/-- a slice of Nodes among the arguments -/
theorem arg_kids {H : Type} {enc : TypeId × Value → H} {W : World} {base : Nat} {v : Value} {d : DataW H} {ps : List MemPlace} (ok : Value.okWide Tryd.prog W .any base 22 v)
    (h : DataW.Trod enc Tryd.prog W 0 (fun _ => true) true 22 v d ps) : ∃ cs, KidsAt W W.heap.size v cs := by
  obtain ⟨a0, len, cap, rfl⟩ := okWide_slice Tryd.underlying22 ok
  obtain ⟨fuel, hf⟩ := h
  exact kids_of (fun m _ l x hx => node_of m l x hx) hf
end Go.Proofs.YtdbidkfjbhclcaaDoor.nodeP
namespace Go.Proofs.YtdbidkfjbhclcaaDoor.nodeQ
open Go.ChangeShapes Go.WideShapes Go.ChangeAt Go.RowKit nodeP

def sumL (l : List ByteArray) : Nat := (l.map (·.size)).sum

mutual
def count : Nd → Nat
  | .mk _ _ _ _ cs => 1 + counts cs
def counts : List Nd → Nat
  | [] => 0
  | c :: cs => count c + counts cs
end
mutual
def sz : Nd → Nat
  | .mk _ _ t ks cs => 1 + t.size + ks.length + sumL ks + szs cs
def szs : List Nd → Nat
  | [] => 0
  | c :: cs => sz c + szs cs
end
mutual
def dp : Nd → Nat
  | .mk _ _ _ _ cs => dps cs
def dps : List Nd → Nat
  | [] => 0
  | c :: cs => max (1 + dp c) (dps cs)
end

def vld (s : ByteArray) : Bool := (utfR.pts s.data.toList).isSome
/-- what rightKeys tells -/
def rk (k : Int) (ks : List ByteArray) (m : Nat) : Bool := if k = 6 then ks.isEmpty else (ks.length == m) && decide ks.Nodup && ks.all vld
/-- what is asked of one value at a depth -/
def one (k n : Int) (t : ByteArray) (ks : List ByteArray) (m d : Nat) : Bool :=
  (k == 4 || n == 0) && (k == 5 || t.size == 0) && decide (1 ≤ k ∧ k ≤ 7) && (if k < 6 then ks.isEmpty && m == 0 && (k != 5 || vld t) else decide (d < 32) && rk k ks m)
mutual
def okAt : Nd → Nat → Bool
  | .mk k n t ks cs, d => one k n t ks cs.length d && oks cs (d + 1)
def oks : List Nd → Nat → Bool
  | [], _ => true
  | c :: cs, d => okAt c d && oks cs d
end

def bytes (s : String) : List UInt8 := s.toUTF8.data.toList
/-- a value's text; that of kids, with "," between, and each with its key ahead if there are keys -/
def sep (b : Bool) : List UInt8 := if b then [] else [44]
mutual
def tx : Nd → List UInt8
  | .mk k n t ks cs => if k = 1 then bytes "null" else if k = 2 then bytes "false" else if k = 3 then bytes "true" else if k = 4 then Lib.itoa n else if k = 5 then quoteP.qt t.data.toList
    else if k = 6 then 91 :: (txs true cs ++ [93]) else 123 :: (txo true ks cs ++ [125])
def txs : Bool → List Nd → List UInt8
  | _, [] => []
  | b, c :: cs => sep b ++ tx c ++ txs false cs
def txo : Bool → List ByteArray → List Nd → List UInt8
  | _, _, [] => []
  | b, [], c :: cs => sep b ++ tx c ++ txo false [] cs
  | b, k :: ks, c :: cs => sep b ++ quoteP.qt k.data.toList ++ [58] ++ tx c ++ txo false ks cs
end

theorem counts_take : ∀ (cs : List Nd) (i : Nat) (h : i < cs.length), counts (cs.take (i + 1)) = counts (cs.take i) + count cs[i]
  | c :: cs, 0, _ => by simp [counts]
  | c :: cs, i + 1, h => by
    have := counts_take cs i (by simpa using h)
    simp [counts] at this ⊢; omega
theorem szs_take : ∀ (cs : List Nd) (i : Nat) (h : i < cs.length), szs (cs.take (i + 1)) = szs (cs.take i) + sz cs[i]
  | c :: cs, 0, _ => by simp [szs]
  | c :: cs, i + 1, h => by
    have := szs_take cs i (by simpa using h)
    simp [szs] at this ⊢; omega
theorem dps_take : ∀ (cs : List Nd) (i : Nat) (h : i < cs.length), dps (cs.take (i + 1)) = max (dps (cs.take i)) (1 + dp cs[i])
  | c :: cs, 0, _ => by simp [dps]
  | c :: cs, i + 1, h => by
    have := dps_take cs i (by simpa using h)
    simp [dps] at this ⊢; omega
theorem oks_take : ∀ (cs : List Nd) (d i : Nat) (h : i < cs.length), oks (cs.take (i + 1)) d = (oks (cs.take i) d && okAt cs[i] d)
  | c :: cs, d, 0, _ => by simp [oks]
  | c :: cs, d, i + 1, h => by
    have := oks_take cs d i (by simpa using h)
    simp [oks] at this ⊢; rw [this, Bool.and_assoc]
theorem count_pos (x : Nd) : 1 ≤ count x := by cases x; simp [count]
theorem counts_len : ∀ cs : List Nd, cs.length ≤ counts cs
  | [] => by simp
  | c :: cs => by have := counts_len cs; have := count_pos c; simp [counts]; omega
theorem sz_pos (x : Nd) : 1 ≤ sz x := by cases x; simp [sz]; omega
theorem counts_mono (cs : List Nd) (i : Nat) : counts (cs.take i) ≤ counts cs := by
  induction cs generalizing i with
  | nil => simp
  | cons c cs ih => cases i with
    | zero => simp [counts]
    | succ i => have := ih i; simp [counts]; omega
theorem szs_mono (cs : List Nd) (i : Nat) : szs (cs.take i) ≤ szs cs := by
  induction cs generalizing i with
  | nil => simp
  | cons c cs ih => cases i with
    | zero => simp [szs]
    | succ i => have := ih i; simp [szs]; omega
theorem oks_all (cs : List Nd) (d : Nat) : oks cs d = cs.all (okAt · d) := by
  induction cs with
  | nil => rfl
  | cons c cs ih => simp [oks, ih]
theorem szs_mem {cs : List Nd} {c : Nd} (h : c ∈ cs) : sz c ≤ szs cs := by
  induction cs with
  | nil => simp at h
  | cons a cs ih =>
    rcases List.mem_cons.1 h with rfl | h
    · simp [szs]
    · have := ih h; simp [szs]; omega
theorem dps_mem {cs : List Nd} {c : Nd} (h : c ∈ cs) : 1 + dp c ≤ dps cs := by
  induction cs with
  | nil => simp at h
  | cons a cs ih =>
    rcases List.mem_cons.1 h with rfl | h
    · simp [dps]; omega
    · have := ih h; simp [dps]; omega
theorem dps_le_szs {cs : List Nd} (h : ∀ c ∈ cs, dp c + 1 ≤ sz c) : dps cs ≤ szs cs := by
  induction cs with
  | nil => simp [dps]
  | cons a cs ih =>
    have h1 := h a (by simp)
    have h2 := ih (fun c hc => h c (by simp [hc]))
    simp [dps, szs]; omega
theorem dp_sz : ∀ x, dp x + 1 ≤ sz x := Nd.ind fun k n t ks cs ih => by
  have := dps_le_szs ih
  simp [dp, sz]; omega
theorem counts_le_szs {cs : List Nd} (h : ∀ c ∈ cs, count c ≤ sz c) : counts cs ≤ szs cs := by
  induction cs with
  | nil => simp [counts]
  | cons a cs ih =>
    have h1 := h a (by simp)
    have h2 := ih (fun c hc => h c (by simp [hc]))
    simp [counts, szs]; omega
theorem count_sz : ∀ x, count x ≤ sz x := Nd.ind fun k n t ks cs ih => by
  have := counts_le_szs ih
  simp [count, sz]; omega
/-- what is right at one depth is so at another, if it is not deep -/
theorem ok_depth : ∀ x d d', okAt x d = true → d' + dp x < 32 → okAt x d' = true := by
  intro x
  induction x using Nd.ind with
  | _ k n t ks cs ih =>
  intro d d' h hd
  simp only [okAt, Bool.and_eq_true, oks_all, List.all_eq_true] at h ⊢
  simp only [dp] at hd
  refine ⟨?_, fun c hc => ih c hc (d + 1) (d' + 1) (h.2 c hc) (by have := dps_mem hc; omega)⟩
  have h1 := h.1
  unfold one at h1 ⊢
  split at h1
  · rename_i h6; rw [if_pos h6]; exact h1
  · rename_i h6
    rw [if_neg h6]
    simp only [Bool.and_eq_true, decide_eq_true_eq] at h1 ⊢
    exact ⟨h1.1, by omega, h1.2.2⟩
end Go.Proofs.YtdbidkfjbhclcaaDoor.nodeQ
