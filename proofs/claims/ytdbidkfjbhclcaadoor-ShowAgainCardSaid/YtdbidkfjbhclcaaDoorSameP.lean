/-
  Pairs of kids that are still to be compared (json.Same).
-/
import Derived.Test.YtdbidkfjbhclcaaDoorSameN
import Derived.Test.YtdbidkfjbhclcaaDoorNodM
import Derived.Test.YtdbidkfjbhclcaaDoorJsonB
namespace Go.Proofs.YtdbidkfjbhclcaaDoor.sameP
open Go.ChangeShapes Go.WideShapes Go.ChangeAt Go.RowKit nodeP nodeQ nodeA sameTexts sameN ownI
set_option linter.unusedSimpArgs false
set_option linter.unusedVariables false

structure E where
  va : Value
  vb : Value
  cs : List Nd
  cs' : List Nd
def E.sz (e : E) : Nat := 1 + counts e.cs + counts e.cs'
def tot (L : List E) : Nat := (L.map E.sz).sum
def rowOf (L : List E) : List Value := L.flatMap fun e => [e.va, e.vb]
theorem rowOf_len (L : List E) : (rowOf L).length = L.length * 2 := by
  induction L with
  | nil => rfl
  | cons e L ih => simp only [rowOf, List.flatMap_cons, List.length_append] at *; rw [ih]; simp; omega
theorem rowOf_snoc (L : List E) (e : E) : rowOf (L ++ [e]) = rowOf L ++ [e.va, e.vb] := by simp [rowOf]
theorem tot_snoc (L : List E) (e : E) : tot (L ++ [e]) = tot L + e.sz := by simp [tot]
theorem tot_app (L K : List E) : tot (L ++ K) = tot L + tot K := by simp [tot]
theorem len_tot (L : List E) : L.length ≤ tot L := by
  induction L with
  | nil => simp
  | cons e L ih => simp only [tot, List.map_cons, List.sum_cons, List.length_cons] at *; have : 1 ≤ e.sz := (by unfold E.sz; omega); omega
theorem last_or (L : List E) : L = [] ∨ ∃ L' e, L = L' ++ [e] := by
  rcases List.eq_nil_or_concat L with h | ⟨L', e, h⟩
  · exact .inl h
  · exact .inr ⟨L', e, by rw [h, List.concat_eq_append]⟩
def Eqs (L : List E) : Prop := ∀ e ∈ L, e.cs = e.cs'
theorem Eqs_snoc (L : List E) (e : E) : Eqs (L ++ [e]) ↔ Eqs L ∧ e.cs = e.cs' := by
  unfold Eqs
  constructor
  · intro h; exact ⟨fun x hx => h x (by simp [hx]), h e (by simp)⟩
  · rintro ⟨h1, h2⟩ x hx
    rcases List.mem_append.1 hx with hx | hx
    · exact h1 x hx
    · simp at hx; rw [hx]; exact h2
/-- a row without its last pair -/
theorem row_pop {w : World} {B : Nat} {e : TypeId} {g n cap : Nat} {xs : List Value} {a b : Value} (h : w.ownsRow B e 2 (.slice (some ⟨g, 0, none⟩) (n + 1) cap) (n + 1) (xs ++ [a, b])) : w.ownsRow B e 2 (.slice (some ⟨g, 0, none⟩) n cap) n xs := by
  obtain ⟨h1, h2⟩ := h
  rcases h2 with ⟨h2, _⟩ | ⟨g', cap', cur, hv, hb, hg, hn, hm, hc, ht⟩
  · cases h2
  · cases hv
    have hl : xs.length = n * 2 := by rw [List.length_append] at h1; simp at h1; omega
    refine ⟨hl, .inr ⟨g, cap, cur, rfl, hb, hg, by omega, hm, hc, ?_⟩⟩
    have : cur.toList.take (n * 2) = (cur.toList.take ((n + 1) * 2)).take (n * 2) := by rw [List.take_take]; congr 1; omega
    rw [this, ht, List.take_left' hl]
theorem row_some {w : World} {B : Nat} {e : TypeId} {n : Nat} {v : Value} {xs : List Value} (h : w.ownsRow B e 2 v (n + 1) xs) : ∃ g cap, v = .slice (some ⟨g, 0, none⟩) (n + 1) cap ∧ B ≤ g ∧ g < w.heap.size := by
  rcases h.2 with ⟨_, h0⟩ | ⟨g, cap, cur, hv, hb, hg, _⟩
  · omega
  · exact ⟨g, cap, hv, hb, (Array.getElem?_eq_some_iff.1 hg).1⟩
theorem counts_drop (cs : List Nd) (m : Nat) (h : m < cs.length) : counts (cs.drop m) = count cs[m] + counts (cs.drop (m + 1)) := by
  rw [List.drop_eq_getElem_cons h]; rfl
theorem count_kids (x : Nd) : count x = 1 + counts x.kids := by cases x; rfl
theorem drop_eq {cs cs' : List Nd} {m : Nat} (h : m < cs.length) (h' : m < cs'.length) : cs.drop m = cs'.drop m ↔ cs[m] = cs'[m] ∧ cs.drop (m + 1) = cs'.drop (m + 1) := by
  rw [List.drop_eq_getElem_cons h, List.drop_eq_getElem_cons h', List.cons.injEq]
theorem nd_eq {x y : Nd} (h1 : x.kind = y.kind) (h2 : x.n = y.n) (h3 : x.text = y.text) (h4 : x.keys = y.keys) : x = y ↔ x.kids = y.kids := by
  cases x; cases y
  simp only [Nd.kind, Nd.n, Nd.text, Nd.keys, Nd.kids] at *
  subst h1 h2 h3 h4
  simp
theorem nd_ne {x y : Nd} (h : x.kind ≠ y.kind ∨ x.n ≠ y.n ∨ x.text ≠ y.text ∨ x.keys ≠ y.keys) : x ≠ y := by
  rintro rfl
  rcases h with h | h | h | h <;> exact h rfl
theorem same_iff {x y : Nd} : same x y = true ↔ x = y := by
  constructor
  · intro h
    by_cases e : x = y
    · exact e
    · rw [same_no e] at h; cases h
  · exact same_yes
theorem node_parts {w : World} {B : Nat} {x : Nd} {k n : Int} {t : ByteArray} {kv cv : Value} (h : NodeAt w B x [.int .i64 k, .int .i64 n, .string t, kv, cv]) : x.kind = k ∧ x.n = n ∧ x.text = t ∧ KeysAt w B kv x.keys ∧ KidsAt w B cv x.kids := by
  cases x with
  | mk k' n' t' ks cs =>
    obtain ⟨kv', cv', hl, _, _, _, h1, h2⟩ := h.open
    simp only [List.cons.injEq, Value.int.injEq, Value.string.injEq, true_and, and_true] at hl
    obtain ⟨rfl, rfl, rfl, rfl, rfl⟩ := hl
    exact ⟨rfl, rfl, rfl, h1, h2⟩
theorem row_below {w w' : World} {B : Nat} {e : TypeId} {sz : Nat} {v : Value} {n : Nat} {xs : List Value} (h : w.ownsRow B e sz v n xs) (hb : Below w.heap.size w w') : w'.ownsRow B e sz v n xs :=
  World.ownsRow.kept h (grown_below hb none) (by cases hv : v.ownBlock; exact .inl rfl; exact .inr (by simp))
theorem tl_ne {t t' : ByteArray} (h : t ≠ t') : (t.toList == t'.toList) = false := by
  rw [beq_eq_false_iff_ne]; intro e; apply h; rw [Go.ByteArray.toList_eq, Go.ByteArray.toList_eq] at e
  exact ByteArray.ext (by simpa using congrArg List.toArray e)
theorem two_new (w : World) (a b : Value) (t : TypeId) : ∀ j u, [a, b][j]? = some u → (w.alloc (.cells #[a, b] t)).cell? ((⟨w.heap.size, 0, none⟩ : Addr).add j) = some u := by
  intro j u hj
  match j, hj with
  | 0, hj => simp at hj; subst hj; simp [Addr.add]
  | 1, hj => simp at hj; subst hj; simp [Addr.add]
end Go.Proofs.YtdbidkfjbhclcaaDoor.sameP
