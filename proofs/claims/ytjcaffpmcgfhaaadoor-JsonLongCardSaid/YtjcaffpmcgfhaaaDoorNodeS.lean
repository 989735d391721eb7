/-
  The keys that were seen, as a map of the call's own.
-/
import Derived.Test.YtjcaffpmcgfhaaaDoorNodeQ
import Derived.Maps.OwnOps
import Derived.Maps.Views
import Derived.StringKeys
import Derived.Carry
import Derived.WalkKit
import Derived.Lib.Hide
namespace Go.Proofs.YtjcaffpmcgfhaaaDoor.nodeS
open Go.ChangeShapes Go.WideShapes Go.ChangeAt Go.RowKit Go.WideMaps Go.Maps nodeP nodeQ

theorem law : Keyed Tryd.prog 9 := string_keyed Tryd.underlying9
theorem zeroI (w : World) : (zeroValue 3).run Tryd.prog w = .ok (.int .i64 0) w := by kernel_rfl
theorem run_makeMapN (n : Int) (w : World) : (Instr.makeMap 70 (some (.int .i64 n))).run Tryd.prog w = .ok (.map (some w.heap.size)) (w.alloc (.map #[] 0)) := by
  simp [Instr.makeMap]
  rfl

/-- what is seen behind some keys -/
def seenD (ks : List ByteArray) : DataW Unit := ks.foldl (fun D k => D.put (.string k.data.toList) (.lit (.int .i64 1))) (.map [])
theorem seenD_snoc (ks : List ByteArray) (k : ByteArray) : seenD (ks ++ [k]) = (seenD ks).put (.string k.data.toList) (.lit (.int .i64 1)) := by simp [seenD]
theorem seenD_map (ks : List ByteArray) : IsMap (seenD ks) := by
  suffices h : ∀ (ks : List ByteArray) (D : DataW Unit), IsMap D → IsMap (ks.foldl (fun D k => D.put (.string k.data.toList) (.lit (.int .i64 1))) D) from h ks _ ⟨[], rfl⟩
  intro ks
  induction ks with
  | nil => intro D h; exact h
  | cons k ks ih => intro D h; obtain ⟨es, rfl⟩ := h; exact ih _ ⟨_, rfl⟩
theorem bytes_inj {a b : ByteArray} (h : a.data.toList = b.data.toList) : a = b := by
  cases a; cases b; simp at h; simp [h]
theorem seenD_at (k : ByteArray) : ∀ (ks : List ByteArray) (D : DataW Unit), IsMap D →
    (k ∈ ks → (ks.foldl (fun D k => D.put (.string k.data.toList) (.lit (.int .i64 1))) D).atKey (.string k.data.toList) (.lit (.int .i64 0)) = .lit (.int .i64 1)) ∧
    (k ∉ ks → (ks.foldl (fun D k => D.put (.string k.data.toList) (.lit (.int .i64 1))) D).atKey (.string k.data.toList) (.lit (.int .i64 0)) = D.atKey (.string k.data.toList) (.lit (.int .i64 0))) := by
  intro ks
  induction ks with
  | nil => intro D _; exact ⟨fun h => absurd h (by simp), fun _ => rfl⟩
  | cons a ks ih =>
    intro D hD
    have hD' : IsMap (D.put (.string a.data.toList) (.lit (.int .i64 1))) := by obtain ⟨es, rfl⟩ := hD; exact ⟨_, rfl⟩
    obtain ⟨i1, i2⟩ := ih _ hD'
    refine ⟨fun h => ?_, fun h => ?_⟩
    · by_cases hk : k ∈ ks
      · exact i1 hk
      · have hka : k = a := by rcases List.mem_cons.1 h with h | h
                               · exact h
                               · exact absurd h hk
        refine (i2 hk).trans ?_
        subst hka
        exact atKey_put_same hD (show WideAt.IsKeyLit (.string _) from trivial) _ _
    · have hka : k ≠ a := fun e => h (by simp [e])
      refine (i2 (fun h' => h (by simp [h']))).trans ?_
      exact atKey_put_other (by simp only [ne_eq, Lit.string.injEq]; exact fun e => hka (bytes_inj e)) _ _
theorem seen_yes {k : ByteArray} {ks : List ByteArray} (h : k ∈ ks) : (seenD ks).atKey (.string k.data.toList) (.lit (.int .i64 0)) = .lit (.int .i64 1) := (seenD_at k ks _ ⟨[], rfl⟩).1 h
theorem seen_no {k : ByteArray} {ks : List ByteArray} (h : k ∉ ks) : (seenD ks).atKey (.string k.data.toList) (.lit (.int .i64 0)) = .lit (.int .i64 0) := (seenD_at k ks _ ⟨[], rfl⟩).2 h

theorem take_snoc {α : Type} (l : List α) (m : Nat) (d : α) (h : m < l.length) : l.take (m + 1) = l.take m ++ [l.getD m d] := by
  rw [List.take_add_one, List.getElem?_eq_getElem h, List.getD_eq_getElem?_getD, List.getElem?_eq_getElem h]; rfl
theorem nodup_take {l : List ByteArray} (h : l.Nodup) (m : Nat) (hm : m < l.length) : l.getD m ByteArray.empty ∉ l.take m := by
  have h1 : (l.take (m + 1)).Nodup := h.sublist (List.take_sublist _ _)
  rw [take_snoc l m ByteArray.empty hm, List.nodup_append] at h1
  intro hin
  exact h1.2.2 _ hin _ (by simp) rfl
theorem take_nodup_snoc {l : List ByteArray} (m : Nat) (hm : m < l.length) (h : (l.take m).Nodup) (hn : l.getD m ByteArray.empty ∉ l.take m) : (l.take (m + 1)).Nodup := by
  rw [take_snoc l m ByteArray.empty hm, List.nodup_append]
  refine ⟨h, by simp, ?_⟩
  intro a ha b hb e
  simp at hb
  subst hb; subst e
  exact hn ha

theorem map_below {w w' : World} {b n : Nat} {D : DataW Unit} (h : w.ownsMap Tryd.prog 9 (plainElem Tryd.prog 3) b n D) (hb : Below w.heap.size w w') : w'.ownsMap Tryd.prog 9 (plainElem Tryd.prog 3) b n D :=
  h.kept (row := none) ⟨hb.os, hb.tape, hb.output, hb.size, fun k hk _ => hb.block k hk⟩ (by simp)

end Go.Proofs.YtjcaffpmcgfhaaaDoor.nodeS
