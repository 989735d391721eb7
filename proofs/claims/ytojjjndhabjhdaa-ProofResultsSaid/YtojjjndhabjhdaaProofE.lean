/-
  Contract of (*prover).follow at a code that nothing watches; at any code.
-/
import Derived.Test.YtojjjndhabjhdaaProofD
namespace Go.Proofs.Ytojjjndhabjhdaa.proofE
set_option linter.unusedSimpArgs false
set_option linter.unusedVariables false
open Go.ChangeShapes Go.WideShapes Go.ChangeAt Go.RowKit proofP proofQ owns proofA proofB proofC proofD

set_option maxHeartbeats 1000000 in
set_option maxRecDepth 100000 in
theorem follow_none (B bp : Nat) (lv va : Value) (first nv : Nat) (s : PS) (F : Ix → Ent) (w : World) (cls : Nat → List Int) (cl : List (List Int)) (fr : List Int) (head lost : Nat) (h : Mem w B bp lv va first nv s F) (G : PGood s cls) (hlm : lost < s.m) (hN0 : s.W lost = [])
    (hh : head < s.trail.length) (hd : s.trail.getD head 0 = opp lost) (hP : PI s.n s.row s.on s.trail head) (hD : ∀ x, x ∈ s.trail → D cl fr x) (hon : ∀ i, i < s.n → s.on i = true → cls i ∈ cl) :
    Calls Try.prog 57 #[.pointer (some ⟨bp, 0, none⟩), .int .i64 lost] w (FollowP B bp lv first nv s cls cl fr head w) := by
  have hFI := start_FI (lost := lost) G hh hd hP hD hon
  rw [hN0] at hFI
  have hx0 : (F (.watch lost)).xs.length = 0 := by rw [h.watch, hN0]; rfl
  obtain ⟨gW, capW, hWv, hW1, hW2, hW3, hW4, hW5⟩ := h.watchesAt (by omega)
  have f6 := h.field.2.2.2.2.2.1
  rw [hWv] at f6
  have wl := hW1 lost hlm
  have zl := hW5 lost
  have hown := h.own.1 (.watch lost)
  rw [hx0] at hown
  have hP0 : ∀ w', Mem w' B bp lv va first nv s F → Below B w w' → FollowP B bp lv first nv s cls cl fr head w (.returned (.bool true)) w' := fun w' hM hb =>
    ⟨s, va, F, hM, hb, Same.refl s, G, fun x hx => hx, .inl ⟨rfl, hFI.done, hD, hh⟩⟩
  have hset : ∀ v, (F (.watch lost)).v = v → Mem (w.setCell ⟨gW, lost, none⟩ v) B bp lv va first nv s F := by
    intro v hv
    obtain ⟨O1, G1⟩ := h.own.set hWv lost v
    refine ⟨O1.alike fun k => ?_, h.obj.kept G1 (by intro e; cases e; exact hW2 rfl), h.hx, h.ne, h.te, h.on, h.short, h.rows, h.watches, h.value, h.trail, h.row, h.watch⟩
    by_cases e : k = .watches
    · subst e
      rw [upd_same]
      have : (F .watches).xs.set lost v = (F .watches).xs := by
        apply List.ext_getElem?
        intro j
        rw [List.getElem?_set]
        by_cases e : lost = j
        · subst e
          rw [if_pos rfl, h.watches]
          simp [hlm, hv]
        · rw [if_neg e]
      rw [this]
    · rw [upd_other _ _ e]
  have HP0 := Lib.hid hP0
  have HSET := Lib.hid hset
  have hvc : (∃ g cap, (F (.watch lost)).v = .slice (some ⟨g, 0, none⟩) 0 cap) ∨ (F (.watch lost)).v = .slice none 0 0 := by
    rcases hown.2 with ⟨hv, _⟩ | ⟨g, cap, cur, hv, _⟩
    · exact .inr hv
    · exact .inl ⟨g, cap, hv⟩
  clear h G hFI hx0 hWv hW1 hW2 hW5 hh hd hP hD hon hN0 hown hP0 hset
  rcases hvc with ⟨g, cap, hvv⟩ | hvv
  · rw [hvv] at wl
    have HS1 := Lib.hid (HSET.out _ hvv)
    clear HSET hvv
    go_enter Try.func57, Try.ntmps57
    go_wp2
    go_loop [6, 21] (fun kv it => it = .int .i64 0 ∧ kv = .slice (some ⟨g, 0, none⟩) 0 cap) (fun _ _ => 0)
    case atStart => exact ⟨rfl, rfl⟩
    case round =>
      obtain ⟨rfl, rfl⟩ := hrel
      go_wp2
      go_ret
      exact HP0.out _ HS1.out ((Below.refl _ _).setCell hW3 _)
  · rw [hvv] at wl
    have HS1 := Lib.hid (HSET.out _ hvv)
    clear HSET hvv
    go_enter Try.func57, Try.ntmps57
    go_wp2
    go_loop [6, 21] (fun kv it => it = .int .i64 0 ∧ kv = .slice none 0 0) (fun _ _ => 0)
    case atStart => exact ⟨rfl, rfl⟩
    case round =>
      obtain ⟨rfl, rfl⟩ := hrel
      go_wp2
      go_ret
      exact HP0.out _ HS1.out ((Below.refl _ _).setCell hW3 _)

theorem follow_any (B bp : Nat) (lv va : Value) (first nv : Nat) (s : PS) (F : Ix → Ent) (w : World) (cls : Nat → List Int) (cl : List (List Int)) (fr : List Int) (head lost : Nat) (h : Mem w B bp lv va first nv s F) (G : PGood s cls) (hnv : Hid (nv = 40002)) (hlm : lost < s.m)
    (hh : head < s.trail.length) (hd : s.trail.getD head 0 = opp lost) (hP : PI s.n s.row s.on s.trail head) (hD : ∀ x, x ∈ s.trail → D cl fr x) (hon : ∀ i, i < s.n → s.on i = true → cls i ∈ cl) :
    Calls Try.prog 57 #[.pointer (some ⟨bp, 0, none⟩), .int .i64 lost] w (FollowP B bp lv first nv s cls cl fr head w) := by
  by_cases h0 : s.W lost = []
  · exact follow_none B bp lv va first nv s F w cls cl fr head lost h G hlm h0 hh hd hP hD hon
  · exact follow_some B bp lv va first nv s F w cls cl fr head lost h G hnv hlm (List.length_pos_iff.2 h0) hh hd hP hD hon
end Go.Proofs.Ytojjjndhabjhdaa.proofE
