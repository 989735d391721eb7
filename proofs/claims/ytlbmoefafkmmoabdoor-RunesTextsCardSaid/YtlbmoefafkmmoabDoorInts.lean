/-
  Contracts of haversacknum.Ints (a copy with marked room behind) and KeptInts.
-/
import Derived.Test.YtlbmoefafkmmoabDoorSameInts
import Derived.WalkSmall
import Derived.WalkSpells
namespace Go.Proofs.YtlbmoefafkmmoabDoor.ints
open Go.ChangeShapes Go.WideShapes Go.ChangeAt Go.RowKit sameInts

theorem infoI : (Tryd.prog.info? 3).map (fun i => (i.zero, i.size, i.bytes)) = some (some (.int .i64 0), 1, 8) := by kernel_rfl

theorem add_plain (b off j : Nat) : (⟨b, off, none⟩ : Addr).add j = ⟨b, off + j, none⟩ := by unfold Addr.add; split <;> simp_all

def iv (n : Int) : Value := .int .i64 n

/-- a slice of numbers that came in -/
def ArgI (w : World) (v : Value) (zs : List Int) : Prop :=
  ∃ ao cap, v = .slice ao zs.length cap ∧ zs.length ≤ maxLen ∧ (ao = none → zs.length = 0 ∧ cap = 0) ∧ ∀ i, i < zs.length → ∃ b off, ao = some ⟨b, off, none⟩ ∧ w.cell? ⟨b, off + i, none⟩ = some (iv (zs.getD i 0))

theorem ArgI.at {w : World} {v : Value} {zs : List Int} (h : ArgI w v zs) : IntsAt w v zs := by
  obtain ⟨ao, cap, rfl, hm, _, hc⟩ := h
  refine ⟨hm, ao, cap, rfl, ?_⟩
  by_cases hz : zs = []
  · exact Or.inl hz
  · obtain ⟨b, off, e, _⟩ := hc 0 (List.length_pos_iff.2 hz)
    refine Or.inr ⟨b, off, e, fun i hi => ?_⟩
    obtain ⟨b', off', e', h'⟩ := hc i hi
    rw [e] at e'
    injection e' with e'
    injection e' with e1 e2 e3
    subst e1 e2
    exact h'
theorem ArgI.below {w w' : World} {v : Value} {zs : List Int} (h : ArgI w v zs) (hb : Below w.heap.size w w') : ArgI w' v zs := by
  obtain ⟨ao, cap, rfl, hm, hn, hc⟩ := h
  refine ⟨ao, cap, rfl, hm, hn, fun i hi => ?_⟩
  obtain ⟨b, off, e, h'⟩ := hc i hi
  exact ⟨b, off, e, by rw [hb.cell (World.block_lt_of_cell? w _ h')]; exact h'⟩

def marks : List Int := [-91, -92, -93, -94]
/-- the copy, its room behind -/
def Marked (w : World) (B : Nat) (v : Value) (zs : List Int) : Prop :=
  ∃ g, v = .slice (some ⟨g, 0, none⟩) zs.length (zs.length + 4) ∧ w.ownsRow B 3 1 (.slice (some ⟨g, 0, none⟩) (zs.length + 4) (zs.length + 4)) (zs.length + 4) ((zs ++ marks).map iv)

theorem Marked.below {w w' : World} {B : Nat} {v : Value} {zs : List Int} (h : Marked w B v zs) (hb : Below w.heap.size w w') : Marked w' B v zs := by
  obtain ⟨g, rfl, ho⟩ := h
  refine ⟨g, rfl, World.ownsRow.kept ho (row := none) ⟨hb.os, hb.tape, hb.output, hb.size, fun k hk _ => hb.block k hk⟩ (Or.inr (by simp [Value.ownBlock]))⟩
theorem Marked.arg {w : World} {B : Nat} {v : Value} {zs : List Int} (h : Marked w B v zs) (hm : zs.length ≤ 1000) : ArgI w v zs := by
  obtain ⟨g, rfl, ho⟩ := h
  refine ⟨some ⟨g, 0, none⟩, _, rfl, by unfold maxLen; omega, (fun h => by cases h), fun i hi => ⟨g, 0, rfl, ?_⟩⟩
  rw [Nat.zero_add, World.ownsRow.cellAt ho i (by omega)]
  simp [hi, List.getD, List.getElem?_append_left]

theorem ints_any (v : Value) (zs : List Int) (w : World) (h : ArgI w v zs) (hm : zs.length ≤ 1000) :
    Calls Tryd.prog 5 #[v] w fun e w' => (∃ u, e = .returned u ∧ Marked w' w.heap.size u zs) ∧ Below w.heap.size w w' := by
  obtain ⟨i0, hi, hz0, hz1, hz2⟩ := info_parts infoI
  obtain ⟨ao, cap, rfl, hnone, hcell⟩ : ∃ ao cap, v = .slice ao zs.length cap ∧ (ao = none → zs.length = 0 ∧ cap = 0) ∧ (∀ ad, ao = some ad → ∀ j u, (zs.map iv)[j]? = some u → w.cell? (ad.add j) = some u) := by
    obtain ⟨ao, cap, rfl, _, hn, hc⟩ := h
    refine ⟨ao, cap, rfl, hn, ?_⟩
    intro ad0 ha j u hu
    have hj : j < zs.length := by
      have := (List.getElem?_eq_some_iff.1 hu).1; simpa using this
    obtain ⟨b, off, e, h'⟩ := hc j hj
    obtain rfl : ad0 = ⟨b, off, none⟩ := Option.some.inj (ha.symm.trans e)
    rw [add_plain, h']
    rw [← hu]; simp [hj, List.getD]
  have HC := Lib.hid hcell
  have HN := Lib.hid hnone
  clear hcell hnone h
  go_enter Tryd.func5, Tryd.ntmps5
  go_wp2_with (at_make; refine wpList_make_own _ rfl _ _ 22 rfl w.heap.size 3 i0 (.int .i64 0) 1 Tryd.underlying22 hi hz0 hz1 .i64 .i64 _ (zs.length + 4) rfl rfl ?c0 ?c1 ?c2 ?c3 ?_)
  case c0 => omega
  case c1 => rw [hz2]; omega
  case c2 => unfold maxLen; omega
  case c3 => omega
  intro w1 ho1 hg1
  have hb1 := (Below.refl w.heap.size w).grown hg1 (Nat.le_refl _) (by intro k hk; cases hk)
  have HB1 := Lib.hid hb1
  have hsz1 := hb1.size
  have HC1 : Hid (∀ ad, ao = some ad → ∀ j u, (zs.map iv)[j]? = some u → w1.cell? (ad.add j) = some u) := Lib.hid (fun ad ha j u hu => by
    have hcw := HC.out ad ha j u hu
    rw [hb1.cell (World.block_lt_of_cell? w _ hcw)]; exact hcw)
  clear hb1
  go_wp2_with (at_builtin; refine wpList_append_fits_any _ rfl _ _ 22 rfl w.heap.size 3 i0 1 Tryd.underlying22 hi hz1 w.heap.size 0 (zs.length + 4) [] rfl ho1 ao zs.length cap (zs.map iv) rfl ?d1 HN.out HC1.out ?d2 ?d3 ?_)
  case d1 => simp
  case d2 => intro u hu; obtain ⟨x, _, rfl⟩ := List.mem_map.1 hu; rfl
  case d3 => omega
  intro w2 ho2 hg2
  (try simp only [Nat.zero_add, List.nil_append] at ho2)
  have HB2 := Lib.hid (HB1.out.grown hg2 hsz1 (by rintro k ⟨rfl⟩; exact Nat.le_refl _))
  have hsz2 := HB2.out.size
  clear hg2
  go_wp2_with (at_builtin; refine wpList_append_fits _ rfl _ _ 22 rfl w.heap.size 3 i0 1 Tryd.underlying22 hi hz1 w.heap.size zs.length (zs.length + 4) (zs.map iv) ?e0 (World.ownsRow.alloc ho2 _) ⟨w2.heap.size, 0, none⟩ 4 4 (marks.map iv) rfl ?e1 ?e2 ?e3 ?e4 ?_)
  case e0 => rfl
  case e1 => rfl
  case e2 =>
    intro j u hu
    rw [add_plain, Nat.zero_add, World.cell?_alloc_mark]
    rw [← hu]
    simp [marks, iv]
  case e3 => intro u hu; obtain ⟨x, _, rfl⟩ := List.mem_map.1 hu; rfl
  case e4 => omega
  intro w3 ho3 hg3
  have HB3 := Lib.hid ((HB2.out.alloc hsz2 _).grown hg3 (by simp; omega) (by rintro k ⟨rfl⟩; exact Nat.le_refl _))
  have HO3 := Lib.hid ho3
  clear ho2 ho3 hg3
  go_wp2
  go_ret
  exact ⟨⟨_, rfl, w.heap.size, rfl, by rw [List.map_append]; exact HO3.out⟩, HB3.out⟩

theorem mark_at (zs : List Int) (k : Nat) (h : k < 4) : ((zs ++ marks).map iv)[zs.length + k]? = some (iv (-91 - (k : Int))) := by
  rw [List.map_append, List.getElem?_append_right (by simp)]
  simp only [List.length_map, Nat.add_sub_cancel_left]
  rcases (show k = 0 ∨ k = 1 ∨ k = 2 ∨ k = 3 by omega) with rfl | rfl | rfl | rfl <;> rfl

theorem kept_any (u v : Value) (zs : List Int) (w : World) (B : Nat) (h : Marked w B u zs) (h2 : ArgI w v zs) (hm : zs.length ≤ 1000) :
    Calls Tryd.prog 12 #[u, v] w fun e w' => e = .returned (.bool true) ∧ ∃ n, w' = w.drewN n := by
  have hat := h2.at
  obtain ⟨a2, c2, hv⟩ : ∃ a2 c2, v = .slice a2 zs.length c2 := by
    obtain ⟨_, a, c, e, _⟩ := hat; exact ⟨a, c, e⟩
  have hat1 := (h.arg hm).at
  obtain ⟨g, rfl, ho⟩ := h
  have hc : ∀ k, k < 4 → w.cell? ⟨g, zs.length + k, none⟩ = some (iv (-91 - (k : Int))) := fun k hk => by
    rw [World.ownsRow.cellAt ho (zs.length + k) (by omega)]; exact mark_at zs k hk
  have HC := Lib.hid hc
  have H1 := Lib.hid hat1
  have H2 := Lib.hid hat
  rw [hv] at H2
  subst hv
  clear hat hat1 hc h2 ho
  generalize hl : zs.length = len at *
  have HS : Hid (∀ c, Calls Tryd.prog 11 #[.slice (some ⟨g, 0, none⟩) len c, .slice a2 len c2] w fun e w' => e = .returned (.bool true) ∧ ∃ n, w' = w.drewN n) := Lib.hid (fun c => by
    have e := same_any w (.slice (some ⟨g, 0, none⟩) len c) (.slice a2 len c2) zs zs (by
      obtain ⟨q1, a, cc, e, q2⟩ := H1.out
      refine ⟨q1, some ⟨g, 0, none⟩, c, by rw [hl], ?_⟩
      rcases q2 with q2 | ⟨b, off, rfl, q2⟩
      · exact Or.inl q2
      · injection e with e1 e2 e3
        injection e1 with e1
        injection e1 with e4 e5 e6
        subst e4 e5
        exact Or.inr ⟨_, _, rfl, q2⟩) H2.out
    rw [beq_self_eq_true] at e; exact e)
  clear H1 H2 hl
  have q0 : ¬ (len : Int) + 4 < (len : Int) + 4 := by omega
  go_enter Tryd.func12, Tryd.ntmps12
  go_wp2_with (go_at_call 11; refine (HS.out _).mono ?_; rintro e w' ⟨rfl, n1, rfl⟩)
  go_loop [6] (fun z => ∃ k : Nat, k ≤ 4 ∧ z = .int .i64 k) (fun z => 4 - (intOf z).toNat)
  case atStart => exact ⟨0, Nat.zero_le _, rfl⟩
  case round =>
    obtain ⟨k, hk, rfl⟩ := hrel
    by_cases hlt : k < 4
    · have hck := HC.out k hlt
      unfold iv at hck
      go_wp2
      go_round
      case rel => exact ⟨k + 1, by omega, by go_num⟩
      case measure => simp [intOf]; omega
    · go_wp2
      go_ret
      exact ⟨rfl, _, rfl⟩

end Go.Proofs.YtlbmoefafkmmoabDoor.ints
