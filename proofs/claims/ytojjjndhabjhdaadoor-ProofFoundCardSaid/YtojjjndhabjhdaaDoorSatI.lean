/-
  Contract of (*search).watch.
-/
import Derived.Test.YtojjjndhabjhdaaDoorSatH
namespace Go.Proofs.YtojjjndhabjhdaaDoor.satI
set_option linter.unusedSimpArgs false
set_option linter.unusedVariables false
open Go.ChangeShapes Go.WideShapes Go.ChangeAt Go.RowKit proofP proofQ owns satP satA satF satB satC satD satE satG satH
attribute [local go_sem ↓] Go.wp_at_zero Go.wp_at_succ

theorem infoR : (Tryd.prog.info? 73).map (fun i => (i.zero, i.size, i.bytes)) = some (some (.pointer none), 1, 8) := by kernel_rfl
section
variable {w w' : World} {B bp : Nat} {s : SS} {F : Ix → Ent}
def _root_.Go.Proofs.YtojjjndhabjhdaaDoor.satA.SS.wt (s : SS) (W : Nat → List Nat) : SS := { s with W := W }
theorem _root_.Go.Proofs.YtojjjndhabjhdaaDoor.satA.Mem.appW (h : Mem w B bp s F) {w1 w2 : World} {n g' cap' gW capW c i : Nat} (hn : (s.W c).length = n) (hcm : c < 2 * s.V + 2) (hWv : (F .watches).v = .slice (some ⟨gW, 0, none⟩) (2 * s.V + 2) capW) (hBW : B ≤ gW) (hb : Below w.heap.size w w1) (hown : w2.ownsRow B 73 1 (.slice (some ⟨g', 0, none⟩) (n + 1) cap') (n + 1) (cont s (fvs F) (.watch c) ++ [pv s.rp i])) (hgrow : w1.grownBy w2 (F (.watch c)).v.ownBlock) (hg1 : some g' = (F (.watch c)).v.ownBlock ∨ w1.heap.size ≤ g') :
    ∃ F', Mem (w2.setCell ⟨gW, c, none⟩ (.slice (some ⟨g', 0, none⟩) (n + 1) cap')) B bp (s.wt (updN s.W c (s.W c ++ [i]))) F' ∧ (∀ k, k ≠ .watch c → (F' k).v = (F k).v) ∧ Below B w (w2.setCell ⟨gW, c, none⟩ (.slice (some ⟨g', 0, none⟩) (n + 1) cap')) := by
  have hBw : B ≤ w.heap.size := Nat.le_trans h.hB (Nat.le_of_lt h.obj.lt)
  have hx : (cont s (fvs F) (.watch c) ++ [pv s.rp i]).length = n + 1 := by simp [cont, hn]
  obtain ⟨F', M, K, _⟩ := (h.below hb).putW (c := c) (xs' := cont s (fvs F) (.watch c) ++ [pv s.rp i]) hcm hWv hgrow (by rw [hx]; exact hown) (hg1.elim (fun e => .inl (show (Value.slice (some ⟨g', 0, none⟩) (n + 1) cap').ownBlock = _ from e)) (fun e => .inr (.inr ⟨g', rfl, e⟩))) (l := s.W c ++ [i]) (by simp [cont])
  exact ⟨F', M, K, (((hb.mono hBw).grown hgrow (by have := hb.size; omega) (fun j hj => ((h.own.1 (.watch c)).lt j hj).1))).setCell hBW _⟩

def WatP (B bp : Nat) (s : SS) (F : Ix → Ent) (i : Nat) (w w' : World) : Prop := ∃ F', Mem w' B bp (s.wt (satS.watched s.W i (s.row i))) F' ∧ (∀ k, (∀ c, k ≠ .watch c) → (F' k).v = (F k).v) ∧ Below B w w'
set_option maxHeartbeats 4000000 in
set_option maxRecDepth 100000 in
theorem watch_any (h : Mem w B bp s F) (hV : s.V ≤ 20000) (i : Nat) (hi : i < s.n) (h2 : 2 ≤ (s.row i).length) (hc0 : (s.row i).getD 0 0 < 2 * s.V + 2) (hc1 : (s.row i).getD 1 0 < 2 * s.V + 2) (hne : (s.row i).getD 0 0 ≠ (s.row i).getD 1 0) (hW : ∀ c, (s.W c).length ≤ 1000000000) :
    Calls Tryd.prog 30 #[.pointer (some ⟨bp, 0, none⟩), pv s.rp i] w fun e w' => e = .returned (.tuple #[]) ∧ WatP B bp s F i w w' := by
  generalize hc0e : (s.row i).getD 0 0 = c0 at *
  generalize hc1e : (s.row i).getD 1 0 = c1 at *
  have HC : Hid (satS.watched s.W i (s.row i) = updN (updN s.W c0 (s.W c0 ++ [i])) c1 ((updN s.W c0 (s.W c0 ++ [i])) c1 ++ [i])) := Lib.hid (by unfold satS.watched; rw [hc0e, hc1e, updN_other _ _ (fun e => hne e.symm)])
  have hWl0 := hW c0
  have hWl1 : ((s.wt (updN s.W c0 (s.W c0 ++ [i]))).W c1).length ≤ 1000000000 := by
    show ((updN s.W c0 (s.W c0 ++ [i])) c1).length ≤ _
    rw [updN_other _ _ (fun e => hne e.symm)]; exact hW c1
  have HX := Lib.hid (show hi = hi ∧ pv s.rp i = .pointer (some ⟨s.rp i, 0, none⟩) from ⟨rfl, rfl⟩)
  rw [HX.out.2]
  clear HX hW
  obtain ⟨gW, cW, hWv, qW, zW, nW, bW, lW, rW, kW, _⟩ := h.at .watches (n := 2 * s.V + 2) (by simp [cont, SS.wt]) (by omega)
  obtain ⟨gK, cK, hKv, qK, zK, nK, bK, lK, rK, kK, _⟩ := h.at (.row i) (n := (s.row i).length) (by simp [cont, SS.wt]) (by omega)
  have f6 : w.cell? ⟨bp, 6, none⟩ = some (F .watches).v := h.fld 6
  obtain ⟨r0, _, _, lR, _⟩ := h.obji hi
  rw [hWv] at f6
  rw [hKv] at r0
  have q0 := qK 0 (by omega)
  rw [show cont s (fvs F) (.row i) = (s.row i).map iv from rfl, getD_iv (by omega), hc0e] at q0
  have p0 := qW c0 hc0
  rw [show cont s (fvs F) .watches = (List.range (2 * s.V + 2)).map fun c => fvs F (.watch c) from rfl, range_at hc0] at p0
  have z0 := zW c0
  have hbl := h.obj.lt
  have hB := h.hB
  have HO := Lib.hid (h.ownAt (.watch c0) rfl)
  have hxl : (cont s (fvs F) (.watch c0)).length = (s.W c0).length := by simp [cont]
  have hwl : (s.W c0).length ≤ 1000000000 := hWl0
  have hgb := h.ne (.watch c0)
  have hgW : (F (.watch c0)).v.ownBlock ≠ some gW := fun e => by have := h.own.2 (.watch c0) .watches gW e (by rw [hWv]; rfl); cases this
  have hgK : (F (.watch c0)).v.ownBlock ≠ some gK := fun e => by have := h.own.2 (.watch c0) (.row i) gK e (by rw [hKv]; rfl); cases this
  have hgR : (F (.watch c0)).v.ownBlock ≠ some (s.rp i) := (h.rb i hi).2.2 (.watch c0)
  have nWR := rW i hi
  have nKR := rK i hi
  have nWK := h.two (by simp) hWv hKv
  have HM := Lib.hid h
  have HWv := Lib.hid hWv
  have HKv := Lib.hid hKv
  have HI := Lib.hid hi
  change w.cell? ⟨s.rp i, 0, none⟩ = _ at r0
  change s.rp i < _ at lR
  change gW ≠ s.rp i at nWR
  change gK ≠ s.rp i at nKR
  unfold fvs at p0
  generalize hsv : (F (.watch c0)).v = sv at *
  have HSV := Lib.hid hsv
  generalize hrp : s.rp i = ri at *
  have HRP := Lib.hid hrp
  have HPV : Hid (pv s.rp i = .pointer (some ⟨ri, 0, none⟩)) := Lib.hid (by show pv s.rp i = _; unfold pv; rw [hrp])
  clear h hWv hKv qW zW qK zK hsv hrp rW rK
  obtain ⟨i0, hi0, hz0, hz1, hz2⟩ := info_parts infoR
  have hA : Below w.heap.size w (w.alloc (.cells #[.pointer (some ⟨ri, 0, none⟩)] 73)).drew := ((Below.refl _ _).alloc (Nat.le_refl _) _).drew
  have ma6 : ((w.alloc (.cells #[.pointer (some ⟨ri, 0, none⟩)] 73)).drew).cell? ⟨bp, 6, none⟩ = some (.slice (some ⟨gW, 0, none⟩) (2 * s.V + 2) cW) := (hA.cell hbl).trans f6
  have mar : ((w.alloc (.cells #[.pointer (some ⟨ri, 0, none⟩)] 73)).drew).cell? ⟨ri, 0, none⟩ = some (.slice (some ⟨gK, 0, none⟩) (s.row i).length cK) := (hA.cell lR).trans r0
  have maq : ((w.alloc (.cells #[.pointer (some ⟨ri, 0, none⟩)] 73)).drew).cell? ⟨gK, 0, none⟩ = some (.int .i64 c0) := (hA.cell lK).trans q0
  have map : ((w.alloc (.cells #[.pointer (some ⟨ri, 0, none⟩)] 73)).drew).cell? ⟨gW, c0, none⟩ = some sv := (hA.cell lW).trans p0
  have maz : ((w.alloc (.cells #[.pointer (some ⟨ri, 0, none⟩)] 73)).drew).frozen? ⟨gW, c0, none⟩ = false := (hA.frozen lW).trans z0
  have HA := Lib.hid hA
  clear hA
  have hL0n : 0 < (s.row i).length := by omega
  have hL0 : (0 : Int) < ((s.row i).length : Int) := by omega
  have hV0 : (c0 : Int) < 2 * (s.V : Int) + 2 := by omega
  go_enter Tryd.func30, Tryd.ntmps30
  go_wp2_with fail
  refine held.region (fun w' => w'.cell? ⟨bp, 6, none⟩ = some (.slice (some ⟨gW, 0, none⟩) (2 * s.V + 2) cW) ∧ w'.cell? ⟨ri, 0, none⟩ = some (.slice (some ⟨gK, 0, none⟩) (s.row i).length cK) ∧ w'.cell? ⟨gK, 0, none⟩ = some (.int .i64 c0) ∧ w'.cell? ⟨gW, c0, none⟩ = some sv) 26 (by kernel_rfl) ?_
  have hS : w.drew.cell? ⟨bp, 6, none⟩ = some (.slice (some ⟨gW, 0, none⟩) (2 * s.V + 2) cW) ∧ w.drew.cell? ⟨ri, 0, none⟩ = some (.slice (some ⟨gK, 0, none⟩) (s.row i).length cK) ∧ w.drew.cell? ⟨gK, 0, none⟩ = some (.int .i64 c0) ∧ w.drew.cell? ⟨gW, c0, none⟩ = some sv := ⟨f6, r0, q0, p0⟩
  refine held.wpLeft.take (i := 0) (v := ?_) rfl (by kernel_rfl) (by kernel_rfl) (by kernel_rfl) (by kernel_rfl) (by kernel_rfl) (fun _ _ _ h => h) (by rfl) ?_ hS ?_
  rotate_left
  · (intro w hSw; obtain ⟨s1, s2, s3, s4⟩ := hSw; go_simp; try with_reducible rfl)
  simp only [Act.put, List.setIfInBounds_toArray, List.set_cons_zero, List.set_cons_succ]
  refine held.wpLeft.take (i := 1) (v := ?_) rfl (by kernel_rfl) (by kernel_rfl) (by kernel_rfl) (by kernel_rfl) (by kernel_rfl) (fun _ _ _ h => h) (by rfl) ?_ hS ?_
  rotate_left
  · (intro w hSw; obtain ⟨s1, s2, s3, s4⟩ := hSw; go_simp; try with_reducible rfl)
  simp only [Act.put, List.setIfInBounds_toArray, List.set_cons_zero, List.set_cons_succ]
  refine held.wpLeft.take (i := 2) (v := ?_) rfl (by kernel_rfl) (by kernel_rfl) (by kernel_rfl) (by kernel_rfl) (by kernel_rfl) (fun _ _ _ h => h) (by rfl) ?_ hS ?_
  rotate_left
  · (intro w hSw; obtain ⟨s1, s2, s3, s4⟩ := hSw; go_simp; try with_reducible rfl)
  simp only [Act.put, List.setIfInBounds_toArray, List.set_cons_zero, List.set_cons_succ]
  refine held.wpLeft.take (i := 3) (v := ?_) rfl (by kernel_rfl) (by kernel_rfl) (by kernel_rfl) (by kernel_rfl) (by kernel_rfl) (fun _ _ _ h => h) (by rfl) ?_ hS ?_
  rotate_left
  · (intro w hSw; obtain ⟨s1, s2, s3, s4⟩ := hSw; go_simp; try with_reducible rfl)
  simp only [Act.put, List.setIfInBounds_toArray, List.set_cons_zero, List.set_cons_succ]
  refine held.wpLeft.take (i := 4) (v := ?_) rfl (by kernel_rfl) (by kernel_rfl) (by kernel_rfl) (by kernel_rfl) (by kernel_rfl) (fun _ _ _ h => h) (by rfl) ?_ hS ?_
  rotate_left
  · (intro w hSw; obtain ⟨s1, s2, s3, s4⟩ := hSw; go_simp; try with_reducible rfl)
  simp only [Act.put, List.setIfInBounds_toArray, List.set_cons_zero, List.set_cons_succ]
  refine held.wpLeft.take (i := 5) (v := ?_) rfl (by kernel_rfl) (by kernel_rfl) (by kernel_rfl) (by kernel_rfl) (by kernel_rfl) (fun _ _ _ h => h) (by rfl) ?_ hS ?_
  rotate_left
  · (intro w hSw; obtain ⟨s1, s2, s3, s4⟩ := hSw; go_simp; try with_reducible rfl)
  simp only [Act.put, List.setIfInBounds_toArray, List.set_cons_zero, List.set_cons_succ]
  refine held.wpLeft.take (i := 6) (v := ?_) rfl (by kernel_rfl) (by kernel_rfl) (by kernel_rfl) (by kernel_rfl) (by kernel_rfl) (fun _ _ _ h => h) (by rfl) ?_ hS ?_
  rotate_left
  · (intro w hSw; obtain ⟨s1, s2, s3, s4⟩ := hSw; go_simp; try with_reducible rfl)
  simp only [Act.put, List.setIfInBounds_toArray, List.set_cons_zero, List.set_cons_succ]
  refine held.wpLeft.take (i := 7) (v := ?_) rfl (by kernel_rfl) (by kernel_rfl) (by kernel_rfl) (by kernel_rfl) (by kernel_rfl) (fun _ _ _ h => h) (by rfl) ?_ hS ?_
  rotate_left
  · (intro w hSw; obtain ⟨s1, s2, s3, s4⟩ := hSw; go_simp; try with_reducible rfl)
  simp only [Act.put, List.setIfInBounds_toArray, List.set_cons_zero, List.set_cons_succ]
  refine held.wpLeft.take (i := 8) (v := ?_) rfl (by kernel_rfl) (by kernel_rfl) (by kernel_rfl) (by kernel_rfl) (by kernel_rfl) (fun _ _ _ h => h) (by rfl) ?_ hS ?_
  rotate_left
  · (intro w hSw; obtain ⟨s1, s2, s3, s4⟩ := hSw; go_simp; try with_reducible rfl)
  simp only [Act.put, List.setIfInBounds_toArray, List.set_cons_zero, List.set_cons_succ]
  refine held.wpLeft.take (i := 9) (v := ?_) rfl (by kernel_rfl) (by kernel_rfl) (by kernel_rfl) (by kernel_rfl) (by kernel_rfl) (fun _ _ _ h => h) (by rfl) ?_ hS ?_
  rotate_left
  · (intro w hSw; obtain ⟨s1, s2, s3, s4⟩ := hSw; go_simp; try with_reducible rfl)
  simp only [Act.put, List.setIfInBounds_toArray, List.set_cons_zero, List.set_cons_succ]
  refine held.wpLeft.take (i := 10) (v := ?_) rfl (by kernel_rfl) (by kernel_rfl) (by kernel_rfl) (by kernel_rfl) (by kernel_rfl) (fun _ _ _ h => h) (by rfl) ?_ hS ?_
  rotate_left
  · (intro w hSw; obtain ⟨s1, s2, s3, s4⟩ := hSw; go_simp; try with_reducible rfl)
  simp only [Act.put, List.setIfInBounds_toArray, List.set_cons_zero, List.set_cons_succ]
  refine held.wpLeft.take (i := 11) (v := ?_) rfl (by kernel_rfl) (by kernel_rfl) (by kernel_rfl) (by kernel_rfl) (by kernel_rfl) (fun _ _ _ h => h) (by rfl) ?_ hS ?_
  rotate_left
  · (intro w hSw; obtain ⟨s1, s2, s3, s4⟩ := hSw; go_simp; try with_reducible rfl)
  simp only [Act.put, List.setIfInBounds_toArray, List.set_cons_zero, List.set_cons_succ]
  refine held.wpLeft.take (i := 12) (v := ?_) rfl (by kernel_rfl) (by kernel_rfl) (by kernel_rfl) (by kernel_rfl) (by kernel_rfl) (fun _ _ _ h => h) (by rfl) ?_ hS ?_
  rotate_left
  · (intro w hSw; obtain ⟨s1, s2, s3, s4⟩ := hSw; go_simp; try with_reducible rfl)
  simp only [Act.put, List.setIfInBounds_toArray, List.set_cons_zero, List.set_cons_succ]
  refine held.wpLeft.take (i := 13) (v := ?_) rfl (by kernel_rfl) (by kernel_rfl) (by kernel_rfl) (by kernel_rfl) (by kernel_rfl) (fun _ _ _ h => h) (by rfl) ?_ hS ?_
  rotate_left
  · (intro w hSw; obtain ⟨s1, s2, s3, s4⟩ := hSw; go_simp; try with_reducible rfl)
  simp only [Act.put, List.setIfInBounds_toArray, List.set_cons_zero, List.set_cons_succ]
  refine held.wpLeft.take (i := 14) (v := ?_) rfl (by kernel_rfl) (by kernel_rfl) (by kernel_rfl) (by kernel_rfl) (by kernel_rfl) (fun _ _ _ h => h) (by rfl) ?_ hS ?_
  rotate_left
  · (intro w hSw; obtain ⟨s1, s2, s3, s4⟩ := hSw; go_simp; try with_reducible rfl)
  simp only [Act.put, List.setIfInBounds_toArray, List.set_cons_zero, List.set_cons_succ]
  refine held.wpLeft.take (i := 15) (v := ?_) rfl (by kernel_rfl) (by kernel_rfl) (by kernel_rfl) (by kernel_rfl) (by kernel_rfl) (fun _ _ _ h => h) (by rfl) ?_ hS ?_
  rotate_left
  · (intro w hSw; obtain ⟨s1, s2, s3, s4⟩ := hSw; go_simp; try with_reducible rfl)
  simp only [Act.put, List.setIfInBounds_toArray, List.set_cons_zero, List.set_cons_succ]
  refine held.wpLeft.take (i := 16) (v := ?_) rfl (by kernel_rfl) (by kernel_rfl) (by kernel_rfl) (by kernel_rfl) (by kernel_rfl) (fun _ _ _ h => h) (by rfl) ?_ hS ?_
  rotate_left
  · (intro w hSw; obtain ⟨s1, s2, s3, s4⟩ := hSw; go_simp; try with_reducible rfl)
  simp only [Act.put, List.setIfInBounds_toArray, List.set_cons_zero, List.set_cons_succ]
  refine held.wpLeft.take (i := 17) (v := ?_) rfl (by kernel_rfl) (by kernel_rfl) (by kernel_rfl) (by kernel_rfl) (by kernel_rfl) (fun _ _ _ h => h) (by rfl) ?_ hS ?_
  rotate_left
  · (intro w hSw; obtain ⟨s1, s2, s3, s4⟩ := hSw; go_simp; try with_reducible rfl)
  simp only [Act.put, List.setIfInBounds_toArray, List.set_cons_zero, List.set_cons_succ]
  refine held.wpLeft.take (i := 18) (v := ?_) rfl (by kernel_rfl) (by kernel_rfl) (by kernel_rfl) (by kernel_rfl) (by kernel_rfl) (fun _ _ _ h => h) (by rfl) ?_ hS ?_
  rotate_left
  · (intro w hSw; obtain ⟨s1, s2, s3, s4⟩ := hSw; go_simp; try with_reducible rfl)
  simp only [Act.put, List.setIfInBounds_toArray, List.set_cons_zero, List.set_cons_succ]
  refine held.wpLeft.take (i := 19) (v := ?_) rfl (by kernel_rfl) (by kernel_rfl) (by kernel_rfl) (by kernel_rfl) (by kernel_rfl) (fun _ _ _ h => h) (by rfl) ?_ hS ?_
  rotate_left
  · (intro w hSw; obtain ⟨s1, s2, s3, s4⟩ := hSw; go_simp; try with_reducible rfl)
  simp only [Act.put, List.setIfInBounds_toArray, List.set_cons_zero, List.set_cons_succ]
  refine held.wpLeft.take (i := 20) (v := ?_) rfl (by kernel_rfl) (by kernel_rfl) (by kernel_rfl) (by kernel_rfl) (by kernel_rfl) (fun _ _ _ h => h) (by rfl) ?_ hS ?_
  rotate_left
  · (intro w hSw; obtain ⟨s1, s2, s3, s4⟩ := hSw; go_simp; try with_reducible rfl)
  simp only [Act.put, List.setIfInBounds_toArray, List.set_cons_zero, List.set_cons_succ]
  refine held.wpLeft.take (i := 21) (v := ?_) rfl (by kernel_rfl) (by kernel_rfl) (by kernel_rfl) (by kernel_rfl) (by kernel_rfl) (fun _ _ _ h => h) (by rfl) ?_ hS ?_
  rotate_left
  · (intro w hSw; obtain ⟨s1, s2, s3, s4⟩ := hSw; go_simp; try with_reducible rfl)
  simp only [Act.put, List.setIfInBounds_toArray, List.set_cons_zero, List.set_cons_succ]
  refine held.wpLeft.take (i := 22) (v := ?_) rfl (by kernel_rfl) (by kernel_rfl) (by kernel_rfl) (by kernel_rfl) (by kernel_rfl) (fun _ _ _ h => h) (by rfl) ?_ hS ?_
  rotate_left
  · (intro w hSw; obtain ⟨s1, s2, s3, s4⟩ := hSw; go_simp; try with_reducible rfl)
  simp only [Act.put, List.setIfInBounds_toArray, List.set_cons_zero, List.set_cons_succ]
  refine held.wpLeft.one (i := 23) (by kernel_rfl) rfl (fun K hK => ?_)
  go_simp
  refine hK.out _ _ (fun _ => ⟨ma6, mar, maq, map⟩) ?_
  clear hK K
  refine held.wpLeft.one (i := 24) (by kernel_rfl) rfl (fun K2 hK2 => ?_)
  refine step_append_lies _ (by rfl) _ _ _ (by rfl) B 73 i0 _ 1 8 Tryd.underlying48 hi0 hz0 hz1 hz2 rfl (by omega) sv (s.W c0).length (cont s (fvs F) (.watch c0)) (by rfl) (by have := (HO.out.alloc (.cells #[.pointer (some ⟨ri, 0, none⟩)] 73)).drew; rw [hxl] at this; exact this) ⟨w.heap.size, 0, none⟩ 1 1 [.pointer (some ⟨ri, 0, none⟩)] (by rfl) (by rfl) (World.news_of_block (cs := #[.pointer (some ⟨ri, 0, none⟩)]) (t := 73) (fr := (0, 0)) (heap_alloc_new w _)) (by simp [Value.oneCell']) (by omega) (by unfold maxLen; omega) (by omega) (by simp; omega) (w.heap.size + 1) (by simp) ?_
  intro gg cap w1 hown1 hgrow hat hlt1
  have m6 : w1.cell? ⟨bp, 6, none⟩ = some (.slice (some ⟨gW, 0, none⟩) (2 * s.V + 2) cW) := hgrow.cell ma6 (fun e => hgb e.symm)
  have mr : w1.cell? ⟨ri, 0, none⟩ = some (.slice (some ⟨gK, 0, none⟩) (s.row i).length cK) := hgrow.cell mar (fun e => hgR e.symm)
  have mq : w1.cell? ⟨gK, 0, none⟩ = some (.int .i64 c0) := hgrow.cell maq (fun e => hgK e.symm)
  have mp : w1.cell? ⟨gW, c0, none⟩ = some sv := hgrow.cell map (fun e => hgW e.symm)
  have zw : w1.frozen? ⟨gW, c0, none⟩ = false := (World.frozen?_of_block (hgrow.block gW (by simp; omega) (fun e => hgW e.symm))).trans maz
  obtain ⟨F3, M3, K3, B3⟩ := HM.out.appW (c := c0) (i := i) rfl hc0 HWv.out bW HA.out (by rw [HPV.out]; exact hown1) (by rw [HSV.out]; exact hgrow) (by
    rw [HSV.out]
    rcases hat with hat | hat
    · exact .inl hat.symm
    · exact .inr (by rw [hat]; simp))
  refine hK2.out _ _ (fun _ => ⟨m6, mr, mq, mp⟩) ?_
  clear hK2 K2 hown1 hgrow hat hlt1
  refine held.wpLeft.one (i := 25) (by kernel_rfl) rfl (fun K3 hK3 => ?_)
  go_simp
  refine hK3.out _ _ (fun _ => ⟨m6, mr, mq, mp⟩) ?_
  clear hK3 K3
  refine held.wpLeft.one (i := 26) (by kernel_rfl) rfl (fun K3 hK3 => ?_)
  go_simp
  refine hK3.out _ _ (fun h => absurd rfl h) ?_
  clear hK3 K3
  refine held.wpLeft.done (by kernel_rfl) ?_
  have hM := M3
  have HK3 := Lib.hid K3
  have HB3 := Lib.hid B3
  clear M3 K3 B3 m6 mr mq mp zw ma6 mar maq map maz f6 r0 q0 p0 z0 hS HM HWv HKv HO HA HSV HPV hgb hgW hgK hgR hxl hwl nW bW lW kW nK bK lK kK nWR nKR nWK hL0n hL0 hV0 hbl hi0 hz0 hz1 hz2
  have HR0 := HRP.out
  generalize World.setCell w1 ⟨gW, c0, none⟩ (.slice (some ⟨gg, 0, none⟩) ((s.W c0).length + 1) cap) = w2 at *

  subst HR0
  clear HRP
  obtain ⟨gW, cW, hWv, qW, zW, nW, bW, lW, rW, kW, _⟩ := hM.at .watches (n := 2 * s.V + 2) (by simp [cont, SS.wt]) (by omega)
  obtain ⟨gK, cK, hKv, qK, zK, nK, bK, lK, rK, kK, _⟩ := hM.at (.row i) (n := (s.row i).length) (by simp [cont, SS.wt]) (by omega)
  have f6 : w2.cell? ⟨bp, 6, none⟩ = some (F3 .watches).v := hM.fld 6
  obtain ⟨r0, _, _, lR, _⟩ := hM.obji hi
  rw [hWv] at f6
  rw [hKv] at r0
  have q0 := qK 1 (by omega)
  rw [show cont (s.wt (updN s.W c0 (s.W c0 ++ [i]))) (fvs F3) (.row i) = (s.row i).map iv from rfl, getD_iv (by omega), hc1e] at q0
  have p0 := qW c1 hc1
  rw [show cont (s.wt (updN s.W c0 (s.W c0 ++ [i]))) (fvs F3) .watches = (List.range (2 * s.V + 2)).map fun c => fvs F3 (.watch c) from rfl, range_at hc1] at p0
  have z0 := zW c1
  have hbl := hM.obj.lt
  have hB := hM.hB
  have HO := Lib.hid (hM.ownAt (.watch c1) rfl)
  have hxl : (cont (s.wt (updN s.W c0 (s.W c0 ++ [i]))) (fvs F3) (.watch c1)).length = ((s.wt (updN s.W c0 (s.W c0 ++ [i]))).W c1).length := by simp [cont]
  have hwl : ((s.wt (updN s.W c0 (s.W c0 ++ [i]))).W c1).length ≤ 1000000000 := hWl1
  have hgb := hM.ne (.watch c1)
  have hgW : (F3 (.watch c1)).v.ownBlock ≠ some gW := fun e => by have := hM.own.2 (.watch c1) .watches gW e (by rw [hWv]; rfl); cases this
  have hgK : (F3 (.watch c1)).v.ownBlock ≠ some gK := fun e => by have := hM.own.2 (.watch c1) (.row i) gK e (by rw [hKv]; rfl); cases this
  have hgR : (F3 (.watch c1)).v.ownBlock ≠ some (s.rp i) := (hM.rb i hi).2.2 (.watch c1)
  have nWR := rW i hi
  have nKR := rK i hi
  have nWK := hM.two (by simp) hWv hKv
  have HM := Lib.hid hM
  have HWv := Lib.hid hWv
  have HKv := Lib.hid hKv
  have HI := Lib.hid hi
  change w2.cell? ⟨s.rp i, 0, none⟩ = _ at r0
  change s.rp i < _ at lR
  change gW ≠ s.rp i at nWR
  change gK ≠ s.rp i at nKR
  unfold fvs at p0
  generalize hsv : (F3 (.watch c1)).v = sv at *
  have HSV := Lib.hid hsv
  generalize hrp : s.rp i = ri at *
  have HRP := Lib.hid hrp
  have HPV : Hid (pv (s.wt (updN s.W c0 (s.W c0 ++ [i]))).rp i = .pointer (some ⟨ri, 0, none⟩)) := Lib.hid (by show pv s.rp i = _; unfold pv; rw [hrp])
  clear hM hWv hKv qW zW qK zK hsv hrp rW rK
  obtain ⟨i0, hi0, hz0, hz1, hz2⟩ := info_parts infoR
  have hA : Below w2.heap.size w2 (w2.alloc (.cells #[.pointer (some ⟨ri, 0, none⟩)] 73)).drew := ((Below.refl _ _).alloc (Nat.le_refl _) _).drew
  have ma6 : ((w2.alloc (.cells #[.pointer (some ⟨ri, 0, none⟩)] 73)).drew).cell? ⟨bp, 6, none⟩ = some (.slice (some ⟨gW, 0, none⟩) (2 * s.V + 2) cW) := (hA.cell hbl).trans f6
  have mar : ((w2.alloc (.cells #[.pointer (some ⟨ri, 0, none⟩)] 73)).drew).cell? ⟨ri, 0, none⟩ = some (.slice (some ⟨gK, 0, none⟩) (s.row i).length cK) := (hA.cell lR).trans r0
  have maq : ((w2.alloc (.cells #[.pointer (some ⟨ri, 0, none⟩)] 73)).drew).cell? ⟨gK, 1, none⟩ = some (.int .i64 c1) := (hA.cell lK).trans q0
  have map : ((w2.alloc (.cells #[.pointer (some ⟨ri, 0, none⟩)] 73)).drew).cell? ⟨gW, c1, none⟩ = some sv := (hA.cell lW).trans p0
  have maz : ((w2.alloc (.cells #[.pointer (some ⟨ri, 0, none⟩)] 73)).drew).frozen? ⟨gW, c1, none⟩ = false := (hA.frozen lW).trans z0
  have HA := Lib.hid hA
  clear hA
  have hL0n : 1 < (s.row i).length := by omega
  have hL0 : (1 : Int) < ((s.row i).length : Int) := by omega
  have hV0 : (c1 : Int) < 2 * (s.V : Int) + 2 := by omega
  go_wp2_with fail
  refine held.region (fun w' => w'.cell? ⟨bp, 6, none⟩ = some (.slice (some ⟨gW, 0, none⟩) (2 * s.V + 2) cW) ∧ w'.cell? ⟨ri, 0, none⟩ = some (.slice (some ⟨gK, 0, none⟩) (s.row i).length cK) ∧ w'.cell? ⟨gK, 1, none⟩ = some (.int .i64 c1) ∧ w'.cell? ⟨gW, c1, none⟩ = some sv) 26 (by kernel_rfl) ?_
  have hS : w2.drew.cell? ⟨bp, 6, none⟩ = some (.slice (some ⟨gW, 0, none⟩) (2 * s.V + 2) cW) ∧ w2.drew.cell? ⟨ri, 0, none⟩ = some (.slice (some ⟨gK, 0, none⟩) (s.row i).length cK) ∧ w2.drew.cell? ⟨gK, 1, none⟩ = some (.int .i64 c1) ∧ w2.drew.cell? ⟨gW, c1, none⟩ = some sv := ⟨f6, r0, q0, p0⟩
  refine held.wpLeft.take (i := 0) (v := ?_) rfl (by kernel_rfl) (by kernel_rfl) (by kernel_rfl) (by kernel_rfl) (by kernel_rfl) (fun _ _ _ h => h) (by rfl) ?_ hS ?_
  rotate_left
  · (intro w hSw; obtain ⟨s1, s2, s3, s4⟩ := hSw; go_simp; try with_reducible rfl)
  simp only [Act.put, List.setIfInBounds_toArray, List.set_cons_zero, List.set_cons_succ]
  refine held.wpLeft.take (i := 1) (v := ?_) rfl (by kernel_rfl) (by kernel_rfl) (by kernel_rfl) (by kernel_rfl) (by kernel_rfl) (fun _ _ _ h => h) (by rfl) ?_ hS ?_
  rotate_left
  · (intro w hSw; obtain ⟨s1, s2, s3, s4⟩ := hSw; go_simp; try with_reducible rfl)
  simp only [Act.put, List.setIfInBounds_toArray, List.set_cons_zero, List.set_cons_succ]
  refine held.wpLeft.take (i := 2) (v := ?_) rfl (by kernel_rfl) (by kernel_rfl) (by kernel_rfl) (by kernel_rfl) (by kernel_rfl) (fun _ _ _ h => h) (by rfl) ?_ hS ?_
  rotate_left
  · (intro w hSw; obtain ⟨s1, s2, s3, s4⟩ := hSw; go_simp; try with_reducible rfl)
  simp only [Act.put, List.setIfInBounds_toArray, List.set_cons_zero, List.set_cons_succ]
  refine held.wpLeft.take (i := 3) (v := ?_) rfl (by kernel_rfl) (by kernel_rfl) (by kernel_rfl) (by kernel_rfl) (by kernel_rfl) (fun _ _ _ h => h) (by rfl) ?_ hS ?_
  rotate_left
  · (intro w hSw; obtain ⟨s1, s2, s3, s4⟩ := hSw; go_simp; try with_reducible rfl)
  simp only [Act.put, List.setIfInBounds_toArray, List.set_cons_zero, List.set_cons_succ]
  refine held.wpLeft.take (i := 4) (v := ?_) rfl (by kernel_rfl) (by kernel_rfl) (by kernel_rfl) (by kernel_rfl) (by kernel_rfl) (fun _ _ _ h => h) (by rfl) ?_ hS ?_
  rotate_left
  · (intro w hSw; obtain ⟨s1, s2, s3, s4⟩ := hSw; go_simp; try with_reducible rfl)
  simp only [Act.put, List.setIfInBounds_toArray, List.set_cons_zero, List.set_cons_succ]
  refine held.wpLeft.take (i := 5) (v := ?_) rfl (by kernel_rfl) (by kernel_rfl) (by kernel_rfl) (by kernel_rfl) (by kernel_rfl) (fun _ _ _ h => h) (by rfl) ?_ hS ?_
  rotate_left
  · (intro w hSw; obtain ⟨s1, s2, s3, s4⟩ := hSw; go_simp; try with_reducible rfl)
  simp only [Act.put, List.setIfInBounds_toArray, List.set_cons_zero, List.set_cons_succ]
  refine held.wpLeft.take (i := 6) (v := ?_) rfl (by kernel_rfl) (by kernel_rfl) (by kernel_rfl) (by kernel_rfl) (by kernel_rfl) (fun _ _ _ h => h) (by rfl) ?_ hS ?_
  rotate_left
  · (intro w hSw; obtain ⟨s1, s2, s3, s4⟩ := hSw; go_simp; try with_reducible rfl)
  simp only [Act.put, List.setIfInBounds_toArray, List.set_cons_zero, List.set_cons_succ]
  refine held.wpLeft.take (i := 7) (v := ?_) rfl (by kernel_rfl) (by kernel_rfl) (by kernel_rfl) (by kernel_rfl) (by kernel_rfl) (fun _ _ _ h => h) (by rfl) ?_ hS ?_
  rotate_left
  · (intro w hSw; obtain ⟨s1, s2, s3, s4⟩ := hSw; go_simp; try with_reducible rfl)
  simp only [Act.put, List.setIfInBounds_toArray, List.set_cons_zero, List.set_cons_succ]
  refine held.wpLeft.take (i := 8) (v := ?_) rfl (by kernel_rfl) (by kernel_rfl) (by kernel_rfl) (by kernel_rfl) (by kernel_rfl) (fun _ _ _ h => h) (by rfl) ?_ hS ?_
  rotate_left
  · (intro w hSw; obtain ⟨s1, s2, s3, s4⟩ := hSw; go_simp; try with_reducible rfl)
  simp only [Act.put, List.setIfInBounds_toArray, List.set_cons_zero, List.set_cons_succ]
  refine held.wpLeft.take (i := 9) (v := ?_) rfl (by kernel_rfl) (by kernel_rfl) (by kernel_rfl) (by kernel_rfl) (by kernel_rfl) (fun _ _ _ h => h) (by rfl) ?_ hS ?_
  rotate_left
  · (intro w hSw; obtain ⟨s1, s2, s3, s4⟩ := hSw; go_simp; try with_reducible rfl)
  simp only [Act.put, List.setIfInBounds_toArray, List.set_cons_zero, List.set_cons_succ]
  refine held.wpLeft.take (i := 10) (v := ?_) rfl (by kernel_rfl) (by kernel_rfl) (by kernel_rfl) (by kernel_rfl) (by kernel_rfl) (fun _ _ _ h => h) (by rfl) ?_ hS ?_
  rotate_left
  · (intro w hSw; obtain ⟨s1, s2, s3, s4⟩ := hSw; go_simp; try with_reducible rfl)
  simp only [Act.put, List.setIfInBounds_toArray, List.set_cons_zero, List.set_cons_succ]
  refine held.wpLeft.take (i := 11) (v := ?_) rfl (by kernel_rfl) (by kernel_rfl) (by kernel_rfl) (by kernel_rfl) (by kernel_rfl) (fun _ _ _ h => h) (by rfl) ?_ hS ?_
  rotate_left
  · (intro w hSw; obtain ⟨s1, s2, s3, s4⟩ := hSw; go_simp; try with_reducible rfl)
  simp only [Act.put, List.setIfInBounds_toArray, List.set_cons_zero, List.set_cons_succ]
  refine held.wpLeft.take (i := 12) (v := ?_) rfl (by kernel_rfl) (by kernel_rfl) (by kernel_rfl) (by kernel_rfl) (by kernel_rfl) (fun _ _ _ h => h) (by rfl) ?_ hS ?_
  rotate_left
  · (intro w hSw; obtain ⟨s1, s2, s3, s4⟩ := hSw; go_simp; try with_reducible rfl)
  simp only [Act.put, List.setIfInBounds_toArray, List.set_cons_zero, List.set_cons_succ]
  refine held.wpLeft.take (i := 13) (v := ?_) rfl (by kernel_rfl) (by kernel_rfl) (by kernel_rfl) (by kernel_rfl) (by kernel_rfl) (fun _ _ _ h => h) (by rfl) ?_ hS ?_
  rotate_left
  · (intro w hSw; obtain ⟨s1, s2, s3, s4⟩ := hSw; go_simp; try with_reducible rfl)
  simp only [Act.put, List.setIfInBounds_toArray, List.set_cons_zero, List.set_cons_succ]
  refine held.wpLeft.take (i := 14) (v := ?_) rfl (by kernel_rfl) (by kernel_rfl) (by kernel_rfl) (by kernel_rfl) (by kernel_rfl) (fun _ _ _ h => h) (by rfl) ?_ hS ?_
  rotate_left
  · (intro w hSw; obtain ⟨s1, s2, s3, s4⟩ := hSw; go_simp; try with_reducible rfl)
  simp only [Act.put, List.setIfInBounds_toArray, List.set_cons_zero, List.set_cons_succ]
  refine held.wpLeft.take (i := 15) (v := ?_) rfl (by kernel_rfl) (by kernel_rfl) (by kernel_rfl) (by kernel_rfl) (by kernel_rfl) (fun _ _ _ h => h) (by rfl) ?_ hS ?_
  rotate_left
  · (intro w hSw; obtain ⟨s1, s2, s3, s4⟩ := hSw; go_simp; try with_reducible rfl)
  simp only [Act.put, List.setIfInBounds_toArray, List.set_cons_zero, List.set_cons_succ]
  refine held.wpLeft.take (i := 16) (v := ?_) rfl (by kernel_rfl) (by kernel_rfl) (by kernel_rfl) (by kernel_rfl) (by kernel_rfl) (fun _ _ _ h => h) (by rfl) ?_ hS ?_
  rotate_left
  · (intro w hSw; obtain ⟨s1, s2, s3, s4⟩ := hSw; go_simp; try with_reducible rfl)
  simp only [Act.put, List.setIfInBounds_toArray, List.set_cons_zero, List.set_cons_succ]
  refine held.wpLeft.take (i := 17) (v := ?_) rfl (by kernel_rfl) (by kernel_rfl) (by kernel_rfl) (by kernel_rfl) (by kernel_rfl) (fun _ _ _ h => h) (by rfl) ?_ hS ?_
  rotate_left
  · (intro w hSw; obtain ⟨s1, s2, s3, s4⟩ := hSw; go_simp; try with_reducible rfl)
  simp only [Act.put, List.setIfInBounds_toArray, List.set_cons_zero, List.set_cons_succ]
  refine held.wpLeft.take (i := 18) (v := ?_) rfl (by kernel_rfl) (by kernel_rfl) (by kernel_rfl) (by kernel_rfl) (by kernel_rfl) (fun _ _ _ h => h) (by rfl) ?_ hS ?_
  rotate_left
  · (intro w hSw; obtain ⟨s1, s2, s3, s4⟩ := hSw; go_simp; try with_reducible rfl)
  simp only [Act.put, List.setIfInBounds_toArray, List.set_cons_zero, List.set_cons_succ]
  refine held.wpLeft.take (i := 19) (v := ?_) rfl (by kernel_rfl) (by kernel_rfl) (by kernel_rfl) (by kernel_rfl) (by kernel_rfl) (fun _ _ _ h => h) (by rfl) ?_ hS ?_
  rotate_left
  · (intro w hSw; obtain ⟨s1, s2, s3, s4⟩ := hSw; go_simp; try with_reducible rfl)
  simp only [Act.put, List.setIfInBounds_toArray, List.set_cons_zero, List.set_cons_succ]
  refine held.wpLeft.take (i := 20) (v := ?_) rfl (by kernel_rfl) (by kernel_rfl) (by kernel_rfl) (by kernel_rfl) (by kernel_rfl) (fun _ _ _ h => h) (by rfl) ?_ hS ?_
  rotate_left
  · (intro w hSw; obtain ⟨s1, s2, s3, s4⟩ := hSw; go_simp; try with_reducible rfl)
  simp only [Act.put, List.setIfInBounds_toArray, List.set_cons_zero, List.set_cons_succ]
  refine held.wpLeft.take (i := 21) (v := ?_) rfl (by kernel_rfl) (by kernel_rfl) (by kernel_rfl) (by kernel_rfl) (by kernel_rfl) (fun _ _ _ h => h) (by rfl) ?_ hS ?_
  rotate_left
  · (intro w hSw; obtain ⟨s1, s2, s3, s4⟩ := hSw; go_simp; try with_reducible rfl)
  simp only [Act.put, List.setIfInBounds_toArray, List.set_cons_zero, List.set_cons_succ]
  refine held.wpLeft.take (i := 22) (v := ?_) rfl (by kernel_rfl) (by kernel_rfl) (by kernel_rfl) (by kernel_rfl) (by kernel_rfl) (fun _ _ _ h => h) (by rfl) ?_ hS ?_
  rotate_left
  · (intro w hSw; obtain ⟨s1, s2, s3, s4⟩ := hSw; go_simp; try with_reducible rfl)
  simp only [Act.put, List.setIfInBounds_toArray, List.set_cons_zero, List.set_cons_succ]
  refine held.wpLeft.one (i := 23) (by kernel_rfl) rfl (fun K hK => ?_)
  go_simp
  refine hK.out _ _ (fun _ => ⟨ma6, mar, maq, map⟩) ?_
  clear hK K
  refine held.wpLeft.one (i := 24) (by kernel_rfl) rfl (fun K2 hK2 => ?_)
  refine step_append_lies _ (by rfl) _ _ _ (by rfl) B 73 i0 _ 1 8 Tryd.underlying48 hi0 hz0 hz1 hz2 rfl (by omega) sv ((s.wt (updN s.W c0 (s.W c0 ++ [i]))).W c1).length (cont (s.wt (updN s.W c0 (s.W c0 ++ [i]))) (fvs F3) (.watch c1)) (by rfl) (by have := (HO.out.alloc (.cells #[.pointer (some ⟨ri, 0, none⟩)] 73)).drew; rw [hxl] at this; exact this) ⟨w2.heap.size, 0, none⟩ 1 1 [.pointer (some ⟨ri, 0, none⟩)] (by rfl) (by rfl) (World.news_of_block (cs := #[.pointer (some ⟨ri, 0, none⟩)]) (t := 73) (fr := (0, 0)) (heap_alloc_new w2 _)) (by simp [Value.oneCell']) (by omega) (by unfold maxLen; omega) (by omega) (by simp; omega) (w2.heap.size + 1) (by simp) ?_
  intro gg cap w1 hown1 hgrow hat hlt1
  have m6 : w1.cell? ⟨bp, 6, none⟩ = some (.slice (some ⟨gW, 0, none⟩) (2 * s.V + 2) cW) := hgrow.cell ma6 (fun e => hgb e.symm)
  have mr : w1.cell? ⟨ri, 0, none⟩ = some (.slice (some ⟨gK, 0, none⟩) (s.row i).length cK) := hgrow.cell mar (fun e => hgR e.symm)
  have mq : w1.cell? ⟨gK, 1, none⟩ = some (.int .i64 c1) := hgrow.cell maq (fun e => hgK e.symm)
  have mp : w1.cell? ⟨gW, c1, none⟩ = some sv := hgrow.cell map (fun e => hgW e.symm)
  have zw : w1.frozen? ⟨gW, c1, none⟩ = false := (World.frozen?_of_block (hgrow.block gW (by simp; omega) (fun e => hgW e.symm))).trans maz
  obtain ⟨F4, M4, K4, B4⟩ := HM.out.appW (c := c1) (i := i) rfl hc1 HWv.out bW HA.out (by rw [HPV.out]; exact hown1) (by rw [HSV.out]; exact hgrow) (by
    rw [HSV.out]
    rcases hat with hat | hat
    · exact .inl hat.symm
    · exact .inr (by rw [hat]; simp))
  refine hK2.out _ _ (fun _ => ⟨m6, mr, mq, mp⟩) ?_
  clear hK2 K2 hown1 hgrow hat hlt1
  refine held.wpLeft.one (i := 25) (by kernel_rfl) rfl (fun K3 hK3 => ?_)
  go_simp
  refine hK3.out _ _ (fun _ => ⟨m6, mr, mq, mp⟩) ?_
  clear hK3 K3
  refine held.wpLeft.one (i := 26) (by kernel_rfl) rfl (fun K3 hK3 => ?_)
  go_simp
  refine hK3.out _ _ (fun h => absurd rfl h) ?_
  clear hK3 K3
  refine held.wpLeft.done (by kernel_rfl) ?_
  have HFIN : Hid (WatP B bp s F i w (World.setCell w1 ⟨gW, c1, none⟩ (.slice (some ⟨gg, 0, none⟩) (((s.wt (updN s.W c0 (s.W c0 ++ [i]))).W c1).length + 1) cap))) := Lib.hid (by
    unfold WatP
    rw [HC.out]
    exact ⟨F4, M4, fun k hk => (K4 k (hk c1)).trans (HK3.out k (hk c0)), HB3.out.trans B4⟩)
  clear M4 K4 B4
  go_wp2
  go_end0
  exact ⟨rfl, HFIN.out⟩
end
end Go.Proofs.YtojjjndhabjhdaaDoor.satI
