/-
  Contracts of (*search).decide, watch.
-/
import Derived.Test.YtojjjndhabjhdaaDoorSatG
namespace Go.Proofs.YtojjjndhabjhdaaDoor.satH
set_option linter.unusedSimpArgs false
set_option linter.unusedVariables false
open Go.ChangeShapes Go.WideShapes Go.ChangeAt Go.RowKit proofP proofQ owns satP satA satF satB satC satD satE satG
attribute [local go_sem ↓] Go.wp_at_zero Go.wp_at_succ

section
variable {w w' : World} {B bp : Nat} {s : SS} {F : Ix → Ent}
def _root_.Go.Proofs.YtojjjndhabjhdaaDoor.satA.SS.sts (s : SS) (starts : List Nat) : SS := { s with starts := starts }
/-- something is appended to a row, whose value then is put into a field -/
theorem _root_.Go.Proofs.YtojjjndhabjhdaaDoor.satA.Mem.app (h : Mem w B bp s F) (k : Ix) {w1 w2 : World} {n g' cap' f : Nat} {x : Value} {s' : SS} (hb : Below w.heap.size w w1) (hxl : (cont s (fvs F) k).length = n) (hown : w2.ownsRow B (ty k) 1 (.slice (some ⟨g', 0, none⟩) (n + 1) cap') (n + 1) (cont s (fvs F) k ++ [x])) (hgrow : w1.grownBy w2 (F k).v.ownBlock)
    (hk : ∀ i, k ≠ .row i)
    (hf : fields s' (fvs (upd F k ⟨ty k, .slice (some ⟨g', 0, none⟩) (n + 1) cap', cont s (fvs F) k ++ [x]⟩)) = (fields s (fvs F)).set f (.slice (some ⟨g', 0, none⟩) (n + 1) cap')) (hc : cont s' (fvs (upd F k ⟨ty k, .slice (some ⟨g', 0, none⟩) (n + 1) cap', cont s (fvs F) k ++ [x]⟩)) k = cont s (fvs F) k ++ [x])
    (ho : ∀ i, i ≠ k → cont s' (fvs (upd F k ⟨ty k, .slice (some ⟨g', 0, none⟩) (n + 1) cap', cont s (fvs F) k ++ [x]⟩)) i = cont s (fvs F) i) (hn : s'.n = s.n) (hp : s'.rp = s.rp) (hs : s'.spread = s.spread) (hgo : s'.gone = s.gone) (hg1 : some g' = (F k).v.ownBlock ∨ w1.heap.size ≤ g') (hkr : k ≠ .res := by simp) (hrs : s'.resv = s.resv := by rfl) :
    Mem (w2.setCell ⟨bp, f, none⟩ (.slice (some ⟨g', 0, none⟩) (n + 1) cap')) B bp s' (upd F k ⟨ty k, .slice (some ⟨g', 0, none⟩) (n + 1) cap', cont s (fvs F) k ++ [x]⟩) ∧ Below B w (w2.setCell ⟨bp, f, none⟩ (.slice (some ⟨g', 0, none⟩) (n + 1) cap')) := by
  have hBw : B ≤ w.heap.size := Nat.le_trans h.hB (Nat.le_of_lt h.obj.lt)
  refine ⟨(h.below hb).put k hgrow (by rw [List.length_append, hxl]; exact hown) (hg1.elim (fun e => .inl (show (Value.slice (some ⟨g', 0, none⟩) (n + 1) cap').ownBlock = _ from e)) (fun e => .inr (.inr ⟨g', rfl, e⟩))) f hk hf hc ho hn hp hs hgo hkr hrs, (((hb.mono hBw).grown hgrow (by have := hb.size; omega) (fun j hj => ((h.own.1 k).lt j hj).1))).setCell h.hB _⟩

theorem _root_.Go.Proofs.YtojjjndhabjhdaaDoor.satA.Mem.appStarts (h : Mem w B bp s F) {w1 w2 : World} {n g' cap' : Nat} {v : Nat} (hn : s.starts.length = n) (hb : Below w.heap.size w w1) (hown : w2.ownsRow B 3 1 (.slice (some ⟨g', 0, none⟩) (n + 1) cap') (n + 1) (cont s (fvs F) .starts ++ [.int .i64 v])) (hgrow : w1.grownBy w2 (F .starts).v.ownBlock) (hg1 : some g' = (F .starts).v.ownBlock ∨ w1.heap.size ≤ g') :
    ∃ F', Mem (w2.setCell ⟨bp, 12, none⟩ (.slice (some ⟨g', 0, none⟩) (n + 1) cap')) B bp (s.sts (s.starts ++ [v])) F' ∧ (∀ k, k ≠ .starts → (F' k).v = (F k).v) ∧ Below B w (w2.setCell ⟨bp, 12, none⟩ (.slice (some ⟨g', 0, none⟩) (n + 1) cap')) := by
  obtain ⟨a, b⟩ := h.app .starts (f := 12) (s' := s.sts (s.starts ++ [v])) hb (by simp [cont, hn]) hown hgrow (by simp) rfl (by simp [cont, SS.sts, iv]) (by intro i hi; cases i <;> first | rfl | exact absurd rfl hi) rfl rfl rfl rfl hg1
  exact ⟨_, a, fun k hk => fvs_other _ _ hk, b⟩

def DecP (B bp : Nat) (s : SS) (F : Ix → Ent) (c : Nat) (w w' : World) : Prop := ∃ F', Mem w' B bp ((s.sts (s.starts ++ [s.trail.length])).put c none) F' ∧ (∀ k, k ≠ .trail → k ≠ .starts → (F' k).v = (F k).v) ∧ Below B w w'
set_option maxHeartbeats 2000000 in
set_option maxRecDepth 100000 in
theorem decide_any (h : Mem w B bp s F) (hV : s.V ≤ 20000) (c : Nat) (hc : 2 ≤ c ∧ c < 2 * s.V + 2) (h1 : c ∉ s.vt) (h2 : opp c ∉ s.vt) (hl : s.trail.length ≤ 20000) (hs : s.starts.length ≤ 50000) :
    Calls Tryd.prog 38 #[.pointer (some ⟨bp, 0, none⟩), .int .i64 c] w fun e w' => e = .returned (.tuple #[]) ∧ DecP B bp s F c w w' := by
  have f11 : w.cell? ⟨bp, 11, none⟩ = some (F .trail).v := h.fld 11
  have f12 : w.cell? ⟨bp, 12, none⟩ = some (F .starts).v := h.fld 12
  have z12 := h.obj.frozen 12
  obtain ⟨aT, cT, hTv⟩ := h.own.value .trail
  rw [h.xs, show (cont s (fvs F) .trail).length = s.trail.length from by simp [cont]] at hTv
  rw [hTv] at f11
  have HO := Lib.hid (h.ownAt .starts rfl)
  have hxl : (cont s (fvs F) .starts).length = s.starts.length := by simp [cont]
  have hgt := h.ne .starts
  have hbl := h.obj.lt
  have hB := h.hB
  have HM := Lib.hid h
  generalize hsv : (F .starts).v = sv at *
  have HSV := Lib.hid hsv
  clear h hTv hsv
  obtain ⟨i0, hi, hz0, hz1, hz2⟩ := info_parts infoI
  have hA : Below w.heap.size w (w.alloc (.cells #[.int .i64 (s.trail.length : Nat)] 3)).drew := ((Below.refl _ _).alloc (Nat.le_refl _) _).drew
  have ma12 : ((w.alloc (.cells #[.int .i64 (s.trail.length : Nat)] 3)).drew).cell? ⟨bp, 12, none⟩ = some sv := (hA.cell hbl).trans f12
  have ma11 : ((w.alloc (.cells #[.int .i64 (s.trail.length : Nat)] 3)).drew).cell? ⟨bp, 11, none⟩ = some (.slice aT s.trail.length cT) := (hA.cell hbl).trans f11
  have maz : ((w.alloc (.cells #[.int .i64 (s.trail.length : Nat)] 3)).drew).frozen? ⟨bp, 12, none⟩ = false := (hA.frozen hbl).trans z12
  have HA := Lib.hid hA
  clear hA
  go_enter Tryd.func38, Tryd.ntmps38
  go_wp2_with fail
  refine held.region (fun w' => w'.cell? ⟨bp, 12, none⟩ = some sv ∧ w'.cell? ⟨bp, 11, none⟩ = some (.slice aT s.trail.length cT)) 14 (by kernel_rfl) ?_
  have hS : w.drew.cell? ⟨bp, 12, none⟩ = some sv ∧ w.drew.cell? ⟨bp, 11, none⟩ = some (.slice aT s.trail.length cT) := ⟨f12, f11⟩
  refine held.wpLeft.take (i := 0) (v := ?_) rfl (by kernel_rfl) (by kernel_rfl) (by kernel_rfl) (by kernel_rfl) (by kernel_rfl) (fun _ _ _ h => h) (by rfl) ?_ hS ?_
  rotate_left
  · (intro w hSw; obtain ⟨s1, s2⟩ := hSw; go_simp; try with_reducible rfl)
  simp only [Act.put, List.setIfInBounds_toArray, List.set_cons_zero, List.set_cons_succ]
  refine held.wpLeft.take (i := 1) (v := ?_) rfl (by kernel_rfl) (by kernel_rfl) (by kernel_rfl) (by kernel_rfl) (by kernel_rfl) (fun _ _ _ h => h) (by rfl) ?_ hS ?_
  rotate_left
  · (intro w hSw; obtain ⟨s1, s2⟩ := hSw; go_simp; try with_reducible rfl)
  simp only [Act.put, List.setIfInBounds_toArray, List.set_cons_zero, List.set_cons_succ]
  refine held.wpLeft.take (i := 2) (v := ?_) rfl (by kernel_rfl) (by kernel_rfl) (by kernel_rfl) (by kernel_rfl) (by kernel_rfl) (fun _ _ _ h => h) (by rfl) ?_ hS ?_
  rotate_left
  · (intro w hSw; obtain ⟨s1, s2⟩ := hSw; go_simp; try with_reducible rfl)
  simp only [Act.put, List.setIfInBounds_toArray, List.set_cons_zero, List.set_cons_succ]
  refine held.wpLeft.take (i := 3) (v := ?_) rfl (by kernel_rfl) (by kernel_rfl) (by kernel_rfl) (by kernel_rfl) (by kernel_rfl) (fun _ _ _ h => h) (by rfl) ?_ hS ?_
  rotate_left
  · (intro w hSw; obtain ⟨s1, s2⟩ := hSw; go_simp; try with_reducible rfl)
  simp only [Act.put, List.setIfInBounds_toArray, List.set_cons_zero, List.set_cons_succ]
  refine held.wpLeft.take (i := 4) (v := ?_) rfl (by kernel_rfl) (by kernel_rfl) (by kernel_rfl) (by kernel_rfl) (by kernel_rfl) (fun _ _ _ h => h) (by rfl) ?_ hS ?_
  rotate_left
  · (intro w hSw; obtain ⟨s1, s2⟩ := hSw; go_simp; try with_reducible rfl)
  simp only [Act.put, List.setIfInBounds_toArray, List.set_cons_zero, List.set_cons_succ]
  refine held.wpLeft.take (i := 5) (v := ?_) rfl (by kernel_rfl) (by kernel_rfl) (by kernel_rfl) (by kernel_rfl) (by kernel_rfl) (fun _ _ _ h => h) (by rfl) ?_ hS ?_
  rotate_left
  · (intro w hSw; obtain ⟨s1, s2⟩ := hSw; go_simp; try with_reducible rfl)
  simp only [Act.put, List.setIfInBounds_toArray, List.set_cons_zero, List.set_cons_succ]
  refine held.wpLeft.take (i := 6) (v := ?_) rfl (by kernel_rfl) (by kernel_rfl) (by kernel_rfl) (by kernel_rfl) (by kernel_rfl) (fun _ _ _ h => h) (by rfl) ?_ hS ?_
  rotate_left
  · (intro w hSw; obtain ⟨s1, s2⟩ := hSw; go_simp; try with_reducible rfl)
  simp only [Act.put, List.setIfInBounds_toArray, List.set_cons_zero, List.set_cons_succ]
  refine held.wpLeft.take (i := 7) (v := ?_) rfl (by kernel_rfl) (by kernel_rfl) (by kernel_rfl) (by kernel_rfl) (by kernel_rfl) (fun _ _ _ h => h) (by rfl) ?_ hS ?_
  rotate_left
  · (intro w hSw; obtain ⟨s1, s2⟩ := hSw; go_simp; try with_reducible rfl)
  simp only [Act.put, List.setIfInBounds_toArray, List.set_cons_zero, List.set_cons_succ]
  refine held.wpLeft.take (i := 8) (v := ?_) rfl (by kernel_rfl) (by kernel_rfl) (by kernel_rfl) (by kernel_rfl) (by kernel_rfl) (fun _ _ _ h => h) (by rfl) ?_ hS ?_
  rotate_left
  · (intro w hSw; obtain ⟨s1, s2⟩ := hSw; go_simp; try with_reducible rfl)
  simp only [Act.put, List.setIfInBounds_toArray, List.set_cons_zero, List.set_cons_succ]
  refine held.wpLeft.take (i := 9) (v := ?_) rfl (by kernel_rfl) (by kernel_rfl) (by kernel_rfl) (by kernel_rfl) (by kernel_rfl) (fun _ _ _ h => h) (by rfl) ?_ hS ?_
  rotate_left
  · (intro w hSw; obtain ⟨s1, s2⟩ := hSw; go_simp; try with_reducible rfl)
  simp only [Act.put, List.setIfInBounds_toArray, List.set_cons_zero, List.set_cons_succ]
  refine held.wpLeft.one (i := 10) (by kernel_rfl) rfl (fun K hK => ?_)
  go_simp
  refine hK.out _ _ (fun _ => ⟨ma12, ma11⟩) ?_
  clear hK K
  refine held.wpLeft.one (i := 11) (by kernel_rfl) rfl (fun K2 hK2 => ?_)
  refine step_append_lies _ (by rfl) _ _ _ (by rfl) B 3 i0 _ 1 8 Tryd.underlying23 hi hz0 hz1 hz2 rfl (by omega) sv s.starts.length (cont s (fvs F) .starts) (by rfl) (by have := (HO.out.alloc (.cells #[.int .i64 (s.trail.length : Nat)] 3)).drew; rw [hxl] at this; exact this) ⟨w.heap.size, 0, none⟩ 1 1 [.int .i64 (s.trail.length : Nat)] (by rfl) (by rfl) (World.news_of_block (cs := #[.int .i64 (s.trail.length : Nat)]) (t := 3) (fr := (0, 0)) (heap_alloc_new w _)) (by simp [Value.oneCell']) (by omega) (by unfold maxLen; omega) (by omega) (by simp; omega) (w.heap.size + 1) (by simp) ?_
  intro gg cap w1 hown1 hgrow hat hlt1
  have m12 : w1.cell? ⟨bp, 12, none⟩ = some sv := hgrow.cell ma12 (fun e => hgt e.symm)
  have m11 : w1.cell? ⟨bp, 11, none⟩ = some (.slice aT s.trail.length cT) := hgrow.cell ma11 (fun e => hgt e.symm)
  have zw : w1.frozen? ⟨bp, 12, none⟩ = false := (World.frozen?_of_block (hgrow.block bp (by simp; omega) (fun e => hgt e.symm))).trans maz
  obtain ⟨F3, M3, K3, B3⟩ := HM.out.appStarts (v := s.trail.length) rfl HA.out hown1 (by rw [HSV.out]; exact hgrow) (by
    rw [HSV.out]
    rcases hat with hat | hat
    · exact .inl hat.symm
    · exact .inr (by rw [hat]; simp))
  refine hK2.out _ _ (fun _ => ⟨m12, m11⟩) ?_
  clear hK2 K2 hown1 hgrow hat hlt1
  refine held.wpLeft.one (i := 12) (by kernel_rfl) rfl (fun K3 hK3 => ?_)
  go_simp
  refine hK3.out _ _ (fun _ => ⟨m12, m11⟩) ?_
  clear hK3 K3
  refine held.wpLeft.one (i := 13) (by kernel_rfl) rfl (fun K3 hK3 => ?_)
  go_simp
  refine hK3.out _ _ (fun _ => ⟨m12, m11⟩) ?_
  clear hK3 K3
  refine held.wpLeft.one (i := 14) (by kernel_rfl) rfl (fun K3 hK3 => ?_)
  go_simp
  refine hK3.out _ _ (fun h => absurd rfl h) ?_
  clear hK3 K3
  refine held.wpLeft.done (by kernel_rfl) ?_
  have HS := Lib.hid (set_any M3 hV c none hc h1 h2 hl (by show (s.starts ++ [s.trail.length]).length ≤ _; simp; omega))
  have HK3 := Lib.hid K3
  have HB3 := Lib.hid B3
  clear M3 K3 B3 m12 m11 zw HO HM HA ma12 ma11 maz f11 f12 z12
  go_wp2_with fail
  refine HS.out.mono ?_
  rintro e w4 ⟨rfl, F4, M4, K4, B4⟩
  have HFIN : Hid (DecP B bp s F c w w4) := Lib.hid ⟨F4, M4, fun k hk1 hk2 => (K4 k hk1).trans (HK3.out k hk2), HB3.out.trans B4⟩
  clear M4 K4 B4
  go_wp2
  go_end0
  exact ⟨rfl, HFIN.out⟩
end
end Go.Proofs.YtojjjndhabjhdaaDoor.satH
