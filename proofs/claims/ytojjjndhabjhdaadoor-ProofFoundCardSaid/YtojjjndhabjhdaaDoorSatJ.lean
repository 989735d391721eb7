/-
  Contract of (*search).move.
-/
import Derived.Test.YtojjjndhabjhdaaDoorSatI
namespace Go.Proofs.YtojjjndhabjhdaaDoor.satJ
set_option linter.unusedSimpArgs false
set_option linter.unusedVariables false
open Go.ChangeShapes Go.WideShapes Go.ChangeAt Go.RowKit proofP proofQ owns satP satA satF satB satC satD satE satG satH satI
attribute [local go_sem ↓] Go.wp_at_zero Go.wp_at_succ

theorem val_lo {vt : List Nat} (h : ∀ x, x ∈ vt → opp x ∉ vt) {x : Nat} (hx : opp x ∈ vt) : val vt x = -1 := val_neg (fun hh => h x hh hx) hx
theorem val_ge {vt : List Nat} {x : Nat} (hx : opp x ∉ vt) : 0 ≤ val vt x := by
  by_cases h : x ∈ vt
  · rw [val_pos h]; decide
  · rw [val_zero h hx]; decide
section
variable {w w' : World} {B bp : Nat} {s : SS} {F : Ix → Ent}
def _root_.Go.Proofs.YtojjjndhabjhdaaDoor.satA.SS.rws (s : SS) (row : Nat → List Nat) : SS := { s with row := row }
/-- two codes of a row change places -/
theorem _root_.Go.Proofs.YtojjjndhabjhdaaDoor.satA.Mem.swRow (h : Mem w B bp s F) {i g cap n j k x y : Nat} (hv : (F (.row i)).v = .slice (some ⟨g, 0, none⟩) n cap) (hx : (s.row i).getD k 0 = x) (hy : (s.row i).getD j 0 = y) :
    ∃ F', Mem ((w.setCell ⟨g, j, none⟩ (.int .i64 x)).setCell ⟨g, k, none⟩ (.int .i64 y)) B bp (s.rws (updN s.row i (sw (s.row i) j k))) F' ∧ fvs F' = fvs F := by
  obtain ⟨O1, G1⟩ := h.own.set2 hv j k (.int .i64 x) (.int .i64 y)
  have hg : g ≠ bp := fun e => h.ne (.row i) (by rw [hv, e]; rfl)
  have hfv := fvs_set F (.row i) (((F (.row i)).xs.set j (.int .i64 x)).set k (.int .i64 y))
  refine ⟨_, ⟨O1, ?_, h.hB, fun q => ?_, fun q => ?_, fun q => ?_, fun q hq => ?_, fun q hq => ?_, h.rj, (congrFun hfv .res).trans h.rv⟩, hfv⟩
  · rw [hfv]; exact h.obj.kept G1 (by intro e; cases e; exact hg rfl)
  · rw [show (upd F (.row i) ⟨(F (.row i)).e, (F (.row i)).v, ((F (.row i)).xs.set j (.int .i64 x)).set k (.int .i64 y)⟩ q).v = (F q).v from congrFun hfv q]; exact h.ne q
  · by_cases e : q = .row i
    · subst e; rw [upd_same]; exact h.te _
    · rw [upd_other _ _ e]; exact h.te q
  · rw [hfv]
    by_cases e : q = .row i
    · subst e; rw [upd_same]; dsimp only; rw [h.xs]
      show (((s.row i).map iv).set j (.int .i64 x)).set k (.int .i64 y) = ((updN s.row i (sw (s.row i) j k)) i).map iv
      rw [updN_same]
      unfold sw
      rw [hx, hy, List.map_set, List.map_set]; rfl
    · rw [upd_other _ _ e, h.xs]
      cases q <;> first
        | rfl
        | (show (s.row _).map iv = ((updN s.row i (sw (s.row i) j k)) _).map iv
           rw [updN_other _ _ (fun e' => e (by rw [e']))])
  · rw [show (upd F (.row i) ⟨(F (.row i)).e, (F (.row i)).v, ((F (.row i)).xs.set j (.int .i64 x)).set k (.int .i64 y)⟩ (.row q)).v = (F (.row q)).v from congrFun hfv _]
    exact (h.rw q hq).kept G1 (by intro e; have := (h.rb q hq).2.2 (.row i); rw [hv] at this; exact this e)
  · refine ⟨(h.rb q hq).1, (h.rb q hq).2.1, fun z => ?_⟩
    rw [show (upd F (.row i) ⟨(F (.row i)).e, (F (.row i)).v, ((F (.row i)).xs.set j (.int .i64 x)).set k (.int .i64 y)⟩ z).v = (F z).v from congrFun hfv z]
    exact (h.rb q hq).2.2 z
/-- what holds of a row's memory -/
theorem _root_.Go.Proofs.YtojjjndhabjhdaaDoor.satA.Mem.rowAt (h : Mem w B bp s F) {i : Nat} (hi : i < s.n) (h0 : 0 < (s.row i).length) : ∃ g cap, (F (.row i)).v = .slice (some ⟨g, 0, none⟩) (s.row i).length cap ∧ w.cell? ⟨s.rp i, 0, none⟩ = some (.slice (some ⟨g, 0, none⟩) (s.row i).length cap) ∧ (∀ j, j < (s.row i).length → w.cell? ⟨g, j, none⟩ = some (.int .i64 ((s.row i).getD j 0 : Nat))) ∧
    (∀ j, w.frozen? ⟨g, j, none⟩ = false) ∧ g ≠ bp ∧ g ≠ s.rp i ∧ B ≤ g ∧ g < w.heap.size ∧ s.rp i < w.heap.size ∧ s.rp i ≠ bp := by
  obtain ⟨g, c, hv, q, z, n1, b1, l1, r1, k1, _⟩ := h.at (.row i) (n := (s.row i).length) (by simp [cont]) h0
  obtain ⟨r0, _, _, lR, _⟩ := h.obji hi
  rw [hv] at r0
  exact ⟨g, c, hv, r0, fun j hj => by rw [q j hj, show cont s (fvs F) (.row i) = (s.row i).map iv from rfl, getD_iv hj], z, n1, r1 i hi, b1, l1, lR, (h.rb i hi).2.1⟩
theorem _root_.Go.Proofs.YtojjjndhabjhdaaDoor.satA.Mem.valAt (h : Mem w B bp s F) : ∃ g cap, (F .value).v = .slice (some ⟨g, 0, none⟩) (2 * s.V + 2) cap ∧ w.cell? ⟨bp, 7, none⟩ = some (.slice (some ⟨g, 0, none⟩) (2 * s.V + 2) cap) ∧ (∀ c, c < 2 * s.V + 2 → w.cell? ⟨g, c, none⟩ = some (.int .i8 (val s.vt c))) ∧ g ≠ bp ∧ g < w.heap.size := by
  obtain ⟨g, c, hv, q, z, n1, b1, l1, r1, k1, _⟩ := h.at .value (n := 2 * s.V + 2) (by simp [cont]) (by omega)
  have f7 : w.cell? ⟨bp, 7, none⟩ = some (F .value).v := h.fld 7
  rw [hv] at f7
  exact ⟨g, c, hv, f7, fun j hj => by rw [q j hj, show cont s (fvs F) .value = (List.range (2 * s.V + 2)).map fun c => .int .i8 (val s.vt c) from rfl, range_at hj], n1, l1⟩
theorem _root_.Go.Proofs.YtojjjndhabjhdaaDoor.satA.Mem.watAt (h : Mem w B bp s F) : ∃ g cap, (F .watches).v = .slice (some ⟨g, 0, none⟩) (2 * s.V + 2) cap ∧ w.cell? ⟨bp, 6, none⟩ = some (.slice (some ⟨g, 0, none⟩) (2 * s.V + 2) cap) ∧ (∀ c, c < 2 * s.V + 2 → w.cell? ⟨g, c, none⟩ = some (F (.watch c)).v) ∧ (∀ c, w.frozen? ⟨g, c, none⟩ = false) ∧ g ≠ bp ∧ B ≤ g ∧ g < w.heap.size := by
  obtain ⟨g, c, hv, q, z, n1, b1, l1, r1, k1, _⟩ := h.at .watches (n := 2 * s.V + 2) (by simp [cont]) (by omega)
  have f6 : w.cell? ⟨bp, 6, none⟩ = some (F .watches).v := h.fld 6
  rw [hv] at f6
  exact ⟨g, c, hv, f6, fun j hj => by rw [q j hj, show cont s (fvs F) .watches = (List.range (2 * s.V + 2)).map fun c => fvs F (.watch c) from rfl, range_at hj]; rfl, z, n1, b1, l1⟩

/-- the row i watches the code that stood at k in place of its second -/
def _root_.Go.Proofs.YtojjjndhabjhdaaDoor.satA.SS.moved (s : SS) (i k : Nat) : SS := (s.rws (updN s.row i (sw (s.row i) 1 k))).wt (updN s.W ((s.row i).getD k 0) (s.W ((s.row i).getD k 0) ++ [i]))
def MoveP (B bp : Nat) (s : SS) (F : Ix → Ent) (i : Nat) (w : World) (e : Ending) (w' : World) : Prop :=
  (∃ k, 2 ≤ k ∧ k < (s.row i).length ∧ opp ((s.row i).getD k 0) ∉ s.vt ∧ e = .returned (.bool true) ∧ ∃ F', Mem w' B bp (s.moved i k) F' ∧ (∀ q, q ≠ .watch ((s.row i).getD k 0) → (F' q).v = (F q).v) ∧ Below B w w') ∨
    ((∀ k, 2 ≤ k → k < (s.row i).length → opp ((s.row i).getD k 0) ∈ s.vt) ∧ e = .returned (.bool false) ∧ w' = w)
set_option maxHeartbeats 4000000 in
set_option maxRecDepth 100000 in
theorem move_any (h : Mem w B bp s F) (hV : s.V ≤ 20000) (hcon : ∀ x, x ∈ s.vt → opp x ∉ s.vt) (i : Nat) (hi : i < s.n) (h2 : 2 ≤ (s.row i).length) (hx : ∀ x, x ∈ s.row i → x < 2 * s.V + 2) (hl : (s.row i).length ≤ 100000) (hW : ∀ c, (s.W c).length ≤ 1000000000) :
    Calls Tryd.prog 52 #[.pointer (some ⟨bp, 0, none⟩), pv s.rp i] w (MoveP B bp s F i w) := by
  obtain ⟨gK, cK, hKv, r0, qK, zK, nK, nKR, bK, lK, lR, nR⟩ := h.rowAt hi (by omega)
  obtain ⟨gV, cV, hVv, f7, qV, nV, lV⟩ := h.valAt
  have HQK := Lib.hid qK
  have HQV := Lib.hid qV
  have HX := Lib.hid hx
  have HCON := Lib.hid hcon
  have HM := Lib.hid h
  have HW := Lib.hid hW
  have HKV := Lib.hid hKv
  have HZK := Lib.hid zK
  have HI := Lib.hid hi
  have hB := h.hB
  have hbl := h.obj.lt
  have hpv : pv s.rp i = .pointer (some ⟨s.rp i, 0, none⟩) := rfl
  rw [hpv]
  clear h hcon hx hW hKv zK qK qV hVv hpv hi
  generalize hL : (s.row i).length = L at *
  generalize hri : s.rp i = ri at *
  have HL := Lib.hid hL
  have HRI := Lib.hid hri
  clear hL hri
  go_enter Tryd.func52, Tryd.ntmps52
  go_wp2
  go_loop [5, 6] (fun q c => ∃ k : Nat, 2 ≤ k ∧ k ≤ L ∧ q = .int .i64 k ∧ Hid (∀ j, 2 ≤ j → j < k → opp ((s.row i).getD j 0) ∈ s.vt)) (fun q _ => L - (intOf q).toNat)
  case atStart => exact ⟨2, Nat.le_refl _, h2, rfl, Lib.hid (fun j a b => by omega)⟩
  case round =>
    obtain ⟨k, hk2, hk, rfl, hg⟩ := hrel
    by_cases hlt : k < L
    · have c1 := HQK.out k hlt
      have hxx := HX.out _ (get_mem (r := s.row i) (i := k) (by rw [HL.out]; exact hlt))
      have c2 := HQV.out _ hxx
      by_cases ho : opp ((s.row i).getD k 0) ∈ s.vt
      · rw [val_lo HCON.out ho] at c2
        have HG : Hid (∀ j, 2 ≤ j → j < k + 1 → opp ((s.row i).getD j 0) ∈ s.vt) := Lib.hid (fun j a b => by
          by_cases e : j = k
          · rw [e]; exact ho
          · exact hg.out j a (by omega))
        clear ho hg
        generalize (s.row i).getD k 0 = x at *
        go_wp2
        go_round
        case rel => exact ⟨k + 1, by omega, by omega, by go_num, HG⟩
        case measure => simp [intOf]; omega
      · have hge := val_ge ho
        have c3 := HQK.out 1 (by omega)
        have z1 := HZK.out 1
        have zk := HZK.out k
        have hk1 : ¬ (1 = k) := by omega
        have hk1' : ¬ (k = 1) := by omega
        have hk1n : 1 < L := by omega
        have hwl := HW.out ((s.row i).getD k 0)
        have HK : Hid (2 ≤ k ∧ k < (s.row i).length ∧ opp ((s.row i).getD k 0) ∉ s.vt) := Lib.hid ⟨hk2, by rw [HL.out]; exact hlt, ho⟩
        generalize hz : val s.vt ((s.row i).getD k 0) = z at *
        generalize hxe : (s.row i).getD k 0 = x at *
        generalize hye : (s.row i).getD 1 0 = y at *
        obtain ⟨F1, M1, K1⟩ := HM.out.swRow (i := i) (j := 1) (k := k) HKV.out hxe hye
        have HM1 := Lib.hid (M1.below (Below.refl _ _).drew)
        have HK1 := Lib.hid K1
        have Hxe := Lib.hid hxe
        have hx1 : (x : Int) < 2 * (s.V : Int) + 2 := by omega
        clear hz hxe hye ho hg M1 K1
        go_wp2
        go_region
        have HB2 : Hid (Below B w ((w.setCell ⟨gK, 1, none⟩ (.int .i64 x)).setCell ⟨gK, k, none⟩ (.int .i64 y)).drew) := Lib.hid (((Below.refl B w).setCell bK _).setCell bK _).drew
        clear f7 c1 c2 c3 z1 zk r0 HQK HQV HZK
        generalize ((w.setCell ⟨gK, 1, none⟩ (.int .i64 x)).setCell ⟨gK, k, none⟩ (.int .i64 y)).drew = w2 at *
        obtain ⟨gW, cW, hWv, f6, qW, zW, nW, bW, lW⟩ := HM1.out.watAt
        change (F1 .watches).v = .slice (some ⟨gW, 0, none⟩) (2 * s.V + 2) cW at hWv
        change w2.cell? ⟨bp, 6, none⟩ = some (.slice (some ⟨gW, 0, none⟩) (2 * s.V + 2) cW) at f6
        have p0 := qW x hxx
        have z0 := zW x
        have hbl2 := HM1.out.obj.lt
        have HO := Lib.hid (HM1.out.ownAt (.watch x) rfl)
        have hxl : (cont (s.rws (updN s.row i (sw (s.row i) 1 k))) (fvs F1) (.watch x)).length = (s.W x).length := by simp [cont, SS.rws]
        have hgb := HM1.out.ne (.watch x)
        have hgW : (F1 (.watch x)).v.ownBlock ≠ some gW := fun e => by have := HM1.out.own.2 (.watch x) .watches gW e (by rw [hWv]; rfl); cases this
        have HWv := Lib.hid hWv
        generalize hsv : (F1 (.watch x)).v = sv at *
        have HSV := Lib.hid hsv
        have HPV : Hid (pv (s.rws (updN s.row i (sw (s.row i) 1 k))).rp i = .pointer (some ⟨ri, 0, none⟩)) := Lib.hid (by show pv s.rp i = _; unfold pv; rw [HRI.out])
        clear hWv qW zW hsv
        obtain ⟨i0, hi0, hz0, hz1, hz2⟩ := info_parts infoR
        have hA : Below w2.heap.size w2 (w2.alloc (.cells #[.pointer (some ⟨ri, 0, none⟩)] 73)).drew := ((Below.refl _ _).alloc (Nat.le_refl _) _).drew
        have ma6 : ((w2.alloc (.cells #[.pointer (some ⟨ri, 0, none⟩)] 73)).drew).cell? ⟨bp, 6, none⟩ = some (.slice (some ⟨gW, 0, none⟩) (2 * s.V + 2) cW) := (hA.cell hbl2).trans f6
        have map : ((w2.alloc (.cells #[.pointer (some ⟨ri, 0, none⟩)] 73)).drew).cell? ⟨gW, x, none⟩ = some sv := (hA.cell lW).trans p0
        have maz : ((w2.alloc (.cells #[.pointer (some ⟨ri, 0, none⟩)] 73)).drew).frozen? ⟨gW, x, none⟩ = false := (hA.frozen lW).trans z0
        have HA := Lib.hid hA
        clear hA
        go_wp2_with fail
        refine held.region (fun w' => w'.cell? ⟨bp, 6, none⟩ = some (.slice (some ⟨gW, 0, none⟩) (2 * s.V + 2) cW) ∧ w'.cell? ⟨gW, x, none⟩ = some sv) 16 (by kernel_rfl) ?_
        have hS : w2.drew.cell? ⟨bp, 6, none⟩ = some (.slice (some ⟨gW, 0, none⟩) (2 * s.V + 2) cW) ∧ w2.drew.cell? ⟨gW, x, none⟩ = some sv := ⟨f6, p0⟩
        refine held.wpLeft.take (i := 0) (v := ?_) rfl (by kernel_rfl) (by kernel_rfl) (by kernel_rfl) (by kernel_rfl) (by kernel_rfl) (fun _ _ _ h => h) (by rfl) ?_ hS ?_
        rotate_left
        · (intro w hSw; obtain ⟨s1, s2⟩ := hSw; go_simp; try with_reducible rfl)
        simp only [Act.put, List.setIfInBounds_toArray, List.set_cons_zero, List.set_cons_succ]
        refine held.wpLeft.take (i := 1) (v := ?_) rfl (by kernel_rfl) (by kernel_rfl) (by kernel_rfl) (by kernel_rfl) (by kernel_rfl) (fun _ _ _ h => h) (by rfl) ?_ hS ?_
        rotate_left
        · (intro w hSw; obtain ⟨s1, s2⟩ := hSw; go_simp; try with_reducible rfl)
        simp only [Act.put, List.setIfInBounds_toArray, List.set_cons_zero, List.set_cons_succ]
        refine held.wpLeft.take (i := 2) (v := ?_) rfl (by kernel_rfl) (by kernel_rfl) (by kernel_rfl) (by kernel_rfl) (by kernel_rfl) (fun _ _ _ h => h) (by rfl) ?_ hS ?_
        rotate_left
        · (intro w hSw; obtain ⟨s1, s2⟩ := hSw; go_simp; try with_reducible rfl)
        simp only [Act.put, List.setIfInBounds_toArray, List.set_cons_zero, List.set_cons_succ]
        refine held.wpLeft.take (i := 3) (v := ?_) rfl (by kernel_rfl) (by kernel_rfl) (by kernel_rfl) (by kernel_rfl) (by kernel_rfl) (fun _ _ _ h => h) (by rfl) ?_ hS ?_
        rotate_left
        · (intro w hSw; obtain ⟨s1, s2⟩ := hSw; go_simp; try with_reducible rfl)
        simp only [Act.put, List.setIfInBounds_toArray, List.set_cons_zero, List.set_cons_succ]
        refine held.wpLeft.take (i := 4) (v := ?_) rfl (by kernel_rfl) (by kernel_rfl) (by kernel_rfl) (by kernel_rfl) (by kernel_rfl) (fun _ _ _ h => h) (by rfl) ?_ hS ?_
        rotate_left
        · (intro w hSw; obtain ⟨s1, s2⟩ := hSw; go_simp; try with_reducible rfl)
        simp only [Act.put, List.setIfInBounds_toArray, List.set_cons_zero, List.set_cons_succ]
        refine held.wpLeft.take (i := 5) (v := ?_) rfl (by kernel_rfl) (by kernel_rfl) (by kernel_rfl) (by kernel_rfl) (by kernel_rfl) (fun _ _ _ h => h) (by rfl) ?_ hS ?_
        rotate_left
        · (intro w hSw; obtain ⟨s1, s2⟩ := hSw; go_simp; try with_reducible rfl)
        simp only [Act.put, List.setIfInBounds_toArray, List.set_cons_zero, List.set_cons_succ]
        refine held.wpLeft.take (i := 6) (v := ?_) rfl (by kernel_rfl) (by kernel_rfl) (by kernel_rfl) (by kernel_rfl) (by kernel_rfl) (fun _ _ _ h => h) (by rfl) ?_ hS ?_
        rotate_left
        · (intro w hSw; obtain ⟨s1, s2⟩ := hSw; go_simp; try with_reducible rfl)
        simp only [Act.put, List.setIfInBounds_toArray, List.set_cons_zero, List.set_cons_succ]
        refine held.wpLeft.take (i := 7) (v := ?_) rfl (by kernel_rfl) (by kernel_rfl) (by kernel_rfl) (by kernel_rfl) (by kernel_rfl) (fun _ _ _ h => h) (by rfl) ?_ hS ?_
        rotate_left
        · (intro w hSw; obtain ⟨s1, s2⟩ := hSw; go_simp; try with_reducible rfl)
        simp only [Act.put, List.setIfInBounds_toArray, List.set_cons_zero, List.set_cons_succ]
        refine held.wpLeft.take (i := 8) (v := ?_) rfl (by kernel_rfl) (by kernel_rfl) (by kernel_rfl) (by kernel_rfl) (by kernel_rfl) (fun _ _ _ h => h) (by rfl) ?_ hS ?_
        rotate_left
        · (intro w hSw; obtain ⟨s1, s2⟩ := hSw; go_simp; try with_reducible rfl)
        simp only [Act.put, List.setIfInBounds_toArray, List.set_cons_zero, List.set_cons_succ]
        refine held.wpLeft.take (i := 9) (v := ?_) rfl (by kernel_rfl) (by kernel_rfl) (by kernel_rfl) (by kernel_rfl) (by kernel_rfl) (fun _ _ _ h => h) (by rfl) ?_ hS ?_
        rotate_left
        · (intro w hSw; obtain ⟨s1, s2⟩ := hSw; go_simp; try with_reducible rfl)
        simp only [Act.put, List.setIfInBounds_toArray, List.set_cons_zero, List.set_cons_succ]
        refine held.wpLeft.take (i := 10) (v := ?_) rfl (by kernel_rfl) (by kernel_rfl) (by kernel_rfl) (by kernel_rfl) (by kernel_rfl) (fun _ _ _ h => h) (by rfl) ?_ hS ?_
        rotate_left
        · (intro w hSw; obtain ⟨s1, s2⟩ := hSw; go_simp; try with_reducible rfl)
        simp only [Act.put, List.setIfInBounds_toArray, List.set_cons_zero, List.set_cons_succ]
        refine held.wpLeft.take (i := 11) (v := ?_) rfl (by kernel_rfl) (by kernel_rfl) (by kernel_rfl) (by kernel_rfl) (by kernel_rfl) (fun _ _ _ h => h) (by rfl) ?_ hS ?_
        rotate_left
        · (intro w hSw; obtain ⟨s1, s2⟩ := hSw; go_simp; try with_reducible rfl)
        simp only [Act.put, List.setIfInBounds_toArray, List.set_cons_zero, List.set_cons_succ]
        refine held.wpLeft.take (i := 12) (v := ?_) rfl (by kernel_rfl) (by kernel_rfl) (by kernel_rfl) (by kernel_rfl) (by kernel_rfl) (fun _ _ _ h => h) (by rfl) ?_ hS ?_
        rotate_left
        · (intro w hSw; obtain ⟨s1, s2⟩ := hSw; go_simp; try with_reducible rfl)
        simp only [Act.put, List.setIfInBounds_toArray, List.set_cons_zero, List.set_cons_succ]
        refine held.wpLeft.one (i := 13) (by kernel_rfl) rfl (fun K hK => ?_)
        go_simp
        refine hK.out _ _ (fun _ => ⟨ma6, map⟩) ?_
        clear hK K
        refine held.wpLeft.one (i := 14) (by kernel_rfl) rfl (fun K2 hK2 => ?_)
        refine step_append_lies _ (by rfl) _ _ _ (by rfl) B 73 i0 _ 1 8 Tryd.underlying48 hi0 hz0 hz1 hz2 rfl (by omega) sv (s.W x).length (cont (s.rws (updN s.row i (sw (s.row i) 1 k))) (fvs F1) (.watch x)) (by rfl) (by have := (HO.out.alloc (.cells #[.pointer (some ⟨ri, 0, none⟩)] 73)).drew; rw [hxl] at this; exact this) ⟨w2.heap.size, 0, none⟩ 1 1 [.pointer (some ⟨ri, 0, none⟩)] (by rfl) (by rfl) (World.news_of_block (cs := #[.pointer (some ⟨ri, 0, none⟩)]) (t := 73) (fr := (0, 0)) (heap_alloc_new w2 _)) (by simp [Value.oneCell']) (by omega) (by unfold maxLen; omega) (by omega) (by simp; omega) (w2.heap.size + 1) (by simp) ?_
        intro gg cap w1 hown1 hgrow hat hlt1
        have m6 : w1.cell? ⟨bp, 6, none⟩ = some (.slice (some ⟨gW, 0, none⟩) (2 * s.V + 2) cW) := hgrow.cell ma6 (fun e => hgb e.symm)
        have mp : w1.cell? ⟨gW, x, none⟩ = some sv := hgrow.cell map (fun e => hgW e.symm)
        have zw : w1.frozen? ⟨gW, x, none⟩ = false := (World.frozen?_of_block (hgrow.block gW (by simp; omega) (fun e => hgW e.symm))).trans maz
        obtain ⟨F3, M3, K3, B3⟩ := HM1.out.appW (c := x) (i := i) rfl hxx HWv.out bW HA.out (by rw [HPV.out]; exact hown1) (by rw [HSV.out]; exact hgrow) (by
          rw [HSV.out]
          rcases hat with hat | hat
          · exact .inl hat.symm
          · exact .inr (by rw [hat]; simp))
        have HFIN : Hid (MoveP B bp s F i w (.returned (.bool true)) (w1.setCell ⟨gW, x, none⟩ (.slice (some ⟨gg, 0, none⟩) ((s.W x).length + 1) cap))) := Lib.hid (.inl ⟨k, HK.out.1, HK.out.2.1, by rw [Hxe.out]; exact HK.out.2.2, rfl, F3, by unfold SS.moved; rw [Hxe.out]; exact M3, fun q hq => (K3 q (by rw [Hxe.out] at hq; exact hq)).trans (congrFun HK1.out q), HB2.out.trans B3⟩)
        refine hK2.out _ _ (fun _ => ⟨m6, mp⟩) ?_
        clear hK2 K2 hown1 hgrow hat hlt1 M3 K3 B3
        refine held.wpLeft.one (i := 15) (by kernel_rfl) rfl (fun K3 hK3 => ?_)
        go_simp
        refine hK3.out _ _ (fun _ => ⟨m6, mp⟩) ?_
        clear hK3 K3
        refine held.wpLeft.one (i := 16) (by kernel_rfl) rfl (fun K3 hK3 => ?_)
        go_simp
        refine hK3.out _ _ (fun h => absurd rfl h) ?_
        clear hK3 K3
        refine held.wpLeft.done (by kernel_rfl) ?_
        clear m6 mp zw ma6 map maz f6 p0 z0 HO HA HM1
        go_wp2
        go_ret
        exact HFIN.out
    · obtain rfl : k = L := by omega
      go_wp2
      go_ret
      exact .inr ⟨fun j a b => hg.out j a (by rw [← HL.out]; exact b), rfl, rfl⟩
end
end Go.Proofs.YtojjjndhabjhdaaDoor.satJ
