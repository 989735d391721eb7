/-
  Contract of (*prover).move.
-/
import Derived.Test.YtojjjndhabjhdaaProofA
import Derived.Deep.RegionLaw
import Derived.Deep.AppendLies
import Derived.Deep.DrawnRows
import Derived.Laws.Pointers
import Derived.Test.YtojjjndhabjhdaaHeld
namespace Go.Proofs.Ytojjjndhabjhdaa.proofB
set_option linter.unusedSimpArgs false
set_option linter.unusedVariables false
open Go.ChangeShapes Go.WideShapes Go.ChangeAt Go.RowKit proofP proofQ owns proofA
attribute [local go_sem ↓] Go.wp_at_zero Go.wp_at_succ

section
variable {w : World} {B bp : Nat} {lv va : Value} {first nv : Nat} {s : PS} {F : Ix → Ent}

theorem _root_.Go.Proofs.Ytojjjndhabjhdaa.proofA.Mem.rowsAt (h : Mem w B bp lv va first nv s F) (hn : 0 < s.n) : ∃ g cap, (F .rows).v = .slice (some ⟨g, 0, none⟩) s.n cap ∧ ∀ i, i < s.n → w.cell? ⟨g, i, none⟩ = some (F (.row i)).v := by
  have hl : (F .rows).xs.length = s.n := by rw [h.rows]; simp
  obtain ⟨g, cap, hv, h1, h2, _, _⟩ := h.own.form .rows (by omega)
  rw [hl] at hv
  exact ⟨g, cap, hv, fun i hi => by rw [h.own.cell hv i (by omega), h.rows]; simp [hi]⟩
theorem _root_.Go.Proofs.Ytojjjndhabjhdaa.proofA.Mem.onAt (h : Mem w B bp lv va first nv s F) (hn : 0 < s.n) : ∃ g cap, (F .on).v = .slice (some ⟨g, 0, none⟩) s.n cap ∧ ∀ i, i < s.n → w.cell? ⟨g, i, none⟩ = some (.bool (s.on i)) := by
  have hl : (F .on).xs.length = s.n := by rw [h.on]; simp
  obtain ⟨g, cap, hv, h1, h2, _, _⟩ := h.own.form .on (by omega)
  rw [hl] at hv
  exact ⟨g, cap, hv, fun i hi => by rw [h.own.cell hv i (by omega), h.on]; simp [hi]⟩
theorem _root_.Go.Proofs.Ytojjjndhabjhdaa.proofA.Mem.watchesAt (h : Mem w B bp lv va first nv s F) (hn : 0 < s.m) : ∃ g cap, (F .watches).v = .slice (some ⟨g, 0, none⟩) s.m cap ∧ (∀ i, i < s.m → w.cell? ⟨g, i, none⟩ = some (F (.watch i)).v) ∧ g ≠ bp ∧ B ≤ g ∧ g < w.heap.size ∧ ∀ i, w.frozen? ⟨g, i, none⟩ = false := by
  have hl : (F .watches).xs.length = s.m := by rw [h.watches]; simp
  obtain ⟨g, cap, hv, h1, h2, _, _⟩ := h.own.form .watches (by omega)
  rw [hl] at hv
  exact ⟨g, cap, hv, fun i hi => by rw [h.own.cell hv i (by omega), h.watches]; simp [hi], fun e => h.ne .watches (by rw [hv, e]; rfl), h1, h2, fun i => h.own.frozen hv i⟩
theorem getD_iv {l : List Nat} {j : Nat} (hj : j < l.length) : (l.map iv)[j]? = some (.int .i64 (l.getD j 0 : Nat)) := by
  rw [List.getElem?_map, List.getElem?_eq_getElem hj, List.getD_eq_getElem?_getD, List.getElem?_eq_getElem hj]; rfl
theorem _root_.Go.Proofs.Ytojjjndhabjhdaa.proofA.Mem.rowAt (h : Mem w B bp lv va first nv s F) (i : Nat) (hn : 0 < (s.row i).length) : ∃ g cap, (F (.row i)).v = .slice (some ⟨g, 0, none⟩) (s.row i).length cap ∧ (∀ j, j < (s.row i).length → w.cell? ⟨g, j, none⟩ = some (.int .i64 ((s.row i).getD j 0 : Nat))) ∧ g ≠ bp ∧ B ≤ g ∧ g < w.heap.size ∧ ∀ j, w.frozen? ⟨g, j, none⟩ = false := by
  have hl : (F (.row i)).xs.length = (s.row i).length := by rw [h.row]; simp
  obtain ⟨g, cap, hv, h1, h2, _, _⟩ := h.own.form (.row i) (by omega)
  rw [hl] at hv
  exact ⟨g, cap, hv, fun j hj => by rw [h.own.cell hv j (by omega), h.row]; exact getD_iv hj, fun e => h.ne (.row i) (by rw [hv, e]; rfl), h1, h2, fun j => h.own.frozen hv j⟩
end

theorem val_lo {trail : List Nat} (h : TI trail) {x : Nat} (hx : opp x ∈ trail) : val trail x = -1 := val_neg (fun hh => h.con x hh hx) hx
theorem val_ge {trail : List Nat} {x : Nat} (hx : opp x ∉ trail) : 0 ≤ val trail x := by
  by_cases h : x ∈ trail
  · rw [val_pos h]; decide
  · rw [val_zero h hx]; decide

def moved (s : PS) (i k : Nat) : PS := { s with row := updN s.row i (sw (s.row i) 1 k), W := updN s.W ((s.row i).getD k 0) (s.W ((s.row i).getD k 0) ++ [i]) }
theorem ent_ext {a b : Ent} (e : a.e = b.e) (v : a.v = b.v) (x : a.xs = b.xs) : a = b := by cases a; cases b; simp_all
theorem watch_core {w W2 w1 : World} {B bp : Nat} {lv va : Value} {first nv : Nat} {s : PS} {F F2 : Ix → Ent} {row' : Nat → List Nat} (h : Mem w B bp lv va first nv s F) {x i gW capW gg cap : Nat} (o : Obj) (hxm : x < s.m) (hWv : (F .watches).v = .slice (some ⟨gW, 0, none⟩) s.m capW)
    (O2 : Owns W2 B F2) (G2 : Below B w W2) (he : ∀ k, (F2 k).e = (F k).e) (hv : ∀ k, (F2 k).v = (F k).v) (hx : ∀ k, (∀ j, k ≠ .row j) → (F2 k).xs = (F k).xs) (hr : ∀ j, (F2 (.row j)).xs = (row' j).map iv) (hob : Whole W2 bp 68 [lv, iv first, (F .rows).v, (F .on).v, va, (F .short).v, (F .watches).v, (F .value).v, (F .trail).v])
    (hown1 : w1.ownsRow B 3 1 (.slice (some ⟨gg, 0, none⟩) ((s.W x).length + 1) cap) ((s.W x).length + 1) ((s.W x).map iv ++ [.int .i64 i])) (hgrow : ((W2.alloc o).drew).grownBy w1 (F (.watch x)).v.ownBlock) (hat : (F (.watch x)).v.ownBlock = some gg ∨ gg = W2.heap.size + 1) :
    Below B w (w1.setCell ⟨gW, x, none⟩ (.slice (some ⟨gg, 0, none⟩) ((s.W x).length + 1) cap)) ∧ ∃ F', Mem (w1.setCell ⟨gW, x, none⟩ (.slice (some ⟨gg, 0, none⟩) ((s.W x).length + 1) cap)) B bp lv va first nv { s with row := row', W := updN s.W x (s.W x ++ [i]) } F' ∧ (∀ k, k ≠ .watch x → (F' k).v = (F k).v) ∧ F' .always = F .always := by
  have hBW : B ≤ W2.heap.size := Nat.le_trans h.hB (Nat.le_of_lt hob.lt)
  have O3 := ((O2.alloc o).drew).step (.watch x) ⟨3, .slice (some ⟨gg, 0, none⟩) ((s.W x).length + 1) cap, (s.W x).map iv ++ [.int .i64 i]⟩ (by rw [hv]; exact hgrow) (by simpa using hown1) (by
    rw [hv]
    rcases hat with hat | hat
    · exact .inl hat.symm
    · exact .inr (.inr ⟨gg, rfl, by simp; omega⟩))
  have hWv3 : (upd F2 (.watch x) ⟨3, .slice (some ⟨gg, 0, none⟩) ((s.W x).length + 1) cap, (s.W x).map iv ++ [.int .i64 i]⟩ .watches).v = .slice (some ⟨gW, 0, none⟩) s.m capW := by rw [upd_other _ _ (by simp), hv, hWv]
  obtain ⟨O4, G4⟩ := O3.set hWv3 x (.slice (some ⟨gg, 0, none⟩) ((s.W x).length + 1) cap)
  have hgW : gW ≠ bp := fun e => h.ne .watches (by rw [hWv, e]; rfl)
  have hBg : B ≤ gW := ((h.own.1 .watches).lt gW (by rw [hWv]; rfl)).1
  have hob1 : Whole w1 bp 68 [lv, iv first, (F .rows).v, (F .on).v, va, (F .short).v, (F .watches).v, (F .value).v, (F .trail).v] := by
    have a2 := hob.below (((Below.refl _ _).alloc (Nat.le_refl _) o).drew) hob.lt
    exact a2.kept hgrow (h.ne _)
  have hB1 : Below B w w1 := (((G2.alloc hBW o).drew)).grown hgrow (by simp; omega) (fun k hk => ((h.own.1 (.watch x)).lt k hk).1)
  refine ⟨hB1.setCell hBg _, _, ⟨O4, ?_, ⟨h.hx.1, (ent_ext (he .extra) (hv .extra) (hx .extra (by simp))).trans h.hx.2⟩, fun k => ?_, fun k => ?_, ?_, ?_, ?_, ?_, ?_, ?_, fun j => ?_, fun c => ?_⟩, fun k hk => ?_, ?_⟩
  rotate_right
  rotate_right
  · by_cases e1 : k = .watches
    · subst e1; rw [upd_same]; dsimp only; rw [hWv3, hWv]
    · rw [upd_other _ _ e1, upd_other _ _ hk, hv]
  · rw [upd_other _ _ (by simp), upd_other _ _ (by simp)]
    have h1 := he .always
    have h2 := hv .always
    have h3 := hx .always (by simp)
    cases hF2 : F2 .always; cases hF : F .always
    rw [hF2, hF] at h1 h2 h3
    simp only at h1 h2 h3
    rw [h1, h2, h3]
  · have a3 := hob1.kept G4 (by intro e; cases e; exact hgW rfl)
    simpa [upd, hv] using a3
  · by_cases e1 : k = .watches
    · subst e1; rw [upd_same]; dsimp only; rw [hWv3]; intro e; cases e; exact hgW rfl
    · rw [upd_other _ _ e1]
      by_cases e2 : k = .watch x
      · subst e2
        rw [upd_same]
        rcases hat with hat | hat
        · intro e; exact h.ne (.watch x) (by rw [hat]; exact e)
        · intro e
          have e' : gg = bp := by simpa [Value.ownBlock] using e
          have := hob.lt; omega
      · rw [upd_other _ _ e2, hv]; exact h.ne k
  · by_cases e1 : k = .watches
    · subst e1; rw [upd_same]; dsimp only; rw [upd_other _ _ (by simp), he]; exact h.te .watches
    · rw [upd_other _ _ e1]
      by_cases e2 : k = .watch x
      · subst e2; rw [upd_same]; rfl
      · rw [upd_other _ _ e2, he]; exact h.te k
  · simp [upd, hx, h.on]
  · simp [upd, hx, h.short]
  · simp [upd, hx, h.rows, hv]
  · rw [upd_same]
    dsimp only
    rw [upd_other _ _ (by simp), hx .watches (by simp), h.watches]
    apply List.ext_getElem?
    intro j
    rw [List.getElem?_set]
    simp only [List.length_map, List.length_range, List.getElem?_map]
    by_cases e : x = j
    · subst e
      simp only [if_true, hxm, List.getElem?_range hxm, Option.map_some]
      rw [upd_other _ _ (by simp), upd_same]
    · rw [if_neg e]
      by_cases hj : j < s.m
      · simp only [List.getElem?_range hj, Option.map_some]
        rw [upd_other _ _ (by simp), upd_other _ _ (by simp; exact fun e' => e e'.symm), hv]
      · rw [List.getElem?_eq_none (by simp; omega)]; rfl
  · simp [upd, hx, h.value]
  · simp [upd, hx, h.trail]
  · rw [upd_other _ _ (by simp), upd_other _ _ (by simp), hr]
  · rw [upd_other _ _ (by simp)]
    by_cases e : c = x
    · subst e; rw [upd_same]; dsimp only; rw [updN_same, List.map_append]; rfl
    · rw [upd_other _ _ (by simpa using e), hx _ (by simp), h.watch]; dsimp only; rw [updN_other _ _ e]
theorem watch_mem {w W2 w1 : World} {B bp : Nat} {lv va : Value} {first nv : Nat} {s : PS} {F F2 : Ix → Ent} {row' : Nat → List Nat} (h : Mem w B bp lv va first nv s F) {x i gW capW gg cap : Nat} (o : Obj) (hxm : x < s.m) (hWv : (F .watches).v = .slice (some ⟨gW, 0, none⟩) s.m capW)
    (O2 : Owns W2 B F2) (G2 : Below B w W2) (he : ∀ k, (F2 k).e = (F k).e) (hv : ∀ k, (F2 k).v = (F k).v) (hx : ∀ k, (∀ j, k ≠ .row j) → (F2 k).xs = (F k).xs) (hr : ∀ j, (F2 (.row j)).xs = (row' j).map iv) (hob : Whole W2 bp 68 [lv, iv first, (F .rows).v, (F .on).v, va, (F .short).v, (F .watches).v, (F .value).v, (F .trail).v])
    (hown1 : w1.ownsRow B 3 1 (.slice (some ⟨gg, 0, none⟩) ((s.W x).length + 1) cap) ((s.W x).length + 1) ((s.W x).map iv ++ [.int .i64 i])) (hgrow : ((W2.alloc o).drew).grownBy w1 (F (.watch x)).v.ownBlock) (hat : (F (.watch x)).v.ownBlock = some gg ∨ gg = W2.heap.size + 1) :
    After B bp lv first nv { s with row := row', W := updN s.W x (s.W x ++ [i]) } (fun k => k ≠ .watch x) F w (w1.setCell ⟨gW, x, none⟩ (.slice (some ⟨gg, 0, none⟩) ((s.W x).length + 1) cap)) := by
  obtain ⟨h1, F', h2, h3, _⟩ := watch_core (row' := row') h o hxm hWv O2 G2 he hv hx hr hob hown1 hgrow hat
  exact ⟨h1, va, F', h2, h3⟩
theorem row_sw {w : World} {B bp : Nat} {lv va : Value} {first nv : Nat} {s : PS} {F : Ix → Ent} (h : Mem w B bp lv va first nv s F) {i k x y : Nat} (hx : (s.row i).getD k 0 = x) (hy : (s.row i).getD 1 0 = y) (hk : 1 < (s.row i).length) :
    ∀ j, (upd F (.row i) ⟨(F (.row i)).e, (F (.row i)).v, ((F (.row i)).xs.set 1 (.int .i64 x)).set k (.int .i64 y)⟩ (.row j)).xs = (updN s.row i (sw (s.row i) 1 k) j).map iv := by
  intro j
  by_cases e : j = i
  · subst e
    rw [upd_same, updN_same]
    dsimp only
    rw [h.row]
    unfold sw
    rw [hx, hy, List.map_set, List.map_set]
    rfl
  · rw [upd_other _ _ (by simpa using e), updN_other _ _ e, h.row]
def MoveP (B bp : Nat) (lv : Value) (first nv : Nat) (s : PS) (F : Ix → Ent) (i : Nat) (w : World) (e : Ending) (w' : World) : Prop :=
  (∃ k, 2 ≤ k ∧ k < (s.row i).length ∧ opp ((s.row i).getD k 0) ∉ s.trail ∧ e = .returned (.bool true) ∧ After B bp lv first nv (moved s i k) (fun j => j ≠ .watch ((s.row i).getD k 0)) F w w') ∨
    ((∀ k, 2 ≤ k → k < (s.row i).length → opp ((s.row i).getD k 0) ∈ s.trail) ∧ e = .returned (.bool false) ∧ w = w')

set_option maxHeartbeats 2000000 in
set_option maxRecDepth 100000 in
theorem move_any (B bp : Nat) (lv va : Value) (first nv : Nat) (s : PS) (F : Ix → Ent) (w : World) (h : Mem w B bp lv va first nv s F) (T : TI s.trail) (i : Nat) (hi : i < s.n) (h2 : 2 ≤ (s.row i).length) (hx : ∀ x, x ∈ s.row i → x < s.m ∧ x < nv)
    (hl : (s.row i).length ≤ 100000) (hW : ∀ c, (s.W c).length ≤ 100000) :
    Calls Try.prog 70 #[.pointer (some ⟨bp, 0, none⟩), .int .i64 i] w (MoveP B bp lv first nv s F i w) := by
  have HM := Lib.hid h
  have HT := Lib.hid T
  have HX := Lib.hid hx
  have HW := Lib.hid hW
  obtain ⟨gR, capR, hR, hR1⟩ := h.rowsAt (by omega)
  obtain ⟨gi, capi, hI, hI1, hI2, hI3, hI4, hI5⟩ := h.rowAt i (by omega)
  have x0 := hx _ (get_mem (r := s.row i) (i := 0) (by omega))
  obtain ⟨gV, capV, hV, hV1, hV2, hV3, hV4, hV5⟩ := h.vals (by omega)
  obtain ⟨gW, capW, hWv, hW1, hW2, hW3, hW4, hW5⟩ := h.watchesAt (by omega)
  obtain ⟨f0, f1, f2, f3, f5, f6, f7, f8⟩ := h.field
  rw [hR] at f2
  rw [hV] at f7
  rw [hWv] at f6
  have r1 := hR1 i hi
  rw [hI] at r1
  have HI1 := Lib.hid hI1
  have HI5 := Lib.hid hI5
  have HV1 := Lib.hid hV4
  have HW1 := Lib.hid hW1
  have HW5 := Lib.hid hW5
  have HI := Lib.hid hI
  have HWv := Lib.hid hWv
  clear h T hx hW hR1 hI1 hI5 hV4 hV5 hW1 hW5 f0 f1 f3 f5 f8 x0 hR hI hV hWv
  generalize hL : (s.row i).length = L at *
  have HL := Lib.hid hL
  clear hL
  go_enter Try.func70, Try.ntmps70
  go_wp2
  go_loop [6] (fun q => ∃ k : Nat, 2 ≤ k ∧ k ≤ L ∧ q = .int .i64 k ∧ Hid (∀ j, 2 ≤ j → j < k → opp ((s.row i).getD j 0) ∈ s.trail)) (fun q => L - (intOf q).toNat)
  case atStart => exact ⟨2, Nat.le_refl _, h2, rfl, Lib.hid (fun j a b => by omega)⟩
  case round =>
    obtain ⟨k, hk2, hk, rfl, hg⟩ := hrel
    by_cases hlt : k < L
    · have c1 := HI1.out k hlt
      have hxx := HX.out _ (get_mem (r := s.row i) (i := k) (by rw [HL.out]; exact hlt))
      have c2 := HV1.out _ hxx.2
      by_cases ho : opp ((s.row i).getD k 0) ∈ s.trail
      · rw [val_lo HT.out ho] at c2
        have HG : Hid (∀ j, 2 ≤ j → j < k + 1 → opp ((s.row i).getD j 0) ∈ s.trail) := Lib.hid (fun j a b => by
          by_cases e : j = k
          · rw [e]; exact ho
          · exact hg.out j a (by omega))
        obtain ⟨hxm, hxv⟩ := hxx
        clear ho hg
        generalize (s.row i).getD k 0 = x at *
        go_wp2
        go_round
        case rel => exact ⟨k + 1, by omega, by omega, by go_num, HG⟩
        case measure => simp [intOf]; omega
      · have hge := val_ge ho
        have c3 := HI1.out 1 (by omega)
        have z1 := HI5.out 1
        have zk := HI5.out k
        have hk1 : ¬ (1 = k) := by omega
        have hk1' : ¬ (k = 1) := by omega
        obtain ⟨hxm, hxv⟩ := hxx
        have wx := HW1.out _ hxm
        have zx := HW5.out ((s.row i).getD k 0)
        have HO := Lib.hid (HM.out.own.set2 HI.out 1 k (iv ((s.row i).getD k 0)) (iv ((s.row i).getD 1 0)))
        have HWl := Lib.hid (HW.out ((s.row i).getD k 0))
        have HK : Hid (2 ≤ k ∧ k < (s.row i).length ∧ opp ((s.row i).getD k 0) ∉ s.trail) := Lib.hid ⟨hk2, by rw [HL.out]; exact hlt, ho⟩
        generalize hz : val s.trail ((s.row i).getD k 0) = z at *
        generalize hxe : (s.row i).getD k 0 = x at *
        generalize hye : (s.row i).getD 1 0 = y at *
        generalize hwv : (F (.watch x)).v = wv at *
        have Hxe := Lib.hid hxe
        have Hye := Lib.hid hye
        have Hwv := Lib.hid hwv
        clear hz hxe hye ho hg hwv
        obtain ⟨i0, hi0, hz0, hz1, hz2⟩ := info_parts infoI
        go_wp2
        obtain ⟨O2, G2⟩ := HO.out
        have hgg : gW ≠ gi := fun e => by have := HM.out.own.2 .watches (.row i) gi (by rw [HWv.out, e]; rfl) (by rw [HI.out]; rfl); cases this
        unfold iv at O2 G2
        generalize hW2e : World.setCell (w.setCell ⟨gi, 1, none⟩ (.int .i64 x)) ⟨gi, k, none⟩ (.int .i64 y) = W2 at O2 G2 ⊢
        clear hW2e
        have m6 := G2.cell f6 (by simp; exact fun e => hI2 e.symm)
        have mw := G2.cell wx (by simpa using hgg)
        have hsz := G2.size
        have hO2 : W2.ownsRow B 3 1 wv (s.W x).length ((s.W x).map iv) := O2.at (.watch x) (by simp [upd, HM.out.te, tx, ty]) (by simp [upd, Hwv.out]) (by simp) (by simp [upd, HM.out.watch])
        have HO2 := Lib.hid hO2
        have HO3 := Lib.hid O2
        have HG2 := Lib.hid G2
        have hwl := HWl.out
        have nb1 : wv.ownBlock ≠ some bp := by rw [← Hwv.out]; exact HM.out.ne (.watch x)
        have nb2 : wv.ownBlock ≠ some gW := by
          intro e
          have := HM.out.own.2 (.watch x) .watches gW (by rw [Hwv.out]; exact e) (by rw [HWv.out]; rfl)
          cases this
        have hx0 : (0 : Int) ≤ (x : Int) := Int.natCast_nonneg _
        have hx1 : (x : Int) < (s.m : Int) := by omega
        have hbl : bp < W2.heap.size := by have := HM.out.obj.lt; omega
        have hgl : gW < W2.heap.size := by omega
        have hA : Below W2.heap.size W2 (W2.alloc (.cells #[.int .i64 i] 3)).drew := ((Below.refl _ _).alloc (Nat.le_refl _) _).drew
        clear O2 G2 hO2 f2 f6 f7 r1 c1 c2 c3 z1 zk wx zx hge
        have ma6 : ((W2.alloc (.cells #[.int .i64 i] 3)).drew).cell? ⟨bp, 6, none⟩ = some (.slice (some ⟨gW, 0, none⟩) s.m capW) := (hA.cell hbl).trans m6
        have maw : ((W2.alloc (.cells #[.int .i64 i] 3)).drew).cell? ⟨gW, x, none⟩ = some wv := (hA.cell hgl).trans mw
        have maz : ((W2.alloc (.cells #[.int .i64 i] 3)).drew).frozen? ⟨gW, x, none⟩ = false := (hA.frozen hgl).trans (HO3.out.frozen (k := .watches) (g := gW) (n := s.m) (cap := capW) (by simp [upd, HWv.out]) x)
        clear hA
        refine held.region (fun w' => w'.cell? ⟨bp, 6, none⟩ = some (.slice (some ⟨gW, 0, none⟩) s.m capW) ∧ w'.cell? ⟨gW, x, none⟩ = some wv) 16 (by kernel_rfl) ?_
        have hS : W2.drew.cell? ⟨bp, 6, none⟩ = some (.slice (some ⟨gW, 0, none⟩) s.m capW) ∧ W2.drew.cell? ⟨gW, x, none⟩ = some wv := ⟨m6, mw⟩
        refine held.wpLeft.take (i := 0) (v := ?_) rfl (by kernel_rfl) (by kernel_rfl) (by kernel_rfl) (by kernel_rfl) (by kernel_rfl) (fun _ _ _ h => h) (by rfl) ?_ hS ?_
        rotate_left
        · (intro w hSw; obtain ⟨s1, s2⟩ := hSw; go_simp; try with_reducible rfl)
        simp only [Act.put, List.setIfInBounds_toArray, List.set_cons_zero, List.set_cons_succ]
        refine held.wpLeft.take (i := 1) (v := ?_) rfl (by kernel_rfl) (by kernel_rfl) (by kernel_rfl) (by kernel_rfl) (by kernel_rfl) (fun _ _ _ h => h) (by rfl) ?_ hS ?_
        rotate_left
        · (intro w hSw; obtain ⟨s1, s2⟩ := hSw; go_simp; try with_reducible rfl)
        simp only [Act.put, List.setIfInBounds_toArray, List.set_cons_zero, List.set_cons_succ]
        refine held.wpLeft.take (i := 2) (v := ?_) rfl (by kernel_rfl) (by kernel_rfl) (by kernel_rfl) (by kernel_rfl) (by kernel_rfl) (fun _ _ _ h => h) (by rfl) ?_ hS ?_
        rotate_left
        · (intro w hSw; obtain ⟨s1, s2⟩ := hSw; go_simp; try with_reducible rfl)
        simp only [Act.put, List.setIfInBounds_toArray, List.set_cons_zero, List.set_cons_succ]
        refine held.wpLeft.take (i := 3) (v := ?_) rfl (by kernel_rfl) (by kernel_rfl) (by kernel_rfl) (by kernel_rfl) (by kernel_rfl) (fun _ _ _ h => h) (by rfl) ?_ hS ?_
        rotate_left
        · (intro w hSw; obtain ⟨s1, s2⟩ := hSw; go_simp; try with_reducible rfl)
        simp only [Act.put, List.setIfInBounds_toArray, List.set_cons_zero, List.set_cons_succ]
        refine held.wpLeft.take (i := 4) (v := ?_) rfl (by kernel_rfl) (by kernel_rfl) (by kernel_rfl) (by kernel_rfl) (by kernel_rfl) (fun _ _ _ h => h) (by rfl) ?_ hS ?_
        rotate_left
        · (intro w hSw; obtain ⟨s1, s2⟩ := hSw; go_simp; try with_reducible rfl)
        simp only [Act.put, List.setIfInBounds_toArray, List.set_cons_zero, List.set_cons_succ]
        refine held.wpLeft.take (i := 5) (v := ?_) rfl (by kernel_rfl) (by kernel_rfl) (by kernel_rfl) (by kernel_rfl) (by kernel_rfl) (fun _ _ _ h => h) (by rfl) ?_ hS ?_
        rotate_left
        · (intro w hSw; obtain ⟨s1, s2⟩ := hSw; go_simp; try with_reducible rfl)
        simp only [Act.put, List.setIfInBounds_toArray, List.set_cons_zero, List.set_cons_succ]
        refine held.wpLeft.take (i := 6) (v := ?_) rfl (by kernel_rfl) (by kernel_rfl) (by kernel_rfl) (by kernel_rfl) (by kernel_rfl) (fun _ _ _ h => h) (by rfl) ?_ hS ?_
        rotate_left
        · (intro w hSw; obtain ⟨s1, s2⟩ := hSw; go_simp; try with_reducible rfl)
        simp only [Act.put, List.setIfInBounds_toArray, List.set_cons_zero, List.set_cons_succ]
        refine held.wpLeft.take (i := 7) (v := ?_) rfl (by kernel_rfl) (by kernel_rfl) (by kernel_rfl) (by kernel_rfl) (by kernel_rfl) (fun _ _ _ h => h) (by rfl) ?_ hS ?_
        rotate_left
        · (intro w hSw; obtain ⟨s1, s2⟩ := hSw; go_simp; try with_reducible rfl)
        simp only [Act.put, List.setIfInBounds_toArray, List.set_cons_zero, List.set_cons_succ]
        refine held.wpLeft.take (i := 8) (v := ?_) rfl (by kernel_rfl) (by kernel_rfl) (by kernel_rfl) (by kernel_rfl) (by kernel_rfl) (fun _ _ _ h => h) (by rfl) ?_ hS ?_
        rotate_left
        · (intro w hSw; obtain ⟨s1, s2⟩ := hSw; go_simp; try with_reducible rfl)
        simp only [Act.put, List.setIfInBounds_toArray, List.set_cons_zero, List.set_cons_succ]
        refine held.wpLeft.take (i := 9) (v := ?_) rfl (by kernel_rfl) (by kernel_rfl) (by kernel_rfl) (by kernel_rfl) (by kernel_rfl) (fun _ _ _ h => h) (by rfl) ?_ hS ?_
        rotate_left
        · (intro w hSw; obtain ⟨s1, s2⟩ := hSw; go_simp; try with_reducible rfl)
        simp only [Act.put, List.setIfInBounds_toArray, List.set_cons_zero, List.set_cons_succ]
        refine held.wpLeft.take (i := 10) (v := ?_) rfl (by kernel_rfl) (by kernel_rfl) (by kernel_rfl) (by kernel_rfl) (by kernel_rfl) (fun _ _ _ h => h) (by rfl) ?_ hS ?_
        rotate_left
        · (intro w hSw; obtain ⟨s1, s2⟩ := hSw; go_simp; try with_reducible rfl)
        simp only [Act.put, List.setIfInBounds_toArray, List.set_cons_zero, List.set_cons_succ]
        refine held.wpLeft.take (i := 11) (v := ?_) rfl (by kernel_rfl) (by kernel_rfl) (by kernel_rfl) (by kernel_rfl) (by kernel_rfl) (fun _ _ _ h => h) (by rfl) ?_ hS ?_
        rotate_left
        · (intro w hSw; obtain ⟨s1, s2⟩ := hSw; go_simp; try with_reducible rfl)
        simp only [Act.put, List.setIfInBounds_toArray, List.set_cons_zero, List.set_cons_succ]
        refine held.wpLeft.take (i := 12) (v := ?_) rfl (by kernel_rfl) (by kernel_rfl) (by kernel_rfl) (by kernel_rfl) (by kernel_rfl) (fun _ _ _ h => h) (by rfl) ?_ hS ?_
        rotate_left
        · (intro w hSw; obtain ⟨s1, s2⟩ := hSw; go_simp; try with_reducible rfl)
        simp only [Act.put, List.setIfInBounds_toArray, List.set_cons_zero, List.set_cons_succ]
        refine held.wpLeft.one (i := 13) (by kernel_rfl) rfl (fun K hK => ?_)
        go_simp
        refine hK.out _ _ (fun _ => ⟨ma6, maw⟩) ?_
        clear hK K
        refine held.wpLeft.one (i := 14) (by kernel_rfl) rfl (fun K2 hK2 => ?_)
        refine step_append_lies _ (by rfl) _ _ _ (by rfl) B 3 i0 _ 1 8 Try.underlying29 hi0 hz0 hz1 hz2 rfl (by omega) wv (s.W x).length ((s.W x).map iv) (by rfl) ((HO2.out.alloc _).drew) ⟨W2.heap.size, 0, none⟩ 1 1 [.int .i64 i] (by rfl) (by rfl) (World.news_of_block (cs := #[.int .i64 i]) (t := 3) (fr := (0, 0)) (heap_alloc_new W2 _)) (by simp [Value.oneCell']) (by omega) (by unfold maxLen; omega) (by omega) (by simp; omega) (W2.heap.size + 1) (by simp) ?_
        intro gg cap w1 hown1 hgrow hat hlt1
        have m6' : w1.cell? ⟨bp, 6, none⟩ = some (.slice (some ⟨gW, 0, none⟩) s.m capW) := hgrow.cell ma6 (by intro e; exact nb1 e.symm)
        have mw' : w1.cell? ⟨gW, x, none⟩ = some wv := hgrow.cell maw (by intro e; exact nb2 e.symm)
        have zw' : w1.frozen? ⟨gW, x, none⟩ = false := (World.frozen?_of_block (hgrow.block gW (by simp; omega) (by intro e; exact nb2 e.symm))).trans maz
        refine hK2.out _ _ (fun _ => ⟨m6', mw'⟩) ?_
        clear hK2 K2
        refine held.wpLeft.one (i := 15) (by kernel_rfl) rfl (fun K4 hK4 => ?_)
        go_simp
        refine hK4.out _ _ (fun _ => ⟨m6', mw'⟩) ?_
        clear hK4 K4
        refine held.wpLeft.one (i := 16) (by kernel_rfl) rfl (fun K3 hK3 => ?_)
        go_simp
        refine hK3.out _ _ (fun h => absurd rfl h) ?_
        clear hK3 K3
        refine held.wpLeft.done (by kernel_rfl) ?_
        all_goals
          have HF := Lib.hid (watch_mem (row' := updN s.row i (sw (s.row i) 1 k)) HM.out _ hxm HWv.out HO3.out ((Below.refl B w).grown HG2.out (by omega) (fun k hk => by cases hk; exact hI3)) (by intro q; by_cases e : q = .row i <;> simp [upd, e]) (by intro q; by_cases e : q = .row i <;> simp [upd, e])
            (by intro q hq; rw [upd_other _ _ (hq i)]) (row_sw HM.out Hxe.out Hye.out (by have := HK.out; omega)) (HM.out.obj.kept HG2.out (by intro e; cases e; exact hI2 rfl)) hown1 (by rw [Hwv.out]; exact hgrow) (by rw [Hwv.out]; exact hat))
          clear hown1 hgrow hat hlt1
          go_wp2
          go_ret
          refine .inl ⟨k, HK.out.1, HK.out.2.1, by rw [Hxe.out]; exact HK.out.2.2, rfl, ?_⟩
          unfold moved
          rw [Hxe.out]
          exact HF.out
    · obtain rfl : k = L := by omega
      go_wp2
      go_ret
      exact .inr ⟨fun j a b => hg.out j a (by rw [← HL.out]; exact b), rfl, rfl⟩
end Go.Proofs.Ytojjjndhabjhdaa.proofB
