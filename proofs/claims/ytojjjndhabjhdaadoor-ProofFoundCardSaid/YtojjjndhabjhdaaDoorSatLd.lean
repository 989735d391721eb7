/-
  Contract of newSearch.
-/
import Derived.Test.YtojjjndhabjhdaaDoorSatLc
namespace Go.Proofs.YtojjjndhabjhdaaDoor.satLd
set_option linter.unusedSimpArgs false
set_option linter.unusedVariables false
open Go.ChangeShapes Go.WideShapes Go.ChangeAt Go.RowKit proofP proofQ owns cls satP satQ satR satS satA satF satB satC satD satE satG satH satI satJ satK satM satN satU satV satO satW satX satZ satSa satSb satSc satCa satCb satCc satCd satCe satRi satRj satRk satSd satSe satLa satLc
attribute [local go_sem ↓] Go.wp_at_zero Go.wp_at_succ
attribute [local go_sem] run_store_float

section
variable {w : World}
theorem infoWs : (Tryd.prog.info? 48).map (fun i => (i.zero, i.size, i.bytes)) = some (some (.slice none 0 0), 1, 24) := by kernel_rfl
theorem info8s : (Tryd.prog.info? 70).map (fun i => (i.zero, i.size, i.bytes)) = some (some (.int .i8 0), 1, 1) := by kernel_rfl
theorem infoPs : (Tryd.prog.info? 73).map (fun i => (i.zero, i.size, i.bytes)) = some (some (.pointer none), 1, 8) := by kernel_rfl
/-- a fresh search -/
def nS (V : Nat) (r k : Int) (re : Bool) (b : Int) : SS := { V := V, restart := r, keep := k, reduce := re, budget := b, n := 0, row := fun _ => [], gone := fun _ => false, spread := fun _ => 0, rp := fun _ => 0, wanted := [], W := fun _ => [], vt := [], trail := [], starts := [], head := 0, lvl := fun _ => 0, rsn := fun _ => none, phase := fun _ => 0, seen := fun _ => false, stamps := List.replicate (3 * V + 2) 0, stamp := 0, heap := (List.range V).map (· + 1), place := fun v => (v : Int) - 1, weight := List.replicate (V + 1) (.float .f64 0), step := .float .f64 4607182418800017408, learned := [], room := k, pause := r, since := 0, logn := 0, lg := fun _ => [], empty := false, conflict := 0, tmp := fun _ => [], res := [], resv := .slice none 0 0 }
/-- its rows -/
def nF (V : Nat) (vW vV vL vR vP vS vT vH vPl vWt : Value) : Ix → Ent
  | .watches => ⟨ty .watches, vW, List.replicate (2 * V + 2) (.slice none 0 0)⟩
  | .value => ⟨ty .value, vV, List.replicate (2 * V + 2) (.int .i8 0)⟩
  | .level => ⟨ty .level, vL, List.replicate (V + 1) (.int .i64 0)⟩
  | .reason => ⟨ty .reason, vR, List.replicate (V + 1) (.pointer none)⟩
  | .phase => ⟨ty .phase, vP, List.replicate (V + 1) (.int .i64 0)⟩
  | .seen => ⟨ty .seen, vS, List.replicate (V + 1) (.bool false)⟩
  | .stamps => ⟨ty .stamps, vT, List.replicate (3 * V + 2) (.int .i64 0)⟩
  | .heap => ⟨ty .heap, vH, hps V⟩
  | .place => ⟨ty .place, vPl, (List.range (V + 1)).map fun (j : Nat) => Value.int .i64 ((j : Int) - 1)⟩
  | .weight => ⟨ty .weight, vWt, List.replicate (V + 1) (.float .f64 0)⟩
  | k => ⟨ty k, .slice none 0 0, []⟩
theorem map_const (x : Value) : ∀ (n : Nat), (List.range n).map (fun _ => x) = List.replicate n x := by
  intro n
  apply List.ext_getElem
  · simp
  · intro j h1 h2; simp
theorem nF_cont (V : Nat) (r k : Int) (re : Bool) (b : Int) (vW vV vL vR vP vS vT vH vPl vWt : Value) : ∀ q, (nF V vW vV vL vR vP vS vT vH vPl vWt q).xs = cont (nS V r k re b) (fvs (nF V vW vV vL vR vP vS vT vH vPl vWt)) q := by
  intro q
  cases q <;> try rfl
  case watches => exact (map_const _ _).symm
  case value => exact (map_const _ _).symm
  case level => exact (map_const _ _).symm
  case reason => exact (map_const _ _).symm
  case phase => exact (map_const _ _).symm
  case seen => exact (map_const _ _).symm
  case stamps => show _ = (List.replicate (3 * V + 2) (0 : Int)).map zv; rw [List.map_replicate]; rfl
  case heap => show _ = ((List.range V).map (· + 1)).map iv; rw [List.map_map]; rfl
/-- which of the makers made a row -/
def mk : Ix → Nat | .watches => 5 | .value => 9 | .level => 12 | .reason => 15 | .phase => 18 | .seen => 21 | .stamps => 25 | _ => 27
theorem nOwns {w2 : World} {B V : Nat} {lo hi : Nat → Nat} {aH : Option Addr} {cH gP gW : Nat} (hown : ∀ q, w2.ownsRow B ((nF V (.slice (some ⟨lo 5, 0, none⟩) (2 * V + 2) (2 * V + 2)) (.slice (some ⟨lo 9, 0, none⟩) (2 * V + 2) (2 * V + 2)) (.slice (some ⟨lo 12, 0, none⟩) (V + 1) (V + 1)) (.slice (some ⟨lo 15, 0, none⟩) (V + 1) (V + 1)) (.slice (some ⟨lo 18, 0, none⟩) (V + 1) (V + 1)) (.slice (some ⟨lo 21, 0, none⟩) (V + 1) (V + 1)) (.slice (some ⟨lo 25, 0, none⟩) (3 * V + 2) (3 * V + 2)) (.slice aH V cH) (.slice (some ⟨gP, 0, none⟩) (V + 1) (V + 1)) (.slice (some ⟨gW, 0, none⟩) (V + 1) (V + 1))) q).e 1 ((nF V (.slice (some ⟨lo 5, 0, none⟩) (2 * V + 2) (2 * V + 2)) (.slice (some ⟨lo 9, 0, none⟩) (2 * V + 2) (2 * V + 2)) (.slice (some ⟨lo 12, 0, none⟩) (V + 1) (V + 1)) (.slice (some ⟨lo 15, 0, none⟩) (V + 1) (V + 1)) (.slice (some ⟨lo 18, 0, none⟩) (V + 1) (V + 1)) (.slice (some ⟨lo 21, 0, none⟩) (V + 1) (V + 1)) (.slice (some ⟨lo 25, 0, none⟩) (3 * V + 2) (3 * V + 2)) (.slice aH V cH) (.slice (some ⟨gP, 0, none⟩) (V + 1) (V + 1)) (.slice (some ⟨gW, 0, none⟩) (V + 1) (V + 1))) q).v ((nF V (.slice (some ⟨lo 5, 0, none⟩) (2 * V + 2) (2 * V + 2)) (.slice (some ⟨lo 9, 0, none⟩) (2 * V + 2) (2 * V + 2)) (.slice (some ⟨lo 12, 0, none⟩) (V + 1) (V + 1)) (.slice (some ⟨lo 15, 0, none⟩) (V + 1) (V + 1)) (.slice (some ⟨lo 18, 0, none⟩) (V + 1) (V + 1)) (.slice (some ⟨lo 21, 0, none⟩) (V + 1) (V + 1)) (.slice (some ⟨lo 25, 0, none⟩) (3 * V + 2) (3 * V + 2)) (.slice aH V cH) (.slice (some ⟨gP, 0, none⟩) (V + 1) (V + 1)) (.slice (some ⟨gW, 0, none⟩) (V + 1) (V + 1))) q).xs.length ((nF V (.slice (some ⟨lo 5, 0, none⟩) (2 * V + 2) (2 * V + 2)) (.slice (some ⟨lo 9, 0, none⟩) (2 * V + 2) (2 * V + 2)) (.slice (some ⟨lo 12, 0, none⟩) (V + 1) (V + 1)) (.slice (some ⟨lo 15, 0, none⟩) (V + 1) (V + 1)) (.slice (some ⟨lo 18, 0, none⟩) (V + 1) (V + 1)) (.slice (some ⟨lo 21, 0, none⟩) (V + 1) (V + 1)) (.slice (some ⟨lo 25, 0, none⟩) (3 * V + 2) (3 * V + 2)) (.slice aH V cH) (.slice (some ⟨gP, 0, none⟩) (V + 1) (V + 1)) (.slice (some ⟨gW, 0, none⟩) (V + 1) (V + 1))) q).xs)
    (hin : ∀ q b, ((nF V (.slice (some ⟨lo 5, 0, none⟩) (2 * V + 2) (2 * V + 2)) (.slice (some ⟨lo 9, 0, none⟩) (2 * V + 2) (2 * V + 2)) (.slice (some ⟨lo 12, 0, none⟩) (V + 1) (V + 1)) (.slice (some ⟨lo 15, 0, none⟩) (V + 1) (V + 1)) (.slice (some ⟨lo 18, 0, none⟩) (V + 1) (V + 1)) (.slice (some ⟨lo 21, 0, none⟩) (V + 1) (V + 1)) (.slice (some ⟨lo 25, 0, none⟩) (3 * V + 2) (3 * V + 2)) (.slice aH V cH) (.slice (some ⟨gP, 0, none⟩) (V + 1) (V + 1)) (.slice (some ⟨gW, 0, none⟩) (V + 1) (V + 1))) q).v.ownBlock = some b → lo (mk q) ≤ b ∧ b < hi (mk q)) (hd : ∀ i, i ∈ [5, 9, 12, 15, 18, 21, 25, 27] → ∀ j, j ∈ [5, 9, 12, 15, 18, 21, 25, 27] → i ≠ j → hi i ≤ lo j ∨ hi j ≤ lo i)
    (q4 : ∀ b, (Value.slice aH V cH).ownBlock = some b → b ≠ gP ∧ b ≠ gW) (q5 : gP ≠ gW) : Owns w2 B (nF V (.slice (some ⟨lo 5, 0, none⟩) (2 * V + 2) (2 * V + 2)) (.slice (some ⟨lo 9, 0, none⟩) (2 * V + 2) (2 * V + 2)) (.slice (some ⟨lo 12, 0, none⟩) (V + 1) (V + 1)) (.slice (some ⟨lo 15, 0, none⟩) (V + 1) (V + 1)) (.slice (some ⟨lo 18, 0, none⟩) (V + 1) (V + 1)) (.slice (some ⟨lo 21, 0, none⟩) (V + 1) (V + 1)) (.slice (some ⟨lo 25, 0, none⟩) (3 * V + 2) (3 * V + 2)) (.slice aH V cH) (.slice (some ⟨gP, 0, none⟩) (V + 1) (V + 1)) (.slice (some ⟨gW, 0, none⟩) (V + 1) (V + 1))) := by
  refine ⟨hown, fun j k b hj hk => ?_⟩
  have hmk : ∀ q, mk q ∈ [5, 9, 12, 15, 18, 21, 25, 27] := fun q => by cases q <;> simp [mk]
  have h1 := hin j b hj
  have h2 := hin k b hk
  by_cases e : mk j = mk k
  · cases j <;> cases k <;> first
      | rfl
      | (exfalso; revert e; decide)
      | (exfalso; change (none : Option Nat) = some b at hj; cases hj)
      | (exfalso; change (none : Option Nat) = some b at hk; cases hk)
      | (exfalso; have k1 := q4 b hj; have k2 : gP = b := Option.some.inj hk; exact k1.1 k2.symm)
      | (exfalso; have k1 := q4 b hj; have k2 : gW = b := Option.some.inj hk; exact k1.2 k2.symm)
      | (exfalso; have k1 := q4 b hk; have k2 : gP = b := Option.some.inj hj; exact k1.1 k2.symm)
      | (exfalso; have k1 := q4 b hk; have k2 : gW = b := Option.some.inj hj; exact k1.2 k2.symm)
      | (exfalso; have k1 : gP = b := Option.some.inj hj; have k2 : gW = b := Option.some.inj hk; omega)
      | (exfalso; have k1 : gW = b := Option.some.inj hj; have k2 : gP = b := Option.some.inj hk; omega)
  · have := hd _ (hmk j) _ (hmk k) e
    omega
/-- the options' cells -/
def SOp (bx : Nat) (r k b : Int) (re : Bool) (w : World) : Prop := w.cell? ⟨bx, 0, none⟩ = some (.int .i64 r) ∧ w.cell? ⟨bx, 1, none⟩ = some (.int .i64 k) ∧ w.cell? ⟨bx, 2, none⟩ = some (.bool re) ∧ w.cell? ⟨bx, 3, none⟩ = some (.int .i64 b)
theorem SOp.keep {bx : Nat} {r k b : Int} {re : Bool} {w w' : World} (h : SOp bx r k b re w) (hb : bx < w.heap.size) (hB : Below w.heap.size w w') : SOp bx r k b re w' :=
  ⟨(hB.cell hb).trans h.1, (hB.cell hb).trans h.2.1, (hB.cell hb).trans h.2.2.1, (hB.cell hb).trans h.2.2.2⟩
/-- where the made things lie -/
def nd (i : Nat) : Nat := if i = 5 then 10 else if i = 9 then 14 else if i = 12 then 17 else if i = 15 then 20 else if i = 18 then 23 else if i = 21 then 26 else if i = 25 then 30 else 32
/-- a queue made at lo -/
def MkQ (V lo hi : Nat) (v : Value) (w : World) : Prop := ∃ aH cH gP gW, v = .agg #[.slice aH V cH, .slice (some ⟨gP, 0, none⟩) (V + 1) (V + 1), .slice (some ⟨gW, 0, none⟩) (V + 1) (V + 1), .float .f64 4607182418800017408] ∧
  w.ownsRow lo 3 1 (.slice aH V cH) V (hps V) ∧ w.ownsRow lo 3 1 (.slice (some ⟨gP, 0, none⟩) (V + 1) (V + 1)) (V + 1) ((List.range (V + 1)).map fun (j : Nat) => Value.int .i64 ((j : Int) - 1)) ∧
  w.ownsRow lo 50 1 (.slice (some ⟨gW, 0, none⟩) (V + 1) (V + 1)) (V + 1) (List.replicate (V + 1) (.float .f64 0)) ∧ (∀ b, (Value.slice aH V cH).ownBlock = some b → b ≠ gP ∧ b ≠ gW ∧ b < hi) ∧ gP ≠ gW ∧ gP < hi ∧ gW < hi
def NR (V i lo hi : Nat) (f : Nat → Value) (w : World) : Prop := if i = 5 then MkRow 48 (2 * V + 2) (.slice none 0 0) lo hi (f 10) w else if i = 9 then MkRow 70 (2 * V + 2) (.int .i8 0) lo hi (f 14) w
  else if i = 12 then MkRow 3 (V + 1) (.int .i64 0) lo hi (f 17) w else if i = 15 then MkRow 73 (V + 1) (.pointer none) lo hi (f 20) w else if i = 18 then MkRow 3 (V + 1) (.int .i64 0) lo hi (f 23) w
  else if i = 21 then MkRow 4 (V + 1) (.bool false) lo hi (f 26) w else if i = 25 then MkRow 3 (3 * V + 2) (.int .i64 0) lo hi (f 30) w else MkQ V lo hi (f 32) w
theorem MkQ.keep {V lo hi : Nat} {v : Value} {w w' : World} (h : MkQ V lo hi v w) (hb : Below w.heap.size w w') : MkQ V lo hi v w' := by
  obtain ⟨aH, cH, gP, gW, e, q1, q2, q3, q4⟩ := h
  exact ⟨aH, cH, gP, gW, e, own_keep q1 (grown_below hb none) (fun b _ e => by cases e), own_keep q2 (grown_below hb none) (fun b _ e => by cases e), own_keep q3 (grown_below hb none) (fun b _ e => by cases e), q4⟩
/-- what newSearch answers -/
def NsP (V : Nat) (r k : Int) (re : Bool) (b : Int) (w : World) (e : Ending) (w' : World) : Prop := ∃ bp F, e = .returned (.pointer (some ⟨bp, 0, none⟩)) ∧ Mem w' w.heap.size bp (nS V r k re b) F ∧ Below w.heap.size w w'
set_option maxHeartbeats 4000000 in
set_option maxRecDepth 100000 in
theorem newSearch_any (w : World) (V : Nat) (hV : V ≤ 20000) (r k b : Int) (re : Bool) :
    Calls Tryd.prog 11 #[.int .i64 V, .agg #[.int .i64 r, .int .i64 k, .bool re, .int .i64 b]] w (NsP V r k re b w) := by
  have h1 : IntKind.i64.wrap ((V : Int) + 1) = (V : Int) + 1 := IntWalk.i64_in _ (by omega)
  have h2 : IntKind.i64.wrap (2 * (V : Int)) = 2 * (V : Int) := IntWalk.i64_in _ (by omega)
  have h3 : IntKind.i64.wrap (2 * (V : Int) + 2) = 2 * (V : Int) + 2 := IntWalk.i64_in _ (by omega)
  have h4 : IntKind.i64.wrap (3 * (V : Int)) = 3 * (V : Int) := IntWalk.i64_in _ (by omega)
  have h5 : IntKind.i64.wrap (3 * (V : Int) + 2) = 3 * (V : Int) + 2 := IntWalk.i64_in _ (by omega)
  obtain ⟨iI, I0, I1, I2, I3⟩ := info_parts infoI
  obtain ⟨iW, W0, W1, W2, W3⟩ := info_parts infoWs
  obtain ⟨i8, E0, E1, E2, E3⟩ := info_parts info8s
  obtain ⟨iP, P0, P1, P2, P3⟩ := info_parts infoPs
  obtain ⟨iB, B0, B1, B2, B3⟩ := info_parts satCf.infoB
  go_enter Tryd.func11, Tryd.ntmps11
  go_wp2
  have hS0 : SOp w.heap.size r k b re (w.alloc (.cells #[.int .i64 r, .int .i64 k, .bool re, .int .i64 b] 36)).drew := by
    have hW := (Whole.new w 36 [.int .i64 r, .int .i64 k, .bool re, .int .i64 b]).below (Below.refl (w.heap.size + 1) _).drew (by simp)
    exact ⟨hW.cell 0, hW.cell 1, hW.cell 2, hW.cell 3⟩
  refine wp_region_held (S := SOp w.heap.size r k b re) (by kernel_rfl) ?_
  change wpAnyH _ _ _ _ _ 35 _ _ (World.drew _)
  generalize hw1 : (w.alloc (.cells #[.int .i64 r, .int .i64 k, .bool re, .int .i64 b] 36)).drew = w1 at *
  have hsz1 : w1.heap.size = w.heap.size + 1 := by rw [← hw1]; simp
  refine held3.takeD (i := 0) (v := ?_) rfl rfl (by kernel_rfl) (by kernel_rfl) (by kernel_rfl) (fun _ _ _ h => h) (by rfl) ?_ hS0 ?_
  rotate_left
  · (intro w hSw; obtain ⟨s0, s1, s2, s3⟩ := hSw; go_simp; try with_reducible rfl)
  simp only [List.setIfInBounds_toArray, List.set_cons_zero, List.set_cons_succ]
  refine held3.takeD (i := 1) (v := ?_) rfl rfl (by kernel_rfl) (by kernel_rfl) (by kernel_rfl) (fun _ _ _ h => h) (by rfl) ?_ hS0 ?_
  rotate_left
  · (intro w hSw; obtain ⟨s0, s1, s2, s3⟩ := hSw; go_simp; try with_reducible rfl)
  simp only [List.setIfInBounds_toArray, List.set_cons_zero, List.set_cons_succ]
  refine held3.takeD (i := 2) (v := ?_) rfl rfl (by kernel_rfl) (by kernel_rfl) (by kernel_rfl) (fun _ _ _ h => h) (by rfl) ?_ hS0 ?_
  rotate_left
  · (intro w hSw; obtain ⟨s0, s1, s2, s3⟩ := hSw; go_simp; try with_reducible rfl)
  simp only [List.setIfInBounds_toArray, List.set_cons_zero, List.set_cons_succ]
  refine held3.takeD (i := 3) (v := ?_) rfl rfl (by kernel_rfl) (by kernel_rfl) (by kernel_rfl) (fun _ _ _ h => h) (by rfl) ?_ hS0 ?_
  rotate_left
  · (intro w hSw; obtain ⟨s0, s1, s2, s3⟩ := hSw; go_simp; try with_reducible rfl)
  simp only [List.setIfInBounds_toArray, List.set_cons_zero, List.set_cons_succ]
  refine held3.takeD (i := 4) (v := ?_) rfl rfl (by kernel_rfl) (by kernel_rfl) (by kernel_rfl) (fun _ _ _ h => h) (by rfl) ?_ hS0 ?_
  rotate_left
  · (intro w hSw; obtain ⟨s0, s1, s2, s3⟩ := hSw; go_simp; try with_reducible rfl)
  simp only [List.setIfInBounds_toArray, List.set_cons_zero, List.set_cons_succ]
  refine held3.takeD (i := 6) (v := ?_) rfl rfl (by kernel_rfl) (by kernel_rfl) (by kernel_rfl) (fun _ _ _ h => h) (by rfl) ?_ hS0 ?_
  rotate_left
  · (intro w hSw; obtain ⟨s0, s1, s2, s3⟩ := hSw; go_simp; try with_reducible rfl)
  simp only [List.setIfInBounds_toArray, List.set_cons_zero, List.set_cons_succ]
  refine held3.takeD (i := 7) (v := ?_) rfl rfl (by kernel_rfl) (by kernel_rfl) (by kernel_rfl) (fun _ _ _ h => h) (by rfl) ?_ hS0 ?_
  rotate_left
  · (intro w hSw; obtain ⟨s0, s1, s2, s3⟩ := hSw; go_simp; try with_reducible rfl)
  simp only [List.setIfInBounds_toArray, List.set_cons_zero, List.set_cons_succ]
  refine held3.takeD (i := 8) (v := ?_) rfl rfl (by kernel_rfl) (by kernel_rfl) (by kernel_rfl) (fun _ _ _ h => h) (by rfl) ?_ hS0 ?_
  rotate_left
  · (intro w hSw; obtain ⟨s0, s1, s2, s3⟩ := hSw; go_simp; try with_reducible rfl)
  simp only [List.setIfInBounds_toArray, List.set_cons_zero, List.set_cons_succ]
  refine held3.takeD (i := 10) (v := ?_) rfl rfl (by kernel_rfl) (by kernel_rfl) (by kernel_rfl) (fun _ _ _ h => h) (by rfl) ?_ hS0 ?_
  rotate_left
  · (intro w hSw; obtain ⟨s0, s1, s2, s3⟩ := hSw; go_simp; try with_reducible rfl)
  simp only [List.setIfInBounds_toArray, List.set_cons_zero, List.set_cons_succ]
  refine held3.takeD (i := 11) (v := ?_) rfl rfl (by kernel_rfl) (by kernel_rfl) (by kernel_rfl) (fun _ _ _ h => h) (by rfl) ?_ hS0 ?_
  rotate_left
  · (intro w hSw; obtain ⟨s0, s1, s2, s3⟩ := hSw; go_simp; try with_reducible rfl)
  simp only [List.setIfInBounds_toArray, List.set_cons_zero, List.set_cons_succ]
  refine held3.takeD (i := 13) (v := ?_) rfl rfl (by kernel_rfl) (by kernel_rfl) (by kernel_rfl) (fun _ _ _ h => h) (by rfl) ?_ hS0 ?_
  rotate_left
  · (intro w hSw; obtain ⟨s0, s1, s2, s3⟩ := hSw; go_simp; try with_reducible rfl)
  simp only [List.setIfInBounds_toArray, List.set_cons_zero, List.set_cons_succ]
  refine held3.takeD (i := 14) (v := ?_) rfl rfl (by kernel_rfl) (by kernel_rfl) (by kernel_rfl) (fun _ _ _ h => h) (by rfl) ?_ hS0 ?_
  rotate_left
  · (intro w hSw; obtain ⟨s0, s1, s2, s3⟩ := hSw; go_simp; try with_reducible rfl)
  simp only [List.setIfInBounds_toArray, List.set_cons_zero, List.set_cons_succ]
  refine held3.takeD (i := 16) (v := ?_) rfl rfl (by kernel_rfl) (by kernel_rfl) (by kernel_rfl) (fun _ _ _ h => h) (by rfl) ?_ hS0 ?_
  rotate_left
  · (intro w hSw; obtain ⟨s0, s1, s2, s3⟩ := hSw; go_simp; try with_reducible rfl)
  simp only [List.setIfInBounds_toArray, List.set_cons_zero, List.set_cons_succ]
  refine held3.takeD (i := 17) (v := ?_) rfl rfl (by kernel_rfl) (by kernel_rfl) (by kernel_rfl) (fun _ _ _ h => h) (by rfl) ?_ hS0 ?_
  rotate_left
  · (intro w hSw; obtain ⟨s0, s1, s2, s3⟩ := hSw; go_simp; try with_reducible rfl)
  simp only [List.setIfInBounds_toArray, List.set_cons_zero, List.set_cons_succ]
  refine held3.takeD (i := 19) (v := ?_) rfl rfl (by kernel_rfl) (by kernel_rfl) (by kernel_rfl) (fun _ _ _ h => h) (by rfl) ?_ hS0 ?_
  rotate_left
  · (intro w hSw; obtain ⟨s0, s1, s2, s3⟩ := hSw; go_simp; try with_reducible rfl)
  simp only [List.setIfInBounds_toArray, List.set_cons_zero, List.set_cons_succ]
  refine held3.takeD (i := 20) (v := ?_) rfl rfl (by kernel_rfl) (by kernel_rfl) (by kernel_rfl) (fun _ _ _ h => h) (by rfl) ?_ hS0 ?_
  rotate_left
  · (intro w hSw; obtain ⟨s0, s1, s2, s3⟩ := hSw; go_simp; try with_reducible rfl)
  simp only [List.setIfInBounds_toArray, List.set_cons_zero, List.set_cons_succ]
  refine held3.takeD (i := 22) (v := ?_) rfl rfl (by kernel_rfl) (by kernel_rfl) (by kernel_rfl) (fun _ _ _ h => h) (by rfl) ?_ hS0 ?_
  rotate_left
  · (intro w hSw; obtain ⟨s0, s1, s2, s3⟩ := hSw; go_simp; try with_reducible rfl)
  simp only [List.setIfInBounds_toArray, List.set_cons_zero, List.set_cons_succ]
  refine held3.takeD (i := 23) (v := ?_) rfl rfl (by kernel_rfl) (by kernel_rfl) (by kernel_rfl) (fun _ _ _ h => h) (by rfl) ?_ hS0 ?_
  rotate_left
  · (intro w hSw; obtain ⟨s0, s1, s2, s3⟩ := hSw; go_simp; try with_reducible rfl)
  simp only [List.setIfInBounds_toArray, List.set_cons_zero, List.set_cons_succ]
  refine held3.takeD (i := 24) (v := ?_) rfl rfl (by kernel_rfl) (by kernel_rfl) (by kernel_rfl) (fun _ _ _ h => h) (by rfl) ?_ hS0 ?_
  rotate_left
  · (intro w hSw; obtain ⟨s0, s1, s2, s3⟩ := hSw; go_simp; try with_reducible rfl)
  simp only [List.setIfInBounds_toArray, List.set_cons_zero, List.set_cons_succ]
  refine held3.takeD (i := 26) (v := ?_) rfl rfl (by kernel_rfl) (by kernel_rfl) (by kernel_rfl) (fun _ _ _ h => h) (by rfl) ?_ hS0 ?_
  rotate_left
  · (intro w hSw; obtain ⟨s0, s1, s2, s3⟩ := hSw; go_simp; try with_reducible rfl)
  simp only [List.setIfInBounds_toArray, List.set_cons_zero, List.set_cons_succ]
  refine held3.takeD (i := 28) (v := ?_) rfl rfl (by kernel_rfl) (by kernel_rfl) (by kernel_rfl) (fun _ _ _ h => h) (by rfl) ?_ hS0 ?_
  rotate_left
  · (intro w hSw; obtain ⟨s0, s1, s2, s3⟩ := hSw; go_simp; try with_reducible rfl)
  simp only [List.setIfInBounds_toArray, List.set_cons_zero, List.set_cons_succ]
  refine held3.takeD (i := 29) (v := ?_) rfl rfl (by kernel_rfl) (by kernel_rfl) (by kernel_rfl) (fun _ _ _ h => h) (by rfl) ?_ hS0 ?_
  rotate_left
  · (intro w hSw; obtain ⟨s0, s1, s2, s3⟩ := hSw; go_simp; try with_reducible rfl)
  simp only [List.setIfInBounds_toArray, List.set_cons_zero, List.set_cons_succ]
  refine held3.takeD (i := 30) (v := ?_) rfl rfl (by kernel_rfl) (by kernel_rfl) (by kernel_rfl) (fun _ _ _ h => h) (by rfl) ?_ hS0 ?_
  rotate_left
  · (intro w hSw; obtain ⟨s0, s1, s2, s3⟩ := hSw; go_simp; try with_reducible rfl)
  simp only [List.setIfInBounds_toArray, List.set_cons_zero, List.set_cons_succ]
  refine held3.takeD (i := 31) (v := ?_) rfl rfl (by kernel_rfl) (by kernel_rfl) (by kernel_rfl) (fun _ _ _ h => h) (by rfl) ?_ hS0 ?_
  rotate_left
  · (intro w hSw; obtain ⟨s0, s1, s2, s3⟩ := hSw; go_simp; try with_reducible rfl)
  simp only [List.setIfInBounds_toArray, List.set_cons_zero, List.set_cons_succ]
  refine held3.makers0 35 #[true, true, true, true, true, true, true, true, true, true, true, true, true, true, true, true, true, true, true, true, true, true, true, true, true, true, true, true, true, true, true, true, false, false, false] [5, 9, 12, 15, 18, 21, 25, 27] nd (fun f => { tmps := #[.int .i64 V, .agg #[.int .i64 r, .int .i64 k, .bool re, .int .i64 b], undef, .pointer (some ⟨w.heap.size, 0, none⟩), .pointer none, .int .i64 V, .agg #[.int .i64 r, .int .i64 k, .bool re, .int .i64 b], .int .i64 V, .int .i64 (2 * (V : Int)), .int .i64 (2 * (V : Int) + 2), f 10, .int .i64 V, .int .i64 (2 * (V : Int)), .int .i64 (2 * (V : Int) + 2), f 14, .int .i64 V, .int .i64 ((V : Int) + 1), f 17, .int .i64 V, .int .i64 ((V : Int) + 1), f 20, .int .i64 V, .int .i64 ((V : Int) + 1), f 23, .int .i64 V, .int .i64 ((V : Int) + 1), f 26, .int .i64 V, .int .i64 (3 * (V : Int)), .int .i64 (3 * (V : Int) + 2), f 30, .int .i64 V, f 32, .pointer (some ⟨w.heap.size, 1, none⟩), .int .i64 k, .pointer (some ⟨w.heap.size, 0, none⟩), .int .i64 r, undef, undef], defers := [] }) (NR V) 3 (fun _ => undef) rfl rfl rfl rfl (by decide) (by kernel_rfl) hS0 ?_ ?_ ?_
  · intro i hi vals lo hh w' hb hS hn
    simp only [List.mem_cons, List.not_mem_nil, or_false] at hi
    clear hn
    rcases hi with rfl | rfl | rfl | rfl | rfl | rfl | rfl | rfl
    · refine held3.op_make rfl rfl _ _ _ rfl 48 iW _ Tryd.underlying46 W0 W1 rfl W2 (2 * V + 2) rfl rfl (by rw [W3]; omega) (by unfold maxLen; omega) fun w2 ho hg => ?_
      have hlt := (ho.lt w'.heap.size rfl).2
      exact ⟨_, rfl, ⟨hlt, rfl, hlt, ho⟩, held3.grown_below0 hg, SOp.keep hS (by have := hb.size; omega) (held3.grown_below0 hg)⟩
    · refine held3.op_make rfl rfl _ _ _ rfl 70 i8 _ Tryd.underlying47 E0 E1 rfl E2 (2 * V + 2) rfl rfl (by rw [E3]; omega) (by unfold maxLen; omega) fun w2 ho hg => ?_
      have hlt := (ho.lt w'.heap.size rfl).2
      exact ⟨_, rfl, ⟨hlt, rfl, hlt, ho⟩, held3.grown_below0 hg, SOp.keep hS (by have := hb.size; omega) (held3.grown_below0 hg)⟩
    · refine held3.op_make rfl rfl _ _ _ rfl 3 iI _ Tryd.underlying23 I0 I1 rfl I2 (V + 1) rfl rfl (by rw [I3]; omega) (by unfold maxLen; omega) fun w2 ho hg => ?_
      have hlt := (ho.lt w'.heap.size rfl).2
      exact ⟨_, rfl, ⟨hlt, rfl, hlt, ho⟩, held3.grown_below0 hg, SOp.keep hS (by have := hb.size; omega) (held3.grown_below0 hg)⟩
    · refine held3.op_make rfl rfl _ _ _ rfl 73 iP _ Tryd.underlying48 P0 P1 rfl P2 (V + 1) rfl rfl (by rw [P3]; omega) (by unfold maxLen; omega) fun w2 ho hg => ?_
      have hlt := (ho.lt w'.heap.size rfl).2
      exact ⟨_, rfl, ⟨hlt, rfl, hlt, ho⟩, held3.grown_below0 hg, SOp.keep hS (by have := hb.size; omega) (held3.grown_below0 hg)⟩
    · refine held3.op_make rfl rfl _ _ _ rfl 3 iI _ Tryd.underlying23 I0 I1 rfl I2 (V + 1) rfl rfl (by rw [I3]; omega) (by unfold maxLen; omega) fun w2 ho hg => ?_
      have hlt := (ho.lt w'.heap.size rfl).2
      exact ⟨_, rfl, ⟨hlt, rfl, hlt, ho⟩, held3.grown_below0 hg, SOp.keep hS (by have := hb.size; omega) (held3.grown_below0 hg)⟩
    · refine held3.op_make rfl rfl _ _ _ rfl 4 iB _ Tryd.underlying24 B0 B1 rfl B2 (V + 1) rfl rfl (by rw [B3]; omega) (by unfold maxLen; omega) fun w2 ho hg => ?_
      have hlt := (ho.lt w'.heap.size rfl).2
      exact ⟨_, rfl, ⟨hlt, rfl, hlt, ho⟩, held3.grown_below0 hg, SOp.keep hS (by have := hb.size; omega) (held3.grown_below0 hg)⟩
    · refine held3.op_make rfl rfl _ _ _ rfl 3 iI _ Tryd.underlying23 I0 I1 rfl I2 (3 * V + 2) rfl rfl (by rw [I3]; omega) (by unfold maxLen; omega) fun w2 ho hg => ?_
      have hlt := (ho.lt w'.heap.size rfl).2
      exact ⟨_, rfl, ⟨hlt, rfl, hlt, ho⟩, held3.grown_below0 hg, SOp.keep hS (by have := hb.size; omega) (held3.grown_below0 hg)⟩
    · refine wpOp_step rfl fun K' hK => ?_
      have HNQ := Lib.hid (newQueue_any w' V hV)
      go_simp
      refine HNQ.out.mono ?_
      rintro e w2 ⟨aH, cH, gP, gW, rfl, q1, q2, q3, q4, q5, q6⟩
      refine hK _ _ ⟨.agg #[.slice aH V cH, .slice (some ⟨gP, 0, none⟩) (V + 1) (V + 1), .slice (some ⟨gW, 0, none⟩) (V + 1) (V + 1), .float .f64 4607182418800017408], rfl, ⟨aH, cH, gP, gW, rfl, q1, q2, q3, fun b hb => ⟨(q4 b hb).1, (q4 b hb).2, (q1.lt b hb).2⟩, q5, (q2.lt gP rfl).2, (q3.lt gW rfl).2⟩, q6, SOp.keep hS (by have := hb.size; omega) q6⟩
  · intro i hi lo hh vals vals' w w' h hw hb he
    simp only [List.mem_cons, List.not_mem_nil, or_false] at hi
    rcases hi with rfl | rfl | rfl | rfl | rfl | rfl | rfl | rfl
    · have e := he 5 (by simp) (.inl rfl)
      show MkRow _ _ _ _ _ (vals' 10) _
      rw [show vals' 10 = vals 10 from e]
      exact MkRow.keep h hb
    · have e := he 9 (by simp) (.inl rfl)
      show MkRow _ _ _ _ _ (vals' 14) _
      rw [show vals' 14 = vals 14 from e]
      exact MkRow.keep h hb
    · have e := he 12 (by simp) (.inl rfl)
      show MkRow _ _ _ _ _ (vals' 17) _
      rw [show vals' 17 = vals 17 from e]
      exact MkRow.keep h hb
    · have e := he 15 (by simp) (.inl rfl)
      show MkRow _ _ _ _ _ (vals' 20) _
      rw [show vals' 20 = vals 20 from e]
      exact MkRow.keep h hb
    · have e := he 18 (by simp) (.inl rfl)
      show MkRow _ _ _ _ _ (vals' 23) _
      rw [show vals' 23 = vals 23 from e]
      exact MkRow.keep h hb
    · have e := he 21 (by simp) (.inl rfl)
      show MkRow _ _ _ _ _ (vals' 26) _
      rw [show vals' 26 = vals 26 from e]
      exact MkRow.keep h hb
    · have e := he 25 (by simp) (.inl rfl)
      show MkRow _ _ _ _ _ (vals' 30) _
      rw [show vals' 30 = vals 30 from e]
      exact MkRow.keep h hb
    · have e := he 27 (by simp) (.inl rfl)
      show MkQ _ _ _ (vals' 32) _
      rw [show vals' 32 = vals 32 from e]
      exact MkQ.keep h hb
  · intro vals lo hh w2 hR hd hb hS
    obtain ⟨⟨r5a, r5b, r5c, r5d⟩, r5e, _, r5f⟩ := hR 5 (by simp)
    change vals 10 = _ at r5b
    rw [r5b] at r5d
    obtain ⟨⟨r9a, r9b, r9c, r9d⟩, r9e, _, r9f⟩ := hR 9 (by simp)
    change vals 14 = _ at r9b
    rw [r9b] at r9d
    obtain ⟨⟨r12a, r12b, r12c, r12d⟩, r12e, _, r12f⟩ := hR 12 (by simp)
    change vals 17 = _ at r12b
    rw [r12b] at r12d
    obtain ⟨⟨r15a, r15b, r15c, r15d⟩, r15e, _, r15f⟩ := hR 15 (by simp)
    change vals 20 = _ at r15b
    rw [r15b] at r15d
    obtain ⟨⟨r18a, r18b, r18c, r18d⟩, r18e, _, r18f⟩ := hR 18 (by simp)
    change vals 23 = _ at r18b
    rw [r18b] at r18d
    obtain ⟨⟨r21a, r21b, r21c, r21d⟩, r21e, _, r21f⟩ := hR 21 (by simp)
    change vals 26 = _ at r21b
    rw [r21b] at r21d
    obtain ⟨⟨r25a, r25b, r25c, r25d⟩, r25e, _, r25f⟩ := hR 25 (by simp)
    change vals 30 = _ at r25b
    rw [r25b] at r25d
    obtain ⟨⟨aH, cH, gP, gW, qv, q1, q2, q3, q4, q5, q6, q7⟩, q8, _, q9⟩ := hR 27 (by simp)
    change vals 32 = _ at qv
    have hO : Owns w2 w.heap.size (nF V (.slice (some ⟨lo 5, 0, none⟩) (2 * V + 2) (2 * V + 2)) (.slice (some ⟨lo 9, 0, none⟩) (2 * V + 2) (2 * V + 2)) (.slice (some ⟨lo 12, 0, none⟩) (V + 1) (V + 1)) (.slice (some ⟨lo 15, 0, none⟩) (V + 1) (V + 1)) (.slice (some ⟨lo 18, 0, none⟩) (V + 1) (V + 1)) (.slice (some ⟨lo 21, 0, none⟩) (V + 1) (V + 1)) (.slice (some ⟨lo 25, 0, none⟩) (3 * V + 2) (3 * V + 2)) (.slice aH V cH) (.slice (some ⟨gP, 0, none⟩) (V + 1) (V + 1)) (.slice (some ⟨gW, 0, none⟩) (V + 1) (V + 1))) := by
      refine nOwns (hi := hh) (fun q => ?_) (fun q b hb => ?_) hd (fun b hb => ⟨(q4 b hb).1, (q4 b hb).2.1⟩) q5
      · cases q with
        | watches => show w2.ownsRow _ _ 1 _ (List.replicate _ _).length _; rw [List.length_replicate]; exact r5d.mono (by omega)
        | value => show w2.ownsRow _ _ 1 _ (List.replicate _ _).length _; rw [List.length_replicate]; exact r9d.mono (by omega)
        | level => show w2.ownsRow _ _ 1 _ (List.replicate _ _).length _; rw [List.length_replicate]; exact r12d.mono (by omega)
        | reason => show w2.ownsRow _ _ 1 _ (List.replicate _ _).length _; rw [List.length_replicate]; exact r15d.mono (by omega)
        | phase => show w2.ownsRow _ _ 1 _ (List.replicate _ _).length _; rw [List.length_replicate]; exact r18d.mono (by omega)
        | seen => show w2.ownsRow _ _ 1 _ (List.replicate _ _).length _; rw [List.length_replicate]; exact r21d.mono (by omega)
        | stamps => show w2.ownsRow _ _ 1 _ (List.replicate _ _).length _; rw [List.length_replicate]; exact r25d.mono (by omega)
        | heap => show w2.ownsRow _ _ 1 _ (hps V).length _; rw [show (hps V).length = V from by unfold hps; simp]; exact q1.mono (by omega)
        | place => show w2.ownsRow _ _ 1 _ ((List.range (V + 1)).map _).length _; rw [List.length_map, List.length_range]; exact q2.mono (by omega)
        | weight => show w2.ownsRow _ _ 1 _ (List.replicate _ _).length _; rw [List.length_replicate]; exact q3.mono (by omega)
        | _ => exact World.ownsRow_nil _ _ _ _
      · cases q with
        | watches => have h1 : lo 5 = b := Option.some.inj hb; show lo 5 ≤ b ∧ b < hh 5; omega
        | value => have h1 : lo 9 = b := Option.some.inj hb; show lo 9 ≤ b ∧ b < hh 9; omega
        | level => have h1 : lo 12 = b := Option.some.inj hb; show lo 12 ≤ b ∧ b < hh 12; omega
        | reason => have h1 : lo 15 = b := Option.some.inj hb; show lo 15 ≤ b ∧ b < hh 15; omega
        | phase => have h1 : lo 18 = b := Option.some.inj hb; show lo 18 ≤ b ∧ b < hh 18; omega
        | seen => have h1 : lo 21 = b := Option.some.inj hb; show lo 21 ≤ b ∧ b < hh 21; omega
        | stamps => have h1 : lo 25 = b := Option.some.inj hb; show lo 25 ≤ b ∧ b < hh 25; omega
        | heap => exact ⟨(q1.lt b hb).1, (q4 b hb).2.2⟩
        | place => exact ⟨(q2.lt b hb).1, by have h1 : gP = b := Option.some.inj hb; show b < hh 27; omega⟩
        | weight => exact ⟨(q3.lt b hb).1, by have h1 : gW = b := Option.some.inj hb; show b < hh 27; omega⟩
        | _ => cases hb
    have hMem : Mem (w2.alloc (.cells (fields (nS V r k re b) (fvs (nF V (.slice (some ⟨lo 5, 0, none⟩) (2 * V + 2) (2 * V + 2)) (.slice (some ⟨lo 9, 0, none⟩) (2 * V + 2) (2 * V + 2)) (.slice (some ⟨lo 12, 0, none⟩) (V + 1) (V + 1)) (.slice (some ⟨lo 15, 0, none⟩) (V + 1) (V + 1)) (.slice (some ⟨lo 18, 0, none⟩) (V + 1) (V + 1)) (.slice (some ⟨lo 21, 0, none⟩) (V + 1) (V + 1)) (.slice (some ⟨lo 25, 0, none⟩) (3 * V + 2) (3 * V + 2)) (.slice aH V cH) (.slice (some ⟨gP, 0, none⟩) (V + 1) (V + 1)) (.slice (some ⟨gW, 0, none⟩) (V + 1) (V + 1))))).toArray 54)) w.heap.size w2.heap.size (nS V r k re b) (nF V (.slice (some ⟨lo 5, 0, none⟩) (2 * V + 2) (2 * V + 2)) (.slice (some ⟨lo 9, 0, none⟩) (2 * V + 2) (2 * V + 2)) (.slice (some ⟨lo 12, 0, none⟩) (V + 1) (V + 1)) (.slice (some ⟨lo 15, 0, none⟩) (V + 1) (V + 1)) (.slice (some ⟨lo 18, 0, none⟩) (V + 1) (V + 1)) (.slice (some ⟨lo 21, 0, none⟩) (V + 1) (V + 1)) (.slice (some ⟨lo 25, 0, none⟩) (3 * V + 2) (3 * V + 2)) (.slice aH V cH) (.slice (some ⟨gP, 0, none⟩) (V + 1) (V + 1)) (.slice (some ⟨gW, 0, none⟩) (V + 1) (V + 1))) :=
      ⟨hO.alloc _, Whole.new w2 54 _, by have := hb.size; omega, fun q e => by have := ((hO.1 q).lt _ e).2; omega, fun q => by cases q <;> rfl, nF_cont V r k re b _ _ _ _ _ _ _ _ _ _, fun i hi => absurd hi (Nat.not_lt_zero _), fun i hi => absurd hi (Nat.not_lt_zero _), fun i j hi => absurd hi (Nat.not_lt_zero _), rfl⟩
    have hBel : Below w.heap.size w (w2.alloc (.cells (fields (nS V r k re b) (fvs (nF V (.slice (some ⟨lo 5, 0, none⟩) (2 * V + 2) (2 * V + 2)) (.slice (some ⟨lo 9, 0, none⟩) (2 * V + 2) (2 * V + 2)) (.slice (some ⟨lo 12, 0, none⟩) (V + 1) (V + 1)) (.slice (some ⟨lo 15, 0, none⟩) (V + 1) (V + 1)) (.slice (some ⟨lo 18, 0, none⟩) (V + 1) (V + 1)) (.slice (some ⟨lo 21, 0, none⟩) (V + 1) (V + 1)) (.slice (some ⟨lo 25, 0, none⟩) (3 * V + 2) (3 * V + 2)) (.slice aH V cH) (.slice (some ⟨gP, 0, none⟩) (V + 1) (V + 1)) (.slice (some ⟨gW, 0, none⟩) (V + 1) (V + 1))))).toArray 54)) := by
      refine Below.alloc (Below.trans ?_ (hb.mono (by omega))) (by have := hb.size; omega) _
      rw [← hw1]
      exact ((Below.refl _ _).alloc (Nat.le_refl _) _).drew
    have HFIN : Hid (NsP V r k re b w (.returned (.pointer (some ⟨w2.heap.size, 0, none⟩))) (w2.alloc (.cells (fields (nS V r k re b) (fvs (nF V (.slice (some ⟨lo 5, 0, none⟩) (2 * V + 2) (2 * V + 2)) (.slice (some ⟨lo 9, 0, none⟩) (2 * V + 2) (2 * V + 2)) (.slice (some ⟨lo 12, 0, none⟩) (V + 1) (V + 1)) (.slice (some ⟨lo 15, 0, none⟩) (V + 1) (V + 1)) (.slice (some ⟨lo 18, 0, none⟩) (V + 1) (V + 1)) (.slice (some ⟨lo 21, 0, none⟩) (V + 1) (V + 1)) (.slice (some ⟨lo 25, 0, none⟩) (3 * V + 2) (3 * V + 2)) (.slice aH V cH) (.slice (some ⟨gP, 0, none⟩) (V + 1) (V + 1)) (.slice (some ⟨gW, 0, none⟩) (V + 1) (V + 1))))).toArray 54))) := Lib.hid ⟨_, _, rfl, hMem, hBel⟩
    clear hMem hBel hO
    dsimp only
    rw [r5b, r9b, r12b, r15b, r18b, r21b, r25b, qv]
    refine wpAnyH_all (rs := [32]) (by kernel_rfl) (by simp) fun i hi => ?_
    obtain rfl : i = 32 := by simpa using hi
    refine wpOp_step rfl fun K' hK => ?_
    clear hR hd
    go_simp
    refine hK _ _ ⟨hS, ?_⟩
    clear hK K'
    refine wpAnyH_all (rs := [33]) (by kernel_rfl) (by simp) fun i hi => ?_
    obtain rfl : i = 33 := by simpa using hi
    refine wpOp_step rfl fun K' hK => ?_
    go_simp
    refine hK _ _ ⟨SOp.keep hS (by have := hb.size; omega) ((Below.refl _ _).alloc (Nat.le_refl _) _), ?_⟩
    clear hK K'
    refine wpAnyH_all (rs := [34]) (by kernel_rfl) (by simp) fun i hi => ?_
    obtain rfl : i = 34 := by simpa using hi
    refine wpOp_step rfl fun K' hK => ?_
    go_simp
    refine hK _ _ ⟨SOp.keep hS (by have := hb.size; omega) ((Below.refl _ _).alloc (Nat.le_refl _) _), wpAnyH_done (by kernel_rfl) ?_ _⟩
    clear hK K'
    go_wp2
    refine bodyPost_ret (v := .pointer (some ⟨w2.heap.size, 0, none⟩)) (by simp [results, Tryd.results11, go_sem]) rfl ?_
    exact HFIN.out
end
end Go.Proofs.YtojjjndhabjhdaaDoor.satLd
