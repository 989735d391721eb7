/-
  Contract of Solve.
-/
import Derived.Test.YtojjjndhabjhdaaDoorFkM
import Derived.Test.YtojjjndhabjhdaaDoorSatSg
namespace Go.Proofs.YtojjjndhabjhdaaDoor.satLh
set_option linter.unusedSimpArgs false
set_option linter.unusedVariables false
open Go.ChangeShapes Go.WideShapes Go.ChangeAt Go.RowKit proofP proofQ owns cls satP satQ satR satS satA satF satB satC satD satE satG satH satI satJ satK satM satN satU satV satO satW satX satZ satSa satSb satSc satCa satCb satCc satCd satCe satRi satRj satRk satSd satSe satSf satSg satLa satLb satLc satLd satLe satLf satLg
attribute [local go_sem ↓] Go.wp_at_zero Go.wp_at_succ

section
variable {CS : List (List Int)} {V : Nat} {r k b : Int} {re : Bool} {tmp : Nat → List Nat} {l : List Nat}
/-- nothing is loaded yet -/
theorem li0 (hV : V ≤ 20000) : LI CS (((nS V r k re b).tm tmp).wn l) [] (fun _ => []) (((nS V r k re b).tm tmp).wn l) := by
  refine ⟨⟨_, _, _, _, _, _, _, _, _, _, _, _, _, rfl⟩, ⟨⟨List.nodup_nil, fun x hx => (by cases hx), fun x hx => (by cases hx), fun j k a b h => ?_, fun s hs => (by cases hs), fun p x h => ?_⟩, ⟨fun i hi => absurd hi (Nat.not_lt_zero _), fun i hi => absurd hi (Nat.not_lt_zero _), fun i hi => absurd hi (Nat.not_lt_zero _), fun i hi => absurd hi (Nat.not_lt_zero _), fun i hi => absurd hi (Nat.not_lt_zero _), fun i hi => absurd hi (Nat.not_lt_zero _)⟩, fun p x h => ?_, ⟨fun c => List.nodup_nil, fun c i hi => (by cases hi), fun i hi => absurd hi (Nat.not_lt_zero _)⟩, rfl, fun v => Nat.zero_le _, fun v i h => (by cases h), Nat.zero_le _, hV, Nat.zero_le _⟩, fun c hc => (by cases hc), fun h => (by cases h), Nat.le_refl _⟩
  · change ([] : List Nat)[j]? = some a at h
    simp at h
  · change ([] : List Nat)[p]? = some x at h
    simp at h
  · change ([] : List Nat)[p]? = some x at h
    simp at h
/-- what Solve answers -/
def SvP (V : Nat) (cs : List (List Int)) (asm : List Int) (b r : Int) (w : World) (e : Ending) (w' : World) : Prop :=
  ∃ res wr, e = .returned (.tuple #[res, .nilIface]) ∧ w.heap.size ≤ wr.heap.size ∧ Below w.heap.size w w' ∧ RunOut cs (rowOf asm) V b r w.heap.size wr (.returned res) w'
abbrev evl (a : Addr) : Value := .iface 127 (.pointer (some a))
theorem neqE (a : Addr) (w : World) : (binOp .neq 32 (evl a) .nilIface).run Tryd.prog w = .ok (.bool true) w := by kernel_rfl
theorem neqN (w : World) : (binOp .neq 32 .nilIface .nilIface).run Tryd.prog w = .ok (.bool false) w := by kernel_rfl
theorem errv_ev (a1 a2 : Addr) {n : Nat} (h : n ≠ 0) : ∃ a, errv (evl a1) (evl a2) n = evl a := by
  unfold errv
  rw [if_neg h]
  split
  · exact ⟨_, rfl⟩
  · exact ⟨_, rfl⟩
set_option maxHeartbeats 4000000 in
set_option maxRecDepth 100000 in
theorem solve_bad {w : World} {B : Nat} {cv av : Value} {cs : List (List Int)} {asm : List Int} (V r k b : Int) (re : Bool) (a1 a2 : Addr) (hc : ClsAt w B cv cs) (ha : IntsAt w B av asm) (hB : B ≤ w.heap.size) (hg : 1 < w.heap.size) (g9 : w.cell? ⟨0, 0, none⟩ = some (evl a1)) (g11 : w.cell? ⟨1, 0, none⟩ = some (evl a2)) (hch : chk V cs asm r k b ≠ 0) :
    Calls Tryd.prog 6 #[cv, .int .i64 V, av, .agg #[.int .i64 r, .int .i64 k, .bool re, .int .i64 b]] w fun e w' => e = .returned (.tuple #[.agg #[.int .i64 0, .slice none 0 0, .slice none 0 0, .slice none 0 0, .int .i64 0], errv (evl a1) (evl a2) (chk V cs asm r k b)]) ∧ Below w.heap.size w w' := by
  have hA : Below w.heap.size w ((w.alloc (.cells #[.int .i64 r, .int .i64 k, .bool re, .int .i64 b] 36)).alloc (.cells #[.int .i64 0, .slice none 0 0, .slice none 0 0, .slice none 0 0, .int .i64 0] 26)) := ((Below.refl _ _).alloc (Nat.le_refl _) _).alloc (by simp) _
  have hszA : ((w.alloc (.cells #[.int .i64 r, .int .i64 k, .bool re, .int .i64 b] 36)).alloc (.cells #[.int .i64 0, .slice none 0 0, .slice none 0 0, .slice none 0 0, .int .i64 0] 26)).heap.size = w.heap.size + 2 := by simp
  have HCK0 := checked_any V r k b re (evl a1) (evl a2) (hc.keep (hA.mono hB)) (ha.keep (hA.mono hB)) (B := B) (by omega) (by omega) ((hA.cell (show (⟨0, 0, none⟩ : Addr).block < _ from by show 0 < _; omega)).trans g9) ((hA.cell (show (⟨1, 0, none⟩ : Addr).block < _ from hg)).trans g11)
  obtain ⟨a, hea⟩ := errv_ev a1 a2 hch
  rw [hea] at HCK0 ⊢
  have HCK := Lib.hid HCK0
  have hW0 := Whole.new (w.alloc (.cells #[.int .i64 r, .int .i64 k, .bool re, .int .i64 b] 36)) 26 [.int .i64 0, .slice none 0 0, .slice none 0 0, .slice none 0 0, .int .i64 0]
  rw [show (w.alloc (.cells #[.int .i64 r, .int .i64 k, .bool re, .int .i64 b] 36)).heap.size = w.heap.size + 1 from by simp] at hW0
  have HW0 := Lib.hid hW0
  have HA := Lib.hid hA
  clear hc ha g9 g11 hW0 HCK0 hA hea hch
  have hne := neqE a
  go_enter Tryd.func6, Tryd.ntmps6
  go_wp2_with fail
  refine HCK.out.mono ?_
  rintro e w1 ⟨rfl, hb1⟩
  have hR1 : Whole w1 (w.heap.size + 1) 26 [.int .i64 0, .slice none 0 0, .slice none 0 0, .slice none 0 0, .int .i64 0] := HW0.out.below hb1 (by omega)
  have HB1 := Lib.hid (HA.out.trans (hb1.mono (by omega)))
  have HR1 := Lib.hid hR1
  clear hb1 HA HW0 HCK
  obtain ⟨c0, c1, c2, c3, c4⟩ := whole5 hR1
  have y0 := hR1.frozen 0
  have y1 := hR1.frozen 1
  have y2 := hR1.frozen 2
  have y3 := hR1.frozen 3
  have y4 := hR1.frozen 4
  clear hR1
  have HW5 := Lib.hid (set5_whole HR1.out (.int .i64 0) (.slice none 0 0) (.slice none 0 0) (.slice none 0 0) (.int .i64 0))
  have HB5 : Hid (Below w.heap.size w (((((w1.setCell ⟨w.heap.size + 1, 0, none⟩ (.int .i64 0)).setCell ⟨w.heap.size + 1, 1, none⟩ (.slice none 0 0)).setCell ⟨w.heap.size + 1, 2, none⟩ (.slice none 0 0)).setCell ⟨w.heap.size + 1, 3, none⟩ (.slice none 0 0)).setCell ⟨w.heap.size + 1, 4, none⟩ (.int .i64 0))) := Lib.hid (HB1.out.grown (set5_grown w1 (w.heap.size + 1) _ _ _ _ _) (HB1.out.size) (fun k hk => by cases hk; omega))
  go_wp2
  generalize ((((w1.setCell ⟨w.heap.size + 1, 0, none⟩ (.int .i64 0)).setCell ⟨w.heap.size + 1, 1, none⟩ (.slice none 0 0)).setCell ⟨w.heap.size + 1, 2, none⟩ (.slice none 0 0)).setCell ⟨w.heap.size + 1, 3, none⟩ (.slice none 0 0)).setCell ⟨w.heap.size + 1, 4, none⟩ (.int .i64 0) = w7 at *
  obtain ⟨k0, k1, k2, k3, k4⟩ := whole5 HW5.out
  refine bodyPost_ret (v := .tuple #[.agg #[.int .i64 0, .slice none 0 0, .slice none 0 0, .slice none 0 0, .int .i64 0], evl a]) (by simp [results, Tryd.results6, go_sem, k0, k1, k2, k3, k4]) rfl ?_
  exact ⟨rfl, HB5.out⟩
/-- what checked takes -/
structure Fine (V : Int) (cs : List (List Int)) (asm : List Int) (r k b : Int) : Prop where
  v : 0 ≤ V ∧ V ≤ 20000
  c : ∀ c, c ∈ cs → ∀ l, l ∈ c → l ≠ 0 ∧ -V ≤ l ∧ l ≤ V
  a : ∀ l, l ∈ asm → l ≠ 0 ∧ -V ≤ l ∧ l ≤ V
  o : 0 ≤ r ∧ 0 ≤ k ∧ 0 ≤ b
  n : cs.length ≤ 200000
theorem badl_no {V l : Int} : badl V l = false ↔ l ≠ 0 ∧ -V ≤ l ∧ l ≤ V := by
  unfold badl
  simp
theorem chk_fine {V : Int} {cs : List (List Int)} {asm : List Int} {r k b : Int} : chk V cs asm r k b = 0 ↔ Fine V cs asm r k b := by
  have hc : (cs.any fun c => c.any (badl V)) = true ↔ ¬ ∀ c, c ∈ cs → ∀ l, l ∈ c → l ≠ 0 ∧ -V ≤ l ∧ l ≤ V := by
    rw [List.any_eq_true]
    constructor
    · rintro ⟨c, h1, h2⟩ h
      obtain ⟨l, h3, h4⟩ := List.any_eq_true.1 h2
      rw [badl_no.2 (h c h1 l h3)] at h4; cases h4
    · intro h
      refine Classical.byContradiction fun hn => h fun c h1 l h2 => ?_
      refine badl_no.1 (Bool.eq_false_iff.2 fun h3 => hn ⟨c, h1, List.any_eq_true.2 ⟨l, h2, h3⟩⟩)
  have ha : asm.any (badl V) = true ↔ ¬ ∀ l, l ∈ asm → l ≠ 0 ∧ -V ≤ l ∧ l ≤ V := by
    rw [List.any_eq_true]
    constructor
    · rintro ⟨l, h3, h4⟩ h
      rw [badl_no.2 (h l h3)] at h4; cases h4
    · intro h
      exact Classical.byContradiction fun hn => h fun l h2 => badl_no.1 (Bool.eq_false_iff.2 fun h3 => hn ⟨l, h2, h3⟩)
  unfold chk
  constructor
  · intro h
    split at h
    · cases h
    split at h
    · cases h
    split at h
    · cases h
    split at h
    · cases h
    split at h
    · cases h
    rename_i h1 h2 h3 h4 h5
    exact ⟨by omega, Classical.byContradiction fun e => h2 (hc.2 e), Classical.byContradiction fun e => h3 (ha.2 e), by omega, by omega⟩
  · intro h
    rw [if_neg (by have := h.v; omega), if_neg (fun e => hc.1 e h.c), if_neg (fun e => ha.1 e h.a), if_neg (by have := h.o; omega), if_neg (by have := h.n; omega)]
theorem row_rng {V : Nat} {c : List Int} (h : ∀ l, l ∈ c → l ≠ 0 ∧ -(V : Int) ≤ l ∧ l ≤ (V : Int)) : ∀ x, x ∈ rowOf c → 2 ≤ x ∧ x < 2 * V + 2 := by
  intro x hx
  obtain ⟨l, hl, _, rfl⟩ := (row_is c x).1 hx
  have := h l hl
  unfold code
  split <;> omega
/-- a world with one block changed that lies below -/
theorem RunOut.low {cs : List (List Int)} {wanted : List Nat} {V : Nat} {bud rst : Int} {B B' rb : Nat} {w w5 w6 : World} {v : Value} (h : RunOut cs wanted V bud rst B w (.returned v) w5) (hB : B' ≤ B) (hBw : B ≤ w.heap.size) (hg : w5.grownBy w6 (some rb)) (hrb : rb < B) (hb : Below B' w w6) : RunOut cs wanted V bud rst B' w (.returned v) w6 := by
  obtain ⟨st, conf, mv, cv, lv, logs, he, hk, hl, _, h1, h2, h3, h4⟩ := h
  have hL := Low.grown (B := w.heap.size) hg (Nat.lt_of_lt_of_le hrb hBw)
  refine ⟨st, conf, mv, cv, lv, logs, he, (hk.low (Low.grown hg hrb)).mono hB, hl, hb, h1, h2, h3, ?_⟩
  rcases h4 with ⟨e1, e2, T, hr, h5⟩ | ⟨e1, e2, K, l, hr, h5⟩ | h4
  · exact .inl ⟨e1, e2, T, hL.row hr, h5⟩
  · exact .inr (.inl ⟨e1, e2, K, l, hL.row hr, h5⟩)
  · exact .inr (.inr h4)
/-- its slices -/
theorem RunOut.form {cs : List (List Int)} {wanted : List Nat} {V : Nat} {bud rst : Int} {B : Nat} {w w5 : World} {e : Ending} (h : RunOut cs wanted V bud rst B w e w5) : ∃ st conf a1 n1 c1 a2 n2 c2 a3 n3 c3, e = .returned (.agg #[.int .i64 st, .slice a1 n1 c1, .slice a2 n2 c2, .slice a3 n3 c3, .int .i64 conf]) := by
  obtain ⟨st, conf, mv, cv, lv, logs, rfl, hk, _, _, _, _, _, h4⟩ := h
  obtain ⟨a3, c3, _, _, _, rfl, _⟩ := hk.at
  rcases h4 with ⟨_, rfl, T, hr, _⟩ | ⟨_, rfl, K, l, hr, _⟩ | ⟨_, rfl, rfl, _⟩
  · obtain ⟨a, c, rfl⟩ := own_slice hr
    exact ⟨_, _, _, _, _, _, _, _, _, _, _, rfl⟩
  · obtain ⟨a, c, rfl⟩ := own_slice hr
    exact ⟨_, _, _, _, _, _, _, _, _, _, _, rfl⟩
  · exact ⟨_, _, _, _, _, _, _, _, _, _, _, rfl⟩
theorem take_snocC {l : List (List Int)} {j : Nat} (h : j < l.length) : l.take (j + 1) = l.take j ++ [l.getD j []] := by
  rw [List.take_succ_eq_append_getElem h, List.getD_eq_getElem?_getD, List.getElem?_eq_getElem h]; rfl
/-- while clauses are loaded -/
def SvR (cs : List (List Int)) (s0 : SS) (B0 bp : Nat) (w w1 : World) (j : Nat) (wr : World) : Prop := ∃ s F cls, Mem wr B0 bp s F ∧ LI cs s0 (cs.take j) cls s ∧ Below w.heap.size w wr ∧ Below B0 w1 wr
set_option maxHeartbeats 4000000 in
set_option maxRecDepth 100000 in
theorem solve_ok {w : World} {B : Nat} {cv av : Value} {cs : List (List Int)} {asm : List Int} (V : Nat) (r k b : Int) (re : Bool) (a1 a2 : Addr) (hc : ClsAt w B cv cs) (ha : IntsAt w B av asm) (hB : B ≤ w.heap.size) (hg : 1 < w.heap.size) (g9 : w.cell? ⟨0, 0, none⟩ = some (evl a1)) (g11 : w.cell? ⟨1, 0, none⟩ = some (evl a2)) (hF : Fine (V : Int) cs asm r k b) (hV : V ≤ 20) (hk : k ≤ 9223372036854775807) (hcl : ∀ c, c ∈ cs → c.length ≤ 100000) (hal : asm.length ≤ 100000) :
    Calls Tryd.prog 6 #[cv, .int .i64 V, av, .agg #[.int .i64 r, .int .i64 k, .bool re, .int .i64 b]] w (SvP V cs asm b r w) := by
  have hA : Below w.heap.size w ((w.alloc (.cells #[.int .i64 r, .int .i64 k, .bool re, .int .i64 b] 36)).alloc (.cells #[.int .i64 0, .slice none 0 0, .slice none 0 0, .slice none 0 0, .int .i64 0] 26)) := ((Below.refl _ _).alloc (Nat.le_refl _) _).alloc (by simp) _
  have hszA : ((w.alloc (.cells #[.int .i64 r, .int .i64 k, .bool re, .int .i64 b] 36)).alloc (.cells #[.int .i64 0, .slice none 0 0, .slice none 0 0, .slice none 0 0, .int .i64 0] 26)).heap.size = w.heap.size + 2 := by simp
  have HCK0 := checked_any (V : Int) r k b re (evl a1) (evl a2) (hc.keep (hA.mono hB)) (ha.keep (hA.mono hB)) (B := B) (by omega) (by omega) ((hA.cell (show (⟨0, 0, none⟩ : Addr).block < _ from by show 0 < _; omega)).trans g9) ((hA.cell (show (⟨1, 0, none⟩ : Addr).block < _ from hg)).trans g11)
  rw [chk_fine.2 hF, show errv (evl a1) (evl a2) 0 = Value.nilIface from rfl] at HCK0
  have HCK := Lib.hid HCK0
  have hW0 := Whole.new (w.alloc (.cells #[.int .i64 r, .int .i64 k, .bool re, .int .i64 b] 36)) 26 [.int .i64 0, .slice none 0 0, .slice none 0 0, .slice none 0 0, .int .i64 0]
  rw [show (w.alloc (.cells #[.int .i64 r, .int .i64 k, .bool re, .int .i64 b] 36)).heap.size = w.heap.size + 1 from by simp] at hW0
  have hO0 := (Whole.new w 36 [.int .i64 r, .int .i64 k, .bool re, .int .i64 b]).below ((Below.refl (w.heap.size + 1) _).alloc (B := w.heap.size + 1) (by simp) (.cells #[.int .i64 0, .slice none 0 0, .slice none 0 0, .slice none 0 0, .int .i64 0] 26)) (Nat.lt_succ_self _)
  have HW0 := Lib.hid hW0
  have HO0 := Lib.hid hO0
  have HA := Lib.hid hA
  have HF := Lib.hid hF
  have HCL := Lib.hid hcl
  have HAL := Lib.hid hal
  have HKK := Lib.hid hk
  have HC := Lib.hid hc
  have HAI := Lib.hid ha
  have HHB := Lib.hid hB
  clear hc ha g9 g11 hW0 hO0 HCK0 hA hF hcl hal hk hB
  have hne := neqN
  go_enter Tryd.func6, Tryd.ntmps6
  go_wp2_with fail
  refine HCK.out.mono ?_
  rintro e w1 ⟨rfl, hb1⟩
  have hR1 : Whole w1 (w.heap.size + 1) 26 [.int .i64 0, .slice none 0 0, .slice none 0 0, .slice none 0 0, .int .i64 0] := HW0.out.below hb1 (by omega)
  have hO1 : Whole w1 w.heap.size 36 [.int .i64 r, .int .i64 k, .bool re, .int .i64 b] := HO0.out.below hb1 (by omega)
  have HR1 := Lib.hid hR1
  have HB1 := Lib.hid (HA.out.trans (hb1.mono (by omega)))
  have hs1 := hb1.size
  rw [hszA] at hs1
  clear hb1 HA HW0 HO0 HCK hR1 hszA
  have o0 := hO1.cell 0
  have o1 := hO1.cell 1
  have o2 := hO1.cell 2
  have o3 := hO1.cell 3
  simp only [List.getElem?_cons_zero, List.getElem?_cons_succ] at o0 o1 o2 o3
  clear hO1
  have HNS := Lib.hid (newSearch_any w1 V (by omega) r k b re)
  go_wp2_with fail
  refine HNS.out.mono ?_
  rintro e w2 ⟨bp, F, rfl, M, hb2⟩
  have HC1 := Lib.hid (HC.out.mono HHB.out)
  have HAI1 := Lib.hid (HAI.out.mono HHB.out)
  clear HC HAI HHB
  have HB2 := Lib.hid (HB1.out.trans (hb2.mono (by omega)))
  have hs2 := hb2.size
  have HCO := Lib.hid (codesOf_any w2 w.heap.size av asm (HAI1.out.keep HB2.out) (by omega) HAL.out (fun l hl => by
    have := HF.out.a l hl
    exact ⟨this.1, by omega, by omega⟩))
  have HBX := Lib.hid hb2
  have HM := Lib.hid M
  clear hb2 M HNS o0 o1 o2 o3
  go_wp2_with fail
  refine HCO.out.mono ?_
  rintro e w3 ⟨v, rfl, hrow, hb3⟩
  obtain ⟨F1, M1, K1, _⟩ := HM.out.free 1
  obtain ⟨F2, M2, K2, _⟩ := M1.newTmp (j := 1) (l := rowOf asm) K1 hb3 hrow
  obtain ⟨F3, M3⟩ := M2.setWanted (l := rowOf asm) (by dsimp only [SS.tm]; exact updN_same _ _ _)
  rw [K2] at M3
  obtain ⟨s0, hs0⟩ : ∃ s0, s0 = ((((nS V r k re b).tm (updN (nS V r k re b).tmp 1 [])).tm (updN ((nS V r k re b).tm (updN (nS V r k re b).tmp 1 [])).tmp 1 (rowOf asm))).wn (rowOf asm)) := ⟨_, rfl⟩
  have L0 : LI cs s0 [] (fun _ => []) s0 := by rw [hs0]; exact li0 (V := V) (by omega)
  have S0 : St0 s0 := by rw [hs0]; exact st0 HF.out.o.1 ⟨HF.out.o.2.1, HKK.out⟩ (row_nodup asm) (row_rng HF.out.a)
  have eV : s0.V = V := by rw [hs0]; rfl
  have eW : s0.wanted = rowOf asm := by rw [hs0]; rfl
  have eB : s0.budget = b := by rw [hs0]; rfl
  have eR : s0.restart = r := by rw [hs0]; rfl
  rw [← hs0] at M3
  have f5 : w3.cell? ⟨bp, 5, none⟩ = some (F2 .wanted).v := M2.fld 5
  have z5 := M2.obj.frozen 5
  have hbp := M2.hB
  have hs3 := hb3.size
  have HB4 : Hid (Below w.heap.size w (w3.setCell ⟨bp, 5, none⟩ v)) := Lib.hid ((HB2.out.trans (hb3.mono (by omega))).setCell (by show w.heap.size ≤ bp; omega) v)
  have HSR : Hid (SvR cs s0 w1.heap.size bp w w1 0 (w3.setCell ⟨bp, 5, none⟩ v)) := Lib.hid ⟨_, _, _, M3, L0, HB4.out, (HBX.out.trans (hb3.mono hs2)).setCell (by show w1.heap.size ≤ bp; omega) _⟩
  have HS0 := Lib.hid S0
  have HEV := Lib.hid eV
  have HEW := Lib.hid eW
  have HEB := Lib.hid eB
  have HER := Lib.hid eR
  obtain ⟨ag, cg, rfl⟩ := own_slice hrow
  obtain ⟨ac, capc, bc, offc, vs, rfl, hmc, hac, hcc, hnc⟩ := HC1.out
  have HAC := Lib.hid hac
  have HCC := Lib.hid hcc
  have HNC := Lib.hid hnc
  generalize (F2 .wanted).v = vw at *
  have HHS : Hid (w.heap.size + 2 ≤ w1.heap.size) := Lib.hid hs1
  obtain ⟨B0, hB0⟩ : ∃ B0, B0 = w1.heap.size := ⟨_, rfl⟩
  rw [← hB0] at HSR HHS hbp
  have HR0 := Lib.hid hB0
  clear hrow hb3 M1 K1 M2 K2 M3 hs0 L0 S0 eV eW eB eR HM HBX HCO hac hcc hnc hs3 hs2 hs1 hB0
  go_wp2
  generalize w3.setCell ⟨bp, 5, none⟩ (.slice ag (rowOf asm).length cg) = w4 at *
  clear f5 z5
  unfold maxLen at hmc
  go_loopw [33] (fun it wr => ∃ j : Nat, j ≤ cs.length ∧ it = .int .i64 j ∧ SvR cs s0 B0 bp w w1 j wr) (fun it _ => cs.length - (intOf it).toNat)
  case atStart => exact ⟨0, Nat.zero_le _, rfl, HSR.out⟩
  case round =>
    clear HSR HB4
    obtain ⟨j, hj, rfl, s, F, cls, M, L, hb, hbx⟩ := hrel
    have hB0w : B0 ≤ wr.heap.size := by rw [HR0.out]; exact hbx.size
    have HBX := Lib.hid hbx
    clear hbx
    by_cases hlt : j < cs.length
    · obtain ⟨rfl, hbB⟩ := HAC.out (by intro h0; rw [h0] at hlt; simp at hlt)
      have q : wr.cell? ⟨bc, offc + j, none⟩ = some (vs j) := by
        rw [hb.cell (show (⟨bc, offc + j, none⟩ : Addr).block < w.heap.size from hbB)]
        exact HCC.out j hlt
      have hmem : cs.getD j [] ∈ cs := by rw [List.getD_eq_getElem?_getD, List.getElem?_eq_getElem hlt]; exact List.getElem_mem hlt
      have hcF := HF.out.c _ hmem
      have HCO := Lib.hid (codesOf_any wr w.heap.size (vs j) (cs.getD j []) ((HNC.out j hlt).keep hb) hb.size (HCL.out _ hmem) (fun l hl => by
        have := hcF l hl
        exact ⟨this.1, by omega, by omega⟩))
      have HRG := Lib.hid (row_rng hcF)
      have HTS := Lib.hid (take_snocC hlt)
      have HME := Lib.hid hmem
      have hjn : j < 200000 := by have := HF.out.n; omega
      have HJN : Hid ((cs.take j).length < 1000000) := Lib.hid (by rw [List.length_take]; omega)
      generalize cs.getD j [] = cj at *
      have HM := Lib.hid M
      have HL := Lib.hid L
      have HB := Lib.hid hb
      have hws := hb.size
      clear M L hb hmem hcF hjn
      go_wp2_with fail
      refine HCO.out.mono ?_
      rintro e w5 ⟨v, rfl, hrow, hb5⟩
      obtain ⟨F1, M1, K1, _⟩ := HM.out.free 1
      obtain ⟨F2, M2, K2, _⟩ := M1.newTmp (j := 1) (l := rowOf cj) K1 hb5 hrow
      have hsV : s.V = V := HL.out.ld.V.trans HEV.out
      have HLO := Lib.hid (load_any M2 ((HL.out.tms _).tms _) HS0.out HME.out (fun x hx => by
        have := HRG.out x hx
        show x < 2 * s.V + 2
        omega) HJN.out K2 (by dsimp only [SS.tm]; exact updN_same _ _ _))
      have HB5 := Lib.hid (HB.out.trans (hb5.mono hws))
      have HBX5 := Lib.hid (HBX.out.trans (hb5.mono hB0w))
      have hs5 := hb5.size
      clear M1 K1 M2 K2 hb5 HM HL HB HRG HCO HJN
      obtain ⟨ag2, cg2, rfl⟩ := own_slice hrow
      clear hrow
      go_wp2_with fail
      refine HLO.out.mono ?_
      rintro e w6 ⟨rfl, s', F', cls', M', L', hb6⟩
      rw [← HTS.out] at L'
      have HX : Hid (SvR cs s0 B0 bp w w1 (j + 1) w6) := Lib.hid ⟨s', F', cls', M', L', HB5.out.trans (hb6.mono (by have := HHS.out; omega)), HBX5.out.trans hb6⟩
      clear M' L' hb6 HB5 HLO HTS
      go_wp2
      go_roundw
      case rel => exact ⟨j + 1, by omega, by go_num, HX.out⟩
      case measure => simp [intOf]; omega
    · obtain rfl : j = cs.length := by omega
      rw [List.take_length] at L
      have hsV : s.V = V := L.ld.V.trans HEV.out
      have eW : s.wanted = rowOf asm := L.ld.wanted.trans HEW.out
      have eB : s.budget = b := L.ld.budget.trans HEB.out
      have eR : s.restart = r := by
        rw [← HER.out]
        obtain ⟨_, _, _, _, _, _, _, _, _, _, _, _, _, rfl⟩ := L.ld
        rfl
      have hRUN := run_any M (by omega) (n0 := s.n) (cs := cs) (cls := cls) (by have := L.nl; have := HF.out.n; omega) (fun he => ⟨L.em he, L.ld.logn.trans HS0.out.lg, L.ld.conflict.trans HS0.out.cf⟩) (fun he => L.ri HS0.out he) (fun c hc x hx => by
        have := row_rng (HF.out.c c hc) x hx
        omega)
      rw [eW, hsV, eB, eR] at hRUN
      have HRUN := Lib.hid hRUN
      have HB := Lib.hid hb
      have hws := hb.size
      clear M L hRUN hb eW eB eR hsV
      have HR1' := Lib.hid HR1.out
      go_wp2_with fail
      refine HRUN.out.mono ?_
      intro e w5 hRO
      have HRO : Hid (RunOut cs (rowOf asm) V b r B0 wr e w5) := Lib.hid hRO
      clear hRO HRUN
      obtain ⟨st, conf, m1, n1, c1, m2, n2, c2, m3, n3, c3, rfl⟩ := RunOut.form HRO.out
      have hbr : Below B0 wr w5 := by obtain ⟨_, _, _, _, _, _, _, _, _, h, _⟩ := HRO.out; exact h
      have HBW := Lib.hid (HB.out.trans (hbr.mono (by have := HHS.out; omega)))
      have hR5 : Whole w5 (w.heap.size + 1) 26 [.int .i64 0, .slice none 0 0, .slice none 0 0, .slice none 0 0, .int .i64 0] := by
        have h1 : Below B0 w1 w5 := HBX.out.trans hbr
        exact HR1.out.below h1 (by have := HHS.out; omega)
      have HR5 := Lib.hid hR5
      have HB6 : Hid (Below w.heap.size wr (((((w5.setCell ⟨w.heap.size + 1, 0, none⟩ (.int .i64 st)).setCell ⟨w.heap.size + 1, 1, none⟩ (.slice m1 n1 c1)).setCell ⟨w.heap.size + 1, 2, none⟩ (.slice m2 n2 c2)).setCell ⟨w.heap.size + 1, 3, none⟩ (.slice m3 n3 c3)).setCell ⟨w.heap.size + 1, 4, none⟩ (.int .i64 conf))) := Lib.hid ((hbr.mono (by have := HHS.out; omega)).grown (set5_grown w5 (w.heap.size + 1) _ _ _ _ _) (Nat.le_trans hws hbr.size) (fun k hk => by cases hk; omega))
      have HRF : Hid (RunOut cs (rowOf asm) V b r w.heap.size wr (.returned (.agg #[.int .i64 st, .slice m1 n1 c1, .slice m2 n2 c2, .slice m3 n3 c3, .int .i64 conf])) (((((w5.setCell ⟨w.heap.size + 1, 0, none⟩ (.int .i64 st)).setCell ⟨w.heap.size + 1, 1, none⟩ (.slice m1 n1 c1)).setCell ⟨w.heap.size + 1, 2, none⟩ (.slice m2 n2 c2)).setCell ⟨w.heap.size + 1, 3, none⟩ (.slice m3 n3 c3)).setCell ⟨w.heap.size + 1, 4, none⟩ (.int .i64 conf))) := Lib.hid
        (RunOut.low HRO.out (by have := HHS.out; omega) hB0w (set5_grown w5 (w.heap.size + 1) _ _ _ _ _) (by have := HHS.out; omega) HB6.out)
      have HW6 := Lib.hid (set5_whole HR5.out (.int .i64 st) (.slice m1 n1 c1) (.slice m2 n2 c2) (.slice m3 n3 c3) (.int .i64 conf))
      have HBZ := Lib.hid (HB.out.trans HB6.out)
      have HSW : Hid (w.heap.size ≤ wr.heap.size) := Lib.hid hws
      obtain ⟨g0, g1, g2, g3, g4⟩ := whole5 hR5
      have y0 := hR5.frozen 0
      have y1 := hR5.frozen 1
      have y2 := hR5.frozen 2
      have y3 := hR5.frozen 3
      have y4 := hR5.frozen 4
      clear hR5 HR5 hbr HRO HBW HR1 HR1' HB1 HF HCL HAL HKK
      go_wp2_with fail
      generalize ((((w5.setCell ⟨w.heap.size + 1, 0, none⟩ (.int .i64 st)).setCell ⟨w.heap.size + 1, 1, none⟩ (.slice m1 n1 c1)).setCell ⟨w.heap.size + 1, 2, none⟩ (.slice m2 n2 c2)).setCell ⟨w.heap.size + 1, 3, none⟩ (.slice m3 n3 c3)).setCell ⟨w.heap.size + 1, 4, none⟩ (.int .i64 conf) = w7 at *
      obtain ⟨k0, k1, k2, k3, k4⟩ := whole5 HW6.out
      refine bodyPost_ret (v := .tuple #[.agg #[.int .i64 st, .slice m1 n1 c1, .slice m2 n2 c2, .slice m3 n3 c3, .int .i64 conf], .nilIface]) (by simp [results, Tryd.results6, go_sem, k0, k1, k2, k3, k4]) rfl ?_
      exact ⟨_, wr, rfl, HSW.out, HBZ.out, HRF.out⟩
end
end Go.Proofs.YtojjjndhabjhdaaDoor.satLh
