/-
  Sorting the learned rows: which rows are there stays.
-/
import Derived.Test.YtojjjndhabjhdaaDoorSatO
import Derived.Test.YtojjjndhabjhdaaDoorShelf
import Derived.Deep.QuietTactic
import Derived.BigQuiet
namespace Go.Proofs.YtojjjndhabjhdaaDoor.satSa
set_option linter.unusedSimpArgs false
set_option linter.unusedVariables false
open Go.ChangeShapes Go.WideShapes Go.ChangeAt Go.RowKit proofP proofQ owns cls satP satQ satR satS satA satF satB satC satD satE satG satH satI satJ satK satM satN satU satV satO
attribute [local go_sem ↓] Go.wp_at_zero Go.wp_at_succ

def _root_.Go.Proofs.YtojjjndhabjhdaaDoor.satA.SS.ln (s : SS) (l : List Nat) : SS := { s with learned := l }
section
variable {w w' wr : World} {B bp : Nat} {s : SS} {F : Ix → Ent} {g cap N : Nat}
/-- the learned rows are there, in whatever order -/
def LS (B bp : Nat) (s : SS) (F : Ix → Ent) (w wr : World) : Prop := ∃ l F', Mem wr B bp (s.ln l) F' ∧ fvs F' = fvs F ∧ l.length = s.learned.length ∧ (∀ i, i ∈ l → i ∈ s.learned) ∧ Below B w wr
theorem LS.start (h : Mem w B bp s F) : LS B bp s F w w := ⟨s.learned, F, h, rfl, rfl, fun _ h => h, Below.refl _ _⟩
theorem LS.below (h : LS B bp s F w wr) (hb : Below wr.heap.size wr w') : LS B bp s F w w' := by
  obtain ⟨l, F', M, h1, h2, h3, h4⟩ := h
  exact ⟨l, F', M.below hb, h1, h2, h3, h4.trans (hb.mono (by have := M.hB; have := M.obj.lt; omega))⟩
theorem LS.on {w1 w2 : World} {l : List Nat} {F' : Ix → Ent} (h1 : fvs F' = fvs F) (h2 : l.length = s.learned.length) (h3 : ∀ i, i ∈ l → i ∈ s.learned) (h4 : Below B w w1) (h : LS B bp (s.ln l) F' w1 w2) : LS B bp s F w w2 := by
  obtain ⟨l2, F2, M2, p1, p2, p3, p4⟩ := h
  exact ⟨l2, F2, M2, p1.trans h1, p2.trans h2, fun i hi => h3 i (p3 i hi), h4.trans p4⟩
theorem LS.draws (h : LS B bp s F w wr) (n : Nat) : LS B bp s F w (wr.drewN n) := h.below (Go.Joins.below_draws _ _ _)
theorem LS.drew (h : LS B bp s F w wr) : LS B bp s F w wr.drew := h.below (Below.refl _ _).drew
theorem LS.at (h : LS B bp s F w wr) (hl : ∀ i, i ∈ s.learned → i < s.n) (hv : (F .learned).v = .slice (some ⟨g, 0, none⟩) N cap) (hN : s.learned.length = N) {k : Nat} (hk : k < N) :
    (∃ i, i ∈ s.learned ∧ i < s.n ∧ wr.cell? ⟨g, k, none⟩ = some (.pointer (some ⟨s.rp i, 0, none⟩)) ∧ ∀ n, (wr.drewN n).cell? ⟨s.rp i, 1, none⟩ = some (.int .i64 (s.spread i))) ∧ wr.frozen? ⟨g, k, none⟩ = false := by
  obtain ⟨l, F', M, h1, h2, h3, h4⟩ := h
  have hv' : (F' .learned).v = .slice (some ⟨g, 0, none⟩) N cap := (congrFun h1 .learned).trans hv
  have hx : (F' .learned).xs = l.map (pv s.rp) := M.xs _
  have hkl : k < l.length := by omega
  have q := M.own.cell hv' k (by rw [hx]; simpa using hkl)
  rw [hx, List.getElem?_map, List.getElem?_eq_getElem hkl] at q
  have hm := h3 _ (List.getElem_mem hkl)
  have hn := hl _ hm
  refine ⟨⟨l[k], hm, hn, q, fun n => ?_⟩, M.own.frozen hv' k⟩
  rw [(Go.Joins.below_draws wr.heap.size wr n).cell (show (⟨s.rp l[k], 1, none⟩ : Addr).block < _ from (M.obji (i := l[k]) hn).2.2.2.1)]
  exact (M.obji (i := l[k]) hn).2.1
theorem LS.put (h : LS B bp s F w wr) (hv : (F .learned).v = .slice (some ⟨g, 0, none⟩) N cap) (hN : s.learned.length = N) {k i : Nat} (hk : k < N) (hi : i ∈ s.learned) : LS B bp s F w (wr.setCell ⟨g, k, none⟩ (.pointer (some ⟨s.rp i, 0, none⟩))) := by
  obtain ⟨l, F', M, h1, h2, h3, h4⟩ := h
  have hv' : (F' .learned).v = .slice (some ⟨g, 0, none⟩) N cap := (congrFun h1 .learned).trans hv
  obtain ⟨M2, G2⟩ := M.write hv' k (.pointer (some ⟨s.rp i, 0, none⟩)) (s' := s.ln (l.set k i)) (by
    show (l.set k i).map (pv s.rp) = (l.map (pv s.rp)).set k _
    rw [List.map_set]; rfl) (by intro q hq; cases q <;> first | rfl | exact absurd rfl hq) rfl rfl rfl rfl rfl
  have hg : B ≤ g := by
    have := M.own.1 .learned
    exact (this.lt g (by rw [hv']; rfl)).1
  refine ⟨l.set k i, _, M2, (fvs_set _ _ _).trans h1, by rw [List.length_set]; exact h2, fun j hj => ?_, h4.trans ((Below.refl _ _).setCell hg _)⟩
  rcases List.mem_or_eq_of_mem_set hj with hj | rfl
  · exact h3 j hj
  · exact hi
set_option maxRecDepth 100000 in
theorem cmp_any (w : World) (a b : Nat) (x y : Int) (h1 : ∀ n, (w.drewN n).cell? ⟨a, 1, none⟩ = some (.int .i64 x)) (h2 : ∀ n, (w.drewN n).cell? ⟨b, 1, none⟩ = some (.int .i64 y)) :
    Calls Tryd.prog 81 #[.pointer (some ⟨a, 0, none⟩), .pointer (some ⟨b, 0, none⟩)] w fun e w' => e = .returned (.int .i64 (Lib.compareInt x y)) ∧ ∃ m, w' = w.drewN m := by
  have HC := Lib.hid (fun n => Tryd.cmp_Compare_int x y (w.drewN n))
  have q1 := h1
  have q2 := h2
  have e1 := h1 0
  have e2 := h2 0
  go_enter Tryd.func81, Tryd.ntmps81
  go_wp2_with fail
  go_quiet (first | (go_at_call 82; refine Calls.quiet_of_same (HC.out _)))
  go_wp2
  go_ret
  exact ⟨rfl, _, rfl⟩
set_option maxRecDepth 100000 in
set_option maxHeartbeats 1000000 in
theorem swap_any (h : Mem w B bp s F) (hl : ∀ i, i ∈ s.learned → i < s.n) (hv : (F .learned).v = .slice (some ⟨g, 0, none⟩) N cap) (hN : s.learned.length = N) (hN2 : N ≤ 1000000000) (fv : Value) (a b n : Nat) (ha : a + n ≤ N) (hb : b + n ≤ N) (hab : a < b ∨ n = 0) :
    Calls Tryd.prog 102 #[.slice (some ⟨g, 0, none⟩) N cap, .int .i64 a, .int .i64 b, .int .i64 n, fv] w fun e w' => e = .returned (.tuple #[]) ∧ LS B bp s F w w' := by
  have HR0 := Lib.hid (LS.start h)
  clear h
  go_enter Tryd.func102, Tryd.ntmps102
  go_wp2
  go_loopw [10] (fun kv wx => ∃ k : Nat, kv = .int .i64 k ∧ k ≤ n ∧ LS B bp s F w wx) (fun kv _ => n - (intOf kv).toNat)
  case atStart => exact ⟨0, rfl, Nat.zero_le _, HR0.out⟩
  case round =>
    obtain ⟨k, rfl, hk, hL⟩ := hrel
    clear HR0
    by_cases hlt : k < n
    · obtain ⟨⟨x, hx, hxn, c1, _⟩, z1⟩ := hL.at hl hv hN (show a + k < N by omega)
      obtain ⟨⟨y, hy, hyn, c2, _⟩, z2⟩ := hL.at hl hv hN (show b + k < N by omega)
      have HA : Hid (LS B bp s F w ((wr.setCell ⟨g, a + k, none⟩ (.pointer (some ⟨s.rp y, 0, none⟩))).setCell ⟨g, b + k, none⟩ (.pointer (some ⟨s.rp x, 0, none⟩))).drew) := Lib.hid ((hL.put hv hN (by omega) hy).put hv hN (by omega) hx).drew
      have HB : Hid (LS B bp s F w ((wr.setCell ⟨g, b + k, none⟩ (.pointer (some ⟨s.rp x, 0, none⟩))).setCell ⟨g, a + k, none⟩ (.pointer (some ⟨s.rp y, 0, none⟩))).drew) := Lib.hid ((hL.put hv hN (by omega) hx).put hv hN (by omega) hy).drew
      have n1 : a + k ≠ b + k := by omega
      have n2 : b + k ≠ a + k := by omega
      have w1 : IntKind.i64.wrap ((a : Int) + (k : Int)) = (a : Int) + (k : Int) := IntWalk.i64_in _ (by omega)
      have w2 : IntKind.i64.wrap ((b : Int) + (k : Int)) = (b : Int) + (k : Int) := IntWalk.i64_in _ (by omega)
      generalize s.rp x = rx at *
      generalize s.rp y = ry at *
      have i1 : a + k < N := by omega
      have i2 : b + k < N := by omega
      clear hL hl hv hab
      go_wp2
      go_region
      go_wp2
      go_roundw
      case rel => exact ⟨k + 1, by go_num, by omega, HA.out⟩
      case measure => simp [intOf]; omega
    · obtain rfl : k = n := by omega
      have HL := Lib.hid hL
      clear hL hl hv
      go_wp2
      go_end0
      exact ⟨rfl, HL.out⟩
set_option maxRecDepth 100000 in
set_option maxHeartbeats 1000000 in
theorem rotate_any (h : Mem w B bp s F) (hl : ∀ i, i ∈ s.learned → i < s.n) (hv : (F .learned).v = .slice (some ⟨g, 0, none⟩) N cap) (hN : s.learned.length = N) (hN2 : N ≤ 1000000000) (fv : Value) (a m b : Nat) (h1 : a < m) (h2 : m < b) (h3 : b ≤ N) :
    Calls Tryd.prog 101 #[.slice (some ⟨g, 0, none⟩) N cap, .int .i64 a, .int .i64 m, .int .i64 b, fv] w fun e w' => e = .returned (.tuple #[]) ∧ LS B bp s F w w' := by
  have HR0 := Lib.hid (LS.start h)
  have HSW : Hid (∀ w1, LS B bp s F w w1 → ∀ x y n : Nat, x + n ≤ N → y + n ≤ N → (x < y ∨ n = 0) → Calls Tryd.prog 102 #[.slice (some ⟨g, 0, none⟩) N cap, .int .i64 x, .int .i64 y, .int .i64 n, fv] w1 fun e w' => e = .returned (.tuple #[]) ∧ LS B bp s F w w') := Lib.hid fun w1 hL x y n k1 k2 k3 => by
    obtain ⟨l, F', M, q1, q2, q3, q4⟩ := hL
    refine (swap_any M (fun i hi => hl i (q3 i hi)) ((congrFun q1 .learned).trans hv) (q2.trans hN) hN2 fv x y n k1 k2 k3).mono ?_
    rintro e w2 ⟨he, hL2⟩
    exact ⟨he, LS.on q1 q2 q3 q4 hL2⟩
  clear h hl hv hN
  go_enter Tryd.func101, Tryd.ntmps101
  go_wp2
  go_loopw [10, 11] (fun iv jv wx => ∃ i j : Nat, iv = .int .i64 i ∧ jv = .int .i64 j ∧ 0 < i ∧ 0 < j ∧ a + i ≤ m ∧ m + j ≤ b ∧ LS B bp s F w wx) (fun iv jv _ => (intOf iv).toNat + (intOf jv).toNat)
  case atStart => exact ⟨m - a, b - m, by congr 1; omega, by congr 1; omega, by omega, by omega, by omega, by omega, HR0.out⟩
  case round =>
    obtain ⟨i, j, rfl, rfl, hi, hj, hi2, hj2, hL⟩ := hrel
    clear HR0
    have HL := Lib.hid hL
    have him : i ≤ m := by omega
    obtain ⟨q, hq⟩ : ∃ q : Nat, m = q + i := ⟨m - i, by omega⟩
    have e3 : (m : Int) - (i : Int) = (q : Int) := by omega
    have hqN : q ≤ N := by omega
    have hjN : j ≤ N := by omega
    have HQ := Lib.hid hq
    clear hL hq
    by_cases hij : i = j
    · subst hij
      have HC := Lib.hid (HSW.out _ HL.out q m i (by have := HQ.out; omega) (by omega) (by have := HQ.out; omega))
      go_wp2_with fail
      refine HC.out.mono ?_
      rintro e w2 ⟨rfl, hL2⟩
      have HL2 := Lib.hid hL2
      clear hL2 HC HL
      go_wp2
      go_end0
      exact ⟨rfl, HL2.out⟩
    · have hne : ((i : Int) != (j : Int)) = true := by
        have : (i : Int) ≠ (j : Int) := by omega
        simp [this]
      by_cases hgt : j < i
      · have HC := Lib.hid (HSW.out _ HL.out q m j (by have := HQ.out; omega) (by omega) (by have := HQ.out; omega))
        have hgt2 : (j : Int) < (i : Int) := by omega
        obtain ⟨t, ht⟩ : ∃ t : Nat, i = t + j := ⟨i - j, by omega⟩
        have e5 : (i : Int) - (j : Int) = (t : Int) := by omega
        have htN : t ≤ N := by omega
        have HT := Lib.hid ht
        clear ht
        go_wp2_with fail
        refine HC.out.mono ?_
        rintro e w2 ⟨rfl, hL2⟩
        have HL2 := Lib.hid hL2
        clear hL2 HC HL
        go_wp2
        go_roundw
        case rel => exact ⟨t, j, rfl, rfl, by have := HT.out; omega, by omega, by have := HT.out; omega, by omega, HL2.out⟩
        case measure => have := HT.out; simp [intOf]; omega
      · obtain ⟨r, hr⟩ : ∃ r : Nat, m + j = r + i := ⟨m + j - i, by omega⟩
        have e4 : (m : Int) + (j : Int) - (i : Int) = (r : Int) := by omega
        have hrN : r ≤ N := by omega
        have HR := Lib.hid hr
        clear hr
        have HC := Lib.hid (HSW.out _ HL.out q r i (by have := HQ.out; omega) (by have := HQ.out; have := HR.out; omega) (by have := HQ.out; have := HR.out; omega))
        have hgt2 : ¬ (j : Int) < (i : Int) := by omega
        obtain ⟨t, ht⟩ : ∃ t : Nat, j = t + i := ⟨j - i, by omega⟩
        have e5 : (j : Int) - (i : Int) = (t : Int) := by omega
        have htN : t ≤ N := by omega
        have HT := Lib.hid ht
        clear ht
        go_wp2_with fail
        refine HC.out.mono ?_
        rintro e w2 ⟨rfl, hL2⟩
        have HL2 := Lib.hid hL2
        clear hL2 HC HL
        go_wp2
        go_roundw
        case rel => exact ⟨i, t, rfl, rfl, by omega, by have := HT.out; omega, by omega, by have := HT.out; omega, HL2.out⟩
        case measure => have := HT.out; simp [intOf]; omega
/-- the comparison, as a value -/
def cmpV : Value := .func (.func 81) #[] #[]
theorem LS.cmp (hl : ∀ i, i ∈ s.learned → i < s.n) {x y : Nat} (h1 : ∀ n, (wr.drewN n).cell? ⟨s.rp x, 1, none⟩ = some (.int .i64 (s.spread x))) (h2 : ∀ n, (wr.drewN n).cell? ⟨s.rp y, 1, none⟩ = some (.int .i64 (s.spread y))) :
    ∀ n, Calls Tryd.prog 81 #[.pointer (some ⟨s.rp x, 0, none⟩), .pointer (some ⟨s.rp y, 0, none⟩)] (wr.drewN n) fun e w' => e = .returned (.int .i64 (Lib.compareInt (s.spread x) (s.spread y))) ∧ ∃ m, w' = (wr.drewN n).drewN m :=
  fun n => cmp_any (wr.drewN n) _ _ _ _ (fun m => by rw [World.drewN_drewN]; exact h1 _) (fun m => by rw [World.drewN_drewN]; exact h2 _)
set_option maxRecDepth 100000 in
set_option maxHeartbeats 1000000 in
theorem insert_any (h : Mem w B bp s F) (hl : ∀ i, i ∈ s.learned → i < s.n) (hv : (F .learned).v = .slice (some ⟨g, 0, none⟩) N cap) (hN : s.learned.length = N) (hN2 : N ≤ 1000000000) (a b : Nat) (h1 : a ≤ b) (h3 : b ≤ N) :
    Calls Tryd.prog 99 #[.slice (some ⟨g, 0, none⟩) N cap, .int .i64 a, .int .i64 b, .func (.func 81) #[] #[]] w fun e w' => e = .returned (.tuple #[]) ∧ LS B bp s F w w' := by
  have HR0 := Lib.hid (LS.start h)
  clear h
  have HLN := Lib.hid hl
  have HV := Lib.hid hv
  have HNN := Lib.hid hN
  clear hl hv hN
  go_enter Tryd.func99, Tryd.ntmps99
  go_wp2
  go_loopw [8] (fun iv wx => ∃ i : Nat, iv = .int .i64 i ∧ a < i ∧ LS B bp s F w wx) (fun iv _ => b - (intOf iv).toNat)
  case atStart => exact ⟨a + 1, by go_num, by omega, HR0.out⟩
  case round =>
    obtain ⟨i, rfl, hai, hL⟩ := hrel
    clear HR0
    have HL := Lib.hid hL
    clear hL
    by_cases hlt : i < b
    · go_wp2
      go_loopw [9] (fun jv wx => ∃ j : Nat, jv = .int .i64 j ∧ a ≤ j ∧ j ≤ i ∧ LS B bp s F w wx) (fun jv _ => (intOf jv).toNat)
      case atStart => exact ⟨i, rfl, by omega, Nat.le_refl _, HL.out⟩
      case round =>
        obtain ⟨j, rfl, haj, hji, hL⟩ := hrel
        clear HL
        have HL := Lib.hid hL
        clear hL
        by_cases hja : a < j
        · obtain ⟨t, ht⟩ : ∃ t : Nat, j = t + 1 := ⟨j - 1, by omega⟩
          have e1 : (j : Int) - 1 = (t : Int) := by omega
          have htN : t < N := by omega
          have hjN : j < N := by omega
          have hn1 : j ≠ t := by omega
          have hn2 : t ≠ j := by omega
          have HT := Lib.hid ht
          clear ht
          obtain ⟨⟨x, hx, hxn, c1, k1⟩, z1⟩ := HL.out.at HLN.out HV.out HNN.out hjN
          obtain ⟨⟨y, hy, hyn, c2, k2⟩, z2⟩ := HL.out.at HLN.out HV.out HNN.out htN
          have HC := Lib.hid (LS.cmp HLN.out k1 k2)
          have HA : Hid (∀ m, LS B bp s F w (((wr.drewN m).setCell ⟨g, j, none⟩ (.pointer (some ⟨s.rp y, 0, none⟩))).setCell ⟨g, t, none⟩ (.pointer (some ⟨s.rp x, 0, none⟩))).drew) := Lib.hid fun m => (((HL.out.draws m).put HV.out HNN.out hjN hy).put HV.out HNN.out htN hx).drew
          have c1' : ∀ m, (wr.drewN m).cell? ⟨g, j, none⟩ = some (.pointer (some ⟨s.rp x, 0, none⟩)) := fun m => by simp [c1]
          clear k1 k2
          generalize Lib.compareInt (s.spread x) (s.spread y) = z at *
          generalize s.rp x = rx at *
          generalize s.rp y = ry at *
          by_cases hz : z < 0
          · go_wp2_with fail
            go_quiet (first | (go_at_call 81; exact Calls.quiet_of (HC.out _)))
            have HX := Lib.hid (HA.out nq)
            have d1 : (wr.drewN nq).cell? ⟨g, j, none⟩ = some (.pointer (some ⟨rx, 0, none⟩)) := by simp [c1]
            have d2 : (wr.drewN nq).cell? ⟨g, t, none⟩ = some (.pointer (some ⟨ry, 0, none⟩)) := by simp [c2]
            have d3 : (wr.drewN nq).frozen? ⟨g, j, none⟩ = false := by simp [z1]
            have d4 : (wr.drewN nq).frozen? ⟨g, t, none⟩ = false := by simp [z2]
            generalize wr.drewN nq = w2 at *
            clear c1' c1 c2 z1 z2 HA HC HL
            go_wp2
            go_region
            go_wp2
            go_roundw
            case rel => exact ⟨t, rfl, by have := HT.out; omega, by have := HT.out; omega, HX.out⟩
            case measure => have := HT.out; simp [intOf]; omega
          · have HX := Lib.hid (fun m => HL.out.draws m)
            go_wp2_with fail
            go_quiet (first | (go_at_call 81; exact Calls.quiet_of (HC.out _)))
            have HX := Lib.hid (HX.out nq)
            generalize wr.drewN nq = w2 at *
            clear c1' c1 c2 z1 z2 HA HC HL
            go_wp2
            go_roundw
            case rel => exact ⟨i + 1, by go_num, by omega, HX.out⟩
            case measure => simp [intOf]; omega
        · have HX := Lib.hid (fun m => HL.out.draws m)
          have hja2 : ¬ (a : Int) < (j : Int) := by omega
          go_wp2_with fail
          go_quiet (fail)
          have HX := Lib.hid (HX.out nq)
          generalize wr.drewN nq = w2 at *
          go_wp2
          go_roundw
          case rel => exact ⟨i + 1, by go_num, by omega, HX.out⟩
          case measure => simp [intOf]; omega
    · go_wp2
      go_end0
      exact ⟨rfl, HL.out⟩
end
end Go.Proofs.YtojjjndhabjhdaaDoor.satSa
