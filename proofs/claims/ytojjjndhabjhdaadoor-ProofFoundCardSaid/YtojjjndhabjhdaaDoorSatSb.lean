/-
  Sorting the learned rows: symMerge, stable.
-/
import Derived.Test.YtojjjndhabjhdaaDoorSatSa
namespace Go.Proofs.YtojjjndhabjhdaaDoor.satSb
set_option linter.unusedSimpArgs false
set_option linter.unusedVariables false
open Go.ChangeShapes Go.WideShapes Go.ChangeAt Go.RowKit proofP proofQ owns cls satP satQ satR satS satA satF satB satC satD satE satG satH satI satJ satK satM satN satU satV satO satSa
attribute [local go_sem ↓] Go.wp_at_zero Go.wp_at_succ

section
variable {w w' wr : World} {B bp : Nat} {s : SS} {F : Ix → Ent} {g cap N : Nat}
/-- what merging is to do, over so many places at most -/
def SM (B bp : Nat) (s : SS) (F : Ix → Ent) (w : World) (g N cap d : Nat) : Prop :=
  ∀ w1, LS B bp s F w w1 → ∀ a m b : Nat, a < m → m < b → b ≤ N → b ≤ a + d → Calls Tryd.prog 100 #[.slice (some ⟨g, 0, none⟩) N cap, .int .i64 a, .int .i64 m, .int .i64 b, .func (.func 81) #[] #[]] w1 fun e w' => e = .returned (.tuple #[]) ∧ LS B bp s F w w'
set_option maxRecDepth 100000 in
set_option maxHeartbeats 4000000 in
theorem sym_step (hl : ∀ i, i ∈ s.learned → i < s.n) (hv : (F .learned).v = .slice (some ⟨g, 0, none⟩) N cap) (hN : s.learned.length = N) (hN2 : N ≤ 1000000000) (d : Nat) (hd : SM B bp s F w g N cap d) : SM B bp s F w g N cap (d + 1) := by
  intro w1 hL a m b h1 h2 h3 hdd
  have HL := Lib.hid hL
  have HLN := Lib.hid hl
  have HV := Lib.hid hv
  have HNN := Lib.hid hN
  have HSM := Lib.hid hd
  clear hl hv hN hL hd
  go_enter Tryd.func100, Tryd.ntmps100
  by_cases hm1 : m = a + 1
  · have e1 : ((m : Int) - (a : Int) == 1) = true := beq_iff_eq.2 (by omega)
    have hbN : b ≤ N := h3
    have HM1 := Lib.hid hm1
    clear hm1
    go_wp2
    go_loopw [10, 11] (fun iv jv wx => ∃ i j : Nat, iv = .int .i64 i ∧ jv = .int .i64 j ∧ m ≤ i ∧ i ≤ j ∧ j ≤ b ∧ LS B bp s F w wx) (fun iv jv _ => (intOf jv).toNat - (intOf iv).toNat)
    case atStart => exact ⟨m, b, rfl, rfl, by omega, by omega, by omega, HL.out⟩
    case round =>
      obtain ⟨i, j, rfl, rfl, hmi, hij, hjb, hL⟩ := hrel
      clear HL
      have HL := Lib.hid hL
      clear hL
      by_cases hlt : i < j
      · obtain ⟨q, hq⟩ : ∃ q : Nat, ((i : Int) + (j : Int)) / 2 = (q : Int) := ⟨(i + j) / 2, by omega⟩
        have hiq : i ≤ q := by omega
        have hqj : q < j := by omega
        have hqN : q < N := by omega
        have haN : a < N := by omega
        obtain ⟨⟨x, hx, hxn, c1, k1⟩, z1⟩ := HL.out.at HLN.out HV.out HNN.out (show q < N by omega)
        obtain ⟨⟨y, hy, hyn, c2, k2⟩, z2⟩ := HL.out.at HLN.out HV.out HNN.out (show a < N by omega)
        have HC := Lib.hid (LS.cmp HLN.out k1 k2)
        have HX := Lib.hid (fun n => HL.out.draws n)
        clear k1 k2
        generalize Lib.compareInt (s.spread x) (s.spread y) = z at *
        generalize s.rp x = rx at *
        generalize s.rp y = ry at *
        by_cases hz : z < 0
        · go_wp2_with fail
          go_quiet (first | (go_at_call 81; exact Calls.quiet_of (HC.out _)))
          have HX := Lib.hid (HX.out nq)
          generalize wr.drewN nq = w2 at *
          clear c1 c2 z1 z2 HC HL
          go_wp2
          go_roundw
          case rel => exact ⟨q + 1, j, by go_num, rfl, by omega, by omega, by omega, HX.out⟩
          case measure => simp [intOf]; omega
        · have HZ := Lib.hid hz
          go_wp2_with fail
          have hzd : decide (z < 0) = false := decide_eq_false (by have := HZ.out; omega)
          go_quiet (first | (go_at_call 81; exact Calls.quiet_of (HC.out _)))
          have HX := Lib.hid (HX.out nq)
          generalize wr.drewN nq = w2 at *
          clear c1 c2 z1 z2 HC HL
          go_wp2
          go_roundw
          case rel => exact ⟨i, q, rfl, rfl, by omega, by omega, by omega, HX.out⟩
          case measure => simp [intOf]; omega
      · obtain ⟨t, ht⟩ : ∃ t : Nat, i = t + 1 := ⟨i - 1, by omega⟩
        have e3 : (i : Int) - 1 = (t : Int) := by omega
        have htN : t < N := by omega
        have HT := Lib.hid ht
        clear ht
        go_wp2
        go_loopw [13] (fun kv wx => ∃ k : Nat, kv = .int .i64 k ∧ a ≤ k ∧ LS B bp s F w wx) (fun kv _ => t - (intOf kv).toNat)
        case atStart => exact ⟨a, rfl, Nat.le_refl _, HL.out⟩
        case round =>
          obtain ⟨k, rfl, hak, hL⟩ := hrel
          clear HL
          have HL := Lib.hid hL
          clear hL
          by_cases hkt : k < t
          · have hk1 : k + 1 < N := by omega
            obtain ⟨⟨x, hx, hxn, c1, k1⟩, z1⟩ := HL.out.at HLN.out HV.out HNN.out (show k < N by omega)
            obtain ⟨⟨y, hy, hyn, c2, k2⟩, z2⟩ := HL.out.at HLN.out HV.out HNN.out (show k + 1 < N by omega)
            have HA : Hid (LS B bp s F w ((wr.setCell ⟨g, k, none⟩ (.pointer (some ⟨s.rp y, 0, none⟩))).setCell ⟨g, k + 1, none⟩ (.pointer (some ⟨s.rp x, 0, none⟩))).drew) := Lib.hid ((HL.out.put HV.out HNN.out (by omega) hy).put HV.out HNN.out (by omega) hx).drew
            have n1 : k ≠ k + 1 := by omega
            have n2 : k + 1 ≠ k := by omega
            clear k1 k2
            generalize s.rp x = rx at *
            generalize s.rp y = ry at *
            clear HL
            go_wp2
            go_region
            go_wp2
            go_roundw
            case rel => exact ⟨k + 1, by go_num, by omega, HA.out⟩
            case measure => simp [intOf]; omega
          · go_wp2
            refine bodyPost_ret (results_none rfl _ _ _) rfl ?_
            exact ⟨rfl, HL.out⟩
  · have e1 : ((m : Int) - (a : Int) == 1) = false := beq_eq_false_iff_ne.2 (by omega)
    clear hm1
    by_cases hm2 : b = m + 1
    · have e2 : ((b : Int) - (m : Int) == 1) = true := beq_iff_eq.2 (by omega)
      have hbN : b ≤ N := h3
      have hmN : m < N := by omega
      have HM2 := Lib.hid hm2
      clear hm2
      go_wp2
      go_loopw [14, 15] (fun iv jv wx => ∃ i j : Nat, iv = .int .i64 i ∧ jv = .int .i64 j ∧ a ≤ i ∧ i ≤ j ∧ j ≤ m ∧ LS B bp s F w wx) (fun iv jv _ => (intOf jv).toNat - (intOf iv).toNat)
      case atStart => exact ⟨a, m, rfl, rfl, by omega, by omega, by omega, HL.out⟩
      case round =>
        obtain ⟨i, j, rfl, rfl, hmi, hij, hjb, hL⟩ := hrel
        clear HL
        have HL := Lib.hid hL
        clear hL
        by_cases hlt : i < j
        · obtain ⟨q, hq⟩ : ∃ q : Nat, ((i : Int) + (j : Int)) / 2 = (q : Int) := ⟨(i + j) / 2, by omega⟩
          have hiq : i ≤ q := by omega
          have hqj : q < j := by omega
          have hqN : q < N := by omega
          obtain ⟨⟨x, hx, hxn, c1, k1⟩, z1⟩ := HL.out.at HLN.out HV.out HNN.out (show m < N by omega)
          obtain ⟨⟨y, hy, hyn, c2, k2⟩, z2⟩ := HL.out.at HLN.out HV.out HNN.out (show q < N by omega)
          have HC := Lib.hid (LS.cmp HLN.out k1 k2)
          have HX := Lib.hid (fun n => HL.out.draws n)
          clear k1 k2
          generalize Lib.compareInt (s.spread x) (s.spread y) = z at *
          generalize s.rp x = rx at *
          generalize s.rp y = ry at *
          by_cases hz : z < 0
          · go_wp2_with fail
            go_quiet (first | (go_at_call 81; exact Calls.quiet_of (HC.out _)))
            have HX := Lib.hid (HX.out nq)
            generalize wr.drewN nq = w2 at *
            clear c1 c2 z1 z2 HC HL
            go_wp2
            go_roundw
            case rel => exact ⟨i, q, rfl, rfl, by omega, by omega, by omega, HX.out⟩
            case measure => simp [intOf]; omega
          · have HZ := Lib.hid hz
            go_wp2_with fail
            have hzd : decide (z < 0) = false := decide_eq_false (by have := HZ.out; omega)
            go_quiet (first | (go_at_call 81; exact Calls.quiet_of (HC.out _)))
            have HX := Lib.hid (HX.out nq)
            generalize wr.drewN nq = w2 at *
            clear c1 c2 z1 z2 HC HL
            go_wp2
            go_roundw
            case rel => exact ⟨q + 1, j, by go_num, rfl, by omega, by omega, by omega, HX.out⟩
            case measure => simp [intOf]; omega
        · go_wp2
          go_loopw [17] (fun kv wx => ∃ k : Nat, kv = .int .i64 k ∧ i ≤ k ∧ k ≤ m ∧ LS B bp s F w wx) (fun kv _ => (intOf kv).toNat)
          case atStart => exact ⟨m, rfl, by omega, Nat.le_refl _, HL.out⟩
          case round =>
            obtain ⟨k, rfl, hik, hkm, hL⟩ := hrel
            clear HL
            have HL := Lib.hid hL
            clear hL
            by_cases hki : i < k
            · obtain ⟨t, ht⟩ : ∃ t : Nat, k = t + 1 := ⟨k - 1, by omega⟩
              have e3 : (k : Int) - 1 = (t : Int) := by omega
              have htN : t < N := by omega
              have hkN : k < N := by omega
              have HT := Lib.hid ht
              obtain ⟨⟨x, hx, hxn, c1, k1⟩, z1⟩ := HL.out.at HLN.out HV.out HNN.out (show k < N by omega)
              obtain ⟨⟨y, hy, hyn, c2, k2⟩, z2⟩ := HL.out.at HLN.out HV.out HNN.out (show t < N by omega)
              have HA : Hid (LS B bp s F w ((wr.setCell ⟨g, k, none⟩ (.pointer (some ⟨s.rp y, 0, none⟩))).setCell ⟨g, t, none⟩ (.pointer (some ⟨s.rp x, 0, none⟩))).drew) := Lib.hid ((HL.out.put HV.out HNN.out (by omega) hy).put HV.out HNN.out (by omega) hx).drew
              have n1 : k ≠ t := by omega
              have n2 : t ≠ k := by omega
              clear k1 k2
              generalize s.rp x = rx at *
              generalize s.rp y = ry at *
              clear HL ht
              go_wp2
              go_region
              go_wp2
              go_roundw
              case rel => exact ⟨t, rfl, by have := HT.out; omega, by have := HT.out; omega, HA.out⟩
              case measure => have := HT.out; simp [intOf]; omega
            · go_wp2
              refine bodyPost_ret (results_none rfl _ _ _) rfl ?_
              exact ⟨rfl, HL.out⟩
    · have e2 : ((b : Int) - (m : Int) == 1) = false := beq_eq_false_iff_ne.2 (by omega)
      clear hm2
      obtain ⟨mid, hmid⟩ : ∃ q : Nat, ((a : Int) + (b : Int)) / 2 = (q : Int) := ⟨(a + b) / 2, by omega⟩
      have hm3 : a ≤ mid := by omega
      have hm4 : mid < b := by omega
      have hm5 : a + b ≤ 2 * mid + 1 := by omega
      have hm6 : 2 * mid ≤ a + b := by omega
      have hm7 : a < mid := by omega
      have HROT : Hid (∀ w1, LS B bp s F w w1 → ∀ a m b : Nat, a < m → m < b → b ≤ N → Calls Tryd.prog 101 #[.slice (some ⟨g, 0, none⟩) N cap, .int .i64 a, .int .i64 m, .int .i64 b, .func (.func 81) #[] #[]] w1 fun e w' => e = .returned (.tuple #[]) ∧ LS B bp s F w w') := Lib.hid fun w1 hL a m b k1 k2 k3 => by
        obtain ⟨l, F', M, q1, q2, q3, q4⟩ := hL
        refine (rotate_any M (fun i hi => HLN.out i (q3 i hi)) ((congrFun q1 .learned).trans HV.out) (q2.trans HNN.out) hN2 _ a m b k1 k2 k3).mono ?_
        rintro e w2 ⟨he, hL2⟩
        exact ⟨he, LS.on q1 q2 q3 q4 hL2⟩
      go_upto_if 140 with (fail)
      go_cut [20, 21] (fun x r wx => ∃ lo hi : Nat, x = .int .i64 lo ∧ r = .int .i64 hi ∧ a ≤ lo ∧ lo ≤ hi ∧ hi ≤ m ∧ hi ≤ mid ∧ mid + m ≤ lo + b ∧ LS B bp s F w wx)
      case first =>
        by_cases hmm : mid < m
        · obtain ⟨lo, hlo⟩ : ∃ lo : Nat, mid + m = lo + b := ⟨mid + m - b, by omega⟩
          have elo : (mid : Int) + (m : Int) - (b : Int) = (lo : Int) := by omega
          have hloN : lo ≤ N := by omega
          have HLO := Lib.hid hlo
          clear hlo
          go_wp2_with fail
          go_meet
          case rel => exact ⟨lo, mid, rfl, rfl, by have := HLO.out; omega, by have := HLO.out; omega, by omega, by omega, by have := HLO.out; omega, HL.out⟩
        · go_wp2_with fail
          go_meet
          case rel => exact ⟨a, m, rfl, rfl, by omega, by omega, by omega, by omega, by omega, HL.out⟩
      case rest =>
        obtain ⟨lo, hi, rfl, rfl, hlo1, hlo2, hhi1, hhi2, hnb, hL⟩ := hcut
        clear HL
        have HL := Lib.hid hL
        clear hL
        obtain ⟨p, hp⟩ : ∃ p : Nat, mid + m = p + 1 := ⟨mid + m - 1, by omega⟩
        have ep : (mid : Int) + (m : Int) - 1 = (p : Int) := by omega
        have hpN : p ≤ 2 * N := by omega
        have HP := Lib.hid hp
        clear hp
        go_wp2
        go_loopw [20, 21] (fun x r wx => ∃ st re : Nat, x = .int .i64 st ∧ r = .int .i64 re ∧ lo ≤ st ∧ st ≤ re ∧ re ≤ hi ∧ LS B bp s F w wx) (fun x r _ => (intOf r).toNat - (intOf x).toNat)
        case atStart => exact ⟨lo, hi, rfl, rfl, by omega, by omega, by omega, HL.out⟩
        case round =>
          obtain ⟨st, re, rfl, rfl, hst1, hst2, hre, hL⟩ := hrel
          clear HL
          have HL := Lib.hid hL
          clear hL
          by_cases hlt : st < re
          · obtain ⟨q, hq⟩ : ∃ q : Nat, ((st : Int) + (re : Int)) / 2 = (q : Int) := ⟨(st + re) / 2, by omega⟩
            have hiq : st ≤ q := by omega
            have hqj : q < re := by omega
            have hqN : q < N := by omega
            obtain ⟨t, ht⟩ : ∃ t : Nat, p = t + q := ⟨p - q, by have := HP.out; omega⟩
            have et : (p : Int) - (q : Int) = (t : Int) := by omega
            have htN : t < N := by have := HP.out; omega
            clear ht
            obtain ⟨⟨x, hx, hxn, c1, k1⟩, z1⟩ := HL.out.at HLN.out HV.out HNN.out (show t < N by omega)
            obtain ⟨⟨y, hy, hyn, c2, k2⟩, z2⟩ := HL.out.at HLN.out HV.out HNN.out (show q < N by omega)
            have HC := Lib.hid (LS.cmp HLN.out k1 k2)
            have HX := Lib.hid (fun n => HL.out.draws n)
            clear k1 k2
            generalize Lib.compareInt (s.spread x) (s.spread y) = z at *
            generalize s.rp x = rx at *
            generalize s.rp y = ry at *
            by_cases hz : z < 0
            · go_wp2_with fail
              go_quiet (first | (go_at_call 81; exact Calls.quiet_of (HC.out _)))
              have HX := Lib.hid (HX.out nq)
              generalize wr.drewN nq = w2 at *
              clear c1 c2 z1 z2 HC HL
              go_wp2
              go_roundw
              case rel => exact ⟨st, q, rfl, rfl, by omega, by omega, by omega, HX.out⟩
              case measure => simp [intOf]; omega
            · have HZ := Lib.hid hz
              go_wp2_with fail
              have hzd : decide (z < 0) = false := decide_eq_false (by have := HZ.out; omega)
              go_quiet (first | (go_at_call 81; exact Calls.quiet_of (HC.out _)))
              have HX := Lib.hid (HX.out nq)
              generalize wr.drewN nq = w2 at *
              clear c1 c2 z1 z2 HC HL
              go_wp2
              go_roundw
              case rel => exact ⟨q + 1, re, by go_num, rfl, by omega, by omega, by omega, HX.out⟩
              case measure => simp [intOf]; omega
          · obtain ⟨en, hen⟩ : ∃ en : Nat, mid + m = en + st := ⟨mid + m - st, by omega⟩
            have een : (mid : Int) + (m : Int) - (st : Int) = (en : Int) := by omega
            have hen1 : en ≤ b := by omega
            have hen2 : m ≤ en := by omega
            have hen3 : mid ≤ en := by omega
            have hst3 : st ≤ mid := by omega
            have hst4 : st ≤ m := by omega
            have hst5 : a ≤ st := by omega
            clear hen ep hpN
            by_cases hc0a : st < m
            · by_cases hc0b : m < en
              · have HC0 := Lib.hid (HROT.out _ HL.out st m en (by omega) (by omega) (by omega))
                go_wp2_with fail
                refine HC0.out.mono ?_
                rintro e w3 ⟨rfl, hL⟩
                clear HL HC0
                have HL := Lib.hid hL
                clear hL
                by_cases hc1a : a < st
                · by_cases hc1b : st < mid
                  · have HC1 := Lib.hid (HSM.out _ HL.out a st mid (by omega) (by omega) (by omega) (by omega))
                    go_wp2_with fail
                    refine HC1.out.mono ?_
                    rintro e w4 ⟨rfl, hL⟩
                    clear HL HC1
                    have HL := Lib.hid hL
                    clear hL
                    by_cases hc2a : mid < en
                    · by_cases hc2b : en < b
                      · have HC2 := Lib.hid (HSM.out _ HL.out mid en b (by omega) (by omega) (by omega) (by omega))
                        go_wp2_with fail
                        refine HC2.out.mono ?_
                        rintro e w5 ⟨rfl, hL⟩
                        clear HL HC2
                        have HL := Lib.hid hL
                        clear hL
                        go_wp2
                        go_end0
                        exact ⟨rfl, HL.out⟩
                      · go_wp2
                        go_end0
                        exact ⟨rfl, HL.out⟩
                    · go_wp2
                      go_end0
                      exact ⟨rfl, HL.out⟩
                  · by_cases hc2a : mid < en
                    · by_cases hc2b : en < b
                      · have HC2 := Lib.hid (HSM.out _ HL.out mid en b (by omega) (by omega) (by omega) (by omega))
                        go_wp2_with fail
                        refine HC2.out.mono ?_
                        rintro e w5 ⟨rfl, hL⟩
                        clear HL HC2
                        have HL := Lib.hid hL
                        clear hL
                        go_wp2
                        go_end0
                        exact ⟨rfl, HL.out⟩
                      · go_wp2
                        go_end0
                        exact ⟨rfl, HL.out⟩
                    · go_wp2
                      go_end0
                      exact ⟨rfl, HL.out⟩
                · by_cases hc2a : mid < en
                  · by_cases hc2b : en < b
                    · have HC2 := Lib.hid (HSM.out _ HL.out mid en b (by omega) (by omega) (by omega) (by omega))
                      go_wp2_with fail
                      refine HC2.out.mono ?_
                      rintro e w5 ⟨rfl, hL⟩
                      clear HL HC2
                      have HL := Lib.hid hL
                      clear hL
                      go_wp2
                      go_end0
                      exact ⟨rfl, HL.out⟩
                    · go_wp2
                      go_end0
                      exact ⟨rfl, HL.out⟩
                  · go_wp2
                    go_end0
                    exact ⟨rfl, HL.out⟩
              · by_cases hc1a : a < st
                · by_cases hc1b : st < mid
                  · have HC1 := Lib.hid (HSM.out _ HL.out a st mid (by omega) (by omega) (by omega) (by omega))
                    go_wp2_with fail
                    refine HC1.out.mono ?_
                    rintro e w4 ⟨rfl, hL⟩
                    clear HL HC1
                    have HL := Lib.hid hL
                    clear hL
                    by_cases hc2a : mid < en
                    · by_cases hc2b : en < b
                      · have HC2 := Lib.hid (HSM.out _ HL.out mid en b (by omega) (by omega) (by omega) (by omega))
                        go_wp2_with fail
                        refine HC2.out.mono ?_
                        rintro e w5 ⟨rfl, hL⟩
                        clear HL HC2
                        have HL := Lib.hid hL
                        clear hL
                        go_wp2
                        go_end0
                        exact ⟨rfl, HL.out⟩
                      · go_wp2
                        go_end0
                        exact ⟨rfl, HL.out⟩
                    · go_wp2
                      go_end0
                      exact ⟨rfl, HL.out⟩
                  · by_cases hc2a : mid < en
                    · by_cases hc2b : en < b
                      · have HC2 := Lib.hid (HSM.out _ HL.out mid en b (by omega) (by omega) (by omega) (by omega))
                        go_wp2_with fail
                        refine HC2.out.mono ?_
                        rintro e w5 ⟨rfl, hL⟩
                        clear HL HC2
                        have HL := Lib.hid hL
                        clear hL
                        go_wp2
                        go_end0
                        exact ⟨rfl, HL.out⟩
                      · go_wp2
                        go_end0
                        exact ⟨rfl, HL.out⟩
                    · go_wp2
                      go_end0
                      exact ⟨rfl, HL.out⟩
                · by_cases hc2a : mid < en
                  · by_cases hc2b : en < b
                    · have HC2 := Lib.hid (HSM.out _ HL.out mid en b (by omega) (by omega) (by omega) (by omega))
                      go_wp2_with fail
                      refine HC2.out.mono ?_
                      rintro e w5 ⟨rfl, hL⟩
                      clear HL HC2
                      have HL := Lib.hid hL
                      clear hL
                      go_wp2
                      go_end0
                      exact ⟨rfl, HL.out⟩
                    · go_wp2
                      go_end0
                      exact ⟨rfl, HL.out⟩
                  · go_wp2
                    go_end0
                    exact ⟨rfl, HL.out⟩
            · by_cases hc1a : a < st
              · by_cases hc1b : st < mid
                · have HC1 := Lib.hid (HSM.out _ HL.out a st mid (by omega) (by omega) (by omega) (by omega))
                  go_wp2_with fail
                  refine HC1.out.mono ?_
                  rintro e w4 ⟨rfl, hL⟩
                  clear HL HC1
                  have HL := Lib.hid hL
                  clear hL
                  by_cases hc2a : mid < en
                  · by_cases hc2b : en < b
                    · have HC2 := Lib.hid (HSM.out _ HL.out mid en b (by omega) (by omega) (by omega) (by omega))
                      go_wp2_with fail
                      refine HC2.out.mono ?_
                      rintro e w5 ⟨rfl, hL⟩
                      clear HL HC2
                      have HL := Lib.hid hL
                      clear hL
                      go_wp2
                      go_end0
                      exact ⟨rfl, HL.out⟩
                    · go_wp2
                      go_end0
                      exact ⟨rfl, HL.out⟩
                  · go_wp2
                    go_end0
                    exact ⟨rfl, HL.out⟩
                · by_cases hc2a : mid < en
                  · by_cases hc2b : en < b
                    · have HC2 := Lib.hid (HSM.out _ HL.out mid en b (by omega) (by omega) (by omega) (by omega))
                      go_wp2_with fail
                      refine HC2.out.mono ?_
                      rintro e w5 ⟨rfl, hL⟩
                      clear HL HC2
                      have HL := Lib.hid hL
                      clear hL
                      go_wp2
                      go_end0
                      exact ⟨rfl, HL.out⟩
                    · go_wp2
                      go_end0
                      exact ⟨rfl, HL.out⟩
                  · go_wp2
                    go_end0
                    exact ⟨rfl, HL.out⟩
              · by_cases hc2a : mid < en
                · by_cases hc2b : en < b
                  · have HC2 := Lib.hid (HSM.out _ HL.out mid en b (by omega) (by omega) (by omega) (by omega))
                    go_wp2_with fail
                    refine HC2.out.mono ?_
                    rintro e w5 ⟨rfl, hL⟩
                    clear HL HC2
                    have HL := Lib.hid hL
                    clear hL
                    go_wp2
                    go_end0
                    exact ⟨rfl, HL.out⟩
                  · go_wp2
                    go_end0
                    exact ⟨rfl, HL.out⟩
                · go_wp2
                  go_end0
                  exact ⟨rfl, HL.out⟩
-- behind
theorem sym_any (hl : ∀ i, i ∈ s.learned → i < s.n) (hv : (F .learned).v = .slice (some ⟨g, 0, none⟩) N cap) (hN : s.learned.length = N) (hN2 : N ≤ 1000000000) (d : Nat) : SM B bp s F w g N cap d := by
  induction d with
  | zero => intro w1 hL a m b h1 h2 h3 hdd; omega
  | succ d ih => exact sym_step hl hv hN hN2 d ih
set_option maxRecDepth 100000 in
set_option maxHeartbeats 1000000 in
theorem stable_any (h : Mem w B bp s F) (hl : ∀ i, i ∈ s.learned → i < s.n) (hv : (F .learned).v = .slice (some ⟨g, 0, none⟩) N cap) (hN : s.learned.length = N) (hN2 : N ≤ 1000000000) :
    Calls Tryd.prog 95 #[.slice (some ⟨g, 0, none⟩) N cap, .int .i64 N, .func (.func 81) #[] #[]] w fun e w' => e = .returned (.tuple #[]) ∧ LS B bp s F w w' := by
  have HR0 := Lib.hid (LS.start h)
  have HSM : Hid (SM B bp s F w g N cap N) := Lib.hid (sym_any hl hv hN hN2 N)
  have HIN : Hid (∀ w1, LS B bp s F w w1 → ∀ a b : Nat, a ≤ b → b ≤ N → Calls Tryd.prog 99 #[.slice (some ⟨g, 0, none⟩) N cap, .int .i64 a, .int .i64 b, .func (.func 81) #[] #[]] w1 fun e w' => e = .returned (.tuple #[]) ∧ LS B bp s F w w') := Lib.hid fun w1 hL a b k1 k2 => by
    obtain ⟨l, F', M, q1, q2, q3, q4⟩ := hL
    refine (insert_any M (fun i hi => hl i (q3 i hi)) ((congrFun q1 .learned).trans hv) (q2.trans hN) hN2 a b k1 k2).mono ?_
    rintro e w2 ⟨he, hL2⟩
    exact ⟨he, LS.on q1 q2 q3 q4 hL2⟩
  clear h hl hv hN
  go_enter Tryd.func95, Tryd.ntmps95
  go_wp2
  go_loopw [7, 8] (fun av bv wx => ∃ a b : Nat, av = .int .i64 a ∧ bv = .int .i64 b ∧ b = a + 20 ∧ a ≤ N ∧ LS B bp s F w wx) (fun _ bv _ => N + 20 - (intOf bv).toNat)
  case atStart => exact ⟨0, 20, rfl, rfl, rfl, Nat.zero_le _, HR0.out⟩
  case round =>
    obtain ⟨a, b, rfl, rfl, hab, haN, hL⟩ := hrel
    clear HR0
    have HL := Lib.hid hL
    have HAB := Lib.hid hab
    have hbN2 : b ≤ N + 20 := by omega
    clear hL hab
    by_cases hlt : b ≤ N
    · have HC := Lib.hid (HIN.out _ HL.out a b (by have := HAB.out; omega) hlt)
      go_wp2_with fail
      refine HC.out.mono ?_
      rintro e w2 ⟨rfl, hL⟩
      clear HL HC
      have HL := Lib.hid hL
      clear hL
      go_wp2
      go_roundw
      case rel => exact ⟨b, b + 20, rfl, by go_num, rfl, hlt, HL.out⟩
      case measure => simp [intOf]; omega
    · have HC := Lib.hid (HIN.out _ HL.out a N haN (Nat.le_refl _))
      go_wp2_with fail
      refine HC.out.mono ?_
      rintro e w2 ⟨rfl, hL⟩
      clear HL HC HAB hlt haN hbN2
      have HL := Lib.hid hL
      clear hL
      go_wp2
      go_loopw [6] (fun sv wx => ∃ bs : Nat, sv = .int .i64 bs ∧ 20 ≤ bs ∧ LS B bp s F w wx) (fun sv _ => N - (intOf sv).toNat)
      case atStart => exact ⟨20, rfl, Nat.le_refl _, HL.out⟩
      case round =>
        obtain ⟨bs, rfl, hbs, hL⟩ := hrel
        clear HL
        have HL := Lib.hid hL
        clear hL
        by_cases hlt : bs < N
        · obtain ⟨b2, hb2⟩ : ∃ b2 : Nat, b2 = 2 * bs := ⟨_, rfl⟩
          have e2 : (2 : Int) * (bs : Int) = (b2 : Int) := by omega
          have e3 : (bs : Int) * (2 : Int) = (b2 : Int) := by omega
          have hb2N : b2 ≤ 2 * N := by omega
          have HB2 := Lib.hid hb2
          clear hb2
          go_wp2
          go_loopw [7, 8] (fun av bv wx => ∃ a b : Nat, av = .int .i64 a ∧ bv = .int .i64 b ∧ b = a + b2 ∧ a ≤ N ∧ LS B bp s F w wx) (fun _ bv _ => N + b2 - (intOf bv).toNat)
          case atStart => exact ⟨0, b2, rfl, rfl, by omega, Nat.zero_le _, HL.out⟩
          case round =>
            obtain ⟨a, b, rfl, rfl, hab, haN, hL⟩ := hrel
            clear HL
            have HL := Lib.hid hL
            have HAB := Lib.hid hab
            have hbN2 : b ≤ N + b2 := by omega
            clear hL hab
            by_cases hlt2 : b ≤ N
            · have HC := Lib.hid (HSM.out _ HL.out a (a + bs) b (by omega) (by have := HAB.out; have := HB2.out; omega) hlt2 (by omega))
              go_wp2_with fail
              refine HC.out.mono ?_
              rintro e w2 ⟨rfl, hL⟩
              clear HL HC
              have HL := Lib.hid hL
              clear hL
              go_wp2
              go_roundw
              case rel => exact ⟨b, b + b2, rfl, by go_num, rfl, hlt2, HL.out⟩
              case measure => have := HB2.out; simp [intOf]; omega
            · by_cases hm : a + bs < N
              · have HC := Lib.hid (HSM.out _ HL.out a (a + bs) N (by omega) hm (Nat.le_refl _) (by omega))
                go_wp2_with fail
                refine HC.out.mono ?_
                rintro e w2 ⟨rfl, hL⟩
                clear HL HC
                have HL := Lib.hid hL
                clear hL
                go_wp2
                go_roundw
                case rel => exact ⟨b2, rfl, by have := HB2.out; omega, HL.out⟩
                case measure => have := HB2.out; simp [intOf]; omega
              · go_wp2
                go_roundw
                case rel => exact ⟨b2, rfl, by have := HB2.out; omega, HL.out⟩
                case measure => have := HB2.out; simp [intOf]; omega
        · go_wp2
          go_end0
          exact ⟨rfl, HL.out⟩
set_option maxRecDepth 100000 in
theorem sort_any (h : Mem w B bp s F) (hl : ∀ i, i ∈ s.learned → i < s.n) (hv : (F .learned).v = .slice (some ⟨g, 0, none⟩) N cap) (hN : s.learned.length = N) (hN2 : N ≤ 1000000000) :
    Calls Tryd.prog 80 #[.slice (some ⟨g, 0, none⟩) N cap, .func (.func 81) #[] #[]] w fun e w' => e = .returned (.tuple #[]) ∧ LS B bp s F w w' := by
  have HST := Lib.hid (stable_any h hl hv hN hN2)
  clear h hl hv hN
  go_enter Tryd.func80, Tryd.ntmps80
  go_wp2_with fail
  refine HST.out.mono ?_
  rintro e w2 ⟨rfl, hL⟩
  have HL := Lib.hid hL
  clear hL HST
  go_wp2
  go_end0
  exact ⟨rfl, HL.out⟩
end
end Go.Proofs.YtojjjndhabjhdaaDoor.satSb
