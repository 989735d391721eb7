/-
  Contracts of the reference's run and Scan.
-/
import Derived.Test.YtjkipgdjblbemaaDoorIntsA
namespace Go.Proofs.YtjkipgdjblbemaaDoor.intsB
open Go.ChangeShapes Go.WideShapes Go.ChangeAt Go.RowKit intsP intsA

theorem run_at (s : ByteArray) (p : Nat) (w : World) (hs : s.size ≤ 1000000) (hp : p ≤ s.size) :
    Calls Tryd.prog 24 #[.string s, .int .i64 p] w fun e w' => e = .returned (.int .i64 (dn (s.data.toList.drop p) : Int)) ∧ w = w' := by
  go_enter Tryd.func24, Tryd.ntmps24
  go_wp2
  go_loop [5] (fun i => ∃ k : Nat, p + k ≤ s.size ∧ i = .int .i64 k ∧ Hid (dn (s.data.toList.drop p) = k + dn (s.data.toList.drop (p + k)))) (fun i => s.size - (intOf i).toNat)
  case atStart => exact ⟨0, hp, rfl, Lib.hid (by simp)⟩
  case round =>
    obtain ⟨k, hk, rfl, hd⟩ := hrel
    by_cases hlt : p + k < s.size
    · have hst := Lib.hid (dn_step s (p + k) hlt)
      have g0 : (p : Int) + k < s.size := by omega
      by_cases h1 : 48 ≤ s[p + k].toNat
      · have g1 : (48 : Int) ≤ s[p + k].toNat := by omega
        by_cases h2 : s[p + k].toNat ≤ 57
        · have hN : Hid (dn (s.data.toList.drop p) = (k + 1) + dn (s.data.toList.drop (p + (k + 1)))) := Lib.hid (by
            have := hst.out; rw [if_pos (isD_yes h1 h2)] at this; rw [hd.out, this, show p + (k + 1) = p + k + 1 from rfl]; omega)
          have g2 : (s[p + k].toNat : Int) ≤ 57 := by omega
          clear hd hst
          go_wp2
          go_round
          case rel => exact ⟨k + 1, by omega, by go_num, hN⟩
          case measure => simp [intOf]; omega
        · have hN : Hid (dn (s.data.toList.drop p) = k) := Lib.hid (by
            have := hst.out; rw [if_neg (by rw [isD_no (by omega)]; simp)] at this; rw [hd.out, this]; rfl)
          have g2 : ¬ (s[p + k].toNat : Int) ≤ 57 := by omega
          clear hd hst
          go_wp2
          go_ret
          exact ⟨ret_int (by rw [hN.out]), rfl⟩
      · have hN : Hid (dn (s.data.toList.drop p) = k) := Lib.hid (by
          have := hst.out; rw [if_neg (by rw [isD_no (by omega)]; simp)] at this; rw [hd.out, this]; rfl)
        have g1 : ¬ (48 : Int) ≤ s[p + k].toNat := by omega
        clear hd hst
        go_wp2
        go_ret
        exact ⟨ret_int (by rw [hN.out]), rfl⟩
    · have hN : Hid (dn (s.data.toList.drop p) = k) := Lib.hid (by rw [hd.out, dn_no s (p + k) hlt]; rfl)
      have g0 : ¬ (p : Int) + k < s.size := by omega
      clear hd
      go_wp2
      go_ret
      exact ⟨ret_int (by rw [hN.out]), rfl⟩
theorem runI (s : ByteArray) (p : Nat) (z : Int) (w : World) (hs : s.size ≤ 1000000) (hz : z = (p : Int)) (hp : p ≤ s.size) :
    Calls Tryd.prog 24 #[.string s, .int .i64 z] w fun e w' => e = .returned (.int .i64 (dn (s.data.toList.drop p) : Int)) ∧ w = w' := by
  subst hz; exact run_at s p w hs hp

def scR (l : List UInt8) : Value := if whole l = 0 then .tuple #[.int .i64 0, .int .i64 0] else .tuple #[.int .i64 (whole l : Int), .int .i64 (every l : Int)]

theorem rscan_no (s : ByteArray) (p : Int) (w : World) (h : p < 0 ∨ (s.size : Int) ≤ p) :
    Calls Tryd.prog 15 #[.string s, .int .i64 p] w fun e w' => e = .returned (.tuple #[.int .i64 0, .int .i64 0]) ∧ w = w' := by
  by_cases h1 : p < 0
  · clear h
    go_enter Tryd.func15, Tryd.ntmps15
    go_wp2
    go_ret2
    exact ⟨rfl, rfl⟩
  · have h2 : (s.size : Int) ≤ p := by omega
    clear h
    go_enter Tryd.func15, Tryd.ntmps15
    go_wp2
    go_ret2
    exact ⟨rfl, rfl⟩

def isF (l : List UInt8) (k : Nat) : Bool := decide (bt l k = 46 ∧ dn (l.drop (k + 1)) ≠ 0)

set_option maxRecDepth 100000 in
set_option maxHeartbeats 1000000 in
theorem rscan_at (s : ByteArray) (p : Nat) (w : World) (hs : s.size ≤ 1000000) (hp : p < s.size) :
    Calls Tryd.prog 15 #[.string s, .int .i64 p] w fun e w' => e = .returned (scR (s.data.toList.drop p)) ∧ w = w' := by
  have hll : (s.data.toList.drop p).length = s.size - p := by simp
  have b0 := bt_in s p 0 (by omega)
  simp only [Nat.add_zero] at b0
  go_enter Tryd.func15, Tryd.ntmps15
  go_upto_if 22 with (fail)
  go_cut [6] (fun a wx => a = .int .i64 ((p : Int) + (sg (s.data.toList.drop p) : Int)) ∧ w = wx)
  case first =>
    by_cases h : s[p].toNat = 45
    · have q1 : ((s[p].toNat : Int) == 45) = true := by rw [h]; rfl
      have hN : Hid (sg (s.data.toList.drop p) = 1) := Lib.hid (by unfold sg; rw [b0, if_pos h])
      clear h b0
      go_wp2
      go_meet
      exact ⟨by rw [hN.out]; go_num, rfl⟩
    · have q1 : ((s[p].toNat : Int) == 45) = false := by rw [beq_eq_false_iff_ne]; omega
      have hN : Hid (sg (s.data.toList.drop p) = 0) := Lib.hid (by unfold sg; rw [b0, if_neg h])
      clear h b0
      go_wp2
      go_meet
      exact ⟨by rw [hN.out]; go_num, rfl⟩
  case rest =>
  obtain ⟨rfl, rfl⟩ := hcut
  have hg := sg_le (s.data.toList.drop p)
  have hdn : dn (s.data.toList.drop (p + sg (s.data.toList.drop p))) = dn ((s.data.toList.drop p).drop (sg (s.data.toList.drop p))) := by rw [List.drop_drop]
  have hdl := dn_drop_le s.data.toList (p + sg (s.data.toList.drop p))
  rw [Array.length_toList, ByteArray.size_data] at hdl
  have hw0 : Hid (dn (s.data.toList.drop (p + sg (s.data.toList.drop p))) = 0 → scR (s.data.toList.drop p) = .tuple #[.int .i64 0, .int .i64 0]) := Lib.hid (by
    intro h; unfold scR whole; rw [← hdn, if_pos (by rw [if_pos h])])
  have hw1 : Hid (dn (s.data.toList.drop (p + sg (s.data.toList.drop p))) ≠ 0 → bt (s.data.toList.drop p) (sg (s.data.toList.drop p)) = 48 → whole (s.data.toList.drop p) = sg (s.data.toList.drop p) + 1) := Lib.hid (by
    intro h h2; unfold whole; rw [← hdn, if_neg h, if_pos h2])
  have hw2 : Hid (dn (s.data.toList.drop (p + sg (s.data.toList.drop p))) ≠ 0 → bt (s.data.toList.drop p) (sg (s.data.toList.drop p)) ≠ 48 → whole (s.data.toList.drop p) = sg (s.data.toList.drop p) + dn (s.data.toList.drop (p + sg (s.data.toList.drop p)))) := Lib.hid (by
    intro h h2; unfold whole; rw [← hdn, if_neg h, if_neg h2])
  have hbi := Lib.hid (fun k h => bt_in s p k h)
  have hbo := Lib.hid (fun k h => bt_out s p k h)
  clear b0 hdn
  go_wp2_with fail
  refine (runI s (p + sg (s.data.toList.drop p)) _ _ hs (by omega) (by omega)).mono ?_
  rintro e w' ⟨rfl, rfl⟩
  generalize hG : sg (s.data.toList.drop p) = g at *
  generalize hNN : dn (s.data.toList.drop (p + g)) = n at *
  clear hG hNN
  by_cases hn : n = 0
  · have q1 : ((n : Int) == 0) = true := by rw [beq_iff_eq, hn]; rfl
    have hN := Lib.hid (hw0.out hn)
    clear hn hw0 hw1 hw2
    go_wp2
    go_ret2
    exact ⟨by rw [hN.out]; rfl, rfl⟩
  have q1 : ((n : Int) == 0) = false := by rw [beq_eq_false_iff_ne]; omega
  have hpg : p + g < s.size := by omega
  have hw1 := Lib.hid (hw1.out hn)
  have hw2 := Lib.hid (hw2.out hn)
  clear hw0
  go_upto_if 33 with (fail)
  go_cut [7] (fun e wx => ∃ m : Nat, Hid (whole (s.data.toList.drop p) = g + m) ∧ 1 ≤ m ∧ m ≤ n ∧ e = .int .i64 (m : Int) ∧ w = wx)
  case first =>
    by_cases h : s[p + g].toNat = 48
    · have q2 : ((s[p + g].toNat : Int) == 48) = true := by rw [h]; rfl
      have hN := Lib.hid (hw1.out (by rw [hbi.out g hpg]; exact h))
      clear h
      go_wp2
      go_meet
      exact ⟨1, hN, Nat.le_refl _, by omega, rfl, rfl⟩
    · have q2 : ((s[p + g].toNat : Int) == 48) = false := by rw [beq_eq_false_iff_ne]; omega
      have hN := Lib.hid (hw2.out (by rw [hbi.out g hpg]; exact h))
      clear h
      go_wp2
      go_meet
      exact ⟨n, hN, by omega, Nat.le_refl _, rfl, rfl⟩
  case rest =>
  obtain ⟨m, hwm, hm1, hmn, rfl, rfl⟩ := hcut
  have hwl := whole_le (s.data.toList.drop p)
  have hev : Hid (every (s.data.toList.drop p) = expo (s.data.toList.drop p) (frac (s.data.toList.drop p) (whole (s.data.toList.drop p)))) := Lib.hid rfl
  have hsc : Hid (scR (s.data.toList.drop p) = .tuple #[.int .i64 (whole (s.data.toList.drop p) : Int), .int .i64 (every (s.data.toList.drop p) : Int)]) := Lib.hid (by unfold scR; rw [if_neg (by rw [hwm.out]; omega)])
  rw [hll] at hwl
  rw [hwm.out] at hwl hev hsc
  clear hw1 hw2 q1 hwm
  go_upto_region 13 with (fail)
  rw [show (p : Int) + (g : Int) + (m : Int) - (p : Int) = ((g + m : Nat) : Int) from by omega, show (p : Int) + (g : Int) + (m : Int) = (p : Int) + ((g + m : Nat) : Int) from by omega]
  generalize g + m = q at *
  clear hdl hg hmn
  go_cut [56] (fun b wx => b = .bool (isF (s.data.toList.drop p) q) ∧ w = wx)
  case first =>
    by_cases hlt : p + q < s.size
    · have hb := hbi.out q hlt
      by_cases h46 : s[p + q].toNat = 46
      · have q2 : ((s[p + q].toNat : Int) == 46) = true := by rw [h46]; rfl
        have hdr : dn ((s.data.toList.drop p).drop (q + 1)) = dn (s.data.toList.drop (p + q + 1)) := by rw [List.drop_drop, Nat.add_assoc]
        have hN : Hid (isF (s.data.toList.drop p) q = decide (dn (s.data.toList.drop (p + q + 1)) ≠ 0)) := Lib.hid (by
          unfold isF; rw [hdr, hb, h46]; simp)
        clear h46 hb hdr
        go_wp2_with fail
        refine (runI s (p + q + 1) _ _ hs (by omega) (by omega)).mono ?_
        rintro e w' ⟨rfl, rfl⟩
        generalize dn (s.data.toList.drop (p + q + 1)) = k at *
        by_cases hk : k = 0
        · have g1 : ¬ (0 : Int) < k := by omega
          have HK := Lib.hid hk
          clear hk
          go_wp2
          go_meet
          exact ⟨by rw [hN.out, HK.out]; rfl, rfl⟩
        · have g1 : (0 : Int) < k := by omega
          have HK := Lib.hid hk
          go_wp2
          go_meet
          exact ⟨by rw [hN.out, decide_eq_true HK.out]; simp; omega, rfl⟩
      · have q2 : ((s[p + q].toNat : Int) == 46) = false := by rw [beq_eq_false_iff_ne]; omega
        have hN : Hid (isF (s.data.toList.drop p) q = false) := Lib.hid (by unfold isF; rw [hb]; exact decide_eq_false (fun x => h46 x.1))
        clear h46 hb
        go_wp2
        go_meet
        exact ⟨by rw [hN.out], rfl⟩
    · have hN : Hid (isF (s.data.toList.drop p) q = false) := Lib.hid (by unfold isF; rw [hbo.out q hlt]; rfl)
      have g1 : ¬ (p : Int) + (q : Int) < s.size := by omega
      go_wp2
      go_meet
      exact ⟨by rw [hN.out], rfl⟩
  case rest =>
  obtain ⟨rfl, rfl⟩ := hcut
  have hfr1 : Hid (isF (s.data.toList.drop p) q = true → p + q < s.size ∧ frac (s.data.toList.drop p) q = q + 1 + dn (s.data.toList.drop (p + q + 1))) := Lib.hid (by
    intro h0
    have h := of_decide_eq_true h0
    have hdr : dn ((s.data.toList.drop p).drop (q + 1)) = dn (s.data.toList.drop (p + q + 1)) := by rw [List.drop_drop, Nat.add_assoc]
    refine ⟨?_, by unfold frac; rw [if_pos h, hdr]⟩
    by_cases hh : p + q < s.size
    · exact hh
    · rw [hbo.out q hh] at h; omega)
  have hfr0 : Hid (isF (s.data.toList.drop p) q = false → frac (s.data.toList.drop p) q = q) := Lib.hid (by
    intro h0
    have h := of_decide_eq_false h0
    unfold frac; rw [if_neg h])
  go_upto_if 56 with (fail)
  go_cut [6] (fun e wx => e = .int .i64 ((p : Int) + (frac (s.data.toList.drop p) q : Int)) ∧ w = wx)
  case first =>
    cases hd : isF (s.data.toList.drop p) q with
    | true =>
      obtain ⟨hlt, hN⟩ := hfr1.out hd
      have hN := Lib.hid hN
      have hdl := dn_drop_le s.data.toList (p + q + 1)
      rw [Array.length_toList, ByteArray.size_data] at hdl
      clear hd hfr1 hfr0
      go_wp2_with fail
      refine (runI s (p + q + 1) _ _ hs (by omega) (by omega)).mono ?_
      rintro e w' ⟨rfl, rfl⟩
      generalize dn (s.data.toList.drop (p + q + 1)) = k at *
      go_wp2
      go_meet
      exact ⟨by rw [hN.out]; go_num, rfl⟩
    | false =>
      have hN := Lib.hid (hfr0.out hd)
      clear hd hfr1 hfr0
      go_wp2
      go_meet
      exact ⟨by rw [hN.out], rfl⟩
  case rest =>
  obtain ⟨rfl, rfl⟩ := hcut
  have hfl := frac_le (s.data.toList.drop p) q (by omega)
  rw [hll] at hfl
  generalize frac (s.data.toList.drop p) q = f at *
  have hxp : Hid (every (s.data.toList.drop p) = expo (s.data.toList.drop p) f) := hev
  clear hev hfr1 hfr0
  go_upto_region 15 with (fail)
  go_cut [79] (fun b wx => b = .bool (isE (s.data.toList.drop p) f) ∧ w = wx)
  case first =>
    by_cases hlt : p + f < s.size
    · have hb := hbi.out f hlt
      by_cases h1 : s[p + f].toNat = 101
      · have q2 : ((s[p + f].toNat : Int) == 101) = true := by rw [h1]; rfl
        have hN : Hid (isE (s.data.toList.drop p) f = true) := Lib.hid (by unfold isE; rw [hb]; exact decide_eq_true (Or.inl h1))
        clear h1 hb
        go_wp2
        go_meet
        exact ⟨by rw [hN.out], rfl⟩
      have q2 : ((s[p + f].toNat : Int) == 101) = false := by rw [beq_eq_false_iff_ne]; omega
      by_cases h2 : s[p + f].toNat = 69
      · have q3 : ((s[p + f].toNat : Int) == 69) = true := by rw [h2]; rfl
        have hN : Hid (isE (s.data.toList.drop p) f = true) := Lib.hid (by unfold isE; rw [hb]; exact decide_eq_true (Or.inr h2))
        clear h1 h2 hb
        go_wp2
        go_meet
        exact ⟨by rw [hN.out], rfl⟩
      · have q3 : ((s[p + f].toNat : Int) == 69) = false := by rw [beq_eq_false_iff_ne]; omega
        have hN : Hid (isE (s.data.toList.drop p) f = false) := Lib.hid (by unfold isE; rw [hb]; exact decide_eq_false (by omega))
        clear h1 h2 hb
        go_wp2
        go_meet
        exact ⟨by rw [hN.out], rfl⟩
    · have hN : Hid (isE (s.data.toList.drop p) f = false) := Lib.hid (by unfold isE; rw [hbo.out f hlt]; rfl)
      have g1 : ¬ (p : Int) + (f : Int) < s.size := by omega
      go_wp2
      go_meet
      exact ⟨by rw [hN.out], rfl⟩
  case rest =>
  obtain ⟨rfl, rfl⟩ := hcut
  have hlE : Hid ((bt (s.data.toList.drop p) f = 101 ∨ bt (s.data.toList.drop p) f = 69) → p + f < s.size) := Lib.hid (by
    intro h
    by_cases hh : p + f < s.size
    · exact hh
    · rw [hbo.out f hh] at h; omega)
  have hE0 : Hid (¬ (bt (s.data.toList.drop p) f = 101 ∨ bt (s.data.toList.drop p) f = 69) → every (s.data.toList.drop p) = f) := Lib.hid (by
    intro h; rw [hxp.out]; unfold expo; rw [if_neg (fun x => h x.1)])
  go_upto_if 79 with (fail)
  go_cut [6] (fun e wx => e = .int .i64 ((p : Int) + (every (s.data.toList.drop p) : Int)) ∧ w = wx)
  case first =>
    cases hd : isE (s.data.toList.drop p) f with
    | true =>
      have hE : bt (s.data.toList.drop p) f = 101 ∨ bt (s.data.toList.drop p) f = 69 := of_decide_eq_true hd
      have hlt := hlE.out hE
      have hpe := Lib.hid hE
      clear hE hE0 hlE hd
      go_upto_region 17 with (fail)
      go_cut [97] (fun v wx => v = .bool (isS (sig (s.data.toList.drop p) (f + 1))) ∧ w = wx)
      case first =>
        by_cases hl1 : p + (f + 1) < s.size
        · have hb1 := hbi.out (f + 1) hl1
          have hl1' : p + f + 1 < s.size := hl1
          have hb1 : bt (s.data.toList.drop p) (f + 1) = s[p + f + 1].toNat := hb1
          by_cases h43 : s[p + f + 1].toNat = 43
          · have t1 : ((s[p + f + 1].toNat : Int) == 43) = true := by rw [h43]; rfl
            have hN : Hid (isS (sig (s.data.toList.drop p) (f + 1)) = true) := Lib.hid (decide_eq_true (by unfold sig; rw [if_pos (Or.inl (by rw [hb1]; exact h43))]))
            clear hb1 h43
            go_wp2
            go_meet
            exact ⟨by rw [hN.out], rfl⟩
          have t1 : ((s[p + f + 1].toNat : Int) == 43) = false := by rw [beq_eq_false_iff_ne]; omega
          by_cases h45 : s[p + f + 1].toNat = 45
          · have t2 : ((s[p + f + 1].toNat : Int) == 45) = true := by rw [h45]; rfl
            have hN : Hid (isS (sig (s.data.toList.drop p) (f + 1)) = true) := Lib.hid (decide_eq_true (by unfold sig; rw [if_pos (Or.inr (by rw [hb1]; exact h45))]))
            clear hb1 h43 h45
            go_wp2
            go_meet
            exact ⟨by rw [hN.out], rfl⟩
          · have t2 : ((s[p + f + 1].toNat : Int) == 45) = false := by rw [beq_eq_false_iff_ne]; omega
            have hN : Hid (isS (sig (s.data.toList.drop p) (f + 1)) = false) := Lib.hid (decide_eq_false (by unfold sig; rw [if_neg (by rw [hb1]; omega)]; omega))
            clear hb1 h43 h45
            go_wp2
            go_meet
            exact ⟨by rw [hN.out], rfl⟩
        · have hb1 := hbo.out (f + 1) hl1
          have g1 : ¬ (p : Int) + (f : Int) + 1 < s.size := by omega
          have hN : Hid (isS (sig (s.data.toList.drop p) (f + 1)) = false) := Lib.hid (decide_eq_false (by unfold sig; rw [hb1]; simp))
          clear hb1 hl1
          go_wp2
          go_meet
          exact ⟨by rw [hN.out], rfl⟩
      case rest =>
      obtain ⟨rfl, rfl⟩ := hcut
      have hs1 : sig (s.data.toList.drop p) (f + 1) ≤ 1 := by unfold sig; split <;> omega
      have hsl : p + f + 1 + sig (s.data.toList.drop p) (f + 1) ≤ s.size := by
        have : sig (s.data.toList.drop p) (f + 1) = 1 → p + (f + 1) < s.size := by
          intro h
          by_cases hh : p + (f + 1) < s.size
          · exact hh
          · unfold sig at h; rw [hbo.out (f + 1) hh] at h; cases h
        omega
      have hdl := dn_drop_le s.data.toList (p + f + 1 + sig (s.data.toList.drop p) (f + 1))
      rw [Array.length_toList, ByteArray.size_data] at hdl
      have hdr : dn ((s.data.toList.drop p).drop (f + 1 + sig (s.data.toList.drop p) (f + 1))) = dn (s.data.toList.drop (p + f + 1 + sig (s.data.toList.drop p) (f + 1))) := by rw [List.drop_drop, ← Nat.add_assoc, ← Nat.add_assoc]
      have hf1 : Hid (dn (s.data.toList.drop (p + f + 1 + sig (s.data.toList.drop p) (f + 1))) ≠ 0 → every (s.data.toList.drop p) = f + 1 + sig (s.data.toList.drop p) (f + 1) + dn (s.data.toList.drop (p + f + 1 + sig (s.data.toList.drop p) (f + 1)))) := Lib.hid (by
        intro h; rw [hxp.out]; unfold expo; rw [hdr, if_pos ⟨hpe.out, h⟩])
      have hf0 : Hid (dn (s.data.toList.drop (p + f + 1 + sig (s.data.toList.drop p) (f + 1))) = 0 → every (s.data.toList.drop p) = f) := Lib.hid (by
        intro h; rw [hxp.out]; unfold expo; rw [hdr, if_neg (fun x => x.2 h)])
      clear hdr
      generalize hT : sig (s.data.toList.drop p) (f + 1) = t at *
      clear hT
      go_upto_if 97 with (fail)
      go_cut [9] (fun v wx => v = .int .i64 ((p : Int) + (f : Int) + 1 + (t : Int)) ∧ w = wx)
      case first =>
        cases hd : isS t with
        | true =>
          have HT : Hid (t = 1) := Lib.hid (of_decide_eq_true hd)
          clear hd
          go_wp2
          go_meet
          exact ⟨by rw [HT.out]; go_num, rfl⟩
        | false =>
          have HT : Hid (t = 0) := Lib.hid (by have : ¬ t = 1 := of_decide_eq_false hd; omega)
          clear hd
          go_wp2
          go_meet
          exact ⟨by rw [HT.out]; go_num, rfl⟩
      case rest =>
      obtain ⟨rfl, rfl⟩ := hcut
      have HR := Lib.hid (fun z hz => runI s (p + f + 1 + t) z w hs hz hsl)
      go_wp2_with fail
      refine (HR.out _ (by omega)).mono ?_
      rintro e w' ⟨rfl, rfl⟩
      generalize dn (s.data.toList.drop (p + f + 1 + t)) = k at *
      by_cases hk : k = 0
      · have hN := Lib.hid (hf0.out hk)
        have g1 : ¬ (0 : Int) < k := by omega
        clear hf0 hf1 hk
        go_wp2
        go_meet
        exact ⟨by rw [hN.out], rfl⟩
      · have hN := Lib.hid (hf1.out hk)
        have g1 : (0 : Int) < k := by omega
        clear hf0 hf1
        go_wp2_with fail
        refine (HR.out _ (by omega)).mono ?_
        rintro e w' ⟨rfl, rfl⟩
        go_wp2
        go_meet
        exact ⟨by rw [hN.out]; go_num, rfl⟩
    | false =>
      have hE : ¬ (bt (s.data.toList.drop p) f = 101 ∨ bt (s.data.toList.drop p) f = 69) := of_decide_eq_false hd
      have hN := Lib.hid (hE0.out hE)
      clear hE hE0 hlE hd
      go_wp2
      go_meet
      exact ⟨by rw [hN.out], rfl⟩
  case rest =>
  obtain ⟨rfl, rfl⟩ := hcut
  have hel := every_le (s.data.toList.drop p)
  rw [hll] at hel
  go_wp2
  go_ret2
  refine ⟨?_, rfl⟩
  rw [hsc.out]
  show Ending.returned (.tuple #[.int .i64 (q : Int), .int .i64 ((p : Int) + (every (s.data.toList.drop p) : Int) - (p : Int))]) = _
  rw [show (p : Int) + (every (s.data.toList.drop p) : Int) - (p : Int) = (every (s.data.toList.drop p) : Int) from by omega]

end Go.Proofs.YtjkipgdjblbemaaDoor.intsB
