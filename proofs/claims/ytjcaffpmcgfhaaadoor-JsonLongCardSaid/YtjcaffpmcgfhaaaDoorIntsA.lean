/-
  Contracts of ints.digits and ints.scan.
-/
import Derived.Test.YtjcaffpmcgfhaaaDoorChecked
import Derived.Test.YtjcaffpmcgfhaaaDoorIntsP
import Derived.WalkKit
import Derived.ProofKit
import Derived.WalkLawsBesides
import Derived.Lib.Hide
import Derived.RowKit3
import Derived.WalkSpells
import Derived.Deep.DeepCutAuto
namespace Go.Proofs.YtjcaffpmcgfhaaaDoor.intsA
open Go.ChangeShapes Go.WideShapes Go.ChangeAt Go.RowKit intsP

theorem ret_int {k : IntKind} {a b : Int} (h : a = b) : Ending.returned (.int k a) = .returned (.int k b) := by rw [h]
theorem bget (s : ByteArray) (i : Nat) (h : i < s.size) : s.data.toList.getD i 0 = s[i] := by
  rw [List.getD_eq_getElem?_getD, List.getElem?_eq_getElem (by simpa using h)]; rfl
theorem dn_no (s : ByteArray) (k : Nat) (h : ¬ k < s.size) : dn (s.data.toList.drop k) = 0 := by
  rw [List.drop_eq_nil_of_le (by simp; omega)]; rfl
theorem dn_step (s : ByteArray) (k : Nat) (h : k < s.size) : dn (s.data.toList.drop k) = if isD s[k] = true then dn (s.data.toList.drop (k + 1)) + 1 else 0 := by
  have hl : k < s.data.toList.length := by simpa using h
  rw [List.drop_eq_getElem_cons hl, dn_cons]; rfl
theorem isD_yes {c : UInt8} (h1 : 48 ≤ c.toNat) (h2 : c.toNat ≤ 57) : isD c = true := by simp [isD, h1, h2]
theorem isD_no {c : UInt8} (h : ¬ (48 ≤ c.toNat ∧ c.toNat ≤ 57)) : isD c = false := by simp [isD]; omega

theorem digits_at (s : ByteArray) (p : Nat) (w : World) (hs : s.size ≤ 1000000) (hp : p ≤ s.size) :
    Calls Tryd.prog 42 #[.string s, .int .i64 p] w fun e w' => e = .returned (.int .i64 ((p : Int) + (dn (s.data.toList.drop p) : Int))) ∧ w = w' := by
  go_enter Tryd.func42, Tryd.ntmps42
  go_wp2
  go_loop [1] (fun i => ∃ k : Nat, p ≤ k ∧ k ≤ s.size ∧ i = .int .i64 k ∧ Hid (dn (s.data.toList.drop p) = (k - p) + dn (s.data.toList.drop k))) (fun i => s.size - (intOf i).toNat)
  case atStart => exact ⟨p, Nat.le_refl _, hp, rfl, Lib.hid (by omega)⟩
  case round =>
    obtain ⟨k, hpk, hk, rfl, hd⟩ := hrel
    by_cases hlt : k < s.size
    · have hst := Lib.hid (dn_step s k hlt)
      by_cases h1 : 48 ≤ s[k].toNat
      · by_cases h2 : s[k].toNat ≤ 57
        · have hN : Hid (dn (s.data.toList.drop p) = (k + 1 - p) + dn (s.data.toList.drop (k + 1))) := Lib.hid (by
            have := hst.out; rw [if_pos (isD_yes h1 h2)] at this; rw [hd.out]; omega)
          have g1 : (48 : Int) ≤ s[k].toNat := by omega
          have g2 : (s[k].toNat : Int) ≤ 57 := by omega
          clear hd hst
          go_wp2
          go_round
          case rel => exact ⟨k + 1, by omega, by omega, by go_num, hN⟩
          case measure => simp [intOf]; omega
        · have hN : Hid (dn (s.data.toList.drop p) = k - p) := Lib.hid (by
            have := hst.out; rw [if_neg (by rw [isD_no (by omega)]; simp)] at this; rw [hd.out, this]; rfl)
          have g1 : (48 : Int) ≤ s[k].toNat := by omega
          have g2 : ¬ (s[k].toNat : Int) ≤ 57 := by omega
          clear hd hst
          go_wp2
          go_ret
          exact ⟨ret_int (by rw [hN.out]; omega), rfl⟩
      · have hN : Hid (dn (s.data.toList.drop p) = k - p) := Lib.hid (by
          have := hst.out; rw [if_neg (by rw [isD_no (by omega)]; simp)] at this; rw [hd.out, this]; rfl)
        have g1 : ¬ (48 : Int) ≤ s[k].toNat := by omega
        clear hd hst
        go_wp2
        go_ret
        exact ⟨ret_int (by rw [hN.out]; omega), rfl⟩
    · have hN : Hid (dn (s.data.toList.drop p) = k - p) := Lib.hid (by rw [hd.out, dn_no s k hlt]; rfl)
      clear hd
      go_wp2
      go_ret
      exact ⟨ret_int (by rw [hN.out]; omega), rfl⟩
theorem digitsI (s : ByteArray) (p : Nat) (z : Int) (w : World) (hs : s.size ≤ 1000000) (hz : z = (p : Int)) (hp : p ≤ s.size) :
    Calls Tryd.prog 42 #[.string s, .int .i64 z] w fun e w' => e = .returned (.int .i64 ((p : Int) + (dn (s.data.toList.drop p) : Int))) ∧ w = w' := by
  subst hz; exact digits_at s p w hs hp

def scV (p : Nat) (l : List UInt8) : Value := if whole l = 0 then .tuple #[.int .i64 0, .bool false, .bool false] else .tuple #[.int .i64 ((p : Int) + (every l : Int)), .bool (decide (every l = whole l)), .bool true]

theorem scan_no (s : ByteArray) (p : Int) (w : World) (h : p < 0 ∨ (s.size : Int) ≤ p) :
    Calls Tryd.prog 35 #[.string s, .int .i64 p] w fun e w' => e = .returned (.tuple #[.int .i64 0, .bool false, .bool false]) ∧ w = w' := by
  by_cases h1 : p < 0
  · clear h
    go_enter Tryd.func35, Tryd.ntmps35
    go_wp2
    go_ret3
    exact ⟨rfl, rfl⟩
  · have h2 : (s.size : Int) ≤ p := by omega
    clear h
    go_enter Tryd.func35, Tryd.ntmps35
    go_wp2
    go_ret3
    exact ⟨rfl, rfl⟩

theorem bt_in (s : ByteArray) (p k : Nat) (h : p + k < s.size) : bt (s.data.toList.drop p) k = s[p + k].toNat := by
  unfold bt
  have : (s.data.toList.drop p).getD k 0 = s.data.toList.getD (p + k) 0 := by simp [List.getD]
  rw [this, bget s _ h]
theorem bt_out (s : ByteArray) (p k : Nat) (h : ¬ p + k < s.size) : bt (s.data.toList.drop p) k = 0 := by
  unfold bt
  have : (s.data.toList.drop p).getD k 0 = s.data.toList.getD (p + k) 0 := by simp [List.getD]
  rw [this, List.getD_eq_getElem?_getD, List.getElem?_eq_none (by simp; omega)]; rfl

/-- is it a point, a letter of an exponent, a sign? -/
def is46 (l : List UInt8) (k : Nat) : Bool := decide (bt l k = 46)
def isE (l : List UInt8) (k : Nat) : Bool := decide (bt l k = 101 ∨ bt l k = 69)
def isS (t : Nat) : Bool := decide (t = 1)
set_option maxRecDepth 100000 in
set_option maxHeartbeats 1000000 in
theorem scan_at (s : ByteArray) (p : Nat) (w : World) (hs : s.size ≤ 1000000) (hp : p < s.size) :
    Calls Tryd.prog 35 #[.string s, .int .i64 p] w fun e w' => e = .returned (scV p (s.data.toList.drop p)) ∧ w = w' := by
  have hll : (s.data.toList.drop p).length = s.size - p := by simp
  have b0 := bt_in s p 0 (by omega)
  simp only [Nat.add_zero] at b0
  go_enter Tryd.func35, Tryd.ntmps35
  go_upto_if 21 with (fail)
  go_cut [1] (fun a wx => a = .int .i64 ((p : Int) + (sg (s.data.toList.drop p) : Int)) ∧ w = wx)
  case first =>
    by_cases h : s[p].toNat = 45
    · have q1 : ((s[p].toNat : Int) == 45) = true := by rw [h]; rfl
      have hN : Hid (sg (s.data.toList.drop p) = 1) := Lib.hid (by unfold sg; rw [b0, if_pos h])
      clear h b0
      go_wp2
      go_meet
      exact ⟨by rw [hN.out]; go_num, rfl⟩
    · have q1 : ((s[p].toNat : Int) == 45) = false := by rw [beq_eq_false_iff_ne]; omega
      have hN : Hid (sg (s.data.toList.drop p) = 0) := Lib.hid (by unfold sg; rw [b0, if_neg h])
      clear h b0
      go_wp2
      go_meet
      exact ⟨by rw [hN.out]; go_num, rfl⟩
  case rest =>
    obtain ⟨rfl, rfl⟩ := hcut
    have hg := sg_le (s.data.toList.drop p)
    have hdn : dn (s.data.toList.drop (p + sg (s.data.toList.drop p))) = dn ((s.data.toList.drop p).drop (sg (s.data.toList.drop p))) := by rw [List.drop_drop]
    have hdl := dn_drop_le s.data.toList (p + sg (s.data.toList.drop p))
    rw [Array.length_toList, ByteArray.size_data] at hdl
    have hw0 : Hid (dn (s.data.toList.drop (p + sg (s.data.toList.drop p))) = 0 → scV p (s.data.toList.drop p) = .tuple #[.int .i64 0, .bool false, .bool false]) := Lib.hid (by
      intro h; unfold scV whole; rw [← hdn, if_pos (by rw [if_pos h])])
    have hw1 : Hid (dn (s.data.toList.drop (p + sg (s.data.toList.drop p))) ≠ 0 → bt (s.data.toList.drop p) (sg (s.data.toList.drop p)) = 48 → whole (s.data.toList.drop p) = sg (s.data.toList.drop p) + 1) := Lib.hid (by
      intro h h2; unfold whole; rw [← hdn, if_neg h, if_pos h2])
    have hw2 : Hid (dn (s.data.toList.drop (p + sg (s.data.toList.drop p))) ≠ 0 → bt (s.data.toList.drop p) (sg (s.data.toList.drop p)) ≠ 48 → whole (s.data.toList.drop p) = sg (s.data.toList.drop p) + dn (s.data.toList.drop (p + sg (s.data.toList.drop p)))) := Lib.hid (by
      intro h h2; unfold whole; rw [← hdn, if_neg h, if_neg h2])
    have hbi := Lib.hid (fun k h => bt_in s p k h)
    have hbo := Lib.hid (fun k h => bt_out s p k h)
    clear b0 hdn
    go_wp2_with fail
    refine (digitsI s (p + sg (s.data.toList.drop p)) _ _ hs (by omega) (by omega)).mono ?_
    rintro e w' ⟨rfl, rfl⟩
    generalize hG : sg (s.data.toList.drop p) = g at *
    generalize hNN : dn (s.data.toList.drop (p + g)) = n at *
    have HNN := Lib.hid hNN
    clear hG hNN
    by_cases hn : n = 0
    · have q1 : (((p : Int) + (g : Int) + (n : Int)) == ((p : Int) + (g : Int))) = true := by rw [beq_iff_eq, hn]; rfl
      have hN := Lib.hid (hw0.out hn)
      clear hn hw0 hw1 hw2
      go_wp2
      go_ret3
      exact ⟨by rw [hN.out]; rfl, rfl⟩
    have q1 : (((p : Int) + (g : Int) + (n : Int)) == ((p : Int) + (g : Int))) = false := by rw [beq_eq_false_iff_ne]; omega
    have hpg : p + g < s.size := by omega
    have hw1 := Lib.hid (hw1.out hn)
    have hw2 := Lib.hid (hw2.out hn)
    clear hw0
    go_upto_if 33 with (fail)
    go_cut [4] (fun e wx => e = .int .i64 ((p : Int) + (whole (s.data.toList.drop p) : Int)) ∧ w = wx)
    case first =>
      by_cases h : s[p + g].toNat = 48
      · have q2 : ((s[p + g].toNat : Int) == 48) = true := by rw [h]; rfl
        have hN := Lib.hid (hw1.out (by rw [hbi.out g hpg]; exact h))
        clear h
        go_wp2
        go_meet
        exact ⟨by rw [hN.out]; go_num, rfl⟩
      · have q2 : ((s[p + g].toNat : Int) == 48) = false := by rw [beq_eq_false_iff_ne]; omega
        have hN := Lib.hid (hw2.out (by rw [hbi.out g hpg]; exact h))
        clear h
        go_wp2
        go_meet
        exact ⟨by rw [hN.out]; go_num, rfl⟩
    case rest =>
      obtain ⟨rfl, rfl⟩ := hcut
      have hwl := whole_le (s.data.toList.drop p)
      have hw3 : whole (s.data.toList.drop p) ≠ 0 := by
        have a1 := hw1.out
        have a2 := hw2.out
        by_cases h : bt (s.data.toList.drop p) g = 48
        · rw [a1 h]; omega
        · rw [a2 h]; omega
      have hev : Hid (every (s.data.toList.drop p) = expo (s.data.toList.drop p) (frac (s.data.toList.drop p) (whole (s.data.toList.drop p)))) := Lib.hid rfl
      have hsc : Hid (scV p (s.data.toList.drop p) = .tuple #[.int .i64 ((p : Int) + (every (s.data.toList.drop p) : Int)), .bool (decide (every (s.data.toList.drop p) = whole (s.data.toList.drop p))), .bool true]) := Lib.hid (by unfold scV; rw [if_neg hw3])
      rw [hll] at hwl
      generalize whole (s.data.toList.drop p) = q at *
      clear hw1 hw2 q1 hw3 hdl HNN
      go_upto_region 11 with (fail)
      go_cut [45] (fun b wx => b = .bool (is46 (s.data.toList.drop p) q) ∧ w = wx)
      case first =>
        by_cases hlt : p + q < s.size
        · have hb := hbi.out q hlt
          by_cases h46 : s[p + q].toNat = 46
          · have q2 : ((s[p + q].toNat : Int) == 46) = true := by rw [h46]; rfl
            have hN : Hid (is46 (s.data.toList.drop p) q = true) := Lib.hid (by unfold is46; rw [hb]; exact decide_eq_true h46)
            clear h46 hb
            go_wp2
            go_meet
            exact ⟨by rw [hN.out], rfl⟩
          · have q2 : ((s[p + q].toNat : Int) == 46) = false := by rw [beq_eq_false_iff_ne]; omega
            have hN : Hid (is46 (s.data.toList.drop p) q = false) := Lib.hid (by unfold is46; rw [hb]; exact decide_eq_false h46)
            clear h46 hb
            go_wp2
            go_meet
            exact ⟨by rw [hN.out], rfl⟩
        · have hN : Hid (is46 (s.data.toList.drop p) q = false) := Lib.hid (by unfold is46; rw [hbo.out q hlt]; rfl)
          have g1 : ¬ ((p : Int) + (q : Int)) < s.size := by omega
          go_wp2
          go_meet
          exact ⟨by rw [hN.out], rfl⟩
      case rest =>
      obtain ⟨rfl, rfl⟩ := hcut
      have hl46 : Hid (bt (s.data.toList.drop p) q = 46 → p + q < s.size) := Lib.hid (by
        intro h
        by_cases hh : p + q < s.size
        · exact hh
        · rw [hbo.out q hh] at h; omega)
      have hfr : Hid (bt (s.data.toList.drop p) q ≠ 46 → frac (s.data.toList.drop p) q = q) := Lib.hid (by
        intro h; unfold frac; rw [if_neg (fun x => h x.1)])
      have hfr1 : Hid (bt (s.data.toList.drop p) q = 46 → dn (s.data.toList.drop (p + q + 1)) ≠ 0 → frac (s.data.toList.drop p) q = q + 1 + dn (s.data.toList.drop (p + q + 1))) := Lib.hid (by
        intro h0 h
        have hdr : dn ((s.data.toList.drop p).drop (q + 1)) = dn (s.data.toList.drop (p + q + 1)) := by rw [List.drop_drop, Nat.add_assoc]
        unfold frac; rw [hdr, if_pos ⟨h0, h⟩])
      have hfr0 : Hid (dn (s.data.toList.drop (p + q + 1)) = 0 → frac (s.data.toList.drop p) q = q) := Lib.hid (by
        intro h
        have hdr : dn ((s.data.toList.drop p).drop (q + 1)) = dn (s.data.toList.drop (p + q + 1)) := by rw [List.drop_drop, Nat.add_assoc]
        unfold frac; rw [hdr, if_neg (fun x => x.2 h)])
      go_upto_if 45 with (fail)
      go_cut [4, 5] (fun e b wx => e = .int .i64 ((p : Int) + (frac (s.data.toList.drop p) q : Int)) ∧ b = .bool (decide (frac (s.data.toList.drop p) q = q)) ∧ w = wx)
      case first =>
        cases hd : is46 (s.data.toList.drop p) q with
        | true =>
          have h46 : bt (s.data.toList.drop p) q = 46 := of_decide_eq_true hd
          have hlt := hl46.out h46
          have hfr1 := Lib.hid (hfr1.out h46)
          have hdl := dn_drop_le s.data.toList (p + q + 1)
          rw [Array.length_toList, ByteArray.size_data] at hdl
          clear h46 hfr hd
          go_wp2_with fail
          refine (digitsI s (p + q + 1) _ _ hs (by omega) (by omega)).mono ?_
          rintro e w' ⟨rfl, rfl⟩
          generalize dn (s.data.toList.drop (p + q + 1)) = m at *
          by_cases hm : m = 0
          · have hN := Lib.hid (hfr0.out hm)
            have g1 : ¬ ((p : Int) + (q : Int)) + 1 < ((p : Int) + (q : Int) + 1 + (m : Int)) := by omega
            clear hfr0 hfr1 hm
            go_wp2
            go_meet
            exact ⟨by rw [hN.out], by rw [hN.out]; simp, rfl⟩
          · have hN := Lib.hid (hfr1.out hm)
            have g1 : ((p : Int) + (q : Int)) + 1 < ((p : Int) + (q : Int) + 1 + (m : Int)) := by omega
            clear hfr0 hfr1
            go_wp2
            go_meet
            exact ⟨by rw [hN.out]; go_num, by rw [hN.out]; simp; omega, rfl⟩
        | false =>
          have h46 : ¬ bt (s.data.toList.drop p) q = 46 := of_decide_eq_false hd
          have hN := Lib.hid (hfr.out h46)
          clear h46 hd
          go_wp2
          go_meet
          exact ⟨by rw [hN.out], by rw [hN.out]; simp, rfl⟩
      case rest =>
        obtain ⟨rfl, rfl, rfl⟩ := hcut
        have hfl := frac_le (s.data.toList.drop p) q (by omega)
        have hfg := frac_ge (s.data.toList.drop p) q
        rw [hll] at hfl
        generalize frac (s.data.toList.drop p) q = f at *
        have hxp : Hid (every (s.data.toList.drop p) = expo (s.data.toList.drop p) f) := hev
        clear hev
        clear hl46 hfr hfr1 hfr0
        go_upto_region 15 with (fail)
        go_cut [70] (fun b wx => b = .bool (isE (s.data.toList.drop p) f) ∧ w = wx)
        case first =>
          by_cases hlt : p + f < s.size
          · have hb := hbi.out f hlt
            by_cases h1 : s[p + f].toNat = 101
            · have q2 : ((s[p + f].toNat : Int) == 101) = true := by rw [h1]; rfl
              have hN : Hid (isE (s.data.toList.drop p) f = true) := Lib.hid (by unfold isE; rw [hb]; exact decide_eq_true (Or.inl h1))
              clear h1 hb
              go_wp2
              go_meet
              exact ⟨by rw [hN.out], rfl⟩
            have q2 : ((s[p + f].toNat : Int) == 101) = false := by rw [beq_eq_false_iff_ne]; omega
            by_cases h2 : s[p + f].toNat = 69
            · have q3 : ((s[p + f].toNat : Int) == 69) = true := by rw [h2]; rfl
              have hN : Hid (isE (s.data.toList.drop p) f = true) := Lib.hid (by unfold isE; rw [hb]; exact decide_eq_true (Or.inr h2))
              clear h1 h2 hb
              go_wp2
              go_meet
              exact ⟨by rw [hN.out], rfl⟩
            · have q3 : ((s[p + f].toNat : Int) == 69) = false := by rw [beq_eq_false_iff_ne]; omega
              have hN : Hid (isE (s.data.toList.drop p) f = false) := Lib.hid (by unfold isE; rw [hb]; exact decide_eq_false (by omega))
              clear h1 h2 hb
              go_wp2
              go_meet
              exact ⟨by rw [hN.out], rfl⟩
          · have hN : Hid (isE (s.data.toList.drop p) f = false) := Lib.hid (by unfold isE; rw [hbo.out f hlt]; rfl)
            have g1 : ¬ ((p : Int) + (f : Int)) < s.size := by omega
            go_wp2
            go_meet
            exact ⟨by rw [hN.out], rfl⟩
        case rest =>
        obtain ⟨rfl, rfl⟩ := hcut
        have hlE : Hid ((bt (s.data.toList.drop p) f = 101 ∨ bt (s.data.toList.drop p) f = 69) → p + f < s.size) := Lib.hid (by
          intro h
          by_cases hh : p + f < s.size
          · exact hh
          · rw [hbo.out f hh] at h; omega)
        have hE0 : Hid (¬ (bt (s.data.toList.drop p) f = 101 ∨ bt (s.data.toList.drop p) f = 69) → every (s.data.toList.drop p) = f) := Lib.hid (by
          intro h; rw [hxp.out]; unfold expo; rw [if_neg (fun x => h x.1)])
        go_upto_if 70 with (fail)
        go_cut [4, 5] (fun e b wx => e = .int .i64 ((p : Int) + (every (s.data.toList.drop p) : Int)) ∧ b = .bool (decide (every (s.data.toList.drop p) = q)) ∧ w = wx)
        case first =>
          cases hd : isE (s.data.toList.drop p) f with
          | true =>
            have hE : bt (s.data.toList.drop p) f = 101 ∨ bt (s.data.toList.drop p) f = 69 := of_decide_eq_true hd
            have hlt := hlE.out hE
            have hpe := Lib.hid hE
            clear hE hE0 hlE hd
            go_upto_region 17 with (fail)
            go_cut [88] (fun v wx => v = .bool (isS (sig (s.data.toList.drop p) (f + 1))) ∧ w = wx)
            case first =>
              by_cases hl1 : p + (f + 1) < s.size
              · have hb1 := hbi.out (f + 1) hl1
                have hl1' : p + f + 1 < s.size := hl1
                have hb1 : bt (s.data.toList.drop p) (f + 1) = s[p + f + 1].toNat := hb1
                by_cases h43 : s[p + f + 1].toNat = 43
                · have t1 : ((s[p + f + 1].toNat : Int) == 43) = true := by rw [h43]; rfl
                  have hN : Hid (isS (sig (s.data.toList.drop p) (f + 1)) = true) := Lib.hid (decide_eq_true (by unfold sig; rw [if_pos (Or.inl (by rw [hb1]; exact h43))]))
                  clear hb1 h43
                  go_wp2
                  go_meet
                  exact ⟨by rw [hN.out], rfl⟩
                have t1 : ((s[p + f + 1].toNat : Int) == 43) = false := by rw [beq_eq_false_iff_ne]; omega
                by_cases h45 : s[p + f + 1].toNat = 45
                · have t2 : ((s[p + f + 1].toNat : Int) == 45) = true := by rw [h45]; rfl
                  have hN : Hid (isS (sig (s.data.toList.drop p) (f + 1)) = true) := Lib.hid (decide_eq_true (by unfold sig; rw [if_pos (Or.inr (by rw [hb1]; exact h45))]))
                  clear hb1 h43 h45
                  go_wp2
                  go_meet
                  exact ⟨by rw [hN.out], rfl⟩
                · have t2 : ((s[p + f + 1].toNat : Int) == 45) = false := by rw [beq_eq_false_iff_ne]; omega
                  have hN : Hid (isS (sig (s.data.toList.drop p) (f + 1)) = false) := Lib.hid (decide_eq_false (by unfold sig; rw [if_neg (by rw [hb1]; omega)]; omega))
                  clear hb1 h43 h45
                  go_wp2
                  go_meet
                  exact ⟨by rw [hN.out], rfl⟩
              · have hb1 := hbo.out (f + 1) hl1
                have g1 : ¬ ((p : Int) + (f : Int)) + 1 < s.size := by omega
                have hN : Hid (isS (sig (s.data.toList.drop p) (f + 1)) = false) := Lib.hid (decide_eq_false (by unfold sig; rw [hb1]; simp))
                clear hb1 hl1
                go_wp2
                go_meet
                exact ⟨by rw [hN.out], rfl⟩
            case rest =>
            obtain ⟨rfl, rfl⟩ := hcut
            have hs1 : sig (s.data.toList.drop p) (f + 1) ≤ 1 := by unfold sig; split <;> omega
            have hsl : p + f + 1 + sig (s.data.toList.drop p) (f + 1) ≤ s.size := by
              have : sig (s.data.toList.drop p) (f + 1) = 1 → p + (f + 1) < s.size := by
                intro h
                by_cases hh : p + (f + 1) < s.size
                · exact hh
                · unfold sig at h; rw [hbo.out (f + 1) hh] at h; cases h
              omega
            have hdl := dn_drop_le s.data.toList (p + f + 1 + sig (s.data.toList.drop p) (f + 1))
            rw [Array.length_toList, ByteArray.size_data] at hdl
            have hdr : dn ((s.data.toList.drop p).drop (f + 1 + sig (s.data.toList.drop p) (f + 1))) = dn (s.data.toList.drop (p + f + 1 + sig (s.data.toList.drop p) (f + 1))) := by rw [List.drop_drop, ← Nat.add_assoc, ← Nat.add_assoc]
            have hf1 : Hid (dn (s.data.toList.drop (p + f + 1 + sig (s.data.toList.drop p) (f + 1))) ≠ 0 → every (s.data.toList.drop p) = f + 1 + sig (s.data.toList.drop p) (f + 1) + dn (s.data.toList.drop (p + f + 1 + sig (s.data.toList.drop p) (f + 1)))) := Lib.hid (by
              intro h; rw [hxp.out]; unfold expo; rw [hdr, if_pos ⟨hpe.out, h⟩])
            have hf0 : Hid (dn (s.data.toList.drop (p + f + 1 + sig (s.data.toList.drop p) (f + 1))) = 0 → every (s.data.toList.drop p) = f) := Lib.hid (by
              intro h; rw [hxp.out]; unfold expo; rw [hdr, if_neg (fun x => x.2 h)])
            clear hdr
            generalize hT : sig (s.data.toList.drop p) (f + 1) = t at *
            clear hT
            go_upto_if 88 with (fail)
            go_cut [8] (fun v wx => v = .int .i64 ((p : Int) + (f : Int) + 1 + (t : Int)) ∧ w = wx)
            case first =>
              cases hd : isS t with
              | true =>
                have HT : Hid (t = 1) := Lib.hid (of_decide_eq_true hd)
                clear hd
                go_wp2
                go_meet
                exact ⟨by rw [HT.out]; go_num, rfl⟩
              | false =>
                have HT : Hid (t = 0) := Lib.hid (by have : ¬ t = 1 := of_decide_eq_false hd; omega)
                clear hd
                go_wp2
                go_meet
                exact ⟨by rw [HT.out]; go_num, rfl⟩
            case rest =>
            obtain ⟨rfl, rfl⟩ := hcut
            go_wp2_with fail
            refine (digitsI s (p + f + 1 + t) _ _ hs (by omega) hsl).mono ?_
            rintro e w' ⟨rfl, rfl⟩
            generalize dn (s.data.toList.drop (p + f + 1 + t)) = m at *
            by_cases hm : m = 0
            · have hN := Lib.hid (hf0.out hm)
              have g1 : ¬ ((p : Int) + (f : Int) + 1 + (t : Int)) < ((p : Int) + (f : Int) + 1 + (t : Int) + (m : Int)) := by omega
              clear hf0 hf1 hm
              go_wp2
              go_meet
              exact ⟨by rw [hN.out], by rw [hN.out], rfl⟩
            · have hN := Lib.hid (hf1.out hm)
              have g1 : ((p : Int) + (f : Int) + 1 + (t : Int)) < ((p : Int) + (f : Int) + 1 + (t : Int) + (m : Int)) := by omega
              clear hf0 hf1
              go_wp2
              go_meet
              exact ⟨by rw [hN.out]; go_num, by rw [hN.out]; simp; omega, rfl⟩
          | false =>
            have hE : ¬ (bt (s.data.toList.drop p) f = 101 ∨ bt (s.data.toList.drop p) f = 69) := of_decide_eq_false hd
            have hN := Lib.hid (hE0.out hE)
            clear hE hE0 hlE hd
            go_wp2
            go_meet
            exact ⟨by rw [hN.out], by rw [hN.out], rfl⟩
        case rest =>
          obtain ⟨rfl, rfl, rfl⟩ := hcut
          go_wp2
          go_ret3
          exact ⟨by rw [hsc.out]; rfl, rfl⟩

end Go.Proofs.YtjcaffpmcgfhaaaDoor.intsA
