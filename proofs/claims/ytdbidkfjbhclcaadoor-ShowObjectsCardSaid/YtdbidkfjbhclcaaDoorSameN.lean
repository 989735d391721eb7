/-
  Contract of haversackref04.Same: values are the same just if they are one tree.
-/
import Derived.Test.YtdbidkfjbhclcaaDoorSameTexts
import Derived.StillTailTactics
namespace Go.Proofs.YtdbidkfjbhclcaaDoor.sameN
open Go.ChangeShapes Go.WideShapes Go.ChangeAt Go.RowKit nodeP nodeQ nodeA sameTexts
set_option linter.unusedSimpArgs false
set_option linter.unusedVariables false

noncomputable def same (x y : Nd) : Bool := @decide (x = y) (Classical.propDecidable _)
theorem same_yes {x y : Nd} (h : x = y) : same x y = true := by unfold same; simp [h]
theorem same_no {x y : Nd} (h : x ≠ y) : same x y = false := by unfold same; simp [h]
theorem kid_eq {cs cs' : List Nd} (hl : cs.length = cs'.length) (h : ∀ i (h1 : i < cs.length) (h2 : i < cs'.length), cs[i] = cs'[i]) : cs = cs' := List.ext_getElem hl h

set_option maxHeartbeats 4000000 in
set_option maxRecDepth 100000 in
theorem rsame_any : ∀ (x : Nd) (y : Nd) (l m : List Value) (w : World), NodeAt w w.heap.size x l → NodeAt w w.heap.size y m →
    Calls Tryd.prog 14 #[.agg l.toArray, .agg m.toArray] w fun e w' => e = .returned (.bool (same x y)) ∧ Below w.heap.size w w' := by
  intro x
  induction x using Nd.ind with
  | _ k n t ks cs ih =>
  intro y l m w hx hy
  cases y with
  | mk k' n' t' ks' cs' =>
  have HXX := Lib.hid hx
  have HYY := Lib.hid hy
  obtain ⟨kv, cv, rfl, _, _, htm, hkv, hcv⟩ := hx.open
  obtain ⟨kv', cv', rfl, _, _, htm', hkv', hcv'⟩ := hy.open
  have HKV := Lib.hid hkv
  have HKV' := Lib.hid hkv'
  obtain ⟨ak, ck, bk, ok, rfl, _⟩ := hkv
  obtain ⟨ak', ck', bk', ok', rfl, _⟩ := hkv'
  obtain ⟨ao, cap, b, off, ls, rfl, hm, ha, hc, hn⟩ := hcv
  obtain ⟨ao', cap', b', off', ls', rfl, hm', ha', hc', hn'⟩ := hcv'
  have HX := Lib.hid ih
  have HC := Lib.hid hc
  have HN := Lib.hid hn
  have HA := Lib.hid ha
  have HC' := Lib.hid hc'
  have HN' := Lib.hid hn'
  have HA' := Lib.hid ha'
  have hmI : (cs.length : Int) ≤ 9223372036854775807 := by unfold maxLen at hm; omega
  have hsb1 : Below w.heap.size w (w.alloc (.cells #[.int .i64 k, .int .i64 n, .string t, .slice ak ks.length ck, .slice ao cs.length cap] 26)) := (Below.refl _ _).alloc (Nat.le_refl _) _
  have hsb : Below w.heap.size w ((w.alloc (.cells #[.int .i64 k, .int .i64 n, .string t, .slice ak ks.length ck, .slice ao cs.length cap] 26)).alloc (.cells #[.int .i64 k', .int .i64 n', .string t', .slice ak' ks'.length ck', .slice ao' cs'.length cap'] 26)) := hsb1.alloc (by simp) _
  have HSB := Lib.hid hsb
  have HTK := Lib.hid (texts_any ((w.alloc (.cells #[.int .i64 k, .int .i64 n, .string t, .slice ak ks.length ck, .slice ao cs.length cap] 26)).alloc (.cells #[.int .i64 k', .int .i64 n', .string t', .slice ak' ks'.length ck', .slice ao' cs'.length cap'] 26)) _ _ _ _ ks ks' (HKV.out.keep hsb) (HKV'.out.keep hsb))
  have hsz : ((w.alloc (.cells #[.int .i64 k, .int .i64 n, .string t, .slice ak ks.length ck, .slice ao cs.length cap] 26)).alloc (.cells #[.int .i64 k', .int .i64 n', .string t', .slice ak' ks'.length ck', .slice ao' cs'.length cap'] 26)).heap.size = w.heap.size + 2 := by simp
  have HSZ := Lib.hid hsz
  have e4 : ((w.alloc (.cells #[.int .i64 k, .int .i64 n, .string t, .slice ak ks.length ck, .slice ao cs.length cap] 26)).alloc (.cells #[.int .i64 k', .int .i64 n', .string t', .slice ak' ks'.length ck', .slice ao' cs'.length cap'] 26)).cell? ⟨w.heap.size, 4, none⟩ = some (.slice ao cs.length cap) := by simp
  have e4' : ((w.alloc (.cells #[.int .i64 k, .int .i64 n, .string t, .slice ak ks.length ck, .slice ao cs.length cap] 26)).alloc (.cells #[.int .i64 k', .int .i64 n', .string t', .slice ak' ks'.length ck', .slice ao' cs'.length cap'] 26)).cell? ⟨w.heap.size + 1, 4, none⟩ = some (.slice ao' cs'.length cap') := by simp
  have HE4 := Lib.hid e4
  have HE4' := Lib.hid e4'
  clear hc hn ih hx ha hm hy hc' hn' ha' hm' htm htm' hsb1 hsb hsz e4 e4'
  by_cases hk : k = k'
  case neg =>
    have HS := Lib.hid (same_no (x := .mk k n t ks cs) (y := .mk k' n' t' ks' cs') (fun e => hk (by injection e)))
    have q : (k != k') = true := by simpa using hk
    clear hk
    go_enter Tryd.func14, Tryd.ntmps14
    go_wp2
    go_ret
    exact ⟨by rw [HS.out]; rfl, HSB.out⟩
  subst hk
  by_cases hn0 : n = n'
  case neg =>
    have HS := Lib.hid (same_no (x := .mk k n t ks cs) (y := .mk k n' t' ks' cs') (fun e => hn0 (by injection e)))
    have q : (n != n') = true := by simpa using hn0
    clear hn0
    go_enter Tryd.func14, Tryd.ntmps14
    go_wp2
    go_ret
    exact ⟨by rw [HS.out]; rfl, HSB.out⟩
  subst hn0
  by_cases ht0 : t = t'
  case neg =>
    have HS := Lib.hid (same_no (x := .mk k n t ks cs) (y := .mk k n t' ks' cs') (fun e => ht0 (by injection e)))
    have q : (t.toList == t'.toList) = false := by
      rw [beq_eq_false_iff_ne]; intro h; apply ht0; rw [Go.ByteArray.toList_eq, Go.ByteArray.toList_eq] at h
      exact ByteArray.ext (by simpa using congrArg List.toArray h)
    clear ht0
    go_enter Tryd.func14, Tryd.ntmps14
    go_wp2
    go_ret
    exact ⟨by rw [HS.out]; rfl, HSB.out⟩
  subst ht0
  by_cases hks : ks = ks'
  case neg =>
    have HS := Lib.hid (same_no (x := .mk k n t ks cs) (y := .mk k n t ks' cs') (fun e => hks (by injection e)))
    rw [decide_eq_false hks] at HTK
    clear hks
    go_enter Tryd.func14, Tryd.ntmps14
    go_wp2_with fail
    refine HTK.out.mono ?_
    rintro e w2 ⟨rfl, nq, hw2⟩
    have HB2 : Hid (Below w.heap.size w w2) := Lib.hid (by rw [hw2]; exact HSB.out.trans (Go.Joins.below_draws _ _ _))
    clear hw2
    go_wp2
    go_ret
    exact ⟨by rw [HS.out]; rfl, HB2.out⟩
  subst hks
  rw [decide_eq_true rfl] at HTK
  by_cases hl : cs.length = cs'.length
  case neg =>
    have HS := Lib.hid (same_no (x := .mk k n t ks cs) (y := .mk k n t ks cs') (fun e => hl (by injection e with _ _ _ _ e; rw [e])))
    have q : ((cs.length : Int) != (cs'.length : Int)) = true := by simp; omega
    clear hl
    go_enter Tryd.func14, Tryd.ntmps14
    go_wp2_with fail
    refine HTK.out.mono ?_
    rintro e w2 ⟨rfl, nq, hw2⟩
    have hbd := Go.Joins.below_draws (w.heap.size + 2) ((w.alloc (.cells #[.int .i64 k, .int .i64 n, .string t, .slice ak ks.length ck, .slice ao cs.length cap] 26)).alloc (.cells #[.int .i64 k, .int .i64 n, .string t, .slice ak' ks.length ck', .slice ao' cs'.length cap'] 26)) nq
    rw [← hw2] at hbd
    have f4 := (hbd.cell (p := ⟨w.heap.size, 4, none⟩) (by show w.heap.size < w.heap.size + 2; omega)).trans HE4.out
    have f4' := (hbd.cell (p := ⟨w.heap.size + 1, 4, none⟩) (by show w.heap.size + 1 < w.heap.size + 2; omega)).trans HE4'.out
    have HB2 : Hid (Below w.heap.size w w2) := Lib.hid (HSB.out.trans (hbd.mono (by omega)))
    clear hw2 hbd
    go_wp2
    go_ret
    exact ⟨by rw [HS.out]; rfl, HB2.out⟩
  have q : ((cs.length : Int) != (cs'.length : Int)) = false := by simp [hl]
  have HL := Lib.hid hl
  clear hl
  go_enter Tryd.func14, Tryd.ntmps14
  go_wp2_with fail
  refine HTK.out.mono ?_
  rintro e w2 ⟨rfl, nq, hw2⟩
  have hbd := Go.Joins.below_draws (w.heap.size + 2) ((w.alloc (.cells #[.int .i64 k, .int .i64 n, .string t, .slice ak ks.length ck, .slice ao cs.length cap] 26)).alloc (.cells #[.int .i64 k, .int .i64 n, .string t, .slice ak' ks.length ck', .slice ao' cs'.length cap'] 26)) nq
  rw [← hw2] at hbd
  have f4 := (hbd.cell (p := ⟨w.heap.size, 4, none⟩) (by show w.heap.size < w.heap.size + 2; omega)).trans HE4.out
  have f4' := (hbd.cell (p := ⟨w.heap.size + 1, 4, none⟩) (by show w.heap.size + 1 < w.heap.size + 2; omega)).trans HE4'.out
  have HB2 : Hid (Below w.heap.size w w2) := Lib.hid (HSB.out.trans (hbd.mono (by omega)))
  have hs2 : w.heap.size + 2 ≤ w2.heap.size := by have h1 := hbd.size; have h2 := HSZ.out; rw [h2] at h1; exact h1
  have HF4 := Lib.hid f4
  have HF4' := Lib.hid f4'
  clear hw2 hbd
  go_wp2
  clear f4 f4'
  go_loopw [5, 45] (fun _ i wr => ∃ (m : Nat), m ≤ cs.length ∧ i = .int .i64 m ∧ Below w2.heap.size w2 wr ∧ Hid (∀ j (h1 : j < cs.length) (h2 : j < cs'.length), j < m → cs[j] = cs'[j])) (fun _ i _ => cs.length - (intOf i).toNat)
  case atStart => exact ⟨0, Nat.zero_le _, rfl, Below.refl _ _, Lib.hid (fun j _ _ h => absurd h (Nat.not_lt_zero _))⟩
  case round =>
    obtain ⟨m, hm1, rfl, hb, hall⟩ := hrel
    have HB := Lib.hid (HB2.out.trans (hb.mono (by omega)))
    have HB3 := Lib.hid hb
    have g4 := (hb.cell (p := ⟨w.heap.size, 4, none⟩) (by show w.heap.size < w2.heap.size; omega)).trans HF4.out
    have g4' := (hb.cell (p := ⟨w.heap.size + 1, 4, none⟩) (by show w.heap.size + 1 < w2.heap.size; omega)).trans HF4'.out
    clear hb
    by_cases hlt : m < cs.length
    · have hlt' : m < cs'.length := by have := HL.out; omega
      obtain ⟨rfl, hbs⟩ := HA.out (by intro h0; rw [h0] at hlt; simp at hlt)
      obtain ⟨rfl, hbs'⟩ := HA'.out (by intro h0; rw [h0] at hlt'; simp at hlt')
      obtain ⟨k1, n1, t1, ak1, lk1, ck1, ac1, lc1, cc1, hkid, q0, q1, q2, q3, q4⟩ := kid_at HC.out HN.out hlt hbs HB.out
      obtain ⟨k2, n2, t2, ak2, lk2, ck2, ac2, lc2, cc2, hkid', r0, r1, r2, r3, r4⟩ := kid_at HC'.out HN'.out hlt' hbs' HB.out
      have HK := Lib.hid (stays hkid HB.out)
      have HK' := Lib.hid (stays hkid' HB.out)
      have HD := Lib.hid (HX.out cs[m] (List.getElem_mem hlt) cs'[m])
      have hI1 : (m : Int) < (cs.length : Int) := by omega
      have hI2 : (m : Int) < (cs'.length : Int) := by omega
      have hI0 : (0 : Int) ≤ (m : Int) := by omega
      clear hkid hkid'
      go_wp2
      go_still_tail 10, (by kernel_rfl)
      change wpList _ _ _ _ _ wr.drew
      go_wp2_with fail
      have HBd : Hid (Below w.heap.size w wr.drew) := Lib.hid (HB.out.trans (Go.Joins.below_draws _ _ 1))
      have HB3d : Hid (Below w2.heap.size w2 wr.drew) := Lib.hid (HB3.out.trans (Go.Joins.below_draws _ _ 1))
      refine (HD.out _ _ wr.drew (stays HK.out (Go.Joins.below_draws _ _ 1)) (stays HK'.out (Go.Joins.below_draws _ _ 1))).mono ?_
      rintro e w5 ⟨he, hb5⟩
      have hsd := HB3d.out.size
      have HB5 : Hid (Below w.heap.size w w5) := Lib.hid (HBd.out.trans (hb5.mono (by omega)))
      have HB35 : Hid (Below w2.heap.size w2 w5) := Lib.hid (HB3d.out.trans (hb5.mono hsd))
      clear hb5 q0 q1 q2 q3 q4 r0 r1 r2 r3 r4 g4 g4' hsd
      by_cases hxy : cs[m] = cs'[m]
      · rw [same_yes hxy] at he
        subst he
        have HN2 : Hid (∀ j (h1 : j < cs.length) (h2 : j < cs'.length), j < m + 1 → cs[j] = cs'[j]) := Lib.hid (fun j h1 h2 h3 => by
          by_cases e : j = m
          · subst e; exact hxy
          · exact hall.out j h1 h2 (by omega))
        clear hxy
        go_wp2
        go_roundw
        case rel => exact ⟨m + 1, by omega, by go_num, HB35.out, HN2⟩
        case measure => simp [intOf]; omega
      · rw [same_no hxy] at he
        subst he
        have HS := Lib.hid (same_no (x := .mk k n t ks cs) (y := .mk k n t ks cs') (fun e => hxy (by injection e with _ _ _ _ e; subst e; rfl)))
        clear hxy
        go_wp2
        go_ret
        exact ⟨by rw [HS.out]; rfl, HB5.out⟩
    · have hem : m = cs.length := by omega
      have HS := Lib.hid (same_yes (x := .mk k n t ks cs) (y := .mk k n t ks cs') (by rw [kid_eq HL.out (fun i h1 h2 => hall.out i h1 h2 (by omega))]))
      subst hem
      go_wp2
      go_ret
      exact ⟨by rw [HS.out]; rfl, HB.out⟩
end Go.Proofs.YtdbidkfjbhclcaaDoor.sameN
