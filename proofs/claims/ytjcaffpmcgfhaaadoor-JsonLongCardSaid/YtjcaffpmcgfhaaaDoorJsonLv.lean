/-
  The law JsonLong: the plain law, then the branch of the ones, then that of the bytes.
-/
import Derived.Test.YtjcaffpmcgfhaaaDoorJsonV
import Derived.Test.YtjcaffpmcgfhaaaDoorCountQ
import Derived.Test.YtjcaffpmcgfhaaaDoorOwnB
namespace Go.Proofs.YtjcaffpmcgfhaaaDoor.jsonLo
open Go.ChangeShapes Go.WideShapes Go.ChangeAt Go.RowKit Go.WideMaps Go.Maps nodeP nodeQ nodeS ownI jsonP jsonM jsonA jsonB errs errIs runesE quoteB jsonF jsonI jsonL jsonQ jsonR jsonS jsonT jsonU
set_option linter.unusedSimpArgs false
set_option linter.unusedVariables false

def five : Nd := .mk 4 5 ByteArray.empty [] []
def one1 : Nd := .mk 4 1 ByteArray.empty [] []
theorem five_tx : tx five = [53] := by
  unfold five
  simp only [tx]
  rw [if_neg (by decide), if_neg (by decide), if_neg (by decide), if_pos trivial]; decide +kernel
theorem one_tx : tx one1 = [49] := by
  unfold one1
  simp only [tx]
  rw [if_neg (by decide), if_neg (by decide), if_neg (by decide), if_pos trivial]; decide +kernel
theorem fit_five : Fit five := .mk _ _ _ _ _ (by unfold In64; omega) (fun c hc => by cases hc)
theorem fit_one : Fit one1 := .mk _ _ _ _ _ (by unfold In64; omega) (fun c hc => by cases hc)
theorem bs_rep (n : Nat) : bs (List.replicate n 32) = [] := by
  induction n with
  | zero => rfl
  | succ n ih =>
    have e : List.replicate (n + 1) (32 : UInt8) = [32] ++ List.replicate n 32 := rfl
    rw [e, bs_app0 rfl]; exact ih
theorem five_out (n : Nat) : pOut (53 :: List.replicate n 32) = if 100000 < n + 1 then (word 0, 3) else (five, 0) := by
  unfold pOut
  rw [List.length_cons, List.length_replicate]
  by_cases h : 100000 < n + 1
  · rw [if_pos h, if_pos h]
  rw [if_neg h, if_neg h]
  have e : (53 : UInt8) :: List.replicate n 32 = [] ++ [53] ++ List.replicate n 32 := rfl
  rw [e, parse_bl [] _ _ rfl (bs_rep n), ← five_tx, parse_tx fit_five rfl (by decide)]

/-- so many ones, with "," between -/
def on (k : Nat) : List UInt8 := txs true (List.replicate k one1)
def onF (k : Nat) : List UInt8 := txs false (List.replicate k one1)
theorem onF_succ (k : Nat) : onF (k + 1) = 44 :: 49 :: onF k := by
  unfold onF
  rw [List.replicate_succ]
  simp only [txs, sep, one_tx]; rfl
theorem on_succ (k : Nat) : on (k + 1) = 49 :: onF k := by
  unfold on onF
  rw [List.replicate_succ]
  simp only [txs, sep, one_tx]; rfl
theorem onF_snoc (k : Nat) : onF (k + 1) = onF k ++ [44, 49] := by
  induction k with
  | zero => rw [onF_succ]; rfl
  | succ k ih =>
    rw [onF_succ (k + 1)]
    conv => lhs; rw [ih]
    rw [onF_succ k]; rfl
theorem on_snoc (k : Nat) : on (k + 1) = (if k = 0 then [] else on k ++ [44]) ++ [49] := by
  cases k with
  | zero => rw [on_succ]; rfl
  | succ k => rw [on_succ, onF_snoc, if_neg (by omega), on_succ]; simp
theorem onF_len (k : Nat) : (onF k).length = 2 * k := by
  induction k with
  | zero => rfl
  | succ k ih => rw [onF_succ, List.length_cons, List.length_cons, ih]; omega
theorem on_len (k : Nat) : (on k).length ≤ 2 * k := by
  cases k with
  | zero => exact Nat.le_refl _
  | succ k => rw [on_succ, List.length_cons, onF_len]; omega
def arr (k : Nat) : Nd := .mk 6 0 ByteArray.empty [] (List.replicate k one1)
theorem arr_tx (k : Nat) : tx (arr k) = 91 :: (on k ++ [93]) := by
  unfold arr on
  simp only [tx]
  rw [if_neg (by decide), if_neg (by decide), if_neg (by decide), if_neg (by decide), if_neg (by decide), if_pos trivial]
theorem cnt_rep (k : Nat) : counts (List.replicate k one1) = k := by
  induction k with
  | zero => rfl
  | succ k ih =>
    rw [List.replicate_succ]
    simp only [counts, ih]
    have : count one1 = 1 := rfl
    omega
theorem arr_count (k : Nat) : count (arr k) = k + 1 := by
  unfold arr
  simp only [count, cnt_rep]; omega
theorem oks_rep (k : Nat) : oks (List.replicate k one1) 1 = true := by
  induction k with
  | zero => rfl
  | succ k ih =>
    rw [List.replicate_succ]
    simp only [oks, ih]
    rfl
theorem arr_ok (k : Nat) : okAt (arr k) 0 = true := by
  unfold arr
  simp only [okAt, one, rk, Nat.zero_add, oks_rep]; rfl
theorem arr_fit (k : Nat) : Fit (arr k) := .mk _ _ _ _ _ (by unfold In64; omega) (fun c hc => by rw [List.eq_of_mem_replicate hc]; exact fit_one)
/-- too many -/
theorem too_many (k : Nat) : ∀ (n : Nat) (l : List Nd) (t : List UInt8), n ≤ 20000 → 20000 < n + (k + 1) → rr 0 n (on (k + 1) ++ t) ⟨false, [], l⟩ = .err 3 := by
  induction k with
  | zero =>
    intro n l t h1 h2
    obtain rfl : n = 20000 := by omega
    have hb : bs (on 1 ++ t) = 49 :: t := by rw [on_succ]; rfl
    rw [rr_eq, if_neg (by simp), rv_eq, hb, if_neg (by simp), if_pos rfl]
  | succ k ih =>
    intro n l t h1 h2
    have e : on (k + 1 + 1) ++ t = 49 :: 44 :: (on (k + 1) ++ t) := by rw [on_succ, onF_succ, on_succ]; rfl
    have hb : bs (49 :: 44 :: (on (k + 1) ++ t)) = 49 :: 44 :: (on (k + 1) ++ t) := rfl
    rw [rr_eq, if_neg (by simp), e]
    by_cases hn : n = 20000
    · subst hn
      rw [rv_eq, hb, if_neg (by simp), if_pos rfl]
    have h9 : rv (0 + 1) n (49 :: 44 :: (on (k + 1) ++ t)) = .ok one1 (44 :: (on (k + 1) ++ t)) (n + 1) := by
      have := rds_int 1 (by unfold In64; omega) 1 n (44 :: (on (k + 1) ++ t)) (by omega) (gH_44 _)
      rw [jsonV.one_itoa] at this; exact this
    rw [h9]
    dsimp only
    have hb2 : bs (44 :: (on (k + 1) ++ t)) = 44 :: (on (k + 1) ++ t) := rfl
    have hh : hd (44 :: (on (k + 1) ++ t)) = 44 := rfl
    unfold rt
    rw [hb2, if_neg (by simp), hh, if_neg (by show ¬ (44 : Nat) = 93; decide), if_pos rfl, List.tail_cons]
    exact ih (n + 1) _ t (by omega) (by omega)
theorem ones_out (k : Nat) (hk : k ≤ 30000) : pOut (91 :: (on k ++ [93])) = if k + 1 ≤ 20000 then (arr k, 0) else (word 0, 3) := by
  have hl := on_len k
  unfold pOut
  rw [if_neg (by simp only [List.length_append, List.length_cons, List.length_nil]; omega)]
  by_cases h : k + 1 ≤ 20000
  · rw [if_pos h, ← arr_tx, parse_tx (arr_fit k) (arr_ok k) (by rw [arr_count]; exact h)]
  rw [if_neg h]
  obtain ⟨j, rfl⟩ : ∃ j, k = j + 1 := ⟨k - 1, by omega⟩
  have hb : bs (91 :: (on (j + 1) ++ [93])) = 91 :: (on (j + 1) ++ [93]) := rfl
  have hh : hd (91 :: (on (j + 1) ++ [93])) = 91 := rfl
  have hb2 : bs (on (j + 1) ++ [93]) = on (j + 1) ++ [93] := by rw [on_succ]; rfl
  have hh2 : hd (on (j + 1) ++ [93]) = 49 := by rw [on_succ]; rfl
  unfold parseJ
  rw [rv_eq, hb, hh, if_neg (by simp), if_neg (by omega), if_pos (.inl rfl), if_neg (by omega), List.tail_cons, hb2, hh2, if_neg (fun h => absurd h.2 (by show ¬ (49 : Nat) = 93; decide))]
  have := too_many j 1 [] [93] (by omega) (by omega)
  have e : rr 0 (0 + 1) (on (j + 1) ++ [93]) ⟨decide ((91 : Nat) = 123), [], []⟩ = .err 3 := this
  rw [e]
end Go.Proofs.YtjcaffpmcgfhaaaDoor.jsonLo

namespace Go.Proofs.YtjcaffpmcgfhaaaDoor.jsonLw
open Go.ChangeShapes Go.WideShapes Go.ChangeAt Go.RowKit Go.WideMaps Go.Maps nodeP nodeQ nodeS ownI jsonP jsonM jsonA jsonB errs errIs runesE quoteB jsonF jsonI jsonL jsonQ jsonR jsonS jsonT jsonU jsonLo ownB
set_option linter.unusedSimpArgs false
set_option linter.unusedVariables false

theorem u_rem9 (z : Int) : ∃ (U : Int) (dd : Nat), dd < 9 ∧ (∀ w, (convert 3 23 (.int .i64 z)).run Tryd.prog w = .ok (.int .u64 U) w) ∧ U.tmod 9 = (dd : Int) := by
  have h0 : 0 ≤ IntKind.u64.wrap z := by
    unfold IntKind.wrap
    simp [IntKind.signed, IntKind.bits]
    omega
  refine ⟨IntKind.u64.wrap z, ((IntKind.u64.wrap z).tmod 9).toNat, ?_, fun w => by kernel_rfl, ?_⟩
  · rw [Int.tmod_eq_emod_of_nonneg h0]; omega
  · rw [Int.tmod_eq_emod_of_nonneg h0]; omega

set_option maxRecDepth 100000 in
set_option maxHeartbeats 8000000 in
theorem lw_ones (z : Int) (w : World) (ad : Nat → Addr) (hT : Tabs w) (hE : Errs w ad) (hR : intsC.Rng w) :
    Calls Tryd.prog 3 #[.int .i64 z, .bool false] w fun e w' => e = .returned (.bool true) ∧ Below w.heap.size w w' := by
  have HA := Lib.hid (jsonV.alive w ad hT hE hR)
  have HT := Lib.hid hT
  have HE := Lib.hid hE
  have HR := Lib.hid hR
  obtain ⟨i0, hi, hz0, hz1, hz2⟩ := info_parts infoB
  obtain ⟨U, dd, hdd, hcv, hrm⟩ := u_rem9 z
  have hddI : (dd : Int) ≤ 8 := by omega
  clear hT hE hR
  go_enter Tryd.func3, Tryd.ntmps3
  go_wp2_with fail
  refine HA.out.mono ?_
  rintro e w0 ⟨rfl, hb0⟩
  have HB0 := Lib.hid hb0
  have hsz0 := hb0.size
  clear hb0
  go_wp2_with (at_make; refine wpList_make_own _ rfl _ _ 24 rfl w.heap.size 5 i0 (.int .u8 0) 1 Tryd.underlying24 hi hz0 hz1 .i64 .i64 _ 40020 rfl rfl rfl ?c1 ?c2 ?c3 ?_)
  case c1 => rw [hz2]; omega
  case c2 => unfold maxLen; omega
  case c3 => omega
  intro w1 hown1 hgr1
  have HB1 := Lib.hid (HB0.out.grown hgr1 hsz0 (by intro k hk; cases hk))
  have hsz1 := HB1.out.size
  have HO1 : Hid (OwnB w1 w.heap.size (.slice (some ⟨w0.heap.size, 0, none⟩) 0 40020) []) := Lib.hid hown1
  clear hown1 hgr1
  have hM1 : -4 ≤ (dd : Int) - 4 := by omega
  have hM2 : (dd : Int) - 4 ≤ 4 := by omega
  generalize (dd : Int) - 4 = M at *
  clear hrm hcv hdd hddI
  obtain ⟨n, hn⟩ : ∃ n : Nat, (n : Int) = 20000 + M - 1 := ⟨(20000 + M - 1).toNat, by omega⟩
  go_wp2_with (at_builtin; refine wpList_append_own _ rfl _ _ 24 rfl w.heap.size 5 i0 (.int .u8 0) 1 1 Tryd.underlying24 hi hz0 hz1 hz2 rfl (by decide) _ _ _ rfl (World.ownsRow.alloc HO1.out _) ⟨w1.heap.size, 0, none⟩ 1 1 [.int .u8 91] rfl rfl ?c1 ?c2 ?c3 ?c4 ?c5 ?_)
  case c1 => exact cell_one_new _ _ _
  case c2 => intro u hu; simp at hu; subst hu; rfl
  case c3 => unfold maxLen; simp
  case c4 => simp
  case c5 => simp; omega
  intro v2 w2 hown2 hgr2 _
  have HO2 : Hid (OwnB w2 w.heap.size v2 [91]) := Lib.hid (ownB_snoc (l := []) (n := 91) hown2)
  have HB2 := Lib.hid ((HB1.out.alloc hsz1 _).grown hgr2 (by simp; omega) (ownB_lt HO1.out))
  clear hown2 hgr2
  go_wp2
  rw [← hn]
  have HN := Lib.hid hn
  clear hn
  go_loopw [9, 10, 60] (fun v _ i wr => ∃ (k : Nat), k ≤ n ∧ i = .int .i64 k ∧ OwnB wr w.heap.size v (91 :: on k) ∧ Below w.heap.size w wr) (fun _ _ i _ => n - (intOf i).toNat)
  case atStart => exact ⟨0, Nat.zero_le _, rfl, HO2.out, HB2.out⟩
  case round =>
    obtain ⟨k, hk, rfl, hown, hb⟩ := hrel
    have hsz := hb.size
    have HO := Lib.hid hown
    have HB := Lib.hid hb
    have HL := Lib.hid (ownB_lt hown)
    have HLn : Hid (((91 :: on k).length : Int) ≤ 50000) := Lib.hid (by
      have h1 := on_len k
      have h2 := HN.out
      rw [List.length_cons]; omega)
    have HS : Hid (91 :: on (k + 1) = (if k = 0 then 91 :: on k else (91 :: on k) ++ [44]) ++ [49]) := Lib.hid (by
      rw [on_snoc]
      by_cases h0 : k = 0
      · subst h0; rfl
      · rw [if_neg h0, if_neg h0]; rfl)
    have hnI : (n : Int) ≤ 30000 := by have := HN.out; omega
    by_cases hlt : k < n
    · clear hb hown
      have hltI : (k : Int) < n := by omega
      have HS' := HS.out
      by_cases h0 : k = 0
      · have h0I : ¬ (0 : Int) < (k : Int) := by omega
        rw [if_pos h0] at HS'
        have HS2 := Lib.hid HS'
        clear HS' HS
        clear h0
        generalize (91 :: on k) = L at *
        go_wp2_with (at_builtin; refine wpList_append_own _ rfl _ _ 24 rfl w.heap.size 5 i0 (.int .u8 0) 1 1 Tryd.underlying24 hi hz0 hz1 hz2 rfl (by decide) _ _ _ rfl (World.ownsRow.alloc HO.out _) ⟨wr.heap.size, 0, none⟩ 1 1 [.int .u8 49] rfl rfl ?p1 ?p2 ?p3 ?p4 ?p5 ?_)
        try (case p1 => exact cell_one_new _ _ _)
        case p2 => first | rfl | (intro u hu; simp at hu; subst hu; rfl)
        case p3 => have := HLn.out; unfold maxLen; first | omega | (simp; omega) | (simp at *; omega)
        case p4 => have := HLn.out; first | omega | (simp; omega) | (simp at *; omega)
        case p5 => first | omega | (simp; omega)
        intro v3 w3 hown3 hgr3 _
        have HO3 : Hid (OwnB w3 w.heap.size v3 (L ++ [49])) := Lib.hid (ownB_snoc (n := 49) hown3)
        have HB3 := Lib.hid ((HB.out.alloc hsz _).grown hgr3 (by simp; omega) HL.out)
        clear hown3 hgr3
        go_wp2
        go_roundw
        case rel => exact ⟨k + 1, by omega, by go_num, by rw [HS2.out]; exact HO3.out, HB3.out⟩
        case measure => simp [intOf]; omega
      · have h0I : (0 : Int) < (k : Int) := by omega
        have h0N : 0 < k := by omega
        have h0D : decide ((0 : Int) < (k : Int)) = true := decide_eq_true h0I
        rw [if_neg h0] at HS'
        have HS2 := Lib.hid HS'
        clear HS' HS
        clear h0
        generalize (91 :: on k) = L at *
        go_wp2_with (at_builtin; refine wpList_append_own _ rfl _ _ 24 rfl w.heap.size 5 i0 (.int .u8 0) 1 1 Tryd.underlying24 hi hz0 hz1 hz2 rfl (by decide) _ _ _ rfl (World.ownsRow.alloc HO.out _) ⟨wr.heap.size, 0, none⟩ 1 1 [.int .u8 44] rfl rfl ?q1 ?q2 ?q3 ?q4 ?q5 ?_)
        try (case q1 => exact cell_one_new _ _ _)
        case q2 => first | rfl | (intro u hu; simp at hu; subst hu; rfl)
        case q3 => have := HLn.out; unfold maxLen; first | omega | (simp; omega) | (simp at *; omega)
        case q4 => have := HLn.out; first | omega | (simp; omega) | (simp at *; omega)
        case q5 => first | omega | (simp; omega)
        intro v3 w3 hown3 hgr3 _
        have HO3 : Hid (OwnB w3 w.heap.size v3 (L ++ [44])) := Lib.hid (ownB_snoc (n := 44) hown3)
        have HB3 := Lib.hid ((HB.out.alloc hsz _).grown hgr3 (by simp; omega) HL.out)
        have hsz3 := HB3.out.size
        have HLn2 : Hid (((L ++ [44]).length : Int) ≤ 50001) := Lib.hid (by have := HLn.out; rw [List.length_append]; show ((L.length + 1 : Nat) : Int) ≤ 50001; omega)
        clear hown3 hgr3
        go_wp2_with (at_builtin; refine wpList_append_own _ rfl _ _ 24 rfl w.heap.size 5 i0 (.int .u8 0) 1 1 Tryd.underlying24 hi hz0 hz1 hz2 rfl (by decide) _ _ _ rfl (World.ownsRow.alloc HO3.out _) ⟨w3.heap.size, 0, none⟩ 1 1 [.int .u8 49] rfl rfl ?r1 ?r2 ?r3 ?r4 ?r5 ?_)
        try (case r1 => exact cell_one_new _ _ _)
        case r2 => first | rfl | (intro u hu; simp at hu; subst hu; rfl)
        case r3 => have := HLn2.out; unfold maxLen; first | omega | (simp; omega) | (simp at *; omega)
        case r4 => have := HLn2.out; first | omega | (simp; omega) | (simp at *; omega)
        case r5 => first | omega | (simp; omega)
        intro v4 w4 hown4 hgr4 _
        have HO4 : Hid (OwnB w4 w.heap.size v4 ((L ++ [44]) ++ [49])) := Lib.hid (by
          unfold OwnB
          have e1 : ((L ++ [44]) ++ [49]).length = L.length + 1 + 1 := by simp
          have e2 : ((L ++ [44]) ++ [49]).map bv = List.map bv L ++ [bv 44, Value.int .u8 49] := by simp [bv]
          rw [e1, e2]; exact hown4)
        have HB4 := Lib.hid ((HB3.out.alloc hsz3 _).grown hgr4 (by simp; omega) (ownB_lt HO3.out))
        clear hown4 hgr4
        go_wp2
        go_roundw
        case rel => exact ⟨k + 1, by omega, by go_num, by rw [HS2.out]; exact HO4.out, HB4.out⟩
        case measure => simp [intOf]; omega
    · obtain rfl : k = n := by omega
      have hstr := ownB_str hown
      have hsz' : ((⟨(91 :: on k).toArray⟩ : ByteArray).size : Int) ≤ 50000 := by
        have h := HLn.out
        show ((91 :: on k).toArray.size : Int) ≤ 50000
        rw [List.size_toArray]; exact h
      have hdt : ((⟨(91 :: on k).toArray⟩ : ByteArray) ++ ⟨#[93]⟩).data.toList = 91 :: (on k ++ [93]) := by simp [ByteArray.data_append]
      have hP := jsonL.parse_any ((⟨(91 :: on k).toArray⟩ : ByteArray) ++ ⟨#[93]⟩) wr ad (tabs_below HT.out HB.out) (HE.out.below HB.out) (intsC.rng_below HR.out HB.out) (by rw [ByteArray.size_append]; show ((_ + 1 : Nat) : Int) ≤ 1000000; omega)
      rw [hdt, ones_out k (by omega)] at hP
      have HP := Lib.hid hP
      have HNk := HN
      clear hP hdt hb hown HS
      generalize (⟨(91 :: on k).toArray⟩ : ByteArray) = T at *
      go_wp2_with fail
      refine HP.out.mono ?_
      rintro e w3 ⟨v, he, hB3, hX3⟩
      obtain ⟨k', m', t', b1, e1, g1', b2, e2, g2⟩ := v
      dsimp only at he
      have hba : Below w3.heap.size w3 (w3.alloc (.cells #[.int .i64 k', .int .i64 m', .string t', .slice b1 e1 g1', .slice b2 e2 g2] 28)) := (Below.refl _ _).alloc (Nat.le_refl _) _
      have HB4 := Lib.hid ((HB.out.trans (hB3.mono HB.out.size)).trans (hba.mono (Nat.le_trans HB.out.size hB3.size)))
      by_cases hM : 0 < M
      · have hc : ¬ k + 1 ≤ 20000 := by have := HNk.out; omega
        rw [if_neg hc, show intsC.errV ad (word 0, 3).2 = ev (ad 2) from rfl] at he
        subst he
        have HNM := Lib.hid (num_err _ ad (HE.out.below HB4.out) 2 (by decide))
        clear hX3 hB3 hba HP hc
        go_wp2_with fail
        refine HNM.out.mono ?_
        rintro e w5 ⟨rfl, hB5⟩
        have HB5 := Lib.hid (HB4.out.trans (hB5.mono HB4.out.size))
        clear hB5
        go_wp2
        go_ret
        exact ⟨rfl, HB5.out⟩
      · have hc : k + 1 ≤ 20000 := by have := HNk.out; omega
        rw [if_pos hc] at he hX3
        rw [show intsC.errV ad (arr k, 0).2 = .nilIface from rfl] at he
        subst he
        have hcn : ((count (arr k) : Nat) : Int) = 20000 + M := by rw [arr_count]; have := HNk.out; omega
        have hC := countQ.count_any (arr k) _ _ (nodeA.stays hX3 hba) (by rw [hcn]; omega)
        rw [hcn] at hC
        have HCn := Lib.hid hC
        have hnl := jsonV.neqlN
        have hMl : -4 ≤ M := hM1
        clear hC hX3 hB3 hba HP hc hcn HNk HN hk hnI hlt HLn hsz'
        go_wp2_with fail
        refine HCn.out.mono ?_
        rintro e w5 ⟨rfl, hB5⟩
        have HB5 := Lib.hid (HB4.out.trans (hB5.mono HB4.out.size))
        clear hB5
        go_wp2
        go_ret
        exact ⟨rfl, HB5.out⟩
end Go.Proofs.YtjcaffpmcgfhaaaDoor.jsonLw

namespace Go.Proofs.YtjcaffpmcgfhaaaDoor.jsonLv
open Go.ChangeShapes Go.WideShapes Go.ChangeAt Go.RowKit Go.WideMaps Go.Maps nodeP nodeQ nodeS ownI jsonP jsonM jsonA jsonB errs errIs runesE quoteB jsonF jsonI jsonL jsonQ jsonR jsonS jsonT jsonU jsonLo ownB jsonLw
set_option linter.unusedSimpArgs false
set_option linter.unusedVariables false

theorem made_b (n : Nat) : (madeCells #[Value.int .u8 0] n).toList = (List.replicate n (0 : UInt8)).map bv := by
  apply List.ext_getElem?
  intro j
  by_cases h : j < n
  · simp [madeCells, Value.cells, bv, h, Nat.mod_one]
  · simp [madeCells, h]

/-- so many blanks ahead, the others nought -/
def fil (n k : Nat) : List UInt8 := List.replicate k 32 ++ List.replicate (n - k) 0
theorem fil_len {n k : Nat} (h : k ≤ n) : (fil n k).length = n := by unfold fil; rw [List.length_append, List.length_replicate, List.length_replicate]; omega
theorem fil_set {n k : Nat} (h : k < n) : (fil n k).set k 32 = fil n (k + 1) := by
  unfold fil
  rw [List.set_append_right _ _ (by rw [List.length_replicate]; exact Nat.le_refl _), List.length_replicate, Nat.sub_self, show n - k = (n - (k + 1)) + 1 by omega, List.replicate_succ, List.set_cons_zero, List.replicate_succ' (n := k), List.append_assoc]; rfl
theorem fil_all (n : Nat) : (fil (n + 1) (n + 1)).set 0 53 = 53 :: List.replicate n 32 := by
  unfold fil
  rw [Nat.sub_self, List.replicate_succ]; simp

set_option maxRecDepth 100000 in
set_option maxHeartbeats 8000000 in
theorem lw_bytes (z : Int) (w : World) (ad : Nat → Addr) (hT : Tabs w) (hE : Errs w ad) (hR : intsC.Rng w) :
    Calls Tryd.prog 3 #[.int .i64 z, .bool true] w fun e w' => e = .returned (.bool true) ∧ Below w.heap.size w w' := by
  have HA := Lib.hid (jsonV.alive w ad hT hE hR)
  have HT := Lib.hid hT
  have HE := Lib.hid hE
  have HR := Lib.hid hR
  obtain ⟨i0, hi, hz0, hz1, hz2⟩ := info_parts infoB
  obtain ⟨U, dd, hdd, hcv, hrm⟩ := u_rem9 z
  have hddI : (dd : Int) ≤ 8 := by omega
  obtain ⟨n, hn⟩ : ∃ n : Nat, (n : Int) = 100000 + ((dd : Int) - 4) := ⟨(100000 + ((dd : Int) - 4)).toNat, by omega⟩
  have hn1 : (n : Int) ≤ 200000 := by omega
  have hn2 : (1 : Int) ≤ n := by omega
  have HN := Lib.hid hn
  clear hT hE hR hn
  go_enter Tryd.func3, Tryd.ntmps3
  go_wp2_with fail
  refine HA.out.mono ?_
  rintro e w0 ⟨rfl, hb0⟩
  have HB0 := Lib.hid hb0
  have hsz0 := hb0.size
  clear hb0
  go_wp2_with (at_make; refine wpList_make_full _ rfl _ _ 24 rfl w.heap.size 5 i0 (.int .u8 0) 1 Tryd.underlying24 hi hz0 hz1 .i64 .i64 _ _ n rfl rfl ?a1 ?a2 ?a3 ?a4 ?a5 ?_)
  case a1 => have := HN.out; omega
  case a2 => have := HN.out; omega
  case a3 => rw [hz2]; omega
  case a4 => unfold maxLen; omega
  case a5 => omega
  intro w1 hown1 hgr1
  have HB1 := Lib.hid (HB0.out.grown hgr1 hsz0 (by intro k hk; cases hk))
  have hsz1 := HB1.out.size
  rw [made_b] at hown1
  have HO1 : Hid (OwnB w1 w.heap.size (.slice (some ⟨w0.heap.size, 0, none⟩) n n) (fil n 0)) := Lib.hid (by
    unfold OwnB
    rw [fil_len (Nat.zero_le _)]
    exact hown1)
  clear hown1 hgr1
  go_wp2
  go_loopw [6, 26] (fun _ i wr => ∃ (k : Nat), k ≤ n ∧ i = .int .i64 k ∧ OwnB wr w.heap.size (.slice (some ⟨w0.heap.size, 0, none⟩) n n) (fil n k) ∧ Below w.heap.size w wr) (fun _ i _ => n - (intOf i).toNat)
  case atStart => exact ⟨0, Nat.zero_le _, rfl, HO1.out, HB1.out⟩
  case round =>
    obtain ⟨k, hk, rfl, hown, hb⟩ := hrel
    have HO := Lib.hid hown
    have HB := Lib.hid hb
    by_cases hlt : k < n
    · have hrow : wr.ownsRow w.heap.size 5 1 (.slice (some ⟨w0.heap.size, 0, none⟩) n n) n ((fil n k).map bv) := by
        have h0 := hown
        unfold OwnB at h0
        rwa [fil_len hk] at h0
      have hcl := World.ownsRow.cellAt (cap := n) hrow k (by omega)
      have zf := World.ownsRow.frozenAt hrow k
      have HNX : Hid (OwnB (wr.setCell ⟨w0.heap.size, k, none⟩ (.int .u8 32)) w.heap.size (.slice (some ⟨w0.heap.size, 0, none⟩) n n) (fil n (k + 1))) := Lib.hid (by
        have h1 := (World.ownsRow.stored hrow k (.int .u8 32)).1
        unfold OwnB
        rw [fil_len (by omega), ← fil_set hlt, List.map_set]
        exact h1)
      have HNB : Hid (Below w.heap.size w (wr.setCell ⟨w0.heap.size, k, none⟩ (.int .u8 32))) := Lib.hid (HB.out.setCell hsz0 _)
      rw [List.getElem?_map, List.getElem?_eq_getElem (by rw [fil_len hk]; exact hlt)] at hcl
      simp only [Option.map_some] at hcl
      generalize (fil n k)[k]'(by rw [fil_len hk]; exact hlt) = o at *
      have hlI : (k : Int) < n := by omega
      clear hown hb hrow
      go_wp2
      go_roundw
      case rel => exact ⟨k + 1, by omega, by go_num, HNX.out, HNB.out⟩
      case measure => simp [intOf]; omega
    · obtain rfl : k = n := by omega
      have hrow : wr.ownsRow w.heap.size 5 1 (.slice (some ⟨w0.heap.size, 0, none⟩) k k) k ((fil k k).map bv) := by
        have h0 := hown
        unfold OwnB at h0
        rwa [fil_len hk] at h0
      have hcl := World.ownsRow.cellAt (cap := k) hrow 0 (by omega)
      have zf := World.ownsRow.frozenAt hrow 0
      rw [List.getElem?_map, List.getElem?_eq_getElem (by rw [fil_len hk]; omega)] at hcl
      simp only [Option.map_some] at hcl
      have hLs : (fil k k).set 0 53 = 53 :: List.replicate (k - 1) 32 := by
        have h := fil_all (k - 1)
        rwa [show k - 1 + 1 = k by omega] at h
      have hlen : (53 :: List.replicate (k - 1) (32 : UInt8)).length = k := by rw [List.length_cons, List.length_replicate]; omega
      have HO2 : Hid (OwnB (wr.setCell ⟨w0.heap.size, 0, none⟩ (.int .u8 53)) w.heap.size (.slice (some ⟨w0.heap.size, 0, none⟩) k k) (53 :: List.replicate (k - 1) 32)) := Lib.hid (by
        have h1 := (World.ownsRow.stored hrow 0 (.int .u8 53)).1
        unfold OwnB
        rw [hlen, ← hLs, List.map_set]
        exact h1)
      have HB2 : Hid (Below w.heap.size w (wr.setCell ⟨w0.heap.size, 0, none⟩ (.int .u8 53))) := Lib.hid (HB.out.setCell hsz0 _)
      have hstr := ownB_str HO2.out
      have hP := jsonL.parse_any ⟨(53 :: List.replicate (k - 1) (32 : UInt8)).toArray⟩ (wr.setCell ⟨w0.heap.size, 0, none⟩ (.int .u8 53)) ad (tabs_below HT.out HB2.out) (HE.out.below HB2.out) (intsC.rng_below HR.out HB2.out) (by
        show (((53 :: List.replicate (k - 1) (32 : UInt8)).toArray.size : Nat) : Int) ≤ 1000000
        rw [List.size_toArray, hlen]; omega)
      rw [show (⟨(53 :: List.replicate (k - 1) (32 : UInt8)).toArray⟩ : ByteArray).data.toList = 53 :: List.replicate (k - 1) 32 by simp, five_out] at hP
      have HP := Lib.hid hP
      generalize (fil k k)[0]'(by rw [fil_len hk]; omega) = o at *
      clear hP hb hown hrow hLs hlen
      generalize (⟨(53 :: List.replicate (k - 1) (32 : UInt8)).toArray⟩ : ByteArray) = T at *
      clear HO2
      go_wp2_with fail
      refine HP.out.mono ?_
      rintro e w3 ⟨v, he, hB3, hX3⟩
      obtain ⟨k', m', t', b1, e1, g1', b2, e2, g2⟩ := v
      dsimp only at he
      have hba : Below w3.heap.size w3 (w3.alloc (.cells #[.int .i64 k', .int .i64 m', .string t', .slice b1 e1 g1', .slice b2 e2 g2] 28)) := (Below.refl _ _).alloc (Nat.le_refl _) _
      have HB4 := Lib.hid ((HB2.out.trans (hB3.mono HB2.out.size)).trans (hba.mono (Nat.le_trans HB2.out.size hB3.size)))
      by_cases hM : 0 < (dd : Int) - 4
      · have hc : 100000 < k - 1 + 1 := by have := HN.out; omega
        rw [if_pos hc, show intsC.errV ad (word 0, 3).2 = ev (ad 2) from rfl] at he
        subst he
        have HNM := Lib.hid (num_err _ ad (HE.out.below HB4.out) 2 (by decide))
        clear hX3 hB3 hba HP hc
        go_wp2_with fail
        refine HNM.out.mono ?_
        rintro e w5 ⟨rfl, hB5⟩
        have HB5 := Lib.hid (HB4.out.trans (hB5.mono HB4.out.size))
        clear hB5
        go_wp2
        go_ret
        exact ⟨rfl, HB5.out⟩
      · have hc : ¬ 100000 < k - 1 + 1 := by have := HN.out; omega
        rw [if_neg hc] at he hX3
        rw [show intsC.errV ad (jsonLo.five, 0).2 = .nilIface from rfl] at he
        have hm5 : m' = 5 := by
          obtain ⟨kv, cv, hl, _⟩ := NodeAt.open (k := 4) (n := 5) (t := ByteArray.empty) (ks := []) (cs := []) hX3
          simp [Nv.l] at hl
          exact hl.2.1
        subst hm5
        subst he
        have hnl := jsonV.neqlN
        clear hX3 hB3 hba HP hc
        go_wp2
        go_ret
        exact ⟨rfl, HB4.out⟩

theorem law_long (z : Int) (b : Bool) (w : World) (ad : Nat → Addr) (hT : Tabs w) (hE : Errs w ad) (hR : intsC.Rng w) :
    Calls Tryd.prog 3 #[.int .i64 z, .bool b] w fun e w' => e = .returned (.bool true) ∧ Below w.heap.size w w' := by
  cases b
  · exact lw_ones z w ad hT hE hR
  · exact lw_bytes z w ad hT hE hR
end Go.Proofs.YtjcaffpmcgfhaaaDoor.jsonLv

