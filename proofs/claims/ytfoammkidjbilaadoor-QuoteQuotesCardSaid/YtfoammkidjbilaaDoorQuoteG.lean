/-
  The laws QuotePieces and QuoteJoins return true.
-/
import Derived.Test.YtfoammkidjbilaaDoorQuoteC
import Derived.IntWalk
namespace Go.Proofs.YtfoammkidjbilaaDoor.quoteG
open Go.ChangeShapes Go.WideShapes Go.ChangeAt Go.RowKit utfP utfQ utfR runesA runesC runesD runesE quoteP quoteA quoteB quoteC errIs errs
open pointsA (PtsPost OwnI refPoints)

theorem ret_bool {a b : Bool} (h : a = b) : Ending.returned (.bool a) = .returned (.bool b) := by rw [h]
theorem prs_q {l : List UInt8} {x : List UInt8} (h : prs (34 :: l) = some x) : tk l = some (x, l.length) := by
  unfold prs stk at h
  rw [if_pos (show bt (34 :: l) 0 = 34 from rfl), List.tail_cons] at h
  cases ht : tk l with
  | none => rw [ht] at h; cases h
  | some q =>
    rw [ht] at h
    simp only [Option.map_some, List.length_cons] at h
    by_cases e : q.2 + 1 = l.length + 1
    · rw [if_pos e] at h
      have := Option.some.inj h
      rw [← this, show l.length = q.2 by omega]
    · rw [if_neg e] at h; cases h
theorem prs_mk {l : List UInt8} {x : List UInt8} (h : tk l = some (x, l.length)) : prs (34 :: l) = some x := by
  unfold prs stk
  rw [if_pos (show bt (34 :: l) 0 = 34 from rfl), List.tail_cons, h]
  simp

theorem q_list (A : ByteArray) : ((({ data := #[34] } : ByteArray) ++ A) ++ { data := #[34] }).data.toList = 34 :: (A.data.toList ++ [34]) := by simp [ByteArray.data_append]
theorem q_list2 (A B : ByteArray) : (((({ data := #[34] } : ByteArray) ++ A) ++ B) ++ { data := #[34] }).data.toList = 34 :: (A.data.toList ++ (B.data.toList ++ [34])) := by simp [ByteArray.data_append]
theorem q_size (A : ByteArray) : ((({ data := #[34] } : ByteArray) ++ A) ++ { data := #[34] }).size = A.size + 2 := by
  rw [ByteArray.size_append, ByteArray.size_append]; show 1 + A.size + 1 = _; omega
theorem q_size2 (A B : ByteArray) : (((({ data := #[34] } : ByteArray) ++ A) ++ B) ++ { data := #[34] }).size = A.size + B.size + 2 := by
  rw [ByteArray.size_append, ByteArray.size_append, ByteArray.size_append]; show 1 + A.size + B.size + 1 = _; omega

/-- the plain law -/
theorem pieces {a b x y : List UInt8} (h1 : prs (34 :: (a ++ [34])) = some x) (h2 : prs (34 :: (b ++ [34])) = some y) :
    prs (34 :: (a ++ (b ++ [34]))) = some (x ++ y) ∧ (pts x).isSome = true ∧ x.length ≤ a.length ∧ y.length ≤ b.length := by
  have t1 := prs_q h1
  have t2 := prs_q h2
  rw [List.length_append, List.length_singleton] at t1 t2
  obtain ⟨_, _, l1, p1⟩ := tk_len _ _ (Nat.le_refl _) _ _ t1
  obtain ⟨_, _, l2, _⟩ := tk_len _ _ (Nat.le_refl _) _ _ t2
  have t3 := tk_app _ a (Nat.le_refl _) x t1 (b ++ [34])
  rw [t2, Option.map_some] at t3
  refine ⟨prs_mk ?_, p1, by omega, by omega⟩
  rw [t3]; simp

theorem pieces_big (A B : ByteArray) (w : World) (ad : Nat → Addr) (hT : Tabs w) (hE : Syn w ad) (hC : Ctl w) (h : 300 < A.size ∨ 300 < B.size) :
    Calls Tryd.prog 5 #[.string A, .string B] w fun e w' => e = .returned (.bool true) ∧ Below w.heap.size w w' := by
  have HA := Lib.hid (alive w ad hT hE hC)
  clear hT hE hC
  by_cases h1 : 300 < A.size
  · clear h
    go_enter Tryd.func5, Tryd.ntmps5
    go_wp2_with fail
    refine HA.out.mono ?_
    rintro e w0 ⟨rfl, hb0⟩
    have HB0 := Lib.hid hb0
    clear hb0
    go_wp2
    go_ret
    exact ⟨rfl, HB0.out⟩
  · have h2 : 300 < B.size := by omega
    clear h
    go_enter Tryd.func5, Tryd.ntmps5
    go_wp2_with fail
    refine HA.out.mono ?_
    rintro e w0 ⟨rfl, hb0⟩
    have HB0 := Lib.hid hb0
    clear hb0
    go_wp2
    go_ret
    exact ⟨rfl, HB0.out⟩

set_option maxRecDepth 100000 in
set_option maxHeartbeats 400000 in
theorem pieces_small (A B : ByteArray) (w : World) (ad : Nat → Addr) (hT : Tabs w) (hE : Syn w ad) (hC : Ctl w) (ha : A.size ≤ 300) (hb : B.size ≤ 300) :
    Calls Tryd.prog 5 #[.string A, .string B] w fun e w' => e = .returned (.bool true) ∧ Below w.heap.size w w' := by
  have HA := Lib.hid (alive w ad hT hE hC)
  have HT := Lib.hid hT
  have HE := Lib.hid hE
  have P1 := fun w hT hE => parse_any ((({ data := #[34] } : ByteArray) ++ A) ++ { data := #[34] }) w ad (by rw [q_size]; omega) hT hE
  have P2 := fun w hT hE => parse_any ((({ data := #[34] } : ByteArray) ++ B) ++ { data := #[34] }) w ad (by rw [q_size]; omega) hT hE
  have P3 := fun w hT hE => parse_any (((({ data := #[34] } : ByteArray) ++ A) ++ B) ++ { data := #[34] }) w ad (by rw [q_size2]; omega) hT hE
  rw [q_list] at P1 P2
  rw [q_list2] at P3
  have nA : ¬ 300 < A.size := by omega
  have nB : ¬ 300 < B.size := by omega
  clear hT hE hC
  have hnE := nneqE (ad 0)
  have hnN := nneqN
  have hqN := neqlN
  cases h1 : prs (34 :: (A.data.toList ++ [34])) with
  | none =>
    rw [h1] at P1
    have P1 := Lib.hid P1
    have hpv : ∃ u v, prV ad (prs (34 :: (B.data.toList ++ [34]))) = .tuple #[.string u, v] := by
      unfold prV; split
      · exact ⟨_, _, rfl⟩
      · exact ⟨_, _, rfl⟩
    obtain ⟨u, v, hpv⟩ := hpv
    rw [hpv] at P2
    have P2 := Lib.hid P2
    clear P3 h1 hpv
    go_enter Tryd.func5, Tryd.ntmps5
    go_wp2_with fail
    refine HA.out.mono ?_
    rintro e w0 ⟨rfl, hb0⟩
    have HB0 := Lib.hid hb0
    have hz0 := hb0.size
    clear hb0
    go_wp2_with fail
    refine (P1.out _ (tabs_below HT.out HB0.out) (syn_below HE.out HB0.out)).mono ?_
    rintro e w1 ⟨rfl, hb1⟩
    have HB1 := Lib.hid (HB0.out.trans (hb1.mono hz0))
    have hz1 := HB1.out.size
    clear hb1
    unfold prV
    go_wp2_with fail
    refine (P2.out _ (tabs_below HT.out HB1.out) (syn_below HE.out HB1.out)).mono ?_
    rintro e w2 ⟨rfl, hb2⟩
    have HB2 := Lib.hid (HB1.out.trans (hb2.mono hz1))
    clear hb2
    go_wp2
    go_ret
    exact ⟨rfl, HB2.out⟩
  | some x =>
    cases h2 : prs (34 :: (B.data.toList ++ [34])) with
    | none =>
      rw [h1] at P1
      rw [h2] at P2
      have P1 := Lib.hid P1
      have P2 := Lib.hid P2
      clear P3 h1 h2
      go_enter Tryd.func5, Tryd.ntmps5
      go_wp2_with fail
      refine HA.out.mono ?_
      rintro e w0 ⟨rfl, hb0⟩
      have HB0 := Lib.hid hb0
      have hz0 := hb0.size
      clear hb0
      go_wp2_with fail
      refine (P1.out _ (tabs_below HT.out HB0.out) (syn_below HE.out HB0.out)).mono ?_
      rintro e w1 ⟨rfl, hb1⟩
      have HB1 := Lib.hid (HB0.out.trans (hb1.mono hz0))
      have hz1 := HB1.out.size
      clear hb1
      unfold prV
      go_wp2_with fail
      refine (P2.out _ (tabs_below HT.out HB1.out) (syn_below HE.out HB1.out)).mono ?_
      rintro e w2 ⟨rfl, hb2⟩
      have HB2 := Lib.hid (HB1.out.trans (hb2.mono hz1))
      clear hb2
      unfold prV
      go_wp2
      go_ret
      exact ⟨rfl, HB2.out⟩
    | some y =>
      obtain ⟨h3, hpx, lx, ly⟩ := pieces h1 h2
      rw [h1] at P1
      rw [h2] at P2
      rw [h3] at P3
      simp only [prV] at P1 P2 P3
      have hxs : (⟨x.toArray⟩ : ByteArray).size ≤ 300 := by show x.toArray.size ≤ _; simp at lx ⊢; have : A.data.size = A.size := rfl; omega
      have hys : (⟨y.toArray⟩ : ByteArray).size ≤ 300 := by show y.toArray.size ≤ _; simp at ly ⊢; have : B.data.size = B.size := rfl; omega
      have hxy : (⟨(x ++ y).toArray⟩ : ByteArray) = (⟨x.toArray⟩ : ByteArray) ++ ⟨y.toArray⟩ := by
        have : ((⟨x.toArray⟩ : ByteArray) ++ ⟨y.toArray⟩).data = (x ++ y).toArray := by simp [ByteArray.data_append]
        cases h : (⟨x.toArray⟩ : ByteArray) ++ ⟨y.toArray⟩ with
        | mk d' => rw [h] at this; simp only at this; rw [this]
      rw [hxy] at P3
      have hp' : (pts (⟨x.toArray⟩ : ByteArray).data.toList).isSome = true := by simpa using hpx
      generalize (⟨x.toArray⟩ : ByteArray) = X at *
      generalize (⟨y.toArray⟩ : ByteArray) = Y at *
      have HPt := fun w => refPoints X w (by omega)
      unfold PtsPost at HPt
      have HPt := Lib.hid HPt
      have HPX := Lib.hid hp'
      have P1 := Lib.hid P1
      have P2 := Lib.hid P2
      have P3 := Lib.hid P3
      clear h1 h2 h3 hpx lx ly hxy hp'
      go_enter Tryd.func5, Tryd.ntmps5
      go_wp2_with fail
      refine HA.out.mono ?_
      rintro e w0 ⟨rfl, hb0⟩
      have HB0 := Lib.hid hb0
      have hz0 := hb0.size
      clear hb0
      go_wp2_with fail
      refine (P1.out _ (tabs_below HT.out HB0.out) (syn_below HE.out HB0.out)).mono ?_
      rintro e w1 ⟨rfl, hb1⟩
      have HB1 := Lib.hid (HB0.out.trans (hb1.mono hz0))
      have hz1 := HB1.out.size
      clear hb1
      go_wp2_with fail
      refine (P2.out _ (tabs_below HT.out HB1.out) (syn_below HE.out HB1.out)).mono ?_
      rintro e w2 ⟨rfl, hb2⟩
      have HB2 := Lib.hid (HB1.out.trans (hb2.mono hz1))
      have hz2 := HB2.out.size
      clear hb2
      go_wp2_with fail
      refine (P3.out _ (tabs_below HT.out HB2.out) (syn_below HE.out HB2.out)).mono ?_
      rintro e w3 ⟨rfl, hb3⟩
      have HB3 := Lib.hid (HB2.out.trans (hb3.mono hz2))
      have hz3 := HB3.out.size
      clear hb3
      go_wp2_with fail
      refine (HPt.out _).mono ?_
      rintro e w4 ⟨hb4, hq⟩
      have HB4 := Lib.hid (HB3.out.trans (hb4.mono hz3))
      clear hb4
      rcases hq with ⟨hno, _⟩ | ⟨dd, vv, _, _, _, rfl⟩
      · have := HPX.out; rw [hno] at this; cases this
      · go_wp2
        go_ret
        exact ⟨ret_bool (by simp), HB4.out⟩

theorem lawPieces (A B : ByteArray) (w : World) (ad : Nat → Addr) (hT : Tabs w) (hE : Syn w ad) (hC : Ctl w) :
    Calls Tryd.prog 5 #[.string A, .string B] w fun e w' => e = .returned (.bool true) ∧ Below w.heap.size w w' := by
  by_cases h : 300 < A.size ∨ 300 < B.size
  · exact pieces_big A B w ad hT hE hC h
  · exact pieces_small A B w ad hT hE hC (by omega) (by omega)

/-! ### QuoteJoins -/
theorem qt_join (a b : List UInt8) : qt (a ++ b) = (qt a).dropLast ++ (qt b).tail := by
  unfold qt
  rw [List.flatMap_append]
  have : (34 :: (a.flatMap qB ++ [34])).dropLast = 34 :: a.flatMap qB := by
    rw [← List.cons_append, List.dropLast_concat]
  rw [this]; simp
theorem qt_len (l : List UInt8) : 2 ≤ (qt l).length ∧ (qt l).length ≤ 6 * l.length + 2 := by
  unfold qt
  have := flat_len l
  simp only [List.length_cons, List.length_append, List.length_nil]
  omega
theorem cut_join (a b : List UInt8) : (⟨(qt (a ++ b)).toArray⟩ : ByteArray) = (⟨(qt a).toArray⟩ : ByteArray).extract 0 ((⟨(qt a).toArray⟩ : ByteArray).size - 1) ++ (⟨(qt b).toArray⟩ : ByteArray).extract 1 (⟨(qt b).toArray⟩ : ByteArray).size := by
  have hx : (((⟨(qt a).toArray⟩ : ByteArray).extract 0 ((⟨(qt a).toArray⟩ : ByteArray).size - 1)) ++ ((⟨(qt b).toArray⟩ : ByteArray).extract 1 (⟨(qt b).toArray⟩ : ByteArray).size)).data.toList = qt (a ++ b) := by
    rw [ByteArray.data_append, Array.toList_append, ext_drop]
    have e0 : ((⟨(qt a).toArray⟩ : ByteArray).extract 0 ((⟨(qt a).toArray⟩ : ByteArray).size - 1)).data.toList = (qt a).dropLast := by
      have := ext_take (⟨(qt a).toArray⟩ : ByteArray) 0 ((⟨(qt a).toArray⟩ : ByteArray).size - 1)
      rw [Nat.zero_add] at this
      rw [this, List.drop_zero, List.dropLast_eq_take]
      rfl
    rw [e0, qt_join]
    simp
  cases h : ((⟨(qt a).toArray⟩ : ByteArray).extract 0 ((⟨(qt a).toArray⟩ : ByteArray).size - 1)) ++ ((⟨(qt b).toArray⟩ : ByteArray).extract 1 (⟨(qt b).toArray⟩ : ByteArray).size) with
  | mk d => rw [h] at hx; simp only at hx; rw [← hx]

theorem joins_big (A B : ByteArray) (w : World) (ad : Nat → Addr) (hT : Tabs w) (hE : Syn w ad) (hC : Ctl w) (h : 500 < A.size ∨ 500 < B.size) :
    Calls Tryd.prog 4 #[.string A, .string B] w fun e w' => e = .returned (.bool true) ∧ Below w.heap.size w w' := by
  have HA := Lib.hid (alive w ad hT hE hC)
  clear hT hE hC
  by_cases h1 : 500 < A.size
  · clear h
    go_enter Tryd.func4, Tryd.ntmps4
    go_wp2_with fail
    refine HA.out.mono ?_
    rintro e w0 ⟨rfl, hb0⟩
    have HB0 := Lib.hid hb0
    clear hb0
    go_wp2
    go_ret
    exact ⟨rfl, HB0.out⟩
  · have h2 : 500 < B.size := by omega
    clear h
    go_enter Tryd.func4, Tryd.ntmps4
    go_wp2_with fail
    refine HA.out.mono ?_
    rintro e w0 ⟨rfl, hb0⟩
    have HB0 := Lib.hid hb0
    clear hb0
    go_wp2
    go_ret
    exact ⟨rfl, HB0.out⟩

theorem qtV_two (ad : Nat → Addr) (l : List UInt8) : ∃ u v, qtV ad l = .tuple #[.string u, v] := by
  unfold qtV; split
  · exact ⟨_, _, rfl⟩
  · exact ⟨_, _, rfl⟩

set_option maxRecDepth 100000 in
theorem joins_small (A B : ByteArray) (w : World) (ad : Nat → Addr) (hT : Tabs w) (hE : Syn w ad) (hC : Ctl w) (ha : A.size ≤ 500) (hb : B.size ≤ 500) :
    Calls Tryd.prog 4 #[.string A, .string B] w fun e w' => e = .returned (.bool true) ∧ Below w.heap.size w w' := by
  have HA := Lib.hid (alive w ad hT hE hC)
  have HT := Lib.hid hT
  have HE := Lib.hid hE
  have HC := Lib.hid hC
  have P1 := fun w hT hE hC => quote_any A w ad (by omega) hT hE hC
  have P2 := fun w hT hE hC => quote_any B w ad (by omega) hT hE hC
  have hAB : (A ++ B).size ≤ 1000 := by rw [ByteArray.size_append]; omega
  have P3 := fun w hT hE hC => quote_any (A ++ B) w ad (by omega) hT hE hC
  have nA : ¬ 500 < A.size := by omega
  have nB : ¬ 500 < B.size := by omega
  clear hT hE hC
  have hnE := nneqE (ad 0)
  have hnN := nneqN
  have hqN := neqlN
  cases h1 : (pts A.data.toList).isSome with
  | false =>
    have e1 : qtV ad A.data.toList = .tuple #[.string ⟨#[]⟩, ev (ad 0)] := by unfold qtV; rw [h1]; rfl
    rw [e1] at P1
    have P1 := Lib.hid P1
    obtain ⟨u, v, hpv⟩ := qtV_two ad B.data.toList
    rw [hpv] at P2
    have P2 := Lib.hid P2
    clear P3 h1 hpv e1
    go_enter Tryd.func4, Tryd.ntmps4
    go_wp2_with fail
    refine HA.out.mono ?_
    rintro e w0 ⟨rfl, hb0⟩
    have HB0 := Lib.hid hb0
    have hz0 := hb0.size
    clear hb0
    go_wp2_with fail
    refine (P1.out _ (tabs_below HT.out HB0.out) (syn_below HE.out HB0.out) (ctl_below HC.out HB0.out)).mono ?_
    rintro e w1 ⟨rfl, hb1⟩
    have HB1 := Lib.hid (HB0.out.trans (hb1.mono hz0))
    have hz1 := HB1.out.size
    clear hb1
    go_wp2_with fail
    refine (P2.out _ (tabs_below HT.out HB1.out) (syn_below HE.out HB1.out) (ctl_below HC.out HB1.out)).mono ?_
    rintro e w2 ⟨rfl, hb2⟩
    have HB2 := Lib.hid (HB1.out.trans (hb2.mono hz1))
    clear hb2
    go_wp2
    go_ret
    exact ⟨rfl, HB2.out⟩
  | true =>
    have e1 : qtV ad A.data.toList = .tuple #[.string ⟨(qt A.data.toList).toArray⟩, .nilIface] := by unfold qtV; rw [if_pos h1]
    rw [e1] at P1
    cases h2 : (pts B.data.toList).isSome with
    | false =>
      have e2 : qtV ad B.data.toList = .tuple #[.string ⟨#[]⟩, ev (ad 0)] := by unfold qtV; rw [h2]; rfl
      rw [e2] at P2
      have P1 := Lib.hid P1
      have P2 := Lib.hid P2
      clear P3 h1 h2 e1 e2
      go_enter Tryd.func4, Tryd.ntmps4
      go_wp2_with fail
      refine HA.out.mono ?_
      rintro e w0 ⟨rfl, hb0⟩
      have HB0 := Lib.hid hb0
      have hz0 := hb0.size
      clear hb0
      go_wp2_with fail
      refine (P1.out _ (tabs_below HT.out HB0.out) (syn_below HE.out HB0.out) (ctl_below HC.out HB0.out)).mono ?_
      rintro e w1 ⟨rfl, hb1⟩
      have HB1 := Lib.hid (HB0.out.trans (hb1.mono hz0))
      have hz1 := HB1.out.size
      clear hb1
      go_wp2_with fail
      refine (P2.out _ (tabs_below HT.out HB1.out) (syn_below HE.out HB1.out) (ctl_below HC.out HB1.out)).mono ?_
      rintro e w2 ⟨rfl, hb2⟩
      have HB2 := Lib.hid (HB1.out.trans (hb2.mono hz1))
      clear hb2
      go_wp2
      go_ret
      exact ⟨rfl, HB2.out⟩
    | true =>
      have e2 : qtV ad B.data.toList = .tuple #[.string ⟨(qt B.data.toList).toArray⟩, .nilIface] := by unfold qtV; rw [if_pos h2]
      rw [e2] at P2
      have hab : (A ++ B).data.toList = A.data.toList ++ B.data.toList := by simp [ByteArray.data_append]
      have e3 : qtV ad (A ++ B).data.toList = .tuple #[.string ⟨(qt (A.data.toList ++ B.data.toList)).toArray⟩, .nilIface] := by
        unfold qtV; rw [hab, if_pos (pts_append h1 h2)]
      rw [e3, cut_join] at P3
      have sX : 2 ≤ (⟨(qt A.data.toList).toArray⟩ : ByteArray).size ∧ (⟨(qt A.data.toList).toArray⟩ : ByteArray).size ≤ 3002 := by
        show 2 ≤ (qt A.data.toList).toArray.size ∧ (qt A.data.toList).toArray.size ≤ 3002
        have := qt_len A.data.toList; have e : A.data.toList.length = A.size := by simp
        simp only [List.size_toArray]; omega
      have sY : 2 ≤ (⟨(qt B.data.toList).toArray⟩ : ByteArray).size ∧ (⟨(qt B.data.toList).toArray⟩ : ByteArray).size ≤ 3002 := by
        show 2 ≤ (qt B.data.toList).toArray.size ∧ (qt B.data.toList).toArray.size ≤ 3002
        have := qt_len B.data.toList; have e : B.data.toList.length = B.size := by simp
        simp only [List.size_toArray]; omega
      clear h1 h2 e1 e2 e3 hab
      generalize (⟨(qt A.data.toList).toArray⟩ : ByteArray) = X at *
      generalize (⟨(qt B.data.toList).toArray⟩ : ByteArray) = Y at *
      obtain ⟨x1, x2⟩ := sX
      obtain ⟨y1, y2⟩ := sY
      have P1 := Lib.hid P1
      have P2 := Lib.hid P2
      have P3 := Lib.hid P3
      go_enter Tryd.func4, Tryd.ntmps4
      go_wp2_with fail
      refine HA.out.mono ?_
      rintro e w0 ⟨rfl, hb0⟩
      have HB0 := Lib.hid hb0
      have hz0 := hb0.size
      clear hb0
      go_wp2_with fail
      refine (P1.out _ (tabs_below HT.out HB0.out) (syn_below HE.out HB0.out) (ctl_below HC.out HB0.out)).mono ?_
      rintro e w1 ⟨rfl, hb1⟩
      have HB1 := Lib.hid (HB0.out.trans (hb1.mono hz0))
      have hz1 := HB1.out.size
      clear hb1
      go_wp2_with fail
      refine (P2.out _ (tabs_below HT.out HB1.out) (syn_below HE.out HB1.out) (ctl_below HC.out HB1.out)).mono ?_
      rintro e w2 ⟨rfl, hb2⟩
      have HB2 := Lib.hid (HB1.out.trans (hb2.mono hz1))
      have hz2 := HB2.out.size
      clear hb2
      go_wp2_with fail
      refine (P3.out _ (tabs_below HT.out HB2.out) (syn_below HE.out HB2.out) (ctl_below HC.out HB2.out)).mono ?_
      rintro e w3 ⟨rfl, hb3⟩
      have HB3 := Lib.hid (HB2.out.trans (hb3.mono hz2))
      clear hb3
      have g1 : IntKind.i64.wrap ((X.size : Int) - 1) = (X.size : Int) - 1 := IntWalk.i64_in _ (by omega)
      have g2 : 0 ≤ (X.size : Int) - 1 := by omega
      have g3 : (X.size : Int) - 1 ≤ X.size := by omega
      have g4 : ((X.size : Int) - 1).toNat = X.size - 1 := by omega
      have g5 : (1 : Int) ≤ Y.size := by omega
      go_wp2
      go_quiet (fail)
      go_wp2
      go_ret
      exact ⟨ret_bool (by simp), below_drewN HB3.out _⟩

theorem lawJoins (A B : ByteArray) (w : World) (ad : Nat → Addr) (hT : Tabs w) (hE : Syn w ad) (hC : Ctl w) :
    Calls Tryd.prog 4 #[.string A, .string B] w fun e w' => e = .returned (.bool true) ∧ Below w.heap.size w w' := by
  by_cases h : 500 < A.size ∨ 500 < B.size
  · exact joins_big A B w ad hT hE hC h
  · exact joins_small A B w ad hT hE hC (by omega) (by omega)

end Go.Proofs.YtfoammkidjbilaaDoor.quoteG
