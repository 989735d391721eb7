/-
  The laws QuoteTakes and QuoteParses return true.
-/
import Derived.Test.YtfoammkidjbilaaDoorQuoteD
namespace Go.Proofs.YtfoammkidjbilaaDoor.quoteE
open Go.ChangeShapes Go.WideShapes Go.ChangeAt Go.RowKit utfP utfQ utfR runesA runesC runesD runesE quoteP quoteA quoteB quoteC quoteD errIs errs

theorem ret_bool {a b : Bool} (h : a = b) : Ending.returned (.bool a) = .returned (.bool b) := by rw [h]
theorem syn_of {w : World} {ad : Nat → Addr} (h : Errs w ad) : Syn w ad := h.glob 0 (by decide)

theorem QuoteTakes_big (s : ByteArray) (p : Int) (w : World) (ad : Nat → Addr) (hT : Tabs w) (hE : Errs w ad) (hC : Ctl w) (h : 1000 < s.size) :
    Calls Tryd.prog 6 #[.string s, .int .i64 p] w fun e w' => e = .returned (.bool true) ∧ Below w.heap.size w w' := by
  have HA := Lib.hid (alive w ad hT (syn_of hE) hC)
  clear hT hE hC
  go_enter Tryd.func6, Tryd.ntmps6
  go_wp2_with fail
  refine HA.out.mono ?_
  rintro e w0 ⟨rfl, hb0⟩
  have HB0 := Lib.hid hb0
  clear hb0
  go_wp2
  go_ret
  exact ⟨rfl, HB0.out⟩
theorem QuoteParses_big (s : ByteArray) (w : World) (ad : Nat → Addr) (hT : Tabs w) (hE : Errs w ad) (hC : Ctl w) (h : 1000 < s.size) :
    Calls Tryd.prog 7 #[.string s] w fun e w' => e = .returned (.bool true) ∧ Below w.heap.size w w' := by
  have HA := Lib.hid (alive w ad hT (syn_of hE) hC)
  clear hT hE hC
  go_enter Tryd.func7, Tryd.ntmps7
  go_wp2_with fail
  refine HA.out.mono ?_
  rintro e w0 ⟨rfl, hb0⟩
  have HB0 := Lib.hid hb0
  clear hb0
  go_wp2
  go_ret
  exact ⟨rfl, HB0.out⟩
theorem QuoteQuotes_big (s : ByteArray) (w : World) (ad : Nat → Addr) (hT : Tabs w) (hE : Errs w ad) (hC : Ctl w) (h : 1000 < s.size) :
    Calls Tryd.prog 8 #[.string s] w fun e w' => e = .returned (.bool true) ∧ Below w.heap.size w w' := by
  have HA := Lib.hid (alive w ad hT (syn_of hE) hC)
  clear hT hE hC
  go_enter Tryd.func8, Tryd.ntmps8
  go_wp2_with fail
  refine HA.out.mono ?_
  rintro e w0 ⟨rfl, hb0⟩
  have HB0 := Lib.hid hb0
  clear hb0
  go_wp2
  go_ret
  exact ⟨rfl, HB0.out⟩

theorem takeO_pos {l : List UInt8} {p : Int} {x : List UInt8} {n : Nat} (h : takeO l p = some (x, n)) : 1 ≤ n := by
  unfold takeO stk at h
  split at h
  · cases h
  · split at h
    · cases ht : tk (l.drop p.toNat).tail with
      | none => rw [ht] at h; cases h
      | some q => rw [ht] at h; have := Option.some.inj h; rw [Prod.mk.injEq] at this; omega
    · cases h

set_option maxRecDepth 100000 in
theorem takes_small (s : ByteArray) (p : Int) (w : World) (ad : Nat → Addr) (hT : Tabs w) (hE : Errs w ad) (hC : Ctl w) (h : s.size ≤ 1000) :
    Calls Tryd.prog 6 #[.string s, .int .i64 p] w fun e w' => e = .returned (.bool true) ∧ Below w.heap.size w w' := by
  have HA := Lib.hid (alive w ad hT (syn_of hE) hC)
  have HE := Lib.hid hE
  have HT := Lib.hid hT
  have HTk := fun w hT hE => take_any s p w ad (by omega) hT hE
  have HRk := fun w => refTake_any s p w (by omega)
  unfold TkPost at HTk
  unfold RkPost at HRk
  have hs' : ¬ 1000 < s.size := by omega
  clear hT hE hC
  cases ho : takeO s.data.toList p with
  | none =>
    rw [ho] at HTk HRk
    have HTk := Lib.hid HTk
    have HRk := Lib.hid HRk
    clear ho
    go_enter Tryd.func6, Tryd.ntmps6
    go_wp2_with fail
    refine HA.out.mono ?_
    rintro e w0 ⟨rfl, hb0⟩
    have HB0 := Lib.hid hb0
    have hz0 := hb0.size
    clear hb0
    go_wp2_with fail
    refine (HTk.out _ (tabs_below HT.out HB0.out) (syn_below (syn_of HE.out) HB0.out)).mono ?_
    rintro e w1 ⟨rfl, hb1⟩
    have HB1 := Lib.hid (HB0.out.trans (hb1.mono hz0))
    have hz1 := HB1.out.size
    clear hb1
    unfold tkV
    go_wp2_with fail
    refine (HRk.out _).mono ?_
    rintro e w2 ⟨rfl, hb2⟩
    have HB2 := Lib.hid (HB1.out.trans (hb2.mono hz1))
    have hz2 := HB2.out.size
    clear hb2
    unfold rkV
    have HN := Lib.hid (num_err w2 ad (HE.out.below HB2.out) 0 (by decide))
    go_wp2_with fail
    refine HN.out.mono ?_
    rintro e w3 ⟨rfl, hb3⟩
    have HB3 := Lib.hid (HB2.out.trans (hb3.mono hz2))
    clear hb3
    go_wp2
    go_ret
    exact ⟨rfl, HB3.out⟩
  | some q =>
    obtain ⟨x, n⟩ := q
    have hn := takeO_pos ho
    rw [ho] at HTk HRk
    have HTk := Lib.hid HTk
    have HRk := Lib.hid HRk
    have hnn := neqlN
    have hpos : (0 : Int) < (n : Int) := by omega
    clear ho
    go_enter Tryd.func6, Tryd.ntmps6
    go_wp2_with fail
    refine HA.out.mono ?_
    rintro e w0 ⟨rfl, hb0⟩
    have HB0 := Lib.hid hb0
    have hz0 := hb0.size
    clear hb0
    go_wp2_with fail
    refine (HTk.out _ (tabs_below HT.out HB0.out) (syn_below (syn_of HE.out) HB0.out)).mono ?_
    rintro e w1 ⟨rfl, hb1⟩
    have HB1 := Lib.hid (HB0.out.trans (hb1.mono hz0))
    have hz1 := HB1.out.size
    clear hb1
    unfold tkV
    go_wp2_with fail
    refine (HRk.out _).mono ?_
    rintro e w2 ⟨rfl, hb2⟩
    have HB2 := Lib.hid (HB1.out.trans (hb2.mono hz1))
    clear hb2
    unfold rkV
    go_wp2
    go_ret
    exact ⟨rfl, HB2.out⟩
theorem lawTakes (s : ByteArray) (p : Int) (w : World) (ad : Nat → Addr) (hT : Tabs w) (hE : Errs w ad) (hC : Ctl w) :
    Calls Tryd.prog 6 #[.string s, .int .i64 p] w fun e w' => e = .returned (.bool true) ∧ Below w.heap.size w w' := by
  by_cases h : 1000 < s.size
  · exact QuoteTakes_big s p w ad hT hE hC h
  · exact takes_small s p w ad hT hE hC (by omega)

theorem prs_cases (l : List UInt8) : (stk l = none ∧ prs l = none) ∨ (∃ x n, stk l = some (x, n) ∧ 1 ≤ n ∧ n ≠ l.length ∧ prs l = none) ∨ ∃ x, stk l = some (x, l.length) ∧ 1 ≤ l.length ∧ prs l = some x := by
  cases hk : stk l with
  | none => exact Or.inl ⟨rfl, by unfold prs; rw [hk]⟩
  | some q =>
    obtain ⟨x, n⟩ := q
    have hn : 1 ≤ n := takeO_pos (l := l) (p := 0) (x := x) (n := n) (by unfold takeO; rw [if_neg (by omega)]; exact hk)
    by_cases e : n = l.length
    · refine Or.inr (Or.inr ⟨x, by rw [e], by omega, ?_⟩)
      unfold prs; rw [hk]; simp only; rw [if_pos e]
    · refine Or.inr (Or.inl ⟨x, n, rfl, hn, e, ?_⟩)
      unfold prs; rw [hk]; simp only; rw [if_neg e]

set_option maxRecDepth 100000 in
theorem parses_small (s : ByteArray) (w : World) (ad : Nat → Addr) (hT : Tabs w) (hE : Errs w ad) (hC : Ctl w) (h : s.size ≤ 1000) :
    Calls Tryd.prog 7 #[.string s] w fun e w' => e = .returned (.bool true) ∧ Below w.heap.size w w' := by
  have HA := Lib.hid (alive w ad hT (syn_of hE) hC)
  have HE := Lib.hid hE
  have HT := Lib.hid hT
  have HTk := fun w hT hE => parse_any s w ad (by omega) hT hE
  have HRk := fun w => refTake_any s 0 w (by omega)
  have e0 : takeO s.data.toList 0 = stk s.data.toList := by unfold takeO; rw [if_neg (by omega)]; rfl
  unfold RkPost at HRk
  rw [e0] at HRk
  have hs' : ¬ 1000 < s.size := by omega
  have hll : s.data.toList.length = s.size := by simp
  clear hT hE hC e0
  rcases prs_cases s.data.toList with ⟨h1, h2⟩ | ⟨x, n, h1, hn, hne, h2⟩ | ⟨x, h1, hn, h2⟩
  · rw [h2] at HTk
    rw [h1] at HRk
    have HTk := Lib.hid HTk
    have HRk := Lib.hid HRk
    clear h1 h2 hll
    go_enter Tryd.func7, Tryd.ntmps7
    go_wp2_with fail
    refine HA.out.mono ?_
    rintro e w0 ⟨rfl, hb0⟩
    have HB0 := Lib.hid hb0
    have hz0 := hb0.size
    clear hb0
    go_wp2_with fail
    refine (HTk.out _ (tabs_below HT.out HB0.out) (syn_below (syn_of HE.out) HB0.out)).mono ?_
    rintro e w1 ⟨rfl, hb1⟩
    have HB1 := Lib.hid (HB0.out.trans (hb1.mono hz0))
    have hz1 := HB1.out.size
    clear hb1
    unfold prV
    go_wp2_with fail
    refine (HRk.out _).mono ?_
    rintro e w2 ⟨rfl, hb2⟩
    have HB2 := Lib.hid (HB1.out.trans (hb2.mono hz1))
    have hz2 := HB2.out.size
    clear hb2
    unfold rkV
    have HN := Lib.hid (num_err w2 ad (HE.out.below HB2.out) 0 (by decide))
    go_wp2_with fail
    refine HN.out.mono ?_
    rintro e w3 ⟨rfl, hb3⟩
    have HB3 := Lib.hid (HB2.out.trans (hb3.mono hz2))
    clear hb3
    go_wp2
    go_ret
    exact ⟨rfl, HB3.out⟩
  · rw [h2] at HTk
    rw [h1] at HRk
    have HTk := Lib.hid HTk
    have HRk := Lib.hid HRk
    have q1 : ((n : Int) == 0) = false := by rw [beq_eq_false_iff_ne]; omega
    have q2 : ((n : Int) != (s.size : Int)) = true := by rw [bne_iff_ne]; omega
    clear h1 h2 hll hne
    go_enter Tryd.func7, Tryd.ntmps7
    go_wp2_with fail
    refine HA.out.mono ?_
    rintro e w0 ⟨rfl, hb0⟩
    have HB0 := Lib.hid hb0
    have hz0 := hb0.size
    clear hb0
    go_wp2_with fail
    refine (HTk.out _ (tabs_below HT.out HB0.out) (syn_below (syn_of HE.out) HB0.out)).mono ?_
    rintro e w1 ⟨rfl, hb1⟩
    have HB1 := Lib.hid (HB0.out.trans (hb1.mono hz0))
    have hz1 := HB1.out.size
    clear hb1
    unfold prV
    go_wp2_with fail
    refine (HRk.out _).mono ?_
    rintro e w2 ⟨rfl, hb2⟩
    have HB2 := Lib.hid (HB1.out.trans (hb2.mono hz1))
    have hz2 := HB2.out.size
    clear hb2
    unfold rkV
    have HN := Lib.hid (num_err w2 ad (HE.out.below HB2.out) 0 (by decide))
    go_wp2_with fail
    refine HN.out.mono ?_
    rintro e w3 ⟨rfl, hb3⟩
    have HB3 := Lib.hid (HB2.out.trans (hb3.mono hz2))
    clear hb3
    go_wp2
    go_ret
    exact ⟨rfl, HB3.out⟩
  · rw [h2] at HTk
    rw [h1] at HRk
    rw [hll] at HRk hn
    have HTk := Lib.hid HTk
    have HRk := Lib.hid HRk
    have q1 : ((s.size : Int) == 0) = false := by rw [beq_eq_false_iff_ne]; omega
    have hnn := neqlN
    clear h1 h2 hll
    go_enter Tryd.func7, Tryd.ntmps7
    go_wp2_with fail
    refine HA.out.mono ?_
    rintro e w0 ⟨rfl, hb0⟩
    have HB0 := Lib.hid hb0
    have hz0 := hb0.size
    clear hb0
    go_wp2_with fail
    refine (HTk.out _ (tabs_below HT.out HB0.out) (syn_below (syn_of HE.out) HB0.out)).mono ?_
    rintro e w1 ⟨rfl, hb1⟩
    have HB1 := Lib.hid (HB0.out.trans (hb1.mono hz0))
    have hz1 := HB1.out.size
    clear hb1
    unfold prV
    go_wp2_with fail
    refine (HRk.out _).mono ?_
    rintro e w2 ⟨rfl, hb2⟩
    have HB2 := Lib.hid (HB1.out.trans (hb2.mono hz1))
    clear hb2
    unfold rkV
    go_wp2
    go_ret
    exact ⟨rfl, HB2.out⟩
theorem lawParses (s : ByteArray) (w : World) (ad : Nat → Addr) (hT : Tabs w) (hE : Errs w ad) (hC : Ctl w) :
    Calls Tryd.prog 7 #[.string s] w fun e w' => e = .returned (.bool true) ∧ Below w.heap.size w w' := by
  by_cases h : 1000 < s.size
  · exact QuoteParses_big s w ad hT hE hC h
  · exact parses_small s w ad hT hE hC (by omega)

end Go.Proofs.YtfoammkidjbilaaDoor.quoteE
