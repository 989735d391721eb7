/-
  Contracts of ints.Take, ints.Parse and ints.Text.
-/
import Derived.Test.YtjcaffpmcgfhaaaDoorIntsB
import Derived.Test.YtjcaffpmcgfhaaaDoorErrs
import Derived.Test.YtjcaffpmcgfhaaaDoorShelf
import Derived.Lib.AtoiErrMem
import Derived.Lib.SmallJoins
import Derived.WalkSmall
namespace Go.Proofs.YtjcaffpmcgfhaaaDoor.intsC
open Go.ChangeShapes Go.WideShapes Go.ChangeAt Go.RowKit intsP intsA intsB errIs errs

/-- the library's error of a range, and its table of powers, lie there -/
def Rng (w : World) : Prop := ∃ te pe, w.cell? ⟨14, 0, none⟩ = some (.iface te pe)
def Pow (w : World) : Prop := Lib.TabIs Tryd.prog w "internal/strconv.uint64pow10" .u64 Lib.pow10Tab
theorem rng_below {w w' : World} (h : Rng w) (hb : Below w.heap.size w w') : Rng w' := by
  obtain ⟨te, pe, h⟩ := h
  exact ⟨te, pe, by rw [hb.cell (World.block_lt_of_cell? w _ h)]; exact h⟩
theorem pow_n : Tryd.prog.globalNamed "internal/strconv.uint64pow10" = some 17 := by kernel_rfl
theorem pow_below {w w' : World} (h : Pow w) (hb : Below w.heap.size w w') : Pow w' := Go.Joins.tab_stays pow_n h hb (Nat.le_refl _)

theorem nneqE (t : TypeId) (v : Value) (w : World) : (binOp .neq 30 (.iface t v) .nilIface).run Tryd.prog w = .ok (.bool true) w := by kernel_rfl
theorem nneqN (w : World) : (binOp .neq 30 .nilIface .nilIface).run Tryd.prog w = .ok (.bool false) w := by kernel_rfl
theorem neqlN (w : World) : (binOp .eql 30 .nilIface .nilIface).run Tryd.prog w = .ok (.bool true) w := by kernel_rfl
theorem neqlE (t : TypeId) (v : Value) (w : World) : (binOp .eql 30 (.iface t v) .nilIface).run Tryd.prog w = .ok (.bool false) w := by kernel_rfl

def errV (ad : Nat → Addr) (k : Nat) : Value := if k = 0 then .nilIface else ev (ad (k - 1))
def tkV (ad : Nat → Addr) (q : Int × Nat × Nat) : Value := .tuple #[.int .i64 q.1, .int .i64 (q.2.1 : Int), errV ad q.2.2]
def takeO (l : List UInt8) (p : Int) : Int × Nat × Nat := if p < 0 then (0, 0, 1) else takeN (l.drop p.toNat)

/-- what the decimal numeral's reading hands back -/
theorem parse_int (s : ByteArray) (w : World) (hs : s.size ≤ 1000000) (hR : Rng w) (hn : s.data.toList.drop (sg s.data.toList) ≠ []) (hd : ∀ c ∈ s.data.toList.drop (sg s.data.toList), isD c = true) :
    Calls Tryd.prog 36 #[.string s, .int .i64 10, .int .i64 64] w fun e w' => Below w.heap.size w w' ∧ ((∃ v, valO s.data.toList = some v ∧ e = .returned (.tuple #[.int .i64 v, .nilIface])) ∨ (valO s.data.toList = none ∧ ∃ x t u, e = .returned (.tuple #[.int .i64 x, .iface t u]))) := by
  have hp := parse_val s.data.toList hn hd
  cases hv : valO s.data.toList with
  | none =>
    rw [hv] at hp
    obtain ⟨te, pe, hR⟩ := hR
    refine (Tryd.strconv_ParseInt_10_at64_range s (by omega) hp (.iface te pe) w hR (Or.inr ⟨te, pe, rfl⟩)).mono ?_
    rintro e w' ⟨N, rfl, _, _, hb⟩
    exact ⟨hb, Or.inr ⟨rfl, _, _, _, rfl⟩⟩
  | some v =>
    rw [hv] at hp
    refine (Tryd.strconv_ParseInt_10_at64_ok s (by omega) v hp w).mono ?_
    rintro e w' ⟨rfl, hw⟩
    refine ⟨?_, Or.inl ⟨v, rfl, rfl⟩⟩
    rcases hw with rfl | ⟨t, rfl⟩
    · exact Below.refl _ _
    · exact Lib.bytesWorld_below _ _ _

theorem ext_take (S : ByteArray) (k j : Nat) : (S.extract k (k + j)).data.toList = (S.data.toList.drop k).take j := by
  rw [ByteArray.data_extract, Array.toList_extract]
  simp [List.extract]

def TkPost (w : World) (ad : Nat → Addr) (q : Int × Nat × Nat) (e : Ending) (w' : World) : Prop := e = .returned (tkV ad q) ∧ Below w.heap.size w w'

theorem take_no (s : ByteArray) (p : Int) (w : World) (ad : Nat → Addr) (hE : Errs w ad) (h : p < 0 ∨ (s.size : Int) ≤ p) :
    Calls Tryd.prog 30 #[.string s, .int .i64 p] w (TkPost w ad (0, 0, 1)) := by
  have hg : w.cell? ⟨1, 0, none⟩ = some (ev (ad 0)) := hE.glob 0 (by decide)
  clear hE
  go_enter Tryd.func30, Tryd.ntmps30
  go_wp2_with fail
  refine (scan_no _ _ _ h).mono ?_
  rintro e w' ⟨rfl, rfl⟩
  go_wp2
  go_quiet (fail)
  go_wp2
  go_ret3
  exact ⟨rfl, below_drewN (Below.refl _ _) _⟩

set_option maxRecDepth 100000 in
theorem take_at (s : ByteArray) (p : Nat) (w : World) (ad : Nat → Addr) (hs : s.size ≤ 1000000) (hE : Errs w ad) (hR : Rng w) (hp : p < s.size) :
    Calls Tryd.prog 30 #[.string s, .int .i64 p] w (TkPost w ad (takeN (s.data.toList.drop p))) := by
  have hg : w.cell? ⟨1, 0, none⟩ = some (ev (ad 0)) := hE.glob 0 (by decide)
  have hg3 : w.cell? ⟨3, 0, none⟩ = some (ev (ad 3)) := hE.glob 3 (by decide)
  have HS := scan_at s p w hs hp
  have hwl := whole_le (s.data.toList.drop p)
  have heg := every_ge (s.data.toList.drop p)
  have hll : (s.data.toList.drop p).length = s.size - p := by simp
  rw [hll] at hwl
  unfold scV at HS
  by_cases h0 : whole (s.data.toList.drop p) = 0
  · rw [if_pos h0] at HS
    have HS := Lib.hid HS
    have hN : Hid (takeN (s.data.toList.drop p) = (0, 0, 1)) := Lib.hid (by unfold takeN; rw [if_pos h0])
    clear hE hR h0 hwl heg hll
    go_enter Tryd.func30, Tryd.ntmps30
    go_wp2_with fail
    refine HS.out.mono ?_
    rintro e w' ⟨rfl, rfl⟩
    go_wp2
    go_quiet (fail)
    go_wp2
    go_ret3
    exact ⟨by rw [hN.out]; rfl, below_drewN (Below.refl _ _) _⟩
  rw [if_neg h0] at HS
  by_cases h1 : whole (s.data.toList.drop p) < every (s.data.toList.drop p)
  · rw [decide_eq_false (show ¬ every (s.data.toList.drop p) = whole (s.data.toList.drop p) by omega)] at HS
    have HS := Lib.hid HS
    have hN : Hid (takeN (s.data.toList.drop p) = (0, 0, 4)) := Lib.hid (by unfold takeN; rw [if_neg h0, if_pos h1])
    clear hE hR h0 hwl heg hll h1
    go_enter Tryd.func30, Tryd.ntmps30
    go_wp2_with fail
    refine HS.out.mono ?_
    rintro e w' ⟨rfl, rfl⟩
    go_wp2
    go_quiet (fail)
    go_wp2
    go_ret3
    exact ⟨by rw [hN.out]; rfl, below_drewN (Below.refl _ _) _⟩
  rw [decide_eq_true (show every (s.data.toList.drop p) = whole (s.data.toList.drop p) by omega), show every (s.data.toList.drop p) = whole (s.data.toList.drop p) by omega] at HS
  have HS := Lib.hid HS
  have hxt : (s.extract p (p + whole (s.data.toList.drop p))).data.toList = (s.data.toList.drop p).take (whole (s.data.toList.drop p)) := ext_take s p _
  have HD := whole_digits (s.data.toList.drop p) h0
  rw [← hxt] at HD
  have hxs : (s.extract p (p + whole (s.data.toList.drop p))).size ≤ 1000000 := by rw [ByteArray.size_extract]; omega
  have HPI := Lib.hid (fun w hR => parse_int (s.extract p (p + whole (s.data.toList.drop p))) w hxs hR HD.1 HD.2.1)
  have hN : Hid (takeN (s.data.toList.drop p) = match valO (s.extract p (p + whole (s.data.toList.drop p))).data.toList with | some v => (v, whole (s.data.toList.drop p), 0) | none => (0, 0, 4)) := Lib.hid (by
    unfold takeN; rw [if_neg h0, if_neg h1, hxt]; cases valO ((s.data.toList.drop p).take (whole (s.data.toList.drop p))) <;> rfl)
  have HR := Lib.hid hR
  have HE := Lib.hid hE
  clear hE hR h0 heg hll h1 hxt HD
  generalize whole (s.data.toList.drop p) = q at *
  have d1 : (p : Int) ≤ (p : Int) + q := by omega
  have d2 : (p : Int) + q ≤ s.size := by omega
  have d3 : p + q ≤ s.size := by omega
  generalize hX : s.extract p (p + q) = X at *
  have HX := Lib.hid hX
  clear hX
  go_enter Tryd.func30, Tryd.ntmps30
  go_wp2_with fail
  refine HS.out.mono ?_
  rintro e w' ⟨rfl, rfl⟩
  go_wp2_with fail
  rw [HX.out]
  refine (HPI.out _ HR.out).mono ?_
  rintro e w1 ⟨hb1, hq⟩
  have HB1 := Lib.hid hb1
  have hg3' : w1.cell? ⟨3, 0, none⟩ = some (ev (ad 3)) := (HE.out.below hb1).glob 3 (by decide)
  clear hb1 hg hg3
  rcases hq with ⟨v, hv, rfl⟩ | ⟨hv, x, t, u, rfl⟩
  · have hN2 : Hid (takeN (s.data.toList.drop p) = (v, q, 0)) := Lib.hid (by rw [hN.out, hv])
    have hvb := valO_bd hv
    obtain ⟨v1, v2⟩ := hvb
    have hne := nneqN
    clear hN hv
    go_wp2
    go_ret3
    refine ⟨?_, HB1.out⟩
    rw [hN2.out]
    show Ending.returned (.tuple #[.int .i64 v, .int .i64 ((p : Int) + (q : Int) - (p : Int)), .nilIface]) = _
    rw [show (p : Int) + (q : Int) - (p : Int) = (q : Int) from by omega]
    rfl
  · have hN2 : Hid (takeN (s.data.toList.drop p) = (0, 0, 4)) := Lib.hid (by rw [hN.out, hv])
    have hne := nneqE t u
    clear hN hv
    go_wp2
    go_quiet (fail)
    go_wp2
    go_ret3
    exact ⟨by rw [hN2.out]; rfl, below_drewN HB1.out _⟩

theorem take_any (s : ByteArray) (p : Int) (w : World) (ad : Nat → Addr) (hs : s.size ≤ 1000000) (hE : Errs w ad) (hR : Rng w) :
    Calls Tryd.prog 30 #[.string s, .int .i64 p] w (TkPost w ad (takeO s.data.toList p)) := by
  by_cases h : p < 0 ∨ (s.size : Int) ≤ p
  · have e : takeO s.data.toList p = (0, 0, 1) := by
      unfold takeO
      by_cases h1 : p < 0
      · rw [if_pos h1]
      · rw [if_neg h1, List.drop_eq_nil_of_le (by simp; omega)]; rfl
    rw [e]; exact take_no s p w ad hE h
  · obtain ⟨n, rfl⟩ := Int.eq_ofNat_of_zero_le (show 0 ≤ p by omega)
    have e : takeO s.data.toList (n : Int) = takeN (s.data.toList.drop n) := by unfold takeO; rw [if_neg (by omega), Int.toNat_natCast]
    rw [e]; exact take_at s n w ad hs hE hR (by omega)

/-! ### Parse -/
def prV (ad : Nat → Addr) (q : Int × Nat) : Value := .tuple #[.int .i64 q.1, errV ad q.2]

/-! ### Text -/
end Go.Proofs.YtjcaffpmcgfhaaaDoor.intsC
