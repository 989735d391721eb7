/-
  Contracts of quote.Take and quote.Parse.
-/
import Derived.Test.YtjcaffpmcgfhaaaDoorQuoteA
import Derived.Test.YtjcaffpmcgfhaaaDoorErrs
import Derived.Lib.MapLaws
import Derived.Lib.OthersKept
import Derived.WalkSmall
namespace Go.Proofs.YtjcaffpmcgfhaaaDoor.quoteB
open Go.ChangeShapes Go.WideShapes Go.ChangeAt Go.RowKit utfP utfQ utfR runesA runesC runesD runesE quoteP quoteA errIs errs

/-- the error of syntax lies there -/
def Syn (w : World) (ad : Nat → Addr) : Prop := w.cell? ⟨1, 0, none⟩ = some (ev (ad 0))
theorem syn_below {w w' : World} {ad : Nat → Addr} (h : Syn w ad) (hb : Below w.heap.size w w') : Syn w' ad := by
  unfold Syn at *
  rw [hb.cell (World.block_lt_of_cell? w _ h)]; exact h

abbrev IsB (B b : Nat) (l : List UInt8) (w : World) : Prop := Lib.IsBuilderF 85 5 B b (Lib.byteCells l) w

theorem builderAt_below {B b : Nat} {p : Value} {bs : List Value} {W W' : World} (h : Lib.BuilderAtF 85 5 B b p bs W) (hb : Below W.heap.size W W') : Lib.BuilderAtF 85 5 B b p bs W' := by
  obtain ⟨h1, v, h2, h3, h4⟩ := h
  have hlt : b < W.heap.size := (Array.getElem?_eq_some_iff.1 h2).1
  refine ⟨h1, v, by rw [hb.block _ hlt]; exact h2, ?_, h4⟩
  exact Go.World.ownsRowF.kept h3 (row := none) ⟨hb.os, hb.tape, hb.output, hb.size, fun k hk _ => hb.block k hk⟩ (Classical.em _)
theorem isB_below {B b : Nat} {l : List UInt8} {W W' : World} (h : IsB B b l W) (hb : Below W.heap.size W W') : IsB B b l W' :=
  h.elim (fun h => Or.inl (builderAt_below h hb)) (fun h => Or.inr (builderAt_below h hb))

theorem new_builder (w : World) (o : Array Value) (h : o = #[.pointer none, .slice none 0 0]) : IsB w.heap.size w.heap.size [] (w.alloc (.cells o 85)) := by
  subst h
  refine Lib.IsBuilderF.of (Or.inl ⟨Nat.le_refl _, .slice none 0 0, ?_, World.ownsRow_nil _ _ _ _, by simp [Value.ownBlock]⟩)
  show (w.heap.push _)[w.heap.size]? = _
  simp

/-- the string at a text's head, with its quotes -/
noncomputable def stk (l : List UInt8) : Option (List UInt8 × Nat) := if bt l 0 = 34 then (tk l.tail).map fun q => (q.1, q.2 + 1) else none
noncomputable def takeO (l : List UInt8) (p : Int) : Option (List UInt8 × Nat) := if p < 0 then none else stk (l.drop p.toNat)

def tkV (ad : Nat → Addr) (o : Option (List UInt8 × Nat)) : Value := match o with
  | some q => .tuple #[.string ⟨q.1.toArray⟩, .int .i64 (q.2 : Int), .nilIface]
  | none => .tuple #[.string ⟨#[]⟩, .int .i64 0, ev (ad 0)]
def TkPost (w : World) (ad : Nat → Addr) (o : Option (List UInt8 × Nat)) (e : Ending) (w' : World) : Prop := e = .returned (tkV ad o) ∧ Below w.heap.size w w'

theorem stk_nil : stk [] = none := rfl
theorem stk_at (s : ByteArray) (p : Nat) (h : p < s.size) : stk (s.data.toList.drop p) = if s[p].toNat = 34 then (tk (s.data.toList.drop (p + 1))).map fun q => (q.1, q.2 + 1) else none := by
  have hb := bt_get s p 0 (by omega)
  simp only [Nat.add_zero] at hb
  unfold stk
  rw [hb, List.tail_drop]

theorem take_no (s : ByteArray) (p : Int) (w : World) (ad : Nat → Addr) (hE : Syn w ad) (h : p < 0 ∨ (s.size : Int) ≤ p) :
    Calls Tryd.prog 29 #[.string s, .int .i64 p] w (TkPost w ad none) := by
  have hg : w.cell? ⟨1, 0, none⟩ = some (ev (ad 0)) := hE
  clear hE
  by_cases h1 : p < 0
  · clear h
    go_enter Tryd.func29, Tryd.ntmps29
    go_wp2
    go_quiet (fail)
    go_wp2
    go_ret3
    exact ⟨rfl, below_drewN (Below.refl _ _) _⟩
  · have h2 : (s.size : Int) ≤ p := by omega
    clear h
    go_enter Tryd.func29, Tryd.ntmps29
    go_wp2
    go_quiet (fail)
    go_wp2
    go_ret3
    exact ⟨rfl, below_drewN (Below.refl _ _) _⟩

theorem take_noq (s : ByteArray) (p : Nat) (w : World) (ad : Nat → Addr) (hE : Syn w ad) (hp : p < s.size) (h : s[p].toNat ≠ 34) :
    Calls Tryd.prog 29 #[.string s, .int .i64 p] w (TkPost w ad none) := by
  have hg : w.cell? ⟨1, 0, none⟩ = some (ev (ad 0)) := hE
  have q0 : ((s[p].toNat : Int) != 34) = true := by rw [bne_iff_ne]; omega
  clear hE h
  go_enter Tryd.func29, Tryd.ntmps29
  go_wp2
  go_quiet (fail)
  go_wp2
  go_ret3
  exact ⟨rfl, below_drewN (Below.refl _ _) _⟩

theorem tk_go {l : List UInt8} {a p : Nat} {d : List UInt8} {r : Int} {k : Nat} (ha : a ≤ p) (h : tk (l.drop a) = (tk (l.drop p)).map fun x => (d ++ x.1, (p - a) + x.2)) (z : bt (l.drop p) 0 ≠ 34) (hq : pc (l.drop p) = some (r, k)) :
    tk (l.drop a) = (tk (l.drop (p + k))).map fun x => ((d ++ eb r) ++ x.1, (p + k - a) + x.2) := by
  rw [h, tk_yes z hq, List.drop_drop, Option.map_map]
  congr 1
  funext x
  simp only [Function.comp]
  rw [List.append_assoc]
  congr 1
  omega
theorem tk_fin {l : List UInt8} {a p : Nat} {d : List UInt8} (h : tk (l.drop a) = (tk (l.drop p)).map fun x => (d ++ x.1, (p - a) + x.2)) (hp : p < l.length) (z : bt (l.drop p) 0 = 34) :
    tk (l.drop a) = some (d, p - a + 1) := by
  rw [h, tk_end (by rw [ne_eq, List.drop_eq_nil_iff]; omega) z]; simp
theorem tk_fail {l : List UInt8} {a p : Nat} {d : List UInt8} (h : tk (l.drop a) = (tk (l.drop p)).map fun x => (d ++ x.1, (p - a) + x.2)) (z : bt (l.drop p) 0 ≠ 34) (hq : pc (l.drop p) = none) :
    tk (l.drop a) = none := by
  rw [h, tk_no z hq]; rfl
theorem tk_out {l : List UInt8} {a p : Nat} {d : List UInt8} (h : tk (l.drop a) = (tk (l.drop p)).map fun x => (d ++ x.1, (p - a) + x.2)) (hp : ¬ p < l.length) :
    tk (l.drop a) = none := by
  rw [h, List.drop_eq_nil_of_le (by omega)]; rfl

theorem write_cells (d : List UInt8) (r : Int) : Lib.byteCells d ++ Lib.strCells (Utf8.encode r) = Lib.byteCells (d ++ eb r) := by
  rw [Lib.strCells_eq, Lib.byteCells_append, eb_def]

set_option maxRecDepth 100000 in
theorem take_q (s : ByteArray) (a : Nat) (w : World) (ad : Nat → Addr) (hs : s.size ≤ 1000000) (hT : Tabs w) (hE : Syn w ad) (hp : a < s.size) (h : s[a].toNat = 34) :
    Calls Tryd.prog 29 #[.string s, .int .i64 a] w (TkPost w ad ((tk (s.data.toList.drop (a + 1))).map fun q => (q.1, q.2 + 1))) := by
  have q0 : ((s[a].toNat : Int) != 34) = false := by rw [h]; rfl
  have d1 : decide ((a : Int) < 0) = false := by simp
  have d2 : decide (s.size ≤ a) = false := by simp; omega
  have HT := Lib.hid hT
  have HE := Lib.hid hE
  clear hE hT h
  go_enter Tryd.func29, Tryd.ntmps29
  go_wp2
  go_loopw [8] (fun z wr => ∃ (p : Nat) (d : List UInt8), a + 1 ≤ p ∧ p ≤ s.size ∧ z = .int .i64 p ∧ d.length ≤ p ∧ IsB w.heap.size w.heap.size d wr ∧ Below w.heap.size w wr ∧ Hid (tk (s.data.toList.drop (a + 1)) = (tk (s.data.toList.drop p)).map fun x => (d ++ x.1, (p - (a + 1)) + x.2))) (fun z _ => s.size - (intOf z).toNat)
  case atStart => exact ⟨a + 1, [], Nat.le_refl _, by omega, by go_num, Nat.zero_le _, new_builder w _ rfl, (Below.refl _ _).alloc (Nat.le_refl _) _, Lib.hid (by cases tk (s.data.toList.drop (a + 1)) <;> simp)⟩
  case round =>
    obtain ⟨p, d, hap, hps, rfl, hd, hB, hb, htk⟩ := hrel
    have hsz := hb.size
    have HBd := Lib.hid hB
    have HB := Lib.hid hb
    have hg : wr.cell? ⟨1, 0, none⟩ = some (ev (ad 0)) := syn_below HE.out hb
    have hll : s.data.toList.length = s.size := by simp
    clear hB hb d1 d2 q0
    by_cases hlt : p < s.size
    · have hb0 := bt_get s p 0 (by omega)
      simp only [Nat.add_zero] at hb0
      by_cases h34 : s[p].toNat = 34
      · have q1 : ((s[p].toNat : Int) == 34) = true := by rw [h34]; rfl
        have hfin := Lib.hid (tk_fin htk.out (by omega) (by rw [hb0]; exact h34))
        have HS := Lib.hid (Tryd.Builder_String_any_f w.heap.size w.heap.size d wr HBd.out hsz)
        clear hb0 h34 htk hg hll
        go_wp2_with fail
        refine HS.out.mono ?_
        rintro e w1 ⟨rfl, _, hb2⟩
        have HN2 := Lib.hid (HB.out.trans hb2)
        clear hb2
        go_wp2
        go_ret3
        refine ⟨?_, HN2.out⟩
        rw [hfin.out]
        show _ = Ending.returned (.tuple #[.string ⟨d.toArray⟩, .int .i64 ((p - (a + 1) + 1 + 1 : Nat) : Int), .nilIface])
        rw [show ((p - (a + 1) + 1 + 1 : Nat) : Int) = (p : Int) + 1 - a by omega]
        rfl
      · have q1 : ((s[p].toNat : Int) == 34) = false := by rw [beq_eq_false_iff_ne]; omega
        have hz : bt (s.data.toList.drop p) 0 ≠ 34 := by rw [hb0]; exact h34
        have HP := piece_at s p wr hs hlt (tabs_below HT.out HB.out)
        cases hq : pc (s.data.toList.drop p) with
        | none =>
          have hN := Lib.hid (tk_fail htk.out hz hq)
          unfold PcPost at HP
          rw [hq] at HP
          have HP := Lib.hid HP
          clear hb0 h34 htk hz hll hq hg
          go_wp2_with fail
          refine HP.out.mono ?_
          rintro e w1 ⟨rfl, hb1⟩
          have HB1 := Lib.hid (HB.out.trans (hb1.mono hsz))
          have hg1 : w1.cell? ⟨1, 0, none⟩ = some (ev (ad 0)) := syn_below HE.out HB1.out
          clear hb1
          unfold pcV
          go_wp2
          go_quiet (fail)
          go_wp2
          go_ret3
          refine ⟨?_, below_drewN HB1.out _⟩
          rw [hN.out]; rfl
        | some q =>
          obtain ⟨r, k⟩ := q
          obtain ⟨p1, p2, p3, p4, p5, p6, p7⟩ := pc_ok hq
          rw [List.length_drop] at p4
          have hN := Lib.hid (tk_go hap htk.out hz hq)
          unfold PcPost at HP
          rw [hq] at HP
          have HP := Lib.hid HP
          have hr0 : 0 ≤ r := p1.1
          have hr1 : r ≤ 1114111 := p1.2.1
          have hez : (Utf8.encode r).size ≤ 4 := by rw [← eb_len]; exact p7
          have hel : (eb r).length ≤ k := p6
          clear hb0 h34 htk hz hq hg p1 p3 p5 p6 p7
          go_wp2_with fail
          refine HP.out.mono ?_
          rintro e w1 ⟨rfl, hb1⟩
          have HB1 := Lib.hid (HB.out.trans (hb1.mono hsz))
          have hz1 := HB1.out.size
          have HW := Lib.hid (Tryd.Builder_WriteString_f w.heap.size w.heap.size (Lib.byteCells d) (Utf8.encode r) w1 (isB_below HBd.out hb1) (by rw [Lib.byteCells_length]; omega) hz1)
          clear hb1
          unfold pcV
          go_wp2_with fail
          refine HW.out.mono ?_
          rintro e w2 ⟨rfl, hbd2, hb2⟩
          rw [write_cells] at hbd2
          have HBd2 := Lib.hid hbd2
          have HB2 := Lib.hid (HB1.out.trans hb2)
          clear hbd2 hb2
          go_wp2
          go_roundw
          case rel => exact ⟨p + k, d ++ eb r, by omega, by omega, by go_num, by rw [List.length_append]; omega, Or.inr HBd2.out, HB2.out, hN⟩
          case measure => simp [intOf]; omega
    · have hN := Lib.hid (tk_out htk.out (by omega))
      clear htk hll
      go_wp2
      go_quiet (fail)
      go_wp2
      go_ret3
      refine ⟨?_, below_drewN HB.out _⟩
      rw [hN.out]; rfl

theorem take_any (s : ByteArray) (p : Int) (w : World) (ad : Nat → Addr) (hs : s.size ≤ 1000000) (hT : Tabs w) (hE : Syn w ad) :
    Calls Tryd.prog 29 #[.string s, .int .i64 p] w (TkPost w ad (takeO s.data.toList p)) := by
  by_cases h : p < 0 ∨ (s.size : Int) ≤ p
  · have e : takeO s.data.toList p = none := by
      unfold takeO
      by_cases h1 : p < 0
      · rw [if_pos h1]
      · rw [if_neg h1, List.drop_eq_nil_of_le (by simp; omega)]; exact stk_nil
    rw [e]; exact take_no s p w ad hE h
  · obtain ⟨n, rfl⟩ := Int.eq_ofNat_of_zero_le (show 0 ≤ p by omega)
    have hn : n < s.size := by omega
    have e : takeO s.data.toList (n : Int) = stk (s.data.toList.drop n) := by unfold takeO; rw [if_neg (by omega), Int.toNat_natCast]
    rw [e, stk_at s n hn]
    by_cases hq : s[n].toNat = 34
    · rw [if_pos hq]; exact take_q s n w ad hs hT hE hn hq
    · rw [if_neg hq]; exact take_noq s n w ad hE hn hq

/-! ### Parse -/
/-- a whole text that is a string: what it means -/
noncomputable def prs (l : List UInt8) : Option (List UInt8) := match stk l with
  | some q => if q.2 = l.length then some q.1 else none
  | none => none
def prV (ad : Nat → Addr) (o : Option (List UInt8)) : Value := match o with
  | some x => .tuple #[.string ⟨x.toArray⟩, .nilIface]
  | none => .tuple #[.string ⟨#[]⟩, ev (ad 0)]

theorem nneqE (a : Addr) (w : World) : (binOp .neq 30 (ev a) .nilIface).run Tryd.prog w = .ok (.bool true) w := by kernel_rfl
theorem nneqN (w : World) : (binOp .neq 30 .nilIface .nilIface).run Tryd.prog w = .ok (.bool false) w := by kernel_rfl

end Go.Proofs.YtjcaffpmcgfhaaaDoor.quoteB
