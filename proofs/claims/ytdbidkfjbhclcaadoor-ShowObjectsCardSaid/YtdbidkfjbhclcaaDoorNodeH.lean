/-
  show.writer: quoted, and value where a value contains no other one.
-/
import Derived.Test.YtdbidkfjbhclcaaDoorNodeG
import Derived.Test.YtdbidkfjbhclcaaDoorQuoM
import Derived.Test.YtdbidkfjbhclcaaDoorIntM
import Derived.Test.YtdbidkfjbhclcaaDoorBld
namespace Go.Proofs.YtdbidkfjbhclcaaDoor.nodeH
open Go.ChangeShapes Go.WideShapes Go.ChangeAt Go.RowKit Go.WideMaps Go.Maps nodeP nodeQ nodeA nodeB nodeC nodeD nodeE nodeF nodeG runesE bld
open errIs errs

/-- the texts of the values that are one word -/
def Wds (w : World) : Prop := w.cell? ⟨13, 1, none⟩ = some (.string ⟨(nodeQ.bytes "null").toArray⟩) ∧ w.cell? ⟨13, 2, none⟩ = some (.string ⟨(nodeQ.bytes "false").toArray⟩) ∧ w.cell? ⟨13, 3, none⟩ = some (.string ⟨(nodeQ.bytes "true").toArray⟩)
theorem wds_below {w w' : World} (h : Wds w) (hb : Below w.heap.size w w') : Wds w' := by
  obtain ⟨h1, h2, h3⟩ := h
  refine ⟨?_, ?_, ?_⟩
  · rw [hb.cell (World.block_lt_of_cell? w _ h1)]; exact h1
  · rw [hb.cell (World.block_lt_of_cell? w _ h2)]; exact h2
  · rw [hb.cell (World.block_lt_of_cell? w _ h3)]; exact h3

/-- all that the code of show reads besides its arguments -/
structure Env (w : World) (ad : Nat → Addr) : Prop where
  tabs : Tabs w
  syn : quoteB.Syn w ad
  typ : w.cell? ⟨0, 0, none⟩ = some (ev (ad 5))
  ctl : quoteA.Ctl w
  pow : intsC.Pow w
  wds : Wds w
theorem Env.below {w w' : World} {ad : Nat → Addr} (h : Env w ad) (hb : Below w.heap.size w w') : Env w' ad :=
  ⟨tabs_below h.tabs hb, quoteB.syn_below h.syn hb, by rw [hb.cell (World.block_lt_of_cell? w _ h.typ)]; exact h.typ, quoteA.ctl_below h.ctl hb, intsC.pow_below h.pow hb, wds_below h.wds hb⟩

/-- the builder in block b holds bytes -/
def WB (B b : Nat) (o : List UInt8) (w : World) : Prop := Lib.IsBuilderF 50 5 B b (Lib.byteCells o) w
/-- what writing turns -/
def WR (B b : Nat) (w w' : World) : Prop := Below B w w' ∧ Lib.OthersKept 5 (some b) w w'
theorem WR.refl (B b : Nat) (w : World) : WR B b w w := ⟨Below.refl _ _, Lib.OthersKept.refl _ _ _⟩
theorem WR.trans {B b : Nat} {w w1 w2 : World} (h : WR B b w w1) (k : WR B b w1 w2) : WR B b w w2 := ⟨h.1.trans k.1, h.2.trans k.2⟩
theorem WR.of_below {B b : Nat} {w w' : World} (hb : Below w.heap.size w w') (hB : B ≤ w.heap.size) : WR B b w w' :=
  ⟨Go.Joins.below_le hb hB, fun k o hk _ _ => by rw [hb.block k (Array.getElem?_eq_some_iff.1 hk).1]; exact hk⟩
theorem WR.alloc {B b : Nat} {w w' : World} (h : WR B b w w') (hB : B ≤ w'.heap.size) (o : Obj) : WR B b w (w'.alloc o) := ⟨h.1.alloc hB o, h.2.alloc o⟩

theorem WB.below {B b : Nat} {o : List UInt8} {w w' : World} (h : WB B b o w) (hb : Below w.heap.size w w') : WB B b o w' := by
  have main : ∀ p, Lib.BuilderAtF 50 5 B b p (Lib.byteCells o) w → Lib.BuilderAtF 50 5 B b p (Lib.byteCells o) w' := by
    intro p ⟨hB, v, hbk, hown, hne⟩
    refine ⟨hB, v, by rw [hb.block b (Array.getElem?_eq_some_iff.1 hbk).1]; exact hbk, ⟨hown.1, ?_⟩, hne⟩
    rcases hown.2 with hn | ⟨g, cap, cur, fz, hv, hbg, hg, rest⟩
    · exact .inl hn
    · exact .inr ⟨g, cap, cur, fz, hv, hbg, by rw [hb.block g (Array.getElem?_eq_some_iff.1 hg).1]; exact hg, rest⟩
  exact Or.elim h (fun x => .inl (main _ x)) (fun x => .inr (main _ x))
theorem WB.alloc {B b : Nat} {o : List UInt8} {w : World} (h : WB B b o w) (x : Obj) : WB B b o (w.alloc x) := Lib.IsBuilderF.alloc h x
theorem WB.lt {B b : Nat} {o : List UInt8} {w : World} (h : WB B b o w) : b < w.heap.size := Or.elim h (fun x => x.lt) (fun x => x.lt)

theorem wByte (B b : Nat) (o : List UInt8) (c : UInt8) (w : World) (h : WB B b o w) (hlen : Lim (o.length + 1)) (hBw : B ≤ w.heap.size) :
    Calls Tryd.prog 49 #[.pointer (some ⟨b, 0, none⟩), .int .u8 (c.toNat : Int)] w fun e w' => e = .returned .nilIface ∧ WB B b (o ++ [c]) w' ∧ WR B b w w' := by
  refine (writeByte B b (Lib.byteCells o) c.toNat w h (by rw [Lib.byteCells_length]; exact hlen) hBw).mono ?_
  rintro e w' ⟨rfl, h1, h2, h3⟩
  refine ⟨rfl, ?_, h2, h3⟩
  unfold WB
  rw [← quoteC.cells1]
  exact .inr h1
theorem wString (B b : Nat) (o l : List UInt8) (w : World) (h : WB B b o w) (hlen : Lim (o.length + l.length)) (hBw : B ≤ w.heap.size) :
    Calls Tryd.prog 27 #[.pointer (some ⟨b, 0, none⟩), .string ⟨l.toArray⟩] w fun e w' => e = .returned (.tuple #[.int .i64 (⟨l.toArray⟩ : ByteArray).size, .nilIface]) ∧ WB B b (o ++ l) w' ∧ WR B b w w' := by
  refine (writeString B b (Lib.byteCells o) ⟨l.toArray⟩ w h (by rw [Lib.byteCells_length]; show Lim (o.length + l.toArray.size); simpa using hlen) hBw).mono ?_
  rintro e w' ⟨rfl, h1, h2, h3⟩
  refine ⟨rfl, ?_, h2, h3⟩
  unfold WB
  rw [Lib.byteCells_append]
  exact .inr h1

theorem qt_len (l : List UInt8) : (quoteP.qt l).length ≤ 6 * l.length + 2 := by
  unfold quoteP.qt
  have := (quoteP.flat_len l).2
  simp only [List.length_cons, List.length_append, List.length_nil]
  omega

set_option maxRecDepth 100000 in
theorem quoted_any (B b : Nat) (o : List UInt8) (s : ByteArray) (w : World) (ad : Nat → Addr) (h : WB B b o w) (hv : vld s = true) (hs : s.size ≤ 100000) (hlen : Lim (o.length + (6 * s.size + 2))) (hBw : B ≤ w.heap.size) (hE : Env w ad) :
    Calls Tryd.prog 29 #[.pointer (some ⟨b, 0, none⟩), .string s] w fun e w' => e = .returned (.bool true) ∧ WB B b (o ++ quoteP.qt s.data.toList) w' ∧ WR B b w w' := by
  have hq : quoteC.qtV ad s.data.toList = .tuple #[.string ⟨(quoteP.qt s.data.toList).toArray⟩, .nilIface] := by unfold quoteC.qtV; exact if_pos hv
  have H1 := Lib.hid (quoteC.quote_any s w ad hs hE.tabs hE.syn hE.ctl)
  rw [hq] at H1
  have HW := Lib.hid h
  have hn := intsC.nneqN
  have hl : (quoteP.qt s.data.toList).length ≤ 6 * s.size + 2 := by have := qt_len s.data.toList; rw [Array.length_toList, ByteArray.size_data] at this; exact this
  have HL : Hid (Lim (o.length + (quoteP.qt s.data.toList).length)) := Lib.hid (by unfold Lim at hlen ⊢; omega)
  clear h hE hlen hv hq hl
  generalize quoteP.qt s.data.toList = q at *
  go_enter Tryd.func29, Tryd.ntmps29
  go_wp2_with fail
  refine H1.out.mono ?_
  rintro e w1 ⟨rfl, hb1⟩
  have HR1 := Lib.hid (WR.of_below (b := b) hb1 hBw)
  have HW1 := Lib.hid (HW.out.below hb1)
  have hz1 := hb1.size
  clear hb1
  go_wp2_with fail
  refine (wString B b o q w1 HW1.out HL.out (by omega)).mono ?_
  rintro e w2 ⟨rfl, h2, h3⟩
  have HW2 := Lib.hid h2
  have HR2 := Lib.hid (HR1.out.trans h3)
  clear h2 h3
  go_wp2
  go_ret
  exact ⟨rfl, HW2.out, HR2.out⟩
end Go.Proofs.YtdbidkfjbhclcaaDoor.nodeH
