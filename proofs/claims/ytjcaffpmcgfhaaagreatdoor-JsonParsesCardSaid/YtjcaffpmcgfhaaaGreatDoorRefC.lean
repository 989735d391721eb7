/-
  What the reference's value leaves; contract of array.
-/
import Derived.Test.YtjcaffpmcgfhaaaGreatDoorRefB
import Derived.Test.YtjcaffpmcgfhaaaGreatDoorHeld
import Derived.Deep.AppendLies
import Derived.Deep.DrawnRows
import Derived.Laws.Pointers
namespace Go.Proofs.YtjcaffpmcgfhaaaGreatDoor.refC
open Go.ChangeShapes Go.WideShapes Go.ChangeAt Go.RowKit Go.WideMaps Go.Maps nodeP nodeQ nodeS ownI jsonP jsonM jsonN jsonO jsonA jsonB refA refB jsonQ
set_option linter.unusedSimpArgs false
set_option linter.unusedVariables false

theorem jsonRinfo : (Tryz.prog.info? 26).map (fun i => (i.zero, i.size, i.bytes)) = some (some (.agg #[.int .i64 0, .int .i64 0, .string ⟨#[]⟩, .slice none 0 0, .slice none 0 0]), 5, 80) := by kernel_rfl
/-- a value's cells -/
structure Nw where
  k : Int
  m : Int
  t : ByteArray
  a1 : Option Addr
  n1 : Nat
  c1 : Nat
  a2 : Option Addr
  n2 : Nat
  c2 : Nat
def Nw.l (v : Nw) : List Value := [.int .i64 v.k, .int .i64 v.m, .string v.t, .slice v.a1 v.n1 v.c1, .slice v.a2 v.n2 v.c2]
def Fresh (w w' : World) (b : Nat) : Prop := w.heap.size ≤ b ∧ b < w'.heap.size
def R3P (rb : Nat) (s : ByteArray) (r : R3) (w w' : World) (l : List Value) : Prop := ∃ p' e' n' : Nat, Rw w' rb s p' e' n' ∧ match r with
  | .ok x v m => e' = 0 ∧ n' = m ∧ p' ≤ s.size ∧ s.data.toList.drop p' = v ∧ NodeIn w' (Fresh w w') x l
  | .err k => e' = k ∧ k ≠ 0
  | .stuck => False
/-- what value leaves -/
def VlP (rb : Nat) (s : ByteArray) (r : R3) (w : World) (x : Ending) (w' : World) : Prop := ∃ v : Nw, x = .returned (.agg #[.int .i64 v.k, .int .i64 v.m, .string v.t, .slice v.a1 v.n1 v.c1, .slice v.a2 v.n2 v.c2]) ∧ w.grownBy w' (some rb) ∧ R3P rb s r w w' v.l

/-- what stays below the memory of an Array or an Object -/
structure Nr (B rb ob : Nat) (w w' : World) : Prop where
  os : w'.os = w.os
  tape : w'.tape = w.tape
  output : w'.output = w.output
  size : w.heap.size ≤ w'.heap.size
  block : ∀ b, b < B → b ≠ rb → b ≠ ob → w'.heap[b]? = w.heap[b]?
section
variable {B rb ob : Nat} {w w' w3 : World}
theorem Nr.refl (w : World) : Nr B rb ob w w := ⟨rfl, rfl, rfl, Nat.le_refl _, fun _ _ _ _ => rfl⟩
theorem Nr.trans {a b c : World} (h : Nr B rb ob a b) (k : Nr B rb ob b c) : Nr B rb ob a c :=
  ⟨k.os.trans h.os, k.tape.trans h.tape, k.output.trans h.output, Nat.le_trans h.size k.size, fun j h1 h2 h3 => (k.block j h1 h2 h3).trans (h.block j h1 h2 h3)⟩
theorem Nr.grown {row : Option Nat} (h : w.grownBy w' row) (hB : B ≤ w.heap.size) (hr : ∀ c, row = some c → B ≤ c ∨ c = rb ∨ c = ob) : Nr B rb ob w w' :=
  ⟨h.os, h.tape, h.output, h.size, fun b h1 h2 h3 => h.block b (by omega) (fun e => by rcases hr b e.symm with h | h | h; omega; exact h2 h; exact h3 h)⟩
theorem Nr.below (h : Below w.heap.size w w') (hB : B ≤ w.heap.size) : Nr B rb ob w w' := Nr.grown (grown_below h none) hB (fun c e => by cases e)
theorem Nr.call (h : w.grownBy w' (some rb)) (hB : B ≤ w.heap.size) : Nr B rb ob w w' := Nr.grown h hB (fun c e => .inr (.inl (Option.some.inj e).symm))
theorem Nr.set (w : World) (j : Nat) (x : Value) (hB : B ≤ w.heap.size) : Nr B rb ob w (w.setCell ⟨ob, j, none⟩ x) := Nr.grown (g1 w ob j x) hB (fun c e => .inr (.inr (Option.some.inj e).symm))
theorem Nr.whole (h : Nr B rb ob w w') {b : Nat} {t : TypeId} {l : List Value} (hW : Whole w b t l) (h1 : b < B) (h2 : b ≠ rb) (h3 : b ≠ ob) : Whole w' b t l := (h.block b h1 h2 h3).trans hW
theorem Nr.out (h : Nr B rb ob w3 w') (h0 : w.grownBy w3 (some rb)) (h1 : w.heap.size ≤ ob) (h2 : w.heap.size ≤ B) : w.grownBy w' (some rb) :=
  ⟨h.os.trans h0.os, h.tape.trans h0.tape, h.output.trans h0.output, Nat.le_trans h0.size h.size, fun b hb hne => (h.block b (by omega) (fun e => hne (by rw [e])) (by omega)).trans (h0.block b hb hne)⟩
end

/-- the end: what lies in out is the result -/
theorem fin_any {w w3 w9 : World} {B rb ob qb : Nat} {s : ByteArray} {p e n : Nat} {kd : Int} {ks : List ByteArray} {cs : List Nd} {F : Jx → Thing} {P : Nat → Prop} {q0 q1 q2 q3 q4 : Value} {r : R3} (hM : OM w9 B rb ob s p e n kd ks cs F P) (hq : Whole w9 qb 26 [q0, q1, q2, q3, q4]) (hqB : qb < B ∧ qb ≠ rb ∧ qb ≠ ob)
    (hN : Nr B rb ob w3 w9) (h03 : w.grownBy w3 (some rb)) (h1 : w.heap.size ≤ ob) (h2 : w.heap.size ≤ qb) (hk : In64 kd) (hr0 : e = 0 → r = .ok (.mk kd 0 ByteArray.empty ks cs) (s.data.toList.drop p) n ∧ p ≤ s.size ∧ ks.length ≤ maxLen ∧ cs.length ≤ maxLen) (hr1 : e ≠ 0 → r = .err e)
    {a1 a2 : Option Addr} {n1 c1 n2 c2 : Nat} (e1 : (F .keys).val = .slice a1 n1 c1) (e2 : (F .kids).val = .slice a2 n2 c2) :
    Whole (((((w9.setCell ⟨qb, 0, none⟩ (.int .i64 kd)).setCell ⟨qb, 1, none⟩ (.int .i64 0)).setCell ⟨qb, 2, none⟩ (.string ByteArray.empty)).setCell ⟨qb, 3, none⟩ (.slice a1 n1 c1)).setCell ⟨qb, 4, none⟩ (.slice a2 n2 c2)) qb 26 [.int .i64 kd, .int .i64 0, .string ByteArray.empty, .slice a1 n1 c1, .slice a2 n2 c2] ∧
    VlP rb s r w (.returned (.agg #[.int .i64 kd, .int .i64 0, .string ByteArray.empty, .slice a1 n1 c1, .slice a2 n2 c2])) (((((w9.setCell ⟨qb, 0, none⟩ (.int .i64 kd)).setCell ⟨qb, 1, none⟩ (.int .i64 0)).setCell ⟨qb, 2, none⟩ (.string ByteArray.empty)).setCell ⟨qb, 3, none⟩ (.slice a1 n1 c1)).setCell ⟨qb, 4, none⟩ (.slice a2 n2 c2)) := by
  have hW := set5_whole hq (.int .i64 kd) (.int .i64 0) (.string ByteArray.empty) (.slice a1 n1 c1) (.slice a2 n2 c2)
  have hG := set5_grown w9 qb (.int .i64 kd) (.int .i64 0) (.string ByteArray.empty) (.slice a1 n1 c1) (.slice a2 n2 c2)
  have hws := hM.hB
  have hgw := hN.out h03 h1 (by omega)
  refine ⟨hW, ⟨kd, 0, ByteArray.empty, a1, n1, c1, a2, n2, c2⟩, rfl, gr_two hgw hG (.inr h2), p, e, n, Whole.kept hM.rd hG (fun e => hqB.2.1 (Option.some.inj e)), ?_⟩
  by_cases he : e = 0
  · subst he
    obtain ⟨rfl, hp, hl1, hl2⟩ := hr0 rfl
    refine ⟨rfl, rfl, hp, rfl, ?_⟩
    have := hM.done hk hl1 hl2 (Nat.le_refl _)
    rw [e1, e2] at this
    refine this.keep (fun b hb => ⟨by have := hgw.size; omega, ?_⟩) (fun b hb => hG.block b hb.2 (fun e => by have := Option.some.inj e; omega))
    exact Nat.lt_of_lt_of_le hb.2 hG.size
  · rw [hr1 he]; exact ⟨rfl, he⟩
theorem key_val {w : World} {B rb ob : Nat} {s : ByteArray} {p e n : Nat} {kd : Int} {ks : List ByteArray} {cs : List Nd} {F : Jx → Thing} {P : Nat → Prop} (h : OM w B rb ob s p e n kd ks cs F P) : ∃ a c, (F .keys).val = .slice a ks.length c := by
  obtain ⟨v, hv⟩ := h.kys
  have := h.own.1 .keys
  rw [hv] at this ⊢
  exact row_form this
theorem kid_val {w : World} {B rb ob : Nat} {s : ByteArray} {p e n : Nat} {kd : Int} {ks : List ByteArray} {cs : List Nd} {F : Jx → Thing} {P : Nat → Prop} (h : OM w B rb ob s p e n kd ks cs F P) : ∃ a c, (F .kids).val = .slice a cs.length c := by
  obtain ⟨v, ls, hv, _⟩ := h.kds
  have := h.own.1 .kids
  rw [hv] at this ⊢
  exact row_form this

/-- an Array's reading, behind its first byte -/
noncomputable def arrR (d n : Nat) (u : List UInt8) : R3 := if hd (bs u) = 93 then .ok (Fr.mk false [] []).node (bs u).tail n else rr d n (bs u) ⟨false, [], []⟩
/-- the contract of value, for rests that are not too long -/
def ValC (s : ByteArray) (N : Nat) : Prop := ∀ (w : World) (rb p d n : Nat), p ≤ s.size → s.size - p ≤ N → d ≤ 32 → n ≤ 20000 → Rw w rb s p 0 n →
  Calls Tryz.prog 11 #[.pointer (some ⟨rb, 0, none⟩), .int .i64 d] w (VlP rb s (rv d n (s.data.toList.drop p)) w)

/-- behind a kid -/
noncomputable def cont (d : Nat) (g : Fr) : R3 → R3
  | .ok y v m => rt d m v ⟨g.obj, g.keys, g.kids ++ [y]⟩
  | .err e => .err e
  | .stuck => .stuck
/-- what value leaves, and what is to be done behind it -/
theorem after_value {wr w6 : World} {B rb ob : Nat} {s : ByteArray} {p n d : Nat} {kd : Int} {g : Fr} {F : Jx → Thing} {P : Nat → Prop} {r1 R : R3} {l : List Value} (hOM : OM wr B rb ob s p 0 n kd g.keys g.kids F P) (hG : wr.grownBy w6 (some rb)) (hR : R3P rb s r1 wr w6 l) (hr1 : rv (d + 1) n (s.data.toList.drop p) = r1)
    (hR' : cont d g r1 = R) (hp : p ≤ s.size) (hd : d < 32) (hn : n ≤ 20000) :
    ∃ (x : Nd) (P3 : Nat → Prop) (p3 e3 n3 : Nat), OM w6 B rb ob s p3 e3 n3 kd g.keys g.kids F P3 ∧ (e3 = 0 → NodeIn w6 P3 x l) ∧ ((e3 = 0 ∧ p < p3 ∧ p3 ≤ s.size ∧ n3 ≤ 20000 ∧ rt d n3 (s.data.toList.drop p3) ⟨g.obj, g.keys, g.kids ++ [x]⟩ = R) ∨ (e3 ≠ 0 ∧ R = .err e3)) := by
  obtain ⟨p3, e3, n3, hR3, hm⟩ := hR
  have hO6 := hOM.call hG hR3 (fun _ => rfl)
  cases r1 with
  | ok y v m =>
    obtain ⟨rfl, rfl, hp3, rfl, hx⟩ := hm
    have hlen := rv_len hr1
    rw [List.length_drop, List.length_drop, Array.length_toList, ByteArray.size_data] at hlen
    have hgood := jsonR.rv_good (d := d + 1) (n := n) (u := s.data.toList.drop p) (by omega) hn
    rw [hr1] at hgood
    obtain ⟨_, _, _, hm3, _⟩ := hgood (by omega) hn
    refine ⟨y, _, p3, 0, n3, hO6.shut (Fresh wr w6) (fun b hb => ⟨by have := hOM.hB; have := hb.1; omega, hb.2, fun k hk => by have := (hOM.blkB k b hk).2; have := hb.1; omega⟩), fun _ => hx.keep (fun b hb => .inr hb) (fun _ _ => rfl), .inl ⟨rfl, by omega, hp3, hm3, hR'⟩⟩
  | err k =>
    obtain ⟨rfl, hk⟩ := hm
    exact ⟨word 0, P, p3, e3, n3, hO6, fun e => absurd e hk, .inr ⟨hk, hR'.symm⟩⟩
  | stuck => exact hm.elim

/-- at the head of array's loop -/
def AL (w w3 : World) (B rb ob qb : Nat) (s : ByteArray) (N d : Nat) (R : R3) (wr : World) : Prop :=
  ∃ (p e n : Nat) (cs : List Nd) (F : Jx → Thing) (P : Nat → Prop), OM wr B rb ob s p e n 6 [] cs F P ∧ Whole wr qb 26 [.int .i64 0, .int .i64 0, .string ⟨#[]⟩, .slice none 0 0, .slice none 0 0] ∧ Nr B rb ob w3 wr ∧
    ((e = 0 ∧ s.size - p ≤ N ∧ p ≤ s.size ∧ n ≤ 20000 ∧ cs.length ≤ p ∧ rr d n (s.data.toList.drop p) ⟨false, [], cs⟩ = R) ∨ (e ≠ 0 ∧ R = .err e))

set_option maxRecDepth 100000 in
set_option maxHeartbeats 4000000 in
theorem array_any (s : ByteArray) (N : Nat) (hV : ValC s N) (hs : s.size ≤ 100000) (w : World) (rb p d n : Nat) (hp : p ≤ s.size) (hpN : s.size - p ≤ N) (hdp : d < 32) (hn : n ≤ 20000) (h : Rw w rb s p 0 n) :
    Calls Tryz.prog 27 #[.pointer (some ⟨rb, 0, none⟩), .int .i64 d] w (VlP rb s (arrR d n (s.data.toList.drop p)) w) := by
  have hrw := Whole.lt h
  have b1 : Below w.heap.size w (w.alloc (.cells #[.int .i64 0, .int .i64 0, .string ⟨#[]⟩, .slice none 0 0, .slice none 0 0] 26)) := (Below.refl _ _).alloc (Nat.le_refl _) _
  have b2 : Below w.heap.size w ((w.alloc (.cells #[.int .i64 0, .int .i64 0, .string ⟨#[]⟩, .slice none 0 0, .slice none 0 0] 26)).alloc (.cells #[.int .i64 6, .int .i64 0, .string ⟨#[]⟩, .slice none 0 0, .slice none 0 0] 26)) := b1.alloc (by simp) _
  have hb21 : Below (w.alloc (.cells #[.int .i64 0, .int .i64 0, .string ⟨#[]⟩, .slice none 0 0, .slice none 0 0] 26)).heap.size (w.alloc (.cells #[.int .i64 0, .int .i64 0, .string ⟨#[]⟩, .slice none 0 0, .slice none 0 0] 26)) ((w.alloc (.cells #[.int .i64 0, .int .i64 0, .string ⟨#[]⟩, .slice none 0 0, .slice none 0 0] 26)).alloc (.cells #[.int .i64 6, .int .i64 0, .string ⟨#[]⟩, .slice none 0 0, .slice none 0 0] 26)) := (Below.refl _ _).alloc (Nat.le_refl _) _
  have n0 : Whole (w.alloc (.cells #[.int .i64 0, .int .i64 0, .string ⟨#[]⟩, .slice none 0 0, .slice none 0 0] 26)) w.heap.size 26 [.int .i64 0, .int .i64 0, .string ⟨#[]⟩, .slice none 0 0, .slice none 0 0] := Whole.new w 26 [.int .i64 0, .int .i64 0, .string ⟨#[]⟩, .slice none 0 0, .slice none 0 0]
  have w3Q := n0.below hb21 n0.lt
  have w3W : Whole ((w.alloc (.cells #[.int .i64 0, .int .i64 0, .string ⟨#[]⟩, .slice none 0 0, .slice none 0 0] 26)).alloc (.cells #[.int .i64 6, .int .i64 0, .string ⟨#[]⟩, .slice none 0 0, .slice none 0 0] 26)) (w.heap.size + 1) 26 [.int .i64 6, .int .i64 0, .string ⟨#[]⟩, .slice none 0 0, .slice none 0 0] := by
    have := Whole.new (w.alloc (.cells #[.int .i64 0, .int .i64 0, .string ⟨#[]⟩, .slice none 0 0, .slice none 0 0] 26)) 26 [.int .i64 6, .int .i64 0, .string ⟨#[]⟩, .slice none 0 0, .slice none 0 0]
    rw [show (w.alloc (.cells #[.int .i64 0, .int .i64 0, .string ⟨#[]⟩, .slice none 0 0, .slice none 0 0] 26)).heap.size = w.heap.size + 1 from by simp] at this
    exact this
  have w3s : w.heap.size + 2 ≤ ((w.alloc (.cells #[.int .i64 0, .int .i64 0, .string ⟨#[]⟩, .slice none 0 0, .slice none 0 0] 26)).alloc (.cells #[.int .i64 6, .int .i64 0, .string ⟨#[]⟩, .slice none 0 0, .slice none 0 0] 26)).heap.size := by simp
  have w3R := h.new b2
  have w3g := grown_below b2 (some rb)
  have hdI : IntKind.i64.wrap ((d : Int) + 1) = (((d + 1 : Nat)) : Int) := by rw [IntWalk.i64_in _ (by omega)]; omega
  go_enter Tryz.func27, Tryz.ntmps27
  go_wp2_with fail
  generalize (w.alloc (.cells #[.int .i64 0, .int .i64 0, .string ⟨#[]⟩, .slice none 0 0, .slice none 0 0] 26)).alloc (.cells #[.int .i64 6, .int .i64 0, .string ⟨#[]⟩, .slice none 0 0, .slice none 0 0] 26) = w3 at *
  have HOM3 := OM.start (B := w.heap.size + 2) (ob := w.heap.size + 1) w3R w3W (by omega)
  have HARR : Hid (arrR d n (s.data.toList.drop p) = if hd (bs (s.data.toList.drop p)) = 93 then .ok (Fr.mk false [] []).node (bs (s.data.toList.drop p)).tail n else rr d n (bs (s.data.toList.drop p)) ⟨false, [], []⟩) := Lib.hid rfl
  generalize arrR d n (s.data.toList.drop p) = R at *
  have HNX := Lib.hid (next_any w3 rb s p n w3R hp (by omega))
  have HQ3 := Lib.hid w3Q
  have HG3 := Lib.hid w3g
  have hws : w.heap.size ≤ w.heap.size := Nat.le_refl _
  have hqB : w.heap.size < w.heap.size + 2 ∧ w.heap.size ≠ rb ∧ w.heap.size ≠ w.heap.size + 1 := by omega
  have hq1 : w.heap.size ≤ w.heap.size + 1 := by omega
  have hob : w.heap.size + 1 ≠ rb := by omega
  have hoq : w.heap.size + 1 ≠ w.heap.size := by omega
  clear b1 b2 hb21 n0 w3W w3Q w3R w3g h hrw
  obtain ⟨F3, hOM3⟩ := HOM3
  refine HNX.out.mono ?_
  rintro x w4 ⟨rfl, p1, hpp, hp1, hdr, hM4, hG4⟩
  have HOM4 := Lib.hid (hOM3.call hG4 hM4 id)
  have HN4 : Hid (Nr (w.heap.size + 2) rb (w.heap.size + 1) w3 w4) := Lib.hid (Nr.call hG4 (by omega))
  have HQ4 := Lib.hid (HN4.out.whole HQ3.out (by omega) (by omega) (by omega))
  have HDR := Lib.hid hdr
  clear hM4 hG4 hOM3 HNX HQ3 hdr
  generalize hqb : w.heap.size = qb at *
  have HQB := Lib.hid hqb
  clear hqb
  generalize hob' : qb + 1 = ob at *
  have HOB := Lib.hid hob'
  clear hob'
  by_cases he : hd (bs (s.data.toList.drop p)) = 93
  · rw [he, if_pos rfl] at HARR
    rw [he]
    obtain ⟨f0, f1, f2, f3, f4⟩ := HOM4.out.rd.field
    have z1 := f4 1
    obtain ⟨c0, c1, c2, c3, c4⟩ := whole5 HOM4.out.out
    obtain ⟨a1, k1, e1⟩ := key_val HOM4.out
    obtain ⟨a2, k2, e2⟩ := kid_val HOM4.out
    rw [e1] at c3
    rw [e2] at c4
    obtain ⟨x0, x1, x2, x3, x4⟩ := whole5 HQ4.out
    have y0 := HQ4.out.frozen 0
    have y1 := HQ4.out.frozen 1
    have y2 := HQ4.out.frozen 2
    have y3 := HQ4.out.frozen 3
    have y4 := HQ4.out.frozen 4
    have HE1 := Lib.hid e1
    have HE2 := Lib.hid e2
    clear f2 f3 f4 e1 e2
    go_wp2
    have HOM5 : Hid (OM (w4.setCell ⟨rb, 1, none⟩ (.int .i64 ((p1 : Int) + 1))) (qb + 2) rb ob s (p1 + 1) 0 n 6 [] [] F3 (fun _ => False)) := Lib.hid (HOM4.out.call (g1 w4 rb 1 _) (HOM4.out.rd.setP (p1 + 1)) id)
    have HN5 : Hid (Nr (qb + 2) rb ob w3 (w4.setCell ⟨rb, 1, none⟩ (.int .i64 ((p1 : Int) + 1)))) := Lib.hid (HN4.out.trans (Nr.call (g1 w4 rb 1 _) HOM4.out.hB.2.2.2))
    have HQ5 := Lib.hid (HQ4.out.kept (g1 w4 rb 1 (.int .i64 ((p1 : Int) + 1))) (fun e => hqB.2.1 (Option.some.inj e).symm))
    have hlt : p1 < s.size := hd_drop (by rw [HDR.out, he]; decide)
    generalize w4.setCell ⟨rb, 1, none⟩ (.int .i64 ((p1 : Int) + 1)) = w5 at *
    obtain ⟨hW9, hP9⟩ := fin_any (r := R) HOM5.out HQ5.out hqB HN5.out HG3.out (by rw [HQB.out]; exact hq1) (by rw [HQB.out]; exact Nat.le_refl _) (show In64 6 by unfold In64; omega) (fun _ => ⟨HARR.out.trans (by rw [← HDR.out, List.tail_drop]; rfl), hlt, Nat.zero_le _, Nat.zero_le _⟩) (fun e => absurd rfl e) HE1.out HE2.out
    generalize ((((w5.setCell ⟨qb, 0, none⟩ (.int .i64 6)).setCell ⟨qb, 1, none⟩ (.int .i64 0)).setCell ⟨qb, 2, none⟩ (.string ByteArray.empty)).setCell ⟨qb, 3, none⟩ (.slice a1 0 k1)).setCell ⟨qb, 4, none⟩ (.slice a2 0 k2) = w9 at *
    obtain ⟨k0', k1', k2', k3', k4'⟩ := whole5 hW9
    refine bodyPost_ret (v := .agg #[.int .i64 6, .int .i64 0, .string ByteArray.empty, .slice a1 ([] : List ByteArray).length k1, .slice a2 ([] : List Nd).length k2]) (by simp [results, Tryz.results27, go_sem, k0', k1', k2', k3', k4']) rfl ?_
    exact hP9
  · rw [if_neg he] at HARR
    have heI : (((hd (bs (s.data.toList.drop p)) : Nat) : Int) == 93) = false := by rw [beq_eq_false_iff_ne]; omega
    have HR0 : Hid (rr d n (s.data.toList.drop p1) ⟨false, [], []⟩ = R) := Lib.hid (by rw [HDR.out, HARR.out])
    have H0 : Hid (AL w w3 (qb + 2) rb ob qb s N d R w4) := Lib.hid ⟨p1, 0, n, [], F3, _, HOM4.out, HQ4.out, HN4.out, .inl ⟨rfl, by omega, hp1, hn, Nat.zero_le _, HR0.out⟩⟩
    generalize hd (bs (s.data.toList.drop p)) = q at *
    clear HOM4 HN4 HQ4 HARR HDR HR0 he hpp hn hp
    go_wp2
    go_loopw [] (fun wr => AL w w3 (qb + 2) rb ob qb s N d R wr) (fun wr => s.size - (intOf ((wr.cell? ⟨rb, 1, none⟩).getD (.int .i64 0))).toNat)
    case atStart => exact H0.out
    case round =>
      clear H0
      obtain ⟨p2, e2, n2, cs, F, P, hOM, hQ, hN, hcase⟩ := hrel
      have HOM := Lib.hid hOM
      have HQ := Lib.hid hQ
      have HN := Lib.hid hN
      have hf := hOM.rd.field
      obtain ⟨f0, f1, f2, f3, f4⟩ := hf
      have HF1 := Lib.hid f1
      clear f0 f1 f3 f4 hOM hQ hN
      rcases hcase with ⟨rfl, hpN2, hp2, hn2, hcl, hRR⟩ | ⟨hene, hRe⟩
      · have HRR := Lib.hid hRR
        have f2' : wr.cell? ⟨rb, 2, none⟩ = some (.int .i64 0) := f2
        obtain ⟨cv, ls, hk1, hk2, hk3⟩ := HOM.out.kds
        have hok := HOM.out.own.1 .kids
        rw [hk1] at hok
        have hok' : wr.ownsRow (qb + 2) 26 5 cv cs.length ls.flatten := hok
        obtain ⟨ac, cc, hcf⟩ := row_form hok'
        subst hcf
        obtain ⟨c0, c1, c2, c3, c4⟩ := whole5 HOM.out.out
        rw [show (F .kids).val = .slice ac cs.length cc from by rw [hk1]; rfl] at c4
        have HV := Lib.hid (hV wr.drew rb p2 (d + 1) n2 hp2 hpN2 (by omega) hn2 (HOM.out.rd.new (Below.refl _ _).drew))
        have HOMd := Lib.hid (HOM.out.new (Below.refl _ _).drew)
        have HRE : Hid (cont d ⟨false, [], cs⟩ (rv (d + 1) n2 (s.data.toList.drop p2)) = R) := Lib.hid (by rw [← HRR.out, rr_eq, if_neg (by simp)]; cases rv (d + 1) n2 (s.data.toList.drop p2) <;> rfl)
        have hc4I : (cs.length : Int) ≤ 100000 := by omega
        have HK1 := Lib.hid hk1
        have HK2 := Lib.hid hk2
        have HLEN : Hid (ls.flatten.length = cs.length * 5) := Lib.hid hok'.1
        obtain ⟨i0, hi, hz0, hz1, hz2⟩ := info_parts jsonRinfo
        generalize hr1 : rv (d + 1) n2 (s.data.toList.drop p2) = r1 at *
        have HR1 := Lib.hid hr1
        clear f2 c0 c1 c2 c3 hr1 HRR hk1 hk2 hk3 hok hok'
        go_wp2
        refine held.region (fun w' => w'.cell? ⟨ob, 4, none⟩ = some (.slice ac cs.length cc)) 9 (by kernel_rfl) ?_
        have hS7 : wr.drew.cell? ⟨ob, 4, none⟩ = some (.slice ac cs.length cc) := c4
        refine held.wpLeft.take (i := 0) (v := ?_) rfl (by kernel_rfl) (by kernel_rfl) (by kernel_rfl) (by kernel_rfl) (by kernel_rfl) (fun _ _ _ h => h) (by rfl) ?_ hS7 ?_
        rotate_left
        · (intro w hSw; go_simp; try with_reducible rfl)
        simp only [Act.put, List.setIfInBounds_toArray, List.set_cons_zero, List.set_cons_succ, List.getElem_toArray, List.getElem_cons_succ, List.getElem_cons_zero]
        refine held.wpLeft.take (i := 1) (v := ?_) rfl (by kernel_rfl) (by kernel_rfl) (by kernel_rfl) (by kernel_rfl) (by kernel_rfl) (fun _ _ _ h => h) (by rfl) ?_ hS7 ?_
        rotate_left
        · (intro w hSw; go_simp; try with_reducible rfl)
        simp only [Act.put, List.setIfInBounds_toArray, List.set_cons_zero, List.set_cons_succ, List.getElem_toArray, List.getElem_cons_succ, List.getElem_cons_zero]
        refine held.wpLeft.take (i := 2) (v := ?_) rfl (by kernel_rfl) (by kernel_rfl) (by kernel_rfl) (by kernel_rfl) (by kernel_rfl) (fun _ _ _ h => h) (by rfl) ?_ hS7 ?_
        rotate_left
        · (intro w hSw; go_simp; try with_reducible rfl)
        simp only [Act.put, List.setIfInBounds_toArray, List.set_cons_zero, List.set_cons_succ, List.getElem_toArray, List.getElem_cons_succ, List.getElem_cons_zero]
        refine held.wpLeft.take (i := 3) (v := ?_) rfl (by kernel_rfl) (by kernel_rfl) (by kernel_rfl) (by kernel_rfl) (by kernel_rfl) (fun _ _ _ h => h) (by rfl) ?_ hS7 ?_
        rotate_left
        · (intro w hSw; go_simp; try with_reducible rfl)
        simp only [Act.put, List.setIfInBounds_toArray, List.set_cons_zero, List.set_cons_succ, List.getElem_toArray, List.getElem_cons_succ, List.getElem_cons_zero]
        refine held.wpLeft.take (i := 4) (v := ?_) rfl (by kernel_rfl) (by kernel_rfl) (by kernel_rfl) (by kernel_rfl) (by kernel_rfl) (fun _ _ _ h => h) (by rfl) ?_ hS7 ?_
        rotate_left
        · (intro w hSw; go_simp; try with_reducible rfl)
        simp only [Act.put, List.setIfInBounds_toArray, List.set_cons_zero, List.set_cons_succ, List.getElem_toArray, List.getElem_cons_succ, List.getElem_cons_zero]
        refine held.wpLeft.one (i := 5) (by kernel_rfl) rfl (fun K hK => ?_)
        go_simp
        refine HV.out.mono ?_
        rintro x w6 ⟨⟨k, m, t, a1, n1, c1, a2, nn2, c2⟩, rfl, hG6, hR6⟩
        obtain ⟨X, P3, p3, e3, n3, hO6, hX6, hcase⟩ := after_value (g := ⟨false, [], cs⟩) HOMd.out hG6 hR6 HR1.out HRE.out hp2 hdp hn2
        have HO6 := Lib.hid hO6
        have HX6 := Lib.hid hX6
        have HN6 : Hid (Nr (qb + 2) rb ob w3 w6) := Lib.hid (HN.out.trans ((Nr.below (Below.refl _ _).drew HOM.out.hB.2.2.2).trans (Nr.call hG6 HOMd.out.hB.2.2.2)))
        have HQ6 := Lib.hid ((HQ.out.below (Below.refl _ _).drew HQ.out.lt).kept hG6 (fun e => hqB.2.1 (Option.some.inj e).symm))
        have hkv : (F .kids).val = .slice ac cs.length cc := by rw [HK1.out]; rfl
        have HKV := Lib.hid hkv
        have hS8 : w6.cell? ⟨ob, 4, none⟩ = some (.slice ac cs.length cc) := by have := hO6.out.cell 4; rw [hkv] at this; exact this
        obtain ⟨cv6, ls6, hk1, hk2, hk3⟩ := hO6.kds
        have hok := hO6.own.1 .kids
        rw [hk1] at hok
        have hcv6 : cv6 = .slice ac cs.length cc := by rw [hk1] at hkv; exact hkv
        subst hcv6
        have hok' : w6.ownsRow (qb + 2) 26 5 (.slice ac cs.length cc) cs.length ls6.flatten := hok
        have HOK := Lib.hid hok'
        have HK1' := Lib.hid hk1
        have HK2' := Lib.hid hk2
        have HK3' := Lib.hid hk3
        have HCASE := Lib.hid hcase
        refine hK.out _ _ (fun _ => hS8) ?_
        clear hK K hG6 hR6 hO6 hX6 hk1 hk2 hk3 hok hok' hcase hkv HK1 HK2 HLEN HOMd HN HQ HOM hS7 c4
        have hbd : Below w6.heap.size w6 (w6.alloc (.cells #[.int .i64 k, .int .i64 m, .string t, .slice a1 n1 c1, .slice a2 nn2 c2] 26)) := (Below.refl _ _).alloc (Nat.le_refl _) _
        have HOA := Lib.hid (HO6.out.new hbd)
        have hSA : (w6.alloc (.cells #[.int .i64 k, .int .i64 m, .string t, .slice a1 n1 c1, .slice a2 nn2 c2] 26)).cell? ⟨ob, 4, none⟩ = some (.slice ac cs.length cc) := (hbd.cell (p := ⟨ob, 4, none⟩) HO6.out.out.lt).trans hS8
        have HBD := Lib.hid hbd
        clear hbd
        refine held.wpLeft.one (i := 6) (by kernel_rfl) rfl (fun K hK => ?_)
        go_simp
        refine hK.out _ _ (fun _ => hSA) ?_
        clear hK K
        refine held.wpLeft.one (i := 7) (by kernel_rfl) rfl (fun K2 hK2 => ?_)
        refine step_append_lies _ (by rfl) (.tmp 24) (.tmp 29) 24 (by rfl) (qb + 2) 26 i0 _ 5 80 Tryz.underlying24 hi hz0 hz1 hz2 rfl (by omega) (.slice ac cs.length cc) cs.length ls6.flatten (by rfl) (HOK.out.alloc _) ⟨w6.heap.size, 0, none⟩ 1 1 [.int .i64 k, .int .i64 m, .string t, .slice a1 n1 c1, .slice a2 nn2 c2] (by rfl) (by rfl) (World.news_of_block (cs := #[.int .i64 k, .int .i64 m, .string t, .slice a1 n1 c1, .slice a2 nn2 c2]) (t := 26) (fr := (0, 0)) (heap_alloc_new w6 _)) (by simp [Value.oneCell']) (by omega) (by unfold maxLen; omega) (by omega) (by have := HO6.out.hB.2.2.2; simp; omega) (w6.heap.size + 1) (by simp) ?_
        intro g7 cap7 w7 hown7 hgrow7 hat7 hlt7
        have hneR : ∀ c, (Value.slice ac cs.length cc).ownBlock = some c → qb + 2 ≤ c := fun c hc => (HOK.out.lt c hc).1
        have hS9 : w7.cell? ⟨ob, 4, none⟩ = some (.slice ac cs.length cc) := hgrow7.cell hSA (by intro e; have := hneR ob e.symm; have := HO6.out.hB; omega)
        have zz7 : w7.frozen? ⟨ob, 4, none⟩ = false := by
          have hW7 := HOA.out.out.kept hgrow7 (fun e => by have := hneR ob e; have := HO6.out.hB; omega)
          exact hW7.frozen 4
        refine hK2.out _ _ (fun _ => hS9) ?_
        clear hK2 K2
        refine held.wpLeft.one (i := 8) (by kernel_rfl) rfl (fun K4 hK4 => ?_)
        go_simp
        refine hK4.out _ _ (fun _ => hS9) ?_
        clear hK4 K4
        refine held.wpLeft.one (i := 9) (by kernel_rfl) rfl (fun K5 hK5 => ?_)
        go_simp
        refine hK5.out _ _ (fun h => absurd rfl h) ?_
        clear hK5 K5
        refine held.wpLeft.done (by kernel_rfl) ?_
        obtain ⟨F9, hO9⟩ := OM.addKid HO6.out HBD.out HX6.out HK1'.out HK2'.out HK3'.out hown7 hgrow7 (by
          rcases hat7 with e | e
          · exact .inl e.symm
          · exact .inr ⟨g7, rfl, by rw [e]; simp⟩)
        have hN79 : Nr (qb + 2) rb ob w6 (w7.setCell ⟨ob, 4, none⟩ (.slice (some ⟨g7, 0, none⟩) (cs.length + 1) cap7)) := ((Nr.below HBD.out HO6.out.hB.2.2.2).trans (Nr.grown hgrow7 (by have := HO6.out.hB.2.2.2; simp; omega) (fun c hc => .inl (hneR c hc)))).trans (Nr.set w7 4 _ (by have h1 := hgrow7.size; have h2 := HO6.out.hB.2.2.2; simp at h1; omega))
        have HN9 := Lib.hid (HN6.out.trans hN79)
        have HQ9 := Lib.hid (hN79.whole HQ6.out hqB.1 hqB.2.1 hqB.2.2)
        have HO9 : Hid (OM (w7.setCell ⟨ob, 4, none⟩ (.slice (some ⟨g7, 0, none⟩) (cs.length + 1) cap7)) (qb + 2) rb ob s p3 e3 n3 6 [] (cs ++ [X]) F9 P3) := Lib.hid hO9
        generalize w7.setCell ⟨ob, 4, none⟩ (.slice (some ⟨g7, 0, none⟩) (cs.length + 1) cap7) = w9 at *
        clear hN79 hO9 hown7 hgrow7 hat7 hlt7 hS9 zz7 hneR HBD HOA hSA hS8 HQ6 HN6 HX6 HO6 HK1' HK2' HK3' HOK HKV f2'
        rcases HCASE.out with ⟨rfl, hp23, hp3, hn3, hRt⟩ | ⟨hene3, hRe⟩
        · obtain ⟨f0, f1, f2, f3, f4⟩ := HO9.out.rd.field
          have f2' : w9.cell? ⟨rb, 2, none⟩ = some (.int .i64 0) := f2
          have HNX := Lib.hid (next_any w9 rb s p3 n3 HO9.out.rd hp3 (by omega))
          have HRT : Hid (rt d n3 (s.data.toList.drop p3) ⟨false, [], cs ++ [X]⟩ = R) := Lib.hid hRt
          clear f0 f1 f2 f3 f4 hRt HCASE
          go_wp2_with fail
          refine HNX.out.mono ?_
          rintro x w10 ⟨rfl, p4, hp34, hp4, hdr4, hM10, hG10⟩
          have HO10 := Lib.hid (HO9.out.call hG10 hM10 id)
          have HN10 := Lib.hid (HN9.out.trans (Nr.call hG10 HO9.out.hB.2.2.2))
          have HQ10 := Lib.hid (HQ9.out.kept hG10 (fun e => hqB.2.1 (Option.some.inj e).symm))
          have HDR4 := Lib.hid hdr4
          clear hM10 hG10 hdr4 HNX HO9 HN9 HQ9 f2'
          by_cases he : hd (bs (s.data.toList.drop p3)) = 93
          · have HRR : Hid (R = .ok (Fr.mk false [] (cs ++ [X])).node (bs (s.data.toList.drop p3)).tail n3) := Lib.hid (by
              rw [← HRT.out]; unfold rt
              rw [if_neg (by intro e; rw [e] at he; cases he), if_pos (show hd (bs (s.data.toList.drop p3)) = (Fr.mk false [] (cs ++ [X])).close from he)])
            have hlt4 : p4 < s.size := hd_drop (by rw [HDR4.out, he]; decide)
            rw [he]
            obtain ⟨f0, f1, f2, f3, f4⟩ := HO10.out.rd.field
            have z1 := f4 1
            obtain ⟨c0, c1, c2, c3, c4⟩ := whole5 HO10.out.out
            obtain ⟨b1, k1, e1'⟩ := key_val HO10.out
            obtain ⟨b2, k2, e2'⟩ := kid_val HO10.out
            rw [e1'] at c3
            rw [e2'] at c4
            obtain ⟨x0, x1, x2, x3, x4⟩ := whole5 HQ10.out
            have y0 := HQ10.out.frozen 0
            have y1 := HQ10.out.frozen 1
            have y2 := HQ10.out.frozen 2
            have y3 := HQ10.out.frozen 3
            have y4 := HQ10.out.frozen 4
            have HE1 := Lib.hid e1'
            have HE2 := Lib.hid e2'
            clear e1' e2'
            clear f2 f3 f4
            go_wp2
            have HO11 : Hid (OM (w10.setCell ⟨rb, 1, none⟩ (.int .i64 ((p4 : Int) + 1))) (qb + 2) rb ob s (p4 + 1) 0 n3 6 [] (cs ++ [X]) F9 P3) := Lib.hid (HO10.out.call (g1 w10 rb 1 _) (HO10.out.rd.setP (p4 + 1)) id)
            have HN11 : Hid (Nr (qb + 2) rb ob w3 (w10.setCell ⟨rb, 1, none⟩ (.int .i64 ((p4 : Int) + 1)))) := Lib.hid (HN10.out.trans (Nr.call (g1 w10 rb 1 _) HO10.out.hB.2.2.2))
            have HQ11 := Lib.hid (HQ10.out.kept (g1 w10 rb 1 (.int .i64 ((p4 : Int) + 1))) (fun e => hqB.2.1 (Option.some.inj e).symm))
            generalize w10.setCell ⟨rb, 1, none⟩ (.int .i64 ((p4 : Int) + 1)) = w11 at *
            obtain ⟨hW9, hP9⟩ := fin_any (r := R) HO11.out HQ11.out hqB HN11.out HG3.out (by rw [HQB.out]; exact hq1) (by rw [HQB.out]; exact Nat.le_refl _) (show In64 6 by unfold In64; omega) (fun _ => ⟨HRR.out.trans (by rw [← HDR4.out, List.tail_drop]; rfl), hlt4, Nat.zero_le _, by unfold maxLen; simp; omega⟩) (fun e => absurd rfl e) HE1.out HE2.out
            simp only [List.length_append, List.length_cons, List.length_nil, Nat.zero_add] at hW9 hP9
            generalize ((((w11.setCell ⟨qb, 0, none⟩ (.int .i64 6)).setCell ⟨qb, 1, none⟩ (.int .i64 0)).setCell ⟨qb, 2, none⟩ (.string ByteArray.empty)).setCell ⟨qb, 3, none⟩ (.slice b1 0 k1)).setCell ⟨qb, 4, none⟩ (.slice b2 (cs.length + 1) k2) = wZ at *
            obtain ⟨k0', k1', k2', k3', k4'⟩ := whole5 hW9
            refine bodyPost_ret (v := .agg #[.int .i64 6, .int .i64 0, .string ByteArray.empty, .slice b1 0 k1, .slice b2 (cs.length + 1) k2]) (by simp [results, Tryz.results27, go_sem, k0', k1', k2', k3', k4']) rfl ?_
            exact hP9
          · have heI3 : ¬ ((hd (bs (s.data.toList.drop p3)) : Int) = 93) := by omega
            have HMU := Lib.hid (must_any w10 rb s p4 n3 44 HO10.out.rd hp4 (by omega) (by decide) (by decide))
            have HBS : Hid (bs (s.data.toList.drop p4) = bs (s.data.toList.drop p3)) := Lib.hid (by rw [HDR4.out, bs_bs])
            generalize hq4 : hd (bs (s.data.toList.drop p3)) = q4 at *
            have HQ4' := Lib.hid hq4
            have HEI := Lib.hid he
            clear hq4 he
            go_wp2_with fail
            refine HMU.out.mono ?_
            rintro x w12 ⟨rfl, hG12, p5, e5, hp45, hp5, hM12, hcase5⟩
            have hO12 := HO10.out.call hG12 hM12 (fun _ => rfl)
            have hN12 := HN10.out.trans (Nr.call hG12 HO10.out.hB.2.2.2)
            have hQ12 := HQ10.out.kept hG12 (fun e => hqB.2.1 (Option.some.inj e).symm)
            have HAL : Hid (AL w w3 (qb + 2) rb ob qb s N d R w12) := Lib.hid (by
              rw [HBS.out, HQ4'.out] at hcase5
              refine ⟨p5, e5, n3, cs ++ [X], F9, P3, hO12, hQ12, hN12, ?_⟩
              have hrt := HRT.out
              unfold rt at hrt
              rcases hcase5 with ⟨h44, rfl, hd5⟩ | ⟨h44, rfl⟩
              · refine .inl ⟨rfl, by omega, hp5, hn3, by simp; omega, ?_⟩
                rw [if_neg (by intro e; have := HQ4'.out; rw [e] at this; rw [h44] at this; cases this), if_neg (by rw [HQ4'.out]; exact HEI.out), if_pos (by rw [HQ4'.out]; exact h44)] at hrt
                rw [hd5]; exact hrt
              · refine .inr ⟨by decide, ?_⟩
                by_cases hb : bs (s.data.toList.drop p3) = []
                · rw [if_pos hb] at hrt; exact hrt.symm
                · rw [if_neg hb, if_neg (by rw [HQ4'.out]; exact HEI.out), if_neg (by rw [HQ4'.out]; exact h44)] at hrt; exact hrt.symm)
            have HP12 : Hid (w12.cell? ⟨rb, 1, none⟩ = some (.int .i64 (p5 : Int))) := Lib.hid hM12.field.2.1
            clear hG12 hM12 hcase5 hO12 hN12 hQ12
            go_wp2
            go_roundw
            case rel => exact HAL.out
            case measure =>
              have e1 := HP12.out
              have e2 := HF1.out
              simp only [e1, e2, Option.getD_some, intOf]
              omega
        · have heI3 : ¬ ((e3 : Int) = 0) := by omega
          obtain ⟨f0, f1, f2, f3, f4⟩ := HO9.out.rd.field
          have HRe := Lib.hid hRe
          have hE0 : e3 = 0 → R = .ok (.mk 6 0 ByteArray.empty [] (cs ++ [X])) (s.data.toList.drop p3) n3 ∧ p3 ≤ s.size ∧ ([] : List ByteArray).length ≤ maxLen ∧ (cs ++ [X]).length ≤ maxLen := fun e => absurd e hene3
          have HE0 := Lib.hid hE0
          obtain ⟨c0, c1, c2, c3, c4⟩ := whole5 HO9.out.out
          obtain ⟨b1, k1, e1'⟩ := key_val HO9.out
          obtain ⟨b2, k2, e2'⟩ := kid_val HO9.out
          rw [e1'] at c3
          rw [e2'] at c4
          obtain ⟨x0, x1, x2, x3, x4⟩ := whole5 HQ9.out
          have y0 := HQ9.out.frozen 0
          have y1 := HQ9.out.frozen 1
          have y2 := HQ9.out.frozen 2
          have y3 := HQ9.out.frozen 3
          have y4 := HQ9.out.frozen 4
          have HE1 := Lib.hid e1'
          have HE2 := Lib.hid e2'
          clear e1' e2'
          clear f0 f1 f3 f4 hE0 hRe HCASE
          go_wp2
          obtain ⟨hW9, hP9⟩ := fin_any (r := R) HO9.out HQ9.out hqB HN9.out HG3.out (by rw [HQB.out]; exact hq1) (by rw [HQB.out]; exact Nat.le_refl _) (show In64 6 by unfold In64; omega) HE0.out (fun _ => HRe.out) HE1.out HE2.out
          simp only [List.length_append, List.length_cons, List.length_nil, Nat.zero_add] at hW9 hP9
          generalize ((((w9.setCell ⟨qb, 0, none⟩ (.int .i64 6)).setCell ⟨qb, 1, none⟩ (.int .i64 0)).setCell ⟨qb, 2, none⟩ (.string ByteArray.empty)).setCell ⟨qb, 3, none⟩ (.slice b1 0 k1)).setCell ⟨qb, 4, none⟩ (.slice b2 (cs.length + 1) k2) = wZ at *
          obtain ⟨k0', k1', k2', k3', k4'⟩ := whole5 hW9
          refine bodyPost_ret (v := .agg #[.int .i64 6, .int .i64 0, .string ByteArray.empty, .slice b1 0 k1, .slice b2 (cs.length + 1) k2]) (by simp [results, Tryz.results27, go_sem, k0', k1', k2', k3', k4']) rfl ?_
          exact hP9
      · have heI2 : ¬ ((e2 : Int) = 0) := by omega
        have HRe := Lib.hid hRe
        have hE0 : e2 = 0 → R = .ok (.mk 6 0 ByteArray.empty [] cs) (s.data.toList.drop p2) n2 ∧ p2 ≤ s.size ∧ ([] : List ByteArray).length ≤ maxLen ∧ cs.length ≤ maxLen := fun e => absurd e hene
        have HE0 := Lib.hid hE0
        obtain ⟨c0, c1, c2, c3, c4⟩ := whole5 HOM.out.out
        obtain ⟨a1, k1, e1'⟩ := key_val HOM.out
        obtain ⟨a2, k2, e2'⟩ := kid_val HOM.out
        rw [e1'] at c3
        rw [e2'] at c4
        obtain ⟨x0, x1, x2, x3, x4⟩ := whole5 HQ.out
        have y0 := HQ.out.frozen 0
        have y1 := HQ.out.frozen 1
        have y2 := HQ.out.frozen 2
        have y3 := HQ.out.frozen 3
        have y4 := HQ.out.frozen 4
        have HE1 := Lib.hid e1'
        have HE2 := Lib.hid e2'
        clear e1' e2' hE0 hRe
        go_wp2
        obtain ⟨hW9, hP9⟩ := fin_any (r := R) HOM.out HQ.out hqB HN.out HG3.out (by rw [HQB.out]; exact hq1) (by rw [HQB.out]; exact Nat.le_refl _) (show In64 6 by unfold In64; omega) HE0.out (fun _ => HRe.out) HE1.out HE2.out
        generalize ((((wr.setCell ⟨qb, 0, none⟩ (.int .i64 6)).setCell ⟨qb, 1, none⟩ (.int .i64 0)).setCell ⟨qb, 2, none⟩ (.string ByteArray.empty)).setCell ⟨qb, 3, none⟩ (.slice a1 0 k1)).setCell ⟨qb, 4, none⟩ (.slice a2 cs.length k2) = w9 at *
        obtain ⟨k0', k1', k2', k3', k4'⟩ := whole5 hW9
        refine bodyPost_ret (v := .agg #[.int .i64 6, .int .i64 0, .string ByteArray.empty, .slice a1 ([] : List ByteArray).length k1, .slice a2 cs.length k2]) (by simp [results, Tryz.results27, go_sem, k0', k1', k2', k3', k4']) rfl ?_
        exact hP9
end Go.Proofs.YtjcaffpmcgfhaaaGreatDoor.refC
