/-
  Contract of (*reader).scalar.
-/
import Derived.Test.YtdbidkfjbhclcaaDoorJsonF
namespace Go.Proofs.YtdbidkfjbhclcaaDoor.jsonG
open Go.ChangeShapes Go.WideShapes Go.ChangeAt Go.RowKit Go.WideMaps Go.Maps nodeP nodeQ nodeS ownI jsonP jsonM jsonN jsonO jsonA jsonB errs errIs runesE quoteB jsonF
set_option linter.unusedSimpArgs false
set_option linter.unusedVariables false

def flat (k n : Int) (t : ByteArray) : List Value := [.int .i64 k, .int .i64 n, .string t, .slice none 0 0, .slice none 0 0]
theorem flatIn {w : World} {P : Nat → Prop} {k n : Int} {t : ByteArray} (h : In64 k ∧ In64 n ∧ t.size ≤ maxLen) : NodeIn w P (.mk k n t [] []) (flat k n t) :=
  .mk k n t [] [] _ none 0 0 0 (fun _ => []) h ⟨none, 0, 0, 0, rfl, ⟨Nat.zero_le _, Nat.zero_le _⟩, fun h => absurd rfl h, fun i hi => absurd hi (Nat.not_lt_zero _), by simp⟩ (Nat.zero_le _) (fun h => absurd rfl h) (fun i hi => absurd hi (Nat.not_lt_zero _)) (fun i hi => absurd hi (Nat.not_lt_zero _))

/-- what scalar leaves -/
def ScP (B rb : Nat) (s : ByteArray) (p n d : Nat) (fr : Nat → Fr) (F : Ix → Thing) (P : Nat → Prop) (ad : Nat → Addr) (q : Nd × Nat × Nat) (w : World) (e : Ending) (w' : World) : Prop :=
  ∃ k m t, q.1 = .mk k m t [] [] ∧ (In64 k ∧ In64 m ∧ t.size ≤ maxLen) ∧ e = .returned (.tuple #[.agg (flat k m t).toArray, intsC.errV ad q.2.2]) ∧ RM w' B rb s (p + q.2.1) n d fr F P ∧ Near B rb w w'

/-- a Node in a block of the call's own is written -/
theorem fin5 {w w2 : World} {B rb : Nat} {s : ByteArray} {p n d : Nat} {fr : Nat → Fr} {F : Ix → Thing} {P : Nat → Prop} {b0 : Nat} {t : TypeId} {a0 a1 a2 a3 a4 : Value} (hM : RM w2 B rb s p n d fr F P) (hN : Near B rb w w2) (hW : Whole w2 b0 t [a0, a1, a2, a3, a4])
    (hB : B ≤ b0) (hap : b0 ≠ rb ∧ ¬ P b0 ∧ ∀ k, (F k).blk ≠ some b0) (x0 x1 x2 x3 x4 : Value) :
    RM (((((w2.setCell ⟨b0, 0, none⟩ x0).setCell ⟨b0, 1, none⟩ x1).setCell ⟨b0, 2, none⟩ x2).setCell ⟨b0, 3, none⟩ x3).setCell ⟨b0, 4, none⟩ x4) B rb s p n d fr F P ∧
    Near B rb w (((((w2.setCell ⟨b0, 0, none⟩ x0).setCell ⟨b0, 1, none⟩ x1).setCell ⟨b0, 2, none⟩ x2).setCell ⟨b0, 3, none⟩ x3).setCell ⟨b0, 4, none⟩ x4) ∧
    Whole (((((w2.setCell ⟨b0, 0, none⟩ x0).setCell ⟨b0, 1, none⟩ x1).setCell ⟨b0, 2, none⟩ x2).setCell ⟨b0, 3, none⟩ x3).setCell ⟨b0, 4, none⟩ x4) b0 t [x0, x1, x2, x3, x4] := by
  have hG := set5_grown w2 b0 x0 x1 x2 x3 x4
  exact ⟨hM.apart hG (fun c e => by cases e; exact hap), hN.trans (Near.grown hG hM.hB.2 (fun c e => by cases e; exact .inl hB)), set5_whole hW x0 x1 x2 x3 x4⟩
theorem drew3 {w w2 : World} {B rb : Nat} {s : ByteArray} {p n d : Nat} {fr : Nat → Fr} {F : Ix → Thing} {P : Nat → Prop} {b0 : Nat} {t : TypeId} {l : List Value} (h : RM w2 B rb s p n d fr F P ∧ Near B rb w w2 ∧ Whole w2 b0 t l) : RM w2.drew B rb s p n d fr F P ∧ Near B rb w w2.drew ∧ Whole w2.drew b0 t l := by
  have hb : Below w2.heap.size w2 w2.drew := (Below.refl _ _).drew
  exact ⟨h.1.new hb, h.2.1.trans (Near.below (hb.mono h.1.hB.2)), h.2.2.below hb h.2.2.lt⟩

set_option maxRecDepth 100000 in
set_option maxHeartbeats 4000000 in
theorem scalar_str (w0 w : World) (ad : Nat → Addr) (B rb : Nat) (s : ByteArray) (p n d : Nat) (fr : Nat → Fr) (F : Ix → Thing) (P : Nat → Prop) (hG : Glb w0 w ad rb) (h : RM w B rb s p n d fr F P) (hp : p < s.size) (hs : s.size ≤ 1000000) (hc : hd (s.data.toList.drop p) = 34) :
    Calls Tryd.prog 37 #[.pointer (some ⟨rb, 0, none⟩), .int .u8 34] w (ScP B rb s p n d fr F P ad (scal (s.data.toList.drop p)) w) := by
  have hrB := h.hB.1
  have HG := Lib.hid hG
  have HQ : Hid (scal (s.data.toList.drop p) = match jsonP.stk (s.data.toList.drop p) with
    | some (x, n) => (.mk 5 0 ⟨x.toArray⟩ [] [], n, 0)
    | none => (word 0, 0, 1)) := Lib.hid (by unfold scal; rw [if_pos hc]; rfl)
  generalize scal (s.data.toList.drop p) = q at *
  have hba : Below w.heap.size w (w.alloc (.cells #[.int .i64 0, .int .i64 0, .string ⟨#[]⟩, .slice none 0 0, .slice none 0 0] 26)) := (Below.refl _ _).alloc (Nat.le_refl _) _
  have HMa := Lib.hid (h.new hba)
  have HNa := Lib.hid (Near.below (rb := rb) (hba.mono h.hB.2))
  have HWa := Lib.hid (Whole.new w 26 [.int .i64 0, .int .i64 0, .string ⟨#[]⟩, .slice none 0 0, .slice none 0 0])
  have hwB := h.hB.2
  have hbs : w.heap.size ≠ rb := by omega
  have hgl1 : 2 < w.heap.size := World.block_lt_of_cell? w _ (hG.err.glob 0 (by decide))
  have hb01 : w.heap.size ≠ 2 := by omega
  have hb10 : ¬ (2 = w.heap.size) := by omega
  have HAP : Hid (w.heap.size ≠ rb ∧ ¬ P w.heap.size ∧ ∀ k, (F k).blk ≠ some w.heap.size) := Lib.hid ⟨hbs, fun hp => Nat.lt_irrefl _ (h.sealed' _ hp).2.1, fun k hk => Nat.lt_irrefl _ (h.blkB k _ hk).2⟩
  clear h hG hba
  go_enter Tryd.func37, Tryd.ntmps37
  go_wp2
  change Hid (Whole (w.alloc (.cells #[.int .i64 0, .int .i64 0, .string ⟨#[]⟩, .slice none 0 0, .slice none 0 0] 26)) _ _ _) at HWa
  generalize w.alloc (.cells #[.int .i64 0, .int .i64 0, .string ⟨#[]⟩, .slice none 0 0, .slice none 0 0] 26) = w1 at *
  generalize w.heap.size = b0 at *
  obtain ⟨f0, f1, f2, f3, f4⟩ := HMa.out.field
  have hbd : Below w1.heap.size w1 w1.drew := (Below.refl _ _).drew
  have hGd := HG.out.near (HNa.out.trans (Near.below (rb := rb) (hbd.mono HMa.out.hB.2))) hrB
  have HTK := Lib.hid (quoteB.take_any s (p : Int) w1.drew ad hs hGd.tab hGd.syn)
  have HTO : Hid (quoteB.takeO s.data.toList (p : Int) = jsonP.stk (s.data.toList.drop p)) := Lib.hid (by
    unfold quoteB.takeO
    rw [if_neg (by omega), show ((p : Int)).toNat = p from by omega]; rfl)
  rw [HTO.out] at HTK
  clear f2 f3 f4 hbd hGd
  refine held2.region (fun _ w' => w'.cell? ⟨rb, 0, none⟩ = some (.string s) ∧ w'.cell? ⟨rb, 1, none⟩ = some (.int .i64 p)) (by kernel_rfl) ?_
  have hS7 : w1.drew.cell? ⟨rb, 0, none⟩ = some (.string s) ∧ w1.drew.cell? ⟨rb, 1, none⟩ = some (.int .i64 p) := ⟨f0, f1⟩
  refine held2.wpLeft.take (i := 0) (v := ?_) rfl (by kernel_rfl) (by kernel_rfl) (by kernel_rfl) (by kernel_rfl) (fun _ _ => Iff.rfl) (fun _ _ _ h => h) (by rfl) ?_ hS7 ?_
  rotate_left
  · (intro w l hl1 hl2 hSw; obtain ⟨s0, s1⟩ := hSw; go_simp; try with_reducible rfl)
  simp only [Act.put, List.setIfInBounds_toArray, List.set_cons_zero, List.set_cons_succ]
  refine held2.wpLeft.take (i := 1) (v := ?_) rfl (by kernel_rfl) (by kernel_rfl) (by kernel_rfl) (by kernel_rfl) (fun _ _ => Iff.rfl) (fun _ _ _ h => h) (by rfl) ?_ hS7 ?_
  rotate_left
  · (intro w l hl1 hl2 hSw; obtain ⟨s0, s1⟩ := hSw; go_simp; try with_reducible rfl)
  simp only [Act.put, List.setIfInBounds_toArray, List.set_cons_zero, List.set_cons_succ]
  refine held2.wpLeft.take (i := 2) (v := ?_) rfl (by kernel_rfl) (by kernel_rfl) (by kernel_rfl) (by kernel_rfl) (fun _ _ => Iff.rfl) (fun _ _ _ h => h) (by rfl) ?_ hS7 ?_
  rotate_left
  · (intro w l hl1 hl2 hSw; obtain ⟨s0, s1⟩ := hSw; go_simp; try with_reducible rfl)
  simp only [Act.put, List.setIfInBounds_toArray, List.set_cons_zero, List.set_cons_succ]
  refine held2.wpLeft.take (i := 3) (v := ?_) rfl (by kernel_rfl) (by kernel_rfl) (by kernel_rfl) (by kernel_rfl) (fun _ _ => Iff.rfl) (fun _ _ _ h => h) (by rfl) ?_ hS7 ?_
  rotate_left
  · (intro w l hl1 hl2 hSw; obtain ⟨s0, s1⟩ := hSw; go_simp; try with_reducible rfl)
  simp only [Act.put, List.setIfInBounds_toArray, List.set_cons_zero, List.set_cons_succ]
  refine held2.wpLeft.take (i := 4) (v := ?_) rfl (by kernel_rfl) (by kernel_rfl) (by kernel_rfl) (by kernel_rfl) (fun _ _ => Iff.rfl) (fun _ _ _ h => h) (by rfl) ?_ hS7 ?_
  rotate_left
  · (intro w l hl1 hl2 hSw; obtain ⟨s0, s1⟩ := hSw; go_simp; try with_reducible rfl)
  simp only [Act.put, List.setIfInBounds_toArray, List.set_cons_zero, List.set_cons_succ]
  refine held2.wpLeft.take (i := 5) (v := ?_) rfl (by kernel_rfl) (by kernel_rfl) (by kernel_rfl) (by kernel_rfl) (fun _ _ => Iff.rfl) (fun _ _ _ h => h) (by rfl) ?_ hS7 ?_
  rotate_left
  · (intro w l hl1 hl2 hSw; obtain ⟨s0, s1⟩ := hSw; go_simp; try with_reducible rfl)
  simp only [Act.put, List.setIfInBounds_toArray, List.set_cons_zero, List.set_cons_succ]
  refine held2.wpLeft.take (i := 6) (v := ?_) rfl (by kernel_rfl) (by kernel_rfl) (by kernel_rfl) (by kernel_rfl) (fun _ _ => Iff.rfl) (fun _ _ _ h => h) (by rfl) ?_ hS7 ?_
  rotate_left
  · (intro w l hl1 hl2 hSw; obtain ⟨s0, s1⟩ := hSw; go_simp; try with_reducible rfl)
  simp only [Act.put, List.setIfInBounds_toArray, List.set_cons_zero, List.set_cons_succ]
  refine held2.wpLeft.take (i := 7) (v := ?_) rfl (by kernel_rfl) (by kernel_rfl) (by kernel_rfl) (by kernel_rfl) (fun _ _ => Iff.rfl) (fun _ _ _ h => h) (by rfl) ?_ hS7 ?_
  rotate_left
  · (intro w l hl1 hl2 hSw; obtain ⟨s0, s1⟩ := hSw; go_simp; try with_reducible rfl)
  simp only [Act.put, List.setIfInBounds_toArray, List.set_cons_zero, List.set_cons_succ]
  refine held2.wpLeft.one (i := 8) (by kernel_rfl) rfl (fun K hK => ?_)
  go_simp
  refine HTK.out.mono ?_
  rintro e w2 ⟨rfl, hb2⟩
  have hb12 : Below w1.heap.size w1 w2 := (Below.refl _ _).drew.trans hb2
  have hM2 := HMa.out.new hb12
  have hN2 := HNa.out.trans (Near.below (rb := rb) (hb12.mono HMa.out.hB.2))
  have hW2 := HWa.out.below hb12 HWa.out.lt
  have HM2 := Lib.hid hM2
  have HN2 := Lib.hid hN2
  have HW2 := Lib.hid hW2
  have HG2 := Lib.hid (HG.out.near hN2 hrB)
  obtain ⟨g0, g1, g2, g3, g4⟩ := hM2.field
  have hS8 : w2.cell? ⟨rb, 0, none⟩ = some (.string s) ∧ w2.cell? ⟨rb, 1, none⟩ = some (.int .i64 p) := ⟨g0, g1⟩
  refine hK.out _ _ hS8 ?_
  have c0 := hW2.cell 0
  have c1 := hW2.cell 1
  have c2 := hW2.cell 2
  have c3 := hW2.cell 3
  have c4 := hW2.cell 4
  simp only [List.getElem?_cons_zero, List.getElem?_cons_succ] at c0 c1 c2 c3 c4
  have y0 := hW2.frozen 0
  have y1 := hW2.frozen 1
  have y2 := hW2.frozen 2
  have y3 := hW2.frozen 3
  have y4 := hW2.frozen 4
  clear hK K hM2 hN2 hW2 hb12 hb2 f0 f1 HMa HNa HWa HTO
  cases hst : jsonP.stk (s.data.toList.drop p) with
  | none =>
    rw [hst] at HQ
    simp only [quoteB.tkV]
    refine held2.wpLeft.take (i := 9) (v := ?_) rfl (by kernel_rfl) (by kernel_rfl) (by kernel_rfl) (by kernel_rfl) (fun _ _ => Iff.rfl) (fun _ _ _ h => h) (by rfl) ?_ hS8 ?_
    rotate_left
    · (intro w l hl1 hl2 hSw; obtain ⟨s0, s1⟩ := hSw; go_simp; try with_reducible rfl)
    simp only [Act.put, List.setIfInBounds_toArray, List.set_cons_zero, List.set_cons_succ, List.getElem_toArray, List.getElem_cons_succ, List.getElem_cons_zero]
    refine held2.wpLeft.take (i := 10) (v := ?_) rfl (by kernel_rfl) (by kernel_rfl) (by kernel_rfl) (by kernel_rfl) (fun _ _ => Iff.rfl) (fun _ _ _ h => h) (by rfl) ?_ hS8 ?_
    rotate_left
    · (intro w l hl1 hl2 hSw; obtain ⟨s0, s1⟩ := hSw; go_simp; try with_reducible rfl)
    simp only [Act.put, List.setIfInBounds_toArray, List.set_cons_zero, List.set_cons_succ, List.getElem_toArray, List.getElem_cons_succ, List.getElem_cons_zero]
    refine held2.wpLeft.take (i := 11) (v := ?_) rfl (by kernel_rfl) (by kernel_rfl) (by kernel_rfl) (by kernel_rfl) (fun _ _ => Iff.rfl) (fun _ _ _ h => h) (by rfl) ?_ hS8 ?_
    rotate_left
    · (intro w l hl1 hl2 hSw; obtain ⟨s0, s1⟩ := hSw; go_simp; try with_reducible rfl)
    simp only [Act.put, List.setIfInBounds_toArray, List.set_cons_zero, List.set_cons_succ, List.getElem_toArray, List.getElem_cons_succ, List.getElem_cons_zero]
    refine held2.wpLeft.take (i := 12) (v := ?_) rfl (by kernel_rfl) (by kernel_rfl) (by kernel_rfl) (by kernel_rfl) (fun _ _ => Iff.rfl) (fun _ _ _ h => h) (by rfl) ?_ hS8 ?_
    rotate_left
    · (intro w l hl1 hl2 hSw; obtain ⟨s0, s1⟩ := hSw; go_simp; try with_reducible rfl)
    simp only [Act.put, List.setIfInBounds_toArray, List.set_cons_zero, List.set_cons_succ, List.getElem_toArray, List.getElem_cons_succ, List.getElem_cons_zero]
    refine held2.wpLeft.take (i := 13) (v := ?_) rfl (by kernel_rfl) (by kernel_rfl) (by kernel_rfl) (by kernel_rfl) (fun _ _ => Iff.rfl) (fun _ _ _ h => h) (by rfl) ?_ hS8 ?_
    rotate_left
    · (intro w l hl1 hl2 hSw; obtain ⟨s0, s1⟩ := hSw; go_simp; try with_reducible rfl)
    simp only [Act.put, List.setIfInBounds_toArray, List.set_cons_zero, List.set_cons_succ, List.getElem_toArray, List.getElem_cons_succ, List.getElem_cons_zero]
    refine held2.wpLeft.take (i := 14) (v := ?_) rfl (by kernel_rfl) (by kernel_rfl) (by kernel_rfl) (by kernel_rfl) (fun _ _ => Iff.rfl) (fun _ _ _ h => h) (by rfl) ?_ hS8 ?_
    rotate_left
    · (intro w l hl1 hl2 hSw; obtain ⟨s0, s1⟩ := hSw; go_simp; try with_reducible rfl)
    simp only [Act.put, List.setIfInBounds_toArray, List.set_cons_zero, List.set_cons_succ, List.getElem_toArray, List.getElem_cons_succ, List.getElem_cons_zero]
    refine held2.wpLeft.take (i := 15) (v := ?_) rfl (by kernel_rfl) (by kernel_rfl) (by kernel_rfl) (by kernel_rfl) (fun _ _ => Iff.rfl) (fun _ _ _ h => h) (by rfl) ?_ hS8 ?_
    rotate_left
    · (intro w l hl1 hl2 hSw; obtain ⟨s0, s1⟩ := hSw; go_simp; try with_reducible rfl)
    simp only [Act.put, List.setIfInBounds_toArray, List.set_cons_zero, List.set_cons_succ, List.getElem_toArray, List.getElem_cons_succ, List.getElem_cons_zero]
    refine held2.wpLeft.done (by kernel_rfl) ?_
    have hne := quoteB.nneqE (ad 0)
    have hsy : w2.cell? ⟨2, 0, none⟩ = some (ev (ad 0)) := HG2.out.err.glob 0 (by decide)
    clear hS7 hS8 g0 g1 g2 g3 g4 HTK
    go_wp2
    go_region
    go_wp2
    obtain ⟨hM5, hN5, hW5⟩ := drew3 (fin5 HM2.out HN2.out HW2.out hwB HAP.out (.int .i64 0) (.int .i64 0) (.string ⟨#[]⟩) (.slice none 0 0) (.slice none 0 0))
    generalize (((((w2.setCell ⟨b0, 0, none⟩ (.int .i64 0)).setCell ⟨b0, 1, none⟩ (.int .i64 0)).setCell ⟨b0, 2, none⟩ (.string ⟨#[]⟩)).setCell ⟨b0, 3, none⟩ (.slice none 0 0)).setCell ⟨b0, 4, none⟩ (.slice none 0 0)).drew = w5 at *
    obtain ⟨k0, k1, k2, k3, k4⟩ := whole5 hW5
    refine bodyPost_ret (v := .tuple #[.agg #[.int .i64 0, .int .i64 0, .string ⟨#[]⟩, .slice none 0 0, .slice none 0 0], ev (ad 0)]) (by simp [results, Tryd.results37, go_sem, k0, k1, k2, k3, k4]) rfl ?_
    refine ⟨0, 0, ByteArray.empty, by rw [HQ.out]; rfl, ⟨by unfold In64; omega, by unfold In64; omega, Nat.zero_le _⟩, by rw [HQ.out]; rfl, by rw [HQ.out]; exact hM5, hN5⟩
  | some q' =>
    obtain ⟨x, k⟩ := q'
    rw [hst] at HQ
    have hsl := jsonQ.stk_len hst
    have hul : (s.data.toList.drop p).length = s.size - p := by rw [List.length_drop, Array.length_toList, ByteArray.size_data]
    have hpk : p + k ≤ s.size := by omega
    have hxs : x.length ≤ 1000000 := by omega
    clear hst hul hsl
    simp only [quoteB.tkV]
    refine held2.wpLeft.take (i := 9) (v := ?_) rfl (by kernel_rfl) (by kernel_rfl) (by kernel_rfl) (by kernel_rfl) (fun _ _ => Iff.rfl) (fun _ _ _ h => h) (by rfl) ?_ hS8 ?_
    rotate_left
    · (intro w l hl1 hl2 hSw; obtain ⟨s0, s1⟩ := hSw; go_simp; try with_reducible rfl)
    simp only [Act.put, List.setIfInBounds_toArray, List.set_cons_zero, List.set_cons_succ, List.getElem_toArray, List.getElem_cons_succ, List.getElem_cons_zero]
    refine held2.wpLeft.take (i := 10) (v := ?_) rfl (by kernel_rfl) (by kernel_rfl) (by kernel_rfl) (by kernel_rfl) (fun _ _ => Iff.rfl) (fun _ _ _ h => h) (by rfl) ?_ hS8 ?_
    rotate_left
    · (intro w l hl1 hl2 hSw; obtain ⟨s0, s1⟩ := hSw; go_simp; try with_reducible rfl)
    simp only [Act.put, List.setIfInBounds_toArray, List.set_cons_zero, List.set_cons_succ, List.getElem_toArray, List.getElem_cons_succ, List.getElem_cons_zero]
    refine held2.wpLeft.take (i := 11) (v := ?_) rfl (by kernel_rfl) (by kernel_rfl) (by kernel_rfl) (by kernel_rfl) (fun _ _ => Iff.rfl) (fun _ _ _ h => h) (by rfl) ?_ hS8 ?_
    rotate_left
    · (intro w l hl1 hl2 hSw; obtain ⟨s0, s1⟩ := hSw; go_simp; try with_reducible rfl)
    simp only [Act.put, List.setIfInBounds_toArray, List.set_cons_zero, List.set_cons_succ, List.getElem_toArray, List.getElem_cons_succ, List.getElem_cons_zero]
    refine held2.wpLeft.take (i := 12) (v := ?_) rfl (by kernel_rfl) (by kernel_rfl) (by kernel_rfl) (by kernel_rfl) (fun _ _ => Iff.rfl) (fun _ _ _ h => h) (by rfl) ?_ hS8 ?_
    rotate_left
    · (intro w l hl1 hl2 hSw; obtain ⟨s0, s1⟩ := hSw; go_simp; try with_reducible rfl)
    simp only [Act.put, List.setIfInBounds_toArray, List.set_cons_zero, List.set_cons_succ, List.getElem_toArray, List.getElem_cons_succ, List.getElem_cons_zero]
    refine held2.wpLeft.take (i := 13) (v := ?_) rfl (by kernel_rfl) (by kernel_rfl) (by kernel_rfl) (by kernel_rfl) (fun _ _ => Iff.rfl) (fun _ _ _ h => h) (by rfl) ?_ hS8 ?_
    rotate_left
    · (intro w l hl1 hl2 hSw; obtain ⟨s0, s1⟩ := hSw; go_simp; try with_reducible rfl)
    simp only [Act.put, List.setIfInBounds_toArray, List.set_cons_zero, List.set_cons_succ, List.getElem_toArray, List.getElem_cons_succ, List.getElem_cons_zero]
    refine held2.wpLeft.take (i := 14) (v := ?_) rfl (by kernel_rfl) (by kernel_rfl) (by kernel_rfl) (by kernel_rfl) (fun _ _ => Iff.rfl) (fun _ _ _ h => h) (by rfl) ?_ hS8 ?_
    rotate_left
    · (intro w l hl1 hl2 hSw; obtain ⟨s0, s1⟩ := hSw; go_simp; try with_reducible rfl)
    simp only [Act.put, List.setIfInBounds_toArray, List.set_cons_zero, List.set_cons_succ, List.getElem_toArray, List.getElem_cons_succ, List.getElem_cons_zero]
    refine held2.wpLeft.take (i := 15) (v := ?_) rfl (by kernel_rfl) (by kernel_rfl) (by kernel_rfl) (by kernel_rfl) (fun _ _ => Iff.rfl) (fun _ _ _ h => h) (by rfl) ?_ hS8 ?_
    rotate_left
    · (intro w l hl1 hl2 hSw; obtain ⟨s0, s1⟩ := hSw; go_simp; try with_reducible rfl)
    simp only [Act.put, List.setIfInBounds_toArray, List.set_cons_zero, List.set_cons_succ, List.getElem_toArray, List.getElem_cons_succ, List.getElem_cons_zero]
    refine held2.wpLeft.done (by kernel_rfl) ?_
    have hne := quoteB.nneqN
    have hkI : (p : Int) + (k : Int) ≤ 1000000 := by omega
    have hkI0 : (0 : Int) ≤ (p : Int) + (k : Int) := by omega
    have z1 := g4 1
    have HXS : Hid ((⟨x.toArray⟩ : ByteArray).size ≤ maxLen) := Lib.hid (by
      have : (⟨x.toArray⟩ : ByteArray).size = x.length := by simp [ByteArray.size]
      rw [this]; unfold maxLen; omega)
    have hM3 : RM (w2.setCell ⟨rb, 1, none⟩ (.int .i64 ((p : Int) + (k : Int)))) B rb s (p + k) n d fr F P := HM2.out.setP (p + k)
    have hN3 := HN2.out.set 1 (.int .i64 ((p : Int) + (k : Int)))
    have hW3 := HW2.out.kept (HM2.out.obj.set 1 (.int .i64 ((p : Int) + (k : Int)))).2 (fun e => by cases e; exact hbs rfl)
    have HM3 := Lib.hid hM3
    have HN3 := Lib.hid hN3
    have HW3 := Lib.hid hW3
    clear hS7 hS8 g0 g2 g3 g4 HTK hM3 hN3 hW3
    go_wp2
    obtain ⟨hM5, hN5, hW5⟩ := fin5 HM3.out HN3.out HW3.out hwB HAP.out (.int .i64 5) (.int .i64 0) (.string ⟨x.toArray⟩) (.slice none 0 0) (.slice none 0 0)
    generalize (((((w2.setCell ⟨rb, 1, none⟩ (.int .i64 ((p : Int) + (k : Int)))).setCell ⟨b0, 0, none⟩ (.int .i64 5)).setCell ⟨b0, 1, none⟩ (.int .i64 0)).setCell ⟨b0, 2, none⟩ (.string ⟨x.toArray⟩)).setCell ⟨b0, 3, none⟩ (.slice none 0 0)).setCell ⟨b0, 4, none⟩ (.slice none 0 0) = w5 at *
    obtain ⟨k0, k1, k2, k3, k4⟩ := whole5 hW5
    refine bodyPost_ret (v := .tuple #[.agg #[.int .i64 5, .int .i64 0, .string ⟨x.toArray⟩, .slice none 0 0, .slice none 0 0], .nilIface]) (by simp [results, Tryd.results37, go_sem, k0, k1, k2, k3, k4]) rfl ?_
    refine ⟨5, 0, ⟨x.toArray⟩, by rw [HQ.out], ⟨by unfold In64; omega, by unfold In64; omega, HXS.out⟩, by rw [HQ.out]; rfl, by rw [HQ.out]; exact hM5, hN5⟩

set_option maxRecDepth 100000 in
set_option maxHeartbeats 4000000 in
theorem scalar_neg (w0 w : World) (ad : Nat → Addr) (B rb : Nat) (s : ByteArray) (p n d : Nat) (fr : Nat → Fr) (F : Ix → Thing) (P : Nat → Prop) (hG : Glb w0 w ad rb) (h : RM w B rb s p n d fr F P) (hp : p < s.size) (hs : s.size ≤ 1000000) (hc : hd (s.data.toList.drop p) = 45) :
    Calls Tryd.prog 37 #[.pointer (some ⟨rb, 0, none⟩), .int .u8 45] w (ScP B rb s p n d fr F P ad (scal (s.data.toList.drop p)) w) := by
  have hrB := h.hB.1
  have HG := Lib.hid hG
  have HQ : Hid (scal (s.data.toList.drop p) = if (intsP.takeN (s.data.toList.drop p)).2.2 = 0 then (.mk 4 (intsP.takeN (s.data.toList.drop p)).1 ByteArray.empty [] [], (intsP.takeN (s.data.toList.drop p)).2.1, 0) else (word 0, 0, (intsP.takeN (s.data.toList.drop p)).2.2)) := Lib.hid (by unfold scal; rw [if_neg (by omega), if_pos (by unfold isNum; simp; omega)])
  generalize scal (s.data.toList.drop p) = q at *
  have hba : Below w.heap.size w (w.alloc (.cells #[.int .i64 0, .int .i64 0, .string ⟨#[]⟩, .slice none 0 0, .slice none 0 0] 26)) := (Below.refl _ _).alloc (Nat.le_refl _) _
  have HMa := Lib.hid (h.new hba)
  have HNa := Lib.hid (Near.below (rb := rb) (hba.mono h.hB.2))
  have HWa := Lib.hid (Whole.new w 26 [.int .i64 0, .int .i64 0, .string ⟨#[]⟩, .slice none 0 0, .slice none 0 0])
  have hwB := h.hB.2
  have hbs : w.heap.size ≠ rb := by omega
  have HAP : Hid (w.heap.size ≠ rb ∧ ¬ P w.heap.size ∧ ∀ k, (F k).blk ≠ some w.heap.size) := Lib.hid ⟨hbs, fun hp => Nat.lt_irrefl _ (h.sealed' _ hp).2.1, fun k hk => Nat.lt_irrefl _ (h.blkB k _ hk).2⟩
  clear h hG hba
  go_enter Tryd.func37, Tryd.ntmps37
  go_wp2
  change Hid (Whole (w.alloc (.cells #[.int .i64 0, .int .i64 0, .string ⟨#[]⟩, .slice none 0 0, .slice none 0 0] 26)) _ _ _) at HWa
  generalize w.alloc (.cells #[.int .i64 0, .int .i64 0, .string ⟨#[]⟩, .slice none 0 0, .slice none 0 0] 26) = w1 at *
  generalize w.heap.size = b0 at *
  obtain ⟨f0, f1, f2, f3, f4⟩ := HMa.out.field
  have hbd : Below w1.heap.size w1 w1.drew := (Below.refl _ _).drew
  have hGd := HG.out.near (HNa.out.trans (Near.below (rb := rb) (hbd.mono HMa.out.hB.2))) hrB
  have HTK := Lib.hid (intsC.take_any s (p : Int) w1.drew ad hs hGd.err hGd.rg)
  have HTO : Hid (intsC.takeO s.data.toList (p : Int) = intsP.takeN (s.data.toList.drop p)) := Lib.hid (by
    unfold intsC.takeO
    rw [if_neg (by omega), show ((p : Int)).toNat = p from by omega])
  rw [HTO.out] at HTK
  clear f2 f3 f4 hbd hGd
  refine held2.region (fun _ w' => w'.cell? ⟨rb, 0, none⟩ = some (.string s) ∧ w'.cell? ⟨rb, 1, none⟩ = some (.int .i64 p)) (by kernel_rfl) ?_
  have hS7 : w1.drew.cell? ⟨rb, 0, none⟩ = some (.string s) ∧ w1.drew.cell? ⟨rb, 1, none⟩ = some (.int .i64 p) := ⟨f0, f1⟩
  refine held2.wpLeft.take (i := 0) (v := ?_) rfl (by kernel_rfl) (by kernel_rfl) (by kernel_rfl) (by kernel_rfl) (fun _ _ => Iff.rfl) (fun _ _ _ h => h) (by rfl) ?_ hS7 ?_
  rotate_left
  · (intro w l hl1 hl2 hSw; obtain ⟨s0, s1⟩ := hSw; go_simp; try with_reducible rfl)
  simp only [Act.put, List.setIfInBounds_toArray, List.set_cons_zero, List.set_cons_succ]
  refine held2.wpLeft.take (i := 1) (v := ?_) rfl (by kernel_rfl) (by kernel_rfl) (by kernel_rfl) (by kernel_rfl) (fun _ _ => Iff.rfl) (fun _ _ _ h => h) (by rfl) ?_ hS7 ?_
  rotate_left
  · (intro w l hl1 hl2 hSw; obtain ⟨s0, s1⟩ := hSw; go_simp; try with_reducible rfl)
  simp only [Act.put, List.setIfInBounds_toArray, List.set_cons_zero, List.set_cons_succ]
  refine held2.wpLeft.take (i := 2) (v := ?_) rfl (by kernel_rfl) (by kernel_rfl) (by kernel_rfl) (by kernel_rfl) (fun _ _ => Iff.rfl) (fun _ _ _ h => h) (by rfl) ?_ hS7 ?_
  rotate_left
  · (intro w l hl1 hl2 hSw; obtain ⟨s0, s1⟩ := hSw; go_simp; try with_reducible rfl)
  simp only [Act.put, List.setIfInBounds_toArray, List.set_cons_zero, List.set_cons_succ]
  refine held2.wpLeft.take (i := 3) (v := ?_) rfl (by kernel_rfl) (by kernel_rfl) (by kernel_rfl) (by kernel_rfl) (fun _ _ => Iff.rfl) (fun _ _ _ h => h) (by rfl) ?_ hS7 ?_
  rotate_left
  · (intro w l hl1 hl2 hSw; obtain ⟨s0, s1⟩ := hSw; go_simp; try with_reducible rfl)
  simp only [Act.put, List.setIfInBounds_toArray, List.set_cons_zero, List.set_cons_succ]
  refine held2.wpLeft.take (i := 4) (v := ?_) rfl (by kernel_rfl) (by kernel_rfl) (by kernel_rfl) (by kernel_rfl) (fun _ _ => Iff.rfl) (fun _ _ _ h => h) (by rfl) ?_ hS7 ?_
  rotate_left
  · (intro w l hl1 hl2 hSw; obtain ⟨s0, s1⟩ := hSw; go_simp; try with_reducible rfl)
  simp only [Act.put, List.setIfInBounds_toArray, List.set_cons_zero, List.set_cons_succ]
  refine held2.wpLeft.take (i := 5) (v := ?_) rfl (by kernel_rfl) (by kernel_rfl) (by kernel_rfl) (by kernel_rfl) (fun _ _ => Iff.rfl) (fun _ _ _ h => h) (by rfl) ?_ hS7 ?_
  rotate_left
  · (intro w l hl1 hl2 hSw; obtain ⟨s0, s1⟩ := hSw; go_simp; try with_reducible rfl)
  simp only [Act.put, List.setIfInBounds_toArray, List.set_cons_zero, List.set_cons_succ]
  refine held2.wpLeft.take (i := 6) (v := ?_) rfl (by kernel_rfl) (by kernel_rfl) (by kernel_rfl) (by kernel_rfl) (fun _ _ => Iff.rfl) (fun _ _ _ h => h) (by rfl) ?_ hS7 ?_
  rotate_left
  · (intro w l hl1 hl2 hSw; obtain ⟨s0, s1⟩ := hSw; go_simp; try with_reducible rfl)
  simp only [Act.put, List.setIfInBounds_toArray, List.set_cons_zero, List.set_cons_succ]
  refine held2.wpLeft.take (i := 7) (v := ?_) rfl (by kernel_rfl) (by kernel_rfl) (by kernel_rfl) (by kernel_rfl) (fun _ _ => Iff.rfl) (fun _ _ _ h => h) (by rfl) ?_ hS7 ?_
  rotate_left
  · (intro w l hl1 hl2 hSw; obtain ⟨s0, s1⟩ := hSw; go_simp; try with_reducible rfl)
  simp only [Act.put, List.setIfInBounds_toArray, List.set_cons_zero, List.set_cons_succ]
  refine held2.wpLeft.one (i := 8) (by kernel_rfl) rfl (fun K hK => ?_)
  go_simp
  refine HTK.out.mono ?_
  rintro e w2 ⟨rfl, hb2⟩
  have hb12 : Below w1.heap.size w1 w2 := (Below.refl _ _).drew.trans hb2
  have hM2 := HMa.out.new hb12
  have hN2 := HNa.out.trans (Near.below (rb := rb) (hb12.mono HMa.out.hB.2))
  have hW2 := HWa.out.below hb12 HWa.out.lt
  have HM2 := Lib.hid hM2
  have HN2 := Lib.hid hN2
  have HW2 := Lib.hid hW2
  have HG2 := Lib.hid (HG.out.near hN2 hrB)
  obtain ⟨g0, g1, g2, g3, g4⟩ := hM2.field
  have hS8 : w2.cell? ⟨rb, 0, none⟩ = some (.string s) ∧ w2.cell? ⟨rb, 1, none⟩ = some (.int .i64 p) := ⟨g0, g1⟩
  refine hK.out _ _ hS8 ?_
  have c0 := hW2.cell 0
  have c1 := hW2.cell 1
  have c2 := hW2.cell 2
  have c3 := hW2.cell 3
  have c4 := hW2.cell 4
  simp only [List.getElem?_cons_zero, List.getElem?_cons_succ] at c0 c1 c2 c3 c4
  have y0 := hW2.frozen 0
  have y1 := hW2.frozen 1
  have y2 := hW2.frozen 2
  have y3 := hW2.frozen 3
  have y4 := hW2.frozen 4
  clear hK K hM2 hN2 hW2 hb12 hb2 f0 f1 HMa HNa HWa HTO
  simp only [intsC.tkV]
  have hul : (s.data.toList.drop p).length = s.size - p := by rw [List.length_drop, Array.length_toList, ByteArray.size_data]
  have htl := jsonQ.takeN_len (l := s.data.toList.drop p)
  generalize intsP.takeN (s.data.toList.drop p) = tq at *
  obtain ⟨z, m, er⟩ := tq
  dsimp only at HQ htl
  by_cases her : er = 0
  · obtain ⟨t1, t2, t3⟩ := htl her
    rw [if_pos her] at HQ
    have e0 : intsC.errV ad er = .nilIface := by unfold intsC.errV; rw [if_pos her]
    simp only [e0]
    have hpk : p + m ≤ s.size := by omega
    clear htl t1 t2 hul e0 her
    refine held2.wpLeft.take (i := 9) (v := ?_) rfl (by kernel_rfl) (by kernel_rfl) (by kernel_rfl) (by kernel_rfl) (fun _ _ => Iff.rfl) (fun _ _ _ h => h) (by rfl) ?_ hS8 ?_
    rotate_left
    · (intro w l hl1 hl2 hSw; obtain ⟨s0, s1⟩ := hSw; go_simp; try with_reducible rfl)
    simp only [Act.put, List.setIfInBounds_toArray, List.set_cons_zero, List.set_cons_succ, List.getElem_toArray, List.getElem_cons_succ, List.getElem_cons_zero]
    refine held2.wpLeft.take (i := 10) (v := ?_) rfl (by kernel_rfl) (by kernel_rfl) (by kernel_rfl) (by kernel_rfl) (fun _ _ => Iff.rfl) (fun _ _ _ h => h) (by rfl) ?_ hS8 ?_
    rotate_left
    · (intro w l hl1 hl2 hSw; obtain ⟨s0, s1⟩ := hSw; go_simp; try with_reducible rfl)
    simp only [Act.put, List.setIfInBounds_toArray, List.set_cons_zero, List.set_cons_succ, List.getElem_toArray, List.getElem_cons_succ, List.getElem_cons_zero]
    refine held2.wpLeft.take (i := 11) (v := ?_) rfl (by kernel_rfl) (by kernel_rfl) (by kernel_rfl) (by kernel_rfl) (fun _ _ => Iff.rfl) (fun _ _ _ h => h) (by rfl) ?_ hS8 ?_
    rotate_left
    · (intro w l hl1 hl2 hSw; obtain ⟨s0, s1⟩ := hSw; go_simp; try with_reducible rfl)
    simp only [Act.put, List.setIfInBounds_toArray, List.set_cons_zero, List.set_cons_succ, List.getElem_toArray, List.getElem_cons_succ, List.getElem_cons_zero]
    refine held2.wpLeft.take (i := 12) (v := ?_) rfl (by kernel_rfl) (by kernel_rfl) (by kernel_rfl) (by kernel_rfl) (fun _ _ => Iff.rfl) (fun _ _ _ h => h) (by rfl) ?_ hS8 ?_
    rotate_left
    · (intro w l hl1 hl2 hSw; obtain ⟨s0, s1⟩ := hSw; go_simp; try with_reducible rfl)
    simp only [Act.put, List.setIfInBounds_toArray, List.set_cons_zero, List.set_cons_succ, List.getElem_toArray, List.getElem_cons_succ, List.getElem_cons_zero]
    refine held2.wpLeft.take (i := 13) (v := ?_) rfl (by kernel_rfl) (by kernel_rfl) (by kernel_rfl) (by kernel_rfl) (fun _ _ => Iff.rfl) (fun _ _ _ h => h) (by rfl) ?_ hS8 ?_
    rotate_left
    · (intro w l hl1 hl2 hSw; obtain ⟨s0, s1⟩ := hSw; go_simp; try with_reducible rfl)
    simp only [Act.put, List.setIfInBounds_toArray, List.set_cons_zero, List.set_cons_succ, List.getElem_toArray, List.getElem_cons_succ, List.getElem_cons_zero]
    refine held2.wpLeft.take (i := 14) (v := ?_) rfl (by kernel_rfl) (by kernel_rfl) (by kernel_rfl) (by kernel_rfl) (fun _ _ => Iff.rfl) (fun _ _ _ h => h) (by rfl) ?_ hS8 ?_
    rotate_left
    · (intro w l hl1 hl2 hSw; obtain ⟨s0, s1⟩ := hSw; go_simp; try with_reducible rfl)
    simp only [Act.put, List.setIfInBounds_toArray, List.set_cons_zero, List.set_cons_succ, List.getElem_toArray, List.getElem_cons_succ, List.getElem_cons_zero]
    refine held2.wpLeft.take (i := 15) (v := ?_) rfl (by kernel_rfl) (by kernel_rfl) (by kernel_rfl) (by kernel_rfl) (fun _ _ => Iff.rfl) (fun _ _ _ h => h) (by rfl) ?_ hS8 ?_
    rotate_left
    · (intro w l hl1 hl2 hSw; obtain ⟨s0, s1⟩ := hSw; go_simp; try with_reducible rfl)
    simp only [Act.put, List.setIfInBounds_toArray, List.set_cons_zero, List.set_cons_succ, List.getElem_toArray, List.getElem_cons_succ, List.getElem_cons_zero]
    refine held2.wpLeft.done (by kernel_rfl) ?_
    have hne := quoteB.nneqN
    have hkI : (p : Int) + (m : Int) ≤ 1000000 := by omega
    have hkI0 : (0 : Int) ≤ (p : Int) + (m : Int) := by omega
    have z1 := g4 1
    have hM3 : RM (w2.setCell ⟨rb, 1, none⟩ (.int .i64 ((p : Int) + (m : Int)))) B rb s (p + m) n d fr F P := HM2.out.setP (p + m)
    have hN3 := HN2.out.set 1 (.int .i64 ((p : Int) + (m : Int)))
    have hW3 := HW2.out.kept (HM2.out.obj.set 1 (.int .i64 ((p : Int) + (m : Int)))).2 (fun e => by cases e; exact hbs rfl)
    have HM3 := Lib.hid hM3
    have HN3 := Lib.hid hN3
    have HW3 := Lib.hid hW3
    have HT3 := Lib.hid t3
    clear hS7 hS8 g0 g2 g3 g4 HTK hM3 hN3 hW3 t3
    go_wp2
    obtain ⟨hM5, hN5, hW5⟩ := fin5 HM3.out HN3.out HW3.out hwB HAP.out (.int .i64 4) (.int .i64 z) (.string ⟨#[]⟩) (.slice none 0 0) (.slice none 0 0)
    generalize (((((w2.setCell ⟨rb, 1, none⟩ (.int .i64 ((p : Int) + (m : Int)))).setCell ⟨b0, 0, none⟩ (.int .i64 4)).setCell ⟨b0, 1, none⟩ (.int .i64 z)).setCell ⟨b0, 2, none⟩ (.string ⟨#[]⟩)).setCell ⟨b0, 3, none⟩ (.slice none 0 0)).setCell ⟨b0, 4, none⟩ (.slice none 0 0) = w5 at *
    obtain ⟨k0, k1, k2, k3, k4⟩ := whole5 hW5
    refine bodyPost_ret (v := .tuple #[.agg #[.int .i64 4, .int .i64 z, .string ⟨#[]⟩, .slice none 0 0, .slice none 0 0], .nilIface]) (by simp [results, Tryd.results37, go_sem, k0, k1, k2, k3, k4]) rfl ?_
    refine ⟨4, z, ByteArray.empty, by rw [HQ.out], ⟨by unfold In64; omega, HT3.out, Nat.zero_le _⟩, by rw [HQ.out]; rfl, by rw [HQ.out]; exact hM5, hN5⟩
  · rw [if_neg her] at HQ
    have e0 : intsC.errV ad er = ev (ad (er - 1)) := by unfold intsC.errV; rw [if_neg her]
    have HE0 := Lib.hid e0
    simp only [e0]
    clear htl hul e0 her
    refine held2.wpLeft.take (i := 9) (v := ?_) rfl (by kernel_rfl) (by kernel_rfl) (by kernel_rfl) (by kernel_rfl) (fun _ _ => Iff.rfl) (fun _ _ _ h => h) (by rfl) ?_ hS8 ?_
    rotate_left
    · (intro w l hl1 hl2 hSw; obtain ⟨s0, s1⟩ := hSw; go_simp; try with_reducible rfl)
    simp only [Act.put, List.setIfInBounds_toArray, List.set_cons_zero, List.set_cons_succ, List.getElem_toArray, List.getElem_cons_succ, List.getElem_cons_zero]
    refine held2.wpLeft.take (i := 10) (v := ?_) rfl (by kernel_rfl) (by kernel_rfl) (by kernel_rfl) (by kernel_rfl) (fun _ _ => Iff.rfl) (fun _ _ _ h => h) (by rfl) ?_ hS8 ?_
    rotate_left
    · (intro w l hl1 hl2 hSw; obtain ⟨s0, s1⟩ := hSw; go_simp; try with_reducible rfl)
    simp only [Act.put, List.setIfInBounds_toArray, List.set_cons_zero, List.set_cons_succ, List.getElem_toArray, List.getElem_cons_succ, List.getElem_cons_zero]
    refine held2.wpLeft.take (i := 11) (v := ?_) rfl (by kernel_rfl) (by kernel_rfl) (by kernel_rfl) (by kernel_rfl) (fun _ _ => Iff.rfl) (fun _ _ _ h => h) (by rfl) ?_ hS8 ?_
    rotate_left
    · (intro w l hl1 hl2 hSw; obtain ⟨s0, s1⟩ := hSw; go_simp; try with_reducible rfl)
    simp only [Act.put, List.setIfInBounds_toArray, List.set_cons_zero, List.set_cons_succ, List.getElem_toArray, List.getElem_cons_succ, List.getElem_cons_zero]
    refine held2.wpLeft.take (i := 12) (v := ?_) rfl (by kernel_rfl) (by kernel_rfl) (by kernel_rfl) (by kernel_rfl) (fun _ _ => Iff.rfl) (fun _ _ _ h => h) (by rfl) ?_ hS8 ?_
    rotate_left
    · (intro w l hl1 hl2 hSw; obtain ⟨s0, s1⟩ := hSw; go_simp; try with_reducible rfl)
    simp only [Act.put, List.setIfInBounds_toArray, List.set_cons_zero, List.set_cons_succ, List.getElem_toArray, List.getElem_cons_succ, List.getElem_cons_zero]
    refine held2.wpLeft.take (i := 13) (v := ?_) rfl (by kernel_rfl) (by kernel_rfl) (by kernel_rfl) (by kernel_rfl) (fun _ _ => Iff.rfl) (fun _ _ _ h => h) (by rfl) ?_ hS8 ?_
    rotate_left
    · (intro w l hl1 hl2 hSw; obtain ⟨s0, s1⟩ := hSw; go_simp; try with_reducible rfl)
    simp only [Act.put, List.setIfInBounds_toArray, List.set_cons_zero, List.set_cons_succ, List.getElem_toArray, List.getElem_cons_succ, List.getElem_cons_zero]
    refine held2.wpLeft.take (i := 14) (v := ?_) rfl (by kernel_rfl) (by kernel_rfl) (by kernel_rfl) (by kernel_rfl) (fun _ _ => Iff.rfl) (fun _ _ _ h => h) (by rfl) ?_ hS8 ?_
    rotate_left
    · (intro w l hl1 hl2 hSw; obtain ⟨s0, s1⟩ := hSw; go_simp; try with_reducible rfl)
    simp only [Act.put, List.setIfInBounds_toArray, List.set_cons_zero, List.set_cons_succ, List.getElem_toArray, List.getElem_cons_succ, List.getElem_cons_zero]
    refine held2.wpLeft.take (i := 15) (v := ?_) rfl (by kernel_rfl) (by kernel_rfl) (by kernel_rfl) (by kernel_rfl) (fun _ _ => Iff.rfl) (fun _ _ _ h => h) (by rfl) ?_ hS8 ?_
    rotate_left
    · (intro w l hl1 hl2 hSw; obtain ⟨s0, s1⟩ := hSw; go_simp; try with_reducible rfl)
    simp only [Act.put, List.setIfInBounds_toArray, List.set_cons_zero, List.set_cons_succ, List.getElem_toArray, List.getElem_cons_succ, List.getElem_cons_zero]
    refine held2.wpLeft.done (by kernel_rfl) ?_
    have hne := quoteB.nneqE (ad (er - 1))
    clear hS7 hS8 g0 g1 g2 g3 g4 HTK
    go_wp2
    obtain ⟨hM5, hN5, hW5⟩ := fin5 HM2.out HN2.out HW2.out hwB HAP.out (.int .i64 0) (.int .i64 0) (.string ⟨#[]⟩) (.slice none 0 0) (.slice none 0 0)
    generalize ((((w2.setCell ⟨b0, 0, none⟩ (.int .i64 0)).setCell ⟨b0, 1, none⟩ (.int .i64 0)).setCell ⟨b0, 2, none⟩ (.string ⟨#[]⟩)).setCell ⟨b0, 3, none⟩ (.slice none 0 0)).setCell ⟨b0, 4, none⟩ (.slice none 0 0) = w5 at *
    obtain ⟨k0, k1, k2, k3, k4⟩ := whole5 hW5
    refine bodyPost_ret (v := .tuple #[.agg #[.int .i64 0, .int .i64 0, .string ⟨#[]⟩, .slice none 0 0, .slice none 0 0], ev (ad (er - 1))]) (by simp [results, Tryd.results37, go_sem, k0, k1, k2, k3, k4]) rfl ?_
    refine ⟨0, 0, ByteArray.empty, by rw [HQ.out]; rfl, ⟨by unfold In64; omega, by unfold In64; omega, Nat.zero_le _⟩, by rw [HQ.out, HE0.out]; rfl, by rw [HQ.out]; exact hM5, hN5⟩

set_option maxRecDepth 100000 in
set_option maxHeartbeats 4000000 in
theorem scalar_dig (w0 w : World) (ad : Nat → Addr) (B rb : Nat) (s : ByteArray) (p n d : Nat) (fr : Nat → Fr) (F : Ix → Thing) (P : Nat → Prop) (hG : Glb w0 w ad rb) (h : RM w B rb s p n d fr F P) (hp : p < s.size) (hs : s.size ≤ 1000000) (hc : 48 ≤ hd (s.data.toList.drop p) ∧ hd (s.data.toList.drop p) ≤ 57) :
    Calls Tryd.prog 37 #[.pointer (some ⟨rb, 0, none⟩), .int .u8 (hd (s.data.toList.drop p) : Nat)] w (ScP B rb s p n d fr F P ad (scal (s.data.toList.drop p)) w) := by
  have hrB := h.hB.1
  have HG := Lib.hid hG
  have HQ : Hid (scal (s.data.toList.drop p) = if (intsP.takeN (s.data.toList.drop p)).2.2 = 0 then (.mk 4 (intsP.takeN (s.data.toList.drop p)).1 ByteArray.empty [] [], (intsP.takeN (s.data.toList.drop p)).2.1, 0) else (word 0, 0, (intsP.takeN (s.data.toList.drop p)).2.2)) := Lib.hid (by unfold scal; rw [if_neg (by omega), if_pos (by unfold isNum; simp; omega)])
  generalize scal (s.data.toList.drop p) = q at *
  have hba : Below w.heap.size w (w.alloc (.cells #[.int .i64 0, .int .i64 0, .string ⟨#[]⟩, .slice none 0 0, .slice none 0 0] 26)) := (Below.refl _ _).alloc (Nat.le_refl _) _
  have HMa := Lib.hid (h.new hba)
  have HNa := Lib.hid (Near.below (rb := rb) (hba.mono h.hB.2))
  have HWa := Lib.hid (Whole.new w 26 [.int .i64 0, .int .i64 0, .string ⟨#[]⟩, .slice none 0 0, .slice none 0 0])
  have hwB := h.hB.2
  have hbs : w.heap.size ≠ rb := by omega
  have HAP : Hid (w.heap.size ≠ rb ∧ ¬ P w.heap.size ∧ ∀ k, (F k).blk ≠ some w.heap.size) := Lib.hid ⟨hbs, fun hp => Nat.lt_irrefl _ (h.sealed' _ hp).2.1, fun k hk => Nat.lt_irrefl _ (h.blkB k _ hk).2⟩
  generalize hcc : hd (s.data.toList.drop p) = cc at *
  have n1 : ¬ ((cc : Int) = 34) := by omega
  have n2 : ¬ ((cc : Int) = 45) := by omega
  have n3 : (48 : Int) ≤ (cc : Int) := by omega
  have n4 : (cc : Int) ≤ 57 := by omega
  clear hcc
  clear h hG hba
  go_enter Tryd.func37, Tryd.ntmps37
  go_wp2
  change Hid (Whole (w.alloc (.cells #[.int .i64 0, .int .i64 0, .string ⟨#[]⟩, .slice none 0 0, .slice none 0 0] 26)) _ _ _) at HWa
  generalize w.alloc (.cells #[.int .i64 0, .int .i64 0, .string ⟨#[]⟩, .slice none 0 0, .slice none 0 0] 26) = w1 at *
  generalize w.heap.size = b0 at *
  obtain ⟨f0, f1, f2, f3, f4⟩ := HMa.out.field
  have hbd : Below w1.heap.size w1 w1.drew := (Below.refl _ _).drew
  have hGd := HG.out.near (HNa.out.trans (Near.below (rb := rb) (hbd.mono HMa.out.hB.2))) hrB
  have HTK := Lib.hid (intsC.take_any s (p : Int) w1.drew ad hs hGd.err hGd.rg)
  have HTO : Hid (intsC.takeO s.data.toList (p : Int) = intsP.takeN (s.data.toList.drop p)) := Lib.hid (by
    unfold intsC.takeO
    rw [if_neg (by omega), show ((p : Int)).toNat = p from by omega])
  rw [HTO.out] at HTK
  clear f2 f3 f4 hbd hGd
  refine held2.region (fun _ w' => w'.cell? ⟨rb, 0, none⟩ = some (.string s) ∧ w'.cell? ⟨rb, 1, none⟩ = some (.int .i64 p)) (by kernel_rfl) ?_
  have hS7 : w1.drew.cell? ⟨rb, 0, none⟩ = some (.string s) ∧ w1.drew.cell? ⟨rb, 1, none⟩ = some (.int .i64 p) := ⟨f0, f1⟩
  refine held2.wpLeft.take (i := 0) (v := ?_) rfl (by kernel_rfl) (by kernel_rfl) (by kernel_rfl) (by kernel_rfl) (fun _ _ => Iff.rfl) (fun _ _ _ h => h) (by rfl) ?_ hS7 ?_
  rotate_left
  · (intro w l hl1 hl2 hSw; obtain ⟨s0, s1⟩ := hSw; go_simp; try with_reducible rfl)
  simp only [Act.put, List.setIfInBounds_toArray, List.set_cons_zero, List.set_cons_succ]
  refine held2.wpLeft.take (i := 1) (v := ?_) rfl (by kernel_rfl) (by kernel_rfl) (by kernel_rfl) (by kernel_rfl) (fun _ _ => Iff.rfl) (fun _ _ _ h => h) (by rfl) ?_ hS7 ?_
  rotate_left
  · (intro w l hl1 hl2 hSw; obtain ⟨s0, s1⟩ := hSw; go_simp; try with_reducible rfl)
  simp only [Act.put, List.setIfInBounds_toArray, List.set_cons_zero, List.set_cons_succ]
  refine held2.wpLeft.take (i := 2) (v := ?_) rfl (by kernel_rfl) (by kernel_rfl) (by kernel_rfl) (by kernel_rfl) (fun _ _ => Iff.rfl) (fun _ _ _ h => h) (by rfl) ?_ hS7 ?_
  rotate_left
  · (intro w l hl1 hl2 hSw; obtain ⟨s0, s1⟩ := hSw; go_simp; try with_reducible rfl)
  simp only [Act.put, List.setIfInBounds_toArray, List.set_cons_zero, List.set_cons_succ]
  refine held2.wpLeft.take (i := 3) (v := ?_) rfl (by kernel_rfl) (by kernel_rfl) (by kernel_rfl) (by kernel_rfl) (fun _ _ => Iff.rfl) (fun _ _ _ h => h) (by rfl) ?_ hS7 ?_
  rotate_left
  · (intro w l hl1 hl2 hSw; obtain ⟨s0, s1⟩ := hSw; go_simp; try with_reducible rfl)
  simp only [Act.put, List.setIfInBounds_toArray, List.set_cons_zero, List.set_cons_succ]
  refine held2.wpLeft.take (i := 4) (v := ?_) rfl (by kernel_rfl) (by kernel_rfl) (by kernel_rfl) (by kernel_rfl) (fun _ _ => Iff.rfl) (fun _ _ _ h => h) (by rfl) ?_ hS7 ?_
  rotate_left
  · (intro w l hl1 hl2 hSw; obtain ⟨s0, s1⟩ := hSw; go_simp; try with_reducible rfl)
  simp only [Act.put, List.setIfInBounds_toArray, List.set_cons_zero, List.set_cons_succ]
  refine held2.wpLeft.take (i := 5) (v := ?_) rfl (by kernel_rfl) (by kernel_rfl) (by kernel_rfl) (by kernel_rfl) (fun _ _ => Iff.rfl) (fun _ _ _ h => h) (by rfl) ?_ hS7 ?_
  rotate_left
  · (intro w l hl1 hl2 hSw; obtain ⟨s0, s1⟩ := hSw; go_simp; try with_reducible rfl)
  simp only [Act.put, List.setIfInBounds_toArray, List.set_cons_zero, List.set_cons_succ]
  refine held2.wpLeft.take (i := 6) (v := ?_) rfl (by kernel_rfl) (by kernel_rfl) (by kernel_rfl) (by kernel_rfl) (fun _ _ => Iff.rfl) (fun _ _ _ h => h) (by rfl) ?_ hS7 ?_
  rotate_left
  · (intro w l hl1 hl2 hSw; obtain ⟨s0, s1⟩ := hSw; go_simp; try with_reducible rfl)
  simp only [Act.put, List.setIfInBounds_toArray, List.set_cons_zero, List.set_cons_succ]
  refine held2.wpLeft.take (i := 7) (v := ?_) rfl (by kernel_rfl) (by kernel_rfl) (by kernel_rfl) (by kernel_rfl) (fun _ _ => Iff.rfl) (fun _ _ _ h => h) (by rfl) ?_ hS7 ?_
  rotate_left
  · (intro w l hl1 hl2 hSw; obtain ⟨s0, s1⟩ := hSw; go_simp; try with_reducible rfl)
  simp only [Act.put, List.setIfInBounds_toArray, List.set_cons_zero, List.set_cons_succ]
  refine held2.wpLeft.one (i := 8) (by kernel_rfl) rfl (fun K hK => ?_)
  go_simp
  refine HTK.out.mono ?_
  rintro e w2 ⟨rfl, hb2⟩
  have hb12 : Below w1.heap.size w1 w2 := (Below.refl _ _).drew.trans hb2
  have hM2 := HMa.out.new hb12
  have hN2 := HNa.out.trans (Near.below (rb := rb) (hb12.mono HMa.out.hB.2))
  have hW2 := HWa.out.below hb12 HWa.out.lt
  have HM2 := Lib.hid hM2
  have HN2 := Lib.hid hN2
  have HW2 := Lib.hid hW2
  have HG2 := Lib.hid (HG.out.near hN2 hrB)
  obtain ⟨g0, g1, g2, g3, g4⟩ := hM2.field
  have hS8 : w2.cell? ⟨rb, 0, none⟩ = some (.string s) ∧ w2.cell? ⟨rb, 1, none⟩ = some (.int .i64 p) := ⟨g0, g1⟩
  refine hK.out _ _ hS8 ?_
  have c0 := hW2.cell 0
  have c1 := hW2.cell 1
  have c2 := hW2.cell 2
  have c3 := hW2.cell 3
  have c4 := hW2.cell 4
  simp only [List.getElem?_cons_zero, List.getElem?_cons_succ] at c0 c1 c2 c3 c4
  have y0 := hW2.frozen 0
  have y1 := hW2.frozen 1
  have y2 := hW2.frozen 2
  have y3 := hW2.frozen 3
  have y4 := hW2.frozen 4
  clear hK K hM2 hN2 hW2 hb12 hb2 f0 f1 HMa HNa HWa HTO
  simp only [intsC.tkV]
  have hul : (s.data.toList.drop p).length = s.size - p := by rw [List.length_drop, Array.length_toList, ByteArray.size_data]
  have htl := jsonQ.takeN_len (l := s.data.toList.drop p)
  generalize intsP.takeN (s.data.toList.drop p) = tq at *
  obtain ⟨z, m, er⟩ := tq
  dsimp only at HQ htl
  by_cases her : er = 0
  · obtain ⟨t1, t2, t3⟩ := htl her
    rw [if_pos her] at HQ
    have e0 : intsC.errV ad er = .nilIface := by unfold intsC.errV; rw [if_pos her]
    simp only [e0]
    have hpk : p + m ≤ s.size := by omega
    clear htl t1 t2 hul e0 her
    refine held2.wpLeft.take (i := 9) (v := ?_) rfl (by kernel_rfl) (by kernel_rfl) (by kernel_rfl) (by kernel_rfl) (fun _ _ => Iff.rfl) (fun _ _ _ h => h) (by rfl) ?_ hS8 ?_
    rotate_left
    · (intro w l hl1 hl2 hSw; obtain ⟨s0, s1⟩ := hSw; go_simp; try with_reducible rfl)
    simp only [Act.put, List.setIfInBounds_toArray, List.set_cons_zero, List.set_cons_succ, List.getElem_toArray, List.getElem_cons_succ, List.getElem_cons_zero]
    refine held2.wpLeft.take (i := 10) (v := ?_) rfl (by kernel_rfl) (by kernel_rfl) (by kernel_rfl) (by kernel_rfl) (fun _ _ => Iff.rfl) (fun _ _ _ h => h) (by rfl) ?_ hS8 ?_
    rotate_left
    · (intro w l hl1 hl2 hSw; obtain ⟨s0, s1⟩ := hSw; go_simp; try with_reducible rfl)
    simp only [Act.put, List.setIfInBounds_toArray, List.set_cons_zero, List.set_cons_succ, List.getElem_toArray, List.getElem_cons_succ, List.getElem_cons_zero]
    refine held2.wpLeft.take (i := 11) (v := ?_) rfl (by kernel_rfl) (by kernel_rfl) (by kernel_rfl) (by kernel_rfl) (fun _ _ => Iff.rfl) (fun _ _ _ h => h) (by rfl) ?_ hS8 ?_
    rotate_left
    · (intro w l hl1 hl2 hSw; obtain ⟨s0, s1⟩ := hSw; go_simp; try with_reducible rfl)
    simp only [Act.put, List.setIfInBounds_toArray, List.set_cons_zero, List.set_cons_succ, List.getElem_toArray, List.getElem_cons_succ, List.getElem_cons_zero]
    refine held2.wpLeft.take (i := 12) (v := ?_) rfl (by kernel_rfl) (by kernel_rfl) (by kernel_rfl) (by kernel_rfl) (fun _ _ => Iff.rfl) (fun _ _ _ h => h) (by rfl) ?_ hS8 ?_
    rotate_left
    · (intro w l hl1 hl2 hSw; obtain ⟨s0, s1⟩ := hSw; go_simp; try with_reducible rfl)
    simp only [Act.put, List.setIfInBounds_toArray, List.set_cons_zero, List.set_cons_succ, List.getElem_toArray, List.getElem_cons_succ, List.getElem_cons_zero]
    refine held2.wpLeft.take (i := 13) (v := ?_) rfl (by kernel_rfl) (by kernel_rfl) (by kernel_rfl) (by kernel_rfl) (fun _ _ => Iff.rfl) (fun _ _ _ h => h) (by rfl) ?_ hS8 ?_
    rotate_left
    · (intro w l hl1 hl2 hSw; obtain ⟨s0, s1⟩ := hSw; go_simp; try with_reducible rfl)
    simp only [Act.put, List.setIfInBounds_toArray, List.set_cons_zero, List.set_cons_succ, List.getElem_toArray, List.getElem_cons_succ, List.getElem_cons_zero]
    refine held2.wpLeft.take (i := 14) (v := ?_) rfl (by kernel_rfl) (by kernel_rfl) (by kernel_rfl) (by kernel_rfl) (fun _ _ => Iff.rfl) (fun _ _ _ h => h) (by rfl) ?_ hS8 ?_
    rotate_left
    · (intro w l hl1 hl2 hSw; obtain ⟨s0, s1⟩ := hSw; go_simp; try with_reducible rfl)
    simp only [Act.put, List.setIfInBounds_toArray, List.set_cons_zero, List.set_cons_succ, List.getElem_toArray, List.getElem_cons_succ, List.getElem_cons_zero]
    refine held2.wpLeft.take (i := 15) (v := ?_) rfl (by kernel_rfl) (by kernel_rfl) (by kernel_rfl) (by kernel_rfl) (fun _ _ => Iff.rfl) (fun _ _ _ h => h) (by rfl) ?_ hS8 ?_
    rotate_left
    · (intro w l hl1 hl2 hSw; obtain ⟨s0, s1⟩ := hSw; go_simp; try with_reducible rfl)
    simp only [Act.put, List.setIfInBounds_toArray, List.set_cons_zero, List.set_cons_succ, List.getElem_toArray, List.getElem_cons_succ, List.getElem_cons_zero]
    refine held2.wpLeft.done (by kernel_rfl) ?_
    have hne := quoteB.nneqN
    have hkI : (p : Int) + (m : Int) ≤ 1000000 := by omega
    have hkI0 : (0 : Int) ≤ (p : Int) + (m : Int) := by omega
    have z1 := g4 1
    have hM3 : RM (w2.setCell ⟨rb, 1, none⟩ (.int .i64 ((p : Int) + (m : Int)))) B rb s (p + m) n d fr F P := HM2.out.setP (p + m)
    have hN3 := HN2.out.set 1 (.int .i64 ((p : Int) + (m : Int)))
    have hW3 := HW2.out.kept (HM2.out.obj.set 1 (.int .i64 ((p : Int) + (m : Int)))).2 (fun e => by cases e; exact hbs rfl)
    have HM3 := Lib.hid hM3
    have HN3 := Lib.hid hN3
    have HW3 := Lib.hid hW3
    have HT3 := Lib.hid t3
    clear hS7 hS8 g0 g2 g3 g4 HTK hM3 hN3 hW3 t3
    go_wp2
    obtain ⟨hM5, hN5, hW5⟩ := fin5 HM3.out HN3.out HW3.out hwB HAP.out (.int .i64 4) (.int .i64 z) (.string ⟨#[]⟩) (.slice none 0 0) (.slice none 0 0)
    generalize (((((w2.setCell ⟨rb, 1, none⟩ (.int .i64 ((p : Int) + (m : Int)))).setCell ⟨b0, 0, none⟩ (.int .i64 4)).setCell ⟨b0, 1, none⟩ (.int .i64 z)).setCell ⟨b0, 2, none⟩ (.string ⟨#[]⟩)).setCell ⟨b0, 3, none⟩ (.slice none 0 0)).setCell ⟨b0, 4, none⟩ (.slice none 0 0) = w5 at *
    obtain ⟨k0, k1, k2, k3, k4⟩ := whole5 hW5
    refine bodyPost_ret (v := .tuple #[.agg #[.int .i64 4, .int .i64 z, .string ⟨#[]⟩, .slice none 0 0, .slice none 0 0], .nilIface]) (by simp [results, Tryd.results37, go_sem, k0, k1, k2, k3, k4]) rfl ?_
    refine ⟨4, z, ByteArray.empty, by rw [HQ.out], ⟨by unfold In64; omega, HT3.out, Nat.zero_le _⟩, by rw [HQ.out]; rfl, by rw [HQ.out]; exact hM5, hN5⟩
  · rw [if_neg her] at HQ
    have e0 : intsC.errV ad er = ev (ad (er - 1)) := by unfold intsC.errV; rw [if_neg her]
    have HE0 := Lib.hid e0
    simp only [e0]
    clear htl hul e0 her
    refine held2.wpLeft.take (i := 9) (v := ?_) rfl (by kernel_rfl) (by kernel_rfl) (by kernel_rfl) (by kernel_rfl) (fun _ _ => Iff.rfl) (fun _ _ _ h => h) (by rfl) ?_ hS8 ?_
    rotate_left
    · (intro w l hl1 hl2 hSw; obtain ⟨s0, s1⟩ := hSw; go_simp; try with_reducible rfl)
    simp only [Act.put, List.setIfInBounds_toArray, List.set_cons_zero, List.set_cons_succ, List.getElem_toArray, List.getElem_cons_succ, List.getElem_cons_zero]
    refine held2.wpLeft.take (i := 10) (v := ?_) rfl (by kernel_rfl) (by kernel_rfl) (by kernel_rfl) (by kernel_rfl) (fun _ _ => Iff.rfl) (fun _ _ _ h => h) (by rfl) ?_ hS8 ?_
    rotate_left
    · (intro w l hl1 hl2 hSw; obtain ⟨s0, s1⟩ := hSw; go_simp; try with_reducible rfl)
    simp only [Act.put, List.setIfInBounds_toArray, List.set_cons_zero, List.set_cons_succ, List.getElem_toArray, List.getElem_cons_succ, List.getElem_cons_zero]
    refine held2.wpLeft.take (i := 11) (v := ?_) rfl (by kernel_rfl) (by kernel_rfl) (by kernel_rfl) (by kernel_rfl) (fun _ _ => Iff.rfl) (fun _ _ _ h => h) (by rfl) ?_ hS8 ?_
    rotate_left
    · (intro w l hl1 hl2 hSw; obtain ⟨s0, s1⟩ := hSw; go_simp; try with_reducible rfl)
    simp only [Act.put, List.setIfInBounds_toArray, List.set_cons_zero, List.set_cons_succ, List.getElem_toArray, List.getElem_cons_succ, List.getElem_cons_zero]
    refine held2.wpLeft.take (i := 12) (v := ?_) rfl (by kernel_rfl) (by kernel_rfl) (by kernel_rfl) (by kernel_rfl) (fun _ _ => Iff.rfl) (fun _ _ _ h => h) (by rfl) ?_ hS8 ?_
    rotate_left
    · (intro w l hl1 hl2 hSw; obtain ⟨s0, s1⟩ := hSw; go_simp; try with_reducible rfl)
    simp only [Act.put, List.setIfInBounds_toArray, List.set_cons_zero, List.set_cons_succ, List.getElem_toArray, List.getElem_cons_succ, List.getElem_cons_zero]
    refine held2.wpLeft.take (i := 13) (v := ?_) rfl (by kernel_rfl) (by kernel_rfl) (by kernel_rfl) (by kernel_rfl) (fun _ _ => Iff.rfl) (fun _ _ _ h => h) (by rfl) ?_ hS8 ?_
    rotate_left
    · (intro w l hl1 hl2 hSw; obtain ⟨s0, s1⟩ := hSw; go_simp; try with_reducible rfl)
    simp only [Act.put, List.setIfInBounds_toArray, List.set_cons_zero, List.set_cons_succ, List.getElem_toArray, List.getElem_cons_succ, List.getElem_cons_zero]
    refine held2.wpLeft.take (i := 14) (v := ?_) rfl (by kernel_rfl) (by kernel_rfl) (by kernel_rfl) (by kernel_rfl) (fun _ _ => Iff.rfl) (fun _ _ _ h => h) (by rfl) ?_ hS8 ?_
    rotate_left
    · (intro w l hl1 hl2 hSw; obtain ⟨s0, s1⟩ := hSw; go_simp; try with_reducible rfl)
    simp only [Act.put, List.setIfInBounds_toArray, List.set_cons_zero, List.set_cons_succ, List.getElem_toArray, List.getElem_cons_succ, List.getElem_cons_zero]
    refine held2.wpLeft.take (i := 15) (v := ?_) rfl (by kernel_rfl) (by kernel_rfl) (by kernel_rfl) (by kernel_rfl) (fun _ _ => Iff.rfl) (fun _ _ _ h => h) (by rfl) ?_ hS8 ?_
    rotate_left
    · (intro w l hl1 hl2 hSw; obtain ⟨s0, s1⟩ := hSw; go_simp; try with_reducible rfl)
    simp only [Act.put, List.setIfInBounds_toArray, List.set_cons_zero, List.set_cons_succ, List.getElem_toArray, List.getElem_cons_succ, List.getElem_cons_zero]
    refine held2.wpLeft.done (by kernel_rfl) ?_
    have hne := quoteB.nneqE (ad (er - 1))
    clear hS7 hS8 g0 g1 g2 g3 g4 HTK
    go_wp2
    obtain ⟨hM5, hN5, hW5⟩ := fin5 HM2.out HN2.out HW2.out hwB HAP.out (.int .i64 0) (.int .i64 0) (.string ⟨#[]⟩) (.slice none 0 0) (.slice none 0 0)
    generalize ((((w2.setCell ⟨b0, 0, none⟩ (.int .i64 0)).setCell ⟨b0, 1, none⟩ (.int .i64 0)).setCell ⟨b0, 2, none⟩ (.string ⟨#[]⟩)).setCell ⟨b0, 3, none⟩ (.slice none 0 0)).setCell ⟨b0, 4, none⟩ (.slice none 0 0) = w5 at *
    obtain ⟨k0, k1, k2, k3, k4⟩ := whole5 hW5
    refine bodyPost_ret (v := .tuple #[.agg #[.int .i64 0, .int .i64 0, .string ⟨#[]⟩, .slice none 0 0, .slice none 0 0], ev (ad (er - 1))]) (by simp [results, Tryd.results37, go_sem, k0, k1, k2, k3, k4]) rfl ?_
    refine ⟨0, 0, ByteArray.empty, by rw [HQ.out]; rfl, ⟨by unfold In64; omega, by unfold In64; omega, Nat.zero_le _⟩, by rw [HQ.out, HE0.out]; rfl, by rw [HQ.out]; exact hM5, hN5⟩
end Go.Proofs.YtdbidkfjbhclcaaDoor.jsonG
