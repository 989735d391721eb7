/-
  Contracts of the reference's reader: fail, next, must, text.
-/
import Derived.Test.YtjcaffpmcgfhaaaGreatDoorJsonB
import Derived.Test.YtjcaffpmcgfhaaaGreatDoorHeld2
import Derived.Test.YtjcaffpmcgfhaaaGreatDoorRefP
import Derived.Test.YtjcaffpmcgfhaaaGreatDoorQuoteD
import Derived.Test.YtjcaffpmcgfhaaaGreatDoorIntM
namespace Go.Proofs.YtjcaffpmcgfhaaaGreatDoor.refA
open Go.ChangeShapes Go.WideShapes Go.ChangeAt Go.RowKit Go.WideMaps Go.Maps nodeP nodeQ nodeS ownI jsonP jsonA jsonB
set_option linter.unusedSimpArgs false
set_option linter.unusedVariables false

/-- the reference's reader: where it is, its error, how many values -/
def Rw (w : World) (rb : Nat) (s : ByteArray) (p e n : Nat) : Prop := Whole w rb 43 [.string s, .int .i64 p, .int .i64 e, .int .i64 n]
section
variable {w w' : World} {rb : Nat} {s : ByteArray} {p e n : Nat}
theorem Rw.field (h : Rw w rb s p e n) : w.cell? ⟨rb, 0, none⟩ = some (.string s) ∧ w.cell? ⟨rb, 1, none⟩ = some (.int .i64 p) ∧ w.cell? ⟨rb, 2, none⟩ = some (.int .i64 e) ∧ w.cell? ⟨rb, 3, none⟩ = some (.int .i64 n) ∧ ∀ j, w.frozen? ⟨rb, j, none⟩ = false :=
  ⟨h.cell 0, h.cell 1, h.cell 2, h.cell 3, h.frozen⟩
theorem Rw.setP (h : Rw w rb s p e n) (p' : Nat) : Rw (w.setCell ⟨rb, 1, none⟩ (.int .i64 p')) rb s p' e n := (Whole.set h 1 _).1
theorem Rw.setE (h : Rw w rb s p e n) (e' : Nat) : Rw (w.setCell ⟨rb, 2, none⟩ (.int .i64 e')) rb s p e' n := (Whole.set h 2 _).1
theorem Rw.setN (h : Rw w rb s p e n) (n' : Nat) : Rw (w.setCell ⟨rb, 3, none⟩ (.int .i64 n')) rb s p e n' := (Whole.set h 3 _).1
theorem Rw.new (h : Rw w rb s p e n) (hb : Below w.heap.size w w') : Rw w' rb s p e n := Whole.below h hb (Whole.lt h)
theorem Rw.draws (h : Rw w rb s p e n) (nq : Nat) : Rw (w.drewN nq) rb s p e n := h.new (Go.Joins.below_draws _ _ _)
end
theorem gr_draws {w w' : World} {r : Option Nat} (h : w.grownBy w' r) (nq : Nat) : w.grownBy (w'.drewN nq) r := gs h (grown_below (Go.Joins.below_draws _ _ _) r)
theorem gr_refl (w : World) (r : Option Nat) : w.grownBy w r := ⟨rfl, rfl, rfl, Nat.le_refl _, fun _ _ _ => rfl⟩
theorem gr_set {w w' : World} {rb : Nat} (h : w.grownBy w' (some rb)) (j : Nat) (x : Value) : w.grownBy (w'.setCell ⟨rb, j, none⟩ x) (some rb) := gs h (g1 w' rb j x)

theorem gr_two {a b c : World} {r : Option Nat} {g : Nat} (h : a.grownBy b r) (k : b.grownBy c (some g)) (hg : r = some g ∨ a.heap.size ≤ g) : a.grownBy c r :=
  ⟨k.os.trans h.os, k.tape.trans h.tape, k.output.trans h.output, Nat.le_trans h.size k.size, fun j hj hne => (k.block j (Nat.lt_of_lt_of_le hj h.size) (fun e => by
    rcases hg with hg | hg
    · exact hne (e.trans hg.symm)
    · have := Option.some.inj e; omega)).trans (h.block j hj hne)⟩

def FlP (rb : Nat) (s : ByteArray) (p e n : Nat) (w : World) (x : Ending) (w' : World) : Prop := x = .returned (.tuple #[]) ∧ Rw w' rb s p e n ∧ w.grownBy w' (some rb)
set_option maxRecDepth 100000 in
theorem fail_new (w : World) (rb : Nat) (s : ByteArray) (p n k : Nat) (h : Rw w rb s p 0 n) (hk : k ≤ 13) :
    Calls Tryz.prog 13 #[.pointer (some ⟨rb, 0, none⟩), .int .i64 k] w (FlP rb s p k n w) := by
  have HM := Lib.hid (h.setE k)
  obtain ⟨f0, f1, f2, f3, f4⟩ := h.field
  have z2 := f4 2
  clear h f0 f1 f3 f4
  go_enter Tryz.func13, Tryz.ntmps13
  go_wp2
  go_end0
  exact ⟨rfl, HM.out, g1 _ _ _ _⟩
set_option maxRecDepth 100000 in
theorem fail_old (w : World) (rb : Nat) (s : ByteArray) (p e n k : Nat) (h : Rw w rb s p e n) (he : e ≠ 0) :
    Calls Tryz.prog 13 #[.pointer (some ⟨rb, 0, none⟩), .int .i64 k] w (FlP rb s p e n w) := by
  have HM := Lib.hid h
  obtain ⟨f0, f1, f2, f3, f4⟩ := h.field
  have z2 := f4 2
  have heI : ¬ ((e : Int) = 0) := by omega
  clear h f0 f1 f3 f4 he
  go_enter Tryz.func13, Tryz.ntmps13
  go_wp2
  go_end0
  exact ⟨rfl, HM.out, gr_refl _ _⟩

def NxP (rb : Nat) (s : ByteArray) (p n : Nat) (w : World) (x : Ending) (w' : World) : Prop :=
  x = .returned (.int .u8 (hd (bs (s.data.toList.drop p)) : Nat)) ∧ ∃ p', p ≤ p' ∧ p' ≤ s.size ∧ s.data.toList.drop p' = bs (s.data.toList.drop p) ∧ Rw w' rb s p' 0 n ∧ w.grownBy w' (some rb)
set_option maxRecDepth 100000 in
set_option maxHeartbeats 4000000 in
theorem next_any (w : World) (rb : Nat) (s : ByteArray) (p n : Nat) (h : Rw w rb s p 0 n) (hp : p ≤ s.size) (hs : s.size ≤ 1000000) :
    Calls Tryz.prog 12 #[.pointer (some ⟨rb, 0, none⟩)] w (NxP rb s p n w) := by
  have HM := Lib.hid h
  clear h
  go_enter Tryz.func12, Tryz.ntmps12
  go_wp2
  go_loopw [2] (fun _ wr => ∃ k : Nat, p ≤ k ∧ k ≤ s.size ∧ Rw wr rb s k 0 n ∧ w.grownBy wr (some rb) ∧ Hid (bs (s.data.toList.drop k) = bs (s.data.toList.drop p))) (fun _ wr => s.size - (intOf ((wr.cell? ⟨rb, 1, none⟩).getD (.int .i64 0))).toNat)
  case atStart => exact ⟨p, Nat.le_refl _, hp, HM.out, gr_refl _ _, Lib.hid rfl⟩
  case round =>
    clear HM
    obtain ⟨k, hpk, hk, hM, hN, hB⟩ := hrel
    have HM := Lib.hid hM
    have HN := Lib.hid hN
    obtain ⟨f0, f1, f2, f3, f4⟩ := hM.field
    have HF1 := Lib.hid f1
    clear f2 f3 f4 hM hN
    by_cases hlt : k < s.size
    · have hkI : (k : Int) < (s.size : Int) := by omega
      have hk0 : (0 : Int) ≤ (k : Int) := by omega
      have hdr := drop_at s hlt
      have HDR := Lib.hid hdr
      rw [hdr] at hB
      have hcn : s[k].toNat < 256 := s[k].toNat_lt
      by_cases hbl : isBl s[k] = true
      · have HB2 : Hid (bs (s.data.toList.drop (k + 1)) = bs (s.data.toList.drop p)) := Lib.hid (by rw [← hB.out, bs_yes hbl])
        have hcc : s[k].toNat = 9 ∨ s[k].toNat = 10 ∨ s[k].toNat = 13 ∨ s[k].toNat = 32 := by
          simp only [isBl, Bool.or_eq_true, beq_iff_eq] at hbl
          rcases hbl with ((h | h) | h) | h <;> rw [h] <;> simp
        clear hB hdr hbl HDR
        rcases hcc with hcc | hcc | hcc | hcc
        all_goals
          go_wp2
          go_quiet (fail)
          have HM1 := Lib.hid (HM.out.draws nq)
          have HN1 := Lib.hid (gr_draws HN.out nq)
          generalize wr.drewN nq = w1 at *
          clear f0 f1 HM HN
          obtain ⟨f0, f1, f2, f3, f4⟩ := HM1.out.field
          clear f2 f3 f4
          go_wp2
          go_quiet (fail)
          have hM2 := HM1.out.draws nq
          have HN2 := Lib.hid (gr_draws HN1.out nq)
          generalize w1.drewN nq = w2 at *
          clear f0 f1 HM1 HN1
          have HM2 := Lib.hid (hM2.setP (k + 1))
          obtain ⟨f0, f1, f2, f3, f4⟩ := hM2.field
          have z1 := f4 1
          have HN3 := Lib.hid (gr_set HN2.out 1 (.int .i64 ((k + 1 : Nat) : Int)))
          clear hM2 f2 f3 f4
          go_wp2
          go_roundw
          case rel => exact ⟨k + 1, by omega, by omega, HM2.out, HN3.out, HB2⟩
          case measure =>
            have e1 : (w2.setCell ⟨rb, 1, none⟩ (.int .i64 ((k : Int) + 1))).cell? ⟨rb, 1, none⟩ = some (.int .i64 ((k : Int) + 1)) := HM2.out.field.2.1
            have e2 := HF1.out
            simp only [e1, e2, Option.getD_some, intOf]
            omega
      · have hbl' : isBl s[k] = false := by simpa using hbl
        have HE : Hid (bs (s.data.toList.drop p) = s[k] :: s.data.toList.drop (k + 1)) := Lib.hid (by rw [← hB.out, bs_no hbl'])
        have n1 : s[k].toNat ≠ 9 := fun e => by have : s[k] = 9 := UInt8.toNat_inj.1 e; rw [this] at hbl'; cases hbl'
        have n2 : s[k].toNat ≠ 10 := fun e => by have : s[k] = 10 := UInt8.toNat_inj.1 e; rw [this] at hbl'; cases hbl'
        have n3 : s[k].toNat ≠ 13 := fun e => by have : s[k] = 13 := UInt8.toNat_inj.1 e; rw [this] at hbl'; cases hbl'
        have n4 : s[k].toNat ≠ 32 := fun e => by have : s[k] = 32 := UInt8.toNat_inj.1 e; rw [this] at hbl'; cases hbl'
        have m1 : ¬ ((s[k].toNat : Int) = 9) := by omega
        have m2 : ¬ ((s[k].toNat : Int) = 10) := by omega
        have m3 : ¬ ((s[k].toNat : Int) = 13) := by omega
        have m4 : ¬ ((s[k].toNat : Int) = 32) := by omega
        clear hB hdr hbl hbl' n1 n2 n3 n4
        go_wp2
        go_quiet (fail)
        have HM1 := Lib.hid (HM.out.draws nq)
        have HN1 := Lib.hid (gr_draws HN.out nq)
        generalize wr.drewN nq = w1 at *
        clear f0 f1 HM HN
        obtain ⟨f0, f1, f2, f3, f4⟩ := HM1.out.field
        clear f2 f3 f4
        go_wp2
        go_quiet (fail)
        have HM2 := Lib.hid (HM1.out.draws nq)
        have HN2 := Lib.hid (gr_draws HN1.out nq)
        generalize w1.drewN nq = w2 at *
        clear f0 f1 HM1 HN1
        obtain ⟨f0, f1, f2, f3, f4⟩ := HM2.out.field
        clear f2 f3 f4
        go_wp2
        go_quiet (fail)
        have HM3 := Lib.hid (HM2.out.draws nq)
        have HN3 := Lib.hid (gr_draws HN2.out nq)
        generalize w2.drewN nq = w3 at *
        clear f0 f1 HM2 HN2
        go_wp2
        go_ret
        exact ⟨by rw [HE.out]; rfl, k, hpk, hk, by rw [HE.out]; exact HDR.out, HM3.out, HN3.out⟩
    · have hkI : ¬ ((k : Int) < (s.size : Int)) := by omega
      have HE : Hid (bs (s.data.toList.drop p) = []) := Lib.hid (by rw [← hB.out, drop_no s hlt]; rfl)
      have HDR := Lib.hid (drop_no s hlt)
      clear hB
      go_wp2
      go_quiet (fail)
      have HM1 := Lib.hid (HM.out.draws nq)
      have HN1 := Lib.hid (gr_draws HN.out nq)
      generalize wr.drewN nq = w1 at *
      clear f0 f1 HM HN
      go_wp2
      go_ret
      exact ⟨by rw [HE.out]; rfl, k, hpk, hk, by rw [HE.out]; exact HDR.out, HM1.out, HN1.out⟩

/-- what must leaves -/
def MuP (rb : Nat) (s : ByteArray) (p n c : Nat) (w : World) (x : Ending) (w' : World) : Prop :=
  x = .returned (.tuple #[]) ∧ w.grownBy w' (some rb) ∧ ∃ p' e', p ≤ p' ∧ p' ≤ s.size ∧ Rw w' rb s p' e' n ∧
    ((hd (bs (s.data.toList.drop p)) = c ∧ e' = 0 ∧ s.data.toList.drop p' = (bs (s.data.toList.drop p)).tail) ∨ (hd (bs (s.data.toList.drop p)) ≠ c ∧ e' = 1))
theorem hd_drop {s : ByteArray} {p : Nat} (h : hd (s.data.toList.drop p) ≠ 0) : p < s.size := by
  by_cases hp : p < s.size
  · exact hp
  · rw [drop_no s hp] at h; exact absurd rfl h
theorem gr_drew {w w' : World} {r : Option Nat} (h : w.drew.grownBy w' r) : w.grownBy w' r := gs (grown_below (Below.refl _ _).drew r) h
set_option maxRecDepth 100000 in
set_option maxHeartbeats 4000000 in
theorem must_any (w : World) (rb : Nat) (s : ByteArray) (p n c : Nat) (h : Rw w rb s p 0 n) (hp : p ≤ s.size) (hs : s.size ≤ 1000000) (hc : c ≠ 0) (hc2 : c < 256) :
    Calls Tryz.prog 38 #[.pointer (some ⟨rb, 0, none⟩), .int .u8 c] w (MuP rb s p n c w) := by
  have HNX := Lib.hid (next_any w.drew rb s p n (h.new (Below.refl _ _).drew) hp hs)
  clear h
  go_enter Tryz.func38, Tryz.ntmps38
  go_wp2
  refine held2.region (fun _ _ => True) (by kernel_rfl) ?_
  refine held2.wpLeft.take (i := 0) (v := ?_) rfl (by kernel_rfl) (by kernel_rfl) (by kernel_rfl) (by kernel_rfl) (fun _ _ => Iff.rfl) (fun _ _ _ h => h) (by rfl) ?_ trivial ?_
  rotate_left
  · (intro w l hl1 hl2 hSw; go_simp; try with_reducible rfl)
  simp only [Act.put, List.setIfInBounds_toArray, List.set_cons_zero, List.set_cons_succ, List.getElem_toArray, List.getElem_cons_succ, List.getElem_cons_zero]
  refine held2.wpLeft.take (i := 2) (v := ?_) rfl (by kernel_rfl) (by kernel_rfl) (by kernel_rfl) (by kernel_rfl) (fun _ _ => Iff.rfl) (fun _ _ _ h => h) (by rfl) ?_ trivial ?_
  rotate_left
  · (intro w l hl1 hl2 hSw; go_simp; try with_reducible rfl)
  simp only [Act.put, List.setIfInBounds_toArray, List.set_cons_zero, List.set_cons_succ, List.getElem_toArray, List.getElem_cons_succ, List.getElem_cons_zero]
  refine held2.wpLeft.one (i := 1) (by kernel_rfl) rfl (fun K hK => ?_)
  go_simp
  refine HNX.out.mono ?_
  rintro x w1 ⟨rfl, p', hpp, hp', hdr, hM, hG⟩
  refine hK.out _ _ trivial ?_
  clear hK K
  have HM := Lib.hid hM
  have HG := Lib.hid (gr_drew hG)
  have HFN := Lib.hid (fail_new w1 rb s p' n 1 hM (by omega))
  obtain ⟨f0, f1, f2, f3, f4⟩ := hM.field
  have z1 := f4 1
  by_cases he : hd (bs (s.data.toList.drop p)) = c
  · have hlt : p' < s.size := hd_drop (by rw [hdr, he]; exact hc)
    have hltI : ¬ ((s.size : Int) ≤ (p' : Int)) := by omega
    have hltI2 : (p' : Int) < (s.size : Int) := by omega
    have HM2 := Lib.hid (hM.setP (p' + 1))
    have HD2 : Hid (s.data.toList.drop (p' + 1) = (bs (s.data.toList.drop p)).tail) := Lib.hid (by rw [← hdr, List.tail_drop])
    subst he
    have HQ : Hid (∃ q, q = hd (bs (s.data.toList.drop p))) := Lib.hid ⟨_, rfl⟩
    have HE : Hid (hd (bs (s.data.toList.drop p)) = hd (bs (s.data.toList.drop p))) := Lib.hid rfl
    have HF : Hid (∀ w', Rw w' rb s (p' + 1) 0 n → w.grownBy w' (some rb) → MuP rb s p n (hd (bs (s.data.toList.drop p))) w (.returned (.tuple #[])) w') := Lib.hid (fun w' h1 h2 => ⟨rfl, h2, p' + 1, 0, by omega, by omega, h1, .inl ⟨rfl, rfl, HD2.out⟩⟩)
    generalize hq : hd (bs (s.data.toList.drop p)) = q at *
    clear hM hG hdr f2 f3 f4 hq HE HQ HD2 HNX HFN
    refine held2.weaken (S' := fun _ w' => w'.cell? ⟨rb, 0, none⟩ = some (.string s) ∧ w'.cell? ⟨rb, 1, none⟩ = some (.int .i64 p')) (fun _ _ _ => trivial) _ _ _ _ ?_
    have hS7 := And.intro f0 f1
    refine held2.wpLeft.take (i := 3) (v := ?_) rfl (by kernel_rfl) (by kernel_rfl) (by kernel_rfl) (by kernel_rfl) (fun _ _ => Iff.rfl) (fun _ _ _ h => h) (by rfl) ?_ hS7 ?_
    rotate_left
    · (intro w l hl1 hl2 hSw; obtain ⟨s0, s1⟩ := hSw; go_simp; try with_reducible rfl)
    simp only [Act.put, List.setIfInBounds_toArray, List.set_cons_zero, List.set_cons_succ, List.getElem_toArray, List.getElem_cons_succ, List.getElem_cons_zero]
    refine held2.wpLeft.take (i := 4) (v := ?_) rfl (by kernel_rfl) (by kernel_rfl) (by kernel_rfl) (by kernel_rfl) (fun _ _ => Iff.rfl) (fun _ _ _ h => h) (by rfl) ?_ hS7 ?_
    rotate_left
    · (intro w l hl1 hl2 hSw; obtain ⟨s0, s1⟩ := hSw; go_simp; try with_reducible rfl)
    simp only [Act.put, List.setIfInBounds_toArray, List.set_cons_zero, List.set_cons_succ, List.getElem_toArray, List.getElem_cons_succ, List.getElem_cons_zero]
    refine held2.wpLeft.take (i := 5) (v := ?_) rfl (by kernel_rfl) (by kernel_rfl) (by kernel_rfl) (by kernel_rfl) (fun _ _ => Iff.rfl) (fun _ _ _ h => h) (by rfl) ?_ hS7 ?_
    rotate_left
    · (intro w l hl1 hl2 hSw; obtain ⟨s0, s1⟩ := hSw; go_simp; try with_reducible rfl)
    simp only [Act.put, List.setIfInBounds_toArray, List.set_cons_zero, List.set_cons_succ, List.getElem_toArray, List.getElem_cons_succ, List.getElem_cons_zero]
    refine held2.wpLeft.take (i := 6) (v := ?_) rfl (by kernel_rfl) (by kernel_rfl) (by kernel_rfl) (by kernel_rfl) (fun _ _ => Iff.rfl) (fun _ _ _ h => h) (by rfl) ?_ hS7 ?_
    rotate_left
    · (intro w l hl1 hl2 hSw; obtain ⟨s0, s1⟩ := hSw; go_simp; try with_reducible rfl)
    simp only [Act.put, List.setIfInBounds_toArray, List.set_cons_zero, List.set_cons_succ, List.getElem_toArray, List.getElem_cons_succ, List.getElem_cons_zero]
    refine held2.wpLeft.take (i := 7) (v := ?_) rfl (by kernel_rfl) (by kernel_rfl) (by kernel_rfl) (by kernel_rfl) (fun _ _ => Iff.rfl) (fun _ _ _ h => h) (by rfl) ?_ hS7 ?_
    rotate_left
    · (intro w l hl1 hl2 hSw; obtain ⟨s0, s1⟩ := hSw; go_simp; try with_reducible rfl)
    simp only [Act.put, List.setIfInBounds_toArray, List.set_cons_zero, List.set_cons_succ, List.getElem_toArray, List.getElem_cons_succ, List.getElem_cons_zero]
    refine held2.wpLeft.take (i := 8) (v := ?_) rfl (by kernel_rfl) (by kernel_rfl) (by kernel_rfl) (by kernel_rfl) (fun _ _ => Iff.rfl) (fun _ _ _ h => h) (by rfl) ?_ hS7 ?_
    rotate_left
    · (intro w l hl1 hl2 hSw; obtain ⟨s0, s1⟩ := hSw; go_simp; try with_reducible rfl)
    simp only [Act.put, List.setIfInBounds_toArray, List.set_cons_zero, List.set_cons_succ, List.getElem_toArray, List.getElem_cons_succ, List.getElem_cons_zero]
    refine held2.wpLeft.take (i := 9) (v := ?_) rfl (by kernel_rfl) (by kernel_rfl) (by kernel_rfl) (by kernel_rfl) (fun _ _ => Iff.rfl) (fun _ _ _ h => h) (by rfl) ?_ hS7 ?_
    rotate_left
    · (intro w l hl1 hl2 hSw; obtain ⟨s0, s1⟩ := hSw; go_simp; try with_reducible rfl)
    simp only [Act.put, List.setIfInBounds_toArray, List.set_cons_zero, List.set_cons_succ, List.getElem_toArray, List.getElem_cons_succ, List.getElem_cons_zero]
    refine held2.wpLeft.take (i := 10) (v := ?_) rfl (by kernel_rfl) (by kernel_rfl) (by kernel_rfl) (by kernel_rfl) (fun _ _ => Iff.rfl) (fun _ _ _ h => h) (by rfl) ?_ hS7 ?_
    rotate_left
    · (intro w l hl1 hl2 hSw; obtain ⟨s0, s1⟩ := hSw; go_simp; try with_reducible rfl)
    simp only [Act.put, List.setIfInBounds_toArray, List.set_cons_zero, List.set_cons_succ, List.getElem_toArray, List.getElem_cons_succ, List.getElem_cons_zero]
    refine held2.wpLeft.take (i := 11) (v := ?_) rfl (by kernel_rfl) (by kernel_rfl) (by kernel_rfl) (by kernel_rfl) (fun _ _ => Iff.rfl) (fun _ _ _ h => h) (by rfl) ?_ hS7 ?_
    rotate_left
    · (intro w l hl1 hl2 hSw; obtain ⟨s0, s1⟩ := hSw; go_simp; try with_reducible rfl)
    simp only [Act.put, List.setIfInBounds_toArray, List.set_cons_zero, List.set_cons_succ, List.getElem_toArray, List.getElem_cons_succ, List.getElem_cons_zero]
    refine held2.wpLeft.take (i := 12) (v := ?_) rfl (by kernel_rfl) (by kernel_rfl) (by kernel_rfl) (by kernel_rfl) (fun _ _ => Iff.rfl) (fun _ _ _ h => h) (by rfl) ?_ hS7 ?_
    rotate_left
    · (intro w l hl1 hl2 hSw; obtain ⟨s0, s1⟩ := hSw; go_simp; try with_reducible rfl)
    simp only [Act.put, List.setIfInBounds_toArray, List.set_cons_zero, List.set_cons_succ, List.getElem_toArray, List.getElem_cons_succ, List.getElem_cons_zero]
    refine held2.wpLeft.take (i := 13) (v := ?_) rfl (by kernel_rfl) (by kernel_rfl) (by kernel_rfl) (by kernel_rfl) (fun _ _ => Iff.rfl) (fun _ _ _ h => h) (by rfl) ?_ hS7 ?_
    rotate_left
    · (intro w l hl1 hl2 hSw; obtain ⟨s0, s1⟩ := hSw; go_simp; try with_reducible rfl)
    simp only [Act.put, List.setIfInBounds_toArray, List.set_cons_zero, List.set_cons_succ, List.getElem_toArray, List.getElem_cons_succ, List.getElem_cons_zero]
    refine held2.wpLeft.take (i := 14) (v := ?_) rfl (by kernel_rfl) (by kernel_rfl) (by kernel_rfl) (by kernel_rfl) (fun _ _ => Iff.rfl) (fun _ _ _ h => h) (by rfl) ?_ hS7 ?_
    rotate_left
    · (intro w l hl1 hl2 hSw; obtain ⟨s0, s1⟩ := hSw; go_simp; try with_reducible rfl)
    simp only [Act.put, List.setIfInBounds_toArray, List.set_cons_zero, List.set_cons_succ, List.getElem_toArray, List.getElem_cons_succ, List.getElem_cons_zero]
    refine held2.wpLeft.take (i := 15) (v := ?_) rfl (by kernel_rfl) (by kernel_rfl) (by kernel_rfl) (by kernel_rfl) (fun _ _ => Iff.rfl) (fun _ _ _ h => h) (by rfl) ?_ hS7 ?_
    rotate_left
    · (intro w l hl1 hl2 hSw; obtain ⟨s0, s1⟩ := hSw; go_simp; try with_reducible rfl)
    simp only [Act.put, List.setIfInBounds_toArray, List.set_cons_zero, List.set_cons_succ, List.getElem_toArray, List.getElem_cons_succ, List.getElem_cons_zero]
    refine held2.wpLeft.done (by kernel_rfl) ?_
    clear hS7
    go_wp2
    go_end0
    exact HF.out _ HM2.out (gr_set HG.out 1 _)
  · have HF : Hid (∀ w', Rw w' rb s p' 1 n → w1.grownBy w' (some rb) → MuP rb s p n c w (.returned (.tuple #[])) w') := Lib.hid (fun w' h1 h2 => ⟨rfl, gs HG.out h2, p', 1, hpp, hp', h1, .inr ⟨he, rfl⟩⟩)
    have hne : ((hd (bs (s.data.toList.drop p)) : Int) != (c : Int)) = true := by simp; omega
    generalize hd (bs (s.data.toList.drop p)) = q at *
    clear hM hG hdr f0 f1 f2 f3 f4 he HNX
    refine held2.wpLeft.take (i := 3) (v := ?_) rfl (by kernel_rfl) (by kernel_rfl) (by kernel_rfl) (by kernel_rfl) (fun _ _ => Iff.rfl) (fun _ _ _ h => h) (by rfl) ?_ trivial ?_
    rotate_left
    · (intro w l hl1 hl2 hSw; go_simp; try with_reducible rfl)
    simp only [Act.put, List.setIfInBounds_toArray, List.set_cons_zero, List.set_cons_succ, List.getElem_toArray, List.getElem_cons_succ, List.getElem_cons_zero]
    refine held2.wpLeft.take (i := 4) (v := ?_) rfl (by kernel_rfl) (by kernel_rfl) (by kernel_rfl) (by kernel_rfl) (fun _ _ => Iff.rfl) (fun _ _ _ h => h) (by rfl) ?_ trivial ?_
    rotate_left
    · (intro w l hl1 hl2 hSw; go_simp; try with_reducible rfl)
    simp only [Act.put, List.setIfInBounds_toArray, List.set_cons_zero, List.set_cons_succ, List.getElem_toArray, List.getElem_cons_succ, List.getElem_cons_zero]
    refine held2.wpLeft.off (i := 5) rfl (by kernel_rfl) (by kernel_rfl) (by kernel_rfl) (by kernel_rfl) (fun _ _ => Iff.rfl) (fun _ _ _ h => h) (by rfl) trivial ?_
    simp only [Act.put, List.setIfInBounds_toArray, List.set_cons_zero, List.set_cons_succ, List.getElem_toArray, List.getElem_cons_succ, List.getElem_cons_zero]
    refine held2.wpLeft.off (i := 6) rfl (by kernel_rfl) (by kernel_rfl) (by kernel_rfl) (by kernel_rfl) (fun _ _ => Iff.rfl) (fun _ _ _ h => h) (by rfl) trivial ?_
    simp only [Act.put, List.setIfInBounds_toArray, List.set_cons_zero, List.set_cons_succ, List.getElem_toArray, List.getElem_cons_succ, List.getElem_cons_zero]
    refine held2.wpLeft.off (i := 7) rfl (by kernel_rfl) (by kernel_rfl) (by kernel_rfl) (by kernel_rfl) (fun _ _ => Iff.rfl) (fun _ _ _ h => h) (by rfl) trivial ?_
    simp only [Act.put, List.setIfInBounds_toArray, List.set_cons_zero, List.set_cons_succ, List.getElem_toArray, List.getElem_cons_succ, List.getElem_cons_zero]
    refine held2.wpLeft.off (i := 8) rfl (by kernel_rfl) (by kernel_rfl) (by kernel_rfl) (by kernel_rfl) (fun _ _ => Iff.rfl) (fun _ _ _ h => h) (by rfl) trivial ?_
    simp only [Act.put, List.setIfInBounds_toArray, List.set_cons_zero, List.set_cons_succ, List.getElem_toArray, List.getElem_cons_succ, List.getElem_cons_zero]
    refine held2.wpLeft.off (i := 9) rfl (by kernel_rfl) (by kernel_rfl) (by kernel_rfl) (by kernel_rfl) (fun _ _ => Iff.rfl) (fun _ _ _ h => h) (by rfl) trivial ?_
    simp only [Act.put, List.setIfInBounds_toArray, List.set_cons_zero, List.set_cons_succ, List.getElem_toArray, List.getElem_cons_succ, List.getElem_cons_zero]
    refine held2.wpLeft.off (i := 10) rfl (by kernel_rfl) (by kernel_rfl) (by kernel_rfl) (by kernel_rfl) (fun _ _ => Iff.rfl) (fun _ _ _ h => h) (by rfl) trivial ?_
    simp only [Act.put, List.setIfInBounds_toArray, List.set_cons_zero, List.set_cons_succ, List.getElem_toArray, List.getElem_cons_succ, List.getElem_cons_zero]
    refine held2.wpLeft.off (i := 11) rfl (by kernel_rfl) (by kernel_rfl) (by kernel_rfl) (by kernel_rfl) (fun _ _ => Iff.rfl) (fun _ _ _ h => h) (by rfl) trivial ?_
    simp only [Act.put, List.setIfInBounds_toArray, List.set_cons_zero, List.set_cons_succ, List.getElem_toArray, List.getElem_cons_succ, List.getElem_cons_zero]
    refine held2.wpLeft.off (i := 12) rfl (by kernel_rfl) (by kernel_rfl) (by kernel_rfl) (by kernel_rfl) (fun _ _ => Iff.rfl) (fun _ _ _ h => h) (by rfl) trivial ?_
    simp only [Act.put, List.setIfInBounds_toArray, List.set_cons_zero, List.set_cons_succ, List.getElem_toArray, List.getElem_cons_succ, List.getElem_cons_zero]
    refine held2.wpLeft.off (i := 13) rfl (by kernel_rfl) (by kernel_rfl) (by kernel_rfl) (by kernel_rfl) (fun _ _ => Iff.rfl) (fun _ _ _ h => h) (by rfl) trivial ?_
    simp only [Act.put, List.setIfInBounds_toArray, List.set_cons_zero, List.set_cons_succ, List.getElem_toArray, List.getElem_cons_succ, List.getElem_cons_zero]
    refine held2.wpLeft.off (i := 14) rfl (by kernel_rfl) (by kernel_rfl) (by kernel_rfl) (by kernel_rfl) (fun _ _ => Iff.rfl) (fun _ _ _ h => h) (by rfl) trivial ?_
    simp only [Act.put, List.setIfInBounds_toArray, List.set_cons_zero, List.set_cons_succ, List.getElem_toArray, List.getElem_cons_succ, List.getElem_cons_zero]
    refine held2.wpLeft.take (i := 15) (v := ?_) rfl (by kernel_rfl) (by kernel_rfl) (by kernel_rfl) (by kernel_rfl) (fun _ _ => Iff.rfl) (fun _ _ _ h => h) (by rfl) ?_ trivial ?_
    rotate_left
    · (intro w l hl1 hl2 hSw; go_simp; try with_reducible rfl)
    simp only [Act.put, List.setIfInBounds_toArray, List.set_cons_zero, List.set_cons_succ, List.getElem_toArray, List.getElem_cons_succ, List.getElem_cons_zero]
    refine held2.wpLeft.done (by kernel_rfl) ?_
    go_wp2_with fail
    refine HFN.out.mono ?_
    rintro x w2 ⟨rfl, hM2, hG2⟩
    have HX := Lib.hid (HF.out _ hM2 hG2)
    clear hM2 hG2
    go_wp2
    go_end0
    exact HX.out

/-- what text leaves -/
def TxP (rb : Nat) (s : ByteArray) (p n : Nat) (o : Option (List UInt8 × Nat)) (w : World) (x : Ending) (w' : World) : Prop :=
  w.grownBy w' (some rb) ∧ match o with
    | none => x = .returned (.string ⟨#[]⟩) ∧ ∃ p', Rw w' rb s p' 1 n
    | some q => x = .returned (.string ⟨q.1.toArray⟩) ∧ ∃ p', p < p' ∧ p' ≤ s.size ∧ s.data.toList.drop p' = (bs (s.data.toList.drop p)).drop q.2 ∧ Rw w' rb s p' 0 n
theorem stk_as (l : List UInt8) : quoteB.stk l = jsonP.stk l := rfl
theorem drop_add (s : ByteArray) (p k : Nat) : s.data.toList.drop (p + k) = (s.data.toList.drop p).drop k := by rw [List.drop_drop]
set_option maxRecDepth 100000 in
set_option maxHeartbeats 4000000 in
theorem text_any (w : World) (rb : Nat) (s : ByteArray) (p n : Nat) (h : Rw w rb s p 0 n) (hp : p ≤ s.size) (hs : s.size ≤ 100000) :
    Calls Tryz.prog 26 #[.pointer (some ⟨rb, 0, none⟩)] w (TxP rb s p n (jsonP.stk (bs (s.data.toList.drop p))) w) := by
  have HNX := Lib.hid (next_any w rb s p n h hp (by omega))
  clear h
  go_enter Tryz.func26, Tryz.ntmps26
  go_wp2_with fail
  refine HNX.out.mono ?_
  rintro x w1 ⟨rfl, p1, hpp, hp1, hdr, hM, hG⟩
  have HM1 := Lib.hid hM
  have HG1 := Lib.hid hG
  have HTO : Hid (quoteB.takeO s.data.toList (p1 : Int) = jsonP.stk (bs (s.data.toList.drop p))) := Lib.hid (by
    unfold quoteB.takeO
    rw [if_neg (by omega), show ((p1 : Int)).toNat = p1 from by omega, hdr]; rfl)
  have HTK := Lib.hid (quoteD.refTake_any s (p1 : Int) w1.drew hs)
  rw [HTO.out] at HTK
  have HDR := Lib.hid hdr
  obtain ⟨f0, f1, f2, f3, f4⟩ := hM.field
  generalize hu : bs (s.data.toList.drop p) = u at *
  have HU := Lib.hid hu
  clear hM hG hdr f2 f3 f4 HNX hu
  go_wp2
  refine held2.region (fun _ w' => w'.cell? ⟨rb, 0, none⟩ = some (.string s) ∧ w'.cell? ⟨rb, 1, none⟩ = some (.int .i64 p1)) (by kernel_rfl) ?_
  have hS7 : w1.drew.cell? ⟨rb, 0, none⟩ = some (.string s) ∧ w1.drew.cell? ⟨rb, 1, none⟩ = some (.int .i64 p1) := ⟨f0, f1⟩
  refine held2.wpLeft.take (i := 0) (v := ?_) rfl (by kernel_rfl) (by kernel_rfl) (by kernel_rfl) (by kernel_rfl) (fun _ _ => Iff.rfl) (fun _ _ _ h => h) (by rfl) ?_ hS7 ?_
  rotate_left
  · (intro w l hl1 hl2 hSw; obtain ⟨s0, s1⟩ := hSw; go_simp; try with_reducible rfl)
  simp only [Act.put, List.setIfInBounds_toArray, List.set_cons_zero, List.set_cons_succ]
  refine held2.wpLeft.take (i := 1) (v := ?_) rfl (by kernel_rfl) (by kernel_rfl) (by kernel_rfl) (by kernel_rfl) (fun _ _ => Iff.rfl) (fun _ _ _ h => h) (by rfl) ?_ hS7 ?_
  rotate_left
  · (intro w l hl1 hl2 hSw; obtain ⟨s0, s1⟩ := hSw; go_simp; try with_reducible rfl)
  simp only [Act.put, List.setIfInBounds_toArray, List.set_cons_zero, List.set_cons_succ]
  refine held2.wpLeft.take (i := 2) (v := ?_) rfl (by kernel_rfl) (by kernel_rfl) (by kernel_rfl) (by kernel_rfl) (fun _ _ => Iff.rfl) (fun _ _ _ h => h) (by rfl) ?_ hS7 ?_
  rotate_left
  · (intro w l hl1 hl2 hSw; obtain ⟨s0, s1⟩ := hSw; go_simp; try with_reducible rfl)
  simp only [Act.put, List.setIfInBounds_toArray, List.set_cons_zero, List.set_cons_succ]
  refine held2.wpLeft.take (i := 3) (v := ?_) rfl (by kernel_rfl) (by kernel_rfl) (by kernel_rfl) (by kernel_rfl) (fun _ _ => Iff.rfl) (fun _ _ _ h => h) (by rfl) ?_ hS7 ?_
  rotate_left
  · (intro w l hl1 hl2 hSw; obtain ⟨s0, s1⟩ := hSw; go_simp; try with_reducible rfl)
  simp only [Act.put, List.setIfInBounds_toArray, List.set_cons_zero, List.set_cons_succ]
  refine held2.wpLeft.take (i := 4) (v := ?_) rfl (by kernel_rfl) (by kernel_rfl) (by kernel_rfl) (by kernel_rfl) (fun _ _ => Iff.rfl) (fun _ _ _ h => h) (by rfl) ?_ hS7 ?_
  rotate_left
  · (intro w l hl1 hl2 hSw; obtain ⟨s0, s1⟩ := hSw; go_simp; try with_reducible rfl)
  simp only [Act.put, List.setIfInBounds_toArray, List.set_cons_zero, List.set_cons_succ]
  refine held2.wpLeft.take (i := 5) (v := ?_) rfl (by kernel_rfl) (by kernel_rfl) (by kernel_rfl) (by kernel_rfl) (fun _ _ => Iff.rfl) (fun _ _ _ h => h) (by rfl) ?_ hS7 ?_
  rotate_left
  · (intro w l hl1 hl2 hSw; obtain ⟨s0, s1⟩ := hSw; go_simp; try with_reducible rfl)
  simp only [Act.put, List.setIfInBounds_toArray, List.set_cons_zero, List.set_cons_succ]
  refine held2.wpLeft.take (i := 6) (v := ?_) rfl (by kernel_rfl) (by kernel_rfl) (by kernel_rfl) (by kernel_rfl) (fun _ _ => Iff.rfl) (fun _ _ _ h => h) (by rfl) ?_ hS7 ?_
  rotate_left
  · (intro w l hl1 hl2 hSw; obtain ⟨s0, s1⟩ := hSw; go_simp; try with_reducible rfl)
  simp only [Act.put, List.setIfInBounds_toArray, List.set_cons_zero, List.set_cons_succ]
  refine held2.wpLeft.take (i := 7) (v := ?_) rfl (by kernel_rfl) (by kernel_rfl) (by kernel_rfl) (by kernel_rfl) (fun _ _ => Iff.rfl) (fun _ _ _ h => h) (by rfl) ?_ hS7 ?_
  rotate_left
  · (intro w l hl1 hl2 hSw; obtain ⟨s0, s1⟩ := hSw; go_simp; try with_reducible rfl)
  simp only [Act.put, List.setIfInBounds_toArray, List.set_cons_zero, List.set_cons_succ]
  refine held2.wpLeft.one (i := 8) (by kernel_rfl) rfl (fun K hK => ?_)
  go_simp
  refine HTK.out.mono ?_
  rintro e w2 ⟨rfl, hb2⟩
  have hb12 : Below w1.heap.size w1 w2 := (Below.refl _ _).drew.trans hb2
  have HM2 := Lib.hid (HM1.out.new hb12)
  have HG2 := Lib.hid (gs HG1.out (grown_below hb12 (some rb)))
  obtain ⟨g0, g1, g2, g3, g4⟩ := HM2.out.field
  have z1 := g4 1
  have hS8 : w2.cell? ⟨rb, 0, none⟩ = some (.string s) ∧ w2.cell? ⟨rb, 1, none⟩ = some (.int .i64 p1) := ⟨g0, g1⟩
  refine hK.out _ _ hS8 ?_
  clear hK K hb12 hb2 HM1 HG1 hS7 f0 f1 g0 g2 g3 g4
  cases hst : jsonP.stk u with
  | none =>
    simp only [quoteD.rkV]
    refine held2.wpLeft.take (i := 9) (v := ?_) rfl (by kernel_rfl) (by kernel_rfl) (by kernel_rfl) (by kernel_rfl) (fun _ _ => Iff.rfl) (fun _ _ _ h => h) (by rfl) ?_ hS8 ?_
    rotate_left
    · (intro w l hl1 hl2 hSw; obtain ⟨s0, s1⟩ := hSw; go_simp; try with_reducible rfl)
    simp only [Act.put, List.setIfInBounds_toArray, List.set_cons_zero, List.set_cons_succ, List.getElem_toArray, List.getElem_cons_succ, List.getElem_cons_zero]
    refine held2.wpLeft.take (i := 10) (v := ?_) rfl (by kernel_rfl) (by kernel_rfl) (by kernel_rfl) (by kernel_rfl) (fun _ _ => Iff.rfl) (fun _ _ _ h => h) (by rfl) ?_ hS8 ?_
    rotate_left
    · (intro w l hl1 hl2 hSw; obtain ⟨s0, s1⟩ := hSw; go_simp; try with_reducible rfl)
    simp only [Act.put, List.setIfInBounds_toArray, List.set_cons_zero, List.set_cons_succ, List.getElem_toArray, List.getElem_cons_succ, List.getElem_cons_zero]
    refine held2.wpLeft.take (i := 11) (v := ?_) rfl (by kernel_rfl) (by kernel_rfl) (by kernel_rfl) (by kernel_rfl) (fun _ _ => Iff.rfl) (fun _ _ _ h => h) (by rfl) ?_ hS8 ?_
    rotate_left
    · (intro w l hl1 hl2 hSw; obtain ⟨s0, s1⟩ := hSw; go_simp; try with_reducible rfl)
    simp only [Act.put, List.setIfInBounds_toArray, List.set_cons_zero, List.set_cons_succ, List.getElem_toArray, List.getElem_cons_succ, List.getElem_cons_zero]
    refine held2.wpLeft.take (i := 12) (v := ?_) rfl (by kernel_rfl) (by kernel_rfl) (by kernel_rfl) (by kernel_rfl) (fun _ _ => Iff.rfl) (fun _ _ _ h => h) (by rfl) ?_ hS8 ?_
    rotate_left
    · (intro w l hl1 hl2 hSw; obtain ⟨s0, s1⟩ := hSw; go_simp; try with_reducible rfl)
    simp only [Act.put, List.setIfInBounds_toArray, List.set_cons_zero, List.set_cons_succ, List.getElem_toArray, List.getElem_cons_succ, List.getElem_cons_zero]
    refine held2.wpLeft.take (i := 13) (v := ?_) rfl (by kernel_rfl) (by kernel_rfl) (by kernel_rfl) (by kernel_rfl) (fun _ _ => Iff.rfl) (fun _ _ _ h => h) (by rfl) ?_ hS8 ?_
    rotate_left
    · (intro w l hl1 hl2 hSw; obtain ⟨s0, s1⟩ := hSw; go_simp; try with_reducible rfl)
    simp only [Act.put, List.setIfInBounds_toArray, List.set_cons_zero, List.set_cons_succ, List.getElem_toArray, List.getElem_cons_succ, List.getElem_cons_zero]
    refine held2.wpLeft.done (by kernel_rfl) ?_
    have HFL := Lib.hid (fail_new w2 rb s p1 n 1 HM2.out (by omega))
    have HST := Lib.hid hst
    clear hS8 HTK HTO hst g1 z1
    go_wp2_with fail
    refine HFL.out.mono ?_
    rintro e w3 ⟨rfl, hM3, hG3⟩
    have HM3 := Lib.hid hM3
    have HG3 := Lib.hid (gs HG2.out hG3)
    obtain ⟨g0, g1, g2, g3, g4⟩ := hM3.field
    have z1 := g4 1
    have HM4 := Lib.hid (hM3.setP p1)
    clear hM3 hG3 g0 g2 g3 g4
    go_wp2
    go_ret
    refine ⟨gr_set HG3.out 1 _, ?_⟩
    rw [HST.out]
    exact ⟨rfl, p1, HM4.out⟩
  | some q =>
    obtain ⟨x, k⟩ := q
    have hsl := jsonQ.stk_len hst
    have hul : u.length = s.size - p1 := by rw [← HDR.out, List.length_drop, Array.length_toList, ByteArray.size_data]
    have hpk : p1 + k ≤ s.size := by omega
    have hk1 : ¬ ((k : Int) = 0) := by omega
    have hkp : p < p1 + k := by omega
    have HD3 : Hid (s.data.toList.drop (p1 + k) = u.drop k) := Lib.hid (by rw [drop_add, HDR.out])
    simp only [quoteD.rkV]
    have HST := Lib.hid hst
    clear hst hul hsl HTK HTO
    refine held2.wpLeft.take (i := 9) (v := ?_) rfl (by kernel_rfl) (by kernel_rfl) (by kernel_rfl) (by kernel_rfl) (fun _ _ => Iff.rfl) (fun _ _ _ h => h) (by rfl) ?_ hS8 ?_
    rotate_left
    · (intro w l hl1 hl2 hSw; obtain ⟨s0, s1⟩ := hSw; go_simp; try with_reducible rfl)
    simp only [Act.put, List.setIfInBounds_toArray, List.set_cons_zero, List.set_cons_succ, List.getElem_toArray, List.getElem_cons_succ, List.getElem_cons_zero]
    refine held2.wpLeft.take (i := 10) (v := ?_) rfl (by kernel_rfl) (by kernel_rfl) (by kernel_rfl) (by kernel_rfl) (fun _ _ => Iff.rfl) (fun _ _ _ h => h) (by rfl) ?_ hS8 ?_
    rotate_left
    · (intro w l hl1 hl2 hSw; obtain ⟨s0, s1⟩ := hSw; go_simp; try with_reducible rfl)
    simp only [Act.put, List.setIfInBounds_toArray, List.set_cons_zero, List.set_cons_succ, List.getElem_toArray, List.getElem_cons_succ, List.getElem_cons_zero]
    refine held2.wpLeft.take (i := 11) (v := ?_) rfl (by kernel_rfl) (by kernel_rfl) (by kernel_rfl) (by kernel_rfl) (fun _ _ => Iff.rfl) (fun _ _ _ h => h) (by rfl) ?_ hS8 ?_
    rotate_left
    · (intro w l hl1 hl2 hSw; obtain ⟨s0, s1⟩ := hSw; go_simp; try with_reducible rfl)
    simp only [Act.put, List.setIfInBounds_toArray, List.set_cons_zero, List.set_cons_succ, List.getElem_toArray, List.getElem_cons_succ, List.getElem_cons_zero]
    refine held2.wpLeft.take (i := 12) (v := ?_) rfl (by kernel_rfl) (by kernel_rfl) (by kernel_rfl) (by kernel_rfl) (fun _ _ => Iff.rfl) (fun _ _ _ h => h) (by rfl) ?_ hS8 ?_
    rotate_left
    · (intro w l hl1 hl2 hSw; obtain ⟨s0, s1⟩ := hSw; go_simp; try with_reducible rfl)
    simp only [Act.put, List.setIfInBounds_toArray, List.set_cons_zero, List.set_cons_succ, List.getElem_toArray, List.getElem_cons_succ, List.getElem_cons_zero]
    refine held2.wpLeft.take (i := 13) (v := ?_) rfl (by kernel_rfl) (by kernel_rfl) (by kernel_rfl) (by kernel_rfl) (fun _ _ => Iff.rfl) (fun _ _ _ h => h) (by rfl) ?_ hS8 ?_
    rotate_left
    · (intro w l hl1 hl2 hSw; obtain ⟨s0, s1⟩ := hSw; go_simp; try with_reducible rfl)
    simp only [Act.put, List.setIfInBounds_toArray, List.set_cons_zero, List.set_cons_succ, List.getElem_toArray, List.getElem_cons_succ, List.getElem_cons_zero]
    refine held2.wpLeft.done (by kernel_rfl) ?_
    have hkI : (p1 : Int) + (k : Int) ≤ 100000 := by omega
    have hkI0 : (0 : Int) ≤ (p1 : Int) + (k : Int) := by omega
    have HM4 := Lib.hid (HM2.out.setP (p1 + k))
    clear hS8
    go_wp2
    go_ret
    refine ⟨gr_set HG2.out 1 _, ?_⟩
    rw [HST.out]
    exact ⟨rfl, p1 + k, hkp, hpk, HD3.out.trans (by rw [HU.out]), HM4.out⟩
end Go.Proofs.YtjcaffpmcgfhaaaGreatDoor.refA
