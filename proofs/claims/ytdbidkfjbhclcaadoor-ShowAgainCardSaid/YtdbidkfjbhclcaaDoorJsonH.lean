/-
  Contract of (*reader).scalar: words; all.
-/
import Derived.Test.YtdbidkfjbhclcaaDoorJsonG
namespace Go.Proofs.YtdbidkfjbhclcaaDoor.jsonH
open Go.ChangeShapes Go.WideShapes Go.ChangeAt Go.RowKit Go.WideMaps Go.Maps nodeP nodeQ nodeS ownI jsonP jsonM jsonN jsonO jsonA jsonB errs errIs runesE quoteB jsonF jsonG
set_option linter.unusedSimpArgs false
set_option linter.unusedVariables false


set_option maxRecDepth 100000 in
set_option maxHeartbeats 4000000 in
theorem scalar_lo (w0 w : World) (ad : Nat → Addr) (B rb : Nat) (s : ByteArray) (p n d : Nat) (fr : Nat → Fr) (F : Ix → Thing) (P : Nat → Prop) (hG : Glb w0 w ad rb) (h : RM w B rb s p n d fr F P) (hp : p < s.size) (hs : s.size ≤ 1000000) (hc0 : hd (s.data.toList.drop p) ≠ 34 ∧ hd (s.data.toList.drop p) ≠ 45) (hc : hd (s.data.toList.drop p) < 48) :
    Calls Tryd.prog 37 #[.pointer (some ⟨rb, 0, none⟩), .int .u8 (hd (s.data.toList.drop p) : Nat)] w (ScP B rb s p n d fr F P ad (scal (s.data.toList.drop p)) w) := by
  have hrB := h.hB.1
  have HG := Lib.hid hG
  have HQ : Hid (scal (s.data.toList.drop p) = if Lib.hasPrefix (s.data.toList.drop p) wNull = true then (word 1, 4, 0) else if Lib.hasPrefix (s.data.toList.drop p) wFalse = true then (word 2, 5, 0) else if Lib.hasPrefix (s.data.toList.drop p) wTrue = true then (word 3, 4, 0) else (word 0, 0, 1)) := Lib.hid (by unfold scal; rw [if_neg (by omega), if_neg (by unfold isNum; simp; omega)])
  generalize scal (s.data.toList.drop p) = q at *
  have hba : Below w.heap.size w (w.alloc (.cells #[.int .i64 0, .int .i64 0, .string ⟨#[]⟩, .slice none 0 0, .slice none 0 0] 26)) := (Below.refl _ _).alloc (Nat.le_refl _) _
  have HMa := Lib.hid (h.new hba)
  have HNa := Lib.hid (Near.below (rb := rb) (hba.mono h.hB.2))
  have HWa := Lib.hid (Whole.new w 26 [.int .i64 0, .int .i64 0, .string ⟨#[]⟩, .slice none 0 0, .slice none 0 0])
  have hwB := h.hB.2
  have hbs : w.heap.size ≠ rb := by omega
  have HAP : Hid (w.heap.size ≠ rb ∧ ¬ P w.heap.size ∧ ∀ k, (F k).blk ≠ some w.heap.size) := Lib.hid ⟨hbs, fun hp => Nat.lt_irrefl _ (h.sealed' _ hp).2.1, fun k hk => Nat.lt_irrefl _ (h.blkB k _ hk).2⟩
  have hgl1 : 2 < w.heap.size := World.block_lt_of_cell? w _ (hG.err.glob 0 (by decide))
  have hb01 : w.heap.size ≠ 2 := by omega
  have hb10 : ¬ (2 = w.heap.size) := by omega
  generalize hcc : hd (s.data.toList.drop p) = cc at *
  have n1 : ¬ ((cc : Int) = 34) := by omega
  have n2 : ¬ ((cc : Int) = 45) := by omega
  have n3 : ¬ ((48 : Int) ≤ (cc : Int)) := by omega
  clear hcc h hG hba hc0
  go_enter Tryd.func37, Tryd.ntmps37
  go_wp2_with fail
  change Hid (Whole (w.alloc (.cells #[.int .i64 0, .int .i64 0, .string ⟨#[]⟩, .slice none 0 0, .slice none 0 0] 26)) _ _ _) at HWa
  generalize w.alloc (.cells #[.int .i64 0, .int .i64 0, .string ⟨#[]⟩, .slice none 0 0, .slice none 0 0] 26) = w1 at *
  generalize w.heap.size = b0 at *
  have HW1 := Lib.hid (jsonE.word_any w1 B rb s ⟨#[110, 117, 108, 108]⟩ p n d fr F P HMa.out (by omega) hs (by decide))
  refine HW1.out.mono ?_
  rintro e w2 ⟨rfl, hM2, hN2, hR2⟩
  have HWW2 := Lib.hid (Whole.kept HWa.out hR2 (fun e => hbs (Option.some.inj e).symm))
  have HN2 := Lib.hid (HNa.out.trans hN2)
  by_cases h2 : Lib.hasPrefix (s.data.toList.drop p) wNull = true
  · rw [if_pos h2] at HQ
    rw [show Lib.hasPrefix (s.data.toList.drop p) (⟨#[110, 117, 108, 108]⟩ : ByteArray).data.toList = true from h2] at hM2
    have HM2 := Lib.hid hM2
    rw [show Lib.hasPrefix (s.data.toList.drop p) (⟨#[110, 117, 108, 108]⟩ : ByteArray).data.toList = true from h2]
    clear hM2 hN2 hR2
    have c0 := HWW2.out.cell 0
    have c1 := HWW2.out.cell 1
    have c2 := HWW2.out.cell 2
    have c3 := HWW2.out.cell 3
    have c4 := HWW2.out.cell 4
    simp only [List.getElem?_cons_zero, List.getElem?_cons_succ] at c0 c1 c2 c3 c4
    have y0 := HWW2.out.frozen 0
    have y1 := HWW2.out.frozen 1
    have y2 := HWW2.out.frozen 2
    have y3 := HWW2.out.frozen 3
    have y4 := HWW2.out.frozen 4
    go_wp2
    obtain ⟨hM5, hN5, hW5⟩ := fin5 HM2.out HN2.out HWW2.out hwB HAP.out (.int .i64 1) (.int .i64 0) (.string ⟨#[]⟩) (.slice none 0 0) (.slice none 0 0)
    generalize ((((w2.setCell ⟨b0, 0, none⟩ (.int .i64 1)).setCell ⟨b0, 1, none⟩ (.int .i64 0)).setCell ⟨b0, 2, none⟩ (.string ⟨#[]⟩)).setCell ⟨b0, 3, none⟩ (.slice none 0 0)).setCell ⟨b0, 4, none⟩ (.slice none 0 0) = w9 at *
    obtain ⟨k0, k1, k2, k3, k4⟩ := whole5 hW5
    refine bodyPost_ret (v := .tuple #[.agg #[.int .i64 1, .int .i64 0, .string ⟨#[]⟩, .slice none 0 0, .slice none 0 0], .nilIface]) (by simp [results, Tryd.results37, go_sem, k0, k1, k2, k3, k4]) rfl ?_
    refine ⟨1, 0, ByteArray.empty, by rw [HQ.out]; rfl, ⟨by unfold In64; omega, by unfold In64; omega, Nat.zero_le _⟩, by rw [HQ.out]; rfl, by rw [HQ.out]; exact hM5, hN5⟩
  · rw [if_neg h2] at HQ
    have h2' : Lib.hasPrefix (s.data.toList.drop p) (⟨#[110, 117, 108, 108]⟩ : ByteArray).data.toList = false := Bool.eq_false_iff.2 h2
    rw [h2'] at hM2
    have hM2' : RM w2 B rb s p n d fr F P := hM2
    have HM2 := Lib.hid hM2'
    rw [h2']
    have HWD3 := Lib.hid (jsonE.word_any w2 B rb s ⟨#[102, 97, 108, 115, 101]⟩ p n d fr F P hM2' (by omega) hs (by decide))
    clear hM2 hM2' hN2 hR2 h2 h2'
    go_wp2_with fail
    refine HWD3.out.mono ?_
    rintro e w3 ⟨rfl, hM3, hN3, hR3⟩
    have HWW3 := Lib.hid (Whole.kept HWW2.out hR3 (fun e => hbs (Option.some.inj e).symm))
    have HN3 := Lib.hid (HN2.out.trans hN3)
    by_cases h3 : Lib.hasPrefix (s.data.toList.drop p) wFalse = true
    · rw [if_pos h3] at HQ
      rw [show Lib.hasPrefix (s.data.toList.drop p) (⟨#[102, 97, 108, 115, 101]⟩ : ByteArray).data.toList = true from h3] at hM3
      have HM3 := Lib.hid hM3
      rw [show Lib.hasPrefix (s.data.toList.drop p) (⟨#[102, 97, 108, 115, 101]⟩ : ByteArray).data.toList = true from h3]
      clear hM3 hN3 hR3
      have c0 := HWW3.out.cell 0
      have c1 := HWW3.out.cell 1
      have c2 := HWW3.out.cell 2
      have c3 := HWW3.out.cell 3
      have c4 := HWW3.out.cell 4
      simp only [List.getElem?_cons_zero, List.getElem?_cons_succ] at c0 c1 c2 c3 c4
      have y0 := HWW3.out.frozen 0
      have y1 := HWW3.out.frozen 1
      have y2 := HWW3.out.frozen 2
      have y3 := HWW3.out.frozen 3
      have y4 := HWW3.out.frozen 4
      go_wp2
      obtain ⟨hM5, hN5, hW5⟩ := fin5 HM3.out HN3.out HWW3.out hwB HAP.out (.int .i64 2) (.int .i64 0) (.string ⟨#[]⟩) (.slice none 0 0) (.slice none 0 0)
      generalize ((((w3.setCell ⟨b0, 0, none⟩ (.int .i64 2)).setCell ⟨b0, 1, none⟩ (.int .i64 0)).setCell ⟨b0, 2, none⟩ (.string ⟨#[]⟩)).setCell ⟨b0, 3, none⟩ (.slice none 0 0)).setCell ⟨b0, 4, none⟩ (.slice none 0 0) = w9 at *
      obtain ⟨k0, k1, k2, k3, k4⟩ := whole5 hW5
      refine bodyPost_ret (v := .tuple #[.agg #[.int .i64 2, .int .i64 0, .string ⟨#[]⟩, .slice none 0 0, .slice none 0 0], .nilIface]) (by simp [results, Tryd.results37, go_sem, k0, k1, k2, k3, k4]) rfl ?_
      refine ⟨2, 0, ByteArray.empty, by rw [HQ.out]; rfl, ⟨by unfold In64; omega, by unfold In64; omega, Nat.zero_le _⟩, by rw [HQ.out]; rfl, by rw [HQ.out]; exact hM5, hN5⟩
    · rw [if_neg h3] at HQ
      have h3' : Lib.hasPrefix (s.data.toList.drop p) (⟨#[102, 97, 108, 115, 101]⟩ : ByteArray).data.toList = false := Bool.eq_false_iff.2 h3
      rw [h3'] at hM3
      have hM3' : RM w3 B rb s p n d fr F P := hM3
      have HM3 := Lib.hid hM3'
      rw [h3']
      have HWD4 := Lib.hid (jsonE.word_any w3 B rb s ⟨#[116, 114, 117, 101]⟩ p n d fr F P hM3' (by omega) hs (by decide))
      clear hM3 hM3' hN3 hR3 h3 h3'
      go_wp2_with fail
      refine HWD4.out.mono ?_
      rintro e w4 ⟨rfl, hM4, hN4, hR4⟩
      have HWW4 := Lib.hid (Whole.kept HWW3.out hR4 (fun e => hbs (Option.some.inj e).symm))
      have HN4 := Lib.hid (HN3.out.trans hN4)
      by_cases h4 : Lib.hasPrefix (s.data.toList.drop p) wTrue = true
      · rw [if_pos h4] at HQ
        rw [show Lib.hasPrefix (s.data.toList.drop p) (⟨#[116, 114, 117, 101]⟩ : ByteArray).data.toList = true from h4] at hM4
        have HM4 := Lib.hid hM4
        rw [show Lib.hasPrefix (s.data.toList.drop p) (⟨#[116, 114, 117, 101]⟩ : ByteArray).data.toList = true from h4]
        clear hM4 hN4 hR4
        have c0 := HWW4.out.cell 0
        have c1 := HWW4.out.cell 1
        have c2 := HWW4.out.cell 2
        have c3 := HWW4.out.cell 3
        have c4 := HWW4.out.cell 4
        simp only [List.getElem?_cons_zero, List.getElem?_cons_succ] at c0 c1 c2 c3 c4
        have y0 := HWW4.out.frozen 0
        have y1 := HWW4.out.frozen 1
        have y2 := HWW4.out.frozen 2
        have y3 := HWW4.out.frozen 3
        have y4 := HWW4.out.frozen 4
        go_wp2
        obtain ⟨hM5, hN5, hW5⟩ := fin5 HM4.out HN4.out HWW4.out hwB HAP.out (.int .i64 3) (.int .i64 0) (.string ⟨#[]⟩) (.slice none 0 0) (.slice none 0 0)
        generalize ((((w4.setCell ⟨b0, 0, none⟩ (.int .i64 3)).setCell ⟨b0, 1, none⟩ (.int .i64 0)).setCell ⟨b0, 2, none⟩ (.string ⟨#[]⟩)).setCell ⟨b0, 3, none⟩ (.slice none 0 0)).setCell ⟨b0, 4, none⟩ (.slice none 0 0) = w9 at *
        obtain ⟨k0, k1, k2, k3, k4⟩ := whole5 hW5
        refine bodyPost_ret (v := .tuple #[.agg #[.int .i64 3, .int .i64 0, .string ⟨#[]⟩, .slice none 0 0, .slice none 0 0], .nilIface]) (by simp [results, Tryd.results37, go_sem, k0, k1, k2, k3, k4]) rfl ?_
        refine ⟨3, 0, ByteArray.empty, by rw [HQ.out]; rfl, ⟨by unfold In64; omega, by unfold In64; omega, Nat.zero_le _⟩, by rw [HQ.out]; rfl, by rw [HQ.out]; exact hM5, hN5⟩
      · rw [if_neg h4] at HQ
        have h4' : Lib.hasPrefix (s.data.toList.drop p) (⟨#[116, 114, 117, 101]⟩ : ByteArray).data.toList = false := Bool.eq_false_iff.2 h4
        rw [h4'] at hM4
        have hM4' : RM w4 B rb s p n d fr F P := hM4
        have HM4 := Lib.hid hM4'
        rw [h4']
        have hsy : w4.cell? ⟨2, 0, none⟩ = some (ev (ad 0)) := (HG.out.near HN4.out hrB).err.glob 0 (by decide)
        clear hM4 hM4' hN4 hR4 h4 h4'
        have c0 := HWW4.out.cell 0
        have c1 := HWW4.out.cell 1
        have c2 := HWW4.out.cell 2
        have c3 := HWW4.out.cell 3
        have c4 := HWW4.out.cell 4
        simp only [List.getElem?_cons_zero, List.getElem?_cons_succ] at c0 c1 c2 c3 c4
        have y0 := HWW4.out.frozen 0
        have y1 := HWW4.out.frozen 1
        have y2 := HWW4.out.frozen 2
        have y3 := HWW4.out.frozen 3
        have y4 := HWW4.out.frozen 4
        go_wp2
        go_region
        go_wp2
        obtain ⟨hM5, hN5, hW5⟩ := drew3 (fin5 HM4.out HN4.out HWW4.out hwB HAP.out (.int .i64 0) (.int .i64 0) (.string ⟨#[]⟩) (.slice none 0 0) (.slice none 0 0))
        generalize (((((w4.setCell ⟨b0, 0, none⟩ (.int .i64 0)).setCell ⟨b0, 1, none⟩ (.int .i64 0)).setCell ⟨b0, 2, none⟩ (.string ⟨#[]⟩)).setCell ⟨b0, 3, none⟩ (.slice none 0 0)).setCell ⟨b0, 4, none⟩ (.slice none 0 0)).drew = w9 at *
        obtain ⟨k0, k1, k2, k3, k4⟩ := whole5 hW5
        refine bodyPost_ret (v := .tuple #[.agg #[.int .i64 0, .int .i64 0, .string ⟨#[]⟩, .slice none 0 0, .slice none 0 0], ev (ad 0)]) (by simp [results, Tryd.results37, go_sem, k0, k1, k2, k3, k4]) rfl ?_
        refine ⟨0, 0, ByteArray.empty, by rw [HQ.out]; rfl, ⟨by unfold In64; omega, by unfold In64; omega, Nat.zero_le _⟩, by rw [HQ.out]; rfl, by rw [HQ.out]; exact hM5, hN5⟩

set_option maxRecDepth 100000 in
set_option maxHeartbeats 4000000 in
theorem scalar_hi (w0 w : World) (ad : Nat → Addr) (B rb : Nat) (s : ByteArray) (p n d : Nat) (fr : Nat → Fr) (F : Ix → Thing) (P : Nat → Prop) (hG : Glb w0 w ad rb) (h : RM w B rb s p n d fr F P) (hp : p < s.size) (hs : s.size ≤ 1000000) (hc0 : hd (s.data.toList.drop p) ≠ 34 ∧ hd (s.data.toList.drop p) ≠ 45) (hc : 57 < hd (s.data.toList.drop p)) :
    Calls Tryd.prog 37 #[.pointer (some ⟨rb, 0, none⟩), .int .u8 (hd (s.data.toList.drop p) : Nat)] w (ScP B rb s p n d fr F P ad (scal (s.data.toList.drop p)) w) := by
  have hrB := h.hB.1
  have HG := Lib.hid hG
  have HQ : Hid (scal (s.data.toList.drop p) = if Lib.hasPrefix (s.data.toList.drop p) wNull = true then (word 1, 4, 0) else if Lib.hasPrefix (s.data.toList.drop p) wFalse = true then (word 2, 5, 0) else if Lib.hasPrefix (s.data.toList.drop p) wTrue = true then (word 3, 4, 0) else (word 0, 0, 1)) := Lib.hid (by unfold scal; rw [if_neg (by omega), if_neg (by unfold isNum; simp; omega)])
  generalize scal (s.data.toList.drop p) = q at *
  have hba : Below w.heap.size w (w.alloc (.cells #[.int .i64 0, .int .i64 0, .string ⟨#[]⟩, .slice none 0 0, .slice none 0 0] 26)) := (Below.refl _ _).alloc (Nat.le_refl _) _
  have HMa := Lib.hid (h.new hba)
  have HNa := Lib.hid (Near.below (rb := rb) (hba.mono h.hB.2))
  have HWa := Lib.hid (Whole.new w 26 [.int .i64 0, .int .i64 0, .string ⟨#[]⟩, .slice none 0 0, .slice none 0 0])
  have hwB := h.hB.2
  have hbs : w.heap.size ≠ rb := by omega
  have HAP : Hid (w.heap.size ≠ rb ∧ ¬ P w.heap.size ∧ ∀ k, (F k).blk ≠ some w.heap.size) := Lib.hid ⟨hbs, fun hp => Nat.lt_irrefl _ (h.sealed' _ hp).2.1, fun k hk => Nat.lt_irrefl _ (h.blkB k _ hk).2⟩
  have hgl1 : 2 < w.heap.size := World.block_lt_of_cell? w _ (hG.err.glob 0 (by decide))
  have hb01 : w.heap.size ≠ 2 := by omega
  have hb10 : ¬ (2 = w.heap.size) := by omega
  generalize hcc : hd (s.data.toList.drop p) = cc at *
  have n1 : ¬ ((cc : Int) = 34) := by omega
  have n2 : ¬ ((cc : Int) = 45) := by omega
  have n3 : (48 : Int) ≤ (cc : Int) := by omega
  have n4 : ¬ ((cc : Int) ≤ 57) := by omega
  clear hcc h hG hba hc0
  go_enter Tryd.func37, Tryd.ntmps37
  go_wp2_with fail
  change Hid (Whole (w.alloc (.cells #[.int .i64 0, .int .i64 0, .string ⟨#[]⟩, .slice none 0 0, .slice none 0 0] 26)) _ _ _) at HWa
  generalize w.alloc (.cells #[.int .i64 0, .int .i64 0, .string ⟨#[]⟩, .slice none 0 0, .slice none 0 0] 26) = w1 at *
  generalize w.heap.size = b0 at *
  have HW1 := Lib.hid (jsonE.word_any w1 B rb s ⟨#[110, 117, 108, 108]⟩ p n d fr F P HMa.out (by omega) hs (by decide))
  refine HW1.out.mono ?_
  rintro e w2 ⟨rfl, hM2, hN2, hR2⟩
  have HWW2 := Lib.hid (Whole.kept HWa.out hR2 (fun e => hbs (Option.some.inj e).symm))
  have HN2 := Lib.hid (HNa.out.trans hN2)
  by_cases h2 : Lib.hasPrefix (s.data.toList.drop p) wNull = true
  · rw [if_pos h2] at HQ
    rw [show Lib.hasPrefix (s.data.toList.drop p) (⟨#[110, 117, 108, 108]⟩ : ByteArray).data.toList = true from h2] at hM2
    have HM2 := Lib.hid hM2
    rw [show Lib.hasPrefix (s.data.toList.drop p) (⟨#[110, 117, 108, 108]⟩ : ByteArray).data.toList = true from h2]
    clear hM2 hN2 hR2
    have c0 := HWW2.out.cell 0
    have c1 := HWW2.out.cell 1
    have c2 := HWW2.out.cell 2
    have c3 := HWW2.out.cell 3
    have c4 := HWW2.out.cell 4
    simp only [List.getElem?_cons_zero, List.getElem?_cons_succ] at c0 c1 c2 c3 c4
    have y0 := HWW2.out.frozen 0
    have y1 := HWW2.out.frozen 1
    have y2 := HWW2.out.frozen 2
    have y3 := HWW2.out.frozen 3
    have y4 := HWW2.out.frozen 4
    go_wp2
    obtain ⟨hM5, hN5, hW5⟩ := fin5 HM2.out HN2.out HWW2.out hwB HAP.out (.int .i64 1) (.int .i64 0) (.string ⟨#[]⟩) (.slice none 0 0) (.slice none 0 0)
    generalize ((((w2.setCell ⟨b0, 0, none⟩ (.int .i64 1)).setCell ⟨b0, 1, none⟩ (.int .i64 0)).setCell ⟨b0, 2, none⟩ (.string ⟨#[]⟩)).setCell ⟨b0, 3, none⟩ (.slice none 0 0)).setCell ⟨b0, 4, none⟩ (.slice none 0 0) = w9 at *
    obtain ⟨k0, k1, k2, k3, k4⟩ := whole5 hW5
    refine bodyPost_ret (v := .tuple #[.agg #[.int .i64 1, .int .i64 0, .string ⟨#[]⟩, .slice none 0 0, .slice none 0 0], .nilIface]) (by simp [results, Tryd.results37, go_sem, k0, k1, k2, k3, k4]) rfl ?_
    refine ⟨1, 0, ByteArray.empty, by rw [HQ.out]; rfl, ⟨by unfold In64; omega, by unfold In64; omega, Nat.zero_le _⟩, by rw [HQ.out]; rfl, by rw [HQ.out]; exact hM5, hN5⟩
  · rw [if_neg h2] at HQ
    have h2' : Lib.hasPrefix (s.data.toList.drop p) (⟨#[110, 117, 108, 108]⟩ : ByteArray).data.toList = false := Bool.eq_false_iff.2 h2
    rw [h2'] at hM2
    have hM2' : RM w2 B rb s p n d fr F P := hM2
    have HM2 := Lib.hid hM2'
    rw [h2']
    have HWD3 := Lib.hid (jsonE.word_any w2 B rb s ⟨#[102, 97, 108, 115, 101]⟩ p n d fr F P hM2' (by omega) hs (by decide))
    clear hM2 hM2' hN2 hR2 h2 h2'
    go_wp2_with fail
    refine HWD3.out.mono ?_
    rintro e w3 ⟨rfl, hM3, hN3, hR3⟩
    have HWW3 := Lib.hid (Whole.kept HWW2.out hR3 (fun e => hbs (Option.some.inj e).symm))
    have HN3 := Lib.hid (HN2.out.trans hN3)
    by_cases h3 : Lib.hasPrefix (s.data.toList.drop p) wFalse = true
    · rw [if_pos h3] at HQ
      rw [show Lib.hasPrefix (s.data.toList.drop p) (⟨#[102, 97, 108, 115, 101]⟩ : ByteArray).data.toList = true from h3] at hM3
      have HM3 := Lib.hid hM3
      rw [show Lib.hasPrefix (s.data.toList.drop p) (⟨#[102, 97, 108, 115, 101]⟩ : ByteArray).data.toList = true from h3]
      clear hM3 hN3 hR3
      have c0 := HWW3.out.cell 0
      have c1 := HWW3.out.cell 1
      have c2 := HWW3.out.cell 2
      have c3 := HWW3.out.cell 3
      have c4 := HWW3.out.cell 4
      simp only [List.getElem?_cons_zero, List.getElem?_cons_succ] at c0 c1 c2 c3 c4
      have y0 := HWW3.out.frozen 0
      have y1 := HWW3.out.frozen 1
      have y2 := HWW3.out.frozen 2
      have y3 := HWW3.out.frozen 3
      have y4 := HWW3.out.frozen 4
      go_wp2
      obtain ⟨hM5, hN5, hW5⟩ := fin5 HM3.out HN3.out HWW3.out hwB HAP.out (.int .i64 2) (.int .i64 0) (.string ⟨#[]⟩) (.slice none 0 0) (.slice none 0 0)
      generalize ((((w3.setCell ⟨b0, 0, none⟩ (.int .i64 2)).setCell ⟨b0, 1, none⟩ (.int .i64 0)).setCell ⟨b0, 2, none⟩ (.string ⟨#[]⟩)).setCell ⟨b0, 3, none⟩ (.slice none 0 0)).setCell ⟨b0, 4, none⟩ (.slice none 0 0) = w9 at *
      obtain ⟨k0, k1, k2, k3, k4⟩ := whole5 hW5
      refine bodyPost_ret (v := .tuple #[.agg #[.int .i64 2, .int .i64 0, .string ⟨#[]⟩, .slice none 0 0, .slice none 0 0], .nilIface]) (by simp [results, Tryd.results37, go_sem, k0, k1, k2, k3, k4]) rfl ?_
      refine ⟨2, 0, ByteArray.empty, by rw [HQ.out]; rfl, ⟨by unfold In64; omega, by unfold In64; omega, Nat.zero_le _⟩, by rw [HQ.out]; rfl, by rw [HQ.out]; exact hM5, hN5⟩
    · rw [if_neg h3] at HQ
      have h3' : Lib.hasPrefix (s.data.toList.drop p) (⟨#[102, 97, 108, 115, 101]⟩ : ByteArray).data.toList = false := Bool.eq_false_iff.2 h3
      rw [h3'] at hM3
      have hM3' : RM w3 B rb s p n d fr F P := hM3
      have HM3 := Lib.hid hM3'
      rw [h3']
      have HWD4 := Lib.hid (jsonE.word_any w3 B rb s ⟨#[116, 114, 117, 101]⟩ p n d fr F P hM3' (by omega) hs (by decide))
      clear hM3 hM3' hN3 hR3 h3 h3'
      go_wp2_with fail
      refine HWD4.out.mono ?_
      rintro e w4 ⟨rfl, hM4, hN4, hR4⟩
      have HWW4 := Lib.hid (Whole.kept HWW3.out hR4 (fun e => hbs (Option.some.inj e).symm))
      have HN4 := Lib.hid (HN3.out.trans hN4)
      by_cases h4 : Lib.hasPrefix (s.data.toList.drop p) wTrue = true
      · rw [if_pos h4] at HQ
        rw [show Lib.hasPrefix (s.data.toList.drop p) (⟨#[116, 114, 117, 101]⟩ : ByteArray).data.toList = true from h4] at hM4
        have HM4 := Lib.hid hM4
        rw [show Lib.hasPrefix (s.data.toList.drop p) (⟨#[116, 114, 117, 101]⟩ : ByteArray).data.toList = true from h4]
        clear hM4 hN4 hR4
        have c0 := HWW4.out.cell 0
        have c1 := HWW4.out.cell 1
        have c2 := HWW4.out.cell 2
        have c3 := HWW4.out.cell 3
        have c4 := HWW4.out.cell 4
        simp only [List.getElem?_cons_zero, List.getElem?_cons_succ] at c0 c1 c2 c3 c4
        have y0 := HWW4.out.frozen 0
        have y1 := HWW4.out.frozen 1
        have y2 := HWW4.out.frozen 2
        have y3 := HWW4.out.frozen 3
        have y4 := HWW4.out.frozen 4
        go_wp2
        obtain ⟨hM5, hN5, hW5⟩ := fin5 HM4.out HN4.out HWW4.out hwB HAP.out (.int .i64 3) (.int .i64 0) (.string ⟨#[]⟩) (.slice none 0 0) (.slice none 0 0)
        generalize ((((w4.setCell ⟨b0, 0, none⟩ (.int .i64 3)).setCell ⟨b0, 1, none⟩ (.int .i64 0)).setCell ⟨b0, 2, none⟩ (.string ⟨#[]⟩)).setCell ⟨b0, 3, none⟩ (.slice none 0 0)).setCell ⟨b0, 4, none⟩ (.slice none 0 0) = w9 at *
        obtain ⟨k0, k1, k2, k3, k4⟩ := whole5 hW5
        refine bodyPost_ret (v := .tuple #[.agg #[.int .i64 3, .int .i64 0, .string ⟨#[]⟩, .slice none 0 0, .slice none 0 0], .nilIface]) (by simp [results, Tryd.results37, go_sem, k0, k1, k2, k3, k4]) rfl ?_
        refine ⟨3, 0, ByteArray.empty, by rw [HQ.out]; rfl, ⟨by unfold In64; omega, by unfold In64; omega, Nat.zero_le _⟩, by rw [HQ.out]; rfl, by rw [HQ.out]; exact hM5, hN5⟩
      · rw [if_neg h4] at HQ
        have h4' : Lib.hasPrefix (s.data.toList.drop p) (⟨#[116, 114, 117, 101]⟩ : ByteArray).data.toList = false := Bool.eq_false_iff.2 h4
        rw [h4'] at hM4
        have hM4' : RM w4 B rb s p n d fr F P := hM4
        have HM4 := Lib.hid hM4'
        rw [h4']
        have hsy : w4.cell? ⟨2, 0, none⟩ = some (ev (ad 0)) := (HG.out.near HN4.out hrB).err.glob 0 (by decide)
        clear hM4 hM4' hN4 hR4 h4 h4'
        have c0 := HWW4.out.cell 0
        have c1 := HWW4.out.cell 1
        have c2 := HWW4.out.cell 2
        have c3 := HWW4.out.cell 3
        have c4 := HWW4.out.cell 4
        simp only [List.getElem?_cons_zero, List.getElem?_cons_succ] at c0 c1 c2 c3 c4
        have y0 := HWW4.out.frozen 0
        have y1 := HWW4.out.frozen 1
        have y2 := HWW4.out.frozen 2
        have y3 := HWW4.out.frozen 3
        have y4 := HWW4.out.frozen 4
        go_wp2
        go_region
        go_wp2
        obtain ⟨hM5, hN5, hW5⟩ := drew3 (fin5 HM4.out HN4.out HWW4.out hwB HAP.out (.int .i64 0) (.int .i64 0) (.string ⟨#[]⟩) (.slice none 0 0) (.slice none 0 0))
        generalize (((((w4.setCell ⟨b0, 0, none⟩ (.int .i64 0)).setCell ⟨b0, 1, none⟩ (.int .i64 0)).setCell ⟨b0, 2, none⟩ (.string ⟨#[]⟩)).setCell ⟨b0, 3, none⟩ (.slice none 0 0)).setCell ⟨b0, 4, none⟩ (.slice none 0 0)).drew = w9 at *
        obtain ⟨k0, k1, k2, k3, k4⟩ := whole5 hW5
        refine bodyPost_ret (v := .tuple #[.agg #[.int .i64 0, .int .i64 0, .string ⟨#[]⟩, .slice none 0 0, .slice none 0 0], ev (ad 0)]) (by simp [results, Tryd.results37, go_sem, k0, k1, k2, k3, k4]) rfl ?_
        refine ⟨0, 0, ByteArray.empty, by rw [HQ.out]; rfl, ⟨by unfold In64; omega, by unfold In64; omega, Nat.zero_le _⟩, by rw [HQ.out]; rfl, by rw [HQ.out]; exact hM5, hN5⟩

theorem scalar_any (w0 w : World) (ad : Nat → Addr) (B rb : Nat) (s : ByteArray) (p n d : Nat) (fr : Nat → Fr) (F : Ix → Thing) (P : Nat → Prop) (hG : Glb w0 w ad rb) (h : RM w B rb s p n d fr F P) (hp : p < s.size) (hs : s.size ≤ 1000000) :
    Calls Tryd.prog 37 #[.pointer (some ⟨rb, 0, none⟩), .int .u8 (hd (s.data.toList.drop p) : Nat)] w (ScP B rb s p n d fr F P ad (scal (s.data.toList.drop p)) w) := by
  by_cases h1 : hd (s.data.toList.drop p) = 34
  · have := scalar_str w0 w ad B rb s p n d fr F P hG h hp hs h1
    rw [h1]; exact this
  by_cases h2 : hd (s.data.toList.drop p) = 45
  · have := scalar_neg w0 w ad B rb s p n d fr F P hG h hp hs h2
    rw [h2]; exact this
  by_cases h3 : hd (s.data.toList.drop p) < 48
  · exact scalar_lo w0 w ad B rb s p n d fr F P hG h hp hs ⟨h1, h2⟩ h3
  by_cases h4 : hd (s.data.toList.drop p) ≤ 57
  · exact scalar_dig w0 w ad B rb s p n d fr F P hG h hp hs ⟨by omega, h4⟩
  · exact scalar_hi w0 w ad B rb s p n d fr F P hG h hp hs ⟨h1, h2⟩ (by omega)
end Go.Proofs.YtdbidkfjbhclcaaDoor.jsonH
