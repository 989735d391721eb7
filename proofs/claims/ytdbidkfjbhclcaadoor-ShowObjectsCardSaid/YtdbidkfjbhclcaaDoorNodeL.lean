/-
  show.writer: kids at an Object (printed by gen_nodeL.py).
-/
import Derived.Test.YtdbidkfjbhclcaaDoorNodeK
namespace Go.Proofs.YtdbidkfjbhclcaaDoor.nodeL
open Go.ChangeShapes Go.WideShapes Go.ChangeAt Go.RowKit Go.WideMaps Go.Maps nodeP nodeQ nodeA nodeB nodeC nodeD nodeE nodeF nodeG nodeH nodeI nodeJ nodeK runesE bld
open errIs errs
set_option linter.unusedSimpArgs false
set_option linter.unusedVariables false

set_option maxHeartbeats 4000000 in
set_option maxRecDepth 100000 in
theorem kids_7 (n : Int) (t : ByteArray) (ks : List ByteArray) (cs : List Nd) (l : List Value) (w : World) (B b : Nat) (o : List UInt8) (ad : Nat → Addr) (hx : NodeAt w B (.mk 7 n t ks cs) l) (hBw : B ≤ w.heap.size) (h : WB B b o w) (hlen : Lim (o.length + (2 + 30 * szs cs + 30 * (ks.length + sumL ks)))) (hkl : ks.length = cs.length) (hkv : ∀ k ∈ ks, vld k = true) (hks : ∀ k ∈ ks, k.size ≤ 100000) (hE : ∀ w', Below B w w' → Env w' ad) (ih : ∀ c ∈ cs, Kid B b ad c) :
    Calls Tryd.prog 30 #[.pointer (some ⟨b, 0, none⟩), .agg l.toArray, .int .u8 123, .int .u8 125] w (WP B b o (put7 ks cs cs.length ++ [125]) w) := by
  obtain ⟨kv, cv, rfl, _, _, htm, hkv', hcv⟩ := hx.open
  obtain ⟨ao, cap, b', off, ls, rfl, hm, ha, hc, hn⟩ := hcv
  obtain ⟨ak, capk, bk, offk, rfl, hmk, hak, hck, hsk⟩ := hkv'
  have hall : ∀ c ∈ cs, (tx c).length + 1 ≤ 30 * sz c := by
    intro c hc'
    obtain ⟨i, hi, rfl⟩ := List.getElem_of_mem hc'
    exact tx_len (hn i hi)
  have HPL := Lib.hid (fun m => put7_len (ks := ks) hall m)
  have HST := Lib.hid (szs_take cs)
  have HSM := Lib.hid (szs_mono cs)
  have HPS := Lib.hid (fun m h => put7_step ks cs m h hkl)
  have hbne : w.heap.size ≠ b := by have := h.lt; omega
  have HC := Lib.hid hc
  have HKC := Lib.hid hck
  have HKA := Lib.hid hak
  have HKV := Lib.hid hkv
  have HKS := Lib.hid hks
  have HKL := Lib.hid hkl
  have HSL := Lib.hid (sumL_take ks)
  have HSN := Lib.hid (sumL_le ks)
  have hklI : (ks.length : Int) ≤ 9223372036854775807 := by unfold maxLen at hmk; omega
  have HQ : Hid (∀ (s : ByteArray) (o : List UInt8) (w1 : World), vld s = true → s.size ≤ 100000 → Lim (o.length + (6 * s.size + 2)) → WB B b o w1 → B ≤ w1.heap.size → Env w1 ad → Calls Tryd.prog 29 #[.pointer (some ⟨b, 0, none⟩), .string s] w1 fun e w' => e = .returned (.bool true) ∧ WB B b (o ++ quoteP.qt s.data.toList) w' ∧ WR B b w1 w') := Lib.hid (fun s o w1 a1 a2 a3 a4 a5 a6 => quoted_any B b o s w1 ad a4 a1 a2 a3 a5 a6)
  have HN := Lib.hid hn
  have HA := Lib.hid ha
  have HX := Lib.hid ih
  have HV := Lib.hid hE
  have HL := Lib.hid hlen
  have hmI : (cs.length : Int) ≤ 9223372036854775807 := by unfold maxLen at hm; omega
  obtain ⟨wb, hwb⟩ : ∃ wb, wb = w.alloc (.cells #[.int .i64 7, .int .i64 n, .string t, .slice ak ks.length capk, .slice ao cs.length cap] 26) := ⟨_, rfl⟩
  have HW1 : Hid (WB B b o wb) := Lib.hid (by rw [hwb]; exact h.alloc _)
  have HR1 : Hid (WR B b w wb) := Lib.hid (by rw [hwb]; exact (WR.refl _ _ _).alloc hBw _)
  have hs1 : B ≤ wb.heap.size := by rw [hwb]; simp; omega
  have HBX : Hid (∀ w', Lib.OthersKept 5 (some b) wb w' → w'.cell? ⟨w.heap.size, 0, none⟩ = some (.int .i64 7) ∧ w'.cell? ⟨w.heap.size, 3, none⟩ = some (.slice ak ks.length capk) ∧ w'.cell? ⟨w.heap.size, 4, none⟩ = some (.slice ao cs.length cap)) := Lib.hid (by
    rw [hwb]; intro w' hk; exact ⟨box_kept hk hbne 0, box_kept hk hbne 3, box_kept hk hbne 4⟩)
  have Hwb := Lib.hid hwb
  have hp0 : Hid (put7 ks cs 0 = [123]) := Lib.hid (put7_0 ks cs)
  clear hx hc hn ha hck hak hsk hm hmk htm h hE hlen ih hall hwb hkl hkv hks
  go_enter Tryd.func30, Tryd.ntmps30
  go_wp2_with fail
  rw [← Hwb.out]
  refine (wByte B b o 123 wb HW1.out (by have := HL.out; unfold Lim at this ⊢; omega) hs1).mono ?_
  rintro e w2 ⟨rfl, h2, h3⟩
  have HW2 := Lib.hid h2
  have HR2 := Lib.hid h3
  have hs2 : B ≤ w2.heap.size := by have := h3.1.size; omega
  obtain ⟨_, _, q4⟩ := HBX.out w2 h3.2
  clear h2 h3 Hwb
  go_wp2
  go_loopw [9, 10, 19] (fun _ _ i wr => ∃ m : Nat, m ≤ cs.length ∧ i = .int .i64 m ∧ Hid (WB B b (o ++ put7 ks cs m) wr) ∧ Hid (WR B b wb wr) ∧ B ≤ wr.heap.size) (fun _ _ i _ => cs.length - (intOf i).toNat)
  case atStart => exact ⟨0, Nat.zero_le _, rfl, Lib.hid (by rw [hp0.out]; exact HW2.out), HR2, hs2⟩
  case round =>
    obtain ⟨m, hm1, rfl, hw, hr, hsz⟩ := hrel
    have q0 : ∀ X, (wr.alloc X).cell? ⟨w.heap.size, 0, none⟩ = some (.int .i64 7) ∧ (wr.alloc X).cell? ⟨w.heap.size, 3, none⟩ = some (.slice ak ks.length capk) := fun X => ⟨(HBX.out _ (hr.out.2.alloc X)).1, (HBX.out _ (hr.out.2.alloc X)).2.1⟩
    have HBr := Lib.hid (HR1.out.1.trans hr.out.1)
    by_cases hlt : m < cs.length
    · obtain ⟨rfl, hbs⟩ := HA.out (by intro h0; rw [h0] at hlt; simp at hlt)
      have hltk : m < ks.length := by have := HKL.out; omega
      obtain ⟨rfl, hbks⟩ := HKA.out (by intro h0; rw [h0] at hltk; simp at hltk)
      obtain ⟨k', n', t', ak', lk, ck, ac, lc, cc, hkid, p0, p1, p2, p3, p5⟩ := kid_atB HC.out HN.out hlt hbs HBr.out
      have HKD := Lib.hid hkid
      have HD := Lib.hid (HX.out cs[m] (List.getElem_mem hlt))
      have hps := Lib.hid (HPS.out m hlt)
      have hpl := Lib.hid (HPL.out m)
      have hst := Lib.hid (HST.out m hlt)
      have hsm := Lib.hid (HSM.out (m + 1))
      have hsl := Lib.hid (HSL.out m hltk)
      have hsn := Lib.hid (HSN.out (m + 1))
      have hcell := Lib.hid (HKC.out m hltk)
      have hmem : ks.getD m ByteArray.empty ∈ ks := by simp [List.getD, hltk]
      have hvs := Lib.hid (HKV.out _ hmem)
      have hss := Lib.hid (HKS.out _ hmem)
      have hkll := Lib.hid HKL.out
      clear hkid hmem
      generalize cs[m] = x at *
      generalize ks.getD m ByteArray.empty = s at *
      have hql : Hid ((quoteP.qt s.data.toList).length ≤ 6 * s.size + 2) := Lib.hid (by have := qt_len s.data.toList; rw [lenB] at this; exact this)
      by_cases hm0 : m = 0
      · have hl1 : Hid (Lim ((o ++ put7 ks cs m).length + (6 * s.size + 2))) := Lib.hid (by
          have h1 := HL.out; have h2 := hpl.out; have h3 := hst.out; have h4 := hsm.out; have h5 := sz_pos x; have h6 := hsl.out; have h7 := hsn.out; have h8 := hql.out; have h9 : (ks.take m).length = m := by simp; omega
          unfold Lim at h1 ⊢; simp only [List.length_append, List.length_cons, List.length_nil]; omega)
        have hl2 : Hid (Lim ((o ++ put7 ks cs m ++ quoteP.qt s.data.toList).length + 1)) := Lib.hid (by
          have h1 := HL.out; have h2 := hpl.out; have h3 := hst.out; have h4 := hsm.out; have h5 := sz_pos x; have h6 := hsl.out; have h7 := hsn.out; have h8 := hql.out; have h9 : (ks.take m).length = m := by simp; omega
          unfold Lim at h1 ⊢; simp only [List.length_append, List.length_cons, List.length_nil]; omega)
        have hl3 : Hid (Lim ((o ++ put7 ks cs m ++ quoteP.qt s.data.toList ++ [58]).length + 30 * sz x)) := Lib.hid (by
          have h1 := HL.out; have h2 := hpl.out; have h3 := hst.out; have h4 := hsm.out; have h5 := sz_pos x; have h6 := hsl.out; have h7 := hsn.out; have h8 := hql.out; have h9 : (ks.take m).length = m := by simp; omega
          unfold Lim at h1 ⊢; simp only [List.length_append, List.length_cons, List.length_nil]; omega)
        have hps0 : Hid (put7 ks cs (m + 1) = put7 ks cs m ++ (quoteP.qt s.data.toList ++ ([58] ++ tx x))) := Lib.hid (by rw [hps.out, decide_eq_true hm0]; rfl)
        have hmg : ¬ ((0 : Int) < (m : Int)) := by omega
        have p6 : ∀ X, (wr.alloc X).cell? ⟨bk, offk + m, none⟩ = some (.string s) := fun X => ((HBr.out.alloc hsz X).cell hbks).trans hcell.out
        clear hps hm0
        go_wp2_with fail
        refine (HQ.out s (o ++ put7 ks cs m) _ hvs.out hss.out hl1.out (hw.out.alloc _) (by simp; omega) (HV.out _ (HR1.out.1.trans (hr.out.alloc hsz _).1))).mono ?_
        rintro e w4 ⟨rfl, h2, h3⟩
        have HW4 := Lib.hid h2
        have HR4 := Lib.hid ((hr.out.alloc hsz _).trans h3)
        have hs4 : B ≤ w4.heap.size := by have := h3.1.size; simp at this; omega
        have kb := box_kept (cs := #[.int .i64 k', .int .i64 n', .string t', .slice ak' lk ck, .slice ac lc cc]) (b := b) (w := wr) (w' := w4) (h3.2) (by have := hw.out.lt; omega)
        have r0 : w4.cell? ⟨wr.heap.size, 0, none⟩ = some (.int .i64 k') := kb 0
        have r1 : w4.cell? ⟨wr.heap.size, 1, none⟩ = some (.int .i64 n') := kb 1
        have r2 : w4.cell? ⟨wr.heap.size, 2, none⟩ = some (.string t') := kb 2
        have r3 : w4.cell? ⟨wr.heap.size, 3, none⟩ = some (.slice ak' lk ck) := kb 3
        have r4 : w4.cell? ⟨wr.heap.size, 4, none⟩ = some (.slice ac lc cc) := kb 4
        have HK4 := Lib.hid ((h3.2))
        clear h2 h3 p0 p1 p2 p3 p5 p6 q0 kb
        clear r0 r1 r2 r3 r4
        go_wp2_with fail
        refine (wByte B b ((o ++ put7 ks cs m) ++ quoteP.qt s.data.toList) 58 w4 HW4.out hl2.out hs4).mono ?_
        rintro e w5 ⟨rfl, h2, h3⟩
        have HW5 := Lib.hid h2
        have HR5 := Lib.hid (HR4.out.trans h3)
        have hs5 : B ≤ w5.heap.size := by have := h3.1.size; omega
        have kb := box_kept (cs := #[.int .i64 k', .int .i64 n', .string t', .slice ak' lk ck, .slice ac lc cc]) (b := b) (w := wr) (w' := w5) (HK4.out.trans h3.2) (by have := hw.out.lt; omega)
        have r0 : w5.cell? ⟨wr.heap.size, 0, none⟩ = some (.int .i64 k') := kb 0
        have r1 : w5.cell? ⟨wr.heap.size, 1, none⟩ = some (.int .i64 n') := kb 1
        have r2 : w5.cell? ⟨wr.heap.size, 2, none⟩ = some (.string t') := kb 2
        have r3 : w5.cell? ⟨wr.heap.size, 3, none⟩ = some (.slice ak' lk ck) := kb 3
        have r4 : w5.cell? ⟨wr.heap.size, 4, none⟩ = some (.slice ac lc cc) := kb 4
        clear h2 h3 kb
        have HB5 := Lib.hid (HR1.out.1.trans HR5.out.1)
        go_wp2_with fail
        refine (HD.out _ _ ((o ++ put7 ks cs m) ++ quoteP.qt s.data.toList ++ [58]) (HKD.out.keep HB5.out) hs5 HW5.out hl3.out (fun w' h => HV.out _ (HB5.out.trans h))).mono ?_
        rintro e w6 ⟨rfl, h2, h3⟩
        have HW6 : Hid (WB B b (o ++ put7 ks cs (m + 1)) w6) := Lib.hid (by rw [hps0.out]; simpa using h2)
        have HR6 := Lib.hid (HR5.out.trans h3)
        have hs6 : B ≤ w6.heap.size := by have := h3.1.size; omega
        clear h2 h3 r0 r1 r2 r3 r4
        go_wp2
        go_roundw
        case rel => exact ⟨m + 1, by omega, by go_num, HW6, HR6, hs6⟩
        case measure => simp [intOf]; omega
      · have hl0 : Hid (Lim ((o ++ put7 ks cs m).length + 1)) := Lib.hid (by
          have h1 := HL.out; have h2 := hpl.out; have h3 := hst.out; have h4 := hsm.out; have h5 := sz_pos x; have h6 := hsl.out; have h7 := hsn.out; have h8 := hql.out; have h9 : (ks.take m).length = m := by simp; omega
          unfold Lim at h1 ⊢; simp only [List.length_append, List.length_cons, List.length_nil]; omega)
        have hl1 : Hid (Lim ((o ++ put7 ks cs m ++ [44]).length + (6 * s.size + 2))) := Lib.hid (by
          have h1 := HL.out; have h2 := hpl.out; have h3 := hst.out; have h4 := hsm.out; have h5 := sz_pos x; have h6 := hsl.out; have h7 := hsn.out; have h8 := hql.out; have h9 : (ks.take m).length = m := by simp; omega
          unfold Lim at h1 ⊢; simp only [List.length_append, List.length_cons, List.length_nil]; omega)
        have hl2 : Hid (Lim ((o ++ put7 ks cs m ++ [44] ++ quoteP.qt s.data.toList).length + 1)) := Lib.hid (by
          have h1 := HL.out; have h2 := hpl.out; have h3 := hst.out; have h4 := hsm.out; have h5 := sz_pos x; have h6 := hsl.out; have h7 := hsn.out; have h8 := hql.out; have h9 : (ks.take m).length = m := by simp; omega
          unfold Lim at h1 ⊢; simp only [List.length_append, List.length_cons, List.length_nil]; omega)
        have hl3 : Hid (Lim ((o ++ put7 ks cs m ++ [44] ++ quoteP.qt s.data.toList ++ [58]).length + 30 * sz x)) := Lib.hid (by
          have h1 := HL.out; have h2 := hpl.out; have h3 := hst.out; have h4 := hsm.out; have h5 := sz_pos x; have h6 := hsl.out; have h7 := hsn.out; have h8 := hql.out; have h9 : (ks.take m).length = m := by simp; omega
          unfold Lim at h1 ⊢; simp only [List.length_append, List.length_cons, List.length_nil]; omega)
        have hps0 : Hid (put7 ks cs (m + 1) = put7 ks cs m ++ ([44] ++ (quoteP.qt s.data.toList ++ ([58] ++ tx x)))) := Lib.hid (by rw [hps.out, decide_eq_false hm0]; rfl)
        have hmg : (0 : Int) < (m : Int) := by omega
        clear hps hm0
        go_wp2_with fail
        refine (wByte B b (o ++ put7 ks cs m) 44 _ (hw.out.alloc _) hl0.out (by simp; omega)).mono ?_
        rintro e w3 ⟨rfl, h2, h3⟩
        have HW3 := Lib.hid h2
        have HR3 := Lib.hid ((hr.out.alloc hsz _).trans h3)
        have hs3 : B ≤ w3.heap.size := by have := h3.1.size; simp at this; omega
        obtain ⟨q03, q33, _⟩ := HBX.out w3 HR3.out.2
        have HK3 := Lib.hid h3.2
        have p6 : w3.cell? ⟨bk, offk + m, none⟩ = some (.string s) := ((HR1.out.1.trans HR3.out.1).cell hbks).trans hcell.out
        clear h2 h3 p0 p1 p2 p3 p5 q0
        go_wp2_with fail
        refine (HQ.out s (o ++ put7 ks cs m ++ [44]) _ hvs.out hss.out hl1.out HW3.out hs3 (HV.out _ (HR1.out.1.trans HR3.out.1))).mono ?_
        rintro e w4 ⟨rfl, h2, h3⟩
        have HW4 := Lib.hid h2
        have HR4 := Lib.hid (HR3.out.trans h3)
        have hs4 : B ≤ w4.heap.size := by have := h3.1.size; omega
        have kb := box_kept (cs := #[.int .i64 k', .int .i64 n', .string t', .slice ak' lk ck, .slice ac lc cc]) (b := b) (w := wr) (w' := w4) (HK3.out.trans h3.2) (by have := hw.out.lt; omega)
        have r0 : w4.cell? ⟨wr.heap.size, 0, none⟩ = some (.int .i64 k') := kb 0
        have r1 : w4.cell? ⟨wr.heap.size, 1, none⟩ = some (.int .i64 n') := kb 1
        have r2 : w4.cell? ⟨wr.heap.size, 2, none⟩ = some (.string t') := kb 2
        have r3 : w4.cell? ⟨wr.heap.size, 3, none⟩ = some (.slice ak' lk ck) := kb 3
        have r4 : w4.cell? ⟨wr.heap.size, 4, none⟩ = some (.slice ac lc cc) := kb 4
        have HK4 := Lib.hid ((HK3.out.trans h3.2))
        clear h2 h3 p6 q03 q33 kb
        clear r0 r1 r2 r3 r4
        go_wp2_with fail
        refine (wByte B b ((o ++ put7 ks cs m ++ [44]) ++ quoteP.qt s.data.toList) 58 w4 HW4.out hl2.out hs4).mono ?_
        rintro e w5 ⟨rfl, h2, h3⟩
        have HW5 := Lib.hid h2
        have HR5 := Lib.hid (HR4.out.trans h3)
        have hs5 : B ≤ w5.heap.size := by have := h3.1.size; omega
        have kb := box_kept (cs := #[.int .i64 k', .int .i64 n', .string t', .slice ak' lk ck, .slice ac lc cc]) (b := b) (w := wr) (w' := w5) (HK4.out.trans h3.2) (by have := hw.out.lt; omega)
        have r0 : w5.cell? ⟨wr.heap.size, 0, none⟩ = some (.int .i64 k') := kb 0
        have r1 : w5.cell? ⟨wr.heap.size, 1, none⟩ = some (.int .i64 n') := kb 1
        have r2 : w5.cell? ⟨wr.heap.size, 2, none⟩ = some (.string t') := kb 2
        have r3 : w5.cell? ⟨wr.heap.size, 3, none⟩ = some (.slice ak' lk ck) := kb 3
        have r4 : w5.cell? ⟨wr.heap.size, 4, none⟩ = some (.slice ac lc cc) := kb 4
        clear h2 h3 kb
        have HB5 := Lib.hid (HR1.out.1.trans HR5.out.1)
        go_wp2_with fail
        refine (HD.out _ _ ((o ++ put7 ks cs m ++ [44]) ++ quoteP.qt s.data.toList ++ [58]) (HKD.out.keep HB5.out) hs5 HW5.out hl3.out (fun w' h => HV.out _ (HB5.out.trans h))).mono ?_
        rintro e w6 ⟨rfl, h2, h3⟩
        have HW6 : Hid (WB B b (o ++ put7 ks cs (m + 1)) w6) := Lib.hid (by rw [hps0.out]; simpa using h2)
        have HR6 := Lib.hid (HR5.out.trans h3)
        have hs6 : B ≤ w6.heap.size := by have := h3.1.size; omega
        clear h2 h3 r0 r1 r2 r3 r4
        go_wp2
        go_roundw
        case rel => exact ⟨m + 1, by omega, by go_num, HW6, HR6, hs6⟩
        case measure => simp [intOf]; omega
    · obtain rfl : m = cs.length := by omega
      have hlen0 : Hid (Lim ((o ++ put7 ks cs cs.length).length + 1)) := Lib.hid (by
        have h1 := HL.out; have h2 := HPL.out cs.length; have h4 := HSM.out cs.length; have h5 := HSN.out cs.length; have h6 : (ks.take cs.length).length ≤ ks.length := List.length_take_le' _ _
        unfold Lim at h1 ⊢; rw [List.length_append]; omega)
      clear q0
      go_wp2_with fail
      refine (wByte B b (o ++ put7 ks cs cs.length) 125 _ hw.out hlen0.out hsz).mono ?_
      rintro e w3 ⟨rfl, h2, h3⟩
      have HW3 := Lib.hid h2
      have HR3 := Lib.hid ((HR1.out.trans hr.out).trans h3)
      clear h2 h3
      go_wp2
      go_ret
      exact ⟨rfl, by rw [← List.append_assoc]; exact HW3.out, HR3.out⟩
end Go.Proofs.YtdbidkfjbhclcaaDoor.nodeL
