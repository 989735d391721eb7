/-
  Contract of (*reader).read.
-/
import Derived.Test.YtdbidkfjbhclcaaDoorJsonI
import Derived.WalkMore
namespace Go.Proofs.YtdbidkfjbhclcaaDoor.jsonK
open Go.ChangeShapes Go.WideShapes Go.ChangeAt Go.RowKit Go.WideMaps Go.Maps nodeP nodeQ nodeS ownI jsonP jsonM jsonN jsonO jsonA jsonB jsonC jsonD errs errIs runesE quoteB jsonF jsonG jsonH jsonI labels
set_option linter.unusedSimpArgs false
set_option linter.unusedVariables false

set_option maxRecDepth 100000 in
set_option maxHeartbeats 8000000 in
theorem read_scope (c : Cx) (hc : c.Ok) (hb0 : c.b0 = c.wC.heap.size) (hw1 : c.b1 = c.wC.heap.size + 1)
    (hst : ∀ a, Fm c a → J0 c a ((c.wC.alloc (.cells #[.int .i64 0, .int .i64 0, .string ⟨#[]⟩, .slice none 0 0, .slice none 0 0] 26)).alloc (.cells #[.int .i64 0, .int .i64 0, .string ⟨#[]⟩, .slice none 0 0, .slice none 0 0] 26))) :
    Calls Tryd.prog 24 #[.pointer (some ⟨c.rb, 0, none⟩)] c.wC (ReP c) := by
  go_enter Tryd.func24, Tryd.ntmps24
  go_wp2
  refine wp_scope_three (JJ c) (mu c) rfl rfl rfl ?_ ?_ ?_ ?_
  · intro a w hJ
    obtain ⟨hF, p, n, d, fr, F, P, v, hI, ho⟩ := hJ
    refine Fm_elim hF ?_
    intro f
    clear hF
    have HI := Lib.hid hI
    have HKY := Lib.hid (key_any c.w0 w c.ad c.B c.rb c.s p n d fr F P (hI.g hc) hI.mem ho (by have := hI.db; omega) hI.pb hc.hs (by have := hI.kb d (by omega); have := hI.pb; have := hc.hs; omega))
    have HC := Lib.hid hc
    have HHO := Lib.hid ho
    obtain ⟨k, m, t, aa1, nn1, cc1, aa2, nn2, cc2⟩ := v
    clear hI ho hw1 hb0 hst
    go_wp2_with fail
    refine HKY.out.mono ?_
    rintro e w2 ⟨hN, hq⟩
    have HN2 := Lib.hid hN
    have HR2 := Lib.hid (near_whole hN HI.out.res HC.out.h0.2 HC.out.b0n)
    have HD2 := Lib.hid (near_whole hN HI.out.don HC.out.h1.2 HC.out.b1n)
    have HNC2 := Lib.hid (HI.out.near.trans (near_sub hN HC.out.bcb))
    have a0 := HR2.out.cell 0
    have a1 := HR2.out.cell 1
    have a2 := HR2.out.cell 2
    have a3 := HR2.out.cell 3
    have a4 := HR2.out.cell 4
    have d0 := HD2.out.cell 0
    have d1 := HD2.out.cell 1
    have d2 := HD2.out.cell 2
    have d3 := HD2.out.cell 3
    have d4 := HD2.out.cell 4
    simp only [List.getElem?_cons_zero, List.getElem?_cons_succ] at a0 a1 a2 a3 a4 d0 d1 d2 d3 d4
    have y0 := HR2.out.frozen 0
    have y1 := HR2.out.frozen 1
    have y2 := HR2.out.frozen 2
    have y3 := HR2.out.frozen 3
    have y4 := HR2.out.frozen 4
    have hb01 : c.b0 ≠ c.b1 := HC.out.ne
    have HQ := Lib.hid (step_key (u := c.s.data.toList.drop p) (n := n) (f := fr d) (st := stk fr d) rfl)
    have HQL := Lib.hid (keyR_len (u := c.s.data.toList.drop p) (ks := (fr d).keys))
    clear HKY hN hc
    generalize keyR (c.s.data.toList.drop p) (fr d).keys = q at *
    rcases hq with ⟨hq0, rfl⟩ | ⟨hq0, rfl, p', F', hp', hdr, hM⟩
    · have hr0 : c.r0 = .err q.1 := HI.out.run.fin' (HQ.out.1 hq0)
      have HE : Hid (intsC.errV c.ad q.1 = ev (c.ad (q.1 - 1))) := Lib.hid (by unfold intsC.errV; rw [if_neg hq0])
      have HR0 := Lib.hid hr0
      have hne := quoteB.nneqE (c.ad (q.1 - 1))
      clear hr0 hq0
      go_wp2
      rw [jumps_ret]
      have hW5 := set5_whole HR2.out (.int .i64 k) (.int .i64 m) (.string t) (.slice aa1 nn1 cc1) (.slice aa2 nn2 cc2)
      have hN5 := fin_near HC.out HNC2.out (.int .i64 k) (.int .i64 m) (.string t) (.slice aa1 nn1 cc1) (.slice aa2 nn2 cc2)
      generalize ((((w2.setCell ⟨c.b0, 0, none⟩ (.int .i64 k)).setCell ⟨c.b0, 1, none⟩ (.int .i64 m)).setCell ⟨c.b0, 2, none⟩ (.string t)).setCell ⟨c.b0, 3, none⟩ (.slice aa1 nn1 cc1)).setCell ⟨c.b0, 4, none⟩ (.slice aa2 nn2 cc2) = w9 at *
      obtain ⟨k0, k1, k2, k3, k4⟩ := whole5 hW5
      refine bodyPost_ret (v := .tuple #[.agg #[.int .i64 k, .int .i64 m, .string t, .slice aa1 nn1 cc1, .slice aa2 nn2 cc2], ev (c.ad (q.1 - 1))]) (by simp [results, Tryd.results24, go_sem, k0, k1, k2, k3, k4]) rfl ?_
      exact ⟨⟨k, m, t, aa1, nn1, cc1, aa2, nn2, cc2⟩, q.1, by rw [HE.out], hN5, by rw [HR0.out]⟩
    · have hlt := HQL.out hq0
      have hul : (c.s.data.toList.drop p).length = c.s.size - p := by rw [List.length_drop, Array.length_toList, ByteArray.size_data]
      have hvl : q.2.2.length = c.s.size - p' := by rw [← hdr, List.length_drop, Array.length_toList, ByteArray.size_data]
      have hpb := HI.out.pb
      have hpp : p < p' := by omega
      have hrun := HI.out.run.next (HQ.out.2 hq0)
      have HRI : Hid (RI c .value p' n (d + 1) (updN fr d ⟨true, (fr d).keys ++ [q.2.1], (fr d).kids⟩) F' P ⟨k, m, t, aa1, nn1, cc1, aa2, nn2, cc2⟩ w2) := Lib.hid ⟨hM, HNC2.out, HR2.out, HD2.out, hp', HI.out.db, HI.out.nb, fun i hi => by
        have hk := HI.out.kb i hi
        by_cases e : i = d
        · subst e; rw [updN_same]; dsimp only; rw [List.length_append]; simp; omega
        · rw [updN_other _ _ e]; omega, by rw [stk_top, hdr]; rw [HHO.out] at hrun; exact hrun⟩
      have hne := quoteB.nneqN
      clear hrun hlt hul hvl hdr hM hq0 HQ HQL
      go_wp2
      go_step3
      exact ⟨(by decide : 0 < 3), ⟨⟨rfl, rfl, rfl, rfl, rfl, rfl⟩, _, _, _, _, _, _, _, HRI.out⟩, mu_lt HI.out.mem HRI.out.mem hpp hp' _ _⟩
  · intro a w hJ
    obtain ⟨hF, x, p, n, d, fr, F, P, v, hI, hx, hkd⟩ := hJ
    refine Fm_elim hF ?_
    intro f
    clear hF
    have HI := Lib.hid hI
    have HX := Lib.hid hx
    have HKD := Lib.hid hkd
    have HC := Lib.hid hc
    have HBL := Lib.hid (blanks_grown w c.B c.rb c.s p n d fr F P hI.mem hI.pb hc.hs)
    have hb01 : c.b0 ≠ c.b1 := hc.ne
    obtain ⟨k, m, t, aa1, nn1, cc1, aa2, nn2, cc2⟩ := v
    clear hI hx hkd hc hw1 hb0 hst
    go_wp2_with fail
    refine HBL.out.mono ?_
    rintro e w2 ⟨⟨he, p1, hp1, hp1s, hdr1, hM2, hN2⟩, hG2⟩
    have HM2 := Lib.hid hM2
    have HN2 := Lib.hid hN2
    have HDR := Lib.hid hdr1
    have HX2 : Hid (NodeIn w2 P x [.int .i64 k, .int .i64 m, .string t, .slice aa1 nn1 cc1, .slice aa2 nn2 cc2]) := Lib.hid (HX.out.keep (fun _ h => h) (fun b hb => hG2.block b (HI.out.mem.sealed' b hb).2.1 (fun e => by have := (HI.out.mem.sealed' b hb).1; have := HI.out.mem.hB.1; have := Option.some.inj e; omega)))
    have HR2 := Lib.hid (near_whole hN2 HI.out.res HC.out.h0.2 HC.out.b0n)
    have HD2 := Lib.hid (near_whole hN2 HI.out.don HC.out.h1.2 HC.out.b1n)
    have HNC2 := Lib.hid (HI.out.near.trans (near_sub hN2 HC.out.bcb))
    have a0 := HR2.out.cell 0
    have a1 := HR2.out.cell 1
    have a2 := HR2.out.cell 2
    have a3 := HR2.out.cell 3
    have a4 := HR2.out.cell 4
    have d0 := HD2.out.cell 0
    have d1 := HD2.out.cell 1
    have d2 := HD2.out.cell 2
    have d3 := HD2.out.cell 3
    have d4 := HD2.out.cell 4
    simp only [List.getElem?_cons_zero, List.getElem?_cons_succ] at a0 a1 a2 a3 a4 d0 d1 d2 d3 d4
    have y0 := HR2.out.frozen 0
    have y1 := HR2.out.frozen 1
    have y2 := HR2.out.frozen 2
    have y3 := HR2.out.frozen 3
    have y4 := HR2.out.frozen 4
    have HRUN := Lib.hid HI.out.run
    generalize hu1 : bs (c.s.data.toList.drop p) = u at *
    have HU1 := Lib.hid hu1
    generalize hok : decide (u ≠ []) = okb at he
    generalize hcc : hd u = cc at he
    subst he
    have HOK := Lib.hid hok
    have HCC := Lib.hid hcc
    have hop : ∃ ao cp, (F .opn).val = .slice ao d cp := by
      obtain ⟨ov, ho⟩ := hM2.opn
      have hk := hM2.own.1 .opn
      rw [ho] at hk ⊢
      exact row_form hk
    obtain ⟨ao, cp, hao⟩ := hop
    have f3 := hM2.field.2.2.2.1
    rw [hao] at f3
    have HBW2 : Hid (c.Bc ≤ w2.heap.size) := Lib.hid (Nat.le_trans HC.out.bcb hM2.hB.2)
    have HG2 := Lib.hid (HC.out.glb.near HNC2.out HC.out.rbc)
    clear HBL hM2 hN2 hG2 hdr1 hu1 hok hcc hao
    cases d with
    | zero =>
      cases okb
      · have hul : u = [] := by have := HOK.out; simpa using this
        have hr0 : c.r0 = .ok x := HRUN.out.fin' (by unfold jsonP.step; dsimp only [jsonI.stk]; rw [HU1.out, if_pos hul])
        have HR0 := Lib.hid hr0
        clear hul hr0
        go_wp2
        rw [jumps_ret]
        have hW5 := set5_whole HR2.out (.int .i64 k) (.int .i64 m) (.string t) (.slice aa1 nn1 cc1) (.slice aa2 nn2 cc2)
        have hN5 := fin_near HC.out HNC2.out (.int .i64 k) (.int .i64 m) (.string t) (.slice aa1 nn1 cc1) (.slice aa2 nn2 cc2)
        have hG5 := set5_grown w2 c.b0 (.int .i64 k) (.int .i64 m) (.string t) (.slice aa1 nn1 cc1) (.slice aa2 nn2 cc2)
        have hX5 := HX2.out.keep (fun _ h => h) (fun b hb => hG5.block b (HM2.out.sealed' b hb).2.1 (fun e => by have := (HM2.out.sealed' b hb).1; have := HC.out.h0.2; have := Option.some.inj e; omega))
        have hP5 := fun b hb => And.intro (Nat.le_trans HC.out.bcb (HM2.out.sealed' b hb).1) (Nat.lt_of_lt_of_le (HM2.out.sealed' b hb).2.1 hG5.size)
        generalize ((((w2.setCell ⟨c.b0, 0, none⟩ (.int .i64 k)).setCell ⟨c.b0, 1, none⟩ (.int .i64 m)).setCell ⟨c.b0, 2, none⟩ (.string t)).setCell ⟨c.b0, 3, none⟩ (.slice aa1 nn1 cc1)).setCell ⟨c.b0, 4, none⟩ (.slice aa2 nn2 cc2) = w9 at *
        obtain ⟨k0, k1, k2, k3, k4⟩ := whole5 hW5
        refine bodyPost_ret (v := .tuple #[.agg #[.int .i64 k, .int .i64 m, .string t, .slice aa1 nn1 cc1, .slice aa2 nn2 cc2], .nilIface]) (by simp [results, Tryd.results24, go_sem, k0, k1, k2, k3, k4]) rfl ?_
        refine ⟨⟨k, m, t, aa1, nn1, cc1, aa2, nn2, cc2⟩, 0, rfl, hN5, ?_⟩
        rw [HR0.out]
        exact ⟨rfl, P, hP5, hX5⟩
      · have hul : u ≠ [] := by have := HOK.out; simpa using this
        have hr0 : c.r0 = .err 1 := HRUN.out.fin' (by unfold jsonP.step; dsimp only [jsonI.stk]; rw [HU1.out, if_neg hul])
        have HR0 := Lib.hid hr0
        have HE : Hid (intsC.errV c.ad 1 = ev (c.ad 0)) := Lib.hid rfl
        have hgl := HC.out.low 0 (by decide)
        have hgl2 := HC.out.h0.1
        have hbg : c.b0 ≠ 2 := by intro e; rw [e] at hgl2; exact absurd hgl (by show ¬ 2 < c.Bc; omega)
        have hgb : ¬ (2 = c.b0) := fun e => hbg e.symm
        have hsy : w2.cell? ⟨2, 0, none⟩ = some (ev (c.ad 0)) := HG2.out.err.glob 0 (by decide)
        clear hul hr0 hgl hgl2
        go_wp2
        go_region
        go_wp2
        rw [jumps_ret]
        have hW5 := set5_whole HR2.out (.int .i64 k) (.int .i64 m) (.string t) (.slice aa1 nn1 cc1) (.slice aa2 nn2 cc2)
        have hN5 := fin_near HC.out HNC2.out (.int .i64 k) (.int .i64 m) (.string t) (.slice aa1 nn1 cc1) (.slice aa2 nn2 cc2)
        replace hW5 := drew_whole hW5
        replace hN5 := drew_near hN5 (by have := HBW2.out; simpa using this)
        generalize (((((w2.setCell ⟨c.b0, 0, none⟩ (.int .i64 k)).setCell ⟨c.b0, 1, none⟩ (.int .i64 m)).setCell ⟨c.b0, 2, none⟩ (.string t)).setCell ⟨c.b0, 3, none⟩ (.slice aa1 nn1 cc1)).setCell ⟨c.b0, 4, none⟩ (.slice aa2 nn2 cc2)).drew = w9 at *
        obtain ⟨k0, k1, k2, k3, k4⟩ := whole5 hW5
        refine bodyPost_ret (v := .tuple #[.agg #[.int .i64 k, .int .i64 m, .string t, .slice aa1 nn1 cc1, .slice aa2 nn2 cc2], ev (c.ad 0)]) (by simp [results, Tryd.results24, go_sem, k0, k1, k2, k3, k4]) rfl ?_
        exact ⟨⟨k, m, t, aa1, nn1, cc1, aa2, nn2, cc2⟩, 1, by rw [HE.out], hN5, by rw [HR0.out]⟩
    | succ d =>
      have HXL : Hid (x = x) := Lib.hid rfl
      have hdb := HI.out.db
      have HAD := Lib.hid (add_any w2 c.B c.rb c.s p1 n d fr F P x _ HM2.out HX2.out (by omega) (by have := HKD.out d (by omega); have := HI.out.pb; have := HC.out.hs; omega))
      have hne0 : ¬ ((d : Int) + 1 = 0) := by omega
      go_wp2_with fail
      refine HAD.out.mono ?_
      rintro e w3 ⟨rfl, F3, hM3, hN3⟩
      clear a0 a1 a2 a3 a4 d0 d1 d2 d3 d4 y0 y1 y2 y3 y4
      have HM3 := Lib.hid hM3
      have HR3 := Lib.hid (near_whole hN3 HR2.out HC.out.h0.2 HC.out.b0n)
      have HD3 := Lib.hid (near_whole hN3 HD2.out HC.out.h1.2 HC.out.b1n)
      have HNC3 := Lib.hid (HNC2.out.trans (near_sub hN3 HC.out.bcb))
      have HBW3 : Hid (c.Bc ≤ w3.heap.size) := Lib.hid (Nat.le_trans HC.out.bcb hM3.hB.2)
      have HG3 := Lib.hid (HC.out.glb.near HNC3.out HC.out.rbc)
      have HCL := Lib.hid (closing_any w3 c.B c.rb c.s p1 n d _ F3 P hM3 (by omega))
      clear HAD hM3 hN3 HBW2 HG2 HX2
      have HE : Hid (intsC.errV c.ad 1 = ev (c.ad 0)) := Lib.hid rfl
      have hgl := HC.out.low 0 (by decide)
      have hgl2 := HC.out.h0.1
      have hbg : c.b0 ≠ 2 := by intro e; rw [e] at hgl2; exact absurd hgl (by show ¬ 2 < c.Bc; omega)
      have hgb : ¬ (2 = c.b0) := fun e => hbg e.symm
      clear hgl hgl2
      cases okb
      · have hul : u = [] := by have := HOK.out; simpa using this
        have hr0 : c.r0 = .err 1 := HRUN.out.fin' (by unfold jsonP.step; dsimp only [jsonI.stk]; rw [HU1.out, if_pos hul])
        have HR0 := Lib.hid hr0
        have hsy : w3.cell? ⟨2, 0, none⟩ = some (ev (c.ad 0)) := HG3.out.err.glob 0 (by decide)
        have a0 := HR3.out.cell 0
        have a1 := HR3.out.cell 1
        have a2 := HR3.out.cell 2
        have a3 := HR3.out.cell 3
        have a4 := HR3.out.cell 4
        have d0 := HD3.out.cell 0
        have d1 := HD3.out.cell 1
        have d2 := HD3.out.cell 2
        have d3 := HD3.out.cell 3
        have d4 := HD3.out.cell 4
        simp only [List.getElem?_cons_zero, List.getElem?_cons_succ] at a0 a1 a2 a3 a4 d0 d1 d2 d3 d4
        have y0 := HR3.out.frozen 0
        have y1 := HR3.out.frozen 1
        have y2 := HR3.out.frozen 2
        have y3 := HR3.out.frozen 3
        have y4 := HR3.out.frozen 4
        clear hul hr0
        go_wp2
        go_region
        go_wp2
        rw [jumps_ret]
        have hW5 := set5_whole HR3.out (.int .i64 k) (.int .i64 m) (.string t) (.slice aa1 nn1 cc1) (.slice aa2 nn2 cc2)
        have hN5 := fin_near HC.out HNC3.out (.int .i64 k) (.int .i64 m) (.string t) (.slice aa1 nn1 cc1) (.slice aa2 nn2 cc2)
        replace hW5 := drew_whole hW5
        replace hN5 := drew_near hN5 (by have := HBW3.out; simpa using this)
        generalize (((((w3.setCell ⟨c.b0, 0, none⟩ (.int .i64 k)).setCell ⟨c.b0, 1, none⟩ (.int .i64 m)).setCell ⟨c.b0, 2, none⟩ (.string t)).setCell ⟨c.b0, 3, none⟩ (.slice aa1 nn1 cc1)).setCell ⟨c.b0, 4, none⟩ (.slice aa2 nn2 cc2)).drew = w9 at *
        obtain ⟨k0, k1, k2, k3, k4⟩ := whole5 hW5
        refine bodyPost_ret (v := .tuple #[.agg #[.int .i64 k, .int .i64 m, .string t, .slice aa1 nn1 cc1, .slice aa2 nn2 cc2], ev (c.ad 0)]) (by simp [results, Tryd.results24, go_sem, k0, k1, k2, k3, k4]) rfl ?_
        exact ⟨⟨k, m, t, aa1, nn1, cc1, aa2, nn2, cc2⟩, 1, by rw [HE.out], hN5, by rw [HR0.out]⟩
      · have hul : u ≠ [] := by have := HOK.out; simpa using this
        go_wp2_with fail
        refine HCL.out.mono ?_
        rintro e w4 ⟨rfl, hM4, hN4⟩
        have HM4 := Lib.hid hM4
        have HR4 := Lib.hid (near_whole hN4 HR3.out HC.out.h0.2 HC.out.b0n)
        have HD4 := Lib.hid (near_whole hN4 HD3.out HC.out.h1.2 HC.out.b1n)
        have HNC4 := Lib.hid (HNC3.out.trans (near_sub hN4 HC.out.bcb))
        have HBW4 : Hid (c.Bc ≤ w4.heap.size) := Lib.hid (Nat.le_trans HC.out.bcb hM4.hB.2)
        have HG4 := Lib.hid (HC.out.glb.near HNC4.out HC.out.rbc)
        clear hM4 hN4 HBW3 HG3 HCL
        rw [show ((updN fr d ⟨(fr d).obj, (fr d).keys, (fr d).kids ++ [x]⟩ d).close) = (fr d).close from by rw [updN_same]; rfl]
        have HCV := Lib.hid (jsonS.close_val (fr d))
        have HUL := Lib.hid hul
        have HUP : Hid (p1 < c.s.size) := Lib.hid (by
          have h1 : u.length = c.s.size - p1 := by rw [← HDR.out, List.length_drop, Array.length_toList, ByteArray.size_data]
          have h2 : 0 < u.length := List.length_pos_iff.2 hul
          omega)
        have HTL : Hid (c.s.data.toList.drop (p1 + 1) = u.tail) := Lib.hid (by rw [← HDR.out, List.tail_drop])
        generalize hcl : (fr d).close = cl at *
        have HCL := Lib.hid hcl
        clear hcl hul
        by_cases hq : cc = cl
        · subst hq
          have hrun := HRUN.out.next (by unfold jsonP.step; dsimp only [jsonI.stk]; rw [HU1.out, if_neg HUL.out, if_pos (by rw [HCC.out, HCL.out])])
          have HRUN2 := Lib.hid hrun
          have HLV := Lib.hid (leave_any w4 c.B c.rb c.s p1 n d _ F3 P HM4.out (by omega) (by have := HC.out.hs; omega) (by
            rw [updN_same]
            have h1 := HI.out.kb d (by omega)
            have h2 := HKD.out d (by omega)
            have := HI.out.pb
            have := HC.out.hs
            dsimp only
            rw [List.length_append]
            unfold maxLen
            constructor <;> simp <;> omega))
          clear hrun
          have a0 := HR4.out.cell 0
          have a1 := HR4.out.cell 1
          have a2 := HR4.out.cell 2
          have a3 := HR4.out.cell 3
          have a4 := HR4.out.cell 4
          have d0 := HD4.out.cell 0
          have d1 := HD4.out.cell 1
          have d2 := HD4.out.cell 2
          have d3 := HD4.out.cell 3
          have d4 := HD4.out.cell 4
          simp only [List.getElem?_cons_zero, List.getElem?_cons_succ] at a0 a1 a2 a3 a4 d0 d1 d2 d3 d4
          have y0 := HR4.out.frozen 0
          have y1 := HR4.out.frozen 1
          have y2 := HR4.out.frozen 2
          have y3 := HR4.out.frozen 3
          have y4 := HR4.out.frozen 4
          go_wp2_with fail
          refine HLV.out.mono ?_
          rintro e w5 ⟨cs, F5, P5, he, hM5, hX5, hN5⟩
          have hcf : ∃ k' m' t' b1 e1 g1 b2 e2 g2, cs = #[.int .i64 k', .int .i64 m', .string t', .slice b1 e1 g1, .slice b2 e2 g2] := by
            obtain ⟨k', m', t', b1, e1, g1, b2, e2, g2, h⟩ := node_form hX5
            exact ⟨k', m', t', b1, e1, g1, b2, e2, g2, by cases cs; simpa using h⟩
          obtain ⟨k', m', t', b1, e1, g1, b2, e2, g2, hcs⟩ := hcf
          rw [hcs] at he hX5
          subst he
          clear a0 a1 a2 a3 a4 d0 d1 d2 d3 d4 y0 y1 y2 y3 y4
          have HNC5 := HNC4.out.trans (near_sub hN5 HC.out.bcb)
          have HR5 := near_whole hN5 HR4.out HC.out.h0.2 HC.out.b0n
          have HD5 := near_whole hN5 HD4.out HC.out.h1.2 HC.out.b1n
          obtain ⟨q1, q2, q3, q4, q5⟩ := put_done HC.out hM5 HNC5 HR5 HD5 (.int .i64 k') (.int .i64 m') (.string t') (.slice b1 e1 g1) (.slice b2 e2 g2)
          have HX6 := Lib.hid (q5 _ _ hX5)
          have hfn : (updN fr d ⟨(fr d).obj, (fr d).keys, (fr d).kids ++ [x]⟩ d).node = (Fr.mk (fr d).obj (fr d).keys ((fr d).kids ++ [x])).node := by rw [updN_same]
          rw [hfn] at HX6
          have HRI : Hid (RI c (.follow (Fr.mk (fr d).obj (fr d).keys ((fr d).kids ++ [x])).node) (p1 + 1) n d (updN fr d ⟨(fr d).obj, (fr d).keys, (fr d).kids ++ [x]⟩) F5 P5 ⟨k', m', t', b1, e1, g1, b2, e2, g2⟩ (((((w5.setCell ⟨c.b1, 0, none⟩ (.int .i64 k')).setCell ⟨c.b1, 1, none⟩ (.int .i64 m')).setCell ⟨c.b1, 2, none⟩ (.string t')).setCell ⟨c.b1, 3, none⟩ (.slice b1 e1 g1)).setCell ⟨c.b1, 4, none⟩ (.slice b2 e2 g2))) :=
            Lib.hid ⟨q1, q2, q3, q4, by have := HUP.out; omega, by omega, HI.out.nb, fun i hi => by
              rw [updN_other _ _ (by omega)]
              have := HI.out.kb i (by omega)
              omega, by
              rw [HTL.out, stk_upd _ _ _ _ (Nat.le_refl _)]; exact HRUN2.out⟩
          have HKD2 : Hid (∀ i, i < d → (updN fr d ⟨(fr d).obj, (fr d).keys, (fr d).kids ++ [x]⟩ i).kids.length + 1 ≤ p1 + 1) := Lib.hid (fun i hi => by
            rw [updN_other _ _ (by omega)]
            have := HKD.out i (by omega)
            omega)
          have d0 := HD5.cell 0
          have d1 := HD5.cell 1
          have d2 := HD5.cell 2
          have d3 := HD5.cell 3
          have d4 := HD5.cell 4
          simp only [List.getElem?_cons_zero, List.getElem?_cons_succ] at d0 d1 d2 d3 d4
          have y0 := HD5.frozen 0
          have y1 := HD5.frozen 1
          have y2 := HD5.frozen 2
          have y3 := HD5.frozen 3
          have y4 := HD5.frozen 4
          clear q1 q2 q3 q4 q5 hX5 hM5 hN5 HNC5 HR5 HD5 hfn
          go_wp2
          go_step3
          exact ⟨(by decide : 1 < 3), ⟨⟨rfl, rfl, rfl, rfl, rfl, rfl⟩, _, _, _, _, _, _, _, _, HRI.out, HX6.out, HKD2.out⟩, mu_lt HI.out.mem HRI.out.mem (by omega) HRI.out.pb _ _⟩
        · have hqI : ¬ ((cc : Int) = (cl : Int)) := by omega
          have hqn : ¬ (hd u = (fr d).close) := by rw [HCC.out, HCL.out]; exact hq
          by_cases h44 : cc = 44
          · have h44I : ((cc : Int) == 44) = true := by rw [h44]; rfl
            have hrun := HRUN.out.next (by unfold jsonP.step; dsimp only [jsonI.stk]; rw [HU1.out, if_neg HUL.out, if_neg hqn, if_pos (HCC.out.trans h44)])
            have HRUN2 := Lib.hid hrun
            obtain ⟨e0, e1, e2, e3, e4⟩ := HM4.out.field
            have z1 := e4 1
            have hM5 : RM (w4.setCell ⟨c.rb, 1, none⟩ (.int .i64 ((p1 : Int) + 1))) c.B c.rb c.s (p1 + 1) n (d + 1) (updN fr d ⟨(fr d).obj, (fr d).keys, (fr d).kids ++ [x]⟩) F3 P := HM4.out.setP (p1 + 1)
            have hN5 : Near c.B c.rb w4 (w4.setCell ⟨c.rb, 1, none⟩ (.int .i64 ((p1 : Int) + 1))) := (Near.refl _ _ _).set 1 _
            have HWI := Lib.hid (within_any _ c.B c.rb c.s (p1 + 1) n d _ F3 P hM5 (by omega))
            have HNC5 := Lib.hid (HNC4.out.trans (near_sub hN5 HC.out.bcb))
            have HR5 := Lib.hid (near_whole hN5 HR4.out HC.out.h0.2 HC.out.b0n)
            have HD5 := Lib.hid (near_whole hN5 HD4.out HC.out.h1.2 HC.out.b1n)
            have hpI : (p1 : Int) + 1 ≤ 1000000 := by have := HUP.out; have := HC.out.hs; omega
            have hpI0 : (0 : Int) ≤ (p1 : Int) := by omega
            rw [show kindOf (updN fr d ⟨(fr d).obj, (fr d).keys, (fr d).kids ++ [x]⟩ d) = kindOf (fr d) from by rw [updN_same]; rfl] at HWI
            have HKB : Hid (∀ i, i < d + 1 → (updN fr d ⟨(fr d).obj, (fr d).keys, (fr d).kids ++ [x]⟩ i).keys.length ≤ p1 + 1 ∧ (updN fr d ⟨(fr d).obj, (fr d).keys, (fr d).kids ++ [x]⟩ i).kids.length ≤ p1 + 1) := Lib.hid (fun i hi => by
              have h1 := HI.out.kb i hi
              have h2 := HKD.out i hi
              by_cases e : i = d
              · subst e; rw [updN_same]; dsimp only; rw [List.length_append]; simp; omega
              · rw [updN_other _ _ e]; omega)
            clear hrun hM5 hN5 e0 e2 e3 e4 HM4 HNC4 HR4 HD4 HBW4 HG4 hqn hq h44
            have hqb : ((cc : Int) == (cl : Int)) = false := by simpa using hqI
            clear hqI
            by_cases ho : (fr d).obj = true
            · have hk7 : kindOf (fr d) = 7 := by unfold kindOf; rw [ho]; rfl
              rw [hk7] at HWI
              rw [ho] at HRUN2
              have HHO := Lib.hid ho
              clear hk7 ho
              go_wp2_with fail
              refine HWI.out.mono ?_
              rintro e w6 ⟨rfl, hM6, hN6⟩
              have HRI : Hid (RI c .key (p1 + 1) n (d + 1) (updN fr d ⟨(fr d).obj, (fr d).keys, (fr d).kids ++ [x]⟩) F3 P ⟨k, m, t, aa1, nn1, cc1, aa2, nn2, cc2⟩ w6) :=
                Lib.hid ⟨hM6, HNC5.out.trans (near_sub hN6 HC.out.bcb), near_whole hN6 HR5.out HC.out.h0.2 HC.out.b0n, near_whole hN6 HD5.out HC.out.h1.2 HC.out.b1n, by have := HUP.out; omega, HI.out.db, HI.out.nb, HKB.out, by
                  rw [HTL.out, stk_top, HHO.out]; have h := HRUN2.out; rw [if_pos trivial] at h; exact h⟩
              clear hM6 hN6 HWI
              go_wp2
              go_step3
              exact ⟨(by decide : 2 < 3), ⟨⟨rfl, rfl, rfl, rfl, rfl, rfl⟩, _, _, _, _, _, _, _, HRI.out, by rw [updN_same]; exact HHO.out⟩, mu_lt HI.out.mem HRI.out.mem (by omega) HRI.out.pb _ _⟩
            · have ho' : (fr d).obj = false := by simpa using ho
              have hk6 : kindOf (fr d) = 6 := by unfold kindOf; rw [ho']; rfl
              rw [hk6] at HWI
              rw [ho'] at HRUN2
              have HHO := Lib.hid ho'
              clear hk6 ho ho'
              go_wp2_with fail
              refine HWI.out.mono ?_
              rintro e w6 ⟨rfl, hM6, hN6⟩
              have HRI : Hid (RI c .value (p1 + 1) n (d + 1) (updN fr d ⟨(fr d).obj, (fr d).keys, (fr d).kids ++ [x]⟩) F3 P ⟨k, m, t, aa1, nn1, cc1, aa2, nn2, cc2⟩ w6) :=
                Lib.hid ⟨hM6, HNC5.out.trans (near_sub hN6 HC.out.bcb), near_whole hN6 HR5.out HC.out.h0.2 HC.out.b0n, near_whole hN6 HD5.out HC.out.h1.2 HC.out.b1n, by have := HUP.out; omega, HI.out.db, HI.out.nb, HKB.out, by
                  rw [HTL.out, stk_top, HHO.out]; have h := HRUN2.out; rw [if_neg (by decide)] at h; exact h⟩
              clear hM6 hN6 HWI
              go_wp2
              go_step3
              exact ⟨(by decide : 0 < 3), ⟨⟨rfl, rfl, rfl, rfl, rfl, rfl⟩, _, _, _, _, _, _, _, HRI.out⟩, mu_lt HI.out.mem HRI.out.mem (by omega) HRI.out.pb _ _⟩
          · have h44I : ¬ ((cc : Int) = 44) := by omega
            have hr0 : c.r0 = .err 1 := HRUN.out.fin' (by unfold jsonP.step; dsimp only [jsonI.stk]; rw [HU1.out, if_neg HUL.out, if_neg hqn, if_neg (by rw [HCC.out]; exact h44)])
            have HR0 := Lib.hid hr0
            have hsy : w4.cell? ⟨2, 0, none⟩ = some (ev (c.ad 0)) := HG4.out.err.glob 0 (by decide)
            have a0 := HR4.out.cell 0
            have a1 := HR4.out.cell 1
            have a2 := HR4.out.cell 2
            have a3 := HR4.out.cell 3
            have a4 := HR4.out.cell 4
            have d0 := HD4.out.cell 0
            have d1 := HD4.out.cell 1
            have d2 := HD4.out.cell 2
            have d3 := HD4.out.cell 3
            have d4 := HD4.out.cell 4
            simp only [List.getElem?_cons_zero, List.getElem?_cons_succ] at a0 a1 a2 a3 a4 d0 d1 d2 d3 d4
            have y0 := HR4.out.frozen 0
            have y1 := HR4.out.frozen 1
            have y2 := HR4.out.frozen 2
            have y3 := HR4.out.frozen 3
            have y4 := HR4.out.frozen 4
            clear hr0 hqn
            go_wp2
            go_region
            go_wp2
            rw [jumps_ret]
            have hW5 := set5_whole HR4.out (.int .i64 k) (.int .i64 m) (.string t) (.slice aa1 nn1 cc1) (.slice aa2 nn2 cc2)
            have hN5 := fin_near HC.out HNC4.out (.int .i64 k) (.int .i64 m) (.string t) (.slice aa1 nn1 cc1) (.slice aa2 nn2 cc2)
            replace hW5 := drew_whole hW5
            replace hN5 := drew_near hN5 (by have := HBW4.out; simpa using this)
            generalize (((((w4.setCell ⟨c.b0, 0, none⟩ (.int .i64 k)).setCell ⟨c.b0, 1, none⟩ (.int .i64 m)).setCell ⟨c.b0, 2, none⟩ (.string t)).setCell ⟨c.b0, 3, none⟩ (.slice aa1 nn1 cc1)).setCell ⟨c.b0, 4, none⟩ (.slice aa2 nn2 cc2)).drew = w9 at *
            obtain ⟨k0, k1, k2, k3, k4⟩ := whole5 hW5
            refine bodyPost_ret (v := .tuple #[.agg #[.int .i64 k, .int .i64 m, .string t, .slice aa1 nn1 cc1, .slice aa2 nn2 cc2], ev (c.ad 0)]) (by simp [results, Tryd.results24, go_sem, k0, k1, k2, k3, k4]) rfl ?_
            exact ⟨⟨k, m, t, aa1, nn1, cc1, aa2, nn2, cc2⟩, 1, by rw [HE.out], hN5, by rw [HR0.out]⟩
  · intro a w hJ H2
    obtain ⟨hF, p, n, d, fr, F, P, v, hI⟩ := hJ
    refine Fm_elim hF ?_
    intro f
    clear hF
    have HI := Lib.hid hI
    have HC := Lib.hid hc
    have HBL := Lib.hid (blanks_any w c.B c.rb c.s p n d fr F P hI.mem hI.pb hc.hs)
    have hb01 : c.b0 ≠ c.b1 := hc.ne
    have hdb := hI.db
    obtain ⟨k, m, t, aa1, nn1, cc1, aa2, nn2, cc2⟩ := v
    clear hI hc hw1 hb0 hst
    go_wp2_with fail
    refine HBL.out.mono ?_
    rintro e w2 ⟨he, p1, hp1, hp1s, hdr1, hM2, hN2⟩
    have HM2 := Lib.hid hM2
    have HDR := Lib.hid hdr1
    have HR2 := Lib.hid (near_whole hN2 HI.out.res HC.out.h0.2 HC.out.b0n)
    have HD2 := Lib.hid (near_whole hN2 HI.out.don HC.out.h1.2 HC.out.b1n)
    have HNC2 := Lib.hid (HI.out.near.trans (near_sub hN2 HC.out.bcb))
    have HRUN := Lib.hid HI.out.run
    generalize hu1 : bs (c.s.data.toList.drop p) = u at *
    have HU1 := Lib.hid hu1
    generalize hok : decide (u ≠ []) = okb at he
    generalize hcc : hd u = cc at he
    have HOK := Lib.hid hok
    have HCC := Lib.hid hcc
    have HBW2 : Hid (c.Bc ≤ w2.heap.size) := Lib.hid (Nat.le_trans HC.out.bcb hM2.hB.2)
    have HG2 := Lib.hid (HC.out.glb.near HNC2.out HC.out.rbc)
    clear HBL hM2 hN2 hdr1 hu1 hok hcc
    cases okb
    · subst he
      have hul : u = [] := by have := HOK.out; simpa using this
      have hr0 : c.r0 = .err 1 := HRUN.out.fin' (by unfold jsonP.step; dsimp only; rw [HU1.out, if_pos hul])
      have HR0 := Lib.hid hr0
      have HE : Hid (intsC.errV c.ad 1 = ev (c.ad 0)) := Lib.hid rfl
      have hg0 := HC.out.low 0 (by decide)
      have hbg0 : c.b0 ≠ 2 := by intro e; have h2 := HC.out.h0.1; rw [e] at h2; exact absurd hg0 (by show ¬ 2 < c.Bc; omega)
      have hgb0 : ¬ (2 = c.b0) := fun e => hbg0 e.symm
      clear hg0
      have hsy : w2.cell? ⟨2, 0, none⟩ = some (ev (c.ad 0)) := HG2.out.err.glob 0 (by decide)
      have a0 := HR2.out.cell 0
      have a1 := HR2.out.cell 1
      have a2 := HR2.out.cell 2
      have a3 := HR2.out.cell 3
      have a4 := HR2.out.cell 4
      have d0 := HD2.out.cell 0
      have d1 := HD2.out.cell 1
      have d2 := HD2.out.cell 2
      have d3 := HD2.out.cell 3
      have d4 := HD2.out.cell 4
      simp only [List.getElem?_cons_zero, List.getElem?_cons_succ] at a0 a1 a2 a3 a4 d0 d1 d2 d3 d4
      have y0 := HR2.out.frozen 0
      have y1 := HR2.out.frozen 1
      have y2 := HR2.out.frozen 2
      have y3 := HR2.out.frozen 3
      have y4 := HR2.out.frozen 4
      clear hul hr0 H2
      go_wp2
      go_region
      go_wp2
      rw [jumps_ret]
      have hW5 := set5_whole HR2.out (.int .i64 k) (.int .i64 m) (.string t) (.slice aa1 nn1 cc1) (.slice aa2 nn2 cc2)
      have hN5 := fin_near HC.out HNC2.out (.int .i64 k) (.int .i64 m) (.string t) (.slice aa1 nn1 cc1) (.slice aa2 nn2 cc2)
      replace hW5 := drew_whole hW5
      replace hN5 := drew_near hN5 (by have := HBW2.out; simpa using this)
      generalize (((((w2.setCell ⟨c.b0, 0, none⟩ (.int .i64 k)).setCell ⟨c.b0, 1, none⟩ (.int .i64 m)).setCell ⟨c.b0, 2, none⟩ (.string t)).setCell ⟨c.b0, 3, none⟩ (.slice aa1 nn1 cc1)).setCell ⟨c.b0, 4, none⟩ (.slice aa2 nn2 cc2)).drew = w9 at *
      obtain ⟨k0, k1, k2, k3, k4⟩ := whole5 hW5
      refine bodyPost_ret (v := .tuple #[.agg #[.int .i64 k, .int .i64 m, .string t, .slice aa1 nn1 cc1, .slice aa2 nn2 cc2], ev (c.ad 0)]) (by simp [results, Tryd.results24, go_sem, k0, k1, k2, k3, k4]) rfl ?_
      exact ⟨⟨k, m, t, aa1, nn1, cc1, aa2, nn2, cc2⟩, 1, by rw [HE.out], hN5, by rw [HR0.out]⟩
    · have hul : u ≠ [] := by have := HOK.out; simpa using this
      have HUL := Lib.hid hul
      have HUP : Hid (p1 < c.s.size) := Lib.hid (by
        have h1 : u.length = c.s.size - p1 := by rw [← HDR.out, List.length_drop, Array.length_toList, ByteArray.size_data]
        have h2 : 0 < u.length := List.length_pos_iff.2 hul
        omega)
      have HTL : Hid (c.s.data.toList.drop (p1 + 1) = u.tail) := Lib.hid (by rw [← HDR.out, List.tail_drop])
      obtain ⟨g0, g1, g2, g3, g4⟩ := HM2.out.field
      have z2 := g4 2
      clear hul g0 g1 g4
      by_cases h2 : n = 20000
      · subst he
        have hr0 : c.r0 = .err 3 := HRUN.out.fin' (by unfold jsonP.step; dsimp only; rw [HU1.out, if_neg HUL.out, if_pos h2])
        have HR0 := Lib.hid hr0
        have HE : Hid (intsC.errV c.ad 3 = ev (c.ad 2)) := Lib.hid rfl
        have hnb : ((n : Int) == 20000) = true := by rw [h2]; rfl
        have hg2 := HC.out.low 2 (by decide)
        have hbg2 : c.b0 ≠ 4 := by intro e; have h2 := HC.out.h0.1; rw [e] at h2; exact absurd hg2 (by show ¬ 4 < c.Bc; omega)
        have hgb2 : ¬ (4 = c.b0) := fun e => hbg2 e.symm
        clear hg2
        have hsy : w2.cell? ⟨4, 0, none⟩ = some (ev (c.ad 2)) := HG2.out.err.glob 2 (by decide)
        have a0 := HR2.out.cell 0
        have a1 := HR2.out.cell 1
        have a2 := HR2.out.cell 2
        have a3 := HR2.out.cell 3
        have a4 := HR2.out.cell 4
        have d0 := HD2.out.cell 0
        have d1 := HD2.out.cell 1
        have d2 := HD2.out.cell 2
        have d3 := HD2.out.cell 3
        have d4 := HD2.out.cell 4
        simp only [List.getElem?_cons_zero, List.getElem?_cons_succ] at a0 a1 a2 a3 a4 d0 d1 d2 d3 d4
        have y0 := HR2.out.frozen 0
        have y1 := HR2.out.frozen 1
        have y2 := HR2.out.frozen 2
        have y3 := HR2.out.frozen 3
        have y4 := HR2.out.frozen 4
        clear hr0 h2 H2
        go_wp2
        go_region
        go_wp2
        rw [jumps_ret]
        have hW5 := set5_whole HR2.out (.int .i64 k) (.int .i64 m) (.string t) (.slice aa1 nn1 cc1) (.slice aa2 nn2 cc2)
        have hN5 := fin_near HC.out HNC2.out (.int .i64 k) (.int .i64 m) (.string t) (.slice aa1 nn1 cc1) (.slice aa2 nn2 cc2)
        replace hW5 := drew_whole hW5
        replace hN5 := drew_near hN5 (by have := HBW2.out; simpa using this)
        generalize (((((w2.setCell ⟨c.b0, 0, none⟩ (.int .i64 k)).setCell ⟨c.b0, 1, none⟩ (.int .i64 m)).setCell ⟨c.b0, 2, none⟩ (.string t)).setCell ⟨c.b0, 3, none⟩ (.slice aa1 nn1 cc1)).setCell ⟨c.b0, 4, none⟩ (.slice aa2 nn2 cc2)).drew = w9 at *
        obtain ⟨k0, k1, k2, k3, k4⟩ := whole5 hW5
        refine bodyPost_ret (v := .tuple #[.agg #[.int .i64 k, .int .i64 m, .string t, .slice aa1 nn1 cc1, .slice aa2 nn2 cc2], ev (c.ad 2)]) (by simp [results, Tryd.results24, go_sem, k0, k1, k2, k3, k4]) rfl ?_
        exact ⟨⟨k, m, t, aa1, nn1, cc1, aa2, nn2, cc2⟩, 3, by rw [HE.out], hN5, by rw [HR0.out]⟩
      · have hnb : ((n : Int) == 20000) = false := by simp; omega
        have hnI : (n : Int) + 1 ≤ 20000 := by have := HI.out.nb; omega
        have hnI0 : (0 : Int) ≤ (n : Int) := by omega
        have HN2 := Lib.hid h2
        clear h2
        have hM3 : RM (w2.setCell ⟨c.rb, 2, none⟩ (.int .i64 ((n : Int) + 1))) c.B c.rb c.s p1 (n + 1) d fr F P := HM2.out.setN (n + 1)
        have hN3 : Near c.B c.rb w2 (w2.setCell ⟨c.rb, 2, none⟩ (.int .i64 ((n : Int) + 1))) := (Near.refl _ _ _).set 2 _
        have HW3 : ∃ w3, w3 = w2.setCell ⟨c.rb, 2, none⟩ (.int .i64 ((n : Int) + 1)) := ⟨_, rfl⟩
        obtain ⟨w3, hw3⟩ := HW3
        rw [← hw3] at hM3 hN3
        have HM3 := Lib.hid hM3
        have HR3 := Lib.hid (near_whole hN3 HR2.out HC.out.h0.2 HC.out.b0n)
        have HD3 := Lib.hid (near_whole hN3 HD2.out HC.out.h1.2 HC.out.b1n)
        have HNC3 := Lib.hid (HNC2.out.trans (near_sub hN3 HC.out.bcb))
        have HBW3 : Hid (c.Bc ≤ w3.heap.size) := Lib.hid (Nat.le_trans HC.out.bcb HM3.out.hB.2)
        have HG3 := Lib.hid (HC.out.glb.near HNC3.out HC.out.rbc)
        have HW3 := Lib.hid hw3
        clear hM3 hN3 HBW2 HG2 hw3
        by_cases h91 : cc = 91
        · rw [h91, show ((91 : Nat) : Int) = 91 from rfl] at he
          rw [h91] at HCC
          subst he
          clear h91
          have hop : ∃ ao cp, (F .opn).val = .slice ao d cp := by
            obtain ⟨ov, ho⟩ := HM2.out.opn
            have hk := HM2.out.own.1 .opn
            rw [ho] at hk ⊢
            exact row_form hk
          obtain ⟨ao, cp, hao⟩ := hop
          rw [hao] at g3
          clear hao
          by_cases h32 : d = 32
          · have hr0 : c.r0 = .err 2 := HRUN.out.fin' (by unfold jsonP.step; dsimp only; rw [HU1.out, if_neg HUL.out, if_neg HN2.out, HCC.out, if_pos (.inl rfl), if_pos (by rw [stk_len]; exact h32)])
            have HR0 := Lib.hid hr0
            have HE : Hid (intsC.errV c.ad 2 = ev (c.ad 1)) := Lib.hid rfl
            have hdb32 : ((d : Int) == 32) = true := by rw [h32]; rfl
            have hg1 := HC.out.low 1 (by decide)
            have hbg1 : c.b0 ≠ 3 := by intro e; have h2 := HC.out.h0.1; rw [e] at h2; exact absurd hg1 (by show ¬ 3 < c.Bc; omega)
            have hgb1 : ¬ (3 = c.b0) := fun e => hbg1 e.symm
            clear hg1
            have hsy : w3.cell? ⟨3, 0, none⟩ = some (ev (c.ad 1)) := HG3.out.err.glob 1 (by decide)
            have a0 := HR3.out.cell 0
            have a1 := HR3.out.cell 1
            have a2 := HR3.out.cell 2
            have a3 := HR3.out.cell 3
            have a4 := HR3.out.cell 4
            have d0 := HD3.out.cell 0
            have d1 := HD3.out.cell 1
            have d2 := HD3.out.cell 2
            have d3 := HD3.out.cell 3
            have d4 := HD3.out.cell 4
            simp only [List.getElem?_cons_zero, List.getElem?_cons_succ] at a0 a1 a2 a3 a4 d0 d1 d2 d3 d4
            have y0 := HR3.out.frozen 0
            have y1 := HR3.out.frozen 1
            have y2 := HR3.out.frozen 2
            have y3 := HR3.out.frozen 3
            have y4 := HR3.out.frozen 4
            have hw3 := HW3.out
            subst hw3
            clear hr0 h32 H2 hdb
            go_wp2
            go_region
            go_wp2
            have hw4 : ∃ w4, w4 = w2.setCell ⟨c.rb, 2, none⟩ (.int .i64 ((n : Int) + 1)) := ⟨_, rfl⟩
            obtain ⟨w4, hw4⟩ := hw4
            rw [← hw4] at HR3 HNC3 HBW3 ⊢
            rw [jumps_ret]
            have hW5 := set5_whole HR3.out (.int .i64 k) (.int .i64 m) (.string t) (.slice aa1 nn1 cc1) (.slice aa2 nn2 cc2)
            have hN5 := fin_near HC.out HNC3.out (.int .i64 k) (.int .i64 m) (.string t) (.slice aa1 nn1 cc1) (.slice aa2 nn2 cc2)
            replace hW5 := drew_whole hW5
            replace hN5 := drew_near hN5 (by have := HBW3.out; simpa using this)
            generalize (((((w4.setCell ⟨c.b0, 0, none⟩ (.int .i64 k)).setCell ⟨c.b0, 1, none⟩ (.int .i64 m)).setCell ⟨c.b0, 2, none⟩ (.string t)).setCell ⟨c.b0, 3, none⟩ (.slice aa1 nn1 cc1)).setCell ⟨c.b0, 4, none⟩ (.slice aa2 nn2 cc2)).drew = w9 at *
            obtain ⟨k0, k1, k2, k3, k4⟩ := whole5 hW5
            refine bodyPost_ret (v := .tuple #[.agg #[.int .i64 k, .int .i64 m, .string t, .slice aa1 nn1 cc1, .slice aa2 nn2 cc2], ev (c.ad 1)]) (by simp [results, Tryd.results24, go_sem, k0, k1, k2, k3, k4]) rfl ?_
            exact ⟨⟨k, m, t, aa1, nn1, cc1, aa2, nn2, cc2⟩, 2, by rw [HE.out], hN5, by rw [HR0.out]⟩
          · have hdb32 : ((d : Int) == 32) = false := by simp; omega
            have HD32 := Lib.hid h32
            have hdl : d < 32 := by omega
            clear h32 hdb
            have HEN := Lib.hid (enter_arr w3 c.B c.rb c.s p1 (n + 1) d fr F P HM3.out (by omega) (by have := HC.out.hs; omega))
            go_wp2_with fail
            rw [← HW3.out]
            refine HEN.out.mono ?_
            rintro e w4 ⟨rfl, F4, hM4, hN4⟩
            have HM4 := Lib.hid hM4
            have HR4 := Lib.hid (near_whole hN4 HR3.out HC.out.h0.2 HC.out.b0n)
            have HD4 := Lib.hid (near_whole hN4 HD3.out HC.out.h1.2 HC.out.b1n)
            have HNC4 := Lib.hid (HNC3.out.trans (near_sub hN4 HC.out.bcb))
            have HBW4 : Hid (c.Bc ≤ w4.heap.size) := Lib.hid (Nat.le_trans HC.out.bcb HM4.out.hB.2)
            have HBL2 := Lib.hid (blanks_any w4 c.B c.rb c.s (p1 + 1) (n + 1) (d + 1) _ F4 P hM4 (by have := HUP.out; omega) HC.out.hs)
            clear HEN hM4 hN4 HBW3 g3
            go_wp2_with fail
            refine HBL2.out.mono ?_
            rintro e w5 ⟨he, p2, hp2, hp2s, hdr2, hM5, hN5⟩
            rw [HTL.out] at he hdr2
            have HP2 : Hid (p1 + 1 ≤ p2 ∧ p2 ≤ c.s.size) := Lib.hid ⟨hp2, hp2s⟩
            have HDR2 := Lib.hid hdr2
            have HM5 := Lib.hid hM5
            have HR5 := Lib.hid (near_whole hN5 HR4.out HC.out.h0.2 HC.out.b0n)
            have HD5 := Lib.hid (near_whole hN5 HD4.out HC.out.h1.2 HC.out.b1n)
            have HNC5 := Lib.hid (HNC4.out.trans (near_sub hN5 HC.out.bcb))
            have HBW5 : Hid (c.Bc ≤ w5.heap.size) := Lib.hid (Nat.le_trans HC.out.bcb HM5.out.hB.2)
            generalize hv : bs u.tail = v at *
            have HV := Lib.hid hv
            generalize hok2 : decide (v ≠ []) = ok2 at he
            generalize hcc2 : hd v = ca at he
            subst he
            have HOK2 := Lib.hid hok2
            have HCA := Lib.hid hcc2
            clear HBL2 hM5 hN5 hdr2 hv hok2 hcc2 hp2 hp2s HBW4
            cases ok2
            · have hvn : v = [] := by have := HOK2.out; simpa using this
              have HRUN2 := Lib.hid (HRUN.out.next (by unfold jsonP.step; dsimp only; rw [HU1.out, if_neg HUL.out, if_neg HN2.out, HCC.out, if_pos (.inl rfl), if_neg (by rw [stk_len]; exact HD32.out), show decide ((91 : Nat) = 123) = false from rfl, HV.out, if_neg (fun h => h.1 hvn)]))
              clear hvn
              have HWI := Lib.hid (within_any w5 c.B c.rb c.s p2 (n + 1) d _ F4 P HM5.out (by omega))
              rw [show kindOf (updN fr d ⟨false, [], []⟩ d) = 6 from by rw [updN_same]; rfl] at HWI
              go_wp2_with fail
              refine HWI.out.mono ?_
              rintro e w7 ⟨rfl, hM7, hN7⟩
              have HRI : Hid (RI c .value p2 (n + 1) (d + 1) (updN fr d ⟨false, [], []⟩) F4 P ⟨k, m, t, aa1, nn1, cc1, aa2, nn2, cc2⟩ w7) :=
                Lib.hid ⟨hM7, HNC5.out.trans (near_sub hN7 HC.out.bcb), near_whole hN7 HR5.out HC.out.h0.2 HC.out.b0n, near_whole hN7 HD5.out HC.out.h1.2 HC.out.b1n, HP2.out.2, by omega, by have := HI.out.nb; omega, fun i hi => by
                  have := HP2.out.1
                  by_cases e : i = d
                  · subst e; rw [updN_same]; exact ⟨Nat.zero_le _, Nat.zero_le _⟩
                  · rw [updN_other _ _ e]; have := HI.out.kb i (by omega); omega, by
                  rw [HDR2.out, stk_top]; exact HRUN2.out⟩
              clear hM7 hN7 HWI
              go_wp2
              go_step3
              exact ⟨(by decide : 0 < 3), ⟨⟨rfl, rfl, rfl, rfl, rfl, rfl⟩, _, _, _, _, _, _, _, HRI.out⟩, mu_lt HI.out.mem HRI.out.mem (by have := HP2.out.1; omega) HRI.out.pb _ _⟩
            · have hvn : v ≠ [] := by have := HOK2.out; simpa using this
              have HCL := Lib.hid (closing_any w5 c.B c.rb c.s p2 (n + 1) d _ F4 P HM5.out (by omega))
              have hcv : (updN fr d ⟨false, [], []⟩ d).close = 93 := by rw [updN_same]; rfl
              rw [hcv, show ((93 : Nat) : Int) = 93 from rfl] at HCL
              have HVP : Hid (p2 < c.s.size) := Lib.hid (by
                have h1 : v.length = c.s.size - p2 := by rw [← HDR2.out, List.length_drop, Array.length_toList, ByteArray.size_data]
                have h2 : 0 < v.length := List.length_pos_iff.2 hvn
                omega)
              have HVN := Lib.hid hvn
              clear hvn hcv
              go_wp2_with fail
              refine HCL.out.mono ?_
              rintro e w6 ⟨rfl, hM6, hN6⟩
              have HM6 := Lib.hid hM6
              have HR6 := Lib.hid (near_whole hN6 HR5.out HC.out.h0.2 HC.out.b0n)
              have HD6 := Lib.hid (near_whole hN6 HD5.out HC.out.h1.2 HC.out.b1n)
              have HNC6 := Lib.hid (HNC5.out.trans (near_sub hN6 HC.out.bcb))
              have HBW6 : Hid (c.Bc ≤ w6.heap.size) := Lib.hid (Nat.le_trans HC.out.bcb HM6.out.hB.2)
              clear hM6 hN6 HCL HBW5
              by_cases hcl : ca = 93
              · have hclb : ((ca : Int) == 93) = true := by rw [hcl]; rfl
                have HRUN2 := Lib.hid (HRUN.out.next (by unfold jsonP.step; dsimp only; rw [HU1.out, if_neg HUL.out, if_neg HN2.out, HCC.out, if_pos (.inl rfl), if_neg (by rw [stk_len]; exact HD32.out), show decide ((91 : Nat) = 123) = false from rfl, HV.out, if_pos ⟨HVN.out, HCA.out.trans hcl⟩]))
                have HLV := Lib.hid (leave_any w6 c.B c.rb c.s p2 (n + 1) d _ F4 P HM6.out (by omega) (by have := HC.out.hs; have := HVP.out; omega) (by rw [updN_same]; exact ⟨Nat.zero_le _, Nat.zero_le _⟩))
                clear hcl
                go_wp2_with fail
                refine HLV.out.mono ?_
                rintro e w7 ⟨cs, F5, P5, he, hM5, hX5, hN5⟩
                have hcf : ∃ k' m' t' b1 e1 g1 b2 e2 g2, cs = #[.int .i64 k', .int .i64 m', .string t', .slice b1 e1 g1, .slice b2 e2 g2] := by
                  obtain ⟨k', m', t', b1, e1, g1, b2, e2, g2, h⟩ := node_form hX5
                  exact ⟨k', m', t', b1, e1, g1, b2, e2, g2, by cases cs; simpa using h⟩
                obtain ⟨k', m', t', b1, e1, g1, b2, e2, g2, hcs⟩ := hcf
                rw [hcs] at he hX5
                subst he
                have HNC7 := HNC6.out.trans (near_sub hN5 HC.out.bcb)
                have HR7 := near_whole hN5 HR6.out HC.out.h0.2 HC.out.b0n
                have HD7 := near_whole hN5 HD6.out HC.out.h1.2 HC.out.b1n
                obtain ⟨q1, q2, q3, q4, q5⟩ := put_done HC.out hM5 HNC7 HR7 HD7 (.int .i64 k') (.int .i64 m') (.string t') (.slice b1 e1 g1) (.slice b2 e2 g2)
                have HX6 := Lib.hid (q5 _ _ hX5)
                rw [updN_same] at HX6
                have HRI : Hid (RI c (.follow (Fr.mk false [] []).node) (p2 + 1) (n + 1) d (updN fr d ⟨false, [], []⟩) F5 P5 ⟨k', m', t', b1, e1, g1, b2, e2, g2⟩ (((((w7.setCell ⟨c.b1, 0, none⟩ (.int .i64 k')).setCell ⟨c.b1, 1, none⟩ (.int .i64 m')).setCell ⟨c.b1, 2, none⟩ (.string t')).setCell ⟨c.b1, 3, none⟩ (.slice b1 e1 g1)).setCell ⟨c.b1, 4, none⟩ (.slice b2 e2 g2))) :=
                  Lib.hid ⟨q1, q2, q3, q4, by have := HVP.out; omega, by omega, by have := HI.out.nb; omega, fun i hi => by
                    rw [updN_other _ _ (by omega)]
                    have := HI.out.kb i (by omega)
                    have := HP2.out.1
                    omega, by
                    rw [stk_upd _ _ _ _ (Nat.le_refl _), ← List.tail_drop, HDR2.out]; exact HRUN2.out⟩
                have HKD2 : Hid (∀ i, i < d → (updN fr d ⟨false, [], []⟩ i).kids.length + 1 ≤ p2 + 1) := Lib.hid (fun i hi => by
                  rw [updN_other _ _ (by omega)]
                  have := HI.out.kb i (by omega)
                  have := HP2.out.1
                  omega)
                have d0 := HD7.cell 0
                have d1 := HD7.cell 1
                have d2 := HD7.cell 2
                have d3 := HD7.cell 3
                have d4 := HD7.cell 4
                simp only [List.getElem?_cons_zero, List.getElem?_cons_succ] at d0 d1 d2 d3 d4
                have y0 := HD7.frozen 0
                have y1 := HD7.frozen 1
                have y2 := HD7.frozen 2
                have y3 := HD7.frozen 3
                have y4 := HD7.frozen 4
                clear q1 q2 q3 q4 q5 hX5 hM5 hN5 HNC7 HR7 HD7
                go_wp2
                go_step3
                exact ⟨(by decide : 1 < 3), ⟨⟨rfl, rfl, rfl, rfl, rfl, rfl⟩, _, _, _, _, _, _, _, _, HRI.out, HX6.out, HKD2.out⟩, mu_lt HI.out.mem HRI.out.mem (by have := HP2.out.1; omega) HRI.out.pb _ _⟩
              · have hclb : ((ca : Int) == 93) = false := by simp; omega
                have HRUN2 := Lib.hid (HRUN.out.next (by unfold jsonP.step; dsimp only; rw [HU1.out, if_neg HUL.out, if_neg HN2.out, HCC.out, if_pos (.inl rfl), if_neg (by rw [stk_len]; exact HD32.out), show decide ((91 : Nat) = 123) = false from rfl, HV.out, if_neg (fun h => hcl (HCA.out.symm.trans h.2))]))
                clear hcl
                have HWI := Lib.hid (within_any w6 c.B c.rb c.s p2 (n + 1) d _ F4 P HM6.out (by omega))
                rw [show kindOf (updN fr d ⟨false, [], []⟩ d) = 6 from by rw [updN_same]; rfl] at HWI
                go_wp2_with fail
                refine HWI.out.mono ?_
                rintro e w7 ⟨rfl, hM7, hN7⟩
                have HRI : Hid (RI c .value p2 (n + 1) (d + 1) (updN fr d ⟨false, [], []⟩) F4 P ⟨k, m, t, aa1, nn1, cc1, aa2, nn2, cc2⟩ w7) :=
                  Lib.hid ⟨hM7, HNC6.out.trans (near_sub hN7 HC.out.bcb), near_whole hN7 HR6.out HC.out.h0.2 HC.out.b0n, near_whole hN7 HD6.out HC.out.h1.2 HC.out.b1n, HP2.out.2, by omega, by have := HI.out.nb; omega, fun i hi => by
                    have := HP2.out.1
                    by_cases e : i = d
                    · subst e; rw [updN_same]; exact ⟨Nat.zero_le _, Nat.zero_le _⟩
                    · rw [updN_other _ _ e]; have := HI.out.kb i (by omega); omega, by
                    rw [HDR2.out, stk_top]; exact HRUN2.out⟩
                clear hM7 hN7 HWI
                go_wp2
                go_step3
                exact ⟨(by decide : 0 < 3), ⟨⟨rfl, rfl, rfl, rfl, rfl, rfl⟩, _, _, _, _, _, _, _, HRI.out⟩, mu_lt HI.out.mem HRI.out.mem (by have := HP2.out.1; omega) HRI.out.pb _ _⟩
        by_cases h123 : cc = 123
        · rw [h123, show ((123 : Nat) : Int) = 123 from rfl] at he
          rw [h123] at HCC
          subst he
          clear h123
          have hop : ∃ ao cp, (F .opn).val = .slice ao d cp := by
            obtain ⟨ov, ho⟩ := HM2.out.opn
            have hk := HM2.out.own.1 .opn
            rw [ho] at hk ⊢
            exact row_form hk
          obtain ⟨ao, cp, hao⟩ := hop
          rw [hao] at g3
          clear hao
          by_cases h32 : d = 32
          · have hr0 : c.r0 = .err 2 := HRUN.out.fin' (by unfold jsonP.step; dsimp only; rw [HU1.out, if_neg HUL.out, if_neg HN2.out, HCC.out, if_pos (.inr rfl), if_pos (by rw [stk_len]; exact h32)])
            have HR0 := Lib.hid hr0
            have HE : Hid (intsC.errV c.ad 2 = ev (c.ad 1)) := Lib.hid rfl
            have hdb32 : ((d : Int) == 32) = true := by rw [h32]; rfl
            have hg1 := HC.out.low 1 (by decide)
            have hbg1 : c.b0 ≠ 3 := by intro e; have h2 := HC.out.h0.1; rw [e] at h2; exact absurd hg1 (by show ¬ 3 < c.Bc; omega)
            have hgb1 : ¬ (3 = c.b0) := fun e => hbg1 e.symm
            clear hg1
            have hsy : w3.cell? ⟨3, 0, none⟩ = some (ev (c.ad 1)) := HG3.out.err.glob 1 (by decide)
            have a0 := HR3.out.cell 0
            have a1 := HR3.out.cell 1
            have a2 := HR3.out.cell 2
            have a3 := HR3.out.cell 3
            have a4 := HR3.out.cell 4
            have d0 := HD3.out.cell 0
            have d1 := HD3.out.cell 1
            have d2 := HD3.out.cell 2
            have d3 := HD3.out.cell 3
            have d4 := HD3.out.cell 4
            simp only [List.getElem?_cons_zero, List.getElem?_cons_succ] at a0 a1 a2 a3 a4 d0 d1 d2 d3 d4
            have y0 := HR3.out.frozen 0
            have y1 := HR3.out.frozen 1
            have y2 := HR3.out.frozen 2
            have y3 := HR3.out.frozen 3
            have y4 := HR3.out.frozen 4
            have hw3 := HW3.out
            subst hw3
            clear hr0 h32 H2 hdb
            go_wp2
            go_region
            go_wp2
            have hw4 : ∃ w4, w4 = w2.setCell ⟨c.rb, 2, none⟩ (.int .i64 ((n : Int) + 1)) := ⟨_, rfl⟩
            obtain ⟨w4, hw4⟩ := hw4
            rw [← hw4] at HR3 HNC3 HBW3 ⊢
            rw [jumps_ret]
            have hW5 := set5_whole HR3.out (.int .i64 k) (.int .i64 m) (.string t) (.slice aa1 nn1 cc1) (.slice aa2 nn2 cc2)
            have hN5 := fin_near HC.out HNC3.out (.int .i64 k) (.int .i64 m) (.string t) (.slice aa1 nn1 cc1) (.slice aa2 nn2 cc2)
            replace hW5 := drew_whole hW5
            replace hN5 := drew_near hN5 (by have := HBW3.out; simpa using this)
            generalize (((((w4.setCell ⟨c.b0, 0, none⟩ (.int .i64 k)).setCell ⟨c.b0, 1, none⟩ (.int .i64 m)).setCell ⟨c.b0, 2, none⟩ (.string t)).setCell ⟨c.b0, 3, none⟩ (.slice aa1 nn1 cc1)).setCell ⟨c.b0, 4, none⟩ (.slice aa2 nn2 cc2)).drew = w9 at *
            obtain ⟨k0, k1, k2, k3, k4⟩ := whole5 hW5
            refine bodyPost_ret (v := .tuple #[.agg #[.int .i64 k, .int .i64 m, .string t, .slice aa1 nn1 cc1, .slice aa2 nn2 cc2], ev (c.ad 1)]) (by simp [results, Tryd.results24, go_sem, k0, k1, k2, k3, k4]) rfl ?_
            exact ⟨⟨k, m, t, aa1, nn1, cc1, aa2, nn2, cc2⟩, 2, by rw [HE.out], hN5, by rw [HR0.out]⟩
          · have hdb32 : ((d : Int) == 32) = false := by simp; omega
            have HD32 := Lib.hid h32
            have hdl : d < 32 := by omega
            clear h32 hdb
            have HEN := Lib.hid (enter_obj w3 c.B c.rb c.s p1 (n + 1) d fr F P HM3.out (by omega) (by have := HC.out.hs; omega))
            go_wp2_with fail
            rw [← HW3.out]
            refine HEN.out.mono ?_
            rintro e w4 ⟨rfl, F4, hM4, hN4⟩
            have HM4 := Lib.hid hM4
            have HR4 := Lib.hid (near_whole hN4 HR3.out HC.out.h0.2 HC.out.b0n)
            have HD4 := Lib.hid (near_whole hN4 HD3.out HC.out.h1.2 HC.out.b1n)
            have HNC4 := Lib.hid (HNC3.out.trans (near_sub hN4 HC.out.bcb))
            have HBW4 : Hid (c.Bc ≤ w4.heap.size) := Lib.hid (Nat.le_trans HC.out.bcb HM4.out.hB.2)
            have HBL2 := Lib.hid (blanks_any w4 c.B c.rb c.s (p1 + 1) (n + 1) (d + 1) _ F4 P hM4 (by have := HUP.out; omega) HC.out.hs)
            clear HEN hM4 hN4 HBW3 g3
            go_wp2_with fail
            refine HBL2.out.mono ?_
            rintro e w5 ⟨he, p2, hp2, hp2s, hdr2, hM5, hN5⟩
            rw [HTL.out] at he hdr2
            have HP2 : Hid (p1 + 1 ≤ p2 ∧ p2 ≤ c.s.size) := Lib.hid ⟨hp2, hp2s⟩
            have HDR2 := Lib.hid hdr2
            have HM5 := Lib.hid hM5
            have HR5 := Lib.hid (near_whole hN5 HR4.out HC.out.h0.2 HC.out.b0n)
            have HD5 := Lib.hid (near_whole hN5 HD4.out HC.out.h1.2 HC.out.b1n)
            have HNC5 := Lib.hid (HNC4.out.trans (near_sub hN5 HC.out.bcb))
            have HBW5 : Hid (c.Bc ≤ w5.heap.size) := Lib.hid (Nat.le_trans HC.out.bcb HM5.out.hB.2)
            generalize hv : bs u.tail = v at *
            have HV := Lib.hid hv
            generalize hok2 : decide (v ≠ []) = ok2 at he
            generalize hcc2 : hd v = ca at he
            subst he
            have HOK2 := Lib.hid hok2
            have HCA := Lib.hid hcc2
            clear HBL2 hM5 hN5 hdr2 hv hok2 hcc2 hp2 hp2s HBW4
            cases ok2
            · have hvn : v = [] := by have := HOK2.out; simpa using this
              have HRUN2 := Lib.hid (HRUN.out.next (by unfold jsonP.step; dsimp only; rw [HU1.out, if_neg HUL.out, if_neg HN2.out, HCC.out, if_pos (.inr rfl), if_neg (by rw [stk_len]; exact HD32.out), show decide ((123 : Nat) = 123) = true from rfl, HV.out, if_neg (fun h => h.1 hvn)]))
              clear hvn
              have HWI := Lib.hid (within_any w5 c.B c.rb c.s p2 (n + 1) d _ F4 P HM5.out (by omega))
              rw [show kindOf (updN fr d ⟨true, [], []⟩ d) = 7 from by rw [updN_same]; rfl] at HWI
              go_wp2_with fail
              refine HWI.out.mono ?_
              rintro e w7 ⟨rfl, hM7, hN7⟩
              have HRI : Hid (RI c .key p2 (n + 1) (d + 1) (updN fr d ⟨true, [], []⟩) F4 P ⟨k, m, t, aa1, nn1, cc1, aa2, nn2, cc2⟩ w7) :=
                Lib.hid ⟨hM7, HNC5.out.trans (near_sub hN7 HC.out.bcb), near_whole hN7 HR5.out HC.out.h0.2 HC.out.b0n, near_whole hN7 HD5.out HC.out.h1.2 HC.out.b1n, HP2.out.2, by omega, by have := HI.out.nb; omega, fun i hi => by
                  have := HP2.out.1
                  by_cases e : i = d
                  · subst e; rw [updN_same]; exact ⟨Nat.zero_le _, Nat.zero_le _⟩
                  · rw [updN_other _ _ e]; have := HI.out.kb i (by omega); omega, by
                  rw [HDR2.out, stk_top]; exact HRUN2.out⟩
              clear hM7 hN7 HWI
              go_wp2
              go_step3
              rename_i hK
              exact hK _ _ (H2 _ _ ⟨⟨rfl, rfl, rfl, rfl, rfl, rfl⟩, _, _, _, _, _, _, _, HRI.out, by rw [updN_same]⟩ (mu_lt HI.out.mem HRI.out.mem (by have := HP2.out.1; omega) HRI.out.pb _ _))
            · have hvn : v ≠ [] := by have := HOK2.out; simpa using this
              have HCL := Lib.hid (closing_any w5 c.B c.rb c.s p2 (n + 1) d _ F4 P HM5.out (by omega))
              have hcv : (updN fr d ⟨true, [], []⟩ d).close = 125 := by rw [updN_same]; rfl
              rw [hcv, show ((125 : Nat) : Int) = 125 from rfl] at HCL
              have HVP : Hid (p2 < c.s.size) := Lib.hid (by
                have h1 : v.length = c.s.size - p2 := by rw [← HDR2.out, List.length_drop, Array.length_toList, ByteArray.size_data]
                have h2 : 0 < v.length := List.length_pos_iff.2 hvn
                omega)
              have HVN := Lib.hid hvn
              clear hvn hcv
              go_wp2_with fail
              refine HCL.out.mono ?_
              rintro e w6 ⟨rfl, hM6, hN6⟩
              have HM6 := Lib.hid hM6
              have HR6 := Lib.hid (near_whole hN6 HR5.out HC.out.h0.2 HC.out.b0n)
              have HD6 := Lib.hid (near_whole hN6 HD5.out HC.out.h1.2 HC.out.b1n)
              have HNC6 := Lib.hid (HNC5.out.trans (near_sub hN6 HC.out.bcb))
              have HBW6 : Hid (c.Bc ≤ w6.heap.size) := Lib.hid (Nat.le_trans HC.out.bcb HM6.out.hB.2)
              clear hM6 hN6 HCL HBW5
              by_cases hcl : ca = 125
              · have hclb : ((ca : Int) == 125) = true := by rw [hcl]; rfl
                have HRUN2 := Lib.hid (HRUN.out.next (by unfold jsonP.step; dsimp only; rw [HU1.out, if_neg HUL.out, if_neg HN2.out, HCC.out, if_pos (.inr rfl), if_neg (by rw [stk_len]; exact HD32.out), show decide ((123 : Nat) = 123) = true from rfl, HV.out, if_pos ⟨HVN.out, HCA.out.trans hcl⟩]))
                have HLV := Lib.hid (leave_any w6 c.B c.rb c.s p2 (n + 1) d _ F4 P HM6.out (by omega) (by have := HC.out.hs; have := HVP.out; omega) (by rw [updN_same]; exact ⟨Nat.zero_le _, Nat.zero_le _⟩))
                clear hcl
                go_wp2_with fail
                refine HLV.out.mono ?_
                rintro e w7 ⟨cs, F5, P5, he, hM5, hX5, hN5⟩
                have hcf : ∃ k' m' t' b1 e1 g1 b2 e2 g2, cs = #[.int .i64 k', .int .i64 m', .string t', .slice b1 e1 g1, .slice b2 e2 g2] := by
                  obtain ⟨k', m', t', b1, e1, g1, b2, e2, g2, h⟩ := node_form hX5
                  exact ⟨k', m', t', b1, e1, g1, b2, e2, g2, by cases cs; simpa using h⟩
                obtain ⟨k', m', t', b1, e1, g1, b2, e2, g2, hcs⟩ := hcf
                rw [hcs] at he hX5
                subst he
                have HNC7 := HNC6.out.trans (near_sub hN5 HC.out.bcb)
                have HR7 := near_whole hN5 HR6.out HC.out.h0.2 HC.out.b0n
                have HD7 := near_whole hN5 HD6.out HC.out.h1.2 HC.out.b1n
                obtain ⟨q1, q2, q3, q4, q5⟩ := put_done HC.out hM5 HNC7 HR7 HD7 (.int .i64 k') (.int .i64 m') (.string t') (.slice b1 e1 g1) (.slice b2 e2 g2)
                have HX6 := Lib.hid (q5 _ _ hX5)
                rw [updN_same] at HX6
                have HRI : Hid (RI c (.follow (Fr.mk true [] []).node) (p2 + 1) (n + 1) d (updN fr d ⟨true, [], []⟩) F5 P5 ⟨k', m', t', b1, e1, g1, b2, e2, g2⟩ (((((w7.setCell ⟨c.b1, 0, none⟩ (.int .i64 k')).setCell ⟨c.b1, 1, none⟩ (.int .i64 m')).setCell ⟨c.b1, 2, none⟩ (.string t')).setCell ⟨c.b1, 3, none⟩ (.slice b1 e1 g1)).setCell ⟨c.b1, 4, none⟩ (.slice b2 e2 g2))) :=
                  Lib.hid ⟨q1, q2, q3, q4, by have := HVP.out; omega, by omega, by have := HI.out.nb; omega, fun i hi => by
                    rw [updN_other _ _ (by omega)]
                    have := HI.out.kb i (by omega)
                    have := HP2.out.1
                    omega, by
                    rw [stk_upd _ _ _ _ (Nat.le_refl _), ← List.tail_drop, HDR2.out]; exact HRUN2.out⟩
                have HKD2 : Hid (∀ i, i < d → (updN fr d ⟨true, [], []⟩ i).kids.length + 1 ≤ p2 + 1) := Lib.hid (fun i hi => by
                  rw [updN_other _ _ (by omega)]
                  have := HI.out.kb i (by omega)
                  have := HP2.out.1
                  omega)
                have d0 := HD7.cell 0
                have d1 := HD7.cell 1
                have d2 := HD7.cell 2
                have d3 := HD7.cell 3
                have d4 := HD7.cell 4
                simp only [List.getElem?_cons_zero, List.getElem?_cons_succ] at d0 d1 d2 d3 d4
                have y0 := HD7.frozen 0
                have y1 := HD7.frozen 1
                have y2 := HD7.frozen 2
                have y3 := HD7.frozen 3
                have y4 := HD7.frozen 4
                clear q1 q2 q3 q4 q5 hX5 hM5 hN5 HNC7 HR7 HD7
                go_wp2
                go_step3
                exact ⟨(by decide : 1 < 3), ⟨⟨rfl, rfl, rfl, rfl, rfl, rfl⟩, _, _, _, _, _, _, _, _, HRI.out, HX6.out, HKD2.out⟩, mu_lt HI.out.mem HRI.out.mem (by have := HP2.out.1; omega) HRI.out.pb _ _⟩
              · have hclb : ((ca : Int) == 125) = false := by simp; omega
                have HRUN2 := Lib.hid (HRUN.out.next (by unfold jsonP.step; dsimp only; rw [HU1.out, if_neg HUL.out, if_neg HN2.out, HCC.out, if_pos (.inr rfl), if_neg (by rw [stk_len]; exact HD32.out), show decide ((123 : Nat) = 123) = true from rfl, HV.out, if_neg (fun h => hcl (HCA.out.symm.trans h.2))]))
                clear hcl
                have HWI := Lib.hid (within_any w6 c.B c.rb c.s p2 (n + 1) d _ F4 P HM6.out (by omega))
                rw [show kindOf (updN fr d ⟨true, [], []⟩ d) = 7 from by rw [updN_same]; rfl] at HWI
                go_wp2_with fail
                refine HWI.out.mono ?_
                rintro e w7 ⟨rfl, hM7, hN7⟩
                have HRI : Hid (RI c .key p2 (n + 1) (d + 1) (updN fr d ⟨true, [], []⟩) F4 P ⟨k, m, t, aa1, nn1, cc1, aa2, nn2, cc2⟩ w7) :=
                  Lib.hid ⟨hM7, HNC6.out.trans (near_sub hN7 HC.out.bcb), near_whole hN7 HR6.out HC.out.h0.2 HC.out.b0n, near_whole hN7 HD6.out HC.out.h1.2 HC.out.b1n, HP2.out.2, by omega, by have := HI.out.nb; omega, fun i hi => by
                    have := HP2.out.1
                    by_cases e : i = d
                    · subst e; rw [updN_same]; exact ⟨Nat.zero_le _, Nat.zero_le _⟩
                    · rw [updN_other _ _ e]; have := HI.out.kb i (by omega); omega, by
                    rw [HDR2.out, stk_top]; exact HRUN2.out⟩
                clear hM7 hN7 HWI
                go_wp2
                go_step3
                rename_i hK
                exact hK _ _ (H2 _ _ ⟨⟨rfl, rfl, rfl, rfl, rfl, rfl⟩, _, _, _, _, _, _, _, HRI.out, by rw [updN_same]⟩ (mu_lt HI.out.mem HRI.out.mem (by have := HP2.out.1; omega) HRI.out.pb _ _))
        · subst he
          have n91 : ((cc : Int) != 91) = true := by simp; omega
          have n123 : ((cc : Int) != 123) = true := by simp; omega
          have HSC := Lib.hid (scalar_any c.w0 w3 c.ad c.B c.rb c.s p1 (n + 1) d fr F P HG3.out HM3.out HUP.out HC.out.hs)
          rw [HDR.out, HCC.out] at HSC
          have hst : ¬ (cc = 91 ∨ cc = 123) := by omega
          have HST := Lib.hid hst
          have HSU : Hid ((scal u).2.2 = 0 → 1 ≤ (scal u).2.1 ∧ (scal u).2.1 ≤ u.length) := Lib.hid (fun h => ⟨(jsonQ.scal_ok h 0).1, (jsonQ.scal_ok h 0).2.1⟩)
          have HUN : Hid (u.length = c.s.size - p1) := Lib.hid (by rw [← HDR.out, List.length_drop, Array.length_toList, ByteArray.size_data])
          clear hst h91 h123 g3 H2
          go_wp2_with fail
          rw [← HW3.out]
          refine HSC.out.mono ?_
          rintro e w4 ⟨k', m', t', hq, hz, he, hM4, hN4⟩
          rw [show (flat k' m' t').toArray = #[.int .i64 k', .int .i64 m', .string t', .slice none 0 0, .slice none 0 0] from rfl] at he
          have HM4 := Lib.hid hM4
          have HR4 := Lib.hid (near_whole hN4 HR3.out HC.out.h0.2 HC.out.b0n)
          have HD4 := Lib.hid (near_whole hN4 HD3.out HC.out.h1.2 HC.out.b1n)
          have HNC4 := Lib.hid (HNC3.out.trans (near_sub hN4 HC.out.bcb))
          have HBW4 : Hid (c.Bc ≤ w4.heap.size) := Lib.hid (Nat.le_trans HC.out.bcb HM4.out.hB.2)
          have d0 := HD4.out.cell 0
          have d1 := HD4.out.cell 1
          have d2 := HD4.out.cell 2
          have d3 := HD4.out.cell 3
          have d4 := HD4.out.cell 4
          simp only [List.getElem?_cons_zero, List.getElem?_cons_succ] at d0 d1 d2 d3 d4
          have x0 := HD4.out.frozen 0
          have x1 := HD4.out.frozen 1
          have x2 := HD4.out.frozen 2
          have x3 := HD4.out.frozen 3
          have x4 := HD4.out.frozen 4
          have HQ := Lib.hid hq
          have HZ := Lib.hid hz
          obtain ⟨q1, q2, q3, q4, q5⟩ := put_done HC.out hM4 HNC4.out HR4.out HD4.out (.int .i64 k') (.int .i64 m') (.string t') (.slice none 0 0) (.slice none 0 0)
          by_cases her : (scal u).2.2 = 0
          · rw [show intsC.errV c.ad (scal u).2.2 = .nilIface from by unfold intsC.errV; rw [if_pos her]] at he
            subst he
            have hne := quoteB.nneqN
            have hsl := HSU.out her
            have hun := HUN.out
            have HRUN2 := Lib.hid (HRUN.out.next (by unfold jsonP.step; dsimp only; rw [HU1.out, if_neg HUL.out, if_neg HN2.out, HCC.out, if_neg HST.out, if_neg (by rw [her]; decide)]))
            have HRI : Hid (RI c (.follow (scal u).1) (p1 + (scal u).2.1) (n + 1) d fr F P ⟨k', m', t', none, 0, 0, none, 0, 0⟩ (((((w4.setCell ⟨c.b1, 0, none⟩ (.int .i64 k')).setCell ⟨c.b1, 1, none⟩ (.int .i64 m')).setCell ⟨c.b1, 2, none⟩ (.string t')).setCell ⟨c.b1, 3, none⟩ (.slice none 0 0)).setCell ⟨c.b1, 4, none⟩ (.slice none 0 0))) :=
              Lib.hid ⟨q1, q2, q3, q4, by have := HUP.out; omega, HI.out.db, by have := HI.out.nb; have := HN2.out; omega, fun i hi => by have := HI.out.kb i hi; omega, by
                rw [← List.drop_drop, HDR.out]; exact HRUN2.out⟩
            have HX : Hid (NodeIn (((((w4.setCell ⟨c.b1, 0, none⟩ (.int .i64 k')).setCell ⟨c.b1, 1, none⟩ (.int .i64 m')).setCell ⟨c.b1, 2, none⟩ (.string t')).setCell ⟨c.b1, 3, none⟩ (.slice none 0 0)).setCell ⟨c.b1, 4, none⟩ (.slice none 0 0)) P (scal u).1 [.int .i64 k', .int .i64 m', .string t', .slice none 0 0, .slice none 0 0]) := Lib.hid (by rw [HQ.out]; exact flatIn HZ.out)
            have HPP : Hid (p < p1 + (scal u).2.1) := Lib.hid (by omega)
            have HK2 : Hid (∀ i, i < d → (fr i).kids.length + 1 ≤ p1 + (scal u).2.1) := Lib.hid (fun i hi => by have := HI.out.kb i hi; omega)
            clear q1 q2 q3 q4 q5 hM4 hN4 hq hz her hsl hun
            go_wp2
            go_step3
            exact ⟨(by decide : 1 < 3), ⟨⟨rfl, rfl, rfl, rfl, rfl, rfl⟩, _, _, _, _, _, _, _, _, HRI.out, HX.out, HK2.out⟩, mu_lt HI.out.mem HRI.out.mem HPP.out HRI.out.pb _ _⟩
          · rw [show intsC.errV c.ad (scal u).2.2 = ev (c.ad ((scal u).2.2 - 1)) from by unfold intsC.errV; rw [if_neg her]] at he
            subst he
            have hne := quoteB.nneqE (c.ad ((scal u).2.2 - 1))
            have hr0 : c.r0 = .err (scal u).2.2 := HRUN.out.fin' (by unfold jsonP.step; dsimp only; rw [HU1.out, if_neg HUL.out, if_neg HN2.out, HCC.out, if_neg HST.out, if_pos her])
            have HR0 := Lib.hid hr0
            have HE : Hid (intsC.errV c.ad (scal u).2.2 = ev (c.ad ((scal u).2.2 - 1))) := Lib.hid (by unfold intsC.errV; rw [if_neg her])
            have a0 := HR4.out.cell 0
            have a1 := HR4.out.cell 1
            have a2 := HR4.out.cell 2
            have a3 := HR4.out.cell 3
            have a4 := HR4.out.cell 4
            simp only [List.getElem?_cons_zero, List.getElem?_cons_succ] at a0 a1 a2 a3 a4
            have y0 := HR4.out.frozen 0
            have y1 := HR4.out.frozen 1
            have y2 := HR4.out.frozen 2
            have y3 := HR4.out.frozen 3
            have y4 := HR4.out.frozen 4
            have HR5 := Lib.hid q3
            have HNC5 := Lib.hid q2
            generalize (scal u).2.2 = er at *
            clear q1 q2 q3 q4 q5 hM4 hN4 hq hz her hr0
            go_wp2
            rw [jumps_ret]
            generalize ((((w4.setCell ⟨c.b1, 0, none⟩ (.int .i64 k')).setCell ⟨c.b1, 1, none⟩ (.int .i64 m')).setCell ⟨c.b1, 2, none⟩ (.string t')).setCell ⟨c.b1, 3, none⟩ (.slice none 0 0)).setCell ⟨c.b1, 4, none⟩ (.slice none 0 0) = w5 at *
            have hW5 := set5_whole HR5.out (.int .i64 k') (.int .i64 m') (.string t') (.slice none 0 0) (.slice none 0 0)
            have hN5 := fin_near HC.out HNC5.out (.int .i64 k') (.int .i64 m') (.string t') (.slice none 0 0) (.slice none 0 0)
            generalize ((((w5.setCell ⟨c.b0, 0, none⟩ (.int .i64 k')).setCell ⟨c.b0, 1, none⟩ (.int .i64 m')).setCell ⟨c.b0, 2, none⟩ (.string t')).setCell ⟨c.b0, 3, none⟩ (.slice none 0 0)).setCell ⟨c.b0, 4, none⟩ (.slice none 0 0) = w9 at *
            obtain ⟨k0, k1, k2, k3, k4⟩ := whole5 hW5
            refine bodyPost_ret (v := .tuple #[.agg #[.int .i64 k', .int .i64 m', .string t', .slice none 0 0, .slice none 0 0], ev (c.ad (er - 1))]) (by simp [results, Tryd.results24, go_sem, k0, k1, k2, k3, k4]) rfl ?_
            exact ⟨⟨k', m', t', none, 0, 0, none, 0, 0⟩, er, by rw [HE.out], hN5, by rw [HR0.out]⟩
  · intro H
    go_wp2
    go_step3
    rename_i hK
    exact hK _ _ (H _ _ (hst _ ⟨rfl, rfl, rfl, by simp [hb0], rfl, by simp [hw1]⟩))
end Go.Proofs.YtdbidkfjbhclcaaDoor.jsonK
