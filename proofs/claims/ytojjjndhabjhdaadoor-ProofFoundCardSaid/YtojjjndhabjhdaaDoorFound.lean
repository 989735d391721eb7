/-
  The law ProofFound.
-/
import Derived.Test.YtojjjndhabjhdaaDoorFoundP
import Derived.Test.YtojjjndhabjhdaaDoorFsM
import Derived.Test.YtojjjndhabjhdaaDoorFqM
namespace Go.Proofs.YtojjjndhabjhdaaDoor.found
set_option linter.unusedSimpArgs false
set_option linter.unusedVariables false
open Go.ChangeShapes Go.WideShapes Go.ChangeAt Go.RowKit proofP owns cls satLg satLh satMa satMc satSe proofN proofO proofS foundP resB resA shortB shortP
attribute [local go_sem ↓] Go.wp_at_zero Go.wp_at_succ

theorem five {w : World} {x : Nat} {t : TypeId} {v0 v1 v2 v3 v4 : Value} (h : Whole w x t [v0, v1, v2, v3, v4]) : w.cell? ⟨x, 0, none⟩ = some v0 ∧ w.cell? ⟨x, 1, none⟩ = some v1 ∧ w.cell? ⟨x, 2, none⟩ = some v2 ∧ w.cell? ⟨x, 3, none⟩ = some v3 ∧ w.cell? ⟨x, 4, none⟩ = some v4 :=
  ⟨h.cell 0, h.cell 1, h.cell 2, h.cell 3, h.cell 4⟩
theorem three {w : World} {x : Nat} {t : TypeId} {v0 v1 v2 v3 v4 v5 v6 v7 : Value} (h : Whole w x t [v0, v1, v2, v3, v4, v5, v6, v7]) : w.cell? ⟨x, 0, none⟩ = some v0 ∧ w.cell? ⟨x, 1, none⟩ = some v1 ∧ w.cell? ⟨x, 2, none⟩ = some v2 :=
  ⟨h.cell 0, h.cell 1, h.cell 2⟩
def fnd (cv av mv kv lv : Value) (vars st cf : Int) : Obj := .cells #[cv, .int .i64 vars, av, .int .i64 st, mv, kv, lv, .int .i64 cf] 28
theorem log_len {cs : List (List Int)} {V : Nat} {logs : List (List Int)} (h : LogOk cs V logs) (hV : V ≤ 20) : ∀ c, c ∈ logs → c.length ≤ 50000 := by
  intro c hc
  obtain ⟨i, hi, rfl⟩ := List.mem_iff_getElem.1 hc
  obtain ⟨_, K, hk, hn, hr⟩ := h i hi
  have e : logs.getD i [] = logs[i] := by rw [List.getD_eq_getElem?_getD, List.getElem?_eq_getElem hi]; rfl
  rw [← e, hk]
  have h1 : (satX.clz K).length = K.length := by unfold satX.clz satX.srt; rw [List.length_map, List.length_mergeSort, List.length_map]
  have := proofQ.nodup_bound hn fun x hx => (hr x hx).2
  omega
theorem cls_set {w w' : World} {B B2 : Nat} {v lv : Value} {l logs : List (List Int)} {c : Addr} (h : ClsAt w B v l) (hw : ∀ a, a ≠ c → w'.cell? a = w.cell? a) (hc : w.cell? c = some lv) (hl : ClsAt w B2 lv logs) (h0 : logs = [] → l = []) : ClsAt w' B v l := by
  obtain ⟨ao2, cap2, b2, off2, vs2, rfl, hm2, ha2, hc2, hn2⟩ := hl
  have hint : ∀ (a : Addr) (z : Int), w.cell? a = some (.int .i64 z) → w'.cell? a = some (.int .i64 z) := fun a z hz => by
    rw [hw a (fun e => by rw [e, hc] at hz; cases hz)]; exact hz
  obtain ⟨ao, cap, b, off, vs, rfl, hm, ha, hcl, hn⟩ := h
  have hints : ∀ u d, IntsAt w B u d → IntsAt w' B u d := fun u d hu => by
    obtain ⟨ao3, cap3, b3, off3, rfl, hm3, ha3, hc3, h64⟩ := hu
    exact ⟨ao3, cap3, b3, off3, rfl, hm3, ha3, fun i hi => hint _ _ (hc3 i hi), h64⟩
  refine ⟨ao, cap, b, off, vs, rfl, hm, ha, fun i hi => ?_, fun i hi => hints _ _ (hn i hi)⟩
  rw [hw _ (fun e => ?_)]
  · exact hcl i hi
  · have h1 := hcl i hi
    rw [e, hc] at h1
    simp only [Option.some.injEq] at h1
    have hlen : 0 < logs.length := Nat.pos_of_ne_zero fun e0 => by
      rw [h0 (List.length_eq_zero_iff.1 e0)] at hi; simp at hi
    obtain ⟨e1, _⟩ := ha2 (by intro e0; rw [e0] at hlen; simp at hlen)
    have h2 := hc2 0 hlen
    obtain ⟨ao3, cap3, b3, off3, e3, _, _, _, _⟩ := hn2 0 hlen
    have h4 := hn i hi
    rw [← h1] at h4
    obtain ⟨ao4, cap4, b4, off4, e4, _, ha4, hc4, _⟩ := h4
    injection e4 with e5 e6 e7
    have hl4 : 0 < (l.getD i []).length := by omega
    obtain ⟨e8, _⟩ := ha4 (by intro e0; rw [e0] at hl4; simp at hl4)
    have h5 := hc4 0 hl4
    rw [e1, e8] at e5
    cases e5
    rw [h5] at h2
    rw [e3] at h2
    cases h2
set_option maxHeartbeats 8000000 in
set_option maxRecDepth 100000 in
theorem law_found (cv av mv kv lv : Value) (V st0 cf0 : Int) (cs : List (List Int)) (asm : List Int) (w : World) (a1 a2 : Addr) (hc : ClsAt w w.heap.size cv cs) (ha : IntsAt w w.heap.size av asm) (hg : 1 < w.heap.size) (g9 : w.cell? ⟨0, 0, none⟩ = some (evl a1)) (g11 : w.cell? ⟨1, 0, none⟩ = some (evl a2)) :
    Calls Tryd.prog 3 #[.agg #[cv, .int .i64 V, av, .int .i64 st0, mv, kv, lv, .int .i64 cf0]] w fun e w' => e = .returned (.bool true) ∧ Below w.heap.size w w' := by
  have hB1 : Below w.heap.size w (w.alloc (fnd cv av mv kv lv V st0 cf0)) := (Below.refl _ _).alloc (Nat.le_refl _) _
  have hS1 : (w.alloc (fnd cv av mv kv lv V st0 cf0)).heap.size = w.heap.size + 1 := by simp
  have HA := Lib.hid (alive_any (w.alloc (fnd cv av mv kv lv V st0 cf0)))
  have HW := Lib.hid (Whole.new w 28 [cv, .int .i64 V, av, .int .i64 st0, mv, kv, lv, .int .i64 cf0])
  have HB1 := Lib.hid hB1
  have HS1 := Lib.hid hS1
  have HC := Lib.hid hc
  have HAI := Lib.hid ha
  have HG := Lib.hid (And.intro hg (And.intro g9 g11))
  have HAF : Hid (∃ a c, av = .slice a asm.length c ∧ asm.length ≤ maxLen) := Lib.hid (by obtain ⟨aa, capa, ba, offa, rfl, h, _⟩ := ha; exact ⟨_, _, rfl, h⟩)
  have HCF : Hid (∃ a c, cv = .slice a cs.length c) := Lib.hid (by obtain ⟨ac, capc, bc, offc, vsc, rfl, _, _, _, _⟩ := hc; exact ⟨_, _, rfl⟩)
  obtain ⟨ac, yc, rfl⟩ := HCF.out
  obtain ⟨aa, ya, rfl, hma⟩ := HAF.out
  unfold maxLen at hma
  clear hc ha hg g9 g11 hB1 hS1 HCF HAF
  unfold fnd at *
  go_enter Tryd.func3, Tryd.ntmps3
  go_wp2_with fail
  refine HA.out.mono ?_
  rintro e w2 ⟨rfl, hb2⟩
  have hW2 := HW.out.below hb2 (by rw [HS1.out]; omega)
  have HW2 := Lib.hid hW2
  have HB2 := Lib.hid (HB1.out.trans (hb2.mono (by rw [HS1.out]; omega)))
  have hs2 : w.heap.size + 1 ≤ w2.heap.size := by have := hb2.size; rw [HS1.out] at this; exact this
  have HBG := Lib.hid (Big_any (.slice ac cs.length yc) cs 40 10 w2 w.heap.size (HC.out.keep HB2.out) (by omega) (by omega))
  obtain ⟨k0, k1, k2⟩ := three hW2
  clear hb2 hW2 HW HA HB1 HS1
  go_wp2_with fail
  refine HBG.out.mono ?_
  rintro e w3 ⟨bf, rfl, rfl, hf⟩
  cases bf
  rotate_left
  · clear hf HBG
    go_wp2
    go_ret
    exact ⟨rfl, HB2.out⟩
  have HF := Lib.hid (hf rfl)
  clear hf HBG
  by_cases h1 : (10 : Int) < (asm.length : Int)
  · go_wp2
    go_ret
    exact ⟨rfl, HB2.out⟩
  have h1' : (asm.length : Int) ≤ 10 := Int.not_lt.1 h1
  by_cases h2 : V < 0
  · go_wp2
    go_ret
    exact ⟨rfl, HB2.out⟩
  have h2' : (0 : Int) ≤ V := Int.not_lt.1 h2
  by_cases h3 : 8 < V
  · go_wp2
    go_ret
    exact ⟨rfl, HB2.out⟩
  have h3' : V ≤ 8 := Int.not_lt.1 h3
  have h9 := ((HB2.out.cell (show (⟨0, 0, none⟩ : Addr).block < w.heap.size from by have := HG.out.1; show 0 < _; omega)).trans HG.out.2.1)
  have h11 := ((HB2.out.cell (show (⟨1, 0, none⟩ : Addr).block < w.heap.size from HG.out.1)).trans HG.out.2.2)
  by_cases hch : chk V cs asm 0 0 1073741824 = 0
  rotate_left
  · have hsb := solve_bad V 0 0 1073741824 false a1 a2 (HC.out.keep HB2.out) (HAI.out.keep HB2.out) HB2.out.size (by have := HG.out.1; omega) h9 h11 hch
    obtain ⟨ae, hae⟩ := errv_ev a1 a2 hch
    rw [hae] at hsb
    have HSB := Lib.hid hsb
    have hne := neqE ae
    clear h9 h11 hsb hae hch
    go_wp2_with fail
    refine HSB.out.mono ?_
    rintro e w4 ⟨rfl, hb4⟩
    have HB4 := Lib.hid ((HB2.out.trans (hb4.mono (by omega))).alloc (by have := hb4.size; omega) (.cells #[.int .i64 0, .slice none 0 0, .slice none 0 0, .slice none 0 0, .int .i64 0] 26))
    clear hb4 HSB
    go_wp2
    go_ret
    exact ⟨rfl, HB4.out⟩
  obtain ⟨V, rfl⟩ := Int.eq_ofNat_of_zero_le h2'
  have hV8 : V ≤ 8 := by omega
  have HSO := Lib.hid (solve_ans V 0 0 1073741824 false a1 a2 (HC.out.keep HB2.out) (HAI.out.keep HB2.out) HB2.out.size (by have := HG.out.1; omega) h9 h11 (chk_fine.1 hch) (by omega) (by omega) (fun c hc => by have := HF.out.2 c hc; omega) (by omega))
  have hne := neqN
  clear h9 h11 hch h1 h2 h3
  go_wp2_with fail
  refine HSO.out.mono ?_
  rintro e w4 ⟨st, conf, x1, n1, y1, x2, n2, y2, x3, n3, y3, logs, rfl, hA, hb4⟩
  obtain ⟨m, core, hm, hk, hkl, hr1, hr2⟩ := found_ok hA (by unfold cmax; omega) (by omega)
  have hbad := log_bad hA.ok
  have hll := log_len hA.ok (by omega)
  have hl0 := hA.len0 rfl
  have h2V : (2 : Int) ^ V ≤ 256 := by
    have e : (2 : Int) ^ V = ((2 ^ V : Nat) : Int) := by simp
    have : 2 ^ V ≤ 2 ^ 8 := Nat.pow_le_pow_right (by omega) hV8
    rw [e]; omega
  have hL : logs.length ≤ 300 := by omega
  have HL := Lib.hid hL
  have hnl := hA.nl
  have HLG := Lib.hid hA.log
  have hlg := hA.log
  have HNL : Hid (∀ w6, Below w4.heap.size w4 w6 → NilC w6 (.slice x3 n3 y3)) := Lib.hid fun w6 hb => nilC_keep hA.log hnl hb
  have HM := Lib.hid hm
  have HKC := Lib.hid hk
  have HKL := Lib.hid hkl
  have HR1 := Lib.hid hr1
  have HR2 := Lib.hid hr2
  have HLL := Lib.hid hll
  have HBAD := Lib.hid hbad
  have hst3 : In64 st := by rcases hA.three with e | e | e <;> (subst e; unfold In64; omega)
  have HST := Lib.hid hst3
  have hA5 : Below w4.heap.size w4 (w4.alloc (.cells #[.int .i64 st, .slice x1 n1 y1, .slice x2 n2 y2, .slice x3 n3 y3, .int .i64 conf] 26)) := (Below.refl _ _).alloc (Nat.le_refl _) _
  have hs4 : w.heap.size + 1 ≤ w4.heap.size := by have := hb4.size; omega
  have hz5 : (w4.alloc (.cells #[.int .i64 st, .slice x1 n1 y1, .slice x2 n2 y2, .slice x3 n3 y3, .int .i64 conf] 26)).heap.size = w4.heap.size + 1 := by simp
  have hR5 := Whole.new w4 26 [.int .i64 st, .slice x1 n1 y1, .slice x2 n2 y2, .slice x3 n3 y3, .int .i64 conf]
  have hW5 := (HW2.out.below hb4 (by omega)).below hA5 (by omega)
  have HB4 := Lib.hid (HB2.out.trans (hb4.mono (by omega)))
  have HB5 : Hid (Below w.heap.size w (w4.alloc (.cells #[.int .i64 st, .slice x1 n1 y1, .slice x2 n2 y2, .slice x3 n3 y3, .int .i64 conf] 26))) := Lib.hid (HB4.out.trans (hA5.mono (by omega)))
  have HRS := Lib.hid (Result_any (.slice ac cs.length yc) (.slice aa asm.length ya) (.slice x1 n1 y1) (.slice x2 n2 y2) (.slice x3 n3 y3) (V : Int) st conf cs logs m asm core (w4.alloc (.cells #[.int .i64 st, .slice x1 n1 y1, .slice x2 n2 y2, .slice x3 n3 y3, .int .i64 conf] 26)) ((HC.out.keep HB5.out).mono HB5.out.size) ((hlg.keep hA5).mono hA5.size) (bools_mono hA5.size (hm.keep hA5)) ((HAI.out.keep HB5.out).mono HB5.out.size) ((hk.keep hA5).mono hA5.size) (by have := HF.out.1; omega) (by omega) (fun c hc => by have := HF.out.2 c hc; omega) hll (by omega) (by omega) (by unfold In64; omega) hst3)
  rw [hr1] at HRS
  have hln : n3 = logs.length := by obtain ⟨_, _, _, _, _, e, _⟩ := hlg; injection e
  subst hln
  clear k0 k1 k2
  obtain ⟨k0, k1, k2⟩ := three hW5
  obtain ⟨r0, r1, r2, r3, r4⟩ := five hR5
  have HW5 := Lib.hid hW5
  have HR5 := Lib.hid hR5
  have HZ5 := Lib.hid hz5
  have HA5 := Lib.hid hA5
  clear hA hb4 hm hk hkl hr1 hr2 hbad hll hl0 h2V hnl hlg hst3 hA5 hz5 hR5 hW5 HSO HW2 HB2 HG hL
  go_wp2_with fail
  refine HRS.out.mono ?_
  rintro e w6 ⟨rfl, hb6⟩
  have hz5 := HZ5.out
  have hb46 := HA5.out.trans (hb6.mono (by omega))
  generalize w4.alloc (.cells #[.int .i64 st, .slice x1 n1 y1, .slice x2 n2 y2, .slice x3 logs.length y3, .int .i64 conf] 26) = w5 at *
  have hW6 := HW5.out.below hb6 (by omega)
  have hR6 := HR5.out.below hb6 (by omega)
  have HB6 := Lib.hid (HB5.out.trans (hb6.mono (by omega)))
  have HB46 := Lib.hid hb46
  have hs6 : w4.heap.size + 1 ≤ w6.heap.size := by have := hb6.size; omega
  have HSH := Lib.hid (Shorten_any w6 w4.heap.size (.slice ac cs.length yc) (.slice x3 logs.length y3) cs logs ((HC.out.keep HB6.out).mono (by omega)) (HLG.out.keep hb46) (fun b off n cap he i hi u hu => HNL.out _ hb46 b off n cap he i hi u hu) (by omega) (by have := HF.out.1; omega) (by have := HL.out; omega) (fun c hc => by have := HF.out.2 c hc; omega) (fun c hc => by have := HLL.out c hc; omega))
  clear k0 k1 k2 r0 r1 r2 r3 r4
  obtain ⟨k0, k1, k2⟩ := three hW6
  obtain ⟨r0, r1, r2, r3, r4⟩ := five hR6
  have HW6 := Lib.hid hW6
  have HR6 := Lib.hid hR6
  clear hW6 hR6 hb6 hb46 HRS HW5 HR5 HB5 HZ5 hz5 HA5
  by_cases h25 : (25 : Int) < (logs.length : Int)
  · go_wp2
    go_ret
    exact ⟨rfl, HB6.out⟩
  go_wp2_with fail
  refine HSH.out.mono ?_
  rintro e w7 ⟨ao, n, c, rfl, hsc, hb7⟩
  have hn : n = (shortened cs logs).length := by obtain ⟨_, _, _, _, _, e, _⟩ := hsc; injection e
  have hsl : (shortened cs logs).length ≤ logs.length := short_len
  have hsb : bad cs (shortened cs logs) = -1 := short_bad HBAD.out
  have hsm : ∀ c, c ∈ shortened cs logs → c.length ≤ 50000 := fun c hc => HLL.out c (short_mem hc)
  have h00 : logs = [] → shortened cs logs = [] := by
    intro e
    have h2 : logs.length = 0 := by rw [e]; rfl
    exact List.length_eq_zero_iff.1 (by omega)
  have HH0 := Lib.hid h00
  generalize shortened cs logs = sl at *
  subst hn
  have HSC := Lib.hid hsc
  have HSM := Lib.hid hsm
  have hW7 := HW6.out.below hb7 (by omega)
  have hR7 := HR6.out.below hb7 (by omega)
  have HB7 := Lib.hid (HB6.out.trans (hb7.mono (by omega)))
  have HB47 := Lib.hid (HB46.out.trans (hb7.mono (by omega)))
  have hs7 : w4.heap.size + 1 ≤ w7.heap.size := by have := hb7.size; omega
  have hck := proofM.Check_any w7 w7.heap.size (.slice ac cs.length yc) (.slice ao sl.length c) cs sl ((HC.out.keep HB7.out).mono HB7.out.size) hsc (Nat.le_refl _) (by have := HF.out.1; omega) (by have := HL.out; omega) (fun c hc => by have := HF.out.2 c hc; omega) (fun c hc => by have := hsm c hc; omega)
  rw [hsb] at hck
  have HCK := Lib.hid hck
  clear k0 k1 k2 r0 r1 r2 r3 r4
  obtain ⟨k0, k1, k2⟩ := three hW7
  obtain ⟨r0, r1, r2, r3, r4⟩ := five hR7
  have HW7 := Lib.hid hW7
  have HR7 := Lib.hid hR7
  have hgt : ¬ (logs.length : Int) < (sl.length : Int) := by omega
  have HSL := Lib.hid hsl
  clear hW7 hR7 hb7 hck hsc hsb hsm hsl h00 HW6 HR6 HB6 HB46 HSH
  go_wp2_with fail
  refine HCK.out.mono ?_
  rintro e w8 ⟨rfl, hb8⟩
  have hW8 := HW7.out.below hb8 (by omega)
  have hR8 := HR7.out.below hb8 (by omega)
  have HB8 := Lib.hid (HB7.out.trans (hb8.mono (by omega)))
  have HB48 := Lib.hid (HB47.out.trans (hb8.mono (by omega)))
  have hs8 : w4.heap.size + 1 ≤ w8.heap.size := by have := hb8.size; omega
  have hsc8 := (HSC.out.keep hb8).mono hb8.size
  have hR9 := hR8.set 3 (.slice ao sl.length c)
  have hB9 : Below w.heap.size w (w8.setCell ⟨w4.heap.size, 3, none⟩ (.slice ao sl.length c)) := HB8.out.setCell (by show w.heap.size ≤ w4.heap.size; omega) _
  have hB49 : Below w4.heap.size w4 (w8.setCell ⟨w4.heap.size, 3, none⟩ (.slice ao sl.length c)) := HB48.out.setCell (Nat.le_refl _) _
  have hW9 := hW8.kept hR9.2 (fun e => by have e2 : w4.heap.size = w.heap.size := Option.some.inj e; omega)
  have r3 := hR8.cell 3
  have f3 := hR8.frozen 3
  simp only [List.getElem?_cons_zero, List.getElem?_cons_succ] at r3
  have hsz9 : (w8.setCell ⟨w4.heap.size, 3, none⟩ (.slice ao sl.length c)).heap.size = w8.heap.size := by simp
  have hsc9 : ClsAt (w8.setCell ⟨w4.heap.size, 3, none⟩ (.slice ao sl.length c)) w8.heap.size (.slice ao sl.length c) sl := cls_set hsc8 (fun a ha => World.cell?_setCell_other _ _ _ _ (Ne.symm ha)) r3 (HLG.out.keep HB48.out) HH0.out
  have hrs := Result_any (.slice ac cs.length yc) (.slice aa asm.length ya) (.slice x1 n1 y1) (.slice x2 n2 y2) (.slice ao sl.length c) (V : Int) st conf cs sl m asm core _ ((HC.out.keep hB9).mono hB9.size) (hsc9.mono (by omega)) (bools_mono hB49.size (HM.out.keep hB49)) ((HAI.out.keep hB9).mono hB9.size) ((HKC.out.keep hB49).mono hB49.size) (by have := HF.out.1; omega) (by have := HL.out; have := HSL.out; omega) (fun c hc => by have := HF.out.2 c hc; omega) HSM.out (by omega) (by have := HKL.out; omega) (by unfold In64; omega) HST.out
  rw [HR2.out] at hrs
  have HRS2 := Lib.hid hrs
  have HB9 := Lib.hid hB9
  have HZ9 := Lib.hid hsz9
  have HR9 := Lib.hid hR9.1
  have HW9 := Lib.hid hW9
  clear k0 k1 k2 r0 r1 r2 r4
  obtain ⟨k0, k1, k2⟩ := three hW9
  have hR91 := hR9.1
  simp only [List.set_cons_zero, List.set_cons_succ] at hR91
  obtain ⟨q0, q1, q2, q3, q4⟩ := five hR91
  clear hW8 hR8 hb8 hsc8 hR9 hR91 hB9 hB49 hW9 hsz9 hsc9 hrs HCK HW7 HR7 HB7 HB47 HR2 HR1
  go_wp2_with fail
  refine HRS2.out.mono ?_
  rintro e w10 ⟨rfl, hb10⟩
  have HB10 := Lib.hid (HB9.out.trans (hb10.mono (by have := HZ9.out; omega)))
  clear hb10
  go_wp2
  go_ret
  exact ⟨rfl, HB10.out⟩
end Go.Proofs.YtojjjndhabjhdaaDoor.found
