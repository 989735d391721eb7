/-
  The law SatSolves.
-/
import Derived.Test.YtjeckkkmoabjnaaDoorSatMe
namespace Go.Proofs.YtjeckkkmoabjnaaDoor.satSo
set_option linter.unusedSimpArgs false
set_option linter.unusedVariables false
open Go.ChangeShapes Go.WideShapes Go.ChangeAt Go.RowKit proofP proofQ proofR owns cls satP satA satX satCa satCe satCf satSe proofN proofO proofS proofT proofU proofV proofW satLg satLh satMa satMb satMc satMd satPg satPh satMe
attribute [local go_sem ↓] Go.wp_at_zero Go.wp_at_succ

theorem log_len {cs : List (List Int)} {V : Nat} {logs : List (List Int)} (h : LogOk cs V logs) (hV : V ≤ 20) : ∀ c, c ∈ logs → c.length ≤ 50000 ∧ (∀ x, x ∈ c → lit x) ∧ Srt c := by
  intro c hc
  obtain ⟨i, hi, rfl⟩ := List.mem_iff_getElem.1 hc
  obtain ⟨_, K, hk, hn, hr⟩ := h i hi
  have e : logs.getD i [] = logs[i] := by rw [List.getD_eq_getElem?_getD, List.getElem?_eq_getElem hi]; rfl
  rw [← e, hk]
  refine ⟨?_, fun x hx => ?_, clz_srt hn fun x hx => (hr x hx).1⟩
  · have h1 : (clz K).length = K.length := by unfold clz srt; rw [List.length_map, List.length_mergeSort, List.length_map]
    have := nodup_bound hn fun x hx => (hr x hx).2
    omega
  · obtain ⟨y, hy, rfl⟩ := clz_mem.1 hx
    have := hr y hy
    exact litOf_lit y this.1 (by omega)
theorem few_fine {V : Int} {cs : List (List Int)} {asm : List Int} {r k b : Int} (h : FewL V cs asm) (ho : 0 ≤ r ∧ 0 ≤ k ∧ 0 ≤ b) : Fine V cs asm r k b :=
  ⟨⟨h.v.1, by have := h.v.2; omega⟩, h.cr, h.ar, ho, by have := h.n; omega⟩
def ask (cv av : Value) (V r k b : Int) (re : Bool) : Obj := .cells #[cv, .int .i64 V, av, .int .i64 r, .int .i64 k, .bool re, .int .i64 b] 27
theorem seven {w : World} {x : Nat} {t : TypeId} {v0 v1 v2 v3 v4 v5 v6 : Value} (h : Whole w x t [v0, v1, v2, v3, v4, v5, v6]) : w.cell? ⟨x, 0, none⟩ = some v0 ∧ w.cell? ⟨x, 1, none⟩ = some v1 ∧ w.cell? ⟨x, 2, none⟩ = some v2 ∧ w.cell? ⟨x, 3, none⟩ = some v3 ∧ w.cell? ⟨x, 4, none⟩ = some v4 ∧ w.cell? ⟨x, 5, none⟩ = some v5 ∧ w.cell? ⟨x, 6, none⟩ = some v6 :=
  ⟨h.cell 0, h.cell 1, h.cell 2, h.cell 3, h.cell 4, h.cell 5, h.cell 6⟩
theorem five {w : World} {x : Nat} {t : TypeId} {v0 v1 v2 v3 v4 : Value} (h : Whole w x t [v0, v1, v2, v3, v4]) : w.cell? ⟨x, 0, none⟩ = some v0 ∧ w.cell? ⟨x, 1, none⟩ = some v1 ∧ w.cell? ⟨x, 2, none⟩ = some v2 ∧ w.cell? ⟨x, 3, none⟩ = some v3 ∧ w.cell? ⟨x, 4, none⟩ = some v4 :=
  ⟨h.cell 0, h.cell 1, h.cell 2, h.cell 3, h.cell 4⟩

set_option maxHeartbeats 8000000 in
set_option maxRecDepth 100000 in
theorem law_solves (cv av : Value) (V r k b : Int) (re : Bool) (cs : List (List Int)) (asm : List Int) (w : World) (a1 a2 : Addr) (hc : ClsAt w w.heap.size cv cs) (ha : IntsAt w w.heap.size av asm) (hn : Nilv cv) (hk : k ≤ 9223372036854775807) (hg : 11 < w.heap.size) (g9 : w.cell? ⟨9, 0, none⟩ = some (evl a1)) (g11 : w.cell? ⟨11, 0, none⟩ = some (evl a2)) :
    Calls Tryd.prog 3 #[.agg #[cv, .int .i64 V, av, .int .i64 r, .int .i64 k, .bool re, .int .i64 b]] w fun e w' => e = .returned (.bool true) ∧ Below w.heap.size w w' := by
  have hB1 : Below w.heap.size w (w.alloc (ask cv av V r k b re)) := (Below.refl _ _).alloc (Nat.le_refl _) _
  have hS1 : (w.alloc (ask cv av V r k b re)).heap.size = w.heap.size + 1 := by simp
  have HA := Lib.hid (alive_any _ a1 a2 (by rw [hS1]; omega) ((hB1.cell (show (⟨9, 0, none⟩ : Addr).block < _ from by show 9 < _; omega)).trans g9) ((hB1.cell (show (⟨11, 0, none⟩ : Addr).block < _ from hg)).trans g11))
  have HW := Lib.hid (Whole.new w 27 [cv, .int .i64 V, av, .int .i64 r, .int .i64 k, .bool re, .int .i64 b])
  have HB1 := Lib.hid hB1
  have HS1 := Lib.hid hS1
  have HC := Lib.hid hc
  have HAI := Lib.hid ha
  have HN := Lib.hid hn
  have HG := Lib.hid (And.intro hg (And.intro g9 g11))
  have HK := Lib.hid hk
  have HCF : Hid (∃ a n c, cv = .slice a n c) := Lib.hid (by obtain ⟨ac, capc, bc, offc, vsc, rfl, _, _, _, _⟩ := hc; exact ⟨_, _, _, rfl⟩)
  have HAF : Hid (∃ a n c, av = .slice a n c) := Lib.hid (by obtain ⟨aa, capa, ba, offa, rfl, _⟩ := ha; exact ⟨_, _, _, rfl⟩)
  obtain ⟨ac, nc, yc, rfl⟩ := HCF.out
  obtain ⟨aa, na, ya, rfl⟩ := HAF.out
  clear hc ha hn hg g9 g11 hB1 hS1 hk HCF HAF
  unfold ask at *
  go_enter Tryd.func3, Tryd.ntmps3
  go_wp2_with fail
  refine HA.out.mono ?_
  rintro e w2 ⟨rfl, hb2⟩
  have hW2 := HW.out.below hb2 (by rw [HS1.out]; omega)
  have HW2 := Lib.hid hW2
  have HB2 := Lib.hid (HB1.out.trans (hb2.mono (by rw [HS1.out]; omega)))
  have hs2 : w.heap.size + 1 ≤ w2.heap.size := by have := hb2.size; rw [HS1.out] at this; exact this
  have HFW := Lib.hid (few_any (.slice ac nc yc) (.slice aa na ya) V ((HC.out.keep HB2.out).mono (by omega)) ((HAI.out.keep HB2.out).mono (by omega)) HN.out)
  obtain ⟨k0, k1, k2, k3, k4, k5, k6⟩ := seven hW2
  clear hb2 hW2 HW HA HB1 HS1
  go_wp2_with fail
  refine HFW.out.mono ?_
  rintro e w3 ⟨bf, rfl, hf, hb3⟩
  have hW3 := HW2.out.below hb3 (by omega)
  have HB3 := Lib.hid (HB2.out.trans (hb3.mono (by omega)))
  have hs3 : w.heap.size + 1 ≤ w3.heap.size := by have := hb3.size; omega
  have HW3 := Lib.hid hW3
  clear k0 k1 k2 k3 k4 k5 k6
  obtain ⟨k0, k1, k2, k3, k4, k5, k6⟩ := seven hW3
  clear hb3 hW3 HW2 HB2 HFW
  cases bf
  · clear hf
    go_wp2
    go_ret
    exact ⟨rfl, HB3.out⟩
  have HF := Lib.hid (hf rfl)
  clear hf
  by_cases h1 : r < 0
  · go_wp2
    go_ret
    exact ⟨rfl, HB3.out⟩
  by_cases h2 : k < 0
  · go_wp2
    go_ret
    exact ⟨rfl, HB3.out⟩
  by_cases h3 : b < 0
  · go_wp2
    go_ret
    exact ⟨rfl, HB3.out⟩
  obtain ⟨V, rfl⟩ := Int.eq_ofNat_of_zero_le HF.out.v.1
  have hV10 : V ≤ 10 := by have := HF.out.v.2; omega
  have HC3 := Lib.hid (HC.out.keep HB3.out)
  have HA3 := Lib.hid (HAI.out.keep HB3.out)
  have HSO := Lib.hid (solve_ans V r k b re a1 a2 HC3.out HA3.out (by omega) (by have := HG.out.1; omega) ((HB3.out.cell (show (⟨9, 0, none⟩ : Addr).block < w.heap.size from by have := HG.out.1; show 9 < _; omega)).trans HG.out.2.1) ((HB3.out.cell (show (⟨11, 0, none⟩ : Addr).block < w.heap.size from HG.out.1)).trans HG.out.2.2) (few_fine HF.out ⟨by omega, by omega, by omega⟩) (by omega) HK.out (fun c hc => by have := HF.out.l c hc; omega) (by have := HF.out.a; omega))
  have hne := neqN
  clear HC3 HA3 HK HG
  go_wp2_with fail
  refine HSO.out.mono ?_
  rintro e w4 ⟨st, conf, x1, n1, y1, x2, n2, y2, x3, n3, y3, logs, rfl, hA, hb4⟩
  have HW4 := Lib.hid (HW3.out.below hb4 (by omega))
  have HB4 := Lib.hid (HB3.out.trans (hb4.mono (by omega)))
  have hs4 : w.heap.size + 1 ≤ w4.heap.size := by have := hb4.size; omega
  have hA5 := hA.keep ((Below.refl w4.heap.size w4).alloc (Nat.le_refl _) (.cells #[.int .i64 st, .slice x1 n1 y1, .slice x2 n2 y2, .slice x3 n3 y3, .int .i64 conf] 32))
  have hs5 : (w4.alloc (.cells #[.int .i64 st, .slice x1 n1 y1, .slice x2 n2 y2, .slice x3 n3 y3, .int .i64 conf] 32)).heap.size = w4.heap.size + 1 := by simp
  have hR5 := Whole.new w4 32 [.int .i64 st, .slice x1 n1 y1, .slice x2 n2 y2, .slice x3 n3 y3, .int .i64 conf]
  have hW5 : Whole (w4.alloc (.cells #[.int .i64 st, .slice x1 n1 y1, .slice x2 n2 y2, .slice x3 n3 y3, .int .i64 conf] 32)) w.heap.size 27 _ := HW4.out.below ((Below.refl _ _).alloc (Nat.le_refl _) _) (by omega)
  have HB5 : Hid (Below w.heap.size w (w4.alloc (.cells #[.int .i64 st, .slice x1 n1 y1, .slice x2 n2 y2, .slice x3 n3 y3, .int .i64 conf] 32))) := Lib.hid (HB4.out.alloc (by omega) _)
  have HA5 := Lib.hid hA5
  have HR5 := Lib.hid hR5
  have HW5 := Lib.hid hW5
  have HBD := Bad_any _ (.slice ac nc yc) (.slice x3 n3 y3) cs logs ((HC.out.keep HB5.out).mono (by omega)) hA5.log HN.out (by have := HF.out.n; omega) (by have := hA5.len; unfold cmax at this; omega) (fun c hc => by have := HF.out.l c hc; omega) (fun c hc => (log_len hA5.ok (by omega) c hc).1)
  rw [log_bad hA5.ok] at HBD
  have HBD := Lib.hid HBD
  clear k0 k1 k2 k3 k4 k5 k6
  obtain ⟨k0, k1, k2, k3, k4, k5, k6⟩ := seven hW5
  obtain ⟨r0, r1, r2, r3, r4⟩ := five hR5
  clear hb4 hA hA5 hR5 hW5 HW4 HW3 HB3 HSO
  go_wp2_with fail
  refine HBD.out.mono ?_
  rintro e w6 ⟨rfl, hb6⟩
  generalize w4.alloc (.cells #[.int .i64 st, .slice x1 n1 y1, .slice x2 n2 y2, .slice x3 n3 y3, .int .i64 conf] 32) = w5 at *
  generalize w4.heap.size = g at *
  have HB6 := Lib.hid hb6
  have hR6 := HR5.out.below hb6 (by omega)
  clear r0 r1 r2 r3 r4
  obtain ⟨r0, r1, r2, r3, r4⟩ := five hR6
  have HLN := Lib.hid (log_len HA5.out.ok (by omega))
  obtain ⟨al, capl, bl, offl, vl, hlv, hml, hall, hcl, hnl⟩ := HA5.out.log
  cases hlv
  have HAL := Lib.hid hall
  have HCL := Lib.hid hcl
  have HNL := Lib.hid hnl
  have HML := Lib.hid hml
  have hll : logs.length ≤ 40000000 := by have := HA5.out.len; unfold cmax at this; omega
  clear k0 k1 k2 k3 k4 k5 k6 hb6 hR6 hall hcl hnl hml HBD
  go_wp2
  go_loopw [61] (fun it wr => ∃ j : Nat, j ≤ logs.length ∧ it = .int .i64 j ∧ Below w5.heap.size w5 wr) (fun it _ => logs.length - (intOf it).toNat)
  case atStart => exact ⟨0, Nat.zero_le _, rfl, HB6.out⟩
  case round =>
    obtain ⟨j, hj, rfl, hb⟩ := hrel
    have HB := Lib.hid hb
    have hws := hb.size
    by_cases hjl : j < logs.length
    · obtain ⟨rfl, hblt⟩ := HAL.out (by intro h0; rw [h0] at hjl; simp at hjl)
      have q := (hb.cell (show (⟨bl, offl + j, none⟩ : Addr).block < w5.heap.size from hblt)).trans (HCL.out j hjl)
      have hij := ((HNL.out j hjl).keep hb).mono hws
      have hlg := HLN.out _ (getD_mem (d := []) hjl)
      have HRI := Lib.hid (Right14_any wr wr.heap.size (vl j) (logs.getD j []) hij (Nat.le_refl _) hlg.1 hlg.2.1 hlg.2.2)
      obtain ⟨ad, capd, bd, offd, hvd, _⟩ := hij
      rw [hvd] at q HRI
      generalize logs.getD j [] = d at *
      clear hb hlg hvd
      go_wp2_with fail
      refine HRI.out.mono ?_
      rintro e w7 ⟨rfl, hb7⟩
      have HB7 := Lib.hid (HB.out.trans (hb7.mono hws))
      clear hb7 HRI
      go_wp2
      go_roundw
      case rel => exact ⟨j + 1, by omega, by go_num, HB7.out⟩
      case measure => simp [intOf]; omega
    · obtain rfl : j = logs.length := by omega
      have hWr := HW5.out.below hb (by omega)
      have hRr := HR5.out.below hb (by omega)
      obtain ⟨k0, k1, k2, k3, k4, k5, k6⟩ := seven hWr
      clear r0 r1 r2 r3 r4
      obtain ⟨r0, r1, r2, r3, r4⟩ := five hRr
      have HWr := Lib.hid hWr
      have HRr := Lib.hid hRr
      have HBr := Lib.hid (HB5.out.trans (hb.mono (by omega)))
      have HPO := Lib.hid (Possible17_any _ _ cs asm V wr ((HC.out.keep HBr.out).mono HBr.out.size) ((HAI.out.keep HBr.out).mono HBr.out.size) hV10)
      have HA8 : Hid (∀ w8, Below wr.heap.size wr w8 → Ans w8 cs V asm b r st conf (.slice x1 n1 y1) (.slice x2 n2 y2) (.slice x3 logs.length y3) logs) := Lib.hid fun w8 h8 => (HA5.out.keep (hb.trans (h8.mono hws))).keep (Below.refl _ _)
      clear hb hWr hRr
      go_wp2_with fail
      refine HPO.out.mono ?_
      rintro e w8 ⟨p, rfl, hp, hb8⟩
      have hW8 := HWr.out.below hb8 (by omega)
      have hR8 := HRr.out.below hb8 (by omega)
      clear r0 r1 r2 r3 r4 k0 k1 k2 k3 k4 k5 k6
      obtain ⟨k0, k1, k2, k3, k4, k5, k6⟩ := seven hW8
      obtain ⟨r0, r1, r2, r3, r4⟩ := five hR8
      have hA8 := HA8.out w8 hb8
      have hB8 := HBr.out.trans (hb8.mono HBr.out.size)
      have hs8 := hB8.size
      have HB8 := Lib.hid hB8
      rcases hA8.kind with ⟨e1, e2, m, hm, hm2, h1, h2⟩ | ⟨e1, e2, K, l, hr, hn, hK, hl⟩ | ⟨e1, e2, e3, hcf, _⟩
      · subst e1
        subst hm2
        cases e2
        obtain rfl : p = true := hp.2 hA8.yes
        have HMO := Lib.hid (model_any (.slice ac nc yc) (.slice aa na ya) (.slice x1 n1 y1) 1 conf none 0 0 x3 logs.length y3 m ((HC.out.keep hB8).mono hs8) ((HAI.out.keep hB8).mono hs8) hm h1 h2 (by omega))
        have HR8 := Lib.hid hR8
        have hgs : g + 1 ≤ w8.heap.size := by have := hb8.size; omega
        clear hp hb8 hW8 hR8 hA8 hB8 hm h1 h2 HPO HA8
        go_wp2_with fail
        refine HMO.out.mono ?_
        rintro e w9 ⟨rfl, hb9⟩
        have hR9 := HR8.out.below hb9 (by omega)
        have HB9 := Lib.hid (HB8.out.trans (hb9.mono hs8))
        clear r0 r1 r2 r3 r4 k0 k1 k2 k3 k4 k5 k6
        obtain ⟨r0, r1, r2, r3, r4⟩ := five hR9
        clear hb9 hR9 HMO HR8
        go_wp2
        go_ret
        exact ⟨rfl, HB9.out⟩
      · subst e1
        cases e2
        obtain rfl : p = false := by
          cases p
          · rfl
          · exact absurd (hp.1 rfl) (hA8.no (by omega))
        have HR8 := Lib.hid hR8
        have hgs : g + 1 ≤ w8.heap.size := by have := hb8.size; omega
        have HCO : Hid (Calls Tryd.prog 14 #[.agg #[.int .i64 2, .slice none 0 0, .slice x2 n2 y2, .slice x3 logs.length y3, .int .i64 conf], .slice ac nc yc, .int .i64 V, .slice aa na ya] w8 fun e w' => e = .returned (.bool true) ∧ Below w8.heap.size w8 w') := Lib.hid (by
          have hlo := hA8.log
          have hok := hA8.ok
          clear HA8 HLN HAL HCL HNL HML HA5
          subst hl
          exact core_any (.slice ac nc yc) (.slice aa na ya) (.slice x2 n2 y2) _ 2 conf none 0 0 V K l ((HC.out.keep hB8).mono hs8) ((HAI.out.keep hB8).mono hs8) hr hlo hn hK hok hV10)
        clear hp hb8 hW8 hR8 hA8 hB8 hr hn hK hl HPO HA8 HA5 HLN HAL HCL HNL HML
        go_wp2_with fail
        refine HCO.out.mono ?_
        rintro e w9 ⟨rfl, hb9⟩
        have hR9 := HR8.out.below hb9 (by omega)
        have HB9 := Lib.hid (HB8.out.trans (hb9.mono hs8))
        clear r0 r1 r2 r3 r4 k0 k1 k2 k3 k4 k5 k6
        obtain ⟨r0, r1, r2, r3, r4⟩ := five hR9
        clear hb9 hR9 HCO HR8
        go_wp2
        go_ret
        exact ⟨rfl, HB9.out⟩
      · subst e1
        cases e2
        cases e3
        clear hp hb8 hW8 hR8 hA8 hB8 HPO HA8
        go_wp2
        go_ret
        exact ⟨rfl, HB8.out⟩
end Go.Proofs.YtjeckkkmoabjnaaDoor.satSo
