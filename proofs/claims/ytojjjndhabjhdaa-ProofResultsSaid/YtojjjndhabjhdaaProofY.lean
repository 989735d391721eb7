/-
  The law ProofChecks.
-/
import Derived.Test.YtojjjndhabjhdaaProofX
namespace Go.Proofs.Ytojjjndhabjhdaa.proofY
open Go.ChangeShapes Go.WideShapes Go.ChangeAt Go.RowKit proofP proofQ proofR owns proofA proofC proofG proofI proofJ proofM proofN proofO proofS proofT proofU proofV proofW proofX cls
set_option linter.unusedSimpArgs false
set_option linter.unusedVariables false

/-- an operation whose guard lets it go is as one without a guard -/
theorem unguard {P : Program} {ops : Array Oper} {Q : Exit → Act → World → Prop} {a : Act} {w : World} {rest : List Oper} {d : Option Tmp} {op : Op} {t : TypeId} {ps : String} {af : Array Edge} {g : Option (Nat × Bool)} (hw : Region.wanted ⟨d, op, t, ps, af, g⟩ (yielded ops a.tmps) = true)
    (h : wpList P ops Q (⟨d, op, t, ps, af, none⟩ :: rest) a w) : wpList P ops Q (⟨d, op, t, ps, af, g⟩ :: rest) a w := by
  unfold wpList at *
  rw [if_pos hw]
  rw [if_pos (by rfl)] at h
  exact h

/-- clauses and a log together, as they are appended -/
theorem few_app {cl log : List (List Int)} (h : Few cl log) : (cl ++ log).length ≤ 42 ∧ ∀ d ∈ cl ++ log, d.length ≤ 10 := by
  refine ⟨by rw [List.length_append]; have := h.1; have := h.2.2.1; omega, fun d hd => ?_⟩
  rcases List.mem_append.1 hd with h1 | h1
  · exact h.2.1 d h1
  · exact h.2.2.2 d h1

set_option maxRecDepth 100000 in
set_option maxHeartbeats 4000000 in
theorem law_checks (cv lv kv : Value) (cl log : List (List Int)) (core : List Int) (w : World) (hc : ClsAt w w.heap.size cv cl) (hl : ClsAt w w.heap.size lv log) (hk : IntsAt w w.heap.size kv core) (hn1 : Nilv cv) (hn2 : Nilv lv) :
    Calls Try.prog 5 #[cv, lv, kv] w fun e w' => e = .returned (.bool true) ∧ Below w.heap.size w w' := by
  have HC := Lib.hid hc
  have HL := Lib.hid hl
  have HK := Lib.hid hk
  have HN1 := Lib.hid hn1
  have HN2 := Lib.hid hn2
  have HAL := Lib.hid (alive_any w)
  obtain ⟨ac, capc, bc, offc, vsc, rfl, _, _, _, _⟩ := hc
  obtain ⟨al, capl, bl, offl, vsl, rfl, hml, hal, hcl, hnl⟩ := hl
  obtain ⟨av, capv, bv, offv, rfl, hmv, hva, hvc, hv64⟩ := hk
  have HAA := Lib.hid hal
  have HLC := Lib.hid hcl
  have HNL := Lib.hid hnl
  have HVA := Lib.hid hva
  have HVC := Lib.hid hvc
  have H64 := Lib.hid hv64
  unfold maxLen at hmv
  clear hn1 hn2 hal hcl hnl hml hva hvc hv64
  go_enter Try.func5, Try.ntmps5
  go_wp2_with fail
  refine HAL.out.mono ?_
  rintro e w1 ⟨rfl, hb1⟩
  have HB1 := Lib.hid hb1
  have HBG := Lib.hid (big_any _ _ cl log w1 w.heap.size (HC.out.keep hb1) (HL.out.keep hb1))
  clear hb1 HAL
  go_wp2_with fail
  refine HBG.out.mono ?_
  rintro e w2 ⟨b, rfl, rfl, hf⟩
  cases b
  rotate_left
  · clear hf HBG
    go_wp2
    go_ret
    exact ⟨rfl, HB1.out⟩
  have HF := Lib.hid (hf rfl)
  clear hf HBG
  by_cases hlen : core.length ≤ 20
  rotate_left
  · go_wp2
    go_ret
    exact ⟨rfl, HB1.out⟩
  have hs1 := HB1.out.size
  have HBD := Lib.hid (Bad_any w1 _ _ cl log ((HC.out.keep HB1.out).mono hs1) ((HL.out.keep HB1.out).mono hs1) HN1.out (by have := HF.out.1; omega) (by have := HF.out.2.2.1; omega) (fun c hc => by have := HF.out.2.1 c hc; omega) (fun c hc => by have := HF.out.2.2.2 c hc; omega))
  have HBC := Lib.hid (bad_cases cl log)
  go_wp2_with fail
  refine HBD.out.mono ?_
  rintro e w2 ⟨rfl, hb2⟩
  have HB2 := Lib.hid (HB1.out.trans (hb2.mono hs1))
  have hs2 := HB2.out.size
  have HCK := Lib.hid (Check_any w2 w.heap.size _ _ cl log (HC.out.keep HB2.out) (HL.out.keep HB2.out) hs2 (by have := HF.out.1; omega) (by have := HF.out.2.2.1; omega) (fun c hc => by have := HF.out.2.1 c hc; omega) (fun c hc => by have := HF.out.2.2.2 c hc; omega))
  have HRF : Hid (∀ w6 : World, Below w.heap.size w w6 → Calls Try.prog 17 #[.slice ac cl.length capc, .slice al log.length capl, .slice av core.length capv] w6 fun e w' => e = .returned (.bool (decide (bad cl log < 0) && pl (cl ++ log) (core.map ng))) ∧ Below w.heap.size w w') := Lib.hid (fun w6 hb6 => by
    refine (Refutes_any w6 w.heap.size _ _ _ cl log core (HC.out.keep hb6) (HL.out.keep hb6) (HK.out.keep hb6) hb6.size (by have := HF.out.1; omega) (by have := HF.out.2.2.1; omega) (fun c hc => by have := HF.out.2.1 c hc; omega) (fun c hc => by have := HF.out.2.2.2 c hc; omega) (by omega)).mono ?_
    rintro e w7 ⟨rfl, hb7⟩
    exact ⟨rfl, hb6.trans (hb7.mono hb6.size)⟩)
  generalize bad cl log = bd at *
  clear hb2 HBD
  go_wp2_with fail
  refine HCK.out.mono ?_
  rintro e w3 ⟨rfl, hb3⟩
  have HB3 := Lib.hid (HB2.out.trans (hb3.mono hs2))
  clear hb3 HCK HB2
  have hbb : (bd != bd) = false := by simp
  go_wp2
  go_loopw [34] (fun it wr => ∃ k : Nat, k ≤ log.length ∧ it = .int .i64 k ∧ Below w.heap.size w wr) (fun it _ => log.length - (intOf it).toNat)
  case atStart => exact ⟨0, Nat.zero_le _, rfl, HB3.out⟩
  case round =>
    obtain ⟨k, hk, rfl, hb⟩ := hrel
    have HB := Lib.hid hb
    have hws := hb.size
    have hk12 : log.length ≤ 12 := HF.out.2.2.1
    by_cases hlt : k < log.length
    · obtain ⟨rfl, hbB⟩ := HAA.out (by intro h0; rw [h0] at hlt; simp at hlt)
      have q : wr.cell? ⟨bl, offl + k, none⟩ = some (vsl k) := by rw [hb.cell (show (⟨bl, offl + k, none⟩ : Addr).block < w.heap.size from hbB)]; exact HLC.out k hlt
      have hd10 : (log.getD k []).length ≤ 10 := HF.out.2.2.2 _ (getD_mem (d := []) hlt)
      have hIk := HNL.out k hlt
      have HIK := Lib.hid hIk
      have HP1 := Lib.hid (Plain_any wr w.heap.size _ (vsl k) cl (log.getD k []) (HC.out.keep hb) (hIk.keep hb) hws (by have := HF.out.1; omega) (fun c hc => by have := HF.out.2.1 c hc; omega) (by omega))
      have HP2 : Hid (∀ w4 : World, Below w.heap.size w w4 → Calls Try.prog 16 #[.slice ac cl.length capc, vsl k] w4 fun e w' => e = .returned (.bool (pl cl (log.getD k []))) ∧ Below w.heap.size w w') := Lib.hid (fun w4 hb4 => by
        refine (RPlain_any w4 w.heap.size _ (vsl k) cl (log.getD k []) (HC.out.keep hb4) (HIK.out.keep hb4) hb4.size (fun c hc => by have := HF.out.2.1 c hc; omega) (by omega)).mono ?_
        rintro e w5 ⟨rfl, hb5⟩
        exact ⟨rfl, hb4.trans (hb5.mono hb4.size)⟩)
      obtain ⟨ai, capi, bi, offi, hvi, _⟩ := hIk
      rw [hvi] at q HP1 HP2
      generalize pl cl (log.getD k []) = r at *
      generalize (log.getD k []).length = dl at *
      clear hb HIK hvi
      go_wp2_with fail
      refine HP1.out.mono ?_
      rintro e w4 ⟨rfl, hb4⟩
      have HB4 := Lib.hid (HB.out.trans (hb4.mono hws))
      have HQ := Lib.hid (HP2.out w4 HB4.out)
      clear hb4 HP1 HP2
      go_wp2_with fail
      refine HQ.out.mono ?_
      rintro e w5 ⟨rfl, hb5⟩
      have HB5 := Lib.hid hb5
      clear hb5 HQ HB4
      have hrr : (r != r) = false := by simp
      go_wp2
      go_roundw
      case rel => exact ⟨k + 1, by omega, by go_num, HB5.out⟩
      case measure => simp [intOf]; omega
    · clear HB3 HAA HLC HNL
      have HE0 := Lib.hid (own_mono (IntsR.empty wr) hws)
      have HBA := Lib.hid (hb.alloc hws (.cells #[] 3))
      clear hb
      go_wp2
      go_loopw [10, 49] (fun ov it wr => ∃ (k n cp : Nat) (ao : Option Addr), k ≤ core.length ∧ it = .int .i64 k ∧ ov = .slice ao n cp ∧ IntsR wr w.heap.size (.slice ao n cp) ((core.take k).map ng) ∧ Below w.heap.size w wr) (fun _ it _ => core.length - (intOf it).toNat)
      case atStart => exact ⟨0, 0, 0, _, Nat.zero_le _, rfl, rfl, HE0.out, HBA.out⟩
      case round =>
        clear HE0 HBA HB hws hlt hk
        obtain ⟨k, n, cp, ao, hk, rfl, rfl, hr, hb⟩ := hrel
        have HR := Lib.hid hr
        have HB := Lib.hid hb
        have hws := hb.size
        by_cases hlt : k < core.length
        · obtain ⟨rfl, hbB⟩ := HVA.out (by intro h0; rw [h0] at hlt; simp at hlt)
          have q : wr.cell? ⟨bv, offv + k, none⟩ = some (.int .i64 (core.getD k 0)) := by
            rw [hb.cell (show (⟨bv, offv + k, none⟩ : Addr).block < w.heap.size from hbB)]; exact HVC.out k hlt
          have hi64 := H64.out _ (getD_mem (d := 0) hlt)
          have HSN := Lib.hid (map_snoc hlt)
          have HXN := Lib.hid (ints_new wr (ng (core.getD k 0)) (ng_in hi64))
          have hwp := ng_wrap hi64
          have HRA := Lib.hid (HR.out.alloc (.cells #[.int .i64 (ng (core.getD k 0))] 3))
          have HS2 : Hid (w.heap.size ≤ (wr.alloc (.cells #[.int .i64 (ng (core.getD k 0))] 3)).heap.size) := Lib.hid (by simp; omega)
          have HBA := Lib.hid (HB.out.alloc hws (.cells #[.int .i64 (ng (core.getD k 0))] 3))
          have HL0 : Hid (((core.take k).map ng).length ≤ 1000000) := Lib.hid (by simp; omega)
          have HL1 : Hid ([ng (core.getD k 0)].length ≤ 1000000) := Lib.hid (by simp)
          generalize core.getD k 0 = x at *
          generalize ng x = y at *
          obtain ⟨i1, i2⟩ := hi64
          clear hr hb
          go_wp2_with (at_builtin; refine wpList_append_ints _ rfl (.tmp 53) (.tmp 56) 29 rfl Try.underlying29 w.heap.size (.slice ao n cp) (.slice (some ⟨wr.heap.size, 0, none⟩) 1 1) ((core.take k).map ng) [y] rfl HRA.out rfl HXN.out (Nilv.some _ _ _) HL0.out HL1.out HS2.out ?_)
          intro a1 n1 c1 w4 ho1 hb1 hn1
          have HO1 : Hid (IntsR w4 w.heap.size (.slice a1 n1 c1) ((core.take (k + 1)).map ng)) := Lib.hid (by rw [HSN.out, List.map_take]; exact ho1)
          have HB1 := Lib.hid (HBA.out.trans hb1)
          clear ho1 hb1
          go_wp2
          go_roundw
          case rel => exact ⟨k + 1, _, _, _, by omega, by go_num, rfl, HO1.out, HB1.out⟩
          case measure => simp [intOf]; omega
        · obtain rfl : k = core.length := by omega
          rw [List.take_length] at hr
          have HOP := Lib.hid (hr.at (map_in H64.out))
          have HI0 := Lib.hid (HRF.out wr hb)
          clear hr HR HVA HVC
          rcases HBC.out with ⟨rfl, _⟩ | ⟨i, hi1, rfl, _, _⟩
          rotate_left
          · have HQ : Hid (Calls Try.prog 17 #[.slice ac cl.length capc, .slice al log.length capl, .slice av core.length capv] wr fun e w' => e = .returned (.bool false) ∧ Below w.heap.size w w') := Lib.hid (by
              refine HI0.out.mono ?_
              rintro e w7 ⟨rfl, hb7⟩
              exact ⟨by rw [decide_eq_false (by omega)]; rfl, hb7⟩)
            have hge : ¬ ((i : Int) < 0) := by omega
            clear HBC HRF HI0 hb HOP
            go_wp2_with fail
            refine HQ.out.mono ?_
            rintro e w7 ⟨rfl, hb7⟩
            have HB7 := Lib.hid hb7
            clear hb7 HQ
            go_wp2
            go_ret
            exact ⟨rfl, HB7.out⟩
          · have HX0 := Lib.hid (ClsR.empty wr w.heap.size)
            have hbA := hb.alloc hws (.cells #[] 30)
            have HK0 := Lib.hid (HC.out.keep hbA)
            have HBA := Lib.hid hbA
            have hsA : wr.heap.size ≤ (wr.alloc (.cells #[] 30)).heap.size := by simp
            have HSA := Lib.hid hsA
            have HBW : Hid (Below wr.heap.size wr (wr.alloc (.cells #[] 30))) := Lib.hid ((Below.refl _ _).alloc (Nat.le_refl _) _)
            clear hbA hsA HBC hb HI0
            go_wp2_with (at_builtin; refine unguard rfl ?_; refine wpList_append_cls _ rfl (.tmp 62) (.tmp 63) rfl w.heap.size wr.heap.size _ _ [] cl rfl HX0.out rfl HK0.out HN1.out ?a1 ?a2 HSA.out hws ?_)
            case a1 => simp
            case a2 => have := HF.out.1; omega
            intro a3 N3 c3 w3 hr3 hb3 hN3
            have HR3 : Hid (ClsR w3 w.heap.size wr.heap.size (.slice a3 N3 c3) cl) := Lib.hid hr3
            have HB3 := Lib.hid (HBA.out.trans (hb3.mono hws))
            have HW3 := Lib.hid (HBW.out.trans hb3)
            have hs3 : wr.heap.size ≤ w3.heap.size := Nat.le_trans HSA.out hb3.size
            clear hr3 hb3 HK0 HBA HX0 HBW
            go_wp2_with (at_builtin; refine unguard rfl ?_; refine wpList_append_cls _ rfl (.tmp 64) (.tmp 65) rfl w.heap.size wr.heap.size _ _ cl log rfl HR3.out rfl (HL.out.keep HB3.out) HN2.out ?a3 ?a4 hs3 hws ?_)
            case a3 => have := HF.out.1; omega
            case a4 => have := HF.out.2.2.1; omega
            intro a4 N4 c4 w4 hr4 hb4 hN4
            have HB4 := Lib.hid (HB3.out.trans (hb4.mono hws))
            have HW4 := Lib.hid (HW3.out.trans hb4)
            have hs4 := HB4.out.size
            have hs5 := HW4.out.size
            have HP := Lib.hid (RPlain_any w4 w4.heap.size _ _ (cl ++ log) (core.map ng) (hr4.at hs4) ((HOP.out.keep HW4.out).mono hs5) (Nat.le_refl _) (fun c hc => by have := (few_app HF.out).2 c hc; omega) (by simp; omega))
            have HRG : Hid (∀ w6 : World, Below w.heap.size w w6 → Calls Try.prog 17 #[.slice ac cl.length capc, .slice al log.length capl, .slice av core.length capv] w6 fun e w' => e = .returned (.bool (pl (cl ++ log) (core.map ng))) ∧ Below w.heap.size w w') := Lib.hid (fun w6 hb6 => by
              refine (HRF.out w6 hb6).mono ?_
              rintro e w7 ⟨rfl, hb7⟩
              exact ⟨by rw [decide_eq_true (by omega)]; rfl, hb7⟩)
            generalize pl (cl ++ log) (core.map ng) = r at *
            clear hr4 hb4 HR3 hs3 hN3 hN4 HRF HOP
            go_wp2_with fail
            refine HP.out.mono ?_
            rintro e w5 ⟨rfl, hb5⟩
            have HB5 := Lib.hid (HB4.out.trans (hb5.mono hs4))
            have HQ := Lib.hid (HRG.out w5 HB5.out)
            clear hb5 HP HRG
            have hrr : (r == r) = true := by simp
            cases r
            · go_wp2_with fail
              refine HQ.out.mono ?_
              rintro e w7 ⟨rfl, hb7⟩
              have HB7 := Lib.hid hb7
              clear hb7 HQ
              go_wp2
              go_ret
              exact ⟨rfl, HB7.out⟩
            · go_wp2_with fail
              refine HQ.out.mono ?_
              rintro e w7 ⟨rfl, hb7⟩
              have HB7 := Lib.hid hb7
              clear hb7 HQ
              go_wp2
              go_ret
              exact ⟨rfl, HB7.out⟩
end Go.Proofs.Ytojjjndhabjhdaa.proofY
