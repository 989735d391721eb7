/-
  The law ProofResults.
-/
import Derived.Test.YtojjjndhabjhdaaResC
namespace Go.Proofs.Ytojjjndhabjhdaa.resD
open Go.ChangeShapes Go.WideShapes Go.ChangeAt Go.RowKit proofP proofQ proofR owns proofA proofC proofG proofI proofJ proofK proofM proofN proofO proofS proofT proofU proofV proofW proofX proofY resA resB resC cls
set_option linter.unusedSimpArgs false
set_option linter.unusedVariables false

theorem bools_mono {w : World} {B B' : Nat} {v : Value} {m : List Bool} (h : BoolsAt w B v m) (hB : B ≤ B') : BoolsAt w B' v m := by
  obtain ⟨am, capm, bm, offm, e, e1, e2, e3⟩ := h
  exact ⟨am, capm, bm, offm, e, e1, fun h => ⟨(e2 h).1, Nat.lt_of_lt_of_le (e2 h).2 hB⟩, e3⟩

set_option maxRecDepth 100000 in
set_option maxHeartbeats 8000000 in
theorem law_results (cv av mv kv lv : Value) (vars st cf : Int) (cl log : List (List Int)) (m : List Bool) (asm core : List Int) (w : World) (hc : ClsAt w w.heap.size cv cl) (hl : ClsAt w w.heap.size lv log) (hm : BoolsAt w w.heap.size mv m) (ha : IntsAt w w.heap.size av asm) (hk : IntsAt w w.heap.size kv core) (hn1 : Nilv cv) (hn2 : Nilv lv) (hv64 : In64 vars) (hst : In64 st) :
    Calls Try.prog 7 #[.agg #[cv, .int .i64 vars, av, .int .i64 st, mv, kv, lv, .int .i64 cf]] w fun e w' => e = .returned (.bool true) ∧ Below w.heap.size w w' := by
  have HC := Lib.hid hc
  have HL := Lib.hid hl
  have HM := Lib.hid hm
  have HA := Lib.hid ha
  have HK := Lib.hid hk
  have HN1 := Lib.hid hn1
  have HN2 := Lib.hid hn2
  have HV64 := Lib.hid hv64
  have HST := Lib.hid hst
  obtain ⟨ac, capc, bc, offc, vsc, rfl, _, _, _, _⟩ := hc
  obtain ⟨al, capl, bl, offl, vsl, rfl, _, _, _, _⟩ := hl
  obtain ⟨am, capm, bm, offm, rfl, hmm, _, _⟩ := hm
  obtain ⟨aa, capa, ba, offa, rfl, hma, haa, hac, ha64⟩ := ha
  obtain ⟨ak, capk, bk, offk, rfl, hmk, hka, hkc, hk64⟩ := hk
  have HAA := Lib.hid haa
  have HAC := Lib.hid hac
  have HA64 := Lib.hid ha64
  have HKA := Lib.hid hka
  have HKC := Lib.hid hkc
  have HK64 := Lib.hid hk64
  unfold maxLen at hmm hma hmk
  have HAL := Lib.hid (alive_any (w.alloc (.cells #[.slice ac cl.length capc, .int .i64 vars, .slice aa asm.length capa, .int .i64 st, .slice am m.length capm, .slice ak core.length capk, .slice al log.length capl, .int .i64 cf] 42)))
  have HW0 := Lib.hid (Whole.new w 42 [.slice ac cl.length capc, .int .i64 vars, .slice aa asm.length capa, .int .i64 st, .slice am m.length capm, .slice ak core.length capk, .slice al log.length capl, .int .i64 cf])
  have HB0 : Hid (Below w.heap.size w (w.alloc (.cells #[.slice ac cl.length capc, .int .i64 vars, .slice aa asm.length capa, .int .i64 st, .slice am m.length capm, .slice ak core.length capk, .slice al log.length capl, .int .i64 cf] 42)) ∧ w.heap.size < (w.alloc (.cells #[.slice ac cl.length capc, .int .i64 vars, .slice aa asm.length capa, .int .i64 st, .slice am m.length capm, .slice ak core.length capk, .slice al log.length capl, .int .i64 cf] 42)).heap.size) := Lib.hid ⟨(Below.refl _ _).alloc (Nat.le_refl _) _, by simp⟩
  clear hn1 hn2 hv64 hst haa hac ha64 hka hkc hk64
  go_enter Try.func7, Try.ntmps7
  go_wp2_with fail
  refine HAL.out.mono ?_
  rintro e w1 ⟨rfl, hb1⟩
  have HB1 : Hid (Below w.heap.size w w1 ∧ w.heap.size < w1.heap.size) := Lib.hid ⟨HB0.out.1.trans (hb1.mono HB0.out.1.size), Nat.lt_of_lt_of_le HB0.out.2 hb1.size⟩
  have hx : ∀ i, w1.cell? ⟨w.heap.size, i, none⟩ = [.slice ac cl.length capc, .int .i64 vars, .slice aa asm.length capa, .int .i64 st, .slice am m.length capm, .slice ak core.length capk, .slice al log.length capl, .int .i64 cf][i]? := fun i => (hb1.cell (p := ⟨w.heap.size, i, none⟩) HB0.out.2).trans (HW0.out.cell i)
  have x0 : w1.cell? ⟨w.heap.size, 0, none⟩ = some (.slice ac cl.length capc) := hx 0
  have x1 : w1.cell? ⟨w.heap.size, 1, none⟩ = some (.int .i64 vars) := hx 1
  have x2 : w1.cell? ⟨w.heap.size, 2, none⟩ = some (.slice aa asm.length capa) := hx 2
  have x3 : w1.cell? ⟨w.heap.size, 3, none⟩ = some (.int .i64 st) := hx 3
  have x4 : w1.cell? ⟨w.heap.size, 4, none⟩ = some (.slice am m.length capm) := hx 4
  have x5 : w1.cell? ⟨w.heap.size, 5, none⟩ = some (.slice ak core.length capk) := hx 5
  have x6 : w1.cell? ⟨w.heap.size, 6, none⟩ = some (.slice al log.length capl) := hx 6
  have x7 : w1.cell? ⟨w.heap.size, 7, none⟩ = some (.int .i64 cf) := hx 7
  have hbl := HB1.out.2
  have HF2 : Hid (∀ W : World, w1.alloc (.cells #[.int .i64 st, .slice am m.length capm, .slice ak core.length capk, .slice al log.length capl, .int .i64 cf] 40) = W → Fld W w.heap.size w1.heap.size (.slice ac cl.length capc) (.slice aa asm.length capa) (.slice am m.length capm) (.slice ak core.length capk) (.slice al log.length capl) vars st cf ∧ Below w.heap.size w W ∧ w.heap.size < W.heap.size ∧ w1.heap.size < W.heap.size) := Lib.hid (fun W hW => by
    have hba : Below w1.heap.size w1 W := hW ▸ (Below.refl _ _).alloc (Nat.le_refl _) _
    have hwn := Whole.new w1 40 [.int .i64 st, .slice am m.length capm, .slice ak core.length capk, .slice al log.length capl, .int .i64 cf]
    have hsz : W.heap.size = w1.heap.size + 1 := by rw [← hW]; simp
    change Whole (w1.alloc (.cells #[.int .i64 st, .slice am m.length capm, .slice ak core.length capk, .slice al log.length capl, .int .i64 cf] 40)) _ _ _ at hwn
    rw [hW] at hwn
    exact ⟨⟨(hba.cell (p := ⟨w.heap.size, 0, none⟩) hbl).trans x0, (hba.cell (p := ⟨w.heap.size, 1, none⟩) hbl).trans x1, (hba.cell (p := ⟨w.heap.size, 2, none⟩) hbl).trans x2, hwn.cell 0, hwn.cell 1, hwn.cell 2, hwn.cell 3, hwn.cell 4⟩, HB1.out.1.trans (hba.mono (by omega)), by omega, by omega⟩)
  have HBG : Hid (∀ W : World, w1.alloc (.cells #[.int .i64 st, .slice am m.length capm, .slice ak core.length capk, .slice al log.length capl, .int .i64 cf] 40) = W → Calls Try.prog 9 #[.slice ac cl.length capc, .slice al log.length capl] W (FewP cl log W)) := Lib.hid (fun W hW => big_any _ _ cl log W w.heap.size (HC.out.keep (HF2.out W hW).2.1) (HL.out.keep (HF2.out W hW).2.1))
  clear HAL hb1 HW0 HB0 hx
  generalize hsb1 : w.heap.size = b1 at *
  have HSB1 := Lib.hid hsb1
  clear hsb1
  go_wp2_with fail
  refine (HBG.out _ rfl).mono ?_
  rintro e w2 ⟨b, rfl, hw2, hf⟩
  obtain ⟨F2, hb2, hl1, hl2⟩ := HF2.out w2 hw2
  have HFL := Lib.hid F2
  have HB2 := Lib.hid hb2
  obtain ⟨fx0, fx1, fx2, fy0, fy1, fy2, fy3, fy4⟩ := F2
  clear hw2 HF2 HBG HB1 x0 x1 x2 x3 x4 x5 x6 x7 hb2 hbl
  generalize w1.heap.size = b2 at *
  cases b
  rotate_left
  · clear hf
    go_wp2
    go_ret
    exact ⟨rfl, HSB1.out ▸ HB2.out⟩
  have HF := Lib.hid (hf rfl)
  clear hf
  by_cases hlenA : asm.length ≤ 20
  rotate_left
  · go_wp2
    go_ret
    exact ⟨rfl, HSB1.out ▸ HB2.out⟩
  by_cases hlenK : core.length ≤ 20
  rotate_left
  · go_wp2
    go_ret
    exact ⟨rfl, HSB1.out ▸ HB2.out⟩
  by_cases hlenM : m.length ≤ 100
  rotate_left
  · go_wp2
    go_ret
    exact ⟨rfl, HSB1.out ▸ HB2.out⟩
  have hsz2 : b1 ≤ w2.heap.size := HB2.out.size |> (HSB1.out ▸ ·)
  have HRA := Lib.hid (All_any _ _ cl m w2 b1 b1 (HC.out.keep HB2.out) (HM.out.keep HB2.out))
  have HAN : Hid (∀ k, k < asm.length → (allIn cl m && ((asm.take (k + 1)).all fun x => holds x m)) = ((allIn cl m && ((asm.take k).all fun x => holds x m)) && holds (asm.getD k 0) m)) := Lib.hid (fun k hk => by rw [all_snoc (d := 0) hk, Bool.and_assoc])
  have HA0 : Hid (allIn cl m = (allIn cl m && ((asm.take 0).all fun x => holds x m))) := Lib.hid (by simp)
  have HMO : Hid (∀ W, Below b1 w W → Calls Try.prog 22 #[.slice ac cl.length capc, .slice am m.length capm, .slice aa asm.length capa] W fun e w' => e = .returned (.bool (modelOk cl m asm)) ∧ Below W.heap.size W w') := Lib.hid (fun W hb => Model_any _ _ _ cl m asm W ((HC.out.keep hb).mono (HSB1.out ▸ hb.size)) (bools_mono (HM.out.keep hb) (HSB1.out ▸ hb.size)) ((HA.out.keep hb).mono (HSB1.out ▸ hb.size)))
  have HBD : Hid (∀ W, Below b1 w W → Calls Try.prog 15 #[.slice ac cl.length capc, .slice al log.length capl] W fun e w' => e = .returned (.int .i64 (bad cl log)) ∧ Below W.heap.size W w') := Lib.hid (fun W hb => Bad_any W _ _ cl log ((HC.out.keep hb).mono (HSB1.out ▸ hb.size)) ((HL.out.keep hb).mono (HSB1.out ▸ hb.size)) HN1.out (by have := HF.out.1; omega) (by have := HF.out.2.2.1; omega) (fun c hc => by have := HF.out.2.1 c hc; omega) (fun c hc => by have := HF.out.2.2.2 c hc; omega))
  have HRS : Hid (∀ W, Below b1 w W → Calls Try.prog 24 #[.slice ac cl.length capc, .int .i64 vars, .slice aa asm.length capa, .agg #[.int .i64 st, .slice am m.length capm, .slice ak core.length capk, .slice al log.length capl, .int .i64 cf]] W fun e w' => e = .returned (.bool (resultOk cl vars asm st m core log)) ∧ Below b1 w w') := Lib.hid (fun W hb => by
    have hsz : b1 ≤ W.heap.size := HSB1.out ▸ hb.size
    refine (Result_any _ _ _ _ _ vars st cf cl log m asm core W ((HC.out.keep hb).mono hsz) ((HL.out.keep hb).mono hsz) (bools_mono (HM.out.keep hb) hsz) ((HA.out.keep hb).mono hsz) ((HK.out.keep hb).mono hsz) (by have := HF.out.1; omega) (by have := HF.out.2.2.1; omega) (fun c hc => by have := HF.out.2.1 c hc; omega) (fun c hc => by have := HF.out.2.2.2 c hc; omega) (by omega) (by omega) HV64.out HST.out).mono ?_
    rintro e w' ⟨rfl, hb'⟩
    exact ⟨rfl, hb.trans (hb'.mono hsz)⟩)
  generalize hal : allIn cl m = a0 at *
  have HALL := Lib.hid hal
  clear hal
  go_wp2_with fail
  refine HRA.out.mono ?_
  rintro e w3 ⟨rfl, rfl⟩
  clear HRA
  go_wp2
  go_loop [4, 47] (fun bv it => ∃ (k : Nat) (b : Bool), k ≤ asm.length ∧ it = .int .i64 k ∧ bv = .bool b ∧ Hid (b = (a0 && ((asm.take k).all fun x => holds x m)))) (fun _ it => asm.length - (intOf it).toNat)
  case atStart => exact ⟨0, a0, Nat.zero_le _, rfl, rfl, HA0⟩
  case round =>
    clear HA0
    obtain ⟨k, b, hk, rfl, rfl, hbk⟩ := hrel
    by_cases hlt : k < asm.length
    · obtain ⟨rfl, hbB⟩ := HAA.out (by intro h0; rw [h0] at hlt; simp at hlt)
      have q : w2.cell? ⟨ba, offa + k, none⟩ = some (.int .i64 (asm.getD k 0)) := by rw [HB2.out.cell (show (⟨ba, offa + k, none⟩ : Addr).block < b1 from hbB)]; exact HAC.out k hlt
      have HHO := Lib.hid (Holds_any (asm.getD k 0) _ m w2 b1 (HM.out.keep HB2.out) (HA64.out _ (getD_mem (d := 0) hlt)))
      have HNX : Hid ((a0 && ((asm.take (k + 1)).all fun x => holds x m)) = (b && holds (asm.getD k 0) m)) := Lib.hid (by rw [HAN.out k hlt, ← hbk.out])
      generalize holds (asm.getD k 0) m = r at *
      generalize asm.getD k 0 = x at *
      clear hbk
      cases b
      · go_wp2
        go_round
        case rel => exact ⟨k + 1, false, by omega, by go_num, rfl, Lib.hid HNX.out.symm⟩
        case measure => simp [intOf]; omega
      · go_wp2_with (go_at_call 21; refine HHO.out.mono ?_; rintro e w' ⟨rfl, rfl⟩)
        go_round
        case rel => exact ⟨k + 1, r, by omega, by go_num, rfl, Lib.hid HNX.out.symm⟩
        case measure => simp [intOf]; omega
    · obtain rfl : k = asm.length := by omega
      rw [List.take_length] at hbk
      have HMOK : Hid (modelOk cl m asm = b) := Lib.hid (by rw [hbk.out, ← HALL.out]; rfl)
      have HQ := Lib.hid (HMO.out w2 HB2.out)
      rw [HMOK.out] at HQ
      clear hbk HMO HAN HAA HAC HA64 hlt hk
      go_wp2_with fail
      refine HQ.out.mono ?_
      rintro e w3 ⟨rfl, hb3⟩
      have HB3 := Lib.hid (HB2.out.trans (hb3.mono hsz2))
      have HF3 := Lib.hid (HFL.out.keep hb3 hl1 hl2)
      have hl13 : b1 < w3.heap.size := Nat.lt_of_lt_of_le hl1 hb3.size
      have hl23 : b2 < w3.heap.size := Nat.lt_of_lt_of_le hl2 hb3.size
      have HQ2 := Lib.hid (HBD.out w3 HB3.out)
      obtain ⟨gx0, gx1, gx2, gy0, gy1, gy2, gy3, gy4⟩ := HF3.out
      have hbb : (b != b) = false := by simp
      have HBC := Lib.hid (bad_cases cl log)
      generalize hbad : bad cl log = bd at *
      have HBAD := Lib.hid hbad
      clear hb3 HQ HBD fx0 fx1 fx2 fy0 fy1 fy2 fy3 fy4 HFL hbad
      go_wp2_with fail
      refine HQ2.out.mono ?_
      rintro e w4 ⟨rfl, hb4⟩
      have HB4 := Lib.hid (HB3.out.trans (hb4.mono (Nat.le_of_lt hl13)))
      have HF4 := Lib.hid (HF3.out.keep hb4 hl13 hl23)
      have hl14 : b1 < w4.heap.size := Nat.lt_of_lt_of_le hl13 hb4.size
      have hl24 : b2 < w4.heap.size := Nat.lt_of_lt_of_le hl23 hb4.size
      obtain ⟨ix0, ix1, ix2, iy0, iy1, iy2, iy3, iy4⟩ := HF4.out
      clear hb4 HQ2 gx0 gx1 gx2 gy0 gy1 gy2 gy3 gy4 HF3 hbb
      have HRO : Hid (resultOk cl vars asm st m core log = if st = 1 then decide ((m.length : Int) = vars) && b else if st = 2 then (core.all fun l => asm.contains l) && (decide (bd < 0) && pl (cl ++ log) (core.map ng)) else decide (bd < 0)) := Lib.hid (by
        unfold resultOk refutes; rw [HMOK.out, HBAD.out])
      obtain ⟨v1, v2⟩ := HV64.out
      obtain ⟨t1, t2⟩ := HST.out
      by_cases hs1 : st = 1
      · subst hs1
        have HE : Hid (resultOk cl vars asm 1 m core log = (decide ((m.length : Int) = vars) && b)) := Lib.hid (by rw [HRO.out]; rfl)
        have HQ3 := Lib.hid (HRS.out w4 HB4.out)
        rw [HE.out] at HQ3
        clear HRO HRS HKA HKC HK64 HE
        by_cases hv : (m.length : Int) = vars
        · rw [decide_eq_true hv, Bool.true_and] at HQ3
          subst hv
          have hbb : (b == b) = true := by simp
          go_wp2_with fail
          refine HQ3.out.mono ?_
          rintro e w5 ⟨rfl, hb5⟩
          have HB5 := Lib.hid hb5
          clear hb5 HQ3
          go_wp2
          go_ret
          exact ⟨rfl, HSB1.out ▸ HB5.out⟩
        · rw [decide_eq_false hv, Bool.false_and] at HQ3
          go_wp2_with fail
          refine HQ3.out.mono ?_
          rintro e w5 ⟨rfl, hb5⟩
          have HB5 := Lib.hid hb5
          clear hb5 HQ3
          go_wp2
          go_ret
          exact ⟨rfl, HSB1.out ▸ HB5.out⟩
      · by_cases hs2 : st = 2
        · subst hs2
          have HE : Hid (resultOk cl vars asm 2 m core log = ((core.all fun l => asm.contains l) && (decide (bd < 0) && pl (cl ++ log) (core.map ng)))) := Lib.hid (by rw [HRO.out]; rfl)
          clear HRO
          have hws := hl14
          have HE0 := Lib.hid (own_mono (IntsR.empty w4) (Nat.le_refl _))
          have HBA : Hid (Below w4.heap.size w4 (w4.alloc (.cells #[] 3))) := Lib.hid ((Below.refl _ _).alloc (Nat.le_refl _) _)
          have HW0 : Hid (decide (bd < 0) = (decide (bd < 0) && ((core.take 0).all fun l => asm.contains l))) := Lib.hid (by simp)
          have HWN : Hid (∀ k, k < core.length → (decide (bd < 0) && ((core.take (k + 1)).all fun l => asm.contains l)) = ((decide (bd < 0) && ((core.take k).all fun l => asm.contains l)) && asm.contains (core.getD k 0))) := Lib.hid (fun k hk => by rw [all_snoc (d := 0) hk, Bool.and_assoc])
          generalize hd0 : decide (bd < 0) = d0 at *
          go_wp2
          go_loopw [8, 9, 94] (fun bv ov it wr => ∃ (k n cp : Nat) (ao : Option Addr) (b' : Bool), k ≤ core.length ∧ it = .int .i64 k ∧ bv = .bool b' ∧ ov = .slice ao n cp ∧ Hid (b' = (d0 && ((core.take k).all fun l => asm.contains l))) ∧ IntsR wr w4.heap.size (.slice ao n cp) ((core.take k).map ng) ∧ Below w4.heap.size w4 wr) (fun _ _ it _ => core.length - (intOf it).toNat)
          case atStart => exact ⟨0, 0, 0, _, d0, Nat.zero_le _, rfl, rfl, rfl, HW0, HE0.out, HBA.out⟩
          case round =>
            clear HE0 HBA HW0 hd0
            obtain ⟨k, n, cp, ao, b', hk, rfl, rfl, rfl, hbk, hr, hb⟩ := hrel
            have HR := Lib.hid hr
            have HBW := Lib.hid hb
            have HB5 := Lib.hid (HB4.out.trans (hb.mono (Nat.le_of_lt hl14)))
            have HF5 := Lib.hid (HF4.out.keep hb hl14 hl24)
            have hws5 := hb.size
            by_cases hlt : k < core.length
            · obtain ⟨rfl, hbB⟩ := HKA.out (by intro h0; rw [h0] at hlt; simp at hlt)
              have q : wr.cell? ⟨bk, offk + k, none⟩ = some (.int .i64 (core.getD k 0)) := by
                rw [HB5.out.cell (show (⟨bk, offk + k, none⟩ : Addr).block < b1 from hbB)]; exact HKC.out k hlt
              have jx2 := HF5.out.x2
              have hi64 := HK64.out _ (getD_mem (d := 0) hlt)
              have HSN := Lib.hid (map_snoc hlt)
              have HXN := Lib.hid (ints_new wr (ng (core.getD k 0)) (ng_in hi64))
              have hwp := ng_wrap hi64
              have HRA := Lib.hid (HR.out.alloc (.cells #[.int .i64 (ng (core.getD k 0))] 3))
              have HS2 : Hid (w4.heap.size ≤ (wr.alloc (.cells #[.int .i64 (ng (core.getD k 0))] 3)).heap.size) := Lib.hid (by simp; omega)
              have HBA := Lib.hid (HBW.out.alloc hws5 (.cells #[.int .i64 (ng (core.getD k 0))] 3))
              have HL0 : Hid (((core.take k).map ng).length ≤ 1000000) := Lib.hid (by simp; omega)
              have HL1 : Hid ([ng (core.getD k 0)].length ≤ 1000000) := Lib.hid (by simp)
              have HIN : Hid (Calls Try.prog 23 #[.slice aa asm.length capa, .int .i64 (core.getD k 0)] wr fun e w' => e = .returned (.bool (asm.contains (core.getD k 0))) ∧ wr = w') := Lib.hid (by
                by_cases hin : core.getD k 0 ∈ asm
                · have := In_yes _ asm (core.getD k 0) wr _ (HA.out.keep HB5.out) hin
                  rw [show asm.contains (core.getD k 0) = true from by simpa using hin]; exact this
                · have := In_no _ asm (core.getD k 0) wr _ (HA.out.keep HB5.out) hin
                  rw [show asm.contains (core.getD k 0) = false from by simpa using hin]; exact this)
              have HNX : Hid ((d0 && ((core.take (k + 1)).all fun l => asm.contains l)) = (b' && asm.contains (core.getD k 0))) := Lib.hid (by rw [HWN.out k hlt, ← hbk.out])
              generalize asm.contains (core.getD k 0) = r at *
              generalize core.getD k 0 = x at *
              generalize ng x = y at *
              obtain ⟨i1, i2⟩ := hi64
              clear hr hb hbk ix0 ix1 ix2 iy0 iy1 iy2 iy3 iy4
              cases b'
              · go_wp2_with (at_builtin; refine wpList_append_ints _ rfl (.tmp 105) (.tmp 108) 29 rfl Try.underlying29 w4.heap.size (.slice ao n cp) (.slice (some ⟨wr.heap.size, 0, none⟩) 1 1) ((core.take k).map ng) [y] rfl HRA.out rfl HXN.out (Nilv.some _ _ _) HL0.out HL1.out HS2.out ?_)
                intro a1 n1 c1 w6 ho1 hb1 hn1
                have HO1 : Hid (IntsR w6 w4.heap.size (.slice a1 n1 c1) ((core.take (k + 1)).map ng)) := Lib.hid (by rw [HSN.out, List.map_take]; exact ho1)
                have HB6 := Lib.hid (HBA.out.trans hb1)
                clear ho1 hb1
                go_wp2
                go_roundw
                case rel => exact ⟨k + 1, _, _, _, false, by omega, by go_num, rfl, rfl, Lib.hid HNX.out.symm, HO1.out, HB6.out⟩
                case measure => simp [intOf]; omega
              · go_wp2_with (first | (go_at_call 23; refine HIN.out.mono ?_; rintro e w' ⟨rfl, rfl⟩) | (at_builtin; refine wpList_append_ints _ rfl (.tmp 105) (.tmp 108) 29 rfl Try.underlying29 w4.heap.size (.slice ao n cp) (.slice (some ⟨wr.heap.size, 0, none⟩) 1 1) ((core.take k).map ng) [y] rfl HRA.out rfl HXN.out (Nilv.some _ _ _) HL0.out HL1.out HS2.out ?_))
                intro a1 n1 c1 w6 ho1 hb1 hn1
                have HO1 : Hid (IntsR w6 w4.heap.size (.slice a1 n1 c1) ((core.take (k + 1)).map ng)) := Lib.hid (by rw [HSN.out, List.map_take]; exact ho1)
                have HB6 := Lib.hid (HBA.out.trans hb1)
                clear ho1 hb1
                go_wp2
                go_roundw
                case rel => exact ⟨k + 1, _, _, _, r, by omega, by go_num, rfl, rfl, Lib.hid HNX.out.symm, HO1.out, HB6.out⟩
                case measure => simp [intOf]; omega
            · obtain rfl : k = core.length := by omega
              rw [List.take_length] at hbk hr
              have HOP := Lib.hid (hr.at (map_in HK64.out))
              have HE2 : Hid (resultOk cl vars asm 2 m core log = (b' && pl (cl ++ log) (core.map ng))) := Lib.hid (by
                rw [HE.out, hbk.out]; cases d0 <;> cases (core.all fun l => asm.contains l) <;> rfl)
              obtain ⟨jx0, jx1, jx2, jy0, jy1, jy2, jy3, jy4⟩ := HF5.out
              have hl15 : b1 < wr.heap.size := Nat.lt_of_lt_of_le hl14 hws5
              have hl25 : b2 < wr.heap.size := Nat.lt_of_lt_of_le hl24 hws5
              clear hr hb hbk ix0 ix1 ix2 iy0 iy1 iy2 iy3 iy4 HE HKA HKC HWN hk hlt
              cases b'
              · have HQ3 := Lib.hid (fun W (h : Below b1 w W) => HRS.out W h)
                rw [HE2.out, Bool.false_and] at HQ3
                clear HRS HE2
                have HD : Hid (Below b1 w wr.drew) := Lib.hid HB5.out.drew
                go_wp2
                go_region
                all_goals
                  go_wp2_with fail
                  refine (HQ3.out _ HD.out).mono ?_
                  rintro e w7 ⟨rfl, hb7⟩
                  have HB7 := Lib.hid hb7
                  clear hb7 HQ3
                  go_wp2
                  go_ret
                  exact ⟨rfl, HSB1.out ▸ HB7.out⟩
              · have HQ3 := Lib.hid (fun W (h : Below b1 w W) => HRS.out W h)
                rw [HE2.out, Bool.true_and] at HQ3
                clear HRS HE2
                have hbD : Below b1 w wr.drew := HB5.out.drew
                have hbWD : Below wr.heap.size wr wr.drew := (Below.refl _ _).drew
                have hbA := hbD.alloc (show b1 ≤ wr.drew.heap.size from Nat.le_of_lt hl15) (.cells #[] 30)
                have hbW := hbWD.alloc (Nat.le_refl _) (.cells #[] 30)
                have HX0 := Lib.hid (ClsR.empty wr.drew b1)
                have hSA : wr.heap.size ≤ (wr.drew.alloc (.cells #[] 30)).heap.size := hbW.size
                have HKA0 := Lib.hid (HC.out.keep hbA)
                have HFA := Lib.hid (HF5.out.keep hbW hl15 hl25)
                have HBW0 := Lib.hid hbW
                have HBA0 := Lib.hid hbA
                have HS0 : Hid (wr.drew.cell? ⟨b1, 0, none⟩ = some (.slice ac cl.length capc) ∧ wr.drew.cell? ⟨b2, 3, none⟩ = some (.slice al log.length capl)) := Lib.hid ⟨jx0, jy3⟩
                clear hbA hbW hbWD hbD
                go_wp2
                refine held.region (fun w' => w'.cell? ⟨b1, 0, none⟩ = some (.slice ac cl.length capc) ∧ w'.cell? ⟨b2, 3, none⟩ = some (.slice al log.length capl)) 12 (by kernel_rfl) ?_
                have hS7 := HS0.out
                refine held.wpLeft.take (i := 0) (v := ?_) rfl (by kernel_rfl) (by kernel_rfl) (by kernel_rfl) (by kernel_rfl) (by kernel_rfl) (fun _ _ _ h => h) (by rfl) ?_ hS7 ?_
                rotate_left
                · (intro w hSw; obtain ⟨s1, s2⟩ := hSw; go_simp; try with_reducible rfl)
                simp only [Act.put, List.setIfInBounds_toArray, List.set_cons_zero, List.set_cons_succ]
                refine held.wpLeft.take (i := 1) (v := ?_) rfl (by kernel_rfl) (by kernel_rfl) (by kernel_rfl) (by kernel_rfl) (by kernel_rfl) (fun _ _ _ h => h) (by rfl) ?_ hS7 ?_
                rotate_left
                · (intro w hSw; obtain ⟨s1, s2⟩ := hSw; go_simp; try with_reducible rfl)
                simp only [Act.put, List.setIfInBounds_toArray, List.set_cons_zero, List.set_cons_succ]
                refine held.wpLeft.take (i := 3) (v := ?_) rfl (by kernel_rfl) (by kernel_rfl) (by kernel_rfl) (by kernel_rfl) (by kernel_rfl) (fun _ _ _ h => h) (by rfl) ?_ hS7 ?_
                rotate_left
                · (intro w hSw; obtain ⟨s1, s2⟩ := hSw; go_simp; try with_reducible rfl)
                simp only [Act.put, List.setIfInBounds_toArray, List.set_cons_zero, List.set_cons_succ]
                refine held.wpLeft.take (i := 4) (v := ?_) rfl (by kernel_rfl) (by kernel_rfl) (by kernel_rfl) (by kernel_rfl) (by kernel_rfl) (fun _ _ _ h => h) (by rfl) ?_ hS7 ?_
                rotate_left
                · (intro w hSw; obtain ⟨s1, s2⟩ := hSw; go_simp; try with_reducible rfl)
                simp only [Act.put, List.setIfInBounds_toArray, List.set_cons_zero, List.set_cons_succ]
                refine held.wpLeft.take (i := 6) (v := ?_) rfl (by kernel_rfl) (by kernel_rfl) (by kernel_rfl) (by kernel_rfl) (by kernel_rfl) (fun _ _ _ h => h) (by rfl) ?_ hS7 ?_
                rotate_left
                · (intro w hSw; obtain ⟨s1, s2⟩ := hSw; go_simp; try with_reducible rfl)
                simp only [Act.put, List.setIfInBounds_toArray, List.set_cons_zero, List.set_cons_succ]
                refine held.wpLeft.take (i := 7) (v := ?_) rfl (by kernel_rfl) (by kernel_rfl) (by kernel_rfl) (by kernel_rfl) (by kernel_rfl) (fun _ _ _ h => h) (by rfl) ?_ hS7 ?_
                rotate_left
                · (intro w hSw; obtain ⟨s1, s2⟩ := hSw; go_simp; try with_reducible rfl)
                simp only [Act.put, List.setIfInBounds_toArray, List.set_cons_zero, List.set_cons_succ]
                refine held.wpLeft.take (i := 9) (v := ?_) rfl (by kernel_rfl) (by kernel_rfl) (by kernel_rfl) (by kernel_rfl) (by kernel_rfl) (fun _ _ _ h => h) (by rfl) ?_ hS7 ?_
                rotate_left
                · (intro w hSw; obtain ⟨s1, s2⟩ := hSw; go_simp; try with_reducible rfl)
                simp only [Act.put, List.setIfInBounds_toArray, List.set_cons_zero, List.set_cons_succ]
                refine held.wpLeft.one (i := 2) (by kernel_rfl) rfl (fun K1 hK1 => ?_)
                go_simp
                refine hK1.out _ _ (fun _ => ⟨HFA.out.x0, HFA.out.y3⟩) ?_
                clear hK1 K1
                try simp only [Act.put, List.setIfInBounds_toArray, List.set_cons_zero, List.set_cons_succ]
                refine held.wpLeft.one (i := 5) (by kernel_rfl) rfl (fun K2 hK2 => ?_)
                refine step_append_cls _ (by rfl) (.tmp 113) (.tmp 115) (by rfl) b1 wr.heap.size (.slice (some ⟨wr.heap.size, 0, none⟩) 0 0) (.slice ac cl.length capc) [] cl (by rfl) HX0.out (by rfl) HKA0.out HN1.out (by simp) (by have := HF.out.1; omega) hSA (Nat.le_of_lt hl15) ?_
                intro a3 N3 c3 w6 hr3 hb3
                have HR3 : Hid (ClsR w6 b1 wr.heap.size (.slice a3 N3 c3) cl) := Lib.hid hr3
                have HW3 := Lib.hid (HBW0.out.trans hb3)
                have HB6 := Lib.hid (HBA0.out.trans (hb3.mono (Nat.le_of_lt hl15)))
                have hs6 := HW3.out.size
                have HF6 := Lib.hid (HF5.out.keep HW3.out hl15 hl25)
                refine hK2.out _ _ (fun _ => ⟨HF6.out.x0, HF6.out.y3⟩) ?_
                clear hK2 K2 hr3 hb3
                try simp only [Act.put, List.setIfInBounds_toArray, List.set_cons_zero, List.set_cons_succ]
                refine held.wpLeft.one (i := 8) (by kernel_rfl) rfl (fun K3 hK3 => ?_)
                refine step_append_cls _ (by rfl) (.tmp 116) (.tmp 118) (by rfl) b1 wr.heap.size (.slice a3 N3 c3) (.slice al log.length capl) cl log (by rfl) HR3.out (by rfl) (HL.out.keep HB6.out) HN2.out (by have := HF.out.1; omega) (by have := HF.out.2.2.1; omega) hs6 (Nat.le_of_lt hl15) ?_
                intro a4 N4 c4 w7 hr4 hb4
                have HW4 := Lib.hid (HW3.out.trans hb4)
                have HB7 := Lib.hid (HB6.out.trans (hb4.mono (Nat.le_of_lt hl15)))
                have hs7 := HW4.out.size
                have HF7 := Lib.hid (HF5.out.keep HW4.out hl15 hl25)
                have HP := Lib.hid (RPlain_any w7 w7.heap.size (.slice a4 N4 c4) (.slice ao n cp) (cl ++ log) (core.map ng) (hr4.at (Nat.le_trans (Nat.le_of_lt hl15) hs7)) ((HOP.out.keep HW4.out).mono hs7) (Nat.le_refl _) (fun c hc => by have := (few_app HF.out).2 c hc; omega) (by simp; omega))
                refine hK3.out _ _ (fun _ => ⟨HF7.out.x0, HF7.out.y3⟩) ?_
                clear hK3 K3 hr4 hb4
                generalize pl (cl ++ log) (core.map ng) = r at *
                try simp only [Act.put, List.setIfInBounds_toArray, List.set_cons_zero, List.set_cons_succ]
                refine held.wpLeft.one (i := 10) (by kernel_rfl) rfl (fun K4 hK4 => ?_)
                go_simp
                refine HP.out.mono ?_
                rintro e w8 ⟨rfl, hb8⟩
                have HW8 := Lib.hid (HW4.out.trans (hb8.mono hs7))
                have HB8 := Lib.hid (HB7.out.trans (hb8.mono (Nat.le_trans (Nat.le_of_lt hl15) hs7)))
                have HF8 := Lib.hid (HF5.out.keep HW8.out hl15 hl25)
                refine hK4.out _ _ (fun _ => ⟨HF8.out.x0, HF8.out.y3⟩) ?_
                clear hK4 K4 hb8
                try simp only [Act.put, List.setIfInBounds_toArray, List.set_cons_zero, List.set_cons_succ]
                refine held.wpLeft.one (i := 11) (by kernel_rfl) rfl (fun K5 hK5 => ?_)
                go_simp
                refine hK5.out _ _ (fun _ => ⟨HF8.out.x0, HF8.out.y3⟩) ?_
                clear hK5 K5
                refine held.wpLeft.one (i := 12) (by kernel_rfl) rfl (fun K6 hK6 => ?_)
                go_simp
                refine hK6.out _ _ (fun h => absurd rfl h) ?_
                clear hK6 K6
                refine held.wpLeft.done (by kernel_rfl) ?_
                obtain ⟨lx0, lx1, lx2, ly0, ly1, ly2, ly3, ly4⟩ := HF8.out
                have HQ4 := Lib.hid (HQ3.out w8 HB8.out)
                clear jx0 jx1 jx2 jy0 jy1 jy2 jy3 jy4 HQ3 HP
                have hrr : (r == r) = true := by simp
                go_wp2_with fail
                refine HQ4.out.mono ?_
                rintro e w9 ⟨rfl, hb9⟩
                have HB9 := Lib.hid hb9
                clear hb9 HQ4
                go_wp2
                go_ret
                exact ⟨rfl, HSB1.out ▸ HB9.out⟩
        · have HE : Hid (resultOk cl vars asm st m core log = decide (bd < 0)) := Lib.hid (by rw [HRO.out, if_neg hs1, if_neg hs2])
          have HQ3 := Lib.hid (HRS.out w4 HB4.out)
          rw [HE.out] at HQ3
          have e1 : decide (st = 1) = false := decide_eq_false hs1
          have e2 : decide (st = 2) = false := decide_eq_false hs2
          clear HRO HRS HKA HKC HK64 HE
          generalize hd0 : decide (bd < 0) = d0 at *
          have hdd : (d0 == d0) = true := by simp
          go_wp2_with fail
          refine HQ3.out.mono ?_
          rintro e w5 ⟨rfl, hb5⟩
          have HB5 := Lib.hid hb5
          clear hb5 HQ3
          go_wp2
          go_ret
          exact ⟨rfl, HSB1.out ▸ HB5.out⟩
end Go.Proofs.Ytojjjndhabjhdaa.resD
