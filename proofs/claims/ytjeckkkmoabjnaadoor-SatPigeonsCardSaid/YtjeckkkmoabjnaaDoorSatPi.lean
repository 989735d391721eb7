/-
  The law SatPigeons.
-/
import Derived.Test.YtjeckkkmoabjnaaDoorSatMe
import Derived.StillTailTactics
namespace Go.Proofs.YtjeckkkmoabjnaaDoor.satPi
set_option linter.unusedSimpArgs false
set_option linter.unusedVariables false
open Go.ChangeShapes Go.WideShapes Go.ChangeAt Go.RowKit proofP proofQ proofR owns cls satP satA satX satCa satCe satCf satSe proofN proofO proofS proofT proofU proofV proofW satLg satLh satMa satMb satMc satMd satPg satPh satMe
attribute [local go_sem ↓] Go.wp_at_zero Go.wp_at_succ

theorem u_rm (m : Nat) (hm : 0 < m) (z : Int) : ∃ (U : Int) (dd : Nat), dd < m ∧ (∀ w, (convert 3 42 (.int .i64 z)).run Tryd.prog w = .ok (.int .u64 U) w) ∧ U.tmod m = (dd : Int) := by
  have h0 : 0 ≤ IntKind.u64.wrap z := by
    unfold IntKind.wrap
    simp [IntKind.signed, IntKind.bits]
    omega
  have h1 := Int.emod_nonneg (IntKind.u64.wrap z) (show (m : Int) ≠ 0 by omega)
  have h2 := Int.emod_lt_of_pos (IntKind.u64.wrap z) (show (0 : Int) < m by omega)
  refine ⟨IntKind.u64.wrap z, ((IntKind.u64.wrap z).tmod m).toNat, ?_, fun w => by kernel_rfl, ?_⟩
  · rw [Int.tmod_eq_emod_of_nonneg h0]; omega
  · rw [Int.tmod_eq_emod_of_nonneg h0]; omega
theorem at_any (w : World) (p h H x : Nat) (hp : p ≤ 5) (hh : h ≤ 5) (hH : H ≤ 5) (hc : w.cell? ⟨x, 0, none⟩ = some (.int .i64 H)) :
    Calls Tryd.prog 15 #[.int .i64 p, .int .i64 h, .pointer (some ⟨x, 0, none⟩)] w fun e w' => e = .returned (.int .i64 (pat H p h)) ∧ w = w' := by
  have h1 : (p : Int) * H ≤ 5 * 5 := Int.mul_le_mul (by omega) (by omega) (by omega) (by omega)
  have h2 : (0 : Int) ≤ (p : Int) * H := Int.mul_nonneg (by omega) (by omega)
  have HE : Hid (pat H p h = (p : Int) * H + h + 1) := Lib.hid rfl
  go_enter Tryd.func15, Tryd.ntmps15
  go_wp2
  go_ret
  exact ⟨by rw [HE.out]; rfl, rfl⟩
theorem pat_mul {P H : Nat} (hP : P ≤ 5) (hH : H ≤ 4) : (0 : Int) ≤ (P : Int) * H ∧ (P : Int) * H ≤ 20 ∧ P * H ≤ 20 := by
  have h1 : P * H ≤ 5 * 4 := Nat.mul_le_mul hP hH
  have h2 : (P : Int) * H = ((P * H : Nat) : Int) := by push_cast; rfl
  rw [h2]; omega
theorem len_out {P H k j i : Nat} (hk : k ≤ P) (hP : P ≤ 5) (hH : H ≤ 4) (hj : j ≤ H) (hi : i ≤ P) : (pout H k ++ pmid H k j ++ pin H k j i).length ≤ 1000 := by
  rw [List.length_append, List.length_append, pmid_len, pin_len]
  have h1 := pout_len (H := H) (n := k)
  have h2 : k * (H * k + 1) ≤ 5 * (4 * 5 + 1) := Nat.mul_le_mul (by omega) (by have := Nat.mul_le_mul (show H ≤ 4 from hH) (show k ≤ 5 by omega); omega)
  have h3 : j * k ≤ 4 * 5 := Nat.mul_le_mul (by omega) (by omega)
  omega
theorem pat_in {P H p h : Nat} (hP : P ≤ 5) (hH : H ≤ 4) (hp : p < P) (hh : h < H) : 1 ≤ pat H p h ∧ pat H p h ≤ 20 := by
  have := pat_rng hp hh
  have := (pat_mul hP hH).2.2
  omega
theorem prow_in {P H p n : Nat} (hP : P ≤ 5) (hH : H ≤ 4) (hp : p < P) (hn : n ≤ H) : ∀ x ∈ prow H p n, In64 x := by
  intro x hx
  unfold prow at hx
  obtain ⟨h, hh, rfl⟩ := List.mem_map.1 hx
  have := pat_in hP hH hp (show h < H by have := List.mem_range.1 hh; omega)
  unfold In64; omega
theorem fine_pig {P H : Nat} {r k : Nat} (hP : P ≤ 5) (hH : H ≤ 4) : Fine ((P * H : Nat) : Int) (pout H P) [] r k 1073741824 := by
  have := (pat_mul hP hH).2.2
  refine ⟨by omega, fun c hc => pout_in hc, by simp, by omega, ?_⟩
  have h1 := len_out (P := P) (H := H) (k := P) (j := 0) (i := 0) (Nat.le_refl _) hP hH (by omega) (by omega)
  simp only [List.length_append] at h1
  omega
theorem nilv_pg {w : World} {B : Nat} {cv ov : Value} {cl : List (List Int)} {o : List Int} (h : Pg w B cv cl ov o) : Nilv cv := by
  obtain ⟨⟨vl, h1, _⟩, _, _⟩ := h
  obtain ⟨ao, cap, rfl, _, _, h2⟩ := cap_row h1
  intro n c e
  cases e
  exact h2 rfl
theorem res5 {w : World} {x : Nat} {t : TypeId} {v0 v1 v2 v3 v4 : Value} (h : Whole w x t [v0, v1, v2, v3, v4]) : w.cell? ⟨x, 0, none⟩ = some v0 ∧ w.cell? ⟨x, 1, none⟩ = some v1 ∧ w.cell? ⟨x, 2, none⟩ = some v2 ∧ w.cell? ⟨x, 3, none⟩ = some v3 ∧ w.cell? ⟨x, 4, none⟩ = some v4 :=
  ⟨h.cell 0, h.cell 1, h.cell 2, h.cell 3, h.cell 4⟩
theorem opt4 {w : World} {x : Nat} {t : TypeId} {v0 v1 v2 v3 : Value} (h : Whole w x t [v0, v1, v2, v3]) : w.cell? ⟨x, 0, none⟩ = some v0 ∧ w.cell? ⟨x, 1, none⟩ = some v1 ∧ w.cell? ⟨x, 2, none⟩ = some v2 ∧ w.cell? ⟨x, 3, none⟩ = some v3 :=
  ⟨h.cell 0, h.cell 1, h.cell 2, h.cell 3⟩
theorem log_lens {cs : List (List Int)} {V : Nat} {logs : List (List Int)} (h : LogOk cs V logs) (hV : V ≤ 20) : ∀ c, c ∈ logs → c.length ≤ 50000 := by
  intro c hc
  obtain ⟨i, hi, rfl⟩ := List.mem_iff_getElem.1 hc
  obtain ⟨_, K, hk, hn, hr⟩ := h i hi
  have e : logs.getD i [] = logs[i] := by rw [List.getD_eq_getElem?_getD, List.getElem?_eq_getElem hi]; rfl
  rw [← e, hk]
  have h1 : (clz K).length = K.length := by unfold clz srt; rw [List.length_map, List.length_mergeSort, List.length_map]
  have := nodup_bound hn fun x hx => (hr x hx).2
  omega
/-- what stands at the head of the loops -/
def Rel (B : Nat) (w0 wr : World) (cl : List (List Int)) (o : List Int) (cv ov : Value) : Prop := Pg wr B cv cl ov o ∧ Below B w0 wr ∧ B ≤ wr.heap.size

set_option maxHeartbeats 8000000 in
set_option maxRecDepth 100000 in
theorem law_pigeons (p h r k b : Int) (re : Bool) (w : World) (a1 a2 : Addr) (hg : 11 < w.heap.size) (g9 : w.cell? ⟨9, 0, none⟩ = some (evl a1)) (g11 : w.cell? ⟨11, 0, none⟩ = some (evl a2)) :
    Calls Tryd.prog 4 #[.int .i64 p, .int .i64 h, .agg #[.int .i64 r, .int .i64 k, .bool re, .int .i64 b]] w fun e w' => e = .returned (.bool true) ∧ Below w.heap.size w w' := by
  obtain ⟨U5, d5, hd5, hcv5, hrm5⟩ := u_rm 5 (by omega) p
  obtain ⟨U4, d4, hd4, hcv4, hrm4⟩ := u_rm 4 (by omega) h
  obtain ⟨UR, dR, hdR, hcvR, hrmR⟩ := u_rm 50 (by omega) r
  obtain ⟨UK, dK, hdK, hcvK, hrmK⟩ := u_rm 50 (by omega) k
  have hW1 : Below w.heap.size w ((w.alloc (.cells #[.int .i64 h] 3)).alloc (.cells #[.int .i64 r, .int .i64 k, .bool re, .int .i64 b] 25)) := ((Below.refl _ _).alloc (Nat.le_refl _) _).alloc (by simp) _
  have hS1 : ((w.alloc (.cells #[.int .i64 h] 3)).alloc (.cells #[.int .i64 r, .int .i64 k, .bool re, .int .i64 b] 25)).heap.size = w.heap.size + 2 := by simp
  have HA := Lib.hid (alive_any _ a1 a2 (by rw [hS1]; omega) ((hW1.cell (show (⟨9, 0, none⟩ : Addr).block < _ from by show 9 < _; omega)).trans g9) ((hW1.cell (show (⟨11, 0, none⟩ : Addr).block < _ from hg)).trans g11))
  have HW1 := Lib.hid hW1
  have HS1 := Lib.hid hS1
  have HG9 := Lib.hid g9
  have HG11 := Lib.hid g11
  have hO : Whole ((w.alloc (.cells #[.int .i64 h] 3)).alloc (.cells #[.int .i64 r, .int .i64 k, .bool re, .int .i64 b] 25)) (w.heap.size + 1) 25 [.int .i64 r, .int .i64 k, .bool re, .int .i64 b] := by
    have := Whole.new (w.alloc (.cells #[.int .i64 h] 3)) 25 [.int .i64 r, .int .i64 k, .bool re, .int .i64 b]
    rw [show (w.alloc (.cells #[.int .i64 h] 3)).heap.size = w.heap.size + 1 by simp] at this
    exact this
  have hX : Whole ((w.alloc (.cells #[.int .i64 h] 3)).alloc (.cells #[.int .i64 r, .int .i64 k, .bool re, .int .i64 b] 25)) w.heap.size 3 [.int .i64 h] := (Whole.new w 3 [.int .i64 h]).below ((Below.refl _ _).alloc (Nat.le_refl _) _) (by simp)
  have HO := Lib.hid hO
  have HX := Lib.hid hX
  clear hW1 hS1 g9 g11 hO hX
  go_enter Tryd.func4, Tryd.ntmps4
  go_wp2_with fail
  refine HA.out.mono ?_
  rintro e w2 ⟨rfl, hb2⟩
  have hX2 : Whole w2 w.heap.size 3 [.int .i64 h] := HX.out.below hb2 (by rw [HS1.out]; omega)
  have HO2 : Hid (Whole w2 (w.heap.size + 1) 25 [.int .i64 r, .int .i64 k, .bool re, .int .i64 b]) := Lib.hid (HO.out.below hb2 (by rw [HS1.out]; omega))
  have HB2 := Lib.hid (HW1.out.trans (hb2.mono (by rw [HS1.out]; omega)))
  have hs2 : w.heap.size + 2 ≤ w2.heap.size := by have := hb2.size; rw [HS1.out] at this; exact this
  have HX2 := Lib.hid hX2
  have e1 := hX2.cell 0
  simp only [List.getElem?_cons_zero] at e1
  have f1 := hX2.frozen 0
  clear hb2 hX2 HX HO HA HW1 HS1
  have m5 : U5.tmod 5 = (d5 : Int) := hrm5
  have m4 : U4.tmod 4 = (d4 : Int) := hrm4
  have v5 : IntKind.i64.wrap (d5 : Int) = (d5 : Int) := IntWalk.i64_in _ (by omega)
  have v4 : IntKind.i64.wrap (d4 : Int) = (d4 : Int) := IntWalk.i64_in _ (by omega)
  have y5 : IntKind.u64.wrap (d5 : Int) = (d5 : Int) := by unfold IntKind.wrap; simp [IntKind.signed, IntKind.bits]; omega
  have y4 : IntKind.u64.wrap (d4 : Int) = (d4 : Int) := by unfold IntKind.wrap; simp [IntKind.signed, IntKind.bits]; omega
  obtain ⟨P, hP⟩ : ∃ P : Nat, P = d5 + 1 := ⟨_, rfl⟩
  obtain ⟨H, hH⟩ : ∃ H : Nat, H = d4 + 1 := ⟨_, rfl⟩
  have z5 : IntKind.i64.wrap (1 + (d5 : Int)) = (P : Int) := by rw [hP, IntWalk.i64_in _ (by omega)]; push_cast; omega
  have z4 : IntKind.i64.wrap (1 + (d4 : Int)) = (H : Int) := by rw [hH, IntWalk.i64_in _ (by omega)]; push_cast; omega
  have hP5 : 1 ≤ P ∧ P ≤ 5 := by omega
  have hH4 : 1 ≤ H ∧ H ≤ 4 := by omega
  clear hP hH hrm5 hrm4
  go_upto_region 3 with (fail)
  go_still_tail 11, (by kernel_rfl)
  change wpList _ _ _ _ _ w2.drew
  go_upto_region 5 with (fail)
  have hX3 : Whole (w2.setCell ⟨w.heap.size, 0, none⟩ (.int .i64 H)).drew w.heap.size 3 [.int .i64 H] := (Whole.set (w := w2) HX2.out 0 (.int .i64 H)).1
  have hO3 : Whole (w2.setCell ⟨w.heap.size, 0, none⟩ (.int .i64 H)).drew (w.heap.size + 1) 25 [.int .i64 r, .int .i64 k, .bool re, .int .i64 b] := show Whole (w2.setCell ⟨w.heap.size, 0, none⟩ (.int .i64 H)) _ _ _ from Whole.kept (w := w2) HO2.out (Whole.set (w := w2) HX2.out 0 (.int .i64 H)).2 (fun e => by have e2 : w.heap.size = w.heap.size + 1 := Option.some.inj e; omega)
  have hB3 : Below w.heap.size w (w2.setCell ⟨w.heap.size, 0, none⟩ (.int .i64 H)).drew := (HB2.out.setCell (Nat.le_refl _) _).drew
  have hs3 : w.heap.size + 2 ≤ (w2.setCell ⟨w.heap.size, 0, none⟩ (.int .i64 H)).drew.heap.size := by simpa using hs2
  clear e1 f1 m5 m4 v5 v4 y5 y4 z5 z4 HO2 HX2 HB2 hs2 hcv5 hcv4
  generalize (w2.setCell ⟨w.heap.size, 0, none⟩ (.int .i64 H)).drew = w3 at *
  have HX3 := Lib.hid hX3
  have HO3 := Lib.hid hO3
  have HB3 := Lib.hid hB3
  have HL0 : Hid (Rel w3.heap.size w3 (w3.alloc (.cells #[] 38)) (pout H 0) [] (.slice (some ⟨w3.heap.size, 0, none⟩) 0 0) (.slice none 0 0)) := Lib.hid ⟨Pg.start w3 (Nat.le_refl _), (Below.refl _ _).alloc (Nat.le_refl _) _, by simp⟩
  clear hX3 hO3 hB3
  go_wp2
  generalize w3.heap.size = B at *
  go_loopw [8, 30] (fun cv it wr => ∃ (q n cp : Nat) (ao : Option Addr), q ≤ P ∧ it = .int .i64 q ∧ cv = .slice ao n cp ∧ Rel B w3 wr (pout H q) [] (.slice ao n cp) (.slice none 0 0)) (fun _ it _ => P - (intOf it).toNat)
  case atStart => exact ⟨0, 0, 0, _, Nat.zero_le _, rfl, rfl, HL0.out⟩
  case round =>
    obtain ⟨q, n, cp, ao, hq, rfl, rfl, hR⟩ := hrel
    have HR := Lib.hid hR
    clear hR HL0
    have hx := (HR.out.2.1.cell (show (⟨w.heap.size, 0, none⟩ : Addr).block < B from by show w.heap.size < B; omega)).trans (HX3.out.cell 0)
    simp only [List.getElem?_cons_zero] at hx
    by_cases hqP : q < P
    · have HF1 : Hid (Rel B w3 (wr.alloc (.cells #[] 3)) (pout H q ++ pmid H q 0) (prow H q 0) (.slice ao n cp) (.slice (some ⟨wr.heap.size, 0, none⟩) 0 0)) := Lib.hid ⟨by simpa [pmid, prow] using HR.out.1.fresh HR.out.2.2, HR.out.2.1.alloc HR.out.2.2 _, by have := HR.out.2.2; simp; omega⟩
      have hx1 := (HF1.out.2.1.cell (show (⟨w.heap.size, 0, none⟩ : Addr).block < B from by show w.heap.size < B; omega)).trans (HX3.out.cell 0)
      simp only [List.getElem?_cons_zero] at hx1
      clear hx HR
      go_wp2
      generalize wr.heap.size = gg at *
      obtain ⟨wo, hwo⟩ : ∃ wo : World, wo = wr := ⟨_, rfl⟩
      clear hwo
      go_loopw [8, 10, 35] (fun cv ov it wr => ∃ (j n cp m dp : Nat) (ao bo : Option Addr), j ≤ H ∧ it = .int .i64 j ∧ cv = .slice ao n cp ∧ ov = .slice bo m dp ∧ Rel B w3 wr (pout H q ++ pmid H q j) (prow H q j) (.slice ao n cp) (.slice bo m dp)) (fun _ _ it _ => H - (intOf it).toNat)
      case atStart => exact ⟨0, _, _, _, _, _, _, Nat.zero_le _, rfl, rfl, rfl, HF1.out⟩
      case round =>
        obtain ⟨j, n, cp, m, dp, ao, bo, hj, rfl, rfl, rfl, hR⟩ := hrel
        have HR := Lib.hid hR
        have hx2 := (hR.2.1.cell (show (⟨w.heap.size, 0, none⟩ : Addr).block < B from by show w.heap.size < B; omega)).trans (HX3.out.cell 0)
        simp only [List.getElem?_cons_zero] at hx2
        clear hR HF1 hx1
        by_cases hjH : j < H
        · have HAT := Lib.hid (at_any wr q j H w.heap.size (by omega) (by omega) (by omega) hx2)
          have HP1 := Lib.hid (pat_in hP5.2 hH4.2 hqP hjH)
          generalize hpj : pat H q j = pj at *
          have HPJ := Lib.hid hpj
          clear hpj
          go_wp2_with fail
          refine HAT.out.mono ?_
          rintro e w5 ⟨rfl, rfl⟩
          have HXN := Lib.hid (ints_new wr pj (by have := HP1.out; unfold In64; omega))
          have HRA : Hid (Pg (wr.alloc (.cells #[.int .i64 pj] 3)) B (.slice ao n cp) (pout H q ++ pmid H q j) (.slice bo m dp) (prow H q j)) := Lib.hid (HR.out.1.alloc _)
          have HBA := Lib.hid (HR.out.2.1.alloc HR.out.2.2 (.cells #[.int .i64 pj] 3))
          have HSA : Hid (B ≤ (wr.alloc (.cells #[.int .i64 pj] 3)).heap.size) := Lib.hid (by have := HR.out.2.2; simp; omega)
          clear HAT hx2 HR
          go_wp2_with (at_builtin; go_loud (refine app_int _ rfl (.tmp 38) (.tmp 43) 38 rfl Tryd.underlying38 B (.slice ao n cp) (.slice bo m dp) (.slice (some ⟨wr.heap.size, 0, none⟩) 1 1) (pout H q ++ pmid H q j) (prow H q j) [pj] rfl HRA.out rfl HXN.out (Nilv.some _ _ _) ?b1 ?b2 HSA.out ?_))
          case b1 => rw [prow_len]; omega
          case b2 => simp
          intro b6 d6 w6 hP6 hb6 hg6
          have hR6 : Rel B w3 w6 (pout H q ++ pmid H q j ++ pin H q j 0) (prow H q (j + 1)) (.slice ao n cp) (.slice b6 ((prow H q j).length + [pj].length) d6) := ⟨by rw [prow_succ, HPJ.out]; simpa [pin] using hP6, HBA.out.trans hb6, Nat.le_trans HSA.out hb6.size⟩
          have HR6 := Lib.hid hR6
          generalize (prow H q j).length + [pj].length = m6 at *
          clear hP6 hb6 hg6 hR6 HXN HRA HBA HSA
          go_wp2
          obtain ⟨wo2, hwo2⟩ : ∃ wo2 : World, wo2 = wr := ⟨_, rfl⟩
          clear hwo2
          go_loopw [8, 46] (fun cv it wr => ∃ (i n cp : Nat) (ao : Option Addr), i ≤ q ∧ it = .int .i64 i ∧ cv = .slice ao n cp ∧ Rel B w3 wr (pout H q ++ pmid H q j ++ pin H q j i) (prow H q (j + 1)) (.slice ao n cp) (.slice b6 m6 d6)) (fun _ it _ => q - (intOf it).toNat)
          case atStart => exact ⟨0, _, _, _, Nat.zero_le _, rfl, rfl, HR6.out⟩
          case round =>
            clear HR6
            obtain ⟨i, n, cp, ao, hi, rfl, rfl, hR⟩ := hrel
            have HR := Lib.hid hR
            have hx3 := (hR.2.1.cell (show (⟨w.heap.size, 0, none⟩ : Addr).block < B from by show w.heap.size < B; omega)).trans (HX3.out.cell 0)
            simp only [List.getElem?_cons_zero] at hx3
            clear hR
            by_cases hiq : i < q
            · have ha1 := at_any wr q j H w.heap.size (by omega) (by omega) (by omega) hx3
              rw [HPJ.out] at ha1
              have HA1 := Lib.hid ha1
              have HA2 := Lib.hid (at_any wr i j H w.heap.size (by omega) (by omega) (by omega) hx3)
              have HP2 := Lib.hid (pat_in (p := i) hP5.2 hH4.2 (by omega) hjH)
              generalize hpi : pat H i j = qj at *
              have HPI := Lib.hid hpi
              clear hpi ha1
              have HLS : Hid (pout H q ++ pmid H q j ++ pin H q j i ++ [[-pj, -qj]] = pout H q ++ pmid H q j ++ pin H q j (i + 1)) := Lib.hid (by rw [pin_succ, ← List.append_assoc]; unfold pq; rw [HPJ.out, HPI.out])
              have HLL : Hid ((pout H q ++ pmid H q j ++ pin H q j i).length ≤ 1000) := Lib.hid (len_out (P := P) (H := H) (k := q) (j := j) (i := i) (by omega) hP5.2 hH4.2 (by omega) (by omega))
              generalize pout H q ++ pmid H q j ++ pin H q j i = L at *
              have hn1 : IntKind.i64.wrap (-pj) = -pj := IntWalk.i64_in _ (by have := HP1.out; omega)
              have hn2 : IntKind.i64.wrap (-qj) = -qj := IntWalk.i64_in _ (by have := HP2.out; omega)
              go_wp2_with fail
              refine HA1.out.mono ?_
              rintro e w7 ⟨rfl, rfl⟩
              go_wp2_with fail
              refine HA2.out.mono ?_
              rintro e w7 ⟨rfl, rfl⟩
              obtain ⟨hp1, hp2, hp3⟩ := HR.out.1.pair (-pj) (-qj) (by have := HP1.out; unfold In64; omega) (by have := HP2.out; unfold In64; omega)
              have HQ1 := Lib.hid hp1
              have HQ2 := Lib.hid hp2
              have HQ3 := Lib.hid hp3
              have HBQ : Hid (Below B w3 ((wr.alloc (.cells #[.int .i64 (-pj), .int .i64 (-qj)] 3)).alloc (.cells #[.slice (some ⟨wr.heap.size, 0, none⟩) 2 2] 38))) := Lib.hid ((HR.out.2.1.alloc HR.out.2.2 _).alloc (by have := HR.out.2.2; simp; omega) _)
              have HSQ : Hid (B ≤ ((wr.alloc (.cells #[.int .i64 (-pj), .int .i64 (-qj)] 3)).alloc (.cells #[.slice (some ⟨wr.heap.size, 0, none⟩) 2 2] 38)).heap.size) := Lib.hid (by have := HR.out.2.2; simp; omega)
              clear hp1 hp2 hp3 HA1 HA2 hx3 HR
              go_wp2_with (at_builtin; go_loud (refine app_cls _ rfl (.tmp 49) (.tmp 61) rfl B (.slice ao n cp) (.slice (some ⟨wr.heap.size, 0, none⟩) 2 2) (.slice b6 m6 d6) (wr.heap.size + 1) L [-pj, -qj] (prow H q (j + 1)) rfl HQ1.out rfl HQ2.out HQ3.out ?d1 HSQ.out ?_))
              case d1 => have := HLL.out; omega
              intro a8 c8 w8 hP8 hb8 hg8
              have hR8 : Rel B w3 w8 (pout H q ++ pmid H q j ++ pin H q j (i + 1)) (prow H q (j + 1)) (.slice a8 (L.length + 1) c8) (.slice b6 m6 d6) := ⟨by rw [← HLS.out]; exact hP8, HBQ.out.trans hb8, Nat.le_trans HSQ.out hb8.size⟩
              have HR8 := Lib.hid hR8
              generalize L.length + 1 = n8 at *
              clear hP8 hb8 hg8 hR8 HQ1 HQ2 HQ3 HBQ HSQ
              go_wp2
              go_roundw
              case rel => exact ⟨i + 1, _, _, _, by omega, by go_num, rfl, HR8.out⟩
              case measure => simp [intOf]; omega
            · obtain rfl : i = q := by omega
              have HR9 : Hid (Rel B w3 wr (pout H i ++ pmid H i (j + 1)) (prow H i (j + 1)) (.slice ao n cp) (.slice b6 m6 d6)) := Lib.hid (by rw [pmid_succ, ← List.append_assoc]; exact HR.out)
              clear HR hx3
              go_wp2
              go_roundw
              case rel => exact ⟨j + 1, _, _, _, _, _, _, by omega, by go_num, rfl, rfl, HR9.out⟩
              case measure => simp [intOf]; omega
        · obtain rfl : j = H := by omega
          clear hx2
          have hD := HR.out.1.done (prow_in hP5.2 hH4.2 hqP (Nat.le_refl _))
          obtain ⟨hl1, hl2, hl3⟩ := HR.out.1.drop.last hD
          have HQ1 := Lib.hid hl1
          have HQ2 := Lib.hid hl2
          have HQ3 := Lib.hid hl3
          have HBQ := Lib.hid (HR.out.2.1.alloc HR.out.2.2 (.cells #[.slice bo m dp] 38))
          have HSQ : Hid (B ≤ (wr.alloc (.cells #[.slice bo m dp] 38)).heap.size) := Lib.hid (by have := HR.out.2.2; simp; omega)
          have HLS : Hid (pout j q ++ pmid j q j ++ [prow j q j] = pout j (q + 1)) := Lib.hid pout_succ.symm
          have HLL : Hid ((pout j q ++ pmid j q j).length ≤ 1000) := Lib.hid (by have := len_out (P := P) (H := j) (k := q) (j := j) (i := 0) (by omega) hP5.2 hH4.2 (by omega) (by omega); simp only [List.length_append] at this ⊢; omega)
          clear hl1 hl2 hl3 hD HR
          generalize pout j q ++ pmid j q j = L at *
          generalize prow j q j = R at *
          go_wp2_with (at_builtin; go_loud (refine app_cls _ rfl (.tmp 65) (.tmp 67) rfl B (.slice ao n cp) (.slice bo m dp) (.slice none 0 0) wr.heap.size L R [] rfl HQ1.out rfl HQ2.out HQ3.out ?d2 HSQ.out ?_))
          case d2 => have := HLL.out; omega
          intro a8 c8 w8 hP8 hb8 hg8
          have hR8 : Rel B w3 w8 (pout j (q + 1)) [] (.slice a8 (L.length + 1) c8) (.slice none 0 0) := ⟨by rw [← HLS.out]; exact hP8, HBQ.out.trans hb8, Nat.le_trans HSQ.out hb8.size⟩
          have HR8 := Lib.hid hR8
          generalize L.length + 1 = n8 at *
          clear hP8 hb8 hg8 hR8 HQ1 HQ2 HQ3 HBQ HSQ
          go_wp2
          go_roundw
          case rel => exact ⟨q + 1, _, _, _, by omega, by go_num, rfl, HR8.out⟩
          case measure => simp [intOf]; omega
    · obtain rfl : q = P := by omega
      have hs := HR.out.2.2
      have hBw := HB3.out.trans (HR.out.2.1.mono (by omega))
      have HBW := Lib.hid hBw
      have hOw := HO3.out.below HR.out.2.1 (by omega)
      have HCL := Lib.hid HR.out.1.at
      have HPL : Hid ((pout H q).length ≤ 1000) := Lib.hid (by have := len_out (P := q) (H := H) (k := q) (j := 0) (i := 0) (Nat.le_refl _) hP5.2 hH4.2 (by omega) (by omega); simp only [List.length_append] at this; omega)
      have HLL : Hid (∀ c, c ∈ pout H q → c.length ≤ 100) := Lib.hid fun c hc => by have := pout_lens hc; omega
      have HNV := Lib.hid (nilv_pg HR.out.1)
      obtain ⟨hm1, hm2, hm3⟩ := pat_mul hP5.2 hH4.2
      have mR : UR.tmod 50 = (dR : Int) := hrmR
      have mK : UK.tmod 50 = (dK : Int) := hrmK
      have yR : IntKind.u64.wrap (dR : Int) = (dR : Int) := by unfold IntKind.wrap; simp [IntKind.signed, IntKind.bits]; omega
      have yK : IntKind.u64.wrap (dK : Int) = (dK : Int) := by unfold IntKind.wrap; simp [IntKind.signed, IntKind.bits]; omega
      have hso := solve_ans (q * H) (dR : Int) (dK : Int) 1073741824 false a1 a2 (av := .slice none 0 0) (asm := []) HCL.out (ints_none wr wr.heap.size) (Nat.le_refl _) (by omega) ((hBw.cell (show (⟨9, 0, none⟩ : Addr).block < w.heap.size from by show 9 < _; omega)).trans HG9.out) ((hBw.cell (show (⟨11, 0, none⟩ : Addr).block < w.heap.size from hg)).trans HG11.out) (fine_pig hP5.2 hH4.2) hm3 (by omega) (fun c hc => by have := HLL.out c hc; omega) (by decide)
      rw [show ((q * H : Nat) : Int) = (q : Int) * (H : Int) by push_cast; rfl] at hso
      have HSO := Lib.hid hso
      have HOW := Lib.hid hOw
      have hxx := HX3.out.below HR.out.2.1 (show w.heap.size < B by omega)
      have HXX := Lib.hid hxx
      obtain ⟨o0, o1, o2, o3⟩ := opt4 hOw
      have HM3 := Lib.hid hm3
      have HM1 := Lib.hid (And.intro hP5 hH4)
      have hne := neqN
      clear hrmR hrmK hm3 hso hOw hBw HR hxx HX3 HO3 HB3
      go_wp2_with fail
      refine HSO.out.mono ?_
      rintro e w4 ⟨st, conf, x1, n1, y1, x2, n2, y2, x3, n3, y3, logs, rfl, hA, hb4⟩
      have hA5 : Below w4.heap.size w4 (w4.alloc (.cells #[.int .i64 st, .slice x1 n1 y1, .slice x2 n2 y2, .slice x3 n3 y3, .int .i64 conf] 32)) := (Below.refl _ _).alloc (Nat.le_refl _) _
      have hs4 : B ≤ w4.heap.size := Nat.le_trans hs hb4.size
      have hz5 : (w4.alloc (.cells #[.int .i64 st, .slice x1 n1 y1, .slice x2 n2 y2, .slice x3 n3 y3, .int .i64 conf] 32)).heap.size = w4.heap.size + 1 := by simp
      have hR5 := Whole.new w4 32 [.int .i64 st, .slice x1 n1 y1, .slice x2 n2 y2, .slice x3 n3 y3, .int .i64 conf]
      have hX5 := (HXX.out.below hb4 (by omega)).below hA5 (by omega)
      have hAn5 := hA.keep hA5
      have HB5 : Hid (Below w.heap.size w (w4.alloc (.cells #[.int .i64 st, .slice x1 n1 y1, .slice x2 n2 y2, .slice x3 n3 y3, .int .i64 conf] 32))) := Lib.hid ((HBW.out.trans (hb4.mono (by omega))).trans (hA5.mono (by omega)))
      have HC5 : Hid (ClsAt (w4.alloc (.cells #[.int .i64 st, .slice x1 n1 y1, .slice x2 n2 y2, .slice x3 n3 y3, .int .i64 conf] 32)) wr.heap.size (.slice ao n cp) (pout H q)) := Lib.hid (HCL.out.keep (hb4.trans (hA5.mono hb4.size)))
      have hbd := Bad_any _ (.slice ao n cp) (.slice x3 n3 y3) (pout H q) logs (HC5.out.mono (by have := hb4.size; omega)) hAn5.log HNV.out (by have := HPL.out; omega) (by have := hAn5.len; unfold cmax at this; omega) (fun c hc => by have := HLL.out c hc; omega) (log_lens hAn5.ok HM3.out)
      rw [log_bad hAn5.ok] at hbd
      have HBD := Lib.hid hbd
      have HAn5 := Lib.hid hAn5
      have hx5 := hX5.cell 0
      obtain ⟨r0, r1, r2, r3, r4⟩ := res5 hR5
      have HX5 := Lib.hid hX5
      have HR5 := Lib.hid hR5
      have HZ5 := Lib.hid hz5
      have HWR : Hid (wr.heap.size ≤ w4.heap.size) := Lib.hid hb4.size
      simp only [List.getElem?_cons_zero] at hx5
      clear hx o0 o1 o2 o3 hb4 hA hA5 hz5 hR5 hX5 hAn5 hbd HSO mR mK yR yK hcvR hcvK
      go_wp2_with fail
      refine HBD.out.mono ?_
      rintro e w6 ⟨rfl, hb6⟩
      have hz5 := HZ5.out
      have hw5 := HWR.out
      generalize w4.alloc (.cells #[.int .i64 st, .slice x1 n1 y1, .slice x2 n2 y2, .slice x3 n3 y3, .int .i64 conf] 32) = w5 at *
      generalize w4.heap.size = g at *
      have hX6 := HX5.out.below hb6 (by omega)
      have hR6 := HR5.out.below hb6 (by omega)
      have hA6 := HAn5.out.keep hb6
      have HB6 := Lib.hid (HB5.out.trans (hb6.mono (by omega)))
      have HC6 := Lib.hid (HC5.out.keep (hb6.mono (by omega)))
      have hx6 := hX6.cell 0
      simp only [List.getElem?_cons_zero] at hx6
      clear r0 r1 r2 r3 r4 hx5
      obtain ⟨r0, r1, r2, r3, r4⟩ := res5 hR6
      have hcm : cmax ≤ 1073741824 := by unfold cmax; omega
      by_cases hPH : q ≤ H
      · obtain rfl := hA6.st1 (pig_yes (by have := HM3.out; omega) hPH) (by have := HM3.out; omega) (.inr hcm)
        obtain ⟨m, hm, hall⟩ : ∃ m, BoolsAt w6 w6.heap.size (.slice x1 n1 y1) m ∧ allIn (pout H q) m = true := by
          rcases hA6.kind with ⟨_, _, m, h1, h2, h3, _⟩ | ⟨e1, _⟩ | h4
          · exact ⟨m, h1, h3⟩
          · cases e1
          · cases h4.1
        have hal := All_any (.slice ao n cp) (.slice x1 n1 y1) (pout H q) m w6 wr.heap.size w6.heap.size HC6.out hm
        rw [hall] at hal
        have HAL := Lib.hid hal
        clear hb6 hX6 hR6 hA6 hm hall hal HBD HX5 HR5 HAn5 HB5 HC5 HC6 HZ5 hz5
        go_wp2_with fail
        refine HAL.out.mono ?_
        rintro e w7 ⟨rfl, rfl⟩
        go_wp2
        go_ret
        exact ⟨rfl, HB6.out⟩
      · obtain rfl := hA6.st2 (pig_no (by have := HM3.out; omega) (by omega)) (.inr hcm)
        obtain ⟨⟨kc, hk⟩, l2, rfl⟩ := hA6.empty
        obtain ⟨bl, ol, cl, dv, hlv, hblt, hlm, ql, hli⟩ := cls_last hA6.log
        cases hlv
        have hm2 : n2 = 0 := by rcases hk with e | ⟨a, e⟩ <;> (cases e; rfl)
        subst hm2
        obtain ⟨ad, capd, bd, od, rfl, _, _, _, _⟩ := hli
        generalize l2.length = L at *
        unfold maxLen at hlm
        clear hk hb6 hX6 hR6 hA6 HBD HX5 HR5 HAn5 HB5 HC5 HC6 HZ5 hz5
        go_wp2
        go_ret
        exact ⟨rfl, HB6.out⟩
end Go.Proofs.YtjeckkkmoabjnaaDoor.satPi
