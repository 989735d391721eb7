/-
  Contract of (*search).propagate.
-/
import Derived.Test.YtojjjndhabjhdaaDoorSatK
import Derived.Deep.QuietTactic
import Derived.BigQuiet
import Derived.Deep.DeepCutAuto
import Derived.Deep.LoopGhost
namespace Go.Proofs.YtojjjndhabjhdaaDoor.satL
set_option linter.unusedSimpArgs false
set_option linter.unusedVariables false
open Go.ChangeShapes Go.WideShapes Go.ChangeAt Go.RowKit proofP proofQ owns satP satQ satA satF satB satC satD satE satG satH satI satJ satK
attribute [local go_sem ↓] Go.wp_at_zero Go.wp_at_succ

/-- between two codes of the trail -/
def ORel (B bp : Nat) (s0 : SS) (cls : Nat → List Int) (cl : List (List Int)) (w : World) (hh : Nat) (wr : World) : Prop :=
  ∃ st F, Mem wr B bp st F ∧ Kp s0 st ∧ PGd cls cl st ∧ Pro st.n st.row st.gone st.trail hh st.lvl ∧ st.head = hh ∧ hh ≤ st.trail.length ∧ (∀ t, t ∈ st.starts → t ≤ hh) ∧ Below B w wr
set_option maxHeartbeats 4000000 in
set_option maxRecDepth 100000 in
theorem propagate_any {w : World} {B bp : Nat} {s : SS} {F : Ix → Ent} {cls : Nat → List Int} {cl : List (List Int)} (h : Mem w B bp s F) (G : PGd cls cl s) (hP : Pro s.n s.row s.gone s.trail s.head s.lvl) (hhd : s.head ≤ s.trail.length) (htop : ∀ t, t ∈ s.starts → t ≤ s.head) (hcur : ∀ t, t ∈ s.starts → t < s.trail.length) :
    Calls Tryd.prog 32 #[.pointer (some ⟨bp, 0, none⟩)] w (PropP B bp s cls cl w) := by
  have HR0 : Hid (ORel B bp s cls cl w s.head w) := Lib.hid ⟨s, F, h, Kp.refl s, G, hP, rfl, hhd, htop, Below.refl _ _⟩
  have HG := Lib.hid G
  have HCUR := Lib.hid hcur
  have HTOP := Lib.hid htop
  have hV : s.V ≤ 20000 := G.hV
  have hlen := G.B.len
  clear h G hP htop hcur
  go_enter Tryd.func32, Tryd.ntmps32
  go_wp2
  go_loopg [3] (s.V + 1 - s.head) (fun g v wr => ∃ hh, hh + g = s.V + 1 ∧ s.head ≤ hh ∧ ORel B bp s cls cl w hh wr)
  case atStart => exact ⟨s.head, by omega, Nat.le_refl _, HR0.out⟩
  case round =>
    obtain ⟨hh, hg, hh0, hR⟩ := hrel
    obtain ⟨st, F1, hM, hkp, hG1, hP1, hhd1, hle, htop1, hb⟩ := hR
    have hlen1 := hG1.B.len
    have hV1 : st.V = s.V := hkp.V
    have f11 : wr.cell? ⟨bp, 11, none⟩ = some (F1 .trail).v := hM.fld 11
    have f13 : wr.cell? ⟨bp, 13, none⟩ = some (iv st.head) := hM.fld 13
    have z13 := hM.obj.frozen 13
    unfold iv at f13
    rw [hhd1] at f13
    obtain ⟨aT, cT, hTv⟩ := hM.own.value .trail
    rw [hM.xs, show (cont st (fvs F1) .trail).length = st.trail.length from by simp [cont]] at hTv
    rw [hTv] at f11
    by_cases hlt : hh < st.trail.length
    · obtain ⟨gT, cT2, hTv2, qT, zT, nT, bT, lT, _, _, _⟩ := hM.at .trail (n := st.trail.length) (by simp [cont]) (by omega)
      rw [hTv2] at hTv
      simp only [Value.slice.injEq] at hTv
      obtain ⟨rfl, _, rfl⟩ := hTv
      have qc := qT hh hlt
      rw [show cont st (fvs F1) .trail = st.trail.map iv from rfl, getD_iv hlt] at qc
      have hc : st.trail[hh]? = some (st.trail.getD hh 0) := by rw [List.getD_eq_getElem?_getD, List.getElem?_eq_getElem hlt]; rfl
      have hcr := hG1.B.rng _ (mem_at.2 ⟨hh, hc⟩)
      generalize st.trail.getD hh 0 = c at *
      have hx := xor1 c (by omega)
      have hlo := opp_rng2 hcr
      have hFol := Fol.begin hG1.B hG1.R hG1.Y hG1.wt hP1 htop1 hc
      obtain ⟨gW, cW, hWv, f6, qW, zW, nW, bW, lW⟩ := hM.watAt
      have pW := qW _ hlo.2
      generalize opp c = lost at *
      have hloI : (lost : Int) < 2 * (st.V : Int) + 2 := by omega
      have M2 : Mem ((wr.setCell ⟨bp, 13, none⟩ (.int .i64 ((hh : Int) + 1))).drew.drew) B bp (st.hd (hh + 1)) F1 := (hM.field 13 (.int .i64 ((hh : Int) + 1)) (s' := st.hd (hh + 1)) rfl (by intro k; cases k <;> rfl) rfl rfl rfl rfl).below (Below.refl _ _).drew.drew
      have hb2 : Below B w ((wr.setCell ⟨bp, 13, none⟩ (.int .i64 ((hh : Int) + 1))).drew.drew) := (hb.setCell hM.hB _).drew.drew
      have hNl : (st.W lost).length ≤ 1000000000 := hG1.watLen lost
      have hGd : Gd s (st.hd (hh + 1)) hh := ⟨hkp.hd _, hG1.vt, hG1.ph, hG1.rb, rfl⟩
      by_cases hN0 : (st.W lost).length = 0
      · have hW0 : st.W lost = [] := List.length_eq_zero_iff.1 hN0
        have hown := hM.ownAt (.watch lost) (xs := []) (by show (st.W lost).map _ = _; rw [hW0]; rfl)
        have zl := zW lost
        rw [hW0] at hFol
        have hPd : Pro st.n st.row st.gone st.trail (hh + 1) st.lvl := hFol.done
        have HO : Hid (∀ wx, Below ((wr.setCell ⟨bp, 13, none⟩ (.int .i64 ((hh : Int) + 1))).drew.drew).heap.size ((wr.setCell ⟨bp, 13, none⟩ (.int .i64 ((hh : Int) + 1))).drew.drew) wx → ORel B bp s cls cl w (hh + 1) (wx.setCell ⟨gW, lost, none⟩ (F1 (.watch lost)).v)) := Lib.hid (fun wx hbx => by
          have M3 := M2.below hbx
          obtain ⟨F3, M4, _, _⟩ := M3.putW (w' := wx) (c := lost) (v' := (F1 (.watch lost)).v) (xs' := []) hlo.2 hWv (grown_self _ _) (M3.ownAt (.watch lost) (xs := []) (by show (st.W lost).map _ = _; rw [hW0]; rfl)) (.inl rfl) (l := []) rfl
          have e : updN (st.hd (hh + 1)).W lost [] = st.W := by
            funext c
            by_cases e : c = lost
            · rw [e, updN_same, hW0]
            · rw [updN_other _ _ e]; rfl
          have M5 : Mem (wx.setCell ⟨gW, lost, none⟩ (F1 (.watch lost)).v) B bp (st.hd (hh + 1)) F3 := by
            have : ({ (st.hd (hh + 1)) with W := updN (st.hd (hh + 1)).W lost [] } : SS) = st.hd (hh + 1) := by rw [e]; rfl
            rw [← this]; exact M4
          exact ⟨_, F3, M5, hkp.hd _, ⟨hG1.B, hG1.R, hG1.Y, hG1.wt, hG1.vt, hG1.ph, hG1.rb, hG1.hn, hG1.hV, hG1.hs⟩, hPd, rfl, hlt, fun t ht => Nat.le_succ_of_le (htop1 t ht), (hb2.trans (hbx.mono (Nat.le_trans M2.hB (Nat.le_of_lt M2.obj.lt)))).setCell bW _⟩)
        have hhV : hh < s.V := by omega
        have hvc : (∃ g cap, (F1 (.watch lost)).v = .slice (some ⟨g, 0, none⟩) 0 cap) ∨ (F1 (.watch lost)).v = .slice none 0 0 := by
          rcases hown.2 with ⟨hv, _⟩ | ⟨g, cap, cur, hv, _⟩
          · exact .inr hv
          · exact .inl ⟨g, cap, hv⟩
        clear hM hkp hG1 hP1 htop1 hb hTv2 qT zT hc hFol hWv qW zW M2 hb2 hGd hown hPd hW0 hN0 HR0
        rcases hvc with ⟨g, cap, hvv⟩ | hvv
        · rw [hvv] at pW HO
          clear hvv
          go_wp2
          go_region
          go_wp2
          go_region
          go_wp2
          go_loopw [5, 48] (fun kv it wx => it = .int .i64 0 ∧ kv = .slice (some ⟨g, 0, none⟩) 0 cap ∧ wx = (wr.setCell ⟨bp, 13, none⟩ (.int .i64 ((hh : Int) + 1))).drew.drew) (fun _ _ _ => 0)
          case atStart => exact ⟨rfl, rfl, rfl⟩
          case round =>
            obtain ⟨rfl, rfl, rfl⟩ := hrel
            go_wp2
            go_roundg (gk - 1)
            case measure => omega
            case rel => exact ⟨hh + 1, by omega, by omega, HO.out _ (Below.refl _ _)⟩
        · rw [hvv] at pW HO
          clear hvv
          go_wp2
          go_region
          go_wp2
          go_region
          go_wp2
          go_loopw [5, 48] (fun kv it wx => it = .int .i64 0 ∧ kv = .slice none 0 0 ∧ wx = (wr.setCell ⟨bp, 13, none⟩ (.int .i64 ((hh : Int) + 1))).drew.drew) (fun _ _ _ => 0)
          case atStart => exact ⟨rfl, rfl, rfl⟩
          case round =>
            obtain ⟨rfl, rfl, rfl⟩ := hrel
            go_wp2
            go_roundg (gk - 1)
            case measure => omega
            case rel => exact ⟨hh + 1, by omega, by omega, HO.out _ (Below.refl _ _)⟩
      · obtain ⟨gL, capL, hLv, _, _, nL, bL, lL, _, kL, mL⟩ := hM.at (.watch lost) (n := (st.W lost).length) (by simp [cont]) (by omega)
        rw [hLv] at pW
        have HR1 : Hid (FRel B bp s cls cl hh lost gL capL (st.W lost).length w 0 0 ((wr.setCell ⟨bp, 13, none⟩ (.int .i64 ((hh : Int) + 1))).drew.drew)) := Lib.hid ⟨st.hd (hh + 1), F1, [], M2, hLv, rfl, rfl, rfl, Nat.le_refl _, hGd, hFol, hb2⟩
        have HTOP1 := Lib.hid htop1
        unfold maxLen at mL
        clear hM hkp hG1 hP1 htop1 hb hTv2 qT zT hc hFol hWv qW zW M2 hb2 hGd hLv
        generalize (st.W lost).length = N at *
        go_wp2
        go_region
        go_wp2
        go_region
        go_wp2
        generalize ((wr.setCell ⟨bp, 13, none⟩ (.int .i64 ((hh : Int) + 1))).drew.drew) = w2 at *
        clear f6 f11 f13 z13 qc pW
        have hhV : hh < s.V := by omega
        rw [hV1] at hloI hlo
        clear hx hcr hlt hle hlen1 hV1 HR0 lT lW lL nT bT nW bW nL HTOP1
        go_loopw [5, 48] (fun kv it wx => ∃ q k : Nat, k ≤ N ∧ q ≤ k ∧ it = .int .i64 k ∧ kv = .slice (some ⟨gL, 0, none⟩) q capL ∧ FRel B bp s cls cl hh lost gL capL N w q k wx) (fun _ it _ => N - (intOf it).toNat)
        case atStart => exact ⟨0, 0, Nat.zero_le _, Nat.le_refl _, rfl, rfl, HR1.out⟩
        case round =>
          obtain ⟨q, k, hk, hqk, rfl, rfl, hrel⟩ := hrel
          clear HR1
          have HR := Lib.hid hrel
          obtain ⟨st1, F2, kept, hM, hv, hN, hkl, htk, _, hGd, hF, hb⟩ := hrel
          have hV2 : st1.V = s.V := hGd.kp.V
          by_cases hlt : k < N
          · have hdr : (st1.W lost).drop k = (st1.W lost).getD k 0 :: (st1.W lost).drop (k + 1) := by
              rw [List.drop_eq_getElem_cons (by omega), List.getD_eq_getElem?_getD, List.getElem?_eq_getElem (by omega), Option.getD_some]
            rw [hdr] at hF
            have hxw : (F2 (.watch lost)).xs = (st1.W lost).map (pv st1.rp) := hM.xs (.watch lost)
            have cL := hM.own.cell hv k (by rw [hxw]; simp; omega)
            rw [hxw, List.getElem?_map, List.getElem?_eq_getElem (by omega), show (st1.W lost)[k]'(by omega) = (st1.W lost).getD k 0 from by rw [List.getD_eq_getElem?_getD, List.getElem?_eq_getElem (by omega)]; rfl] at cL
            generalize (st1.W lost).getD k 0 = i at *
            obtain ⟨hi, h2, hor⟩ := hF.at
            obtain ⟨gi, capi, hI, r0, cI, zI, nI, nIR, bI, lI, lR, nR⟩ := hM.rowAt hi (by omega)
            obtain ⟨_, _, rg, _, _⟩ := hM.obji hi
            have c0 := cI 0 (by omega)
            have c1 := cI 1 (by omega)
            have z0 := zI 0
            have z1 := zI 1
            have hrp := hGd.kp.rp
            have hn1 := hGd.kp.n
            rw [hGd.kp.gone] at rg
            simp only [Option.map_some] at cL
            unfold pv at cL
            rw [hrp] at cL rg r0 nIR lR nR
            have HM := Lib.hid hM
            have HI := Lib.hid hI
            have HV := Lib.hid hv
            have HN := Lib.hid hN
            have HKL := Lib.hid hkl
            have HTK := Lib.hid htk
            have HGD := Lib.hid hGd
            have HF := Lib.hid hF
            have HB := Lib.hid hb
            have HOR := Lib.hid hor
            have HRP := Lib.hid hrp
            clear hM hdr hv hN hkl htk hGd hF hb hor hI cI zI hxw hrp
            generalize hL : (st1.row i).length = L at *
            have HL := Lib.hid hL
            clear hL
            have h0L : 0 < L := by omega
            have h1L : 1 < L := by omega
            generalize hy0 : (st1.row i).getD 0 0 = y0 at *
            generalize hy1 : (st1.row i).getD 1 0 = y1 at *
            have HY0 := Lib.hid hy0
            have HY1 := Lib.hid hy1
            clear hy0 hy1
            cases hgo : s.gone i
            · rw [hgo] at rg
              have HGO := Lib.hid hgo
              clear hgo
              go_upto_if 64 with (fail)
              go_cut [7] (fun rv' wx => rv' = .pointer (some ⟨s.rp i, 0, none⟩) ∧ FMid B bp s cls cl hh lost gL capL N w q k i wx)
              case first =>
                by_cases h0 : y0 = lost
                · subst h0
                  have HMID := Lib.hid (mid_swap HM.out HV.out HN.out HKL.out HTK.out hqk HGD.out HF.out HB.out HI.out HY1.out HY0.out)
                  go_wp2
                  go_region
                  all_goals (go_wp2; go_meet; exact ⟨rfl, HMID.out⟩)
                · have b0 : ((y0 : Int) == (lost : Int)) = false := by rw [beq_eq_false_iff_ne]; omega
                  have HMID : Hid (FMid B bp s cls cl hh lost gL capL N w q k i ‹World›) := Lib.hid ⟨st1, F2, kept, HM.out, HV.out, HN.out, HKL.out, HTK.out, hqk, HGD.out, HF.out, HB.out, HY1.out.trans (HOR.out.resolve_left h0)⟩
                  clear h0
                  go_wp2
                  go_meet
                  exact ⟨rfl, HMID.out⟩
              case rest =>
                obtain ⟨rfl, hmid⟩ := hcut
                clear HM HV HN HKL HTK HF HB HI HL HOR r0 c0 c1 z0 z1 cL HY0 HY1 HR rg HGD HRP
                obtain ⟨st2, F3, kept2, hM, hv, hN, hkl, htk, _, hGd, hF, hb, h1⟩ := hmid
                obtain ⟨hi2, h22, _⟩ := hF.at
                have hV3 : st2.V = s.V := hGd.kp.V
                have hrp : st2.rp = s.rp := hGd.kp.rp
                have hn3 := hGd.kp.n
                obtain ⟨gj, capj, hI, r0, cI, zI, nJ, nJR, bJ, lJ, lR2, nR2⟩ := hM.rowAt hi2 (by omega)
                obtain ⟨gV, capV, hVv, f7, qV, nV, lV⟩ := hM.valAt
                have hm0 : (st2.row i).getD 0 0 ∈ st2.row i := get_mem (by omega)
                have hx0 := hF.R.rng i hi2 _ hm0
                rw [hV3] at hx0 f7
                have v0 := qV _ (by rw [hV3]; exact hx0.2)
                have c0 := cI 0 (by omega)
                rw [hrp] at r0 nJR lR2 nR2
                rw [hGd.vt] at v0
                have cq := hM.own.cell hv q (by rw [hM.xs]; show q < ((st2.W lost).map _).length; rw [List.length_map]; omega)
                have cqs : ∃ pq, wc.cell? ⟨gL, q, none⟩ = some (.pointer pq) := by
                  rw [cq, hM.xs]
                  show ∃ pq, ((st2.W lost).map (pv st2.rp))[q]? = _
                  rw [List.getElem?_map, List.getElem?_eq_getElem (by omega)]
                  exact ⟨_, rfl⟩
                obtain ⟨old, cqo⟩ := cqs
                have zq := hM.own.frozen hv q
                have HM := Lib.hid hM
                have HV := Lib.hid hv
                have HN := Lib.hid hN
                have HKL := Lib.hid hkl
                have HTK := Lib.hid htk
                have HGD := Lib.hid hGd
                have HF := Lib.hid hF
                have HB := Lib.hid hb
                have H1 := Lib.hid h1
                have HVv := Lib.hid hVv
                have nbL : bp ≠ gL := fun e => hM.ne (.watch lost) (by rw [hv, e]; rfl)
                have nVL := hM.two (by simp) hVv hv
                have hblc := hM.obj.lt
                have HPV : Hid (pv st2.rp i = .pointer (some ⟨s.rp i, 0, none⟩)) := Lib.hid (by unfold pv; rw [hrp])
                have HRP := Lib.hid hrp
                have HI2 := Lib.hid hi2
                generalize hy0 : (st2.row i).getD 0 0 = x0 at *
                have HY0 := Lib.hid hy0
                clear hM hv hN hkl htk hGd hF hb hI h1 cI zI qV hVv hy0 cq hrp hm0 hi2
                have hqc : q + 1 ≤ capL := by omega
                have hgL2 : gL < wc.heap.size := by rw [show gL = (⟨gL, q, none⟩ : Addr).block from rfl]; exact World.block_lt_of_cell? wc _ cqo
                have hx0I : (x0 : Int) < 2 * (s.V : Int) + 2 := by omega
                have h0L2 : 0 < (st2.row i).length := by omega
                generalize hL2 : (st2.row i).length = L2 at *
                have HL2 := Lib.hid hL2
                clear hL2
                by_cases hx : x0 ∈ st2.trail
                · rw [val_pos hx] at v0
                  have HX : Hid ((st2.row i).getD 0 0 ∈ st2.trail) := Lib.hid (by rw [HY0.out]; exact hx)
                  clear hx
                  have HREL : Hid (∀ o, FRel B bp s cls cl hh lost gL capL N w (q + 1) (k + 1) ((wc.setCell ⟨gL, q, none⟩ (.pointer (some ⟨s.rp i, 0, none⟩))).alloc o)) := Lib.hid (fun o => by rw [← HPV.out]; exact mid_keep HM.out HV.out HN.out HKL.out HTK.out hqk hlt HGD.out (HF.out.keep H1.out HX.out) HB.out (Below.refl _ _) o)
                  clear HM HF HB HGD
                  go_wp2
                  go_roundw
                  case rel => exact ⟨q + 1, k + 1, by omega, by omega, by go_num, rfl, HREL.out _⟩
                  case measure => simp [intOf]; omega
                · have hvn : val st2.trail x0 ≤ 0 := by
                    by_cases ho : opp x0 ∈ st2.trail
                    · rw [val_neg hx ho]; decide
                    · rw [val_zero hx ho]; decide
                  have HX : Hid (x0 ∉ st2.trail) := Lib.hid hx
                  generalize hz : val st2.trail x0 = z at *
                  have HZ := Lib.hid hz
                  clear hz hx
                  have HMV : Hid (Calls Tryd.prog 52 #[.pointer (some ⟨bp, 0, none⟩), .pointer (some ⟨s.rp i, 0, none⟩)] wc (MoveP B bp st2 F3 i wc)) := Lib.hid (by
                    rw [← HPV.out]
                    exact move_any HM.out (by rw [HGD.out.kp.V]; exact hV) (by rw [HGD.out.vt]; exact HF.out.B.con) i HI2.out (by rw [HL2.out]; exact h22) (fun x hx => (HF.out.R.rng i HI2.out x hx).2) (rows_len HF.out.R (by rw [HGD.out.kp.V]; exact hV) HI2.out) (watch_len HGD.out HG.out.hn HN.out hNl HF.out))
                  have HX0 : Hid ((st2.row i).getD 0 0 ∉ st2.trail) := Lib.hid (by rw [HY0.out]; exact HX.out)
                  go_wp2_with fail
                  refine HMV.out.mono ?_
                  rintro e w4 (⟨k2, hk2, hk2l, hk2o, rfl, F4, hM4, hK4, hb4⟩ | ⟨hall, rfl, rfl⟩)
                  · have HREL := Lib.hid (mid_move hM4 hK4 HV.out HN.out HKL.out HTK.out hqk HGD.out HF.out H1.out HX0.out hk2 hk2l (by rw [← HGD.out.vt]; exact hk2o) (HB.out.trans hb4))
                    clear hk2l hk2o hM4 hK4 hb4 HM HMV HF HB HGD
                    go_wp2
                    go_roundw
                    case rel => exact ⟨q, k + 1, by omega, by omega, by go_num, rfl, HREL.out⟩
                    case measure => simp [intOf]; omega
                  · rw [HGD.out.vt] at hall
                    have HALL := Lib.hid hall
                    clear hall HMV
                    obtain ⟨F4, M4, hF4⟩ := keep_mem HM.out HV.out (Below.refl _ _) q i
                    rw [HPV.out] at M4
                    have HM4 := Lib.hid M4
                    have HF4 := Lib.hid hF4
                    clear M4 hF4
                    by_cases ho : opp x0 ∈ st2.trail
                    · obtain rfl : z = -1 := by rw [← HZ.out]; exact val_neg HX.out ho
                      have HLO := Lib.hid (HF.out.fail H1.out (fun k a b => HALL.out k a b) (by rw [HY0.out]; exact ho))
                      clear ho
                      have hM4 := HM4.out.below ((Below.refl _ _).alloc (Nat.le_refl _) (.cells #[.pointer (some ⟨s.rp i, 0, none⟩)] 73))
                      have hBW : Below B w ((w4.setCell ⟨gL, q, none⟩ (.pointer (some ⟨s.rp i, 0, none⟩))).alloc (.cells #[.pointer (some ⟨s.rp i, 0, none⟩)] 73)) := (HB.out.setCell ((HM.out.own.1 (.watch lost)).lt gL (by rw [HV.out]; rfl)).1 _).alloc (by simp; exact Nat.le_trans HM.out.hB (Nat.le_of_lt HM.out.obj.lt)) _
                      have hv4 : (F4 (.watch lost)).v = .slice (some ⟨gL, 0, none⟩) N capL := (congrFun HF4.out (.watch lost)).trans HV.out
                      obtain ⟨C1, C2, C3⟩ := tail_cells hM4 hv4 HN.out HKL.out HTK.out hqk hlt
                      obtain ⟨gW3, capW3, hWv3, f6, qW3, zW3, nW3, bW3, lW3⟩ := hM4.watAt
                      have hlm2 : lost < 2 * st2.V + 2 := by rw [HGD.out.kp.V]; omega
                      have hWv3' : (F4 .watches).v = .slice (some ⟨gW3, 0, none⟩) (2 * st2.V + 2) capW3 := hWv3
                      have f6' : ((w4.setCell ⟨gL, q, none⟩ (.pointer (some ⟨s.rp i, 0, none⟩))).alloc (.cells #[.pointer (some ⟨s.rp i, 0, none⟩)] 73)).cell? ⟨bp, 6, none⟩ = some (.slice (some ⟨gW3, 0, none⟩) (2 * s.V + 2) capW3) := by rw [← HGD.out.kp.V]; exact f6
                      have wl := qW3 lost hlm2
                      have zl := zW3 lost
                      have HTOPh : ∀ t, t ∈ s.starts → t ≤ hh := fun t ht => Nat.le_trans (HTOP.out t ht) hh0
                      have HP := Lib.hid (fun (w5 : World) (hg : ((w4.setCell ⟨gL, q, none⟩ (.pointer (some ⟨s.rp i, 0, none⟩))).alloc (.cells #[.pointer (some ⟨s.rp i, 0, none⟩)] 73)).grownBy w5 (some gL)) M hM' hcut => fail_P (M := M) (w1 := w5) HG.out HTOPh hM4 hv4 hlm2 hWv3' HGD.out HF.out HLO.out hBW hg hM' hcut)
                      rw [HPV.out] at HP
                      have HC1 := Lib.hid C1
                      have HC2 := Lib.hid C2
                      have HC3 := Lib.hid C3
                      have hn3 : gW3 ≠ gL := fun e => by have := hM4.own.2 .watches (.watch lost) gL (by rw [hWv3', e]; rfl) (by rw [hv4]; rfl); cases this
                      have F6 := Lib.hid f6'
                      have WL := Lib.hid wl
                      have ZL := Lib.hid zl
                      have HE : Hid ((kept2 ++ [i]).map (pv st2.rp) ++ ((st2.W lost).drop (k + 1)).map (pv st2.rp) = (kept2 ++ (i :: (st2.W lost).drop (k + 1))).map (pv st2.rp)) := Lib.hid (by simp)
                      have HEL : Hid ((kept2 ++ (i :: (st2.W lost).drop (k + 1))).length = q + 1 + (N - (k + 1))) := Lib.hid (by rw [List.length_map] at C3; simp only [List.length_append, List.length_cons, HKL.out, C3]; omega)
                      generalize (F4 (.watch lost)).v = wlv at WL
                      have hdl : (((st2.W lost).drop (k + 1)).map (pv st2.rp)).length = N - (k + 1) := C3
                      have hloI2 : (lost : Int) < 2 * (s.V : Int) + 2 := hloI
                      clear hM4 hBW hv4 C1 C2 C3 hWv3 hWv3' qW3 zW3 f6 f6' wl zl HM4 HM HF HB hdl HTOPh
                      obtain ⟨i0, hi0, hz0, hz1, hz2⟩ := info_parts infoR
                      by_cases hcap : capL = k + 1
                      · subst hcap
                        obtain rfl : N = k + 1 := by omega
                        have hE0 : (st2.W lost).drop (k + 1) = [] := List.drop_eq_nil_of_le (by rw [HN.out]; exact Nat.le_refl _)
                        have hmk : IntKind.i64.wrap ((k : Int) + 1) = (k : Int) + 1 := IntWalk.i64_in _ (by omega)
                        rw [hE0] at HE HEL HP
                        clear hE0
                        have HEL : Hid ((kept2 ++ [i]).length = q + 1) := Lib.hid (by simp [HKL.out])
                        go_wp2_with (at_builtin; refine wpList_append_fits_any _ rfl _ _ 48 rfl B 73 i0 1 Tryd.underlying48 hi0 hz1 gL (q + 1) (k + 1) ((kept2 ++ [i]).map (pv st2.rp)) rfl HC1.out (some ⟨gL, 0, none⟩) 0 0 [] rfl ?n ?no ?ce ?on ?fi ?_)
                        case n => rfl
                        case ce => intro ad _ j u hu; simp at hu
                        case on => intro u hu; simp at hu
                        case fi => omega
                        intro w5 hown5 hgrow5
                        have f6'' := hgrow5.cell F6.out (by simpa using nbL)
                        have wl' := hgrow5.cell WL.out (by simpa using hn3)
                        have zl' : w5.frozen? ⟨gW3, lost, none⟩ = false := (World.frozen?_of_block (hgrow5.block gW3 lW3 (by simpa using hn3))).trans ZL.out
                        have HPP := Lib.hid (HP.out w5 hgrow5 _ HEL.out (by simpa using hown5))
                        clear hown5 hgrow5
                        go_wp2
                        go_ret
                        exact HPP.out
                      · have hcap' : k + 1 < capL := by omega
                        have hmk : IntKind.i64.wrap ((k : Int) + 1) = (k : Int) + 1 := IntWalk.i64_in _ (by omega)
                        clear hcap
                        go_wp2_with (at_builtin; refine wpList_append_fits_any _ rfl _ _ 48 rfl B 73 i0 1 Tryd.underlying48 hi0 hz1 gL (q + 1) capL ((kept2 ++ [i]).map (pv st2.rp)) rfl HC1.out (some ⟨gL, k + 1, none⟩) (N - (k + 1)) (capL - (k + 1)) (((st2.W lost).drop (k + 1)).map (pv st2.rp)) rfl ?n2 ?no2 ?ce2 ?on2 ?fi2 ?_)
                        case n2 => simpa using HC3.out
                        case no2 => intro h; cases h
                        case ce2 => intro ad had; cases had; exact HC2.out
                        case on2 => intro u hu; obtain ⟨x, _, rfl⟩ := List.mem_map.1 hu; rfl
                        case fi2 => omega
                        intro w5 hown5 hgrow5
                        have f6'' := hgrow5.cell F6.out (by simpa using nbL)
                        have wl' := hgrow5.cell WL.out (by simpa using hn3)
                        have zl' : w5.frozen? ⟨gW3, lost, none⟩ = false := (World.frozen?_of_block (hgrow5.block gW3 lW3 (by simpa using hn3))).trans ZL.out
                        have HPP := Lib.hid (HP.out w5 hgrow5 _ HEL.out (by rw [← HE.out]; simpa using hown5))
                        clear hown5 hgrow5
                        go_wp2
                        go_ret
                        exact HPP.out
                    · obtain rfl : z = 0 := by rw [← HZ.out]; exact val_zero HX.out ho
                      have hM4 := HM4.out.below ((Below.refl _ _).alloc (Nat.le_refl _) (.cells #[.pointer (some ⟨s.rp i, 0, none⟩)] 73))
                      have hBW : Below B w ((w4.setCell ⟨gL, q, none⟩ (.pointer (some ⟨s.rp i, 0, none⟩))).alloc (.cells #[.pointer (some ⟨s.rp i, 0, none⟩)] 73)) := (HB.out.setCell ((HM.out.own.1 (.watch lost)).lt gL (by rw [HV.out]; rfl)).1 _).alloc (by simp; exact Nat.le_trans HM.out.hB (Nat.le_of_lt HM.out.obj.lt)) _
                      have HPU := Lib.hid (HF.out.push H1.out (fun k a b => HALL.out k a b) HX0.out (by rw [HY0.out]; exact ho))
                      have HSET : Hid (Calls Tryd.prog 29 #[.pointer (some ⟨bp, 0, none⟩), .int .i64 x0, .pointer (some ⟨s.rp i, 0, none⟩)] ((w4.setCell ⟨gL, q, none⟩ (.pointer (some ⟨s.rp i, 0, none⟩))).alloc (.cells #[.pointer (some ⟨s.rp i, 0, none⟩)] 73)) fun e w' => e = .returned (.tuple #[]) ∧ SetP B bp (st2.wt (updN st2.W lost ((st2.W lost).set q i))) F4 x0 (some i) ((w4.setCell ⟨gL, q, none⟩ (.pointer (some ⟨s.rp i, 0, none⟩))).alloc (.cells #[.pointer (some ⟨s.rp i, 0, none⟩)] 73)) w') := Lib.hid (by
                        have := set_any hM4 (by show st2.V ≤ _; rw [HGD.out.kp.V]; exact hV) x0 (some i) (by show _ ∧ x0 < 2 * st2.V + 2; rw [HGD.out.kp.V]; exact hx0) (by show x0 ∉ st2.vt; rw [HGD.out.vt]; exact HX.out) (by show opp x0 ∉ st2.vt; rw [HGD.out.vt]; exact ho) (by show st2.trail.length ≤ _; have := HF.out.B.len; rw [HGD.out.kp.V] at this; omega) (by show st2.starts.length ≤ _; rw [HGD.out.kp.starts]; have := HG.out.hs; omega)
                        rw [show rv (st2.wt (updN st2.W lost ((st2.W lost).set q i))).rp (some i) = .pointer (some ⟨s.rp i, 0, none⟩) from HPV.out] at this
                        exact this)
                      have HBW := Lib.hid hBW
                      clear ho hM4 hBW HM HF HB
                      go_wp2_with fail
                      refine HSET.out.mono ?_
                      rintro e w5 ⟨rfl, F5, M5, K5, B5⟩
                      have HREL := Lib.hid (mid_push (st := st2) (i := i) (by rw [HY0.out]; exact M5) ((K5 (.watch lost) (by simp)).trans ((congrFun HF4.out (.watch lost)).trans HV.out)) HN.out HKL.out HTK.out hqk hlt HGD.out HPU.out HI2.out (HBW.out.trans B5))
                      clear M5 K5 B5 HGD HPU HSET HM4
                      go_wp2
                      go_roundw
                      case rel => exact ⟨q + 1, k + 1, by omega, by omega, by go_num, rfl, HREL.out⟩
                      case measure => simp [intOf]; omega
            · rw [hgo] at rg
              have HD := Lib.hid (rel_drop HM.out HV.out HN.out HKL.out HTK.out hqk HGD.out HF.out (by rw [HGD.out.kp.gone]; exact hgo) HB.out)
              clear hgo HR HM
              go_wp2
              go_roundw
              case rel => exact ⟨q, k + 1, by omega, by omega, by go_num, rfl, HD.out⟩
              case measure => simp [intOf]; omega
          · obtain rfl : k = N := by omega
            obtain ⟨gW2, cW2, hWv, f6, qW, zW, nW2, bW2, lW2⟩ := hM.watAt
            rw [List.drop_eq_nil_of_le (by omega)] at hF
            have pW := qW lost (by omega)
            have zl := zW lost
            obtain ⟨F3, M3, P3, K3, Pr3, B3⟩ := done_R HG.out hM hv (by omega) hWv hN hkl htk hqk hGd hF hb
            rw [hV2] at f6
            have HO : Hid (ORel B bp s cls cl w (hh + 1) (World.setCell ‹World› ⟨gW2, lost, none⟩ (.slice (some ⟨gL, 0, none⟩) q capL))) := Lib.hid ⟨_, F3, M3, K3, P3, Pr3, hGd.hd, at_lt hF.hl, fun t ht => Nat.le_succ_of_le (hF.top t ht), B3⟩
            generalize (F2 (.watch lost)).v = wlv at *
            clear M3 P3 K3 Pr3 B3 hM hv hN hkl htk hGd hF hb hWv qW zW HR
            go_wp2
            go_roundg (gk - 1)
            case measure => omega
            case rel => exact ⟨hh + 1, by omega, by omega, HO.out⟩
    · obtain rfl : hh = st.trail.length := by omega
      have HFIN : Hid (∀ w', Below wr.heap.size wr w' → PropP B bp s cls cl w (.returned (.pointer none)) w') := Lib.hid (fun w' hb' => ⟨st, F1, hM.below hb', hb.trans (hb'.mono (Nat.le_trans hM.hB (Nat.le_of_lt hM.obj.lt))), hkp, hG1, fun t ht => by
        rw [hhd1]
        have := HCUR.out t (by rw [← hkp.starts]; exact ht)
        have := hkp.2.length_le; omega, by rw [hhd1]; exact Nat.le_refl _, .inl ⟨rfl, hhd1, hP1⟩⟩)
      clear hM hkp hG1 hP1 hhd1 htop1 hb hTv
      go_wp2
      go_region
      go_wp2
      go_ret
      exact HFIN.out _ (Below.refl _ _).drew
end Go.Proofs.YtojjjndhabjhdaaDoor.satL
