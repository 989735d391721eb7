/-
  Contract of (*search).analyze.
-/
import Derived.Test.YtojjjndhabjhdaaDoorSatV
import Derived.Deep.QuietTactic
import Derived.BigQuiet
import Derived.Deep.DeepCutAuto
namespace Go.Proofs.YtojjjndhabjhdaaDoor.satO
set_option linter.unusedSimpArgs false
set_option linter.unusedVariables false
open Go.ChangeShapes Go.WideShapes Go.ChangeAt Go.RowKit proofP proofQ owns cls satP satQ satR satA satF satB satC satD satE satG satH satI satJ satK satM satN satU satV
attribute [local go_sem ↓] Go.wp_at_zero Go.wp_at_succ

def AnP (B bp : Nat) (s : SS) (F : Ix → Ent) (cl : List (List Int)) (P : Nat → Prop) (w : World) (e : Ending) (w' : World) : Prop :=
  ∃ code ks seen hp pl wt st tmp F', Mem w' B bp (s.an seen hp pl wt st tmp) F' ∧ tmp 1 = opp code :: ks ∧ e = .returned (F' (.tmp 1)).v ∧ Lrn s.trail s.starts s.lvl cl code ks ∧ QI s.V P hp pl ∧ WF (s.an seen hp pl wt st tmp) ∧ (∀ v, v ≤ s.V → seen v = false) ∧ Below B w w'
theorem new_oneD (w : World) (x : Value) (t : TypeId) {n : Nat} (hn : w.heap.size = n) : ∀ j u, [x][j]? = some u → (w.alloc (.cells #[x] t)).drew.cell? ((⟨n, 0, none⟩ : Addr).add j) = some u := by
  subst hn
  exact new_one w x t
theorem erase_len {l : List Nat} {x : Nat} (h : x ∈ l) : (l.erase x).length + 1 = l.length := by
  rw [List.length_erase_of_mem h]
  have := List.length_pos_of_mem h
  omega
theorem drop_cons' {l : List Nat} {k : Nat} (h : k < l.length) : l.drop k = l.getD k 0 :: l.drop (k + 1) := by
  rw [List.drop_eq_getElem_cons h, List.getD_eq_getElem?_getD, List.getElem?_eq_getElem h]; rfl
theorem getD_mem' {l : List Nat} {k : Nat} (h : k < l.length) : l.getD k 0 ∈ l := by
  rw [List.getD_eq_getElem?_getD, List.getElem?_eq_getElem h]; exact List.getElem_mem h
section
variable {B bp : Nat} {s : SS} {F : Ix → Ent} {cls : Nat → List Int} {cl : List (List Int)} {P : Nat → Prop} {w wr w2 : World} {a code no y : Nat} {rest : List Nat} {cv : Value}
theorem ar_skip (G : PGd cls cl s) (hs0 : 0 < s.starts.length) {seen : Nat → Bool} {hp : List Nat} {pl : Nat → Int} {wt : List Value} {st : Value} {tmp : Nat → List Nat} {F' : Ix → Ent} {cs mk : List Nat} (M : Mem wr B bp (s.an seen hp pl wt st tmp) F')
    (hA : Ana s.trail s.starts s.lvl cl a code cs mk (y :: rest) seen) (hmk : mk.length = no) (htm : tmp 0 = 0 :: cs) (hcv : (F' (.tmp 0)).v = cv) (hK : ∀ k, k ≠ .tmp 0 → (F' k).v = (F k).v) (hQ : QI s.V P hp pl) (hW : WF (s.an seen hp pl wt st tmp)) (hb : Below B w wr)
    (hex : mk ≠ [] ∨ ∃ z, z ∈ y :: rest ∧ z ≠ code ∧ s.lvl (z / 2) = s.starts.length) (hy : y = code ∨ seen (y / 2) = true ∨ s.lvl (y / 2) = 0) (h2 : Below B wr w2) (h3 : Below wr.heap.size wr w2) : AR B bp s F cl P w a code rest no cv w2 := by
  refine ⟨⟨seen, hp, pl, wt, st, tmp, F', cs, mk, M.below h3, hA.skip G.B (fun x hx h0 => ?_) hy, hmk, htm, hcv, hK, hQ, hW, hb.trans h2, ?_⟩⟩
  · obtain ⟨p, hp⟩ := mem_at.1 hx
    exact G.Y.zero G.B G.R p x hp h0
  · rcases hex with h | ⟨z, hz, hne, hl⟩
    · exact .inl h
    · rcases List.mem_cons.1 hz with rfl | hz
      · refine .inl fun e => ?_
        rcases hy with hy | hy | hy
        · exact hne hy
        · rcases (hA.ps _).1 hy with ⟨c, hc, e2⟩ | ⟨x, hx, _⟩
          · have := (hA.pc c hc).2.2; rw [e2] at this; omega
          · rw [e] at hx; simp at hx
        · omega
      · exact .inr ⟨z, hz, hne, hl⟩
end
theorem an_end {B bp : Nat} {s : SS} {F6 : Ix → Ent} {F : Ix → Ent} {cls : Nat → List Int} {cl : List (List Int)} {P : Nat → Prop} {w w6 : World} {x : Nat} {cs : List Nat} {seen : Nat → Bool} {hp : List Nat} {pl : Nat → Int} {wt : List Value} {st : Value} {tmp : Nat → List Nat} {seen0 : Nat → Bool} {tmp0 : Nat → List Nat} (G : PGd cls cl s)
    (hU : Uip s.trail s.starts s.lvl cl x cs seen) (ht : tmp 0 = opp x :: cs) (hQ : QI s.V P hp pl) (hW : WF (s.an seen0 hp pl wt st tmp0)) (hb : Below B w w6)
    (M : Mem w6 B bp (((s.an seen hp pl wt st tmp).se (unseen seen (opp x :: cs) (opp x :: cs).length)).tm (updN tmp 1 (kept (s.an seen hp pl wt st tmp) (opp x) cs cs.length))) F6) : AnP B bp s F cl P w (.returned (F6 (.tmp 1)).v) w6 := by
  refine ⟨x, cs.filter fun c => !folB (s.an seen hp pl wt st tmp) c, unseen seen (opp x :: cs) (opp x :: cs).length, hp, pl, wt, st, updN tmp 1 (kept (s.an seen hp pl wt st tmp) (opp x) cs cs.length), F6, M, ?_, rfl, ?_, hQ, ⟨hW.len, hW.fp, hW.st⟩, ?_, hb⟩
  · rw [updN_same]; unfold kept; rw [List.take_length]
  · refine hU.short G.B G.R G.Y List.filter_sublist fun c hc hn => ?_
    cases hf : folB (s.an seen hp pl wt st tmp) c
    · exact absurd (List.mem_filter.2 ⟨hc, by rw [hf]; rfl⟩) hn
    · exact folB_true hf
  · intro v hv
    unfold unseen
    rw [List.take_length]
    split
    · rfl
    · rename_i h
      cases hs : seen v
      · rfl
      · obtain ⟨c, hc, e⟩ := (hU.ps v).1 hs
        exact absurd (List.mem_map.2 ⟨c, List.mem_cons_of_mem _ hc, e⟩) h
set_option maxHeartbeats 8000000 in
set_option maxRecDepth 100000 in
theorem analyze_any {w : World} {B bp : Nat} {s : SS} {F : Ix → Ent} {cls : Nat → List Int} {cl : List (List Int)} (h : Mem w B bp s F) (G : PGd cls cl s) (hW : WF s) (P : Nat → Prop) (hQ : QI s.V P s.heap s.place) (hsn : ∀ v, v ≤ s.V → s.seen v = false) (i : Nat) (hL : Lost s.n s.row s.trail s.starts s.lvl i) (hs0 : 0 < s.starts.length) :
    Calls Tryd.prog 53 #[.pointer (some ⟨bp, 0, none⟩), pv s.rp i] w (AnP B bp s F cl P w) := by
  obtain ⟨F0, M0, K0, KO⟩ := h.free 0
  have hB := h.hB
  have hbl := h.obj.lt
  have hV : s.V ≤ 20000 := G.hV
  have hlen := G.B.len
  obtain ⟨F1, M1, K1, KO1⟩ := M0.newTmp (j := 0) (l := [0]) K0 ((Below.refl _ _).alloc (Nat.le_refl _) (.cells #[.int .i64 0] 3)) (one_row _ (.int .i64 0) _)
  have M2 : Mem (w.alloc (.cells #[.int .i64 0] 3)).drew B bp (s.an (fun _ => false) s.heap s.place s.weight s.step (updN (updN s.tmp 0 []) 0 [0])) F1 :=
    (M1.like (s' := s.an (fun _ => false) s.heap s.place s.weight s.step (updN (updN s.tmp 0 []) 0 [0])) rfl (by
      intro k
      cases k with
      | seen =>
        show (List.range (s.V + 1)).map (fun v => Value.bool false) = (List.range (s.V + 1)).map fun v => .bool (s.seen v)
        apply List.map_congr_left
        intro v hv
        rw [List.mem_range] at hv
        rw [hsn v (by omega)]
      | _ => rfl) rfl rfl rfl rfl).below (Below.refl _ _).drew
  have HA0 : Hid (AR B bp s F cl P w s.trail.length 0 (s.row i) 0 (.slice (some ⟨w.heap.size, 0, none⟩) 1 1) (w.alloc (.cells #[.int .i64 0] 3)).drew) := Lib.hid ⟨⟨_, _, _, _, _, _, F1, [], [], M2, Ana.start G.B G.R hL, rfl, by rw [updN_same], K1, fun q hq => (KO1 q hq).trans (KO q hq), hQ, ⟨hW.len, hW.fp, hW.st⟩, ((Below.refl B w).alloc (by omega) _).drew, .inr (by
    obtain ⟨y, hy, hly⟩ := hL.top
    exact ⟨y, hy, by have := G.R.rng i hL.lt y hy; omega, hly⟩)⟩⟩
  have f11 : w.cell? ⟨bp, 11, none⟩ = some (F .trail).v := h.fld 11
  obtain ⟨y, hy, hly⟩ := hL.top
  have htl : 0 < s.trail.length := List.length_pos_of_mem (hL.all y hy)
  obtain ⟨gT, cT, hTv, f11', qT, nT, lT⟩ := h.trAt htl
  have HG := Lib.hid G
  have HTv := Lib.hid hTv
  have HLt := Lib.hid hL.lt
  have hpv : pv s.rp i = .pointer (some ⟨s.rp i, 0, none⟩) := rfl
  have hwl : IntKind.i64.wrap ((s.trail.length : Int) - 1) = (s.trail.length : Int) - 1 := IntWalk.i64_in _ (by omega)
  rw [hpv]
  clear h G hW hQ hsn hL M0 K0 KO M1 K1 KO1 M2 f11 hTv qT hy hly hpv
  obtain ⟨i0, hi0, hz0, hz1, hz2⟩ := info_parts infoI
  go_enter Tryd.func53, Tryd.ntmps53
  go_wp2
  go_region
  go_wp2
  go_loopw [1, 5, 6, 7, 8] (fun r cv ov kv av wr => ∃ (j a code no : Nat), r = .pointer (some ⟨s.rp j, 0, none⟩) ∧ ov = .int .i64 no ∧ kv = .int .i64 code ∧ av = .int .i64 ((a : Int) - 1) ∧ j < s.n ∧ a ≤ s.trail.length ∧ AR B bp s F cl P w a code (s.row j) no cv wr) (fun _ _ _ _ av _ => (intOf av + 1).toNat)
  case atStart => exact ⟨i, s.trail.length, 0, 0, rfl, rfl, rfl, rfl, HLt.out, Nat.le_refl _, HA0.out⟩
  case round =>
    obtain ⟨j, a, code, no, rfl, rfl, rfl, rfl, hj, ha, hR⟩ := hrel
    obtain ⟨seen, hp, pl, wt, st, tmp, F2, cs, mk, M, hA, hmk, htm, hcv, hK, hQ, hW, hb, hex⟩ := hR.ex
    have h2 := HG.out.R.two j hj
    have hLk : (s.row j).length ≤ 100000 := Nat.le_trans (nodup_bound (HG.out.R.nd j hj) fun x hx => (HG.out.R.rng j hj x hx).2) (by omega)
    obtain ⟨gK, cK, hKv, r0, qK, zK, nK, nKR, bK, lK, lR, nR⟩ := M.rowAt hj (by exact Nat.lt_of_lt_of_le (by decide) h2)
    change wr.cell? ⟨s.rp j, 0, none⟩ = some (.slice (some ⟨gK, 0, none⟩) (s.row j).length cK) at r0
    have HKV : Hid ((F (.row j)).v = .slice (some ⟨gK, 0, none⟩) (s.row j).length cK) := Lib.hid ((hK _ (by simp)).symm.trans hKv)
    have HR0 : Hid (AR B bp s F cl P w a code ((s.row j).drop 0) no u5 wr) := Lib.hid hR
    have hws := hb.size
    clear M hA hcv hK hQ hW hb hex hR htm hmk hKv qK zK HA0
    go_wp2
    go_loopw [5, 6, 24] (fun cv ov kv wx => ∃ k no : Nat, kv = .int .i64 k ∧ ov = .int .i64 no ∧ k ≤ (s.row j).length ∧ AR B bp s F cl P w a code ((s.row j).drop k) no cv wx) (fun _ _ kv _ => (s.row j).length - (intOf kv).toNat)
    case atStart => exact ⟨0, no, rfl, rfl, Nat.zero_le _, HR0.out⟩
    case round =>
      obtain ⟨k, no2, rfl, rfl, hk, hR⟩ := hrel
      clear HR0
      by_cases hlt : k < (s.row j).length
      · obtain ⟨seen, hp, pl, wt, st, tmp, F2, cs, mk, M, hA, hmk, htm, hcv, hK, hQ, hW, hb, hex⟩ := hR.ex
        rw [drop_cons' hlt] at hA hex
        have hym := getD_mem' hlt
        have hyr := HG.out.R.rng j hj _ hym
        have hv1 : (F2 (.row j)).v = .slice (some ⟨gK, 0, none⟩) (s.row j).length cK := (hK _ (by simp)).trans HKV.out
        have hx1 : (F2 (.row j)).xs = (s.row j).map iv := M.xs _
        have q := M.own.cell hv1 k (by rw [hx1]; simpa using hlt)
        rw [hx1, getD_iv hlt] at q
        obtain ⟨gS, cS, hSv, f14, qS, zS, nS, bS, lS⟩ := M.seenAt
        obtain ⟨gL, cL, hLv, f8, qL, nL, lL⟩ := M.lvlAt
        generalize (s.row j).getD k 0 = y at *
        have hyv : y / 2 ≤ s.V := by omega
        have hyv2 : y / 2 < s.V + 1 := by omega
        have q14 := qS (y / 2) hyv
        have z14 := zS (y / 2)
        have q8 := qL (y / 2) hyv
        change wr.cell? ⟨bp, 14, none⟩ = some (.slice (some ⟨gS, 0, none⟩) (s.V + 1) cS) at f14
        change wr.cell? ⟨bp, 8, none⟩ = some (.slice (some ⟨gL, 0, none⟩) (s.V + 1) cL) at f8
        change wr.cell? ⟨gS, y / 2, none⟩ = some (.bool (seen (y / 2))) at q14
        change wr.cell? ⟨gL, y / 2, none⟩ = some (.int .i64 (s.lvl (y / 2) : Nat)) at q8
        have hwb := M.obj.lt
        have HSK : Hid ((y = code ∨ seen (y / 2) = true ∨ s.lvl (y / 2) = 0) → ∀ w2, Below B wr w2 → Below wr.heap.size wr w2 → AR B bp s F cl P w a code ((s.row j).drop (k + 1)) no2 u5 w2) := Lib.hid fun hy w2 h1 h2 => ar_skip HG.out hs0 M hA hmk htm hcv hK hQ hW hb hex hy h1 h2
        have HM := Lib.hid M
        have HA := Lib.hid hA
        have HSV := Lib.hid hSv
        have HK := Lib.hid hK
        have HQ := Lib.hid hQ
        have HW := Lib.hid hW
        have HB := Lib.hid hb
        have HMK := Lib.hid hmk
        have HTM := Lib.hid htm
        have HCV := Lib.hid hcv
        have HEX := Lib.hid hex
        have hno : no2 ≤ 100000 := by
          have := nodup_bound hA.nm fun x hx => (HG.out.B.rng _ (List.mem_of_mem_take (hA.pm x hx).1)).2
          omega
        have hcl : cs.length ≤ 100000 := by
          have := nodup_bound hA.nd (m := 2 * s.V + 2) fun c hc => by
            have := opp_rng2 (HG.out.B.rng _ (hA.pc c hc).1)
            rw [opp_opp] at this; exact this.2
          omega
        have hll : y ≠ code → s.lvl (y / 2) ≤ s.starts.length := fun hne => by
          obtain ⟨p, hp⟩ := mem_at.1 (List.mem_of_mem_take (hA.pr y (by simp) hne))
          have := HG.out.B.lv_le hp
          rwa [opp_half] at this
        clear M hA hcv hK hQ hW hb hex hR htm hmk hv1 hx1 hSv qS zS qL hLv hym
        by_cases hyc : y = code
        · have HREL := Lib.hid (HSK.out (.inl hyc) _ (Below.refl _ _) (Below.refl _ _))
          subst hyc
          clear HSK
          go_wp2
          go_roundw
          case rel => exact ⟨k + 1, no2, by go_num, rfl, by omega, HREL.out⟩
          case measure => simp [intOf]; omega
        · have hyc2 : ((y : Int) == (code : Int)) = false := beq_eq_false_iff_ne.2 (by omega)
          generalize hsb : seen (y / 2) = sb at q14 HSK
          cases sb
          · by_cases hl0 : s.lvl (y / 2) = 0
            · have HREL := Lib.hid (HSK.out (.inr (.inr hl0)) _ (Below.refl _ _) (Below.refl _ _))
              rw [hl0] at q8
              clear HSK hsb
              go_wp2
              go_roundw
              case rel => exact ⟨k + 1, no2, by go_num, rfl, by omega, HREL.out⟩
              case measure => simp [intOf]; omega
            · have hl02 : ((s.lvl (y / 2) : Int) == 0) = false := beq_eq_false_iff_ne.2 (by omega)
              clear HSK
              obtain ⟨F3, M3, K3⟩ := HM.out.setSeen HSV.out (y / 2) true
              change Mem (wr.setCell ⟨gS, y / 2, none⟩ (.bool true)) B bp (s.an (updN seen (y / 2) true) hp pl wt st tmp) F3 at M3
              have HRA := Lib.hid (raise_any M3 ⟨HW.out.len, HW.out.fp, HW.out.st⟩ (by exact hV) P HQ.out (y / 2) ⟨by omega, by exact hyv⟩)
              have HK3 : Hid (∀ q, q ≠ .tmp 0 → (F3 q).v = (F q).v) := Lib.hid fun q hq => (congrFun K3 q).trans (HK.out q hq)
              have HC3 : Hid ((F3 (.tmp 0)).v = u5) := Lib.hid ((congrFun K3 (.tmp 0)).trans HCV.out)
              have hb3 : Below B wr (wr.setCell ⟨gS, y / 2, none⟩ (.bool true)) := (Below.refl _ _).setCell bS _
              clear M3 K3
              go_wp2_with fail
              refine HRA.out.mono ?_
              rintro e w4 ⟨rfl, hp4, pl4, wt4, st4, F4, M4, hF4, hb4, hQ4, hW4⟩
              change Mem w4 B bp (s.an (updN seen (y / 2) true) hp4 pl4 wt4 st4 tmp) F4 at M4
              change WF (s.an (updN seen (y / 2) true) hp4 pl4 wt4 st4 tmp) at hW4
              obtain ⟨gL4, cL4, _, f84, qL4, _, _⟩ := M4.lvlAt
              have q84 := qL4 (y / 2) hyv
              obtain ⟨aS, cS2, f12⟩ := M4.stAt
              change w4.cell? ⟨bp, 8, none⟩ = some (.slice (some ⟨gL4, 0, none⟩) (s.V + 1) cL4) at f84
              change w4.cell? ⟨gL4, y / 2, none⟩ = some (.int .i64 (s.lvl (y / 2) : Nat)) at q84
              change w4.cell? ⟨bp, 12, none⟩ = some (.slice aS s.starts.length cS2) at f12
              have HM4 := Lib.hid M4
              have HQ4 := Lib.hid hQ4
              have HW4 := Lib.hid hW4
              have HB4 := Lib.hid (HB.out.trans (hb3.trans hb4))
              have HK4 : Hid (∀ q, q ≠ .tmp 0 → (F4 q).v = (F q).v) := Lib.hid fun q hq => (congrFun hF4 q).trans (HK3.out q hq)
              have HC4 : Hid ((F4 (.tmp 0)).v = u5) := Lib.hid ((congrFun hF4 (.tmp 0)).trans HC3.out)
              have hw4 := HB4.out.size
              clear M4 hQ4 hW4 hb4 hb3 hF4 qL4 HRA HM HQ HW HB HK HCV HK3 HC3 q f14 f8 q14 z14 q8 nS bS lS nL lL hwb HSV
              by_cases hlq : s.lvl (y / 2) = s.starts.length
              · have HREL : Hid (AR B bp s F cl P w a code ((s.row j).drop (k + 1)) (no2 + 1) u5 w4.drew) := Lib.hid ⟨⟨updN seen (y / 2) true, hp4, pl4, wt4, st4, tmp, F4, cs, mk ++ [opp y], HM4.out.below (Below.refl _ _).drew, HA.out.mark hyc hsb hlq, by rw [List.length_append, HMK.out]; rfl, HTM.out, HC4.out, HK4.out, HQ4.out, HW4.out, HB4.out.drew, .inl (by simp)⟩⟩
                have hlq2 : ((s.lvl (y / 2) : Nat) : Int) = s.starts.length := by omega
                rw [hlq] at q84
                clear HM4 HQ4 HW4 HB4 HK4 HC4 HEX HA
                go_wp2
                go_region
                go_wp2
                go_roundw
                case rel => exact ⟨k + 1, no2 + 1, by go_num, by go_num, by omega, HREL.out⟩
                case measure => simp [intOf]; omega
              · have hlq2 : ((s.lvl (y / 2) : Int) == (s.starts.length : Int)) = false := beq_eq_false_iff_ne.2 (by omega)
                have hlt4 : s.lvl (y / 2) < s.starts.length := by have := hll hyc; omega
                have hA4 : Below w4.heap.size w4 (w4.alloc (.cells #[.int .i64 y] 3)).drew := ((Below.refl w4.heap.size w4).alloc (Nat.le_refl _) _).drew
                have HO := Lib.hid ((HM4.out.below hA4).ownAt (.tmp 0) rfl)
                have hxl : (cont (s.an (updN seen (y / 2) true) hp4 pl4 wt4 st4 tmp) (fvs F4) (.tmp 0)).length = cs.length + 1 := by
                  show ((tmp 0).map iv).length = _
                  rw [HTM.out]; simp
                rw [hxl, HC4.out] at HO
                have HA4 := Lib.hid hA4
                clear hA4
                go_wp2
                go_region
                go_wp2_with (at_builtin; (refine wpList_append_own_at _ rfl _ _ 23 rfl B 3 i0 (.int .i64 0) 1 8 Tryd.underlying23 hi0 hz0 hz1 hz2 rfl (by decide) u5 (cs.length + 1) (cont (s.an (updN seen (y / 2) true) hp4 pl4 wt4 st4 tmp) (fvs F4) (.tmp 0)) rfl ?c0 ⟨w4.heap.size, 0, none⟩ 1 1 [.int .i64 y] rfl rfl (new_oneD _ _ _ rfl) ?c2 ?c3 ?c4 ?c5 ?_))
                case c0 => exact HO.out
                case c2 => simp [Value.oneCell']
                case c3 => unfold maxLen; omega
                case c4 => omega
                case c5 => simp; omega
                intro v' w5 hown5 hgrow5 _ hat
                obtain ⟨g', cap', rfl, _, _, _, _⟩ := own_form hown5 (by omega)
                obtain ⟨F6, M6, V6, K6, B6⟩ := HM4.out.appTmp (j := 0) (c := y) (n := cs.length + 1) (by show (tmp 0).length = _; rw [HTM.out]; rfl) HA4.out hown5 (by rw [HC4.out]; exact hgrow5) (by
                  rw [HC4.out]
                  rcases hat with hat | hat
                  · exact .inl hat
                  · exact .inr (by have : g' = w4.heap.size + 1 := by simpa [Value.ownBlock] using hat
                                   rw [this]; simp))
                have HREL : Hid (AR B bp s F cl P w a code ((s.row j).drop (k + 1)) no2 (.slice (some ⟨g', 0, none⟩) (cs.length + 1 + 1) cap') w5) := Lib.hid ⟨⟨updN seen (y / 2) true, hp4, pl4, wt4, st4, updN tmp 0 (tmp 0 ++ [y]), F6, cs ++ [y], mk, M6, HA.out.add hyc hsb hlt4 (by omega), HMK.out, by rw [updN_same, HTM.out]; rfl, V6, fun q hq => (K6 q hq).trans (HK4.out q hq), HQ4.out, ⟨HW4.out.len, HW4.out.fp, HW4.out.st⟩, HB4.out.trans B6, by
                  rcases HEX.out with h | ⟨z, hz, hne, hl⟩
                  · exact .inl h
                  · rcases List.mem_cons.1 hz with rfl | hz
                    · omega
                    · exact .inr ⟨z, hz, hne, hl⟩⟩⟩
                clear M6 V6 K6 B6 hown5 hgrow5 hat HO HA4 HM4 HQ4 HW4 HB4 HK4 HC4 HEX HA
                go_wp2
                go_roundw
                case rel => exact ⟨k + 1, no2, by go_num, rfl, by omega, HREL.out⟩
                case measure => simp [intOf]; omega
          · have HREL := Lib.hid (HSK.out (.inr (.inl rfl)) _ (Below.refl _ _) (Below.refl _ _))
            clear HSK hsb
            go_wp2
            go_roundw
            case rel => exact ⟨k + 1, no2, by go_num, rfl, by omega, HREL.out⟩
            case measure => simp [intOf]; omega
      · obtain rfl : k = (s.row j).length := by omega
        rw [List.drop_length] at hR
        obtain ⟨seen, hp, pl, wt, st, tmp, F2, cs, mk, M, hA, hmk, htm, hcv, hK, hQ, hW, hb, hex⟩ := hR.ex
        have hm0 : mk ≠ [] := by
          rcases hex with h | ⟨z, hz, _⟩
          · exact h
          · simp at hz
        obtain ⟨m0, hm0m⟩ := List.exists_mem_of_ne_nil _ hm0
        obtain ⟨q0, hq0, hq0m, hq0s⟩ := hA.seenAt HG.out.B (p := 0) hm0m
        have hno : no2 ≤ 100000 := by
          have := nodup_bound hA.nm fun x hx => (HG.out.B.rng _ (List.mem_of_mem_take (hA.pm x hx).1)).2
          omega
        have hcl : cs.length ≤ 100000 := by
          have := nodup_bound hA.nd (m := 2 * s.V + 2) fun c hc => by
            have := opp_rng2 (HG.out.B.rng _ (hA.pc c hc).1)
            rw [opp_opp] at this; exact this.2
          omega
        have HA := Lib.hid hA
        have HK := Lib.hid hK
        have HQ := Lib.hid hQ
        have HW := Lib.hid hW
        have HMK := Lib.hid hmk
        have HTM := Lib.hid htm
        have HCV := Lib.hid hcv
        have HM := Lib.hid M
        have HB := Lib.hid hb
        have hwr := hb.size
        have HM0 := Lib.hid hm0
        clear M hA hcv hK hQ hW hb hex hR htm hmk hm0 hm0m
        go_wp2
        go_loopw [8] (fun av wx => ∃ p : Nat, av = .int .i64 p ∧ p < a ∧ (∀ q z, p < q → q < a → s.trail[q]? = some z → seen (z / 2) = false) ∧ Mem wx B bp (s.an seen hp pl wt st tmp) F2 ∧ Below B w wx) (fun av _ => (intOf av).toNat)
        case atStart => exact ⟨a - 1, by congr 1; omega, by omega, fun q z h1 h2 => by omega, HM.out, HB.out⟩
        case round =>
          obtain ⟨p, rfl, hpa, hh, M, hb⟩ := hrel
          have hpt : p < s.trail.length := by omega
          obtain ⟨gT2, cT2, _, f11, qT2, nT2, lT2⟩ := M.trAt (by show 0 < s.trail.length; exact htl)
          obtain ⟨gS, cS, hSv, f14, qS, zS, nS, bS, lS⟩ := M.seenAt
          have qp := qT2 p hpt
          have hpx : s.trail[p]? = some (s.trail.getD p 0) := by rw [List.getD_eq_getElem?_getD, List.getElem?_eq_getElem hpt]; rfl
          change wr.cell? ⟨bp, 11, none⟩ = some (.slice (some ⟨gT2, 0, none⟩) s.trail.length cT2) at f11
          change wr.cell? ⟨bp, 14, none⟩ = some (.slice (some ⟨gS, 0, none⟩) (s.V + 1) cS) at f14
          change wr.cell? ⟨gT2, p, none⟩ = some (.int .i64 (s.trail.getD p 0 : Nat)) at qp
          generalize s.trail.getD p 0 = x at *
          have hxr := HG.out.B.rng x (mem_at.2 ⟨p, hpx⟩)
          have hxv : x / 2 ≤ s.V := by omega
          have hxv2 : x / 2 < s.V + 1 := by omega
          have q14 := qS (x / 2) hxv
          have z14 := zS (x / 2)
          change wr.cell? ⟨gS, x / 2, none⟩ = some (.bool (seen (x / 2))) at q14
          have hwb := M.obj.lt
          have HM2 := Lib.hid M
          have HB2 := Lib.hid hb
          have HH := Lib.hid hh
          have HSV := Lib.hid hSv
          generalize hsb : seen (x / 2) = sb at q14
          cases sb
          · have hp0 : q0 < p := by
              by_cases e : p < q0
              · have := hh q0 m0 e hq0 hq0m; rw [hq0s] at this; cases this
              · by_cases e2 : q0 = p
                · subst e2; rw [hpx] at hq0m; cases hq0m; rw [hq0s] at hsb; cases hsb
                · omega
            have HN : Hid (∀ q z, p - 1 < q → q < a → s.trail[q]? = some z → seen (z / 2) = false) := Lib.hid fun q z h1 h2 h3 => by
              by_cases e : q = p
              · subst e; rw [hpx] at h3; cases h3; exact hsb
              · exact hh q z (by omega) h2 h3
            have HMD : Hid (Mem wr.drew B bp (s.an seen hp pl wt st tmp) F2) := Lib.hid (M.below (Below.refl _ _).drew)
            have HBD : Hid (Below B w wr.drew) := Lib.hid hb.drew
            clear M hb hh hSv qS zS qT2
            go_wp2
            go_region
            go_wp2
            go_roundw
            case rel => exact ⟨p - 1, by congr 1; omega, by omega, HN.out, HMD.out, HBD.out⟩
            case measure => simp [intOf]; omega
          · have hxm := HA.out.popIn HG.out.B HM0.out hpa hpx hsb hh
            have hel := erase_len hxm
            rw [HMK.out] at hel
            obtain ⟨F3, M3, K3⟩ := M.setSeen hSv (x / 2) false
            change Mem (wr.setCell ⟨gS, x / 2, none⟩ (.bool false)) B bp (s.an (updN seen (x / 2) false) hp pl wt st tmp) F3 at M3
            have HK3 : Hid (∀ q, q ≠ .tmp 0 → (F3 q).v = (F q).v) := Lib.hid fun q hq => (congrFun K3 q).trans (HK.out q hq)
            have HC3 : Hid ((F3 (.tmp 0)).v = u5) := Lib.hid ((congrFun K3 (.tmp 0)).trans HCV.out)
            have HB3 : Hid (Below B w (wr.setCell ⟨gS, x / 2, none⟩ (.bool false))) := Lib.hid (hb.setCell bS _)
            by_cases hme : mk.erase x = []
            · have hno1 : no2 = 1 := by rw [hme] at hel; simpa using hel.symm
              subst hno1
              have HU := Lib.hid (HA.out.uip HG.out.B hxm hme)
              obtain ⟨gC, cC, hCv, qC, zC, nC, bC, lC, kC, mC⟩ := M3.tmpAt 0 (by show 0 < (tmp 0).length; rw [HTM.out]; simp)
              have hCl : (tmp 0).length = cs.length + 1 := by rw [HTM.out]; rfl
              change (F3 (.tmp 0)).v = .slice (some ⟨gC, 0, none⟩) (tmp 0).length cC at hCv
              rw [hCl] at hCv
              have qc := qC 0 (by show 0 < (tmp 0).length; omega)
              have zc := zC 0
              have hu5 : u5 = .slice (some ⟨gC, 0, none⟩) (cs.length + 1) cC := HC3.out.symm.trans hCv
              obtain ⟨F4, M4, K4⟩ := M3.setTmp hCv 0 (opp x)
              change Mem ((wr.setCell ⟨gS, x / 2, none⟩ (.bool false)).setCell ⟨gC, 0, none⟩ (.int .i64 (opp x))) B bp (s.an (updN seen (x / 2) false) hp pl wt st (updN tmp 0 ((tmp 0).set 0 (opp x)))) F4 at M4
              have hx1 := xor1 x (by omega)
              have hxr2 := opp_rng2 hxr
              have HC4 : Hid ((F4 (.tmp 0)).v = .slice (some ⟨gC, 0, none⟩) (cs.length + 1) cC) := Lib.hid ((congrFun K4 (.tmp 0)).trans hCv)
              have HSH := Lib.hid (shortened_any (M4.below (Below.refl _ _).drew) (by exact hV) (opp x) cs (by show updN tmp 0 ((tmp 0).set 0 (opp x)) 0 = _; rw [updN_same, HTM.out]; rfl) (fun c hc => by
                show c < 2 * s.V + 2
                rcases List.mem_cons.1 hc with rfl | hc
                · exact hxr2.2
                · have := opp_rng2 (HG.out.B.rng _ (HU.out.pc c hc).1)
                  rw [opp_opp] at this; exact this.2) hcl (fun i hi x hx => (HG.out.R.rng i hi x hx).2) (fun v i h => HG.out.rb v i h))
              rw [HC4.out] at HSH
              have HB4 : Hid (Below B w ((wr.setCell ⟨gS, x / 2, none⟩ (.bool false)).setCell ⟨gC, 0, none⟩ (.int .i64 (opp x))).drew) := Lib.hid ((HB3.out.setCell bC _).drew)
              subst hu5
              clear M hb hh hSv qS zS qT2 M3 K3 M4 K4 HA qC zC hCv
              go_wp2
              go_region
              go_wp2_with fail
              refine HSH.out.mono ?_
              rintro e w6 ⟨F6, M6, rfl, hK6, hb6⟩
              have HFIN : Hid (AnP B bp s F cl P w (.returned (F6 (.tmp 1)).v) w6) := Lib.hid (an_end HG.out HU.out (by rw [updN_same, HTM.out]; rfl) HQ.out HW.out (HB4.out.trans hb6) M6)
              generalize (F6 (.tmp 1)).v = rvv at *
              clear M6 hK6 hb6 HSH HK HU HB4
              go_wp2
              go_ret
              exact HFIN.out
            · have hl0 : (mk.erase x).length ≠ 0 := fun e => hme (List.eq_nil_of_length_eq_zero e)
              obtain ⟨i2, hi2, hin, hA2⟩ := HA.out.pop HG.out.B HG.out.R HG.out.Y hxm hpx hh hpa hs0 hme
              obtain ⟨gR, cR, _, f9, qR, nR, lR⟩ := M.rsnAt
              have q9 := qR (x / 2) hxv
              change wr.cell? ⟨bp, 9, none⟩ = some (.slice (some ⟨gR, 0, none⟩) (s.V + 1) cR) at f9
              change wr.cell? ⟨gR, x / 2, none⟩ = some (rv s.rp (s.rsn (x / 2))) at q9
              rw [hi2] at q9
              change wr.cell? ⟨gR, x / 2, none⟩ = some (.pointer (some ⟨s.rp i2, 0, none⟩)) at q9
              have q6 := M3.rsnAt
              have hgn : gR ≠ gS := fun e => by
                subst e
                have := q14
                rw [q9] at this
                cases this
              have HREL : Hid (AR B bp s F cl P w p x (s.row i2) (no2 - 1) u5 (wr.setCell ⟨gS, x / 2, none⟩ (.bool false)).drew) := Lib.hid ⟨⟨_, _, _, _, _, _, F3, cs, mk.erase x, M3.below (Below.refl _ _).drew, hA2, by omega, HTM.out, HC3.out, HK3.out, HQ.out, ⟨HW.out.len, HW.out.fp, HW.out.st⟩, HB3.out.drew, .inl hme⟩⟩
              clear M hb hh hSv qS zS qT2 M3 K3 hA2 q6 qR HA
              go_wp2
              go_region
              go_wp2
              exact ⟨⟨i2, p, x, no2 - 1, rfl, by congr 1; omega, rfl, rfl, hin, by omega, HREL.out⟩, by simp [intOf]; omega⟩
end Go.Proofs.YtojjjndhabjhdaaDoor.satO
