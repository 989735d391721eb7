/-
  Contract of (*search).core.
-/
import Derived.Test.YtojjjndhabjhdaaDoorSatO
namespace Go.Proofs.YtojjjndhabjhdaaDoor.satCd
set_option linter.unusedSimpArgs false
set_option linter.unusedVariables false
open Go.ChangeShapes Go.WideShapes Go.ChangeAt Go.RowKit proofP proofQ owns cls satP satQ satR satS satA satF satB satC satD satE satG satH satI satJ satK satM satN satU satV satO
attribute [local go_sem ↓] Go.wp_at_zero Go.wp_at_succ

/-- marks, when so many codes were looked at -/
def mrk (f : Nat → Bool) (cs : List Nat) (sn : Nat → Bool) : Nat → (Nat → Bool)
  | 0 => sn
  | k + 1 => if f (cs.getD k 0) then updN (mrk f cs sn k) (cs.getD k 0 / 2) true else mrk f cs sn k
theorem mrk_iff {f : Nat → Bool} {cs : List Nat} {sn : Nat → Bool} {v : Nat} : ∀ k, k ≤ cs.length → (mrk f cs sn k v = true ↔ sn v = true ∨ ∃ j, j < k ∧ f (cs.getD j 0) = true ∧ cs.getD j 0 / 2 = v) := by
  intro k
  induction k with
  | zero => intro _; simp [mrk]
  | succ k ih =>
    intro hk
    have ih := ih (by omega)
    have hstep : (∃ j, j < k + 1 ∧ f (cs.getD j 0) = true ∧ cs.getD j 0 / 2 = v) ↔ (∃ j, j < k ∧ f (cs.getD j 0) = true ∧ cs.getD j 0 / 2 = v) ∨ (f (cs.getD k 0) = true ∧ cs.getD k 0 / 2 = v) := by
      constructor
      · rintro ⟨j, hj, h⟩
        by_cases e : j = k
        · subst e; exact .inr h
        · exact .inl ⟨j, by omega, h⟩
      · rintro (⟨j, hj, h⟩ | h)
        · exact ⟨j, by omega, h⟩
        · exact ⟨k, by omega, h⟩
    rw [hstep]
    unfold mrk
    by_cases hf : f (cs.getD k 0) = true
    · rw [if_pos hf]
      by_cases e : v = cs.getD k 0 / 2
      · subst e; rw [updN_same]; exact ⟨fun _ => .inr (.inr ⟨hf, rfl⟩), fun _ => rfl⟩
      · rw [updN_other _ _ e, ih]
        constructor
        · rintro (h | h)
          · exact .inl h
          · exact .inr (.inl h)
        · rintro (h | h | ⟨_, h⟩)
          · exact .inl h
          · exact .inr h
          · exact absurd h.symm e
    · rw [if_neg hf, ih]
      constructor
      · rintro (h | h)
        · exact .inl h
        · exact .inr (.inl h)
      · rintro (h | h | ⟨h, _⟩)
        · exact .inl h
        · exact .inr h
        · exact absurd h hf
theorem mrk_all {f : Nat → Bool} {cs : List Nat} {sn : Nat → Bool} {v : Nat} : mrk f cs sn cs.length v = true ↔ sn v = true ∨ ∃ y, y ∈ cs ∧ f y = true ∧ y / 2 = v := by
  rw [mrk_iff _ (Nat.le_refl _)]
  constructor
  · rintro (h | ⟨j, hj, h⟩)
    · exact .inl h
    · exact .inr ⟨_, getD_mem' hj, h⟩
  · rintro (h | ⟨y, hy, h⟩)
    · exact .inl h
    · obtain ⟨j, hj⟩ := mem_at.1 hy
      refine .inr ⟨j, at_lt hj, ?_⟩
      have : cs.getD j 0 = y := by rw [List.getD_eq_getElem?_getD, hj]; rfl
      rw [this]; exact h
theorem new_oneE (w : World) (x : Value) (t : TypeId) {n : Nat} (hn : w.heap.size = n) : ∀ j u, [x][j]? = some u → (w.alloc (.cells #[x] t)).cell? ((⟨n, 0, none⟩ : Addr).add j) = some u := by
  subst hn
  exact new_one w x t
section
variable {w w' : World} {B bp : Nat} {s : SS} {F : Ix → Ent} {cls : Nat → List Int} {cl : List (List Int)}
def CoP (B bp : Nat) (s : SS) (F : Ix → Ent) (cl : List (List Int)) (cs : List Nat) (w : World) (e : Ending) (w' : World) : Prop :=
  ∃ core sn tmp F', Mem w' B bp ((s.se sn).tm tmp) F' ∧ tmp 2 = core ∧ e = .returned (F' (.tmp 2)).v ∧ (∀ k, k ≠ .tmp 2 → (F' k).v = (F k).v) ∧ Below B w w' ∧ (∀ c, c ∈ core → c ∈ s.wanted ∧ c ∈ s.trail) ∧ core.Nodup ∧ ∀ fr, (∀ c, c ∈ core → D cl fr c) → ∀ y, y ∈ cs → D cl fr (opp y)
/-- while the codes are marked -/
def C1 (B bp : Nat) (s : SS) (F : Ix → Ent) (cs : List Nat) (g : Nat) (w : World) (k : Nat) (wr : World) : Prop :=
  ∃ tmp F', Mem wr B bp ((s.se (mrk (fun y => decide (0 < s.lvl (y / 2))) cs (fun _ => false) k)).tm tmp) F' ∧ tmp 2 = [] ∧ (F' (.tmp 2)).v = .slice none 0 0 ∧ (∀ k, k ≠ .tmp 2 → (F' k).v = (F k).v) ∧ Below B w wr ∧ ∀ j, j < cs.length → wr.cell? ⟨g, j, none⟩ = some (.int .i64 (cs.getD j 0 : Nat))
/-- while the trail is gone back -/
def C2 (B bp : Nat) (s : SS) (F : Ix → Ent) (cl : List (List Int)) (cs : List Nat) (w : World) (p : Nat) (cv : Value) (wr : World) : Prop :=
  ∃ core sn tmp F', Mem wr B bp ((s.se sn).tm tmp) F' ∧ tmp 2 = core ∧ (F' (.tmp 2)).v = cv ∧ (∀ k, k ≠ .tmp 2 → (F' k).v = (F k).v) ∧ Below B w wr ∧ Cor s.wanted s.trail s.starts s.lvl cl (fun fr => ∀ y, y ∈ cs → D cl fr (opp y)) p core sn
/-- while a reason's codes are marked -/
def C3 (B bp : Nat) (s : SS) (F : Ix → Ent) (core : List Nat) (sn : Nat → Bool) (x i : Nat) (w : World) (k : Nat) (cv : Value) (wr : World) : Prop :=
  ∃ tmp F', Mem wr B bp ((s.se (mrk (fun y => decide (y / 2 ≠ x / 2) && decide (0 < s.lvl (y / 2))) (s.row i) sn k)).tm tmp) F' ∧ tmp 2 = core ∧ (F' (.tmp 2)).v = cv ∧ (∀ k, k ≠ .tmp 2 → (F' k).v = (F k).v) ∧ Below B w wr
set_option maxHeartbeats 4000000 in
set_option maxRecDepth 100000 in
theorem core_any (h : Mem w B bp s F) (G : PGd cls cl s) (hsn : ∀ v, v ≤ s.V → s.seen v = false) (hD : ∀ p x, p ∈ s.starts → s.trail[p]? = some x → x ∈ s.wanted) (cs : List Nat) (g cap : Nat) (hn0 : 0 < cs.length) (hcl : cs.length ≤ 100000)
    (hc : ∀ j, j < cs.length → w.cell? ⟨g, j, none⟩ = some (.int .i64 (cs.getD j 0 : Nat))) (hg : (F .seen).v.ownBlock ≠ some g) (hr : ∀ y, y ∈ cs → opp y ∈ s.trail) :
    Calls Tryd.prog 33 #[.pointer (some ⟨bp, 0, none⟩), .slice (some ⟨g, 0, none⟩) cs.length cap] w (CoP B bp s F cl cs w) := by
  obtain ⟨F0, M0, K0, KO⟩ := h.free 2
  have hB := h.hB
  have hbl := h.obj.lt
  have hV : s.V ≤ 20000 := G.hV
  have hlen := G.B.len
  have M1 : Mem w B bp ((s.se fun _ => false).tm (updN s.tmp 2 [])) F0 := M0.like rfl (by
    intro k
    cases k with
    | seen =>
      show (List.range (s.V + 1)).map (fun v => Value.bool false) = (List.range (s.V + 1)).map fun v => .bool (s.seen v)
      apply List.map_congr_left
      intro v hv
      rw [List.mem_range] at hv
      rw [hsn v (by omega)]
    | _ => rfl) rfl rfl rfl rfl
  obtain ⟨aS, cS, f12⟩ := h.stAt
  have hyr : ∀ y, y ∈ cs → 2 ≤ y ∧ y < 2 * s.V + 2 := fun y hy => by
    have := opp_rng2 (G.B.rng _ (hr y hy))
    rw [opp_opp] at this; exact this
  by_cases hs0 : s.starts.length = 0
  · have hst : s.starts = [] := List.length_eq_zero_iff.1 hs0
    have HFIN : Hid (CoP B bp s F cl cs w (.returned (.slice none 0 0)) w) := Lib.hid ⟨[], fun _ => false, updN s.tmp 2 [], F0, M1, by rw [updN_same], by rw [K0], KO, Below.refl _ _, by simp, by simp, fun fr _ y hy => by
      obtain ⟨p, hp⟩ := mem_at.1 (hr y hy)
      refine D.any (G.Y.zero G.B G.R p _ hp ?_)
      have := G.B.lv_le hp
      omega⟩
    rw [hs0] at f12
    clear h G hsn hD hc hg hr M0 K0 KO M1 hyr hst
    go_enter Tryd.func33, Tryd.ntmps33
    go_wp2
    go_ret
    exact HFIN.out
  · have hsl := G.hs
    have HR0 : Hid (C1 B bp s F cs g w 0 w) := Lib.hid ⟨updN s.tmp 2 [], F0, M1, by rw [updN_same], K0, KO, Below.refl _ _, hc⟩
    have HG := Lib.hid G
    have HDD := Lib.hid hD
    have HYR := Lib.hid hyr
    have HRT := Lib.hid hr
    have hs0b : ((s.starts.length : Int) == 0) = false := beq_eq_false_iff_ne.2 (by omega)
    clear h G hsn hD hc hr M0 K0 KO M1 hyr
    obtain ⟨i0, hi0, hz0, hz1, hz2⟩ := info_parts infoI
    go_enter Tryd.func33, Tryd.ntmps33
    go_wp2
    go_loopw [20] (fun kv wr => ∃ k : Nat, kv = .int .i64 k ∧ k ≤ cs.length ∧ C1 B bp s F cs g w k wr) (fun kv _ => cs.length - (intOf kv).toNat)
    case atStart => exact ⟨0, rfl, Nat.zero_le _, HR0.out⟩
    case round =>
      obtain ⟨k, rfl, hk, tmp, F2, M, htm, hcv, hK, hb, hcell⟩ := hrel
      clear HR0
      by_cases hlt : k < cs.length
      · have q := hcell k hlt
        have hyr := HYR.out _ (getD_mem' hlt)
        obtain ⟨gS, cS2, hSv, f14, qS, zS, nS, bS, lS⟩ := M.seenAt
        obtain ⟨gL, cL, hLv, f8, qL, nL, lL⟩ := M.lvlAt
        have hgS : gS ≠ g := fun e => by
          have h1 := hK .seen (by simp)
          rw [hSv] at h1
          rw [← h1, e] at hg
          exact hg rfl
        have hmk : mrk (fun y => decide (0 < s.lvl (y / 2))) cs (fun _ => false) (k + 1) = if decide (0 < s.lvl (cs.getD k 0 / 2)) then updN (mrk (fun y => decide (0 < s.lvl (y / 2))) cs (fun _ => false) k) (cs.getD k 0 / 2) true else mrk (fun y => decide (0 < s.lvl (y / 2))) cs (fun _ => false) k := rfl
        have HMK := Lib.hid hmk
        generalize cs.getD k 0 = y at *
        have hyv : y / 2 ≤ s.V := by omega
        have hyv2 : y / 2 < s.V + 1 := by omega
        have q14 := qS (y / 2) hyv
        have z14 := zS (y / 2)
        have q8 := qL (y / 2) hyv
        change wr.cell? ⟨bp, 14, none⟩ = some (.slice (some ⟨gS, 0, none⟩) (s.V + 1) cS2) at f14
        change wr.cell? ⟨bp, 8, none⟩ = some (.slice (some ⟨gL, 0, none⟩) (s.V + 1) cL) at f8
        change wr.cell? ⟨gL, y / 2, none⟩ = some (.int .i64 (s.lvl (y / 2) : Nat)) at q8
        generalize (SS.seen _) (y / 2) = old at q14
        by_cases hl0 : s.lvl (y / 2) = 0
        · have HREL : Hid (C1 B bp s F cs g w (k + 1) wr) := Lib.hid ⟨tmp, F2, by rw [HMK.out, hl0]; exact M, htm, hcv, hK, hb, hcell⟩
          rw [hl0] at q8
          clear M htm hcv hK hb hcell hSv qS zS qL hLv hmk HMK
          go_wp2
          go_roundw
          case rel => exact ⟨k + 1, by go_num, by omega, HREL.out⟩
          case measure => simp [intOf]; omega
        · obtain ⟨F3, M3, K3⟩ := M.setSeen hSv (y / 2) true
          have HREL : Hid (C1 B bp s F cs g w (k + 1) (wr.setCell ⟨gS, y / 2, none⟩ (.bool true))) := Lib.hid ⟨tmp, F3, by rw [HMK.out, if_pos (by simp; omega)]; exact M3, htm, (congrFun K3 (.tmp 2)).trans hcv, fun q hq => (congrFun K3 q).trans (hK q hq), hb.setCell bS _, fun j hj => by
            rw [World.cell?_setCell_far _ _ _ _ (fun e => hgS e)]; exact hcell j hj⟩
          have hl1 : (0 : Int) < (s.lvl (y / 2) : Nat) := by omega
          generalize s.lvl (y / 2) = lv at *
          clear M htm hcv hK hb hcell hSv qS zS qL hLv hmk HMK M3 K3
          go_wp2
          go_roundw
          case rel => exact ⟨k + 1, by go_num, by omega, HREL.out⟩
          case measure => simp [intOf]; omega
      · obtain rfl : k = cs.length := by omega
        have hC2 : C2 B bp s F cl cs w s.trail.length (.slice none 0 0) wr := ⟨[], _, tmp, F2, M, htm, hcv, hK, hb, Cor.start HG.out.B (fun x hx h0 => by
          obtain ⟨p, hp⟩ := mem_at.1 hx
          exact HG.out.Y.zero HG.out.B HG.out.R p x hp h0) HRT.out (fun v => by
          rw [mrk_all]
          constructor
          · rintro (h | ⟨y, hy, hf, e⟩)
            · cases h
            · exact ⟨y, hy, e, by subst e; simpa using hf⟩
          · rintro ⟨y, hy, e, h0⟩
            exact .inr ⟨y, hy, by subst e; simpa using h0, e⟩)⟩
        have HC2 := Lib.hid hC2
        have htl0 : 0 < s.trail.length := by
          obtain ⟨y, hy⟩ := List.exists_mem_of_length_pos hn0
          exact List.length_pos_of_mem (HRT.out y hy)
        obtain ⟨gT, cT, hTv, f11, qT, nT, lT⟩ := M.trAt htl0
        change wr.cell? ⟨bp, 11, none⟩ = some (.slice (some ⟨gT, 0, none⟩) s.trail.length cT) at f11
        have hwl : IntKind.i64.wrap ((s.trail.length : Int) - 1) = (s.trail.length : Int) - 1 := IntWalk.i64_in _ (by omega)
        obtain ⟨a0, ha0⟩ : ∃ a0, s.starts[0]? = some a0 := ⟨_, List.getElem?_eq_getElem (by omega)⟩
        have ha0l := HG.out.B.le a0 (mem_at.2 ⟨0, ha0⟩)
        have hsd : s.starts.getD 0 0 = a0 := by rw [List.getD_eq_getElem?_getD, ha0]; rfl
        clear M htm hcv hK hb hcell hC2 hTv qT
        go_wp2
        go_loopw [7, 8] (fun cv iv wx => ∃ (z : Int) (p : Nat), iv = .int .i64 z ∧ z = (p : Int) - 1 ∧ a0 ≤ p ∧ p ≤ s.trail.length ∧ C2 B bp s F cl cs w p cv wx) (fun _ iv _ => (intOf iv + 1).toNat)
        case atStart => exact ⟨_, s.trail.length, rfl, rfl, ha0l, Nat.le_refl _, HC2.out⟩
        case round =>
          obtain ⟨z, p, rfl, hz, hap, hpl, core, sn, tmp, F2, M, htm, hcv, hK, hb, hC⟩ := hrel
          clear HC2
          obtain ⟨gZ, cZ, hZv, qZ, zZ0, nZ, bZ, lZ, _⟩ := M.at .starts (n := s.starts.length) (by simp [cont, SS.se, SS.tm]) (by omega)
          have f12 : wr.cell? ⟨bp, 12, none⟩ = some (F2 .starts).v := M.fld 12
          rw [hZv] at f12
          have q12 : wr.cell? ⟨gZ, 0, none⟩ = some (.int .i64 (a0 : Nat)) := by
            rw [qZ 0 (by omega), show cont ((s.se sn).tm tmp) (fvs F2) .starts = s.starts.map iv from rfl, getD_iv (by omega), hsd]
          have hsl1 : (0 : Int) < (s.starts.length : Nat) := by omega
          by_cases hlt : a0 < p
          · obtain ⟨q, rfl⟩ : ∃ q, p = q + 1 := ⟨p - 1, by omega⟩
            obtain rfl : z = (q : Int) := by omega
            clear hz
            have hqt : q < s.trail.length := by omega
            obtain ⟨gT, cT, hTv, f11, qT, nT, lT⟩ := M.trAt htl0
            have qt := qT q hqt
            change wr.cell? ⟨bp, 11, none⟩ = some (.slice (some ⟨gT, 0, none⟩) s.trail.length cT) at f11
            change wr.cell? ⟨gT, q, none⟩ = some (.int .i64 (s.trail.getD q 0 : Nat)) at qt
            have hqx : s.trail[q]? = some (s.trail.getD q 0) := by rw [List.getD_eq_getElem?_getD, List.getElem?_eq_getElem hqt]; rfl
            generalize s.trail.getD q 0 = x at *
            have hxr := HG.out.B.rng x (mem_at.2 ⟨q, hqx⟩)
            have hxv : x / 2 ≤ s.V := by omega
            have hxv2 : x / 2 < s.V + 1 := by omega
            obtain ⟨gS, cS2, hSv, f14, qS, zS, nS, bS, lS⟩ := M.seenAt
            have q14 := qS (x / 2) hxv
            have z14 := zS (x / 2)
            change wr.cell? ⟨bp, 14, none⟩ = some (.slice (some ⟨gS, 0, none⟩) (s.V + 1) cS2) at f14
            change wr.cell? ⟨gS, x / 2, none⟩ = some (.bool (sn (x / 2))) at q14
            have hwq : IntKind.i64.wrap ((q : Int) - 1) = (q : Int) - 1 := IntWalk.i64_in _ (by omega)
            have hge : (a0 : Int) ≤ (q : Int) := by omega
            have hwb := M.obj.lt
            generalize hsb : sn (x / 2) = sb at q14
            cases sb
            · have HREL : Hid (C2 B bp s F cl cs w q u7 wr) := Lib.hid ⟨core, sn, tmp, F2, M, htm, hcv, hK, hb, hC.pass hqx hsb HG.out.B⟩
              clear M htm hcv hK hb hC hZv qZ zZ0 hTv qT hSv qS zS
              go_wp2
              go_roundw
              case rel => exact ⟨_, q, rfl, rfl, by omega, by omega, HREL.out⟩
              case measure => simp [intOf]
            · obtain ⟨F3, M3, K3⟩ := M.setSeen hSv (x / 2) false
              change Mem (wr.setCell ⟨gS, x / 2, none⟩ (.bool false)) B bp ((s.se (updN sn (x / 2) false)).tm tmp) F3 at M3
              obtain ⟨gR, cR, hRv, f9, qR, nR, lR⟩ := M.rsnAt
              have q9 := qR (x / 2) hxv
              change wr.cell? ⟨bp, 9, none⟩ = some (.slice (some ⟨gR, 0, none⟩) (s.V + 1) cR) at f9
              change wr.cell? ⟨gR, x / 2, none⟩ = some (rv s.rp (s.rsn (x / 2))) at q9
              have hgn : gR ≠ gS := fun e => by
                subst e
                have := q14
                rw [q9] at this
                cases hh : s.rsn (x / 2) <;> rw [hh] at this <;> cases this
              have hgT : gT ≠ gS := M.two (by decide) hTv hSv
              have hgZ : gZ ≠ gS := M.two (by decide) hZv hSv
              have HB3 : Hid (Below B w (wr.setCell ⟨gS, x / 2, none⟩ (.bool false))) := Lib.hid (hb.setCell bS _)
              have HK3 : Hid (∀ q, q ≠ .tmp 2 → (F3 q).v = (F q).v) := Lib.hid fun q hq => (congrFun K3 q).trans (hK q hq)
              have HC3 : Hid ((F3 (.tmp 2)).v = u7) := Lib.hid ((congrFun K3 (.tmp 2)).trans hcv)
              obtain ⟨x', hx', hxe, hxl⟩ := hC.sn _ hsb
              cases hrs : s.rsn (x / 2) with
              | none =>
                rw [hrs] at q9
                change wr.cell? ⟨gR, x / 2, none⟩ = some (.pointer none) at q9
                have hxw : x ∈ s.wanted := by
                  rcases HG.out.Y q x hqx with ⟨i, h1, _⟩ | ⟨_, ⟨h1, _⟩ | h1⟩
                  · rw [hrs] at h1; cases h1
                  · omega
                  · exact HDD.out q x h1 hqx
                have HT := Lib.hid (hC.take hqx HG.out.B hxw)
                have hcl2 : core.length ≤ 100000 := by
                  have := nodup_bound hC.nd fun c hc => (HG.out.B.rng _ (hC.want c hc).2).2
                  omega
                have HM3 := Lib.hid M3
                have HO := Lib.hid ((M3.below ((Below.refl _ _).alloc (Nat.le_refl _) (.cells #[.int .i64 x] 3))).ownAt (.tmp 2) rfl)
                have hxl2 : (cont ((s.se (updN sn (x / 2) false)).tm tmp) (fvs F3) (.tmp 2)).length = core.length := by
                  show ((tmp 2).map iv).length = _
                  rw [htm]; simp
                rw [hxl2, HC3.out] at HO
                have HTM := Lib.hid htm
                clear M htm hcv hK hb hC hZv qZ zZ0 hTv qT hSv qS zS hRv qR M3 K3 hx' hxe hxl hrs
                go_wp2_with (at_builtin; (refine wpList_append_own_at _ rfl _ _ 23 rfl B 3 i0 (.int .i64 0) 1 8 Tryd.underlying23 hi0 hz0 hz1 hz2 rfl (by decide) u7 core.length (cont ((s.se (updN sn (x / 2) false)).tm tmp) (fvs F3) (.tmp 2)) rfl ?c0 ⟨wr.heap.size, 0, none⟩ 1 1 [.int .i64 x] rfl rfl (new_oneE _ _ _ (by simp)) ?c2 ?c3 ?c4 ?c5 ?_))
                case c0 => exact HO.out
                case c2 => simp [Value.oneCell']
                case c3 => unfold maxLen; omega
                case c4 => omega
                case c5 => simp; omega
                intro v' w5 hown5 hgrow5 _ hat
                obtain ⟨g', cap', rfl, _, _, _, _⟩ := own_form hown5 (by omega)
                obtain ⟨F6, M6, V6, K6, B6⟩ := HM3.out.appTmp (j := 2) (c := x) (n := core.length) (by show (tmp 2).length = _; rw [HTM.out]) ((Below.refl _ _).alloc (Nat.le_refl _) (.cells #[.int .i64 x] 3)) hown5 (by rw [HC3.out]; exact hgrow5) (by
                  rw [HC3.out]
                  rcases hat with hat | hat
                  · exact .inl hat
                  · exact .inr (by have : g' = wr.heap.size + 1 := by simpa [Value.ownBlock] using hat
                                   rw [this]; simp))
                have HREL : Hid (C2 B bp s F cl cs w q (.slice (some ⟨g', 0, none⟩) (core.length + 1) cap') w5) := Lib.hid ⟨core ++ [x], _, _, F6, M6, by show updN tmp 2 (tmp 2 ++ [x]) 2 = _; rw [updN_same, HTM.out], V6, fun q hq => (K6 q hq).trans (HK3.out q hq), HB3.out.trans B6, HT.out⟩
                clear M6 V6 K6 B6 hown5 hgrow5 hat HO HM3 HK3 HC3 HB3 HT
                go_wp2
                go_roundw
                case rel => exact ⟨_, q, rfl, rfl, by omega, by omega, HREL.out⟩
                case measure => simp [intOf]
              | some i =>
                rw [hrs] at q9
                change wr.cell? ⟨gR, x / 2, none⟩ = some (.pointer (some ⟨s.rp i, 0, none⟩)) at q9
                have hi := HG.out.rb _ _ hrs
                have h2 := HG.out.R.two i hi
                have hLk := rows_len HG.out.R hV hi
                obtain ⟨gK, cK, hKv, r0, qK, zK, nK, nKR, bK, lK, lR2, nR2⟩ := M3.rowAt hi (by exact Nat.lt_of_lt_of_le (by decide) h2)
                obtain ⟨r00, _⟩ := M.obji hi
                have hkv0 : (F2 (.row i)).v = .slice (some ⟨gK, 0, none⟩) (s.row i).length cK := (congrFun K3 (.row i)).symm.trans hKv
                rw [hkv0] at r00
                change wr.cell? ⟨s.rp i, 0, none⟩ = some (.slice (some ⟨gK, 0, none⟩) (s.row i).length cK) at r00
                have hriS : s.rp i ≠ gS := fun e => by
                  have := (M.rb i hi).2.2 .seen
                  rw [hSv] at this
                  exact this (by show some gS = some (s.rp i); rw [e])
                have HKV : Hid ((F (.row i)).v = .slice (some ⟨gK, 0, none⟩) (s.row i).length cK) := Lib.hid ((HK3.out _ (by simp)).symm.trans hKv)
                have HR3 : Hid (C3 B bp s F core (updN sn (x / 2) false) x i w 0 u7 (wr.setCell ⟨gS, x / 2, none⟩ (.bool false))) := Lib.hid ⟨tmp, F3, M3, htm, HC3.out, HK3.out, HB3.out⟩
                have HCC := Lib.hid hC
                have HRS := Lib.hid hrs
                clear M htm hcv hK hb hC hZv qZ zZ0 hTv qT hSv qS zS hRv qR M3 K3 hx' hxe hxl hrs hKv qK zK hkv0 r0
                go_wp2
                go_loopw [108] (fun kv wx => ∃ k : Nat, kv = .int .i64 k ∧ k ≤ (s.row i).length ∧ C3 B bp s F core (updN sn (x / 2) false) x i w k u7 wx) (fun kv _ => (s.row i).length - (intOf kv).toNat)
                case atStart => exact ⟨0, rfl, Nat.zero_le _, HR3.out⟩
                case round =>
                  obtain ⟨k, rfl, hk, tmp3, F4, M, htm, hcv, hK, hb⟩ := hrel
                  clear HR3
                  by_cases hlt3 : k < (s.row i).length
                  · have hv1 : (F4 (.row i)).v = .slice (some ⟨gK, 0, none⟩) (s.row i).length cK := (hK _ (by simp)).trans HKV.out
                    have hx1 : (F4 (.row i)).xs = (s.row i).map iv := M.xs _
                    have qk := M.own.cell hv1 k (by rw [hx1]; simpa using hlt3)
                    rw [hx1, getD_iv hlt3] at qk
                    have hyr := HG.out.R.rng i hi _ (getD_mem' hlt3)
                    obtain ⟨gS2, cS3, hSv2, f142, qS2, zS2, nS2, bS2, lS2⟩ := M.seenAt
                    obtain ⟨gL, cL, hLv, f8, qL, nL, lL⟩ := M.lvlAt
                    have hmk : mrk (fun y => decide (y / 2 ≠ x / 2) && decide (0 < s.lvl (y / 2))) (s.row i) (updN sn (x / 2) false) (k + 1) = if (decide ((s.row i).getD k 0 / 2 ≠ x / 2) && decide (0 < s.lvl ((s.row i).getD k 0 / 2))) then updN (mrk (fun y => decide (y / 2 ≠ x / 2) && decide (0 < s.lvl (y / 2))) (s.row i) (updN sn (x / 2) false) k) ((s.row i).getD k 0 / 2) true else mrk (fun y => decide (y / 2 ≠ x / 2) && decide (0 < s.lvl (y / 2))) (s.row i) (updN sn (x / 2) false) k := rfl
                    have HMK := Lib.hid hmk
                    clear hmk
                    generalize (s.row i).getD k 0 = y at *
                    have hyv : y / 2 ≤ s.V := by omega
                    have hyv2 : y / 2 < s.V + 1 := by omega
                    have q142 := qS2 (y / 2) hyv
                    have z142 := zS2 (y / 2)
                    have q8 := qL (y / 2) hyv
                    change wr.cell? ⟨bp, 14, none⟩ = some (.slice (some ⟨gS2, 0, none⟩) (s.V + 1) cS3) at f142
                    change wr.cell? ⟨bp, 8, none⟩ = some (.slice (some ⟨gL, 0, none⟩) (s.V + 1) cL) at f8
                    change wr.cell? ⟨gL, y / 2, none⟩ = some (.int .i64 (s.lvl (y / 2) : Nat)) at q8
                    generalize (SS.seen _) (y / 2) = old at q142
                    have hwb3 := M.obj.lt
                    by_cases hc : y / 2 ≠ x / 2 ∧ 0 < s.lvl (y / 2)
                    · have hb1 : ((y : Int) / 2 != (x : Int) / 2) = true := by
                        have : (y : Int) / 2 ≠ (x : Int) / 2 := by omega
                        simp [this]
                      obtain ⟨F5, M5, K5⟩ := M.setSeen hSv2 (y / 2) true
                      have HREL : Hid (C3 B bp s F core (updN sn (x / 2) false) x i w (k + 1) u7 (wr.setCell ⟨gS2, y / 2, none⟩ (.bool true))) := Lib.hid ⟨tmp3, F5, by rw [HMK.out, if_pos (by simp [hc])]; exact M5, htm, (congrFun K5 (.tmp 2)).trans hcv, fun q hq => (congrFun K5 q).trans (hK q hq), hb.setCell bS2 _⟩
                      have hl1 : (0 : Int) < (s.lvl (y / 2) : Nat) := by omega
                      generalize s.lvl (y / 2) = lv at *
                      clear M htm hcv hK hb hv1 hx1 hSv2 qS2 zS2 qL hLv HMK M5 K5 hc
                      go_wp2
                      go_roundw
                      case rel => exact ⟨k + 1, by go_num, by omega, HREL.out⟩
                      case measure => simp [intOf]; omega
                    · have HREL : Hid (C3 B bp s F core (updN sn (x / 2) false) x i w (k + 1) u7 wr) := Lib.hid ⟨tmp3, F4, by rw [HMK.out, if_neg (by simpa using hc)]; exact M, htm, hcv, hK, hb⟩
                      by_cases hv : y / 2 = x / 2
                      · have hb1 : ((y : Int) / 2 != (x : Int) / 2) = false := by
                          have : (y : Int) / 2 = (x : Int) / 2 := by omega
                          simp [this]
                        clear M htm hcv hK hb hv1 hx1 hSv2 qS2 zS2 qL hLv HMK hc hv
                        go_wp2
                        go_roundw
                        case rel => exact ⟨k + 1, by go_num, by omega, HREL.out⟩
                        case measure => simp [intOf]; omega
                      · have hb1 : ((y : Int) / 2 != (x : Int) / 2) = true := by
                          have : (y : Int) / 2 ≠ (x : Int) / 2 := by omega
                          simp [this]
                        have hl0 : s.lvl (y / 2) = 0 := by omega
                        rw [hl0] at q8
                        clear M htm hcv hK hb hv1 hx1 hSv2 qS2 zS2 qL hLv HMK hc hv hl0
                        go_wp2
                        go_roundw
                        case rel => exact ⟨k + 1, by go_num, by omega, HREL.out⟩
                        case measure => simp [intOf]; omega
                  · obtain rfl : k = (s.row i).length := by omega
                    have HREL : Hid (C2 B bp s F cl cs w q u7 wr) := Lib.hid ⟨core, _, tmp3, F4, M, htm, hcv, hK, hb, HCC.out.open hqx HG.out.B HG.out.R HG.out.Y HRS.out (fun v => by
                      rw [mrk_all]
                      by_cases e : v = x / 2
                      · subst e
                        rw [updN_same]
                        constructor
                        · rintro (h | ⟨y, hy, hf, e⟩)
                          · cases h
                          · rw [e] at hf; simp at hf
                        · rintro (⟨h, _⟩ | ⟨y, hy, hne, e, _⟩)
                          · exact absurd rfl h
                          · exact absurd e hne
                      · rw [updN_other _ _ e]
                        constructor
                        · rintro (h | ⟨y, hy, hf, e2⟩)
                          · exact .inl ⟨e, h⟩
                          · simp at hf
                            exact .inr ⟨y, hy, hf.1, e2, by rw [← e2]; exact hf.2⟩
                        · rintro (⟨_, h⟩ | ⟨y, hy, hne, e2, h0⟩)
                          · exact .inl h
                          · exact .inr ⟨y, hy, by simp [hne]; rw [e2]; exact h0, e2⟩)⟩
                    clear M htm hcv hK hb
                    go_wp2
                    go_roundw
                    case rel => exact ⟨_, q, rfl, rfl, by omega, by omega, HREL.out⟩
                    case measure => simp [intOf]
          · obtain rfl : p = a0 := by omega
            obtain ⟨hno, himp⟩ := hC.done HG.out.B ha0
            have HFIN : Hid (CoP B bp s F cl cs w (.returned u7) wr) := Lib.hid ⟨core, sn, tmp, F2, M, htm, by rw [hcv], hK, hb, hC.want, hC.nd, himp⟩
            have hlt2 : z < (p : Int) := by omega
            clear M htm hcv hK hb hC hZv qZ zZ0 hno himp
            go_wp2
            go_ret
            exact HFIN.out
end
end Go.Proofs.YtojjjndhabjhdaaDoor.satCd
