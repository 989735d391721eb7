/-
  Contract of (*search).back.
  What holds while (*search).analyze goes on.
  Slices of integers and of clauses that lie in memory.
  Contracts of the closures of (*search).shortened.
-/
import Derived.Test.YtojjjndhabjhdaaDoorSatK
import Derived.Test.YtojjjndhabjhdaaDoorFbM
import Derived.ProofKit
import Derived.OpenShut
import Derived.ChangeArms
namespace Go.Proofs.YtojjjndhabjhdaaDoor.satM
set_option linter.unusedSimpArgs false
set_option linter.unusedVariables false
open Go.ChangeShapes Go.WideShapes Go.ChangeAt Go.RowKit proofP proofQ owns satP satQ satA satF satB satC satD satE satG satH satI satJ satK
attribute [local go_sem ↓] Go.wp_at_zero Go.wp_at_succ

/-- codes that are true while those from t on are taken back, j of them -/
def bvt (trail : List Nat) (t j : Nat) : List Nat := trail.take t ++ trail.drop (t + j)
theorem bvt_zero (trail : List Nat) (t : Nat) : bvt trail t 0 = trail := List.take_append_drop t trail
theorem bvt_all {trail : List Nat} {t j : Nat} (h : trail.length ≤ t + j) : bvt trail t j = trail.take t := by unfold bvt; rw [List.drop_eq_nil_of_le h]; simp
theorem bvt_mem {trail : List Nat} {t j x : Nat} : x ∈ bvt trail t j ↔ ∃ p, trail[p]? = some x ∧ (p < t ∨ t + j ≤ p) := by
  unfold bvt
  rw [List.mem_append, mem_take]
  constructor
  · rintro (⟨p, hp, hx⟩ | hx)
    · exact ⟨p, hx, .inl hp⟩
    · obtain ⟨q, hq⟩ := mem_at.1 hx
      rw [List.getElem?_drop] at hq
      exact ⟨t + j + q, hq, .inr (by omega)⟩
  · rintro ⟨p, hx, hp | hp⟩
    · exact .inl ⟨p, hp, hx⟩
    · exact .inr (mem_at.2 ⟨p - (t + j), by rw [List.getElem?_drop, show t + j + (p - (t + j)) = p from by omega]; exact hx⟩)
theorem bvt_step {V : Nat} {trail starts : List Nat} {lvl : Nat → Nat} (hB : Base V trail starts lvl) {t j c : Nat} (hc : trail[t + j]? = some c) (x : Nat) : val (bvt trail t (j + 1)) x = if x = opp c then 0 else if x = c then 0 else val (bvt trail t j) x := by
  have hm : ∀ y, y ∈ bvt trail t (j + 1) ↔ y ∈ bvt trail t j ∧ y ≠ c := by
    intro y
    rw [bvt_mem, bvt_mem]
    constructor
    · rintro ⟨p, hy, hp⟩
      refine ⟨⟨p, hy, by omega⟩, fun e => ?_⟩
      subst e
      have := hB.at_inj hy hc; omega
    · rintro ⟨⟨p, hy, hp⟩, hne⟩
      refine ⟨p, hy, ?_⟩
      by_cases e : p = t + j
      · subst e; rw [hc] at hy; exact absurd (Option.some.inj hy).symm hne
      · omega
  have hcc : opp c ∉ bvt trail t j := by
    rw [bvt_mem]; rintro ⟨p, hp, _⟩; exact hB.con c (mem_at.2 ⟨_, hc⟩) (mem_at.2 ⟨p, hp⟩)
  by_cases e1 : x = opp c
  · rw [if_pos e1]
    subst e1
    refine val_zero (fun h => hcc ((hm _).1 h).1) (fun h => ((hm _).1 h).2 (opp_opp c))
  · rw [if_neg e1]
    by_cases e2 : x = c
    · rw [if_pos e2]
      subst e2
      refine val_zero (fun h => ((hm _).1 h).2 rfl) (fun h => hcc ((hm _).1 h).1)
    · rw [if_neg e2]
      unfold val
      have h1 : x ∈ bvt trail t (j + 1) ↔ x ∈ bvt trail t j := by rw [hm]; exact ⟨fun h => h.1, fun h => ⟨h, e2⟩⟩
      have h2 : opp x ∈ bvt trail t (j + 1) ↔ opp x ∈ bvt trail t j := by
        rw [hm]; exact ⟨fun h => h.1, fun h => ⟨h, fun e => e1 (by rw [← e, opp_opp])⟩⟩
      simp only [h1, h2]
section
variable {w w' : World} {B bp : Nat} {s : SS} {F : Ix → Ent}
theorem _root_.Go.Proofs.YtojjjndhabjhdaaDoor.satA.Mem.zeroVals (h : Mem w B bp s F) {g cap n : Nat} (hv : (F .value).v = .slice (some ⟨g, 0, none⟩) n cap) {c : Nat} {vt : List Nat} (hz : ∀ x, val vt x = if x = opp c then 0 else if x = c then 0 else val s.vt x) :
    ∃ F', Mem ((w.setCell ⟨g, c, none⟩ (.int .i8 0)).setCell ⟨g, opp c, none⟩ (.int .i8 0)) B bp (s.val vt) F' ∧ fvs F' = fvs F := by
  obtain ⟨O1, G1⟩ := h.own.set2 hv c (opp c) (.int .i8 0) (.int .i8 0)
  have hg : g ≠ bp := fun e => h.ne .value (by rw [hv, e]; rfl)
  have hfv := fvs_set F .value (((F .value).xs.set c (.int .i8 0)).set (opp c) (.int .i8 0))
  refine ⟨_, ⟨O1, ?_, h.hB, fun i => ?_, fun i => ?_, fun i => ?_, fun i hi => ?_, fun i hi => ?_, h.rj, (congrFun hfv .res).trans h.rv⟩, hfv⟩
  · rw [hfv]; exact h.obj.kept G1 (by intro e; cases e; exact hg rfl)
  · rw [show (upd F .value ⟨(F .value).e, (F .value).v, ((F .value).xs.set c (.int .i8 0)).set (opp c) (.int .i8 0)⟩ i).v = (F i).v from congrFun hfv i]; exact h.ne i
  · by_cases e : i = .value
    · subst e; rw [upd_same]; exact h.te .value
    · rw [upd_other _ _ e]; exact h.te i
  · rw [hfv]
    by_cases e : i = .value
    · subst e; rw [upd_same]; dsimp only; rw [h.xs]
      show (((List.range (2 * s.V + 2)).map fun c => Value.int .i8 (val s.vt c)).set c (.int .i8 0)).set (opp c) (.int .i8 0) = (List.range (2 * s.V + 2)).map fun c => .int .i8 (val vt c)
      rw [range_set, range_set]
      apply List.map_congr_left
      intro x _
      rw [hz]
      by_cases e1 : x = opp c
      · rw [if_pos e1, if_pos e1]
      · rw [if_neg e1, if_neg e1]
        by_cases e2 : x = c
        · rw [if_pos e2, if_pos e2]
        · rw [if_neg e2, if_neg e2]
    · rw [upd_other _ _ e, h.xs]; cases i <;> first | rfl | exact absurd rfl e
  · rw [show (upd F .value ⟨(F .value).e, (F .value).v, ((F .value).xs.set c (.int .i8 0)).set (opp c) (.int .i8 0)⟩ (.row i)).v = (F (.row i)).v from congrFun hfv _]
    exact (h.rw i hi).kept G1 (by intro e; have := (h.rb i hi).2.2 .value; rw [hv] at this; exact this e)
  · refine ⟨(h.rb i hi).1, (h.rb i hi).2.1, fun q => ?_⟩
    rw [show (upd F .value ⟨(F .value).e, (F .value).v, ((F .value).xs.set c (.int .i8 0)).set (opp c) (.int .i8 0)⟩ q).v = (F q).v from congrFun hfv q]
    exact (h.rb i hi).2.2 q
theorem _root_.Go.Proofs.YtojjjndhabjhdaaDoor.satA.Mem.noReason (h : Mem w B bp s F) {g cap n : Nat} (hv : (F .reason).v = .slice (some ⟨g, 0, none⟩) n cap) (v : Nat) :
    ∃ F', Mem (w.setCell ⟨g, v, none⟩ (.pointer none)) B bp (s.lrp s.lvl (updN s.rsn v none) s.phase) F' ∧ fvs F' = fvs F :=
  ⟨_, (h.write hv v (.pointer none) (s' := s.lrp s.lvl (updN s.rsn v none) s.phase) (updN_map (g := rv s.rp) none) (by intro i hi; cases i <;> first | rfl | exact absurd rfl hi) rfl rfl rfl rfl rfl).1, fvs_set _ _ _⟩
/-- while codes are taken back -/
def _root_.Go.Proofs.YtojjjndhabjhdaaDoor.satA.SS.bl (s : SS) (vt : List Nat) (rsn : Nat → Option Nat) (hp : List Nat) (pl : Nat → Int) : SS := ((s.val vt).lrp s.lvl rsn s.phase).qu hp pl
/-- .. and when they are -/
def _root_.Go.Proofs.YtojjjndhabjhdaaDoor.satA.SS.bk (s : SS) (t b : Nat) (rsn : Nat → Option Nat) (hp : List Nat) (pl : Nat → Int) : SS := (((s.bl (s.trail.take t) rsn hp pl).tr (s.trail.take t)).sts (s.starts.take b)).hd t
def BRel (B bp : Nat) (s : SS) (F : Ix → Ent) (P : Nat → Prop) (t : Nat) (w : World) (j : Nat) (wr : World) : Prop :=
  ∃ rsn hp pl F', Mem wr B bp (s.bl (bvt s.trail t j) rsn hp pl) F' ∧ (∀ k, k ≠ .heap → (F' k).v = (F k).v) ∧ Below B w wr ∧ QI s.V (fun u => P u ∨ ∃ p x, t ≤ p ∧ p < t + j ∧ s.trail[p]? = some x ∧ x / 2 = u) hp pl ∧
    (∀ p x, s.trail[p]? = some x → p < t → rsn (x / 2) = s.rsn (x / 2)) ∧ ∀ v i, rsn v = some i → s.rsn v = some i
def BackP (B bp : Nat) (s : SS) (F : Ix → Ent) (P : Nat → Prop) (t b : Nat) (w w' : World) : Prop :=
  ∃ rsn hp pl F', Mem w' B bp (s.bk t b rsn hp pl) F' ∧ Below B w w' ∧ QI s.V (fun u => P u ∨ ∃ p x, t ≤ p ∧ s.trail[p]? = some x ∧ x / 2 = u) hp pl ∧ (∀ p x, s.trail[p]? = some x → p < t → rsn (x / 2) = s.rsn (x / 2)) ∧ (∀ v i, rsn v = some i → s.rsn v = some i) ∧ ∀ k, k ≠ .heap → k ≠ .trail → k ≠ .starts → (F' k).v = (F k).v
set_option maxHeartbeats 4000000 in
set_option maxRecDepth 100000 in
theorem back_none (h : Mem w B bp s F) (b : Nat) (hb : s.starts.length ≤ b) (hs : b ≤ 100000) : Calls Tryd.prog 55 #[.pointer (some ⟨bp, 0, none⟩), .int .i64 b] w fun e w' => e = .returned (.tuple #[]) ∧ w' = w := by
  have f12 : w.cell? ⟨bp, 12, none⟩ = some (F .starts).v := h.fld 12
  obtain ⟨aS, cS, hSv⟩ := h.own.value .starts
  rw [h.xs, show (cont s (fvs F) .starts).length = s.starts.length from by simp [cont]] at hSv
  rw [hSv] at f12
  clear h hSv
  go_enter Tryd.func55, Tryd.ntmps55
  go_wp2
  refine bodyPost_ret (results_none rfl _ _ _) rfl ?_
  exact ⟨rfl, rfl⟩
set_option maxHeartbeats 4000000 in
set_option maxRecDepth 100000 in
theorem back_some (h : Mem w B bp s F) (hBs : Base s.V s.trail s.starts s.lvl) (hvt : s.vt = s.trail) (hW : WF s) (hV : s.V ≤ 20000) (hsl : s.starts.length ≤ 50000) (P : Nat → Prop) (hQ : QI s.V P s.heap s.place) (b t : Nat) (hb : s.starts[b]? = some t) (htl : t < s.trail.length) :
    Calls Tryd.prog 55 #[.pointer (some ⟨bp, 0, none⟩), .int .i64 b] w fun e w' => e = .returned (.tuple #[]) ∧ BackP B bp s F P t b w w' := by
  have hbl := at_lt hb
  obtain ⟨gS, cS, hSv, qS, zS, nS, bS, lS, _, kS, _⟩ := h.at .starts (n := s.starts.length) (by simp [cont]) (by omega)
  obtain ⟨gT, cT, hTv, qT, zT, nT, bT, lT, _, kT, _⟩ := h.at .trail (n := s.trail.length) (by simp [cont]) (by omega)
  obtain ⟨gV, cV, hVv, _, _, nV, lV⟩ := h.valAt
  obtain ⟨gR, cR, hRv, qR, zR, nR, bR, lR, _, kR, _⟩ := h.at .reason (n := s.V + 1) (by simp [cont]) (by omega)
  have bV : B ≤ gV := ((h.own.1 .value).lt gV (by rw [hVv]; rfl)).1
  have f12 : w.cell? ⟨bp, 12, none⟩ = some (F .starts).v := h.fld 12
  have f11 : w.cell? ⟨bp, 11, none⟩ = some (F .trail).v := h.fld 11
  rw [hSv] at f12
  rw [hTv] at f11
  have qb := qS b hbl
  rw [show cont s (fvs F) .starts = s.starts.map iv from rfl, getD_iv hbl, show s.starts.getD b 0 = t from by rw [List.getD_eq_getElem?_getD, hb]; rfl] at qb
  have hlen := hBs.len
  have HR0 : Hid (BRel B bp s F P t w 0 w) := Lib.hid ⟨s.rsn, s.heap, s.place, F, by
    rw [bvt_zero, ← hvt]; exact h, fun _ _ => rfl, Below.refl _ _, hQ.alike (fun u _ _ => ⟨fun hp => .inl hp, fun hp => hp.elim id (fun ⟨p, x, a, b, _⟩ => by omega)⟩), fun _ _ _ _ => rfl, fun _ _ hh => hh⟩
  have HBS := Lib.hid hBs
  have HW := Lib.hid hW
  have HB := Lib.hid hb
  have HS := Lib.hid hSv
  have HT := Lib.hid hTv
  have HV := Lib.hid hVv
  have HRv := Lib.hid hRv
  have nVT := h.two (by decide) hVv hTv
  have nRT := h.two (by decide) hRv hTv
  have nVR := h.two (by decide) hVv hRv
  have hB := h.hB
  have hlb : ¬ (s.starts.length ≤ b) := by omega
  have htI : (t : Int) ≤ (s.trail.length : Int) := by omega
  have hbI : (b : Int) < (s.starts.length : Int) := by omega
  clear h hBs hW hQ hb hSv hTv hVv hRv qS zS qT zT qR zR hvt
  have HTL : Hid (t < s.trail.length ∧ b < s.starts.length ∧ s.trail.length ≤ s.V ∧ s.V ≤ 20000) := Lib.hid ⟨htl, hbl, hlen, hV⟩
  go_enter Tryd.func55, Tryd.ntmps55
  go_wp2
  clear f11 f12 qb
  obtain ⟨m, hm⟩ : ∃ m, s.trail.length - t = m := ⟨_, rfl⟩
  rw [hm]
  have HMm := Lib.hid hm
  clear hm htI
  go_loopw [28] (fun it wr => ∃ j : Nat, j ≤ m ∧ it = .int .i64 j ∧ BRel B bp s F P t w j wr) (fun it _ => m - (intOf it).toNat)
  case atStart => exact ⟨0, Nat.zero_le _, rfl, HR0.out⟩
  case round =>
    obtain ⟨j, hj, rfl, hR⟩ := hrel
    clear HR0
    obtain ⟨rsn, hp, pl, F1, hM, hK, hb, hQ, hr1, hr2⟩ := hR
    have hTv1 : (F1 .trail).v = .slice (some ⟨gT, 0, none⟩) s.trail.length cT := (hK _ (by decide)).trans HT.out
    have hVv1 : (F1 .value).v = .slice (some ⟨gV, 0, none⟩) (2 * s.V + 2) cV := (hK _ (by decide)).trans HV.out
    have hRv1 : (F1 .reason).v = .slice (some ⟨gR, 0, none⟩) (s.V + 1) cR := (hK _ (by decide)).trans HRv.out
    by_cases hlt : j < m
    · have htj : t + j < s.trail.length := by have := HMm.out; omega
      have hc : s.trail[t + j]? = some (s.trail.getD (t + j) 0) := by rw [List.getD_eq_getElem?_getD, List.getElem?_eq_getElem htj]; rfl
      have qc := hM.own.cell hTv1 (t + j) (by rw [hM.xs]; show t + j < (s.trail.map iv).length; rw [List.length_map]; exact htj)
      rw [hM.xs, show cont (s.bl (bvt s.trail t j) rsn hp pl) (fvs F1) .trail = s.trail.map iv from rfl, getD_iv htj] at qc
      have hcr := HBS.out.rng _ (mem_at.2 ⟨_, hc⟩)
      generalize s.trail.getD (t + j) 0 = c at *
      have hx := xor1 c (by omega)
      have hco := opp_rng2 hcr
      obtain ⟨F2, M2, K2⟩ := hM.zeroVals hVv1 (bvt_step HBS.out hc)
      obtain ⟨F3, M3, K3⟩ := M2.noReason ((congrFun K2 .reason).trans hRv1) (c / 2)
      have M4 := M3.below (Below.refl _ _).drew
      have HPU := Lib.hid (push_any M4 ⟨HW.out.len, HW.out.fp, HW.out.st⟩ hV _ hQ (c / 2) (by show 1 ≤ c / 2 ∧ c / 2 ≤ s.V; omega))
      have f7 : wr.cell? ⟨bp, 7, none⟩ = some (F1 .value).v := hM.fld 7
      have f9 : wr.cell? ⟨bp, 9, none⟩ = some (F1 .reason).v := hM.fld 9
      rw [hVv1] at f7
      rw [hRv1] at f9
      have q1 := hM.own.cell hVv1 c (by rw [hM.xs]; show c < ((List.range (2 * s.V + 2)).map _).length; simp; omega)
      have q2 := hM.own.cell hVv1 (opp c) (by rw [hM.xs]; show opp c < ((List.range (2 * s.V + 2)).map _).length; simp; omega)
      have q3 := hM.own.cell hRv1 (c / 2) (by rw [hM.xs]; show c / 2 < ((List.range (s.V + 1)).map _).length; simp; omega)
      rw [hM.xs, show cont (s.bl (bvt s.trail t j) rsn hp pl) (fvs F1) .value = (List.range (2 * s.V + 2)).map fun c => .int .i8 (val (bvt s.trail t j) c) from rfl, range_at (by omega)] at q1 q2
      rw [hM.xs, show cont (s.bl (bvt s.trail t j) rsn hp pl) (fvs F1) .reason = (List.range (s.V + 1)).map fun v => rv s.rp (rsn v) from rfl, range_at (by omega)] at q3
      have z1 := hM.own.frozen hVv1 c
      have z2 := hM.own.frozen hVv1 (opp c)
      have z3 := hM.own.frozen hRv1 (c / 2)
      have hbl2 := hM.obj.lt
      have hne := opp_ne c
      have hne' := fun e => opp_ne c (Eq.symm e)
      have HC := Lib.hid hc
      have HB2 := Lib.hid hb
      have HR1 := Lib.hid hr1
      have HR2 := Lib.hid hr2
      have HKK : Hid (∀ k, k ≠ .heap → (F3 k).v = (F k).v) := Lib.hid (fun k hk => ((congrFun K3 k).trans (congrFun K2 k)).trans (hK k hk))
      have hcI : (c : Int) < 2 * (s.V : Int) + 2 := by omega
      have hoI : (opp c : Int) < 2 * (s.V : Int) + 2 := by omega
      have hv2 : (c / 2 : Nat) < s.V + 1 := by omega
      clear hM hK hb hQ hr1 hr2 hTv1 hVv1 hRv1 M2 M3 M4 K2 K3 hc
      generalize val (bvt s.trail t j) c = v1 at *
      generalize val (bvt s.trail t j) (opp c) = v2 at *
      generalize rv s.rp (rsn (c / 2)) = v3 at *
      generalize opp c = c' at *
      go_wp2
      go_region
      go_wp2_with fail
      refine HPU.out.mono ?_
      rintro e w5 ⟨rfl, hp2, pl2, F4, M5, K5, B5, Q5⟩
      have HREL : Hid (BRel B bp s F P t w (j + 1) w5) := Lib.hid (by
        refine ⟨updN rsn (c / 2) none, hp2, pl2, F4, M5, fun k hk => (K5 k hk).trans (HKK.out k hk), ((((HB2.out.setCell bV _).setCell bV _).setCell bR _).drew).trans B5, Q5.alike (fun u _ _ => ?_), fun p x hp hlt' => ?_, fun v i hv => ?_⟩
        · constructor
          · rintro ((h | ⟨p, x, h1, h2, h3, h4⟩) | h)
            · exact .inl h
            · exact .inr ⟨p, x, h1, by omega, h3, h4⟩
            · exact .inr ⟨t + j, c, by omega, by omega, HC.out, h.symm⟩
          · rintro (h | ⟨p, x, h1, h2, h3, h4⟩)
            · exact .inl (.inl h)
            · by_cases e : p = t + j
              · subst e
                rw [HC.out] at h3
                exact .inr (by rw [← h4, Option.some.inj h3])
              · exact .inl (.inr ⟨p, x, h1, by omega, h3, h4⟩)
        · rw [updN_other _ _ ?_]
          · exact HR1.out p x hp hlt'
          · intro e
            have := (HBS.out.at_var hp HC.out e).1; omega
        · unfold updN at hv
          split at hv
          · cases hv
          · exact HR2.out v i hv)
      clear M5 K5 B5 Q5 HPU HKK HB2
      go_wp2
      go_roundw
      case rel => exact ⟨j + 1, by omega, by go_num, HREL.out⟩
      case measure => simp [intOf]; omega
    · obtain rfl : j = m := by omega
      have hmm := HMm.out
      have htl2 := HTL.out
      rw [bvt_all (by omega)] at hM
      have hSv1 : (F1 .starts).v = .slice (some ⟨gS, 0, none⟩) s.starts.length cS := (hK _ (by decide)).trans HS.out
      have f11 : wr.cell? ⟨bp, 11, none⟩ = some (F1 .trail).v := hM.fld 11
      have f12 : wr.cell? ⟨bp, 12, none⟩ = some (F1 .starts).v := hM.fld 12
      have f13 : wr.cell? ⟨bp, 13, none⟩ = some (iv s.head) := hM.fld 13
      rw [hTv1] at f11
      rw [hSv1] at f12
      unfold iv at f13
      have z11 := hM.obj.frozen 11
      have z12 := hM.obj.frozen 12
      have z13 := hM.obj.frozen 13
      have M2 : Mem (wr.setCell ⟨bp, 11, none⟩ (.slice (some ⟨gT, 0, none⟩) t cT)) B bp ((s.bl (s.trail.take t) rsn hp pl).tr (s.trail.take t)) (upd F1 .trail ⟨ty .trail, .slice (some ⟨gT, 0, none⟩) t cT, (s.trail.map iv).take t⟩) :=
        hM.put .trail (grown_self _ _) (by
          have := hM.ownAt .trail (xs := s.trail.map iv) rfl
          rw [hTv1, List.length_map] at this
          have h2 := own_cut (m := t) this (by omega)
          have h3 : ((s.trail.map iv).take t).length = t := by simp; omega
          rw [h3]; exact h2) (.inl (by rw [hTv1]; rfl)) 11 (by simp) rfl (by simp [cont, SS.tr, SS.bl]) (by intro i hi; cases i <;> first | rfl | exact absurd rfl hi) rfl rfl rfl rfl
      have hSv2 : (upd F1 .trail ⟨ty .trail, .slice (some ⟨gT, 0, none⟩) t cT, (s.trail.map iv).take t⟩ .starts).v = .slice (some ⟨gS, 0, none⟩) s.starts.length cS := by rw [upd_other _ _ (by decide)]; exact hSv1
      have M3 : Mem ((wr.setCell ⟨bp, 11, none⟩ (.slice (some ⟨gT, 0, none⟩) t cT)).setCell ⟨bp, 12, none⟩ (.slice (some ⟨gS, 0, none⟩) b cS)) B bp (((s.bl (s.trail.take t) rsn hp pl).tr (s.trail.take t)).sts (s.starts.take b)) (upd (upd F1 .trail ⟨ty .trail, .slice (some ⟨gT, 0, none⟩) t cT, (s.trail.map iv).take t⟩) .starts ⟨ty .starts, .slice (some ⟨gS, 0, none⟩) b cS, (s.starts.map iv).take b⟩) :=
        M2.put .starts (grown_self _ _) (by
          have := M2.ownAt .starts (xs := s.starts.map iv) rfl
          rw [hSv2, List.length_map] at this
          have h2 := own_cut (m := b) this (by omega)
          have h3 : ((s.starts.map iv).take b).length = b := by simp; omega
          rw [h3]; exact h2) (.inl (by rw [hSv2]; rfl)) 12 (by simp) rfl (by simp [cont, SS.sts, SS.tr, SS.bl, SS.qu, SS.lrp, SS.val]) (by intro i hi; cases i <;> first | rfl | exact absurd rfl hi) rfl rfl rfl rfl
      have M4 := M3.field 13 (.int .i64 (t : Int)) (s' := s.bk t b rsn hp pl) rfl (by intro k; cases k <;> rfl) rfl rfl rfl rfl
      have HFIN : Hid (BackP B bp s F P t b w (((wr.setCell ⟨bp, 11, none⟩ (.slice (some ⟨gT, 0, none⟩) t cT)).setCell ⟨bp, 12, none⟩ (.slice (some ⟨gS, 0, none⟩) b cS)).setCell ⟨bp, 13, none⟩ (.int .i64 (t : Int)))) := Lib.hid ⟨rsn, hp, pl, _, M4, (((hb.setCell hB _).setCell hB _).setCell hB _), hQ.alike (fun u _ _ => by
        constructor
        · rintro (h | ⟨p, x, h1, h2, h3, h4⟩)
          · exact .inl h
          · exact .inr ⟨p, x, h1, h3, h4⟩
        · rintro (h | ⟨p, x, h1, h3, h4⟩)
          · exact .inl h
          · exact .inr ⟨p, x, h1, by have := at_lt h3; omega, h3, h4⟩), hr1, hr2, fun k k1 k2 k3 => by rw [upd_other _ _ k3, upd_other _ _ k2]; exact hK k k1⟩
      have hct : t ≤ cT := by omega
      have hcs : b ≤ cS := by omega
      clear M2 M3 M4 hM hK hb hQ hr1 hr2 hTv1 hVv1 hRv1 hSv1 hSv2
      go_wp2
      go_end0
      exact ⟨rfl, HFIN.out⟩
end
end Go.Proofs.YtojjjndhabjhdaaDoor.satM
namespace Go.Proofs.YtojjjndhabjhdaaDoor.satN
set_option linter.unusedSimpArgs false
set_option linter.unusedVariables false
open Go.ChangeShapes Go.WideShapes Go.ChangeAt Go.RowKit proofP proofQ owns satP satQ satR satA satF satB satC satD satE satG satH satI satJ satK satM

def _root_.Go.Proofs.YtojjjndhabjhdaaDoor.satA.SS.tm (s : SS) (tmp : Nat → List Nat) : SS := { s with tmp := tmp }
def _root_.Go.Proofs.YtojjjndhabjhdaaDoor.satA.SS.se (s : SS) (seen : Nat → Bool) : SS := { s with seen := seen }
/-- while a clause is learned -/
def _root_.Go.Proofs.YtojjjndhabjhdaaDoor.satA.SS.an (s : SS) (seen : Nat → Bool) (hp : List Nat) (pl : Nat → Int) (wt : List Value) (st : Value) (tmp : Nat → List Nat) : SS := { s with seen := seen, heap := hp, place := pl, weight := wt, step := st, tmp := tmp }
section
variable {w w' w1 w2 : World} {B bp : Nat} {s : SS} {F : Ix → Ent}
theorem _root_.Go.Proofs.YtojjjndhabjhdaaDoor.satA.Mem.setSeen (h : Mem w B bp s F) {g cap n : Nat} (hv : (F .seen).v = .slice (some ⟨g, 0, none⟩) n cap) (v : Nat) (b : Bool) :
    ∃ F', Mem (w.setCell ⟨g, v, none⟩ (.bool b)) B bp (s.se (updN s.seen v b)) F' ∧ fvs F' = fvs F :=
  ⟨_, (h.write hv v (.bool b) (s' := s.se (updN s.seen v b)) (updN_map (g := Value.bool) b) (by intro i hi; cases i <;> first | rfl | exact absurd rfl hi) rfl rfl rfl rfl rfl).1, fvs_set _ _ _⟩
/-- a row of the call's own is let go -/
theorem _root_.Go.Proofs.YtojjjndhabjhdaaDoor.satA.Mem.free (h : Mem w B bp s F) (j : Nat) : ∃ F', Mem w B bp (s.tm (updN s.tmp j [])) F' ∧ (F' (.tmp j)).v = .slice none 0 0 ∧ ∀ k, k ≠ .tmp j → (F' k).v = (F k).v :=
  ⟨_, h.keep (.tmp j) (v' := .slice none 0 0) (xs' := []) (grown_self _ _) (World.ownsRow_nil _ _ _ _) (.inr (.inl rfl)) (by simp) rfl (by show ((updN s.tmp j []) j).map iv = []; rw [updN_same]; rfl) (by
    intro i hi
    cases i <;> first
      | rfl
      | (show ((updN s.tmp j []) _).map iv = (s.tmp _).map iv
         rw [updN_other _ _ (fun e => hi (by rw [e]))])) rfl rfl rfl rfl, by rw [upd_same], fun k hk => by rw [upd_other _ _ hk]⟩
/-- .. is written -/
theorem _root_.Go.Proofs.YtojjjndhabjhdaaDoor.satA.Mem.setTmp (h : Mem w B bp s F) {j g cap n : Nat} (hv : (F (.tmp j)).v = .slice (some ⟨g, 0, none⟩) n cap) (i c : Nat) :
    ∃ F', Mem (w.setCell ⟨g, i, none⟩ (.int .i64 c)) B bp (s.tm (updN s.tmp j ((s.tmp j).set i c))) F' ∧ fvs F' = fvs F :=
  ⟨_, (h.write hv i (.int .i64 c) (s' := s.tm (updN s.tmp j ((s.tmp j).set i c))) (by
    show ((updN s.tmp j ((s.tmp j).set i c)) j).map iv = _
    rw [updN_same, List.map_set]; rfl) (by
    intro q hq
    cases q <;> first
      | rfl
      | (show ((updN s.tmp j ((s.tmp j).set i c)) _).map iv = (s.tmp _).map iv
         rw [updN_other _ _ (fun e => hq (by rw [e]))])) rfl rfl rfl rfl rfl).1, fvs_set _ _ _⟩
/-- .. is new -/
theorem _root_.Go.Proofs.YtojjjndhabjhdaaDoor.satA.Mem.newTmp (h : Mem w B bp s F) {j : Nat} {v : Value} {l : List Nat} (hn : (F (.tmp j)).v = .slice none 0 0) (hb : Below w.heap.size w w') (hr : w'.ownsRow w.heap.size 3 1 v l.length (l.map iv)) :
    ∃ F', Mem w' B bp (s.tm (updN s.tmp j l)) F' ∧ (F' (.tmp j)).v = v ∧ ∀ k, k ≠ .tmp j → (F' k).v = (F k).v :=
  ⟨_, h.adopt (.tmp j) (v := v) (xs := l.map iv) (by rw [hn]; rfl) hb (by rw [List.length_map]; exact hr) (by simp) rfl (by show ((updN s.tmp j l) j).map iv = _; rw [updN_same]) (by
    intro q hq
    cases q <;> first
      | rfl
      | (show ((updN s.tmp j l) _).map iv = (s.tmp _).map iv
         rw [updN_other _ _ (fun e => hq (by rw [e]))])) rfl rfl rfl rfl, by rw [upd_same], fun k hk => by rw [upd_other _ _ hk]⟩
/-- .. grows -/
theorem _root_.Go.Proofs.YtojjjndhabjhdaaDoor.satA.Mem.appTmp (h : Mem w B bp s F) {j n g' cap' : Nat} {c : Nat} (hn : (s.tmp j).length = n) (hb : Below w.heap.size w w1) (hown : w2.ownsRow B 3 1 (.slice (some ⟨g', 0, none⟩) (n + 1) cap') (n + 1) (cont s (fvs F) (.tmp j) ++ [.int .i64 c])) (hgrow : w1.grownBy w2 (F (.tmp j)).v.ownBlock) (hg1 : some g' = (F (.tmp j)).v.ownBlock ∨ w1.heap.size ≤ g') :
    ∃ F', Mem w2 B bp (s.tm (updN s.tmp j (s.tmp j ++ [c]))) F' ∧ (F' (.tmp j)).v = .slice (some ⟨g', 0, none⟩) (n + 1) cap' ∧ (∀ k, k ≠ .tmp j → (F' k).v = (F k).v) ∧ Below B w w2 := by
  have hBw : B ≤ w.heap.size := Nat.le_trans h.hB (Nat.le_of_lt h.obj.lt)
  refine ⟨_, (h.below hb).keep (.tmp j) (v' := .slice (some ⟨g', 0, none⟩) (n + 1) cap') (xs' := cont s (fvs F) (.tmp j) ++ [.int .i64 c]) hgrow (by
    have : (cont s (fvs F) (.tmp j) ++ [Value.int .i64 (c : Int)]).length = n + 1 := by simp [cont, hn]
    rw [this]; exact hown) (hg1.elim (fun e => .inl (show (Value.slice (some ⟨g', 0, none⟩) (n + 1) cap').ownBlock = _ from e)) (fun e => .inr (.inr ⟨g', rfl, e⟩))) (by simp) rfl (by show ((updN s.tmp j (s.tmp j ++ [c])) j).map iv = _; rw [updN_same]; simp [cont, iv]) (by
    intro q hq
    cases q <;> first
      | rfl
      | (show ((updN s.tmp j (s.tmp j ++ [c])) _).map iv = (s.tmp _).map iv
         rw [updN_other _ _ (fun e => hq (by rw [e]))])) rfl rfl rfl rfl, by rw [upd_same], fun k hk => by rw [upd_other _ _ hk], (hb.mono hBw).grown hgrow (by have := hb.size; omega) (fun i hi => ((h.own.1 (.tmp j)).lt i hi).1)⟩
/-- cells of the tables by variable -/
theorem _root_.Go.Proofs.YtojjjndhabjhdaaDoor.satA.Mem.seenAt (h : Mem w B bp s F) : ∃ g cap, (F .seen).v = .slice (some ⟨g, 0, none⟩) (s.V + 1) cap ∧ w.cell? ⟨bp, 14, none⟩ = some (.slice (some ⟨g, 0, none⟩) (s.V + 1) cap) ∧ (∀ v, v ≤ s.V → w.cell? ⟨g, v, none⟩ = some (.bool (s.seen v))) ∧ (∀ v, w.frozen? ⟨g, v, none⟩ = false) ∧ g ≠ bp ∧ B ≤ g ∧ g < w.heap.size := by
  obtain ⟨g, c, hv, q, z, n1, b1, l1, r1, k1, _⟩ := h.at .seen (n := s.V + 1) (by simp [cont]) (by omega)
  have f : w.cell? ⟨bp, 14, none⟩ = some (F .seen).v := h.fld 14
  rw [hv] at f
  exact ⟨g, c, hv, f, fun j hj => by rw [q j (by omega), show cont s (fvs F) .seen = (List.range (s.V + 1)).map fun v => .bool (s.seen v) from rfl, range_at (by omega)], z, n1, b1, l1⟩
theorem _root_.Go.Proofs.YtojjjndhabjhdaaDoor.satA.Mem.lvlAt (h : Mem w B bp s F) : ∃ g cap, (F .level).v = .slice (some ⟨g, 0, none⟩) (s.V + 1) cap ∧ w.cell? ⟨bp, 8, none⟩ = some (.slice (some ⟨g, 0, none⟩) (s.V + 1) cap) ∧ (∀ v, v ≤ s.V → w.cell? ⟨g, v, none⟩ = some (.int .i64 (s.lvl v : Nat))) ∧ g ≠ bp ∧ g < w.heap.size := by
  obtain ⟨g, c, hv, q, z, n1, b1, l1, r1, k1, _⟩ := h.at .level (n := s.V + 1) (by simp [cont]) (by omega)
  have f : w.cell? ⟨bp, 8, none⟩ = some (F .level).v := h.fld 8
  rw [hv] at f
  exact ⟨g, c, hv, f, fun j hj => by rw [q j (by omega), show cont s (fvs F) .level = (List.range (s.V + 1)).map fun v => iv (s.lvl v) from rfl, range_at (by omega)]; rfl, n1, l1⟩
theorem _root_.Go.Proofs.YtojjjndhabjhdaaDoor.satA.Mem.rsnAt (h : Mem w B bp s F) : ∃ g cap, (F .reason).v = .slice (some ⟨g, 0, none⟩) (s.V + 1) cap ∧ w.cell? ⟨bp, 9, none⟩ = some (.slice (some ⟨g, 0, none⟩) (s.V + 1) cap) ∧ (∀ v, v ≤ s.V → w.cell? ⟨g, v, none⟩ = some (rv s.rp (s.rsn v))) ∧ g ≠ bp ∧ g < w.heap.size := by
  obtain ⟨g, c, hv, q, z, n1, b1, l1, r1, k1, _⟩ := h.at .reason (n := s.V + 1) (by simp [cont]) (by omega)
  have f : w.cell? ⟨bp, 9, none⟩ = some (F .reason).v := h.fld 9
  rw [hv] at f
  exact ⟨g, c, hv, f, fun j hj => by rw [q j (by omega), show cont s (fvs F) .reason = (List.range (s.V + 1)).map fun v => rv s.rp (s.rsn v) from rfl, range_at (by omega)], n1, l1⟩
theorem _root_.Go.Proofs.YtojjjndhabjhdaaDoor.satA.Mem.trAt (h : Mem w B bp s F) (h0 : 0 < s.trail.length) : ∃ g cap, (F .trail).v = .slice (some ⟨g, 0, none⟩) s.trail.length cap ∧ w.cell? ⟨bp, 11, none⟩ = some (.slice (some ⟨g, 0, none⟩) s.trail.length cap) ∧ (∀ p, p < s.trail.length → w.cell? ⟨g, p, none⟩ = some (.int .i64 (s.trail.getD p 0 : Nat))) ∧ g ≠ bp ∧ g < w.heap.size := by
  obtain ⟨g, c, hv, q, z, n1, b1, l1, r1, k1, _⟩ := h.at .trail (n := s.trail.length) (by simp [cont]) h0
  have f : w.cell? ⟨bp, 11, none⟩ = some (F .trail).v := h.fld 11
  rw [hv] at f
  exact ⟨g, c, hv, f, fun j hj => by rw [q j (by omega), show cont s (fvs F) .trail = s.trail.map iv from rfl, getD_iv hj], n1, l1⟩
theorem _root_.Go.Proofs.YtojjjndhabjhdaaDoor.satA.Mem.stAt (h : Mem w B bp s F) : ∃ a cap, w.cell? ⟨bp, 12, none⟩ = some (.slice a s.starts.length cap) := by
  obtain ⟨aS, cS, hSv⟩ := h.own.value .starts
  rw [h.xs, show (cont s (fvs F) .starts).length = s.starts.length from by simp [cont]] at hSv
  exact ⟨aS, cS, (h.fld 12).trans (congrArg some hSv)⟩
end

/-- while the codes of a row are gone through, or a code is looked for; b: is one of the present level marked, or to come? -/
structure AR (B bp : Nat) (s : SS) (F : Ix → Ent) (cl : List (List Int)) (P : Nat → Prop) (w : World) (a code : Nat) (rest : List Nat) (no : Nat) (cv : Value) (wr : World) : Prop where
  ex : ∃ seen hp pl wt st tmp F' cs mk, Mem wr B bp (s.an seen hp pl wt st tmp) F' ∧ Ana s.trail s.starts s.lvl cl a code cs mk rest seen ∧ mk.length = no ∧ tmp 0 = 0 :: cs ∧ (F' (.tmp 0)).v = cv ∧ (∀ k, k ≠ .tmp 0 → (F' k).v = (F k).v) ∧ QI s.V P hp pl ∧ WF (s.an seen hp pl wt st tmp) ∧ Below B w wr ∧
    (mk ≠ [] ∨ ∃ y, y ∈ rest ∧ y ≠ code ∧ s.lvl (y / 2) = s.starts.length)
end Go.Proofs.YtojjjndhabjhdaaDoor.satN
namespace Go.Proofs.YtojjjndhabjhdaaDoor.cls
set_option linter.unusedSimpArgs false
set_option linter.unusedVariables false
open Go.ChangeShapes Go.WideShapes Go.ChangeAt Go.RowKit owns

def In64 (z : Int) : Prop := -9223372036854775808 ≤ z ∧ z ≤ 9223372036854775807
def IntsAt (w : World) (B : Nat) (v : Value) (l : List Int) : Prop :=
  ∃ ao cap b off, v = .slice ao l.length cap ∧ l.length ≤ maxLen ∧ (l ≠ [] → ao = some ⟨b, off, none⟩ ∧ b < B) ∧ (∀ i, i < l.length → w.cell? ⟨b, off + i, none⟩ = some (.int .i64 (l.getD i 0))) ∧ ∀ x ∈ l, In64 x
def ClsAt (w : World) (B : Nat) (v : Value) (cl : List (List Int)) : Prop :=
  ∃ ao cap b off, ∃ vs : Nat → Value, v = .slice ao cl.length cap ∧ cl.length ≤ maxLen ∧ (cl ≠ [] → ao = some ⟨b, off, none⟩ ∧ b < B) ∧ (∀ i, i < cl.length → w.cell? ⟨b, off + i, none⟩ = some (vs i)) ∧ ∀ i, i < cl.length → IntsAt w B (vs i) (cl.getD i [])

theorem IntsAt.keep {w w' : World} {B : Nat} {v : Value} {l : List Int} (h : IntsAt w B v l) (hb : Below B w w') : IntsAt w' B v l := by
  obtain ⟨ao, cap, b, off, rfl, hm, ha, hc, hs⟩ := h
  refine ⟨ao, cap, b, off, rfl, hm, ha, fun i hi => ?_, hs⟩
  rw [hb.cell (show (⟨b, off + i, none⟩ : Addr).block < B from (ha (by intro h0; rw [h0] at hi; simp at hi)).2)]
  exact hc i hi
theorem IntsAt.mono {w : World} {B B' : Nat} (hB : B ≤ B') {v : Value} {l : List Int} (h : IntsAt w B v l) : IntsAt w B' v l := by
  obtain ⟨ao, cap, b, off, rfl, hm, ha, hc, hs⟩ := h
  exact ⟨ao, cap, b, off, rfl, hm, fun h => ⟨(ha h).1, by have := (ha h).2; omega⟩, hc, hs⟩
theorem ClsAt.keep {w w' : World} {B : Nat} {v : Value} {l : List (List Int)} (h : ClsAt w B v l) (hb : Below B w w') : ClsAt w' B v l := by
  obtain ⟨ao, cap, b, off, vs, rfl, hm, ha, hc, hs⟩ := h
  refine ⟨ao, cap, b, off, vs, rfl, hm, ha, fun i hi => ?_, fun i hi => (hs i hi).keep hb⟩
  rw [hb.cell (show (⟨b, off + i, none⟩ : Addr).block < B from (ha (by intro h0; rw [h0] at hi; simp at hi)).2)]
  exact hc i hi
theorem ClsAt.mono {w : World} {B B' : Nat} (hB : B ≤ B') {v : Value} {l : List (List Int)} (h : ClsAt w B v l) : ClsAt w B' v l := by
  obtain ⟨ao, cap, b, off, vs, rfl, hm, ha, hc, hs⟩ := h
  exact ⟨ao, cap, b, off, vs, rfl, hm, fun h => ⟨(ha h).1, by have := (ha h).2; omega⟩, hc, fun i hi => (hs i hi).mono hB⟩
theorem IntsAt.in64 {w : World} {B : Nat} {v : Value} {l : List Int} (h : IntsAt w B v l) : ∀ x ∈ l, In64 x := by
  obtain ⟨ao, cap, b, off, rfl, hm, ha, hc, hs⟩ := h; exact hs
/-- a row of the call's own, read as integers -/
theorem IntsAt.ofRow {w : World} {B : Nat} {e : TypeId} {v : Value} {l : List Int} (h : w.ownsRow B e 1 v l.length (l.map (Value.int .i64))) (hs : ∀ x ∈ l, In64 x) : IntsAt w w.heap.size v l := by
  rcases h.2 with ⟨rfl, h0⟩ | ⟨g, cap, cur, rfl, hb, hg, hn, hm, hc, ht⟩
  · obtain rfl : l = [] := List.length_eq_zero_iff.1 h0
    exact ⟨none, 0, 0, 0, rfl, Nat.zero_le _, fun h => absurd rfl h, fun i hi => absurd hi (Nat.not_lt_zero _), by simp⟩
  · refine ⟨_, cap, g, 0, rfl, by omega, fun _ => ⟨rfl, (Array.getElem?_eq_some_iff.1 hg).1⟩, fun i hi => ?_, hs⟩
    have := World.ownsRow.cellAt h i (by omega)
    rw [Nat.zero_add, this, List.getElem?_map, List.getElem?_eq_getElem hi, List.getD_eq_getElem?_getD, List.getElem?_eq_getElem hi]; rfl
/-- a row of the call's own, read as clauses -/
theorem ClsAt.ofRow {w : World} {B : Nat} {e : TypeId} {v : Value} {l : List (List Int)} {vl : List Value} (h : w.ownsRow B e 1 v l.length vl) (hs : ∀ i, i < l.length → IntsAt w w.heap.size (vl.getD i undef) (l.getD i [])) : ClsAt w w.heap.size v l := by
  have hlen : vl.length = l.length := by have := h.1; omega
  rcases h.2 with ⟨rfl, h0⟩ | ⟨g, cap, cur, rfl, hb, hg, hn, hm, hc, ht⟩
  · obtain rfl : l = [] := List.length_eq_zero_iff.1 h0
    exact ⟨none, 0, 0, 0, fun _ => undef, rfl, Nat.zero_le _, fun h => absurd rfl h, fun i hi => absurd hi (Nat.not_lt_zero _), fun i hi => absurd hi (Nat.not_lt_zero _)⟩
  · refine ⟨_, cap, g, 0, fun i => vl.getD i undef, rfl, by omega, fun _ => ⟨rfl, (Array.getElem?_eq_some_iff.1 hg).1⟩, fun i hi => ?_, hs⟩
    have := World.ownsRow.cellAt h i (by omega)
    rw [Nat.zero_add, this, List.getElem?_eq_getElem (by omega)]
    dsimp only
    rw [List.getD_eq_getElem?_getD, List.getElem?_eq_getElem (by omega)]; rfl
end Go.Proofs.YtojjjndhabjhdaaDoor.cls
namespace Go.Proofs.YtojjjndhabjhdaaDoor.satU
set_option linter.unusedSimpArgs false
set_option linter.unusedVariables false
open Go.ChangeShapes Go.WideShapes Go.ChangeAt Go.RowKit proofP proofQ owns cls satP satQ satR satA satF satB satC satD satE satG satH satI satJ satK satM satN
attribute [local go_sem ↓] Go.wp_at_zero Go.wp_at_succ

theorem run_enter {P : Program} {f : FuncId} {fn : Func} (hf : P.funcs[f]? = some fn) (hname : (fn.name == "runtime.NumGoroutine") = false) (hb : fn.body.isSome = true) (args : Array Value) (w : World) :
    (callFunc f args).run P w = .ok (.enter f args) w := by
  have h1 : fn.name ≠ "runtime.NumGoroutine" := by simpa using hname
  obtain ⟨c, hc⟩ := Option.isSome_iff_exists.1 hb
  simp [callFunc, hf, h1, hc]
/-- is a code of a row in the way? -/
def stop (s : SS) (c y : Nat) : Bool := decide (y / 2 ≠ c / 2) && (decide (0 < s.lvl (y / 2)) && !s.seen (y / 2))
section
variable {w w' : World} {B bp : Nat} {s : SS} {F : Ix → Ent}
set_option maxRecDepth 100000 in
theorem stop_any (h : Mem w B bp s F) (hV : s.V ≤ 20000) (c y b1 b2 : Nat) (hy : y < 2 * s.V + 2) (h1 : w.cell? ⟨b1, 0, none⟩ = some (.int .i64 c)) (h2 : w.cell? ⟨b2, 0, none⟩ = some (.pointer (some ⟨bp, 0, none⟩))) :
    Calls Tryd.prog 94 #[.int .i64 y, .pointer (some ⟨b1, 0, none⟩), .pointer (some ⟨b2, 0, none⟩)] w fun e w' => e = .returned (.bool (stop s c y)) ∧ w' = w := by
  obtain ⟨gL, cL, _, f8, qL, nL, lL⟩ := h.lvlAt
  obtain ⟨gS, cS, _, f14, qS, _, nS, _, lS⟩ := h.seenAt
  have q1 := qL (y / 2) (by omega)
  have q2 := qS (y / 2) (by omega)
  have hv : y / 2 < s.V + 1 := by omega
  unfold stop
  clear h qL qS
  generalize s.seen (y / 2) = sn at *
  by_cases e1 : y / 2 = c / 2
  · have hb : ((y : Int) / 2 != (c : Int) / 2) = false := by
      have : (y : Int) / 2 = (c : Int) / 2 := by omega
      simp [this]
    have hr : (decide (y / 2 ≠ c / 2)) = false := by simp [e1]
    rw [hr]
    clear e1 hr
    go_enter Tryd.func94, Tryd.ntmps94
    go_wp2
    go_ret
    exact ⟨rfl, rfl⟩
  · have hb : ((y : Int) / 2 != (c : Int) / 2) = true := by
      have : (y : Int) / 2 ≠ (c : Int) / 2 := by omega
      simp [this]
    have hr : (decide (y / 2 ≠ c / 2)) = true := by simp [e1]
    rw [hr]
    clear e1 hr
    by_cases e2 : 0 < s.lvl (y / 2)
    · rw [decide_eq_true e2]
      have e2I : (0 : Int) < (s.lvl (y / 2) : Int) := by omega
      generalize s.lvl (y / 2) = l at *
      go_enter Tryd.func94, Tryd.ntmps94
      go_wp2
      go_ret
      exact ⟨rfl, rfl⟩
    · rw [decide_eq_false e2]
      have e2I : ¬ (0 : Int) < (s.lvl (y / 2) : Int) := by omega
      generalize s.lvl (y / 2) = l at *
      go_enter Tryd.func94, Tryd.ntmps94
      go_wp2
      go_ret
      exact ⟨rfl, rfl⟩
end
set_option maxHeartbeats 1000000 in
set_option maxRecDepth 100000 in
/-- slices.IndexFunc of a closure that does what p says -/
theorem index_any {w : World} {B : Nat} {av : Value} {l : List Int} (fid : FuncId) (k1 k2 : Value) (p : Int → Bool) (hcf : ∀ x w, (callFunc fid #[.int .i64 x, k1, k2]).run Tryd.prog w = .ok (.enter fid #[.int .i64 x, k1, k2]) w) (ha : IntsAt w B av l) (hB : B ≤ w.heap.size)
    (hc : ∀ x, x ∈ l → ∀ w1, Below w.heap.size w w1 → Calls Tryd.prog fid #[.int .i64 x, k1, k2] w1 fun e w' => e = .returned (.bool (p x)) ∧ Below w1.heap.size w1 w') :
    Calls Tryd.prog 49 #[av, .func (.func fid) #[] #[k1, k2]] w fun e w' => (∃ z : Int, e = .returned (.int .i64 z) ∧ decide (0 ≤ z) = l.any p) ∧ Below w.heap.size w w' := by
  have HCC := Lib.hid hc
  obtain ⟨ao, cap, b, off, rfl, hcm, ha, hc, h64⟩ := ha
  have HA := Lib.hid ha
  have HC := Lib.hid hc
  unfold maxLen at hcm
  clear ha hc h64
  go_enter Tryd.func49, Tryd.ntmps49
  go_wp2
  go_loopw [8] (fun it wr => ∃ k : Nat, k ≤ l.length ∧ it = .int .i64 k ∧ Below w.heap.size w wr ∧ Hid (∀ j, j < k → p (l.getD j 0) = false)) (fun it _ => l.length - (intOf it).toNat)
  case atStart => exact ⟨0, Nat.zero_le _, rfl, Below.refl _ _, Lib.hid (fun j hj => absurd hj (Nat.not_lt_zero _))⟩
  case round =>
    obtain ⟨k, hk, rfl, hb, hg⟩ := hrel
    have HB := Lib.hid hb
    have hws := hb.size
    by_cases hlt : k < l.length
    · obtain ⟨rfl, hbB⟩ := HA.out (by intro h0; rw [h0] at hlt; simp at hlt)
      have q : wr.cell? ⟨b, off + k, none⟩ = some (.int .i64 (l.getD k 0)) := by rw [hb.cell (show (⟨b, off + k, none⟩ : Addr).block < w.heap.size from by show b < _; omega)]; exact HC.out k hlt
      have hmem : l.getD k 0 ∈ l := by rw [List.getD_eq_getElem?_getD, List.getElem?_eq_getElem hlt]; exact List.getElem_mem hlt
      have HCL := Lib.hid (HCC.out _ hmem wr hb)
      have HT : Hid (p (l.getD k 0) = true → l.any p = true) := Lib.hid (fun h => List.any_eq_true.2 ⟨_, hmem, h⟩)
      have HF : Hid (p (l.getD k 0) = false → ∀ j, j < k + 1 → p (l.getD j 0) = false) := Lib.hid (fun h j hj => by
        by_cases e : j = k
        · rw [e]; exact h
        · exact hg.out j (by omega))
      generalize p (l.getD k 0) = r at *
      generalize l.getD k 0 = x at *
      clear hb hg hmem
      cases r
      · have HF2 := Lib.hid (HF.out rfl)
        clear HF HT
        go_wp2_with fail
        refine HCL.out.mono ?_
        rintro e w1 ⟨rfl, hb1⟩
        have HB1 := Lib.hid (HB.out.trans (hb1.mono hws))
        clear hb1
        go_wp2
        go_roundw
        case rel => exact ⟨k + 1, by omega, by go_num, HB1.out, HF2⟩
        case measure => simp [intOf]; omega
      · have HT2 := Lib.hid (HT.out rfl)
        clear HF HT
        go_wp2_with fail
        refine HCL.out.mono ?_
        rintro e w1 ⟨rfl, hb1⟩
        have HB1 := Lib.hid (HB.out.trans (hb1.mono hws))
        clear hb1
        go_wp2
        go_ret
        exact ⟨⟨_, rfl, by rw [HT2.out, decide_eq_true (by omega)]⟩, HB1.out⟩
    · obtain rfl : k = l.length := by omega
      have HE : Hid (l.any p = false) := Lib.hid (by
        rw [List.any_eq_false]
        intro c hl
        obtain ⟨j, hj, rfl⟩ := List.mem_iff_getElem.1 hl
        have := hg.out j hj
        rw [List.getD_eq_getElem?_getD, List.getElem?_eq_getElem hj] at this
        simpa using this)
      clear hg hb
      go_wp2
      go_ret
      exact ⟨⟨-1, rfl, by rw [HE.out]; rfl⟩, HB.out⟩
theorem contains_any {w : World} {B : Nat} {av : Value} {l : List Int} (fid : FuncId) (k1 k2 : Value) (p : Int → Bool) (hcf : ∀ x w, (callFunc fid #[.int .i64 x, k1, k2]).run Tryd.prog w = .ok (.enter fid #[.int .i64 x, k1, k2]) w) (ha : IntsAt w B av l) (hB : B ≤ w.heap.size)
    (hc : ∀ x, x ∈ l → ∀ w1, Below w.heap.size w w1 → Calls Tryd.prog fid #[.int .i64 x, k1, k2] w1 fun e w' => e = .returned (.bool (p x)) ∧ Below w1.heap.size w1 w') :
    Calls Tryd.prog 25 #[av, .func (.func fid) #[] #[k1, k2]] w fun e w' => e = .returned (.bool (l.any p)) ∧ Below w.heap.size w w' := by
  have HI := Lib.hid (index_any fid k1 k2 p hcf ha hB hc)
  obtain ⟨ao, cap, b, off, rfl, hcm, _, _, _⟩ := ha
  clear hc hcf
  go_enter Tryd.func25, Tryd.ntmps25
  go_wp2_with fail
  refine HI.out.mono ?_
  rintro e w1 ⟨⟨z, rfl, hz⟩, hb⟩
  have HB := Lib.hid hb
  have HZ := Lib.hid hz
  clear hb HI
  clear hz
  go_wp2
  go_ret
  exact ⟨by rw [← HZ.out]; rfl, HB.out⟩

section
variable {w w' : World} {B bp : Nat} {s : SS} {F : Ix → Ent}
/-- does a code follow from the others? -/
def folB (s : SS) (c : Nat) : Bool := match s.rsn (c / 2) with
  | none => false
  | some i => !((s.row i).any (stop s c))
theorem folB_true {s : SS} {c : Nat} (h : folB s c = true) : Folw s.row s.lvl s.rsn s.seen c := by
  unfold folB at h
  split at h
  · cases h
  · rename_i i hi
    refine ⟨i, hi, fun y hy hs => ?_⟩
    rw [Bool.not_eq_true', List.any_eq_false] at h
    have := h y hy
    unfold stop at this
    rw [decide_eq_true hs.1, decide_eq_true hs.2.1, hs.2.2] at this
    simp at this
theorem row_ints (h : Mem w B bp s F) {i : Nat} (hr : ∀ x, x ∈ s.row i → x < 2 * s.V + 2) (hV : s.V ≤ 20000) : IntsAt w w.heap.size (F (.row i)).v ((s.row i).map fun x : Nat => (x : Int)) := by
  have := h.ownAt (.row i) (xs := (s.row i).map iv) rfl
  have e : (s.row i).map iv = ((s.row i).map fun x : Nat => (x : Int)).map (Value.int .i64) := by rw [List.map_map]; rfl
  rw [e] at this
  refine IntsAt.ofRow (by simpa using this) (fun x hx => ?_)
  obtain ⟨y, hy, rfl⟩ := List.mem_map.1 hx
  have := hr y hy
  unfold In64; omega
set_option maxHeartbeats 1000000 in
set_option maxRecDepth 100000 in
theorem follow_any (h : Mem w B bp s F) (hV : s.V ≤ 20000) (c b2 : Nat) (hc : c < 2 * s.V + 2) (hR : ∀ i, i < s.n → ∀ x, x ∈ s.row i → x < 2 * s.V + 2) (hrb : ∀ i, s.rsn (c / 2) = some i → i < s.n) (h2 : w.cell? ⟨b2, 0, none⟩ = some (.pointer (some ⟨bp, 0, none⟩))) (hb2 : b2 < w.heap.size) :
    Calls Tryd.prog 93 #[.int .i64 c, .pointer (some ⟨b2, 0, none⟩)] w fun e w' => e = .returned (.bool (folB s c)) ∧ Below w.heap.size w w' := by
  obtain ⟨gR, cR, _, f9, qR, nR, lR⟩ := h.rsnAt
  have q1 := qR (c / 2) (by omega)
  have hv : c / 2 < s.V + 1 := by omega
  have hbl := h.obj.lt
  have hba : Below w.heap.size w (w.alloc (.cells #[.int .i64 c] 3)) := (Below.refl _ _).alloc (Nat.le_refl _) _
  have HBA := Lib.hid hba
  have f9' := (hba.cell (show (⟨bp, 9, none⟩ : Addr).block < _ from hbl)).trans f9
  have q1' := (hba.cell (show (⟨gR, c / 2, none⟩ : Addr).block < _ from lR)).trans q1
  have h2' := (hba.cell (show (⟨b2, 0, none⟩ : Addr).block < _ from hb2)).trans h2
  have hM := h.below hba
  unfold folB
  cases hr : s.rsn (c / 2) with
  | none =>
    rw [hr] at q1'
    unfold rv at q1'
    dsimp only
    clear h hM qR hba q1 hr
    go_enter Tryd.func93, Tryd.ntmps93
    go_wp2
    go_region
    go_wp2
    go_ret
    exact ⟨rfl, HBA.out.drew⟩
  | some i =>
    rw [hr] at q1'
    have hi := hrb i hr
    obtain ⟨r0, _, _, lR2, _⟩ := h.obji hi
    have r0' := (hba.cell (show (⟨s.rp i, 0, none⟩ : Addr).block < _ from lR2)).trans r0
    have hM2 := hM.below (Below.refl _ _).drew
    have hI := row_ints hM2 (hR i hi) hV
    have hsz : w.heap.size < (w.alloc (.cells #[.int .i64 c] 3)).drew.heap.size := by show w.heap.size < (w.alloc _).heap.size; simp
    have HCT := Lib.hid (contains_any 94 (.pointer (some ⟨w.heap.size, 0, none⟩)) (.pointer (some ⟨b2, 0, none⟩)) (fun x => stop s c x.toNat) (fun x w => run_enter Tryd.func94 (by kernel_rfl) (by kernel_rfl) _ _) hI (Nat.le_refl _) (fun x hx w1 hb1 => by
      obtain ⟨y, hy, rfl⟩ := List.mem_map.1 hx
      refine (stop_any (hM2.below hb1) hV c y w.heap.size b2 (hR i hi y hy) ?_ ?_).mono ?_
      · rw [hb1.cell (show (⟨w.heap.size, 0, none⟩ : Addr).block < _ from hsz)]
        show (w.alloc _).cell? _ = _
        simp
      · rw [hb1.cell (show (⟨b2, 0, none⟩ : Addr).block < _ from by show b2 < _; omega)]
        exact h2'
      · rintro e w2 ⟨he, rfl⟩
        exact ⟨by rw [he]; simp, Below.refl _ _⟩))
    have HE : Hid ((((s.row i).map fun x : Nat => (x : Int)).any fun x => stop s c x.toNat) = (s.row i).any (stop s c)) := Lib.hid (by rw [List.any_map]; congr 1)
    rw [HE.out] at HCT
    unfold rv pv at q1'
    dsimp only at q1' ⊢
    generalize (s.row i).any (stop s c) = r at *
    generalize (F (.row i)).v = rvv at *
    clear h hM hM2 hI qR hba q1 hr r0
    go_enter Tryd.func93, Tryd.ntmps93
    go_wp2
    go_region
    go_wp2_with fail
    refine HCT.out.mono ?_
    rintro e w3 ⟨rfl, hb3⟩
    have HB3 := Lib.hid (HBA.out.drew.trans (hb3.mono (Nat.le_of_lt hsz)))
    clear hb3 HCT
    go_wp2
    go_ret
    exact ⟨rfl, HB3.out⟩
end
end Go.Proofs.YtojjjndhabjhdaaDoor.satU
