/-
  Contract of (*prover).plain.
-/
import Derived.Test.YtojjjndhabjhdaaProofG
namespace Go.Proofs.Ytojjjndhabjhdaa.proofH
set_option linter.unusedSimpArgs false
set_option linter.unusedVariables false
open Go.ChangeShapes Go.WideShapes Go.ChangeAt Go.RowKit proofP proofQ owns proofA proofB proofC proofD proofE proofF proofG cls

def zval (T : List Nat) (k c : Nat) : Int := if c ∈ T.take k ∨ opp c ∈ T.take k then 0 else val T c
def zcells (T : List Nat) (nv k : Nat) : List Value := (List.range nv).map fun c => .int .i8 (zval T k c)
theorem zcells_zero (T : List Nat) (nv : Nat) : zcells T nv 0 = (List.range nv).map fun c => .int .i8 (val T c) := by
  unfold zcells; apply List.map_congr_left; intro c _; unfold zval; rw [if_neg (by simp)]
theorem zcells_all (T : List Nat) (nv : Nat) : zcells T nv T.length = (List.range nv).map fun c => .int .i8 (val [] c) := by
  unfold zcells; apply List.map_congr_left; intro c _
  unfold zval
  rw [List.take_length]
  have : val [] c = 0 := val_zero (by simp) (by simp)
  rw [this]
  split
  · rfl
  · rename_i h; rw [val_zero (fun h' => h (.inl h')) (fun h' => h (.inr h'))]
theorem zcells_step {T : List Nat} {nv k : Nat} (hk : k < T.length) : ((zcells T nv k).set (T.getD k 0) (.int .i8 0)).set (opp (T.getD k 0)) (.int .i8 0) = zcells T nv (k + 1) := by
  have hg : T.getD k 0 = T[k] := by rw [List.getD_eq_getElem?_getD, List.getElem?_eq_getElem hk]; rfl
  unfold zcells
  apply List.ext_getElem?
  intro j
  rw [List.getElem?_set, List.getElem?_set]
  simp only [List.length_set, List.length_map, List.length_range, List.getElem?_map]
  by_cases hj : j < nv
  · rw [List.getElem?_range hj]
    simp only [Option.map_some]
    have hz : zval T (k + 1) j = if opp (T.getD k 0) = j then 0 else if T.getD k 0 = j then 0 else zval T k j := by
      unfold zval
      rw [List.take_succ_eq_append_getElem hk, ← hg]
      by_cases e2 : opp (T.getD k 0) = j
      · rw [if_pos e2, if_pos (.inr (by rw [← e2, opp_opp]; simp))]
      · rw [if_neg e2]
        by_cases e1 : T.getD k 0 = j
        · rw [if_pos e1, if_pos (.inl (by rw [← e1]; simp))]
        · rw [if_neg e1]
          have n1 : ¬ (j = T.getD k 0) := fun e => e1 e.symm
          have n2 : ¬ (opp j = T.getD k 0) := fun e => e2 (by rw [← e, opp_opp])
          simp only [List.mem_append, List.mem_singleton, n1, n2, or_false]
    rw [hz]
    by_cases e2 : opp (T.getD k 0) = j
    · rw [if_pos e2, if_pos (by omega), if_pos e2]
    · rw [if_neg e2, if_neg e2]
      by_cases e1 : T.getD k 0 = j
      · rw [if_pos e1, if_pos (by omega), if_pos e1]
      · rw [if_neg e1, if_neg e1]
  · rw [List.getElem?_eq_none (by simp; omega)]
    by_cases e2 : opp (T.getD k 0) = j
    · rw [if_pos e2, if_neg (by omega)]; rfl
    · rw [if_neg e2]
      by_cases e1 : T.getD k 0 = j
      · rw [if_pos e1, if_neg (by omega)]; rfl
      · rw [if_neg e1]; rfl

/-- while values are made open again -/
def ZRel (B bp : Nat) (lv va : Value) (first nv : Nat) (s : PS) (F : Ix → Ent) (w : World) (k : Nat) (wr : World) : Prop :=
  Owns wr B (upd F .value ⟨(F .value).e, (F .value).v, zcells s.trail nv k⟩) ∧ Whole wr bp 68 [lv, iv first, (F .rows).v, (F .on).v, va, (F .short).v, (F .watches).v, (F .value).v, (F .trail).v] ∧ Below B w wr

theorem z_mem {w wr : World} {B bp : Nat} {lv va tv : Value} {first nv : Nat} {s : PS} {F : Ix → Ent} (h : Mem w B bp lv va first nv s F) (hz : ZRel B bp lv va first nv s F w s.trail.length wr) (hown : wr.ownsRow B 3 1 tv 0 []) (htv : tv.ownBlock = (F .trail).v.ownBlock ∨ tv.ownBlock = none) :
    Mem (wr.setCell ⟨bp, 8, none⟩ tv) B bp lv va first nv { s with trail := [] } (upd (upd F .value ⟨(F .value).e, (F .value).v, zcells s.trail nv s.trail.length⟩) .trail ⟨3, tv, []⟩) := by
  obtain ⟨ho, hw, hb⟩ := hz
  have hne : tv.ownBlock ≠ some bp := by
    rcases htv with e | e
    · rw [e]; exact h.ne .trail
    · rw [e]; simp
  have O1 := ho.step .trail ⟨3, tv, []⟩ (w' := wr) ⟨rfl, rfl, rfl, Nat.le_refl _, fun _ _ _ => rfl⟩ hown (by
    rw [upd_other _ _ (by decide)]
    rcases htv with e | e
    · exact .inl e
    · exact .inr (.inl e))
  obtain ⟨hw', hg'⟩ := hw.set 8 tv
  have hnk : ∀ k, (upd (upd F .value ⟨(F .value).e, (F .value).v, zcells s.trail nv s.trail.length⟩) .trail ⟨3, tv, []⟩ k).v.ownBlock ≠ some bp := by
    intro k
    by_cases e : k = .trail
    · subst e; rw [upd_same]; exact hne
    · rw [upd_other _ _ e]
      by_cases e2 : k = .value
      · subst e2; rw [upd_same]; exact h.ne .value
      · rw [upd_other _ _ e2]; exact h.ne k
  refine ⟨O1.apart hg' (fun k b hk e => hnk k (by rw [hk]; exact e.symm)), ?_, h.hx, hnk, fun k => ?_, ?_, ?_, ?_, ?_, ?_, ?_, fun i => ?_, fun i => ?_⟩
  · simpa [upd] using hw'
  · by_cases e : k = .trail
    · subst e; rw [upd_same]; rfl
    · rw [upd_other _ _ e]
      by_cases e2 : k = .value
      · subst e2; rw [upd_same]; exact h.te .value
      · rw [upd_other _ _ e2]; exact h.te k
  · simp [upd, h.on]
  · simp [upd, h.short]
  · simp [upd, h.rows]
  · simp [upd, h.watches]
  · rw [upd_other _ _ (by decide), upd_same]
    exact zcells_all _ _
  · simp [upd]
  · simp [upd, h.row]
  · simp [upd, h.watch]
theorem z_step {w wr : World} {B bp : Nat} {lv va : Value} {first nv : Nat} {s : PS} {F : Ix → Ent} {k gV capV : Nat} (h : Mem w B bp lv va first nv s F) (hz : ZRel B bp lv va first nv s F w k wr) (hk : k < s.trail.length) (hV : (F .value).v = .slice (some ⟨gV, 0, none⟩) nv capV) (hgV : gV ≠ bp) (hBV : B ≤ gV) :
    ZRel B bp lv va first nv s F w (k + 1) ((wr.setCell ⟨gV, s.trail.getD k 0, none⟩ (.int .i8 0)).setCell ⟨gV, opp (s.trail.getD k 0), none⟩ (.int .i8 0)).drew := by
  obtain ⟨ho, hw, hb⟩ := hz
  obtain ⟨O1, G1⟩ := ho.set2 (k := .value) (by rw [upd_same]; exact hV) (s.trail.getD k 0) (opp (s.trail.getD k 0)) (.int .i8 0) (.int .i8 0)
  refine ⟨(O1.drew.alike fun j => ?_), (hw.kept G1 (by intro e; cases e; exact hgV rfl)).below (Below.refl _ _).drew (by simpa using hw.lt), ((hb.setCell hBV _).setCell hBV _).drew⟩
  by_cases e : j = .value
  · subst e; rw [upd_same, upd_same, upd_same]; dsimp only; rw [zcells_step hk]
  · rw [upd_other _ _ e, upd_other _ _ e, upd_other _ _ e]

def PlainP (B bp : Nat) (lv : Value) (first nv : Nat) (s : PS) (cls : Nat → List Int) (b : Bool) (w : World) (e : Ending) (w' : World) : Prop :=
  e = .returned (.bool b) ∧ ∃ s' va F', Mem w' B bp lv va first nv s' F' ∧ Below B w w' ∧ Same s s' ∧ PGood s' cls ∧ s'.trail = []

theorem clash_b (B bp : Nat) (lv va : Value) (first nv : Nat) (s : PS) (F : Ix → Ent) (w : World) (cls : Nat → List Int) (cl : List (List Int)) (cv : Value) (c : List Int) (h : Mem w B bp lv va first nv s F) (G : PGood s cls) (hnv : Hid (nv = 40002)) (hc : IntsEx w B s.extra cv c) (hcl : c.length ≤ 100000)
    (htr : s.trail = []) (hon : ∀ i, i < s.n → s.on i = true → cls i ∈ cl) (hcl' : ∀ c, c ∈ cl → ∃ i, i < s.n ∧ s.on i = true ∧ cls i = c) (hsl : s.short.length ≤ 100000) :
    Calls Try.prog 44 #[.pointer (some ⟨bp, 0, none⟩), cv] w fun e w' => e = .returned (.bool (pl cl c)) ∧ ∃ s' va F', Mem w' B bp lv va first nv s' F' ∧ Below B w w' ∧ Same s s' ∧ PGood s' cls := by
  refine (clash_any B bp lv va first nv s F w cls cl cv c h G hnv hc hcl htr hon hcl' hsl).mono ?_
  rintro e w' ⟨s', va', F', hM, hb, hs, hG, (⟨rfl, hC⟩ | ⟨rfl, hC⟩)⟩
  · exact ⟨by rw [pl_iff.2 hC], s', va', F', hM, hb, hs, hG⟩
  · exact ⟨by rw [pl_no.2 hC], s', va', F', hM, hb, hs, hG⟩

set_option maxHeartbeats 4000000 in
set_option maxRecDepth 100000 in
theorem plain_any (B bp : Nat) (lv va : Value) (first nv : Nat) (s : PS) (F : Ix → Ent) (w : World) (cls : Nat → List Int) (cl : List (List Int)) (cv : Value) (c : List Int) (h : Mem w B bp lv va first nv s F) (G : PGood s cls) (hnv : Hid (nv = 40002)) (hc : IntsEx w B s.extra cv c) (hcl : c.length ≤ 100000)
    (htr : s.trail = []) (hon : ∀ i, i < s.n → s.on i = true → cls i ∈ cl) (hcl' : ∀ c, c ∈ cl → ∃ i, i < s.n ∧ s.on i = true ∧ cls i = c) (hsl : s.short.length ≤ 100000) :
    Calls Try.prog 30 #[.pointer (some ⟨bp, 0, none⟩), cv] w (PlainP B bp lv first nv s cls (pl cl c) w) := by
  have HCB := Lib.hid (clash_b B bp lv va first nv s F w cls cl cv c h G hnv hc hcl htr hon hcl' hsl)
  obtain ⟨ao, cap, b, off, rfl, hm, ha, hcell, h64⟩ := hc
  clear h G ha hcell h64 htr hon hcl' hm
  generalize pl cl c = r at *
  go_enter Try.func30, Try.ntmps30
  go_wp2_with fail
  refine HCB.out.mono ?_
  rintro e w1 ⟨rfl, s1, va1, F1, hM, hb, hs, G⟩
  have HM := Lib.hid hM
  have HB := Lib.hid hb
  have HS := Lib.hid hs
  have HG := Lib.hid G
  have htl : s1.trail.length ≤ 100000 := Nat.le_trans G.ti.len (by omega)
  have hxs : (F1 .trail).xs.length = s1.trail.length := by rw [hM.trail, List.length_map]
  obtain ⟨f0, f1, f2, f3, f5, f6, f7, f8⟩ := hM.field
  have HZ0 : Hid (ZRel B bp lv va1 first nv s1 F1 w1 0 w1) := Lib.hid ⟨hM.own.alike (fun j => by
    by_cases e : j = .value
    · subst e; rw [upd_same, zcells_zero, ← hM.value]
    · rw [upd_other _ _ e]), hM.obj, Below.refl _ _⟩
  have HFIN : Hid (∀ w2 tv, ZRel B bp lv va1 first nv s1 F1 w1 s1.trail.length w2 → w2.ownsRow B 3 1 tv 0 [] → (tv.ownBlock = (F1 .trail).v.ownBlock ∨ tv.ownBlock = none) → PlainP B bp lv first nv s cls r w (.returned (.bool r)) (w2.setCell ⟨bp, 8, none⟩ tv)) := Lib.hid (fun w2 tv hz ho ht =>
    ⟨rfl, _, va1, _, z_mem HM.out hz ho ht, (HB.out.trans hz.2.2).setCell HM.out.hB _, ⟨HS.out.n, HS.out.m, HS.out.on, HS.out.short, HS.out.len, HS.out.ex⟩, ⟨HG.out.si, HG.out.ro, TI.nil, HG.out.hm, HG.out.sh, HG.out.hn⟩, rfl⟩)
  by_cases h0 : s1.trail = []
  · have hL0 : s1.trail.length = 0 := by rw [h0]; rfl
    rw [hL0] at HFIN
    have hown := hM.own.1 .trail
    rw [hxs, hL0] at hown
    have z8 := hM.obj.frozen 8
    have hxe : (F1 .trail).xs = [] := by rw [hM.trail, h0]; rfl
    rw [hxe, hM.te] at hown
    have hvc : (∃ g cap, (F1 .trail).v = .slice (some ⟨g, 0, none⟩) 0 cap) ∨ (F1 .trail).v = .slice none 0 0 := by
      rcases hown.2 with ⟨hv, _⟩ | ⟨g, cap, cur, hv, _⟩
      · exact .inr hv
      · exact .inl ⟨g, cap, hv⟩
    have HOW := Lib.hid hown
    clear hM hb hs G hxs f0 f1 f2 f3 f5 f6 f7 HCB hown hxe hL0 h0
    rcases hvc with ⟨g, cap2, hv⟩ | hv
    · rw [hv] at f8 HOW HFIN
      have HP := Lib.hid (HFIN.out w1 _ HZ0.out HOW.out (.inl rfl))
      clear hv HFIN HOW
      go_wp2
      go_loopw [16] (fun it wr => it = .int .i64 0 ∧ wr = w1) (fun _ _ => 0)
      case atStart => exact ⟨rfl, rfl⟩
      case round =>
        obtain ⟨rfl, rfl⟩ := hrel
        go_wp2
        go_ret
        exact HP.out
    · rw [hv] at f8 HOW HFIN
      have HP := Lib.hid (HFIN.out w1 _ HZ0.out HOW.out (.inl rfl))
      clear hv HFIN HOW
      go_wp2
      go_loopw [16] (fun it wr => it = .int .i64 0 ∧ wr = w1) (fun _ _ => 0)
      case atStart => exact ⟨rfl, rfl⟩
      case round =>
        obtain ⟨rfl, rfl⟩ := hrel
        go_wp2
        go_ret
        exact HP.out
  · have hpos : 0 < s1.trail.length := List.length_pos_iff.2 h0
    obtain ⟨gT, capT, hT, hT1, hT2, hT3, hT4⟩ := hM.own.form .trail (by omega)
    rw [hxs] at hT
    rw [hT] at f8
    obtain ⟨gV, capV, hV, hV1, hV2, hV3, hV4, hV5⟩ := hM.vals (by rw [hnv.out]; omega)
    have HT := Lib.hid hT
    have HV := Lib.hid hV
    have hnVT : gT ≠ gV := fun e => by have := hM.own.2 .trail .value gV (by rw [hT, e]; rfl) (by rw [hV]; rfl); cases this
    have hTb : gT ≠ bp := fun e => hM.ne .trail (by rw [hT, e]; rfl)
    clear hM hb hs G f0 f1 f2 f3 f5 f6 f7 HCB hT hV hV4 hV5 h0
    rw [hxs] at hT3
    unfold maxLen at hT4
    go_wp2
    go_loopw [16] (fun it wr => ∃ k : Nat, k ≤ s1.trail.length ∧ it = .int .i64 k ∧ ZRel B bp lv va1 first nv s1 F1 w1 k wr) (fun it _ => s1.trail.length - (intOf it).toNat)
    case atStart => exact ⟨0, Nat.zero_le _, rfl, HZ0.out⟩
    case round =>
      clear f8 HZ0
      obtain ⟨k, hk, rfl, hrel⟩ := hrel
      have HZ := Lib.hid hrel
      obtain ⟨ho, hw, hb⟩ := hrel
      have hTu : (upd F1 .value ⟨(F1 .value).e, (F1 .value).v, zcells s1.trail nv k⟩ .trail).v = .slice (some ⟨gT, 0, none⟩) s1.trail.length capT := by rw [upd_other _ _ (by decide)]; exact HT.out
      have hVu : (upd F1 .value ⟨(F1 .value).e, (F1 .value).v, zcells s1.trail nv k⟩ .value).v = .slice (some ⟨gV, 0, none⟩) nv capV := by rw [upd_same]; exact HV.out
      by_cases hlt : k < s1.trail.length
      · have cT := ho.cell hTu k (by rw [upd_other _ _ (by decide)]; omega)
        rw [upd_other _ _ (by decide), HM.out.trail, getD_iv hlt] at cT
        have hrng := HG.out.ti.rng _ (get_mem hlt)
        have hr2 := opp_rng _ hrng.1 hrng.2
        have hxor := xor1 (s1.trail.getD k 0) (by omega)
        have hlx : (zcells s1.trail nv k).length = nv := by unfold zcells; simp
        have p7 := hw.cell 7
        rw [show [lv, iv first, (F1 .rows).v, (F1 .on).v, va1, (F1 .short).v, (F1 .watches).v, (F1 .value).v, (F1 .trail).v][7]? = some (F1 .value).v from rfl, HV.out] at p7
        have hx1 : s1.trail.getD k 0 < nv := by rw [hnv.out]; exact hrng.2
        have hx2 : opp (s1.trail.getD k 0) < nv := by rw [hnv.out]; exact hr2.2
        have q1 := ho.cell hVu (s1.trail.getD k 0) (by rw [upd_same]; dsimp only; rw [hlx]; exact hx1)
        have q2 := ho.cell hVu (opp (s1.trail.getD k 0)) (by rw [upd_same]; dsimp only; rw [hlx]; exact hx2)
        rw [upd_same] at q1 q2
        dsimp only at q1 q2
        rw [List.getElem?_eq_getElem (by omega)] at q1 q2
        have z1 := ho.frozen hVu (s1.trail.getD k 0)
        have z2 := ho.frozen hVu (opp (s1.trail.getD k 0))
        have hne := opp_ne (s1.trail.getD k 0)
        have hne' := fun e => opp_ne (s1.trail.getD k 0) (Eq.symm e)
        have HNX := Lib.hid (z_step HM.out HZ.out hlt HV.out hV3 hV1)
        generalize (zcells s1.trail nv k)[s1.trail.getD k 0] = o1 at *
        generalize (zcells s1.trail nv k)[opp (s1.trail.getD k 0)] = o2 at *
        generalize opp (s1.trail.getD k 0) = y at *
        generalize s1.trail.getD k 0 = x at *
        clear ho hw hb hTu hVu hlx hrng hr2
        go_wp2
        go_region
        all_goals
          go_wp2
          go_roundw
          case rel => exact ⟨k + 1, by omega, by go_num, HNX.out⟩
          case measure => simp [intOf]; omega
      · obtain rfl : k = s1.trail.length := by omega
        have p8 := hw.cell 8
        rw [show [lv, iv first, (F1 .rows).v, (F1 .on).v, va1, (F1 .short).v, (F1 .watches).v, (F1 .value).v, (F1 .trail).v][8]? = some (F1 .trail).v from rfl, HT.out] at p8
        have z8 := hw.frozen 8
        have hcut : wr.ownsRow B 3 1 (.slice (some ⟨gT, 0, none⟩) 0 capT) 0 [] := by
          have h1 := ho.1 .trail
          rw [upd_other _ _ (by decide), HM.out.te] at h1
          rcases h1.2 with ⟨hv', _⟩ | ⟨g, cap', cur, hv', hb', hg', hn', hm', hc', ht'⟩
          · rw [HT.out] at hv'; cases hv'
          · rw [HT.out] at hv'
            simp only [Value.slice.injEq, Option.some.injEq, Addr.mk.injEq, and_true] at hv'
            obtain ⟨rfl, _, rfl⟩ := hv'
            exact ⟨rfl, .inr ⟨gT, capT, cur, rfl, hb', hg', Nat.zero_le _, hm', hc', by simp⟩⟩
        have HP := Lib.hid (HFIN.out wr _ HZ.out hcut (.inl (by rw [HT.out]; rfl)))
        clear ho hw hb hTu hVu hcut HFIN
        go_wp2
        go_ret
        exact HP.out
end Go.Proofs.Ytojjjndhabjhdaa.proofH
