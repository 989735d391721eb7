/-
  Contracts of (*search).set, decide, and of codeOf, literalOf.
-/
import Derived.Test.YtojjjndhabjhdaaDoorFcM
namespace Go.Proofs.YtojjjndhabjhdaaDoor.satG
set_option linter.unusedSimpArgs false
set_option linter.unusedVariables false
open Go.ChangeShapes Go.WideShapes Go.ChangeAt Go.RowKit proofP proofQ owns satP satA satF satB satC satD satE
attribute [local go_sem ↓] Go.wp_at_zero Go.wp_at_succ

theorem ofIntNat (a : Nat) (ha : a < 9223372036854775808) : (BitVec.ofInt 64 (a : Int)).toNat = a := by
  rw [BitVec.ofInt_natCast, BitVec.toNat_ofNat]; exact Nat.mod_eq_of_lt (by omega)
theorem nat_xor1 (c : Nat) : c ^^^ 1 = opp c := by
  have h1 : (c ^^^ 1) / 2 = c / 2 := by rw [Nat.xor_div_two]; simp
  have h2 : (c ^^^ 1) % 2 = (c + 1) % 2 := by
    have := Nat.xor_mod_two_eq_one (a := c) (b := 1)
    omega
  unfold opp
  split <;> omega
theorem wrapNat (n : Nat) (h : n < 9223372036854775808) : IntKind.i64.wrap (n : Int) = (n : Int) := IntWalk.i64_in _ (by omega)
theorem xor1 (c : Nat) (h : c < 4611686018427387904) : bits .xor .i64 (c : Int) 1 = ((opp c : Nat) : Int) := by
  show IntKind.i64.wrap ((BitVec.ofInt 64 (c : Int) ^^^ BitVec.ofInt 64 ((1 : Nat) : Int)).toNat : Int) = _
  rw [BitVec.toNat_xor, ofIntNat c (by omega), ofIntNat 1 (by omega), nat_xor1]
  refine wrapNat _ ?_
  unfold opp; split <;> omega
theorem and1 (c : Nat) (h : c < 4611686018427387904) : bits .and .i64 (c : Int) 1 = ((c % 2 : Nat) : Int) := by
  show IntKind.i64.wrap ((BitVec.ofInt 64 (c : Int) &&& BitVec.ofInt 64 ((1 : Nat) : Int)).toNat : Int) = _
  rw [BitVec.toNat_and, ofIntNat c (by omega), ofIntNat 1 (by omega), Nat.and_one_is_mod]
  refine wrapNat _ ?_
  omega

theorem val_snoc {trail : List Nat} {c : Nat} (h : c ∉ trail) (h' : opp c ∉ trail) (x : Nat) : val (trail ++ [c]) x = if x = c then 1 else if x = opp c then -1 else val trail x := by
  unfold val
  by_cases e1 : x = c
  · subst e1; simp
  · rw [if_neg e1]
    by_cases e2 : x = opp c
    · rw [e2, if_pos rfl, opp_opp]
      have h2 : ¬ (opp c ∈ trail ++ [c]) := by simp [h', opp_ne]
      rw [if_neg h2, if_pos (by simp)]
    · rw [if_neg e2]
      have : opp x ≠ c := fun e => e2 (by rw [← e, opp_opp])
      simp [e1, this]
theorem vals_snoc {trail : List Nat} {c nv : Nat} (h : c ∉ trail) (h' : opp c ∉ trail) : (((List.range nv).map fun c => Value.int .i8 (val trail c)).set c (.int .i8 1)).set (opp c) (.int .i8 (-1)) = (List.range nv).map fun x => .int .i8 (val (trail ++ [c]) x) := by
  rw [range_set, range_set]
  apply List.map_congr_left
  intro x _
  rw [val_snoc h h']
  by_cases e2 : x = opp c
  · rw [if_pos e2, if_neg (by rw [e2]; exact opp_ne c), if_pos e2]
  · rw [if_neg e2, if_neg e2]
    by_cases e1 : x = c
    · rw [if_pos e1, if_pos e1]
    · rw [if_neg e1, if_neg e1]

section
variable {w w' : World} {B bp : Nat} {s : SS} {F : Ix → Ent}
def _root_.Go.Proofs.YtojjjndhabjhdaaDoor.satA.SS.val (s : SS) (vt : List Nat) : SS := { s with vt := vt }
def _root_.Go.Proofs.YtojjjndhabjhdaaDoor.satA.SS.lrp (s : SS) (lvl : Nat → Nat) (rsn : Nat → Option Nat) (phase : Nat → Nat) : SS := { s with lvl := lvl, rsn := rsn, phase := phase }
def _root_.Go.Proofs.YtojjjndhabjhdaaDoor.satA.SS.tr (s : SS) (trail : List Nat) : SS := { s with trail := trail }
/-- a code is made true -/
def _root_.Go.Proofs.YtojjjndhabjhdaaDoor.satA.SS.put (s : SS) (c : Nat) (r : Option Nat) : SS := ((s.val (s.vt ++ [c])).lrp (updN s.lvl (c / 2) s.starts.length) (updN s.rsn (c / 2) r) (updN s.phase (c / 2) (c % 2))).tr (s.trail ++ [c])
theorem _root_.Go.Proofs.YtojjjndhabjhdaaDoor.satA.Mem.setVals (h : Mem w B bp s F) {g cap n : Nat} (hv : (F .value).v = .slice (some ⟨g, 0, none⟩) n cap) {c : Nat} (h1 : c ∉ s.vt) (h2 : opp c ∉ s.vt) :
    ∃ F', Mem ((w.setCell ⟨g, c, none⟩ (.int .i8 1)).setCell ⟨g, opp c, none⟩ (.int .i8 (-1))) B bp (s.val (s.vt ++ [c])) F' ∧ fvs F' = fvs F := by
  obtain ⟨O1, G1⟩ := h.own.set2 hv c (opp c) (.int .i8 1) (.int .i8 (-1))
  have hg : g ≠ bp := fun e => h.ne .value (by rw [hv, e]; rfl)
  refine ⟨_, ⟨O1, ?_, h.hB, fun i => ?_, fun i => ?_, fun i => ?_, fun i hi => ?_, fun i hi => ?_, h.rj, (congrFun (fvs_set F .value _) .res).trans h.rv⟩, fvs_set _ _ _⟩
  · rw [fvs_set]; exact h.obj.kept G1 (by intro e; cases e; exact hg rfl)
  · rw [show (upd F .value ⟨(F .value).e, (F .value).v, ((F .value).xs.set c (.int .i8 1)).set (opp c) (.int .i8 (-1))⟩ i).v = (F i).v from congrFun (fvs_set F .value _) i]; exact h.ne i
  · by_cases e : i = .value
    · subst e; rw [upd_same]; exact h.te .value
    · rw [upd_other _ _ e]; exact h.te i
  · rw [fvs_set]
    by_cases e : i = .value
    · subst e; rw [upd_same]; dsimp only; rw [h.xs]; exact vals_snoc h1 h2
    · rw [upd_other _ _ e, h.xs]; cases i <;> first | rfl | exact absurd rfl e
  · rw [show (upd F .value ⟨(F .value).e, (F .value).v, ((F .value).xs.set c (.int .i8 1)).set (opp c) (.int .i8 (-1))⟩ (.row i)).v = (F (.row i)).v from congrFun (fvs_set F .value _) _]
    exact (h.rw i hi).kept G1 (by intro e; have := (h.rb i hi).2.2 .value; rw [hv] at this; exact this e)
  · refine ⟨(h.rb i hi).1, (h.rb i hi).2.1, fun q => ?_⟩
    rw [show (upd F .value ⟨(F .value).e, (F .value).v, ((F .value).xs.set c (.int .i8 1)).set (opp c) (.int .i8 (-1))⟩ q).v = (F q).v from congrFun (fvs_set F .value _) q]
    exact (h.rb i hi).2.2 q
theorem updN_map {α β : Type} {f : Nat → α} {g : α → β} {n j : Nat} (x : α) : ((List.range n).map fun i => g (updN f j x i)) = ((List.range n).map fun i => g (f i)).set j (g x) := by
  rw [range_set]
  apply List.map_congr_left
  intro i _
  unfold updN
  split <;> rfl
theorem _root_.Go.Proofs.YtojjjndhabjhdaaDoor.satA.Mem.setLrp (h : Mem w B bp s F) {g1 g2 g3 c1 c2 c3 n1 n2 n3 : Nat} (hv1 : (F .level).v = .slice (some ⟨g1, 0, none⟩) n1 c1) (hv2 : (F .reason).v = .slice (some ⟨g2, 0, none⟩) n2 c2) (hv3 : (F .phase).v = .slice (some ⟨g3, 0, none⟩) n3 c3) (v l ph : Nat) (r : Option Nat) {x : Value} (hx : rv s.rp r = x) :
    ∃ F', Mem (((w.setCell ⟨g1, v, none⟩ (.int .i64 l)).setCell ⟨g2, v, none⟩ x).setCell ⟨g3, v, none⟩ (.int .i64 ph)) B bp (s.lrp (updN s.lvl v l) (updN s.rsn v r) (updN s.phase v ph)) F' ∧ fvs F' = fvs F := by
  subst hx
  have M1 := (h.write hv1 v (.int .i64 l) (s' := s.lrp (updN s.lvl v l) s.rsn s.phase) (updN_map (g := iv) l) (by intro i hi; cases i <;> first | rfl | exact absurd rfl hi) rfl rfl rfl rfl rfl).1
  have e1 := fvs_set F .level ((F .level).xs.set v (.int .i64 l))
  have M2 := (M1.write ((congrFun e1 .reason).trans hv2) v (rv s.rp r) (s' := s.lrp (updN s.lvl v l) (updN s.rsn v r) s.phase) (updN_map (g := rv s.rp) r) (by intro i hi; cases i <;> first | rfl | exact absurd rfl hi) rfl rfl rfl rfl rfl).1
  have e2 := fvs_set (upd F .level ⟨(F .level).e, (F .level).v, (F .level).xs.set v (.int .i64 l)⟩) .reason ((upd F .level ⟨(F .level).e, (F .level).v, (F .level).xs.set v (.int .i64 l)⟩ .reason).xs.set v (rv s.rp r))
  have M3 := (M2.write ((congrFun (e2.trans e1) .phase).trans hv3) v (.int .i64 ph) (s' := s.lrp (updN s.lvl v l) (updN s.rsn v r) (updN s.phase v ph)) (updN_map (g := iv) ph) (by intro i hi; cases i <;> first | rfl | exact absurd rfl hi) rfl rfl rfl rfl rfl).1
  exact ⟨_, M3, (fvs_set _ _ _).trans (e2.trans e1)⟩

def SetP (B bp : Nat) (s : SS) (F : Ix → Ent) (c : Nat) (r : Option Nat) (w w' : World) : Prop := ∃ F', Mem w' B bp (s.put c r) F' ∧ (∀ k, k ≠ .trail → (F' k).v = (F k).v) ∧ Below B w w'
set_option maxHeartbeats 2000000 in
set_option maxRecDepth 100000 in
theorem set_any (h : Mem w B bp s F) (hV : s.V ≤ 20000) (c : Nat) (r : Option Nat) (hc : 2 ≤ c ∧ c < 2 * s.V + 2) (h1 : c ∉ s.vt) (h2 : opp c ∉ s.vt) (hl : s.trail.length ≤ 20000) (hs : s.starts.length ≤ 100000) :
    Calls Tryd.prog 29 #[.pointer (some ⟨bp, 0, none⟩), .int .i64 c, rv s.rp r] w fun e w' => e = .returned (.tuple #[]) ∧ SetP B bp s F c r w w' := by
  obtain ⟨gV, cV, hVv, qV, zV, nV, bV, lV, _, kV, _⟩ := h.at .value (n := 2 * s.V + 2) (by simp [cont]) (by omega)
  obtain ⟨gL, cL, hLv, qL, zL, nL, bL, lL, _, kL, _⟩ := h.at .level (n := s.V + 1) (by simp [cont]) (by omega)
  obtain ⟨gR, cR, hRv, qR, zR, nR, bR, lR, _, kR, _⟩ := h.at .reason (n := s.V + 1) (by simp [cont]) (by omega)
  obtain ⟨gF, cF, hFv, qF, zF, nF, bF, lF, _, kF, _⟩ := h.at .phase (n := s.V + 1) (by simp [cont]) (by omega)
  have f7 : w.cell? ⟨bp, 7, none⟩ = some (F .value).v := h.fld 7
  have f8 : w.cell? ⟨bp, 8, none⟩ = some (F .level).v := h.fld 8
  have f9 : w.cell? ⟨bp, 9, none⟩ = some (F .reason).v := h.fld 9
  have f10 : w.cell? ⟨bp, 10, none⟩ = some (F .phase).v := h.fld 10
  have f11 : w.cell? ⟨bp, 11, none⟩ = some (F .trail).v := h.fld 11
  have f12 : w.cell? ⟨bp, 12, none⟩ = some (F .starts).v := h.fld 12
  obtain ⟨aS, cS, hSv⟩ := h.own.value .starts
  rw [h.xs, show (cont s (fvs F) .starts).length = s.starts.length from by simp [cont]] at hSv
  rw [hVv] at f7
  rw [hLv] at f8
  rw [hRv] at f9
  rw [hFv] at f10
  rw [hSv] at f12
  have q1 := qV c hc.2
  have ho := opp_rng2 hc
  have q2 := qV (opp c) ho.2
  rw [show cont s (fvs F) .value = (List.range (2 * s.V + 2)).map fun c => .int .i8 (val s.vt c) from rfl, range_at hc.2] at q1
  rw [show cont s (fvs F) .value = (List.range (2 * s.V + 2)).map fun c => .int .i8 (val s.vt c) from rfl, range_at ho.2] at q2
  have hv : c / 2 < s.V + 1 := by omega
  have q3 := qL (c / 2) hv
  have q4 := qR (c / 2) hv
  have q5 := qF (c / 2) hv
  rw [show cont s (fvs F) .level = (List.range (s.V + 1)).map fun v => iv (s.lvl v) from rfl, range_at hv] at q3
  rw [show cont s (fvs F) .reason = (List.range (s.V + 1)).map fun v => rv s.rp (s.rsn v) from rfl, range_at hv] at q4
  rw [show cont s (fvs F) .phase = (List.range (s.V + 1)).map fun v => iv (s.phase v) from rfl, range_at hv] at q5
  have z1 := zV c
  have z2 := zV (opp c)
  have z3 := zL (c / 2)
  have z4 := zR (c / 2)
  have z5 := zF (c / 2)
  unfold iv at q3 q5
  have n78 := h.two (by decide) hVv hLv
  have n79 := h.two (by decide) hVv hRv
  have n70 := h.two (by decide) hVv hFv
  have n89 := h.two (by decide) hLv hRv
  have n80 := h.two (by decide) hLv hFv
  have n90 := h.two (by decide) hRv hFv
  obtain ⟨pa, hpa⟩ : ∃ pa, rv s.rp r = .pointer pa := by cases r <;> exact ⟨_, rfl⟩
  obtain ⟨F1, M1, K1⟩ := h.setVals hVv h1 h2
  obtain ⟨F2, M2, K2⟩ := (M1.below (Below.refl _ _).drew).setLrp ((congrFun K1 .level).trans hLv) ((congrFun K1 .reason).trans hRv) ((congrFun K1 .phase).trans hFv) (c / 2) s.starts.length (c % 2) r hpa
  have HM2 := Lib.hid (M2.below (Below.refl _ _).drew)
  have HK2 := Lib.hid (K2.trans K1)
  have hx := xor1 c (by omega)
  have ha := and1 c (by omega)
  have hne := opp_ne c
  have hne' := fun e => opp_ne c (Eq.symm e)
  have hB := h.hB
  have hbl := h.obj.lt
  clear M1 M2 K1 K2 qV zV qL zL qR zR qF zF
  rw [hpa]
  clear hpa
  have HM := Lib.hid h
  have HVv := Lib.hid hVv
  clear h hVv hLv hRv hFv hSv
  generalize val s.vt c = v1 at *
  generalize val s.vt (opp c) = v2 at *
  generalize hcc : opp c = c' at *
  generalize s.lvl (c / 2) = v3 at *
  generalize rv s.rp (s.rsn (c / 2)) = v4 at *
  generalize s.phase (c / 2) = v5 at *
  go_enter Tryd.func29, Tryd.ntmps29
  go_wp2
  rw [show ((c : Int) / 2) = ((c / 2 : Nat) : Int) from by omega]
  generalize hc2 : c / 2 = v at *
  generalize hp2 : c % 2 = ph at *
  have HC2 := Lib.hid hc2
  have HP2 := Lib.hid hp2
  clear hc2 hp2
  go_region
  go_wp2_with fail
  go_region
  have HM3 : Hid (Mem ((((((w.setCell ⟨gV, c, none⟩ (.int .i8 1)).setCell ⟨gV, c', none⟩ (.int .i8 (-1))).setCell ⟨gL, v, none⟩ (.int .i64 s.starts.length)).setCell ⟨gR, v, none⟩ (.pointer pa)).setCell ⟨gF, v, none⟩ (.int .i64 ph)).drew.drew) B bp ((s.val (s.vt ++ [c])).lrp (updN s.lvl v s.starts.length) (updN s.rsn v r) (updN s.phase v ph)) F2) := HM2
  have HB3 : Hid (Below B w ((((((w.setCell ⟨gV, c, none⟩ (.int .i8 1)).setCell ⟨gV, c', none⟩ (.int .i8 (-1))).setCell ⟨gL, v, none⟩ (.int .i64 s.starts.length)).setCell ⟨gR, v, none⟩ (.pointer pa)).setCell ⟨gF, v, none⟩ (.int .i64 ph)).drew.drew)) := Lib.hid (((((((Below.refl B w).setCell bV _).setCell bV _).setCell bL _).setCell bR _).setCell bF _).drew.drew)
  clear HM2 HM f7 f8 f9 f10 f11 f12 q1 q2 q3 q4 q5 z1 z2 z3 z4 z5 hcc HVv
  generalize (((((w.setCell ⟨gV, c, none⟩ (.int .i8 1)).setCell ⟨gV, c', none⟩ (.int .i8 (-1))).setCell ⟨gL, v, none⟩ (.int .i64 s.starts.length)).setCell ⟨gR, v, none⟩ (.pointer pa)).setCell ⟨gF, v, none⟩ (.int .i64 ph)).drew.drew = w2 at *
  have HS2 : Hid (∀ w', (∃ F', Mem w' B bp (((s.val (s.vt ++ [c])).lrp (updN s.lvl v s.starts.length) (updN s.rsn v r) (updN s.phase v ph)).tr (s.trail ++ [c])) F' ∧ (∀ k, k ≠ .trail → (F' k).v = (F k).v) ∧ Below B w w') → SetP B bp s F c r w w') := Lib.hid (fun w' h => by unfold SetP SS.put; rw [HC2.out, HP2.out]; exact h)
  have hst : ((s.val (s.vt ++ [c])).lrp (updN s.lvl v s.starts.length) (updN s.rsn v r) (updN s.phase v ph)).trail = s.trail := rfl
  generalize ((s.val (s.vt ++ [c])).lrp (updN s.lvl v s.starts.length) (updN s.rsn v r) (updN s.phase v ph)) = S2 at *
  have hF2 : ∀ k, (F2 k).v = (F k).v := fun k => congrFun HK2.out k
  have HF2 := Lib.hid hF2
  clear HK2 hF2
  have HO := Lib.hid (HM3.out.ownAt .trail rfl)
  have hxl : (cont S2 (fvs F2) .trail).length = s.trail.length := by simp [cont, hst]
  have f11 : w2.cell? ⟨bp, 11, none⟩ = some (F2 .trail).v := HM3.out.fld 11
  have z11 := HM3.out.obj.frozen 11
  have hgt := HM3.out.ne .trail
  have hbl2 := HM3.out.obj.lt
  generalize htv : (F2 .trail).v = tv at *
  have HTV := Lib.hid htv
  clear htv
  obtain ⟨i0, hi, hz0, hz1, hz2⟩ := info_parts infoI
  go_wp2_with (at_builtin; refine wpList_append_own_at _ rfl _ _ 23 rfl B 3 i0 (.int .i64 0) 1 8 Tryd.underlying23 hi hz0 hz1 hz2 rfl (by decide) tv s.trail.length (cont S2 (fvs F2) .trail) rfl ?c0 ⟨w2.heap.size, 0, none⟩ 1 1 [.int .i64 c] rfl rfl (new_one _ _ _) ?c2 ?c3 ?c4 ?c5 ?_)
  case c0 => have := HO.out.alloc (.cells #[.int .i64 c] 3); rw [hxl] at this; exact this
  case c2 => simp [Value.oneCell']
  case c3 => unfold maxLen; omega
  case c4 => omega
  case c5 => simp; omega
  intro v' w3 hown3 hgrow3 _ hat
  obtain ⟨g', cap', rfl, _, _, _, _⟩ := own_form hown3 (by omega)
  have hA := (Below.refl w2.heap.size w2).alloc (Nat.le_refl _) (.cells #[.int .i64 c] 3)
  have M4 : Mem (w3.setCell ⟨bp, 11, none⟩ (.slice (some ⟨g', 0, none⟩) (s.trail.length + 1) cap')) B bp (S2.tr (s.trail ++ [c])) (upd F2 .trail ⟨ty .trail, .slice (some ⟨g', 0, none⟩) (s.trail.length + 1) cap', cont S2 (fvs F2) .trail ++ [.int .i64 c]⟩) :=
    (HM3.out.below hA).put .trail (by rw [HTV.out]; exact hgrow3) (by rw [List.length_append, hxl]; exact hown3) (by
      rw [HTV.out]
      rcases hat with hat | hat
      · exact .inl hat
      · exact .inr (.inr ⟨_, hat, by simp⟩)) 11 (by simp) rfl (by simp [cont, SS.tr, iv, hst]) (by intro i hi; cases i <;> first | rfl | exact absurd rfl hi) rfl rfl rfl rfl
  have HFIN : Hid (SetP B bp s F c r w (w3.setCell ⟨bp, 11, none⟩ (.slice (some ⟨g', 0, none⟩) (s.trail.length + 1) cap'))) := Lib.hid (by
    exact HS2.out _ ⟨_, M4, fun k hk => (fvs_other _ _ hk).trans (HF2.out k), (((HB3.out.alloc (by omega) _).grown hgrow3 (by simp; omega) (fun k hk => ((HM3.out.own.1 .trail).lt k (by rw [HTV.out]; exact hk)).1))).setCell hB _⟩)
  have f11' : w3.cell? ⟨bp, 11, none⟩ = some tv := hgrow3.cell ((hA.cell (by show bp < _; omega)).trans f11) (fun e => hgt e.symm)
  have z11' : w3.frozen? ⟨bp, 11, none⟩ = false := (World.frozen?_of_block (hgrow3.block bp (by simp; omega) (fun e => hgt e.symm))).trans ((hA.frozen (by show bp < _; omega)).trans z11)
  clear M4 hown3 hgrow3 hat hA f11 z11 HS2 HO HM3
  go_wp2
  go_end0
  exact ⟨rfl, HFIN.out⟩
end
end Go.Proofs.YtojjjndhabjhdaaDoor.satG
