/-
  What holds while (*search).propagate goes on.
-/
import Derived.Test.YtojjjndhabjhdaaDoorSatJ
import Derived.Carry
namespace Go.Proofs.YtojjjndhabjhdaaDoor.satK
set_option linter.unusedSimpArgs false
set_option linter.unusedVariables false
open Go.ChangeShapes Go.WideShapes Go.ChangeAt Go.RowKit proofP proofQ owns satP satQ satA satF satB satC satD satE satG satH satI satJ

def _root_.Go.Proofs.YtojjjndhabjhdaaDoor.satA.SS.pg (s : SS) (row W : Nat → List Nat) (vt trail : List Nat) (lvl : Nat → Nat) (rsn : Nat → Option Nat) (phase : Nat → Nat) (head : Nat) : SS := { s with row := row, W := W, vt := vt, trail := trail, lvl := lvl, rsn := rsn, phase := phase, head := head }
/-- what propagate keeps -/
def Kp (s0 s : SS) : Prop := (∃ row W vt trail lvl rsn phase head, s = s0.pg row W vt trail lvl rsn phase head) ∧ s0.trail <+: s.trail
theorem Kp.refl (s : SS) : Kp s s := ⟨⟨s.row, s.W, s.vt, s.trail, s.lvl, s.rsn, s.phase, s.head, rfl⟩, List.prefix_refl _⟩
section
variable {s0 s : SS}
theorem Kp.V (h : Kp s0 s) : s.V = s0.V := by obtain ⟨⟨_, _, _, _, _, _, _, _, rfl⟩, _⟩ := h; rfl
theorem Kp.n (h : Kp s0 s) : s.n = s0.n := by obtain ⟨⟨_, _, _, _, _, _, _, _, rfl⟩, _⟩ := h; rfl
theorem Kp.starts (h : Kp s0 s) : s.starts = s0.starts := by obtain ⟨⟨_, _, _, _, _, _, _, _, rfl⟩, _⟩ := h; rfl
theorem Kp.gone (h : Kp s0 s) : s.gone = s0.gone := by obtain ⟨⟨_, _, _, _, _, _, _, _, rfl⟩, _⟩ := h; rfl
theorem Kp.rp (h : Kp s0 s) : s.rp = s0.rp := by obtain ⟨⟨_, _, _, _, _, _, _, _, rfl⟩, _⟩ := h; rfl
theorem Kp.rws (h : Kp s0 s) (r : Nat → List Nat) : Kp s0 (s.rws r) := by obtain ⟨⟨_, _, _, _, _, _, _, _, rfl⟩, h2⟩ := h; exact ⟨⟨r, _, _, _, _, _, _, _, rfl⟩, h2⟩
theorem Kp.wt (h : Kp s0 s) (r : Nat → List Nat) : Kp s0 (s.wt r) := by obtain ⟨⟨_, _, _, _, _, _, _, _, rfl⟩, h2⟩ := h; exact ⟨⟨_, r, _, _, _, _, _, _, rfl⟩, h2⟩
theorem Kp.put (h : Kp s0 s) (c : Nat) (r : Option Nat) : Kp s0 (s.put c r) := by
  obtain ⟨⟨_, _, _, _, _, _, _, _, rfl⟩, h2⟩ := h
  exact ⟨⟨_, _, _, _, _, _, _, _, rfl⟩, h2.trans (List.prefix_append _ _)⟩
def _root_.Go.Proofs.YtojjjndhabjhdaaDoor.satA.SS.hd (s : SS) (head : Nat) : SS := { s with head := head }
theorem Kp.hd (h : Kp s0 s) (n : Nat) : Kp s0 (s.hd n) := by obtain ⟨⟨_, _, _, _, _, _, _, _, rfl⟩, h2⟩ := h; exact ⟨⟨_, _, _, _, _, _, _, n, rfl⟩, h2⟩
end

/-- a search's state, beside its queue -/
structure PGd (cls : Nat → List Int) (cl : List (List Int)) (s : SS) : Prop where
  B : Base s.V s.trail s.starts s.lvl
  R : satP.Rows s.V s.n s.row cls cl
  Y : Why s.n s.row cl s.trail s.starts s.lvl s.rsn
  wt : Wat s.n s.row s.gone s.W
  vt : s.vt = s.trail
  ph : ∀ v, s.phase v ≤ 1
  rb : ∀ v i, s.rsn v = some i → i < s.n
  hn : s.n ≤ 1000000000
  hV : s.V ≤ 20000
  hs : s.starts.length ≤ 50000
theorem PGd.watLen {cls : Nat → List Int} {cl : List (List Int)} {s : SS} (h : PGd cls cl s) (c : Nat) : (s.W c).length ≤ 1000000000 :=
  Nat.le_trans (nodup_bound (h.wt.nd c) fun x hx => (h.wt.wat c x hx).1) h.hn
theorem rows_len {V n : Nat} {row : Nat → List Nat} {cls : Nat → List Int} {cl : List (List Int)} (hR : satP.Rows V n row cls cl) (hV : V ≤ 20000) {i : Nat} (hi : i < n) : (row i).length ≤ 100000 :=
  Nat.le_trans (nodup_bound (hR.nd i hi) fun x hx => (hR.rng i hi x hx).2) (by omega)

/-- beside what is followed -/
structure Gd (s0 st : SS) (h : Nat) : Prop where
  kp : Kp s0 st
  vt : st.vt = st.trail
  ph : ∀ v, st.phase v ≤ 1
  rb : ∀ v i, st.rsn v = some i → i < st.n
  hd : st.head = h + 1
abbrev FolS (cls : Nat → List Int) (cl : List (List Int)) (st : SS) (h lost : Nat) (kept rest : List Nat) : Prop := Fol st.V st.n st.gone cls cl st.starts h lost st.row st.W st.trail st.lvl st.rsn kept rest
/-- the place in the midst: kept rows, and the rest from k on -/
def FRel (B bp : Nat) (s0 : SS) (cls : Nat → List Int) (cl : List (List Int)) (h lost gL capL N : Nat) (w : World) (q k : Nat) (wr : World) : Prop :=
  ∃ st F kept, Mem wr B bp st F ∧ (F (.watch lost)).v = .slice (some ⟨gL, 0, none⟩) N capL ∧ (st.W lost).length = N ∧ kept.length = q ∧ (st.W lost).take q = kept ∧ q ≤ k ∧ Gd s0 st h ∧ FolS cls cl st h lost kept ((st.W lost).drop k) ∧ Below B w wr
/-- a row, whose second code is the one that is followed -/
def FMid (B bp : Nat) (s0 : SS) (cls : Nat → List Int) (cl : List (List Int)) (h lost gL capL N : Nat) (w : World) (q k i : Nat) (wr : World) : Prop :=
  ∃ st F kept, Mem wr B bp st F ∧ (F (.watch lost)).v = .slice (some ⟨gL, 0, none⟩) N capL ∧ (st.W lost).length = N ∧ kept.length = q ∧ (st.W lost).take q = kept ∧ q ≤ k ∧ Gd s0 st h ∧ FolS cls cl st h lost kept (i :: (st.W lost).drop (k + 1)) ∧ Below B w wr ∧ (st.row i).getD 1 0 = lost
theorem Fol.other {V n : Nat} {gone : Nat → Bool} {cls : Nat → List Int} {cl : List (List Int)} {starts : List Nat} {h lost : Nat} {row W W' : Nat → List Nat} {trail : List Nat} {lvl : Nat → Nat} {rsn : Nat → Option Nat} {kept rest : List Nat}
    (f : Fol V n gone cls cl starts h lost row W trail lvl rsn kept rest) (hw : ∀ c, c ≠ lost → W' c = W c) : Fol V n gone cls cl starts h lost row W' trail lvl rsn kept rest := by
  have e : updN W' lost (kept ++ rest) = updN W lost (kept ++ rest) := by
    funext c
    by_cases e : c = lost
    · rw [e, updN_same, updN_same]
    · rw [updN_other _ _ e, updN_other _ _ e, hw c e]
  exact ⟨f.B, f.R, f.Y, by rw [e]; exact f.wt, f.lk, f.hl, f.top⟩
theorem set_take {l : List Nat} {q i : Nat} (h : q < l.length) : (l.set q i).take (q + 1) = l.take q ++ [i] := by
  rw [List.take_succ_eq_append_getElem (by simpa using h), List.take_set_of_le (Nat.le_refl _)]; simp

section
variable {w wr wy w1 : World} {B bp : Nat} {s0 st : SS} {F : Ix → Ent} {cls : Nat → List Int} {cl : List (List Int)} {h lost gL capL gW capW N q k i : Nat} {kept : List Nat}
/-- a row is kept: memory -/
theorem keep_mem (hM : Mem wr B bp st F) (hv : (F (.watch lost)).v = .slice (some ⟨gL, 0, none⟩) N capL) (hb2 : Below wr.heap.size wr wy) (q i : Nat) :
    ∃ F', Mem (wy.setCell ⟨gL, q, none⟩ (pv st.rp i)) B bp (st.wt (updN st.W lost ((st.W lost).set q i))) F' ∧ fvs F' = fvs F :=
  ⟨_, ((hM.below hb2).write hv q (pv st.rp i) (s' := st.wt (updN st.W lost ((st.W lost).set q i))) (by
    show ((updN st.W lost ((st.W lost).set q i)) lost).map (pv st.rp) = _
    rw [updN_same, List.map_set]; rfl) (by
    intro j hj
    cases j <;> first
      | rfl
      | (show ((updN st.W lost ((st.W lost).set q i)) _).map (pv st.rp) = (st.W _).map (pv st.rp)
         rw [updN_other _ _ (fun e => hj (by rw [e]))])) rfl rfl rfl rfl rfl).1, fvs_set _ _ _⟩
theorem rel_keep (hM : Mem wy B bp (st.wt (updN st.W lost ((st.W lost).set q i))) F) (hv : (F (.watch lost)).v = .slice (some ⟨gL, 0, none⟩) N capL) (hN : (st.W lost).length = N) (hkl : kept.length = q) (htk : (st.W lost).take q = kept) (hqk : q ≤ k) (hkN : k < N)
    (hg : Gd s0 st h) (hF : FolS cls cl st h lost (kept ++ [i]) ((st.W lost).drop (k + 1))) (hb : Below B w wy) :
    FRel B bp s0 cls cl h lost gL capL N w (q + 1) (k + 1) wy := by
  refine ⟨st.wt (updN st.W lost ((st.W lost).set q i)), F, kept ++ [i], hM, hv, ?_, by simp [hkl], ?_, by omega, ⟨hg.kp.wt _, hg.vt, hg.ph, hg.rb, hg.hd⟩, ?_, hb⟩
  · show ((updN st.W lost ((st.W lost).set q i)) lost).length = N
    rw [updN_same]; simpa using hN
  · show ((updN st.W lost ((st.W lost).set q i)) lost).take (q + 1) = _
    rw [updN_same, set_take (by omega), htk]
  · show Fol _ _ _ _ _ _ _ _ _ (updN st.W lost ((st.W lost).set q i)) _ _ _ _ (((updN st.W lost ((st.W lost).set q i)) lost).drop (k + 1))
    rw [updN_same, List.drop_set_of_lt (by omega)]
    exact Fol.other hF (fun c hc => updN_other _ _ hc)
theorem mid_keep (hM : Mem wr B bp st F) (hv : (F (.watch lost)).v = .slice (some ⟨gL, 0, none⟩) N capL) (hN : (st.W lost).length = N) (hkl : kept.length = q) (htk : (st.W lost).take q = kept) (hqk : q ≤ k) (hkN : k < N) (hg : Gd s0 st h)
    (hF : FolS cls cl st h lost (kept ++ [i]) ((st.W lost).drop (k + 1))) (hb : Below B w wr) (hb2 : Below wr.heap.size wr w1) (o : Obj) :
    FRel B bp s0 cls cl h lost gL capL N w (q + 1) (k + 1) ((w1.setCell ⟨gL, q, none⟩ (pv st.rp i)).alloc o) := by
  obtain ⟨F3, M3, hF3⟩ := keep_mem hM hv hb2 q i
  have hBL : B ≤ gL := ((hM.own.1 (.watch lost)).lt gL (by rw [hv]; rfl)).1
  have hBh : B ≤ wr.heap.size := Nat.le_trans hM.hB (Nat.le_of_lt hM.obj.lt)
  have hsz := hb2.size
  exact rel_keep (M3.below ((Below.refl _ _).alloc (Nat.le_refl _) o)) ((congrFun hF3 _).trans hv) hN hkl htk hqk hkN hg hF (((hb.trans (hb2.mono hBh)).setCell hBL _).alloc (by simp; omega) o)
theorem rel_drop (hM : Mem wr B bp st F) (hv : (F (.watch lost)).v = .slice (some ⟨gL, 0, none⟩) N capL) (hN : (st.W lost).length = N) (hkl : kept.length = q) (htk : (st.W lost).take q = kept) (hqk : q ≤ k) (hg : Gd s0 st h)
    (hF : FolS cls cl st h lost kept (i :: (st.W lost).drop (k + 1))) (hgo : st.gone i = true) (hb : Below B w wr) : FRel B bp s0 cls cl h lost gL capL N w q (k + 1) wr :=
  ⟨st, F, kept, hM, hv, hN, hkl, htk, by omega, hg, hF.drop hgo, hb⟩
theorem mid_swap {gi capi L y1 : Nat} (hM : Mem wr B bp st F) (hv : (F (.watch lost)).v = .slice (some ⟨gL, 0, none⟩) N capL) (hN : (st.W lost).length = N) (hkl : kept.length = q) (htk : (st.W lost).take q = kept) (hqk : q ≤ k) (hg : Gd s0 st h)
    (hF : FolS cls cl st h lost kept (i :: (st.W lost).drop (k + 1))) (hb : Below B w wr) (hI : (F (.row i)).v = .slice (some ⟨gi, 0, none⟩) L capi) (h1 : (st.row i).getD 1 0 = y1) (h0 : (st.row i).getD 0 0 = lost) :
    FMid B bp s0 cls cl h lost gL capL N w q k i ((wr.setCell ⟨gi, 0, none⟩ (.int .i64 y1)).setCell ⟨gi, 1, none⟩ (.int .i64 lost)).drew := by
  have h2 := hF.at.2.1
  have hBi : B ≤ gi := ((hM.own.1 (.row i)).lt gi (by rw [hI]; rfl)).1
  obtain ⟨F1, M1, K1⟩ := hM.swRow (i := i) (j := 0) (k := 1) hI h1 h0
  refine ⟨_, F1, kept, M1.below (Below.refl _ _).drew, (congrFun K1 _).trans hv, hN, hkl, htk, hqk, ⟨hg.kp.rws _, hg.vt, hg.ph, hg.rb, hg.hd⟩, hF.swap h0, ((hb.setCell hBi _).setCell hBi _).drew, ?_⟩
  show ((updN st.row i (sw (st.row i) 0 1)) i).getD 1 0 = lost
  rw [updN_same, sw_get _ 0 1 1 (by omega) (by omega), if_pos rfl]; exact h0
theorem mid_move {k2 : Nat} {F3 : Ix → Ent} (hM : Mem w1 B bp (st.moved i k2) F3) (hF3 : ∀ j, j ≠ .watch ((st.row i).getD k2 0) → (F3 j).v = (F j).v) (hv : (F (.watch lost)).v = .slice (some ⟨gL, 0, none⟩) N capL) (hN : (st.W lost).length = N) (hkl : kept.length = q) (htk : (st.W lost).take q = kept) (hqk : q ≤ k) (hg : Gd s0 st h)
    (hF : FolS cls cl st h lost kept (i :: (st.W lost).drop (k + 1))) (h1 : (st.row i).getD 1 0 = lost) (h0 : (st.row i).getD 0 0 ∉ st.trail) (hk2 : 2 ≤ k2) (hk2l : k2 < (st.row i).length) (ho : opp ((st.row i).getD k2 0) ∉ st.trail) (hb : Below B w w1) :
    FRel B bp s0 cls cl h lost gL capL N w q (k + 1) w1 := by
  have hne : lost ≠ (st.row i).getD k2 0 := by
    rw [← h1]; intro e
    have := nodup_get.1 (hF.R.nd i hF.at.1) 1 k2 (by omega) hk2l e
    omega
  have hW : (st.moved i k2).W lost = st.W lost := by
    show (updN st.W ((st.row i).getD k2 0) _) lost = _
    rw [updN_other _ _ hne]
  refine ⟨st.moved i k2, F3, kept, hM, ?_, by rw [hW]; exact hN, hkl, by rw [hW]; exact htk, by omega, ⟨(hg.kp.rws _).wt _, hg.vt, hg.ph, hg.rb, hg.hd⟩, ?_, hb⟩
  · rw [hF3 _ (by simpa using hne)]; exact hv
  · unfold FolS
    rw [hW]; exact hF.move h1 h0 hk2 hk2l ho
theorem mid_push {F3 : Ix → Ent} (hM : Mem w1 B bp ((st.wt (updN st.W lost ((st.W lost).set q i))).put ((st.row i).getD 0 0) (some i)) F3) (hv : (F3 (.watch lost)).v = .slice (some ⟨gL, 0, none⟩) N capL) (hN : (st.W lost).length = N) (hkl : kept.length = q) (htk : (st.W lost).take q = kept) (hqk : q ≤ k) (hkN : k < N) (hg : Gd s0 st h)
    (hF : Fol st.V st.n st.gone cls cl st.starts h lost st.row st.W (st.trail ++ [(st.row i).getD 0 0]) (updN st.lvl ((st.row i).getD 0 0 / 2) st.starts.length) (updN st.rsn ((st.row i).getD 0 0 / 2) (some i)) (kept ++ [i]) ((st.W lost).drop (k + 1))) (hi : i < st.n) (hb : Below B w w1) :
    FRel B bp s0 cls cl h lost gL capL N w (q + 1) (k + 1) w1 := by
  refine rel_keep (st := st.put ((st.row i).getD 0 0) (some i)) hM hv hN hkl htk hqk hkN ⟨hg.kp.put _ _, ?_, fun v => ?_, fun v j hj => ?_, hg.hd⟩ hF hb
  · show st.vt ++ _ = st.trail ++ _; rw [hg.vt]
  · show updN st.phase _ _ v ≤ 1
    unfold updN; split
    · omega
    · exact hg.ph v
  · have hj' : updN st.rsn ((st.row i).getD 0 0 / 2) (some i) v = some j := hj
    unfold updN at hj'; split at hj'
    · cases hj'; exact hi
    · exact hg.rb v j hj'
theorem ptr_len (l : List Nat) (rp : Nat → Nat) : (l.map (pv rp)).length = l.length := by simp
/-- the list, cut to what is kept -/
theorem cut_own (hM : Mem wr B bp st F) (hv : (F (.watch lost)).v = .slice (some ⟨gL, 0, none⟩) N capL) (hN : (st.W lost).length = N) (hq : q ≤ N) : wr.ownsRow B 73 1 (.slice (some ⟨gL, 0, none⟩) q capL) q (((st.W lost).take q).map (pv st.rp)) := by
  have := hM.ownAt (.watch lost) rfl
  rw [hv, show (cont st (fvs F) (.watch lost)) = (st.W lost).map (pv st.rp) from rfl, ptr_len, hN] at this
  have := own_cut this hq
  rw [← List.map_take] at this
  exact this
theorem tail_cells (hM : Mem wr B bp (st.wt (updN st.W lost ((st.W lost).set q i))) F) (hv : (F (.watch lost)).v = .slice (some ⟨gL, 0, none⟩) N capL) (hN : (st.W lost).length = N) (hkl : kept.length = q) (htk : (st.W lost).take q = kept) (hqk : q ≤ k) (hkN : k < N) :
    wr.ownsRow B 73 1 (.slice (some ⟨gL, 0, none⟩) (q + 1) capL) (q + 1) ((kept ++ [i]).map (pv st.rp)) ∧ (∀ j u, (((st.W lost).drop (k + 1)).map (pv st.rp))[j]? = some u → wr.cell? ((⟨gL, k + 1, none⟩ : Addr).add j) = some u) ∧ (((st.W lost).drop (k + 1)).map (pv st.rp)).length = N - (k + 1) := by
  have hWl : (st.wt (updN st.W lost ((st.W lost).set q i))).W lost = (st.W lost).set q i := by show (updN st.W lost _) lost = _; rw [updN_same]
  have hN' : ((st.wt (updN st.W lost ((st.W lost).set q i))).W lost).length = N := by rw [hWl]; simpa using hN
  refine ⟨?_, fun j u hu => ?_, by simp; omega⟩
  · have := cut_own (q := q + 1) hM hv hN' (by omega)
    rw [hWl, set_take (by omega), htk] at this
    exact this
  · have hj : j < N - (k + 1) := by
      have := (List.getElem?_eq_some_iff.1 hu).1
      simp at this; omega
    have ea : (⟨gL, k + 1, none⟩ : Addr).add j = ⟨gL, k + 1 + j, none⟩ := by unfold Addr.add; split <;> simp_all
    have hx : (F (.watch lost)).xs = ((st.W lost).set q i).map (pv st.rp) := by
      rw [hM.xs]
      show ((st.wt _).W lost).map _ = _
      rw [hWl]; rfl
    rw [ea, hM.own.cell hv (k + 1 + j) (by rw [hx, List.length_map, List.length_set]; omega), hx, List.getElem?_map, List.getElem?_set_ne (by omega), ← hu, List.getElem?_map, List.getElem?_drop]
theorem watch_len (hg : Gd s0 st h) (h0 : s0.n ≤ 1000000000) (hN : (st.W lost).length = N) (hNl : N ≤ 1000000000) {rest : List Nat} (hF : FolS cls cl st h lost kept rest) : ∀ c, (st.W c).length ≤ 1000000000 := by
  intro c
  by_cases e : c = lost
  · rw [e, hN]; exact hNl
  · have h1 := hF.wt.nd c
    have h2 := hF.wt.wat c
    rw [updN_other _ _ e] at h1 h2
    exact Nat.le_trans (nodup_bound h1 fun x hx => (h2 x hx).1) (by rw [hg.kp.n]; exact h0)

/-- what propagate leaves -/
def PropP (B bp : Nat) (s0 : SS) (cls : Nat → List Int) (cl : List (List Int)) (w : World) (e : Ending) (w' : World) : Prop :=
  ∃ st F, Mem w' B bp st F ∧ Below B w w' ∧ Kp s0 st ∧ PGd cls cl st ∧ (∀ s, s ∈ st.starts → s < st.head) ∧ st.head ≤ st.trail.length ∧
    ((e = .returned (.pointer none) ∧ st.head = st.trail.length ∧ Pro st.n st.row st.gone st.trail st.trail.length st.lvl) ∨
      ∃ i, e = .returned (pv st.rp i) ∧ Pro st.n st.row st.gone st.trail (st.head - 1) st.lvl ∧ Lost st.n st.row st.trail st.starts st.lvl i)
theorem pgd_of (hg : Gd s0 st h) (P0 : PGd cls cl s0) {kept rest : List Nat} (hF : FolS cls cl st h lost kept rest) {l : List Nat} (hl : l = kept ++ rest) : PGd cls cl (st.wt (updN st.W lost l)) := by
  subst hl
  exact ⟨hF.B, hF.R, hF.Y, hF.wt, hg.vt, hg.ph, hg.rb, by show st.n ≤ _; rw [hg.kp.n]; exact P0.hn, by show st.V ≤ _; rw [hg.kp.V]; exact P0.hV, by show st.starts.length ≤ _; rw [hg.kp.starts]; exact P0.hs⟩
/-- the list is put back, cut -/
theorem done_R (P0 : PGd cls cl s0) (hM : Mem wr B bp st F) (hv : (F (.watch lost)).v = .slice (some ⟨gL, 0, none⟩) N capL) (hm : lost < 2 * st.V + 2) (hWv : (F .watches).v = .slice (some ⟨gW, 0, none⟩) (2 * st.V + 2) capW) (hN : (st.W lost).length = N) (hkl : kept.length = q) (htk : (st.W lost).take q = kept) (hqN : q ≤ N)
    (hg : Gd s0 st h) (hF : FolS cls cl st h lost kept []) (hb : Below B w wr) :
    ∃ F2, Mem (wr.setCell ⟨gW, lost, none⟩ (.slice (some ⟨gL, 0, none⟩) q capL)) B bp (st.wt (updN st.W lost kept)) F2 ∧ PGd cls cl (st.wt (updN st.W lost kept)) ∧ Kp s0 (st.wt (updN st.W lost kept)) ∧ Pro st.n st.row st.gone st.trail (h + 1) st.lvl ∧ Below B w (wr.setCell ⟨gW, lost, none⟩ (.slice (some ⟨gL, 0, none⟩) q capL)) := by
  have hcut := cut_own hM hv hN hqN
  rw [htk] at hcut
  have hBg : B ≤ gW := ((hM.own.1 .watches).lt gW (by rw [hWv]; rfl)).1
  obtain ⟨F2, M2, _, _⟩ := hM.putW (w' := wr) (v' := .slice (some ⟨gL, 0, none⟩) q capL) (xs' := kept.map (pv st.rp)) hm hWv (grown_self _ _) (by rw [ptr_len, hkl]; exact hcut) (.inl (by rw [hv]; rfl)) (l := kept) rfl
  exact ⟨F2, M2, pgd_of hg P0 hF (by simp), hg.kp.wt _, hF.done, hb.setCell hBg _⟩
theorem fail_P (P0 : PGd cls cl s0) (htop : ∀ s, s ∈ s0.starts → s ≤ h) (hM : Mem wr B bp (st.wt (updN st.W lost ((st.W lost).set q i))) F) (hv : (F (.watch lost)).v = .slice (some ⟨gL, 0, none⟩) N capL) (hm : lost < 2 * st.V + 2) (hWv : (F .watches).v = .slice (some ⟨gW, 0, none⟩) (2 * st.V + 2) capW)
    (hg : Gd s0 st h) {rest : List Nat} (hF : FolS cls cl st h lost kept rest) (hL : Lost st.n st.row st.trail st.starts st.lvl i) (hb : Below B w wr) (hgr : wr.grownBy w1 (some gL)) {M : Nat} (hM' : (kept ++ rest).length = M)
    (hcut : w1.ownsRow B 73 1 (.slice (some ⟨gL, 0, none⟩) M capL) M ((kept ++ rest).map (pv st.rp))) :
    PropP B bp s0 cls cl w (.returned (pv st.rp i)) (w1.setCell ⟨gW, lost, none⟩ (.slice (some ⟨gL, 0, none⟩) M capL)) := by
  subst hM'
  have hBg : B ≤ gW := ((hM.own.1 .watches).lt gW (by rw [hWv]; rfl)).1
  have hBL : B ≤ gL := ((hM.own.1 (.watch lost)).lt gL (by rw [hv]; rfl)).1
  have hBh : B ≤ wr.heap.size := Nat.le_trans hM.hB (Nat.le_of_lt hM.obj.lt)
  obtain ⟨F2, M2, _, _⟩ := hM.putW (w' := w1) (v' := .slice (some ⟨gL, 0, none⟩) (kept ++ rest).length capL) (xs' := (kept ++ rest).map (pv st.rp)) hm hWv (by rw [hv]; exact hgr) (by rw [ptr_len]; exact hcut) (.inl (by rw [hv]; rfl)) (l := kept ++ rest) rfl
  have hup : updN (updN st.W lost ((st.W lost).set q i)) lost (kept ++ rest) = updN st.W lost (kept ++ rest) := by
    funext c
    by_cases e : c = lost
    · rw [e, updN_same, updN_same]
    · rw [updN_other _ _ e, updN_other _ _ e, updN_other _ _ e]
  have M3 : Mem (w1.setCell ⟨gW, lost, none⟩ (.slice (some ⟨gL, 0, none⟩) (kept ++ rest).length capL)) B bp (st.wt (updN st.W lost (kept ++ rest))) F2 := by
    rw [← hup]; exact M2
  have hhl := at_lt hF.hl
  refine ⟨_, F2, M3, (hb.grown hgr hBh (fun k hk => by cases hk; exact hBL)).setCell hBg _, hg.kp.wt _, pgd_of hg P0 hF rfl, fun s hs => ?_, ?_, .inr ⟨i, rfl, ?_, hL⟩⟩
  · show s < st.head
    rw [hg.hd]
    have := htop s (by rw [← hg.kp.starts]; exact hs)
    omega
  · show st.head ≤ _; rw [hg.hd]; exact hhl
  · show Pro st.n st.row st.gone st.trail (st.head - 1) st.lvl
    rw [hg.hd]; exact hF.part
end
end Go.Proofs.YtojjjndhabjhdaaDoor.satK
