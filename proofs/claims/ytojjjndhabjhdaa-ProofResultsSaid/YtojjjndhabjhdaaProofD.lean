/-
  Contract of (*prover).follow.
-/
import Derived.Test.YtojjjndhabjhdaaProofC
import Derived.Deep.QuietTactic
import Derived.BigQuiet
import Derived.Deep.DeepCutAuto
import Derived.Carry
namespace Go.Proofs.Ytojjjndhabjhdaa.proofD
set_option linter.unusedSimpArgs false
set_option linter.unusedVariables false
open Go.ChangeShapes Go.WideShapes Go.ChangeAt Go.RowKit proofP proofQ owns proofA proofB proofC

def FollowP (B bp : Nat) (lv : Value) (first nv : Nat) (s : PS) (cls : Nat → List Int) (cl : List (List Int)) (fr : List Int) (head : Nat) (w : World) (e : Ending) (w' : World) : Prop :=
  ∃ s' va F', Mem w' B bp lv va first nv s' F' ∧ Below B w w' ∧ Same s s' ∧ PGood s' cls ∧ (∀ x, x ∈ s.trail → x ∈ s'.trail) ∧
    ((e = .returned (.bool true) ∧ PI s'.n s'.row s'.on s'.trail (head + 1) ∧ (∀ x, x ∈ s'.trail → D cl fr x) ∧ head + 1 ≤ s'.trail.length) ∨ (e = .returned (.bool false) ∧ Clash cl fr))

theorem start_FI {s : PS} {cls : Nat → List Int} {cl : List (List Int)} {fr : List Int} {head lost : Nat} (G : PGood s cls) (hh : head < s.trail.length) (hd : s.trail.getD head 0 = opp lost) (hP : PI s.n s.row s.on s.trail head) (hD : ∀ x, x ∈ s.trail → D cl fr x) (hon : ∀ i, i < s.n → s.on i = true → cls i ∈ cl) :
    FI s.n s.on cls cl fr s.row s.W s.trail head lost [] ((s.W lost).drop 0) := by
  have e : updN s.W lost ([] ++ (s.W lost).drop 0) = s.W := by
    funext c
    by_cases e : c = lost
    · rw [e, updN_same]; simp
    · rw [updN_other _ _ e]
  refine ⟨by rw [e]; exact G.si, fun i hi ho hl ht => ?_, G.ti, hD, hh, hd, G.ro, hon⟩
  rcases hP i hi ho hl ht with h1 | h1
  · exact .inl h1
  · refine .inr fun j hj => ⟨h1 j hj, fun e => ?_⟩
    have := G.si.has i hi hl ht
    rw [List.drop_zero, ← e]
    rcases (show j = 0 ∨ j = 1 by omega) with rfl | rfl
    · exact this.1
    · exact this.2
theorem good_of {s st : PS} {cls : Nat → List Int} {cl : List (List Int)} {fr : List Int} {head lost : Nat} {kept : List Nat} (G : PGood s cls) (hs : Same s st) (h : FI s.n s.on cls cl fr st.row st.W st.trail head lost kept []) : PGood { st with W := updN st.W lost kept } cls := by
  refine ⟨?_, ?_, h.ti, ?_, ?_, ?_⟩
  · have := h.si; rw [List.append_nil] at this; dsimp only; rw [hs.n]; exact this
  · dsimp only; rw [hs.n]; exact h.ro
  · dsimp only; rw [hs.n, hs.m]; exact G.hm
  · dsimp only; rw [hs.n, hs.short]; intro i; rw [hs.len]; exact G.sh i
  · dsimp only; rw [hs.n]; exact G.hn

section
variable {w wr w1 : World} {B bp : Nat} {lv va : Value} {first nv : Nat} {s st : PS} {F : Ix → Ent} {cls : Nat → List Int} {cl : List (List Int)} {fr : List Int} {head lost gL capL gW capW N q k i : Nat} {kept : List Nat}
theorem done_P (G : PGood s cls) (hM : Mem wr B bp lv va first nv st F) (hv : (F (.watch lost)).v = .slice (some ⟨gL, 0, none⟩) N capL) (hWv : (F .watches).v = .slice (some ⟨gW, 0, none⟩) st.m capW) (hm : lost < st.m) (hN : (st.W lost).length = N) (hkl : kept.length = q) (htk : (st.W lost).take q = kept) (hqN : q ≤ N)
    (hs : Same s st) (ht : ∀ x, x ∈ s.trail → x ∈ st.trail) (hF : FI s.n s.on cls cl fr st.row st.W st.trail head lost kept []) (hb : Below B w wr) :
    FollowP B bp lv first nv s cls cl fr head w (.returned (.bool true)) (wr.setCell ⟨gW, lost, none⟩ (.slice (some ⟨gL, 0, none⟩) q capL)) := by
  have hcut := hM.cutWatch hv hqN hN
  rw [htk] at hcut
  obtain ⟨F2, M2⟩ := hM.putWatch (w' := wr) (l := kept) hm hv ⟨rfl, rfl, rfl, Nat.le_refl _, fun _ _ _ => rfl⟩ (by rw [hkl]; exact hcut) hWv
  rw [hkl] at M2
  have hBg : B ≤ gW := ((hM.own.1 .watches).lt gW (by rw [hWv]; rfl)).1
  have hdone := hF.done
  refine ⟨_, va, F2, M2, hb.setCell hBg _, ⟨hs.n, hs.m, hs.on, hs.short, hs.len, hs.ex⟩, good_of G hs hF, ht, .inl ⟨rfl, ?_, hF.dv, hF.hl⟩⟩
  dsimp only
  rw [hs.n, hs.on]
  exact hdone
theorem mid_swap {gi capi L y1 : Nat} (hM : Mem wr B bp lv va first nv st F) (hv : (F (.watch lost)).v = .slice (some ⟨gL, 0, none⟩) N capL) (hN : (st.W lost).length = N) (hkl : kept.length = q) (htk : (st.W lost).take q = kept) (hqk : q ≤ k) (hs : Same s st) (ht : ∀ x, x ∈ s.trail → x ∈ st.trail)
    (hF : FI s.n s.on cls cl fr st.row st.W st.trail head lost kept (i :: (st.W lost).drop (k + 1))) (hb : Below B w wr) (hI : (F (.row i)).v = .slice (some ⟨gi, 0, none⟩) L capi) (hL : (st.row i).length = L) (h1 : (st.row i).getD 1 0 = y1) (h0 : (st.row i).getD 0 0 = lost) :
    FMid B bp lv first nv s cls cl fr head lost gL capL N w q k i gi capi L ((wr.setCell ⟨gi, 0, none⟩ (.int .i64 y1)).setCell ⟨gi, 1, none⟩ (.int .i64 lost)).drew := by
  have h2 := hF.at.2.1
  have hBi : B ≤ gi := ((hM.own.1 (.row i)).lt gi (by rw [hI]; rfl)).1
  refine ⟨va, _, _, kept, (hM.swapRow hI h1 h0).below (Below.refl _ _).drew, ?_, hN, hkl, htk, hqk, ⟨hs.n, hs.m, hs.on, hs.short, fun j => ?_, hs.ex⟩, ht, hF.swap, ((hb.setCell hBi _).setCell hBi _).drew, ?_, ?_, ?_⟩
  · rw [upd_other _ _ (by simp)]; exact hv
  · dsimp only; rw [updN_len (sw_len _ _ _)]; exact hs.len j
  · rw [upd_same]; exact hI
  · dsimp only; rw [updN_same, sw_len]; exact hL
  · dsimp only; rw [updN_same, sw_get _ 0 1 1 (by omega) (by omega), if_pos rfl]; exact h0
theorem mid_keep (hM : Mem wr B bp lv va first nv st F) (hv : (F (.watch lost)).v = .slice (some ⟨gL, 0, none⟩) N capL) (hN : (st.W lost).length = N) (hkl : kept.length = q) (htk : (st.W lost).take q = kept) (hqk : q ≤ k) (hkN : k < N) (hs : Same s st) (ht : ∀ x, x ∈ s.trail → x ∈ st.trail)
    (hF : FI s.n s.on cls cl fr st.row st.W st.trail head lost (kept ++ [i]) ((st.W lost).drop (k + 1))) (hb : Below B w wr) (hb2 : Below wr.heap.size wr w1) (o : Obj) :
    FRel B bp lv first nv s cls cl fr head lost gL capL N w (q + 1) (k + 1) ((w1.setCell ⟨gL, q, none⟩ (.int .i64 i)).alloc o) := by
  obtain ⟨F3, M3, hF3⟩ := keep_mem hM hv hb2 q i
  have hBL : B ≤ gL := ((hM.own.1 (.watch lost)).lt gL (by rw [hv]; rfl)).1
  have hBh : B ≤ wr.heap.size := Nat.le_trans hM.hB (Nat.le_of_lt hM.obj.lt)
  have hsz := hb2.size
  exact rel_keep (M3.below ((Below.refl _ _).alloc (Nat.le_refl _) o)) (by rw [hF3]; exact hv) hN hkl htk hqk hkN hs ht hF (((hb.trans (hb2.mono hBh)).setCell hBL _).alloc (by simp; omega) o)
theorem mid_move {k2 : Nat} {F3 : Ix → Ent} {va3 : Value} (hM : Mem w1 B bp lv va3 first nv (moved st i k2) F3) (hF3 : ∀ j, j ≠ .watch ((st.row i).getD k2 0) → (F3 j).v = (F j).v) (hv : (F (.watch lost)).v = .slice (some ⟨gL, 0, none⟩) N capL) (hN : (st.W lost).length = N) (hkl : kept.length = q) (htk : (st.W lost).take q = kept) (hqk : q ≤ k) (hs : Same s st) (ht : ∀ x, x ∈ s.trail → x ∈ st.trail)
    (hF : FI s.n s.on cls cl fr st.row st.W st.trail head lost kept (i :: (st.W lost).drop (k + 1))) (h1 : (st.row i).getD 1 0 = lost) (hk2 : 2 ≤ k2) (hk2l : k2 < (st.row i).length) (ho : opp ((st.row i).getD k2 0) ∉ st.trail) (hb : Below B w w1) :
    FRel B bp lv first nv s cls cl fr head lost gL capL N w q (k + 1) w1 := by
  have hne : lost ≠ (st.row i).getD k2 0 := by
    rw [← h1]; intro e
    have := nodup_get.1 (hF.si.rd i hF.at.1) 1 k2 (by omega) hk2l e
    omega
  have hW : (moved st i k2).W lost = st.W lost := by unfold moved; dsimp only; rw [updN_other _ _ hne]
  refine ⟨va3, moved st i k2, F3, kept, hM, ?_, by rw [hW]; exact hN, hkl, by rw [hW]; exact htk, by omega, ⟨hs.n, hs.m, hs.on, hs.short, fun j => ?_, hs.ex⟩, ht, ?_, hb⟩
  · rw [hF3 _ (by simpa using hne)]; exact hv
  · unfold moved; dsimp only; rw [updN_len (sw_len _ _ _)]; exact hs.len j
  · rw [hW]; exact hF.move h1 hk2 hk2l ho
theorem mid_push {F3 : Ix → Ent} {va3 : Value} {x0 : Nat} (hM : Mem w1 B bp lv va3 first nv { st with W := updN st.W lost ((st.W lost).set q i), trail := st.trail ++ [x0] } F3) (hv : (F3 (.watch lost)).v = .slice (some ⟨gL, 0, none⟩) N capL) (hN : (st.W lost).length = N) (hkl : kept.length = q) (htk : (st.W lost).take q = kept) (hqk : q ≤ k) (hkN : k < N) (hs : Same s st) (ht : ∀ x, x ∈ s.trail → x ∈ st.trail)
    (hF : FI s.n s.on cls cl fr st.row st.W (st.trail ++ [x0]) head lost (kept ++ [i]) ((st.W lost).drop (k + 1))) (hb : Below B w w1) :
    FRel B bp lv first nv s cls cl fr head lost gL capL N w (q + 1) (k + 1) w1 := by
  refine rel_keep (st := { st with trail := st.trail ++ [x0] }) hM hv hN hkl htk hqk hkN ⟨hs.n, hs.m, hs.on, hs.short, hs.len, hs.ex⟩ (fun x hx => ?_) hF hb
  dsimp only; rw [List.mem_append]; exact .inl (ht x hx)
theorem tail_cells (hM : Mem wr B bp lv va first nv { st with W := updN st.W lost ((st.W lost).set q i) } F) (hv : (F (.watch lost)).v = .slice (some ⟨gL, 0, none⟩) N capL) (hN : (st.W lost).length = N) (hkl : kept.length = q) (htk : (st.W lost).take q = kept) (hqk : q ≤ k) (hkN : k < N) :
    wr.ownsRow B 3 1 (.slice (some ⟨gL, 0, none⟩) (q + 1) capL) (q + 1) ((kept ++ [i]).map iv) ∧ (∀ j u, (((st.W lost).drop (k + 1)).map iv)[j]? = some u → wr.cell? ((⟨gL, k + 1, none⟩ : Addr).add j) = some u) ∧ (((st.W lost).drop (k + 1)).map iv).length = N - (k + 1) := by
  have hN' : (({ st with W := updN st.W lost ((st.W lost).set q i) } : PS).W lost).length = N := by dsimp only; rw [updN_same]; simpa using hN
  refine ⟨?_, fun j u hu => ?_, by simp; omega⟩
  · have := hM.cutWatch (q := q + 1) hv (by omega) hN'
    dsimp only at this
    rw [updN_same, set_take (by omega), htk] at this
    exact this
  · have hj : j < N - (k + 1) := by
      have := (List.getElem?_eq_some_iff.1 hu).1
      simp at this; omega
    have ea : (⟨gL, k + 1, none⟩ : Addr).add j = ⟨gL, k + 1 + j, none⟩ := by unfold Addr.add; split <;> simp_all
    rw [ea, hM.own.cell hv (k + 1 + j) (by rw [hM.watch, List.length_map, hN']; omega), hM.watch]
    dsimp only
    rw [updN_same, List.getElem?_map, List.getElem?_set_ne (by omega), ← hu, List.getElem?_map, List.getElem?_drop]
theorem watch_len {st : PS} {N : Nat} (G : PGood s cls) (hs : Same s st) (hN : (st.W lost).length = N) (hNl : N ≤ 100000) {rest : List Nat} (hF : FI s.n s.on cls cl fr st.row st.W st.trail head lost kept rest) : ∀ c, (st.W c).length ≤ 100000 := by
  intro c
  by_cases e : c = lost
  · rw [e, hN]; exact hNl
  · have h1 := hF.si.nd c
    have h2 := hF.si.wat c
    rw [updN_other _ _ e] at h1 h2
    exact Nat.le_trans (nodup_bound h1 fun x hx => (h2 x hx).1) G.hn
theorem row_rng (G : PGood s cls) (hnv : nv = 40002) (hs : Same s st) {rest : List Nat} (hF : FI s.n s.on cls cl fr st.row st.W st.trail head lost kept rest) (hi : i < s.n) : ∀ x, x ∈ st.row i → x < st.m ∧ x < nv := by
  intro x hx
  refine ⟨?_, by rw [hnv]; exact ((hF.ro i hi).rng hx).2⟩
  obtain ⟨l, hl, hlit, rfl⟩ := (hF.ro i hi x).1 hx
  rw [hs.m]; exact G.hm i hi l hl hlit
theorem fail_P (G : PGood s cls) (hM : Mem wr B bp lv va first nv st F) (hv : (F (.watch lost)).v = .slice (some ⟨gL, 0, none⟩) N capL) (hWv : (F .watches).v = .slice (some ⟨gW, 0, none⟩) st.m capW) (hm : lost < st.m)
    (hs : Same s st) (ht : ∀ x, x ∈ s.trail → x ∈ st.trail) {rest : List Nat} (hF : FI s.n s.on cls cl fr st.row st.W st.trail head lost kept rest) (hb : Below B w wr) (hC : Clash cl fr) (hg : wr.grownBy w1 (some gL)) {M : Nat}
    (hM' : (kept ++ rest).length = M) (hcut : w1.ownsRow B 3 1 (.slice (some ⟨gL, 0, none⟩) M capL) M ((kept ++ rest).map iv)) :
    FollowP B bp lv first nv s cls cl fr head w (.returned (.bool false)) (w1.setCell ⟨gW, lost, none⟩ (.slice (some ⟨gL, 0, none⟩) M capL)) := by
  subst hM'
  obtain ⟨F2, M2⟩ := hM.putWatch (w' := w1) (l := kept ++ rest) hm hv hg hcut hWv
  have hBg : B ≤ gW := ((hM.own.1 .watches).lt gW (by rw [hWv]; rfl)).1
  have hBL : B ≤ gL := ((hM.own.1 (.watch lost)).lt gL (by rw [hv]; rfl)).1
  have hBh : B ≤ wr.heap.size := Nat.le_trans hM.hB (Nat.le_of_lt hM.obj.lt)
  refine ⟨_, va, F2, M2, (hb.grown hg hBh (fun k hk => by cases hk; exact hBL)).setCell hBg _, ⟨hs.n, hs.m, hs.on, hs.short, hs.len, hs.ex⟩, ⟨?_, ?_, hF.ti, ?_, ?_, ?_⟩, ht, .inr ⟨rfl, hC⟩⟩
  · dsimp only; rw [hs.n]; exact hF.si
  · dsimp only; rw [hs.n]; exact hF.ro
  · dsimp only; rw [hs.n, hs.m]; exact G.hm
  · dsimp only; rw [hs.n, hs.short]; intro i; rw [hs.len]; exact G.sh i
  · dsimp only; rw [hs.n]; exact G.hn
end

set_option maxHeartbeats 4000000 in
set_option maxRecDepth 100000 in
theorem follow_some (B bp : Nat) (lv va : Value) (first nv : Nat) (s : PS) (F : Ix → Ent) (w : World) (cls : Nat → List Int) (cl : List (List Int)) (fr : List Int) (head lost : Nat) (h : Mem w B bp lv va first nv s F) (G : PGood s cls) (hnv : Hid (nv = 40002)) (hlm : lost < s.m) (hN0 : 0 < (s.W lost).length)
    (hh : head < s.trail.length) (hd : s.trail.getD head 0 = opp lost) (hP : PI s.n s.row s.on s.trail head) (hD : ∀ x, x ∈ s.trail → D cl fr x) (hon : ∀ i, i < s.n → s.on i = true → cls i ∈ cl) :
    Calls Try.prog 57 #[.pointer (some ⟨bp, 0, none⟩), .int .i64 lost] w (FollowP B bp lv first nv s cls cl fr head w) := by
  have hFI := start_FI (lost := lost) G hh hd hP hD hon
  have hNl := G.watchLen lost
  have hl0 : (F (.watch lost)).xs.length = (s.W lost).length := by rw [h.watch]; simp
  obtain ⟨gL, capL, hv, hgB, _, hNc, hcm⟩ := h.own.form (.watch lost) (by omega)
  rw [hl0] at hv hNc
  obtain ⟨gW, capW, hWv, hW1, hW2, hW3, hW4, hW5⟩ := h.watchesAt (by omega)
  have f6 := h.field.2.2.2.2.2.1
  rw [hWv] at f6
  have wl := hW1 lost hlm
  rw [hv] at wl
  have HG := Lib.hid G
  have HR0 : Hid (FRel B bp lv first nv s cls cl fr head lost gL capL (s.W lost).length w 0 0 w) := Lib.hid ⟨va, s, F, [], h, hv, rfl, rfl, rfl, Nat.le_refl _, Same.refl s, fun x hx => hx, hFI, Below.refl _ _⟩
  unfold maxLen at hcm
  clear h G hFI hl0 hv hWv hW1 hW2 hW5 hh hd hP hD hon
  generalize (s.W lost).length = N at *
  go_enter Try.func57, Try.ntmps57
  go_wp2
  go_loopw [6, 21] (fun kv it wr => ∃ q k : Nat, k ≤ N ∧ q ≤ k ∧ it = .int .i64 k ∧ kv = .slice (some ⟨gL, 0, none⟩) q capL ∧ FRel B bp lv first nv s cls cl fr head lost gL capL N w q k wr) (fun _ it _ => N - (intOf it).toNat)
  case atStart => exact ⟨0, 0, Nat.zero_le _, Nat.le_refl _, rfl, rfl, HR0.out⟩
  case round =>
    obtain ⟨q, k, hk, hqk, rfl, rfl, hrel⟩ := hrel
    clear f6 wl HR0
    have HR := Lib.hid hrel
    obtain ⟨va1, st, F1, kept, hM, hv, hN, hkl, htk, _, hs, ht, hF, hb⟩ := hrel
    have hms : st.m = s.m := hs.m
    obtain ⟨gW', capW', hWv, hW1, hW2, hW3', hW4', hW5⟩ := hM.watchesAt (by omega)
    by_cases hlt : k < N
    · have HM := Lib.hid hM
      have hdr : (st.W lost).drop k = (st.W lost).getD k 0 :: (st.W lost).drop (k + 1) := by
        rw [List.drop_eq_getElem_cons (by omega), List.getD_eq_getElem?_getD, List.getElem?_eq_getElem (by omega), Option.getD_some]
      rw [hdr] at hF
      have cL := hM.own.cell hv k (by rw [hM.watch]; simp; omega)
      rw [hM.watch, getD_iv (by omega)] at cL
      generalize (st.W lost).getD k 0 = i at *
      obtain ⟨hi, h2, hor⟩ := hF.at
      have hns : st.n = s.n := hs.n
      obtain ⟨gR, capR, hR, hR1⟩ := hM.rowsAt (by omega)
      obtain ⟨gi, capi, hI, hI1, hI2, hI3, hI4, hI5⟩ := hM.rowAt i (by omega)
      have f2 := hM.field.2.2.1
      rw [hR] at f2
      have r1 := hR1 i (by omega)
      rw [hI] at r1
      have c0 := hI1 0 (by omega)
      have c1 := hI1 1 (by omega)
      have z0 := hI5 0
      have z1 := hI5 1
      have HI := Lib.hid hI
      have HV := Lib.hid hv
      have HN := Lib.hid hN
      have HKL := Lib.hid hkl
      have HTK := Lib.hid htk
      have HS := Lib.hid hs
      have HT := Lib.hid ht
      have HF := Lib.hid hF
      have HB := Lib.hid hb
      have HOR := Lib.hid hor
      clear hM hdr hv hN hkl htk hs ht hF hb hor hR hR1 hI1 hI5 hI hWv hW1 hW2 hW5
      rw [hns] at f2
      generalize hL : (st.row i).length = L at *
      have HL := Lib.hid hL
      clear hL
      have h0L : 0 < L := by omega
      have h1L : 1 < L := by omega
      generalize hy0 : (st.row i).getD 0 0 = y0 at *
      generalize hy1 : (st.row i).getD 1 0 = y1 at *
      have HY0 := Lib.hid hy0
      have HY1 := Lib.hid hy1
      clear hy0 hy1
      go_upto_if 37 with (fail)
      go_cut [9] (fun cv wx => cv = .slice (some ⟨gi, 0, none⟩) L capi ∧ FMid B bp lv first nv s cls cl fr head lost gL capL N w q k i gi capi L wx)
      case first =>
        by_cases h0 : y0 = lost
        · subst h0
          have HMID := Lib.hid (mid_swap HM.out HV.out HN.out HKL.out HTK.out hqk HS.out HT.out HF.out HB.out HI.out HL.out HY1.out HY0.out)
          go_wp2
          go_region
          all_goals (go_wp2; go_meet; exact ⟨rfl, HMID.out⟩)
        · have b0 : ((y0 : Int) == (lost : Int)) = false := by rw [beq_eq_false_iff_ne]; omega
          have HMID : Hid (FMid B bp lv first nv s cls cl fr head lost gL capL N w q k i gi capi L wr) := Lib.hid ⟨va1, st, F1, kept, HM.out, HV.out, HN.out, HKL.out, HTK.out, hqk, HS.out, HT.out, HF.out, HB.out, HI.out, HL.out, HY1.out.trans (HOR.out.resolve_left h0)⟩
          clear h0
          go_wp2
          go_meet
          exact ⟨rfl, HMID.out⟩
      case rest =>
        obtain ⟨rfl, hmid⟩ := hcut
        clear HM HV HN HKL HTK HS HT HF HB HI HL HOR f2 r1 c0 c1 z0 z1 cL HY0 HY1
        obtain ⟨va2, s2, F2, kept2, hM, hv, hN, hkl, htk, _, hs, ht, hF, hb, hI, hL, h1⟩ := hmid
        have hns2 : s2.n = s.n := hs.n
        have hms2 : s2.m = s.m := hs.m
        have hrow := hF.ro i hi
        have hm0 : (s2.row i).getD 0 0 ∈ s2.row i := get_mem (by omega)
        have hx0 : (s2.row i).getD 0 0 < nv := by rw [hnv.out]; exact (hrow.rng hm0).2
        obtain ⟨gO, capO, hO, hO1⟩ := hM.onAt (by omega)
        obtain ⟨gV, capV, hV, hV1, hV2, hV3, hV4, hV5⟩ := hM.vals (by omega)
        obtain ⟨f0, f1, f2, f3, f5, f6, f7, f8⟩ := hM.field
        rw [hO, hns2] at f3
        rw [hV] at f7
        have o1 := hO1 i (by omega)
        rw [hs.on] at o1
        have v0 := hV4 _ hx0
        have c0 := hM.own.cell hI 0 (by rw [hM.row]; simp; omega)
        rw [hM.row, getD_iv (by omega)] at c0
        have cq := hM.own.cell hv q (by rw [hM.watch]; simp; omega)
        rw [hM.watch, getD_iv (by omega)] at cq
        have zq := hM.own.frozen hv q
        have HM := Lib.hid hM
        have HV := Lib.hid hv
        have HN := Lib.hid hN
        have HKL := Lib.hid hkl
        have HTK := Lib.hid htk
        have HS := Lib.hid hs
        have HT := Lib.hid ht
        have HF := Lib.hid hF
        have HB := Lib.hid hb
        have HI := Lib.hid hI
        have HL := Lib.hid hL
        have H1 := Lib.hid h1
        have HNS := Lib.hid hns2
        have HMS := Lib.hid hms2
        generalize hy0 : (s2.row i).getD 0 0 = x0 at *
        have HY0 := Lib.hid hy0
        generalize (s2.W lost).getD q 0 = old at *
        clear hM hv hN hkl htk hs ht hF hb hI hL h1 hrow hO hO1 hV hV4 hV5 f0 f1 f2 f5 f6 f8 hy0 hns2 hms2 hm0
        have hqc : q + 1 ≤ capL := by omega
        have hgL' : gL < wc.heap.size := by rw [show gL = (⟨gL, q, none⟩ : Addr).block from rfl]; exact World.block_lt_of_cell? wc _ cq
        cases hon : s.on i
        · rw [hon] at o1
          have HON := Lib.hid hon
          clear hon v0 f7 c0
          go_wp2_with fail
          go_quiet (fail)
          have hbd := Go.Joins.below_draws wc.heap.size wc nq
          generalize wc.drewN nq = wd at *
          have cq' : wd.cell? ⟨gL, q, none⟩ = some (.int .i64 old) := (hbd.cell hgL').trans cq
          have zq' : wd.frozen? ⟨gL, q, none⟩ = false := (hbd.frozen hgL').trans zq
          have HBD := Lib.hid hbd
          have hsz := hbd.size
          have hgL2 : gL < wd.heap.size := by omega
          have HREL := Lib.hid (fun o => mid_keep HM.out HV.out HN.out HKL.out HTK.out hqk hlt HS.out HT.out (HF.out.keep (.inl HON.out)) HB.out hbd o)
          clear hbd cq zq
          go_wp2
          go_roundw
          case rel => exact ⟨q + 1, k + 1, by omega, by omega, by go_num, rfl, HREL.out _⟩
          case measure => simp [intOf]; omega
        · rw [hon] at o1
          have HON := Lib.hid hon
          clear hon
          by_cases hx : x0 ∈ s2.trail
          · rw [val_pos hx] at v0
            have HX : Hid ((s2.row i).getD 0 0 ∈ s2.trail) := Lib.hid (by rw [HY0.out]; exact hx)
            clear hx
            go_wp2_with fail
            go_quiet (fail)
            have hbd := Go.Joins.below_draws wc.heap.size wc nq
            generalize wc.drewN nq = wd at *
            have cq' : wd.cell? ⟨gL, q, none⟩ = some (.int .i64 old) := (hbd.cell hgL').trans cq
            have zq' : wd.frozen? ⟨gL, q, none⟩ = false := (hbd.frozen hgL').trans zq
            have HBD := Lib.hid hbd
            have hsz := hbd.size
            have hgL2 : gL < wd.heap.size := by omega
            have HREL := Lib.hid (fun o => mid_keep HM.out HV.out HN.out HKL.out HTK.out hqk hlt HS.out HT.out (HF.out.keep (.inr HX.out)) HB.out hbd o)
            clear hbd cq zq o1 f3 v0 f7 c0
            go_wp2
            go_roundw
            case rel => exact ⟨q + 1, k + 1, by omega, by omega, by go_num, rfl, HREL.out _⟩
            case measure => simp [intOf]; omega
          · have hvn : val s2.trail x0 ≤ 0 := by
              by_cases ho : opp x0 ∈ s2.trail
              · rw [val_neg hx ho]; decide
              · rw [val_zero hx ho]; decide
            have HX := Lib.hid hx
            generalize hz : val s2.trail x0 = z at *
            clear hz hx
            go_wp2_with fail
            go_quiet (fail)
            have hbd := Go.Joins.below_draws wc.heap.size wc nq
            generalize wc.drewN nq = wd at *
            have HBD := Lib.hid hbd
            have hsz := hbd.size
            have HM2 := Lib.hid (HM.out.below hbd)
            clear hbd
            have HMV := Lib.hid (move_any B bp lv va2 first nv s2 F2 wd HM2.out HF.out.ti i (by rw [HNS.out]; exact hi) (by rw [HL.out]; omega) (row_rng HG.out hnv.out HS.out HF.out hi) (rowLong (HF.out.ro i hi) (HF.out.si.rd i hi)) (watch_len HG.out HS.out HN.out hNl HF.out))
            have hbw := Lib.hid (HB.out.trans (HBD.out.mono (show B ≤ wc.heap.size from Nat.le_trans HM.out.hB (Nat.le_of_lt HM.out.obj.lt))))
            have cq' : wd.cell? ⟨gL, q, none⟩ = some (.int .i64 old) := (HBD.out.cell hgL').trans cq
            have zq' : wd.frozen? ⟨gL, q, none⟩ = false := (HBD.out.frozen hgL').trans zq
            have c0' : wd.cell? ⟨gi, 0, none⟩ = some (.int .i64 x0) := (HBD.out.cell (by rw [show (⟨gi, 0, none⟩ : Addr).block = gi from rfl]; exact World.block_lt_of_cell? wc _ c0)).trans c0
            have hgi' : gi < wd.heap.size := World.block_lt_of_cell? wd _ c0'
            have hgL2 : gL < wd.heap.size := by omega
            have hne1 : gi ≠ gL := fun e => by have := HM.out.own.2 (.row i) (.watch lost) gL (by rw [HI.out, e]; rfl) (by rw [HV.out]; rfl); cases this
            have hne2 : gL ≠ gi := fun e => hne1 e.symm
            clear cq zq c0 f3 f7 v0 o1
            go_wp2_with fail
            refine HMV.out.mono ?_
            rintro e w3 (⟨k2, hk2, hk2l, hk2o, rfl, hbel, va3, F3, hM3, hF3⟩ | ⟨hall, rfl, rfl⟩)
            · have HREL := Lib.hid (mid_move hM3 hF3 HV.out HN.out HKL.out HTK.out hqk HS.out HT.out HF.out H1.out hk2 hk2l hk2o (hbw.out.trans hbel))
              clear hk2l hk2o hbel hM3 hF3 cq' zq' c0'
              go_wp2
              go_roundw
              case rel => exact ⟨q, k + 1, by omega, by omega, by go_num, rfl, HREL.out⟩
              case measure => simp [intOf]; omega
            · have HALL := Lib.hid hall
              clear hall HMV
              obtain ⟨F3, M3, hF3⟩ := keep_mem HM.out HV.out HBD.out q i
              have HM3 := Lib.hid (fun o => M3.below ((Below.refl _ _).alloc (Nat.le_refl _) o))
              have HF3 := Lib.hid hF3
              clear M3 hF3
              have HX2 : Hid ((s2.row i).getD 0 0 ∉ s2.trail) := Lib.hid (by rw [HY0.out]; exact HX.out)
              have hx2 : 2 ≤ x0 ∧ x0 < 40002 := by rw [← HY0.out]; exact (HF.out.ro i hi).rng (get_mem (by rw [HL.out]; exact h0L))
              have HX3 := Lib.hid hx2
              have HTL := Lib.hid HF.out.ti.len
              clear hx2
              by_cases ho : opp x0 ∈ s2.trail
              · have HCL := Lib.hid (HF.out.fail HON.out H1.out HALL.out (by rw [HY0.out]; exact ho))
                have HV4 : Hid (val s2.trail x0 = -1) := Lib.hid (val_neg HX.out ho)
                clear ho
                go_wp2_with fail
                refine (set_known B bp lv va2 first nv _ F3 _ (HM3.out _) x0 hx0 false (-1) HV4.out (.inr ⟨rfl, rfl⟩)).mono ?_
                rintro e w4 ⟨rfl, rfl⟩
                have hM4 := HM3.out (.cells #[.int .i64 i] 3)
                have hBW : Below B w ((wd.setCell ⟨gL, q, none⟩ (.int .i64 i)).alloc (.cells #[.int .i64 i] 3)) := (hbw.out.setCell hgB _).alloc (by simp; omega) _
                generalize World.alloc (wd.setCell ⟨gL, q, none⟩ (.int .i64 i)) (.cells #[.int .i64 i] 3) = W4 at *
                have hv4 : (F3 (.watch lost)).v = .slice (some ⟨gL, 0, none⟩) N capL := by rw [HF3.out]; exact HV.out
                obtain ⟨C1, C2, C3⟩ := tail_cells hM4 hv4 HN.out HKL.out HTK.out hqk hlt
                obtain ⟨gW3, capW3, hWv3, hW31, hW32, hW33, hW34, hW35⟩ := hM4.watchesAt (by have := HMS.out; dsimp only; omega)
                have HP := Lib.hid (fun (w5 : World) (hg : W4.grownBy w5 (some gL)) M hM' hcut => fail_P (M := M) HG.out hM4 hv4 hWv3 (by have := HMS.out; dsimp only; omega) ⟨HS.out.n, HS.out.m, HS.out.on, HS.out.short, HS.out.len, HS.out.ex⟩ HT.out (FI.other (W' := updN s2.W lost ((s2.W lost).set q i)) HF.out (fun c hc => updN_other _ _ hc)) hBW HCL.out hg hM' hcut)
                have HC1 := Lib.hid C1
                have HC2 := Lib.hid C2
                have HC3 := Lib.hid C3
                have f6 := hM4.field.2.2.2.2.2.1
                rw [hWv3] at f6
                have wl := hW31 lost (by have := HMS.out; dsimp only; omega)
                have zl := hW35 lost
                have hn3 : gW3 ≠ gL := fun e => by have := hM4.own.2 .watches (.watch lost) gL (by rw [hWv3, e]; rfl) (by rw [hv4]; rfl); cases this
                have hn4 : bp ≠ gL := fun e => hM4.ne (.watch lost) (by rw [hv4, e]; rfl)
                have F6 := Lib.hid f6
                have WL := Lib.hid wl
                have ZL := Lib.hid zl
                have hdl : (((s2.W lost).drop (k + 1)).map iv).length = N - (k + 1) := C3
                have HE : Hid ((kept2 ++ [i]).map iv ++ ((s2.W lost).drop (k + 1)).map iv = (kept2 ++ (i :: (s2.W lost).drop (k + 1))).map iv) := Lib.hid (by simp)
                have HEL : Hid ((kept2 ++ (i :: (s2.W lost).drop (k + 1))).length = q + 1 + (N - (k + 1))) := Lib.hid (by rw [List.length_map] at C3; simp only [List.length_append, List.length_cons, HKL.out, C3]; omega)
                generalize (F3 (.watch lost)).v = wlv at WL
                clear hM4 hBW hv4 C1 C2 C3 hWv3 hW31 hW35 f6 wl zl HM3 cq' zq' c0' hdl
                obtain ⟨i0, hi0, hz0, hz1, hz2⟩ := info_parts infoI
                by_cases hcap : capL = k + 1
                · subst hcap
                  obtain rfl : N = k + 1 := by omega
                  have hE0 : (s2.W lost).drop (k + 1) = [] := List.drop_eq_nil_of_le (by rw [HN.out]; exact Nat.le_refl _)
                  have hmk : IntKind.i64.wrap ((k : Int) + 1) = (k : Int) + 1 := IntWalk.i64_in _ (by omega)
                  rw [hE0] at HE HEL HP
                  clear hE0
                  have HEL : Hid ((kept2 ++ [i]).length = q + 1) := Lib.hid (by simp [HKL.out])
                  go_wp2_with (at_builtin; refine wpList_append_fits_any _ rfl _ _ 29 rfl B 3 i0 1 Try.underlying29 hi0 hz1 gL (q + 1) (k + 1) ((kept2 ++ [i]).map iv) rfl HC1.out (some ⟨gL, 0, none⟩) 0 0 [] rfl ?n ?no ?ce ?on ?fi ?_)
                  case n => rfl
                  case ce => intro ad _ j u hu; simp at hu
                  case on => intro u hu; simp at hu
                  case fi => omega
                  intro w5 hown5 hgrow5
                  have f6' := hgrow5.cell F6.out (by simpa using hn4)
                  have wl' := hgrow5.cell WL.out (by simpa using hn3)
                  have zl' : w5.frozen? ⟨gW3, lost, none⟩ = false := (World.frozen?_of_block (hgrow5.block gW3 hW34 (by simpa using hn3))).trans ZL.out
                  have hlm2 : lost < s2.m := by have := HMS.out; omega
                  have HPP := Lib.hid (HP.out w5 hgrow5 _ HEL.out (by simpa using hown5))
                  clear hown5 hgrow5
                  go_wp2
                  go_ret
                  exact HPP.out
                · have hcap' : k + 1 < capL := by omega
                  have hmk : IntKind.i64.wrap ((k : Int) + 1) = (k : Int) + 1 := IntWalk.i64_in _ (by omega)
                  clear hcap
                  go_wp2_with (at_builtin; refine wpList_append_fits_any _ rfl _ _ 29 rfl B 3 i0 1 Try.underlying29 hi0 hz1 gL (q + 1) capL ((kept2 ++ [i]).map iv) rfl HC1.out (some ⟨gL, k + 1, none⟩) (N - (k + 1)) (capL - (k + 1)) (((s2.W lost).drop (k + 1)).map iv) rfl ?n2 ?no2 ?ce2 ?on2 ?fi2 ?_)
                  case n2 => simpa using HC3.out
                  case no2 => intro h; cases h
                  case ce2 => intro ad had; cases had; exact HC2.out
                  case on2 => intro u hu; obtain ⟨x, _, rfl⟩ := List.mem_map.1 hu; rfl
                  case fi2 => omega
                  intro w5 hown5 hgrow5
                  have f6' := hgrow5.cell F6.out (by simpa using hn4)
                  have wl' := hgrow5.cell WL.out (by simpa using hn3)
                  have zl' : w5.frozen? ⟨gW3, lost, none⟩ = false := (World.frozen?_of_block (hgrow5.block gW3 hW34 (by simpa using hn3))).trans ZL.out
                  have hlm2 : lost < s2.m := by have := HMS.out; omega
                  have HPP := Lib.hid (HP.out w5 hgrow5 _ HEL.out (by rw [← HE.out]; simpa using hown5))
                  clear hown5 hgrow5
                  go_wp2
                  go_ret
                  exact HPP.out
              · have HO := Lib.hid ho
                clear ho
                go_wp2_with fail
                refine (set_open B bp lv va2 first nv _ F3 _ (HM3.out _) x0 hx0 (by rw [hnv.out]; exact (opp_rng x0 HX3.out.1 HX3.out.2).2) (by have := HX3.out; omega) (by have := HTL.out; dsimp only; omega) HX.out HO.out).mono ?_
                rintro e w4 ⟨rfl, hb4, va4, F4, hM4, hF4⟩
                have HREL := Lib.hid (mid_push (i := i) hM4 (by rw [hF4 _ (by simp), HF3.out]; exact HV.out) HN.out HKL.out HTK.out hqk hlt HS.out HT.out (by have := HF.out.push HON.out H1.out HALL.out HX2.out (by rw [HY0.out]; exact HO.out); rw [HY0.out] at this; exact this) (((hbw.out.setCell hgB _).alloc (by simp; omega) _).trans hb4))
                clear hb4 hM4 hF4 cq' zq' c0'
                go_wp2
                go_roundw
                case rel => exact ⟨q + 1, k + 1, by omega, by omega, by go_num, rfl, HREL.out⟩
                case measure => simp [intOf]; omega
    · obtain rfl : k = N := by omega
      have f6 := hM.field.2.2.2.2.2.1
      rw [hWv] at f6
      have wl := hW1 lost (by omega)
      have zl := hW5 lost
      have hml : lost < st.m := by omega
      rw [List.drop_eq_nil_of_le (by omega)] at hF
      have HP := Lib.hid (done_P HG.out hM hv hWv hml hN hkl htk hqk hs ht hF hb)
      clear hM hv hN hkl htk hs ht hF hb hWv hW1 hW5 hms
      generalize (F1 (.watch lost)).v = wlv at *
      go_wp2
      go_ret
      exact HP.out
end Go.Proofs.Ytojjjndhabjhdaa.proofD
