/-
  Contracts of literalOf, codeOf.
  Contract of clauseOf.
  Contract of opposites.
  Contract of (*search).again.
-/
import Derived.Test.YtojjjndhabjhdaaDoorSatO
import Derived.Test.YtojjjndhabjhdaaDoorShelf
import Derived.Sort.OwnSortedInts
import Derived.Lib.RowBridge
import Derived.Deep.Onto
namespace Go.Proofs.YtojjjndhabjhdaaDoor.satW
set_option linter.unusedSimpArgs false
set_option linter.unusedVariables false
open Go.ChangeShapes Go.WideShapes Go.ChangeAt Go.RowKit proofP proofQ owns cls satP satQ satR satA satF satB satC satD satE satG satH satI satJ satK satM satN satU satV satO
attribute [local go_sem ↓] Go.wp_at_zero Go.wp_at_succ

theorem literal_any (w : World) (c : Nat) (h : c < 1000000) : Calls Tryd.prog 75 #[.int .i64 c] w fun e w' => e = .returned (.int .i64 (litOf c)) ∧ w' = w := by
  have ha := and1 c (by omega)
  have hw : IntKind.i64.wrap (-((c : Int) / 2)) = -((c : Int) / 2) := IntWalk.i64_in _ (by omega)
  unfold litOf
  by_cases e : c % 2 = 0
  · rw [if_pos e]
    rw [e] at ha
    have HE : Hid ((((c / 2 : Nat) : Int)) = (c : Int) / 2) := Lib.hid (by omega)
    rw [HE.out]
    clear e
    go_enter Tryd.func75, Tryd.ntmps75
    go_wp2
    go_ret
    exact ⟨rfl, rfl⟩
  · rw [if_neg e]
    have e1 : c % 2 = 1 := by omega
    rw [e1] at ha
    have HE : Hid ((((c / 2 : Nat) : Int)) = (c : Int) / 2) := Lib.hid (by omega)
    rw [HE.out]
    clear e e1
    go_enter Tryd.func75, Tryd.ntmps75
    go_wp2
    go_ret
    exact ⟨rfl, rfl⟩
theorem code_any (w : World) (l : Int) (h : -20000 ≤ l ∧ l ≤ 20000) : Calls Tryd.prog 27 #[.int .i64 l] w fun e w' => e = .returned (.int .i64 (code l : Nat)) ∧ w' = w := by
  have h1 : IntKind.i64.wrap (2 * l) = 2 * l := IntWalk.i64_in _ (by omega)
  have h2 : IntKind.i64.wrap (2 * l + 1) = 2 * l + 1 := IntWalk.i64_in _ (by omega)
  have h3 : IntKind.i64.wrap (-2 * l) = -2 * l := IntWalk.i64_in _ (by omega)
  by_cases e : l < 0
  · have HE : Hid (((code l : Nat) : Int) = -2 * l) := Lib.hid (by unfold code; split <;> omega)
    rw [HE.out]
    go_enter Tryd.func27, Tryd.ntmps27
    go_wp2
    go_ret
    exact ⟨rfl, rfl⟩
  · have HE : Hid (((code l : Nat) : Int) = 2 * l + 1) := Lib.hid (by unfold code; split <;> omega)
    rw [HE.out]
    go_enter Tryd.func27, Tryd.ntmps27
    go_wp2
    go_ret
    exact ⟨rfl, rfl⟩

def _root_.Go.Proofs.YtojjjndhabjhdaaDoor.satA.SS.sm (s : SS) (z : Int) (st : List Int) : SS := { s with stamp := z, stamps := st }
section
variable {w w' : World} {B bp : Nat} {s : SS} {F : Ix → Ent}
theorem _root_.Go.Proofs.YtojjjndhabjhdaaDoor.satA.Mem.setStamp (h : Mem w B bp s F) (z : Int) : Mem (w.setCell ⟨bp, 16, none⟩ (.int .i64 z)) B bp (s.sm z s.stamps) F :=
  h.field 16 (.int .i64 z) rfl (by intro i; cases i <;> rfl) rfl rfl rfl rfl
theorem _root_.Go.Proofs.YtojjjndhabjhdaaDoor.satA.Mem.setStamps (h : Mem w B bp s F) {g cap n : Nat} (hv : (F .stamps).v = .slice (some ⟨g, 0, none⟩) n cap) (j : Nat) (z : Int) :
    ∃ F', Mem (w.setCell ⟨g, j, none⟩ (.int .i64 z)) B bp (s.sm s.stamp (s.stamps.set j z)) F' ∧ fvs F' = fvs F :=
  ⟨_, (h.write hv j (.int .i64 z) (s' := s.sm s.stamp (s.stamps.set j z)) (by show (s.stamps.set j z).map zv = _; rw [List.map_set]; rfl) (by intro i hi; cases i <;> first | rfl | exact absurd rfl hi) rfl rfl rfl rfl rfl).1, fvs_set _ _ _⟩
theorem _root_.Go.Proofs.YtojjjndhabjhdaaDoor.satA.Mem.stampsAt (h : Mem w B bp s F) (h0 : 0 < s.stamps.length) : ∃ g cap, (F .stamps).v = .slice (some ⟨g, 0, none⟩) s.stamps.length cap ∧ w.cell? ⟨bp, 15, none⟩ = some (.slice (some ⟨g, 0, none⟩) s.stamps.length cap) ∧ (∀ p, p < s.stamps.length → ∃ z, w.cell? ⟨g, p, none⟩ = some (.int .i64 z)) ∧ (∀ p, w.frozen? ⟨g, p, none⟩ = false) ∧ g ≠ bp ∧ B ≤ g ∧ g < w.heap.size := by
  obtain ⟨g, c, hv, q, z, n1, b1, l1, r1, k1, _⟩ := h.at .stamps (n := s.stamps.length) (by simp [cont]) h0
  have f : w.cell? ⟨bp, 15, none⟩ = some (F .stamps).v := h.fld 15
  rw [hv] at f
  exact ⟨g, c, hv, f, fun j hj => ⟨s.stamps[j], by rw [q j hj, show cont s (fvs F) .stamps = s.stamps.map zv from rfl, List.getElem?_map, List.getElem?_eq_getElem hj]; rfl⟩, z, n1, b1, l1⟩
def SpP (B bp : Nat) (s : SS) (F : Ix → Ent) (w : World) (m : Nat) (w' : World) : Prop :=
  ∃ st F', Mem w' B bp (s.sm (s.stamp + 1) st) F' ∧ fvs F' = fvs F ∧ st.length = s.stamps.length ∧ Below B w w'
theorem SpP.drew {m : Nat} (h : SpP B bp s F w m w') : SpP B bp s F w m w'.drew := by
  obtain ⟨st, F', M, hF, hst, hb⟩ := h
  exact ⟨st, F', M.below (Below.refl _ _).drew, hF, hst, hb.drew⟩
set_option maxHeartbeats 2000000 in
set_option maxRecDepth 100000 in
theorem spread_any (h : Mem w B bp s F) (hV : s.V ≤ 20000) (hz : 0 ≤ s.stamp ∧ s.stamp ≤ 1000000000000) (hk0 : 0 < (s.tmp 1).length) (hkl : (s.tmp 1).length ≤ 100000) (hc : ∀ c, c ∈ s.tmp 1 → c < 2 * s.V + 2 ∧ s.lvl (c / 2) < s.stamps.length) (hsl : s.stamps.length ≤ 100000) :
    Calls Tryd.prog 56 #[.pointer (some ⟨bp, 0, none⟩), (F (.tmp 1)).v] w fun e w' => ∃ m : Nat, m ≤ (s.tmp 1).length ∧ e = .returned (.int .i64 m) ∧ SpP B bp s F w m w' := by
  obtain ⟨gC, cC, hCv, qC, zC, nC, bC, lC, kC, mC⟩ := h.tmpAt 1 hk0
  have hB := h.hB
  have hbl := h.obj.lt
  have f16 : w.cell? ⟨bp, 16, none⟩ = some (.int .i64 s.stamp) := h.fld 16
  have z16 := h.obj.frozen 16
  have hwz : IntKind.i64.wrap (s.stamp + 1) = s.stamp + 1 := IntWalk.i64_in _ (by omega)
  have HR0 : Hid (SpP B bp s F w 0 (w.setCell ⟨bp, 16, none⟩ (.int .i64 (s.stamp + 1)))) := Lib.hid ⟨s.stamps, F, h.setStamp _, rfl, rfl, (Below.refl _ _).setCell hB _⟩
  have HC := Lib.hid hc
  have HCV := Lib.hid hCv
  have HQ := Lib.hid qC
  rw [hCv]
  clear h hCv hc qC
  go_enter Tryd.func56, Tryd.ntmps56
  go_wp2
  go_loopw [5, 18] (fun nv it wx => ∃ k m : Nat, it = .int .i64 k ∧ nv = .int .i64 m ∧ m ≤ k ∧ k ≤ (s.tmp 1).length ∧ SpP B bp s F w m wx) (fun _ it _ => (s.tmp 1).length - (intOf it).toNat)
  case atStart => exact ⟨0, 0, rfl, rfl, Nat.le_refl _, Nat.zero_le _, HR0.out⟩
  case round =>
    obtain ⟨k, m, rfl, rfl, hmk, hk, st, F2, M, hF, hst, hb⟩ := hrel
    clear HR0
    by_cases hlt : k < (s.tmp 1).length
    · have hv1 : (F2 (.tmp 1)).v = .slice (some ⟨gC, 0, none⟩) (s.tmp 1).length cC := (congrFun hF (.tmp 1)).trans HCV.out
      have hx1 : (F2 (.tmp 1)).xs = (s.tmp 1).map iv := M.xs _
      have q := M.own.cell hv1 k (by rw [hx1]; simpa using hlt)
      rw [hx1, getD_iv hlt] at q
      have hcm := HC.out _ (getD_mem' hlt)
      generalize (s.tmp 1).getD k 0 = c at *
      obtain ⟨gL, cL, hLv, f8, qL, nL, lL⟩ := M.lvlAt
      have q8 := qL (c / 2) (by show c / 2 ≤ s.V; omega)
      have hcv : c / 2 < s.V + 1 := by omega
      change wr.cell? ⟨bp, 8, none⟩ = some (.slice (some ⟨gL, 0, none⟩) (s.V + 1) cL) at f8
      change wr.cell? ⟨gL, c / 2, none⟩ = some (.int .i64 (s.lvl (c / 2) : Nat)) at q8
      obtain ⟨gS, cS, hSv, f15, qS, zS, nS, bS, lS⟩ := M.stampsAt (by show 0 < st.length; omega)
      have hls := hcm.2
      rw [← hst] at hls
      obtain ⟨F3, M3, K3⟩ := M.setStamps hSv (s.lvl (c / 2)) (s.stamp + 1)
      obtain ⟨old, q15⟩ := qS (s.lvl (c / 2)) hls
      have z15 := zS (s.lvl (c / 2))
      change wr.cell? ⟨bp, 15, none⟩ = some (.slice (some ⟨gS, 0, none⟩) st.length cS) at f15
      have f16 : wr.cell? ⟨bp, 16, none⟩ = some (.int .i64 (s.stamp + 1)) := M.fld 16
      have hwb := M.obj.lt
      have HY : Hid (SpP B bp s F w (m + 1) (wr.setCell ⟨gS, s.lvl (c / 2), none⟩ (.int .i64 (s.stamp + 1)))) := Lib.hid ⟨_, F3, M3, K3.trans hF, by rw [List.length_set]; exact hst, hb.setCell bS _⟩
      have HN : Hid (SpP B bp s F w m wr) := Lib.hid ⟨st, F2, M, hF, hst, hb⟩
      generalize s.lvl (c / 2) = lv at *
      clear M hb hF hst M3 K3 hSv qS zS qL hLv hv1 hx1 hcm
      by_cases he : old = s.stamp + 1
      · subst he
        go_wp2
        go_region
        go_wp2
        go_roundw
        case rel => exact ⟨k + 1, m, by go_num, rfl, by omega, by omega, HN.out.drew⟩
        case measure => simp [intOf]; omega
      · have he2 : (old == s.stamp + 1) = false := beq_eq_false_iff_ne.2 he
        go_wp2
        go_region
        go_wp2
        go_region
        go_wp2
        go_roundw
        case rel => exact ⟨k + 1, m + 1, by go_num, by go_num, by omega, by omega, HY.out.drew.drew⟩
        case measure => simp [intOf]; omega
    · obtain rfl : k = (s.tmp 1).length := by omega
      have HFIN : Hid (SpP B bp s F w m wr) := Lib.hid ⟨st, F2, M, hF, hst, hb⟩
      clear M hb hF hst
      go_wp2
      go_ret
      exact ⟨m, hmk, rfl, HFIN.out⟩
end
end Go.Proofs.YtojjjndhabjhdaaDoor.satW
namespace Go.Proofs.YtojjjndhabjhdaaDoor.satX
set_option linter.unusedSimpArgs false
set_option linter.unusedVariables false
open Go.ChangeShapes Go.WideShapes Go.ChangeAt Go.RowKit proofP proofQ owns cls satP satQ satR satA satF satB satC satD satE satG satH satI satJ satK satM satN satU satV satO satW
attribute [local go_sem ↓] Go.wp_at_zero Go.wp_at_succ

theorem own_cut {w : World} {B : Nat} {e : TypeId} {g cap n m : Nat} {xs : List Value} (h : w.ownsRow B e 1 (.slice (some ⟨g, 0, none⟩) n cap) n xs) (hm : m ≤ n) : w.ownsRow B e 1 (.slice (some ⟨g, 0, none⟩) m cap) m (xs.take m) := by
  have hl := h.1
  rcases h.2 with ⟨hv, _⟩ | ⟨g', cap', cur, hv, hb, hg, hn', hm', hc, ht⟩
  · cases hv
  · simp only [Value.slice.injEq, Option.some.injEq, Addr.mk.injEq, and_true] at hv
    obtain ⟨rfl, _, rfl⟩ := hv
    refine ⟨by simp; omega, .inr ⟨g, cap, cur, rfl, hb, hg, by omega, hm', hc, ?_⟩⟩
    rw [← ht, List.take_take]; congr 1; omega

open Go.Sort in
theorem own_holds {w : World} {B : Nat} {e : TypeId} {g cap : Nat} {zs : List Int} (h : w.ownsRow B e 1 (.slice (some ⟨g, 0, none⟩) zs.length cap) zs.length (zs.map (Value.int .i64))) : Holds (Value.int .i64) w g 0 zs.toArray ∧ g < w.heap.size ∧ zs.length ≤ cap := by
  rcases h.2 with ⟨hv, _⟩ | ⟨g', cap', cur, hv, hb, hg, hn', hm', hc, ht⟩
  · cases hv
  · simp only [Value.slice.injEq, Option.some.injEq, Addr.mk.injEq, and_true, true_and] at hv
    obtain ⟨rfl, rfl⟩ := hv
    exact ⟨holds_of_blockI hg (by rw [← ht]; congr 1; omega), (Array.getElem?_eq_some_iff.1 hg).1, hn'⟩
open Go.Sort in
theorem own_put {w : World} {B : Nat} {e : TypeId} {g cap : Nat} {zs ts : List Int} (h : w.ownsRow B e 1 (.slice (some ⟨g, 0, none⟩) zs.length cap) zs.length (zs.map (Value.int .i64))) (hl : ts.length = zs.length) (n : Nat) (os : Array Obj) :
    (grow (putRow (Value.int .i64) (Sort.ahead w n) g 0 ts.toArray) os).ownsRow B e 1 (.slice (some ⟨g, 0, none⟩) zs.length cap) zs.length (ts.map (Value.int .i64)) ∧ w.grownBy (grow (putRow (Value.int .i64) (Sort.ahead w n) g 0 ts.toArray) os) (some g) := by
  rcases h.2 with ⟨hv, _⟩ | ⟨g', cap', cur, hv, hb, hg, hn', hm', hc, ht⟩
  · cases hv
  · simp only [Value.slice.injEq, Option.some.injEq, Addr.mk.injEq, and_true, true_and] at hv
    obtain ⟨rfl, rfl⟩ := hv
    exact ⟨ownsRow_sortedI hl hb hg hn' hm' hc, grownBy_sortedI _⟩

set_option maxHeartbeats 2000000 in
/-- numbers in order -/
def srt (zs : List Int) : List Int := zs.mergeSort fun x y => decide (x ≤ y)
/-- a clause of codes -/
def clz (ks : List Nat) : List Int := (srt (ks.map fun x : Nat => (x : Int))).map fun z => litOf z.toNat
theorem srt_mem {zs : List Int} {x : Int} : x ∈ srt zs ↔ x ∈ zs := (List.mergeSort_perm zs _).mem_iff
theorem clz_mem {ks : List Nat} {l : Int} : l ∈ clz ks ↔ ∃ c, c ∈ ks ∧ litOf c = l := by
  unfold clz
  rw [List.mem_map]
  constructor
  · rintro ⟨z, hz, rfl⟩
    obtain ⟨c, hc, rfl⟩ := List.mem_map.1 (srt_mem.1 hz)
    exact ⟨c, hc, by simp⟩
  · rintro ⟨c, hc, rfl⟩
    exact ⟨c, srt_mem.2 (List.mem_map.2 ⟨c, hc, rfl⟩), by simp⟩
theorem map_take_succ (f : Int → Int) {ts : List Int} {k : Nat} (h : k < ts.length) : (ts.take (k + 1)).map f = (ts.take k).map f ++ [f (ts.getD k 0)] := by
  rw [List.take_succ_eq_append_getElem h, List.map_append, List.getD_eq_getElem?_getD, List.getElem?_eq_getElem h]; rfl
set_option maxHeartbeats 2000000 in
set_option maxRecDepth 100000 in
theorem clauseOf_any (w : World) (g cap : Nat) (ks : List Nat) (h0 : 0 < ks.length) (hl : ks.length ≤ 100000) (hc : ∀ j, j < ks.length → w.cell? ⟨g, j, none⟩ = some (.int .i64 (ks.getD j 0 : Nat))) (hr : ∀ c, c ∈ ks → c < 1000000) :
    Calls Tryd.prog 50 #[.slice (some ⟨g, 0, none⟩) ks.length cap] w fun e w' => ∃ v, e = .returned v ∧ w'.ownsRow w.heap.size 3 1 v (clz ks).length ((clz ks).map (Value.int .i64)) ∧ Below w.heap.size w w' := by
  have HCL := Lib.hid (Tryd.slices_Clone_int g 0 ks.length cap (ks.map fun x : Nat => (x : Int)) w (by simp) (by omega) (fun j hj => by
    rw [Nat.zero_add, hc j (by simpa using hj)]
    have hj' : j < ks.length := by simpa using hj
    rw [List.getD_eq_getElem?_getD, List.getD_eq_getElem?_getD, List.getElem?_map, List.getElem?_eq_getElem hj']; rfl))
  have HLZ : Hid ((clz ks).length = ks.length) := Lib.hid (by unfold clz srt; rw [List.length_map, List.length_mergeSort, List.length_map])
  have HTR : Hid (∀ z, z ∈ srt (ks.map fun x : Nat => (x : Int)) → ∃ c : Nat, z = c ∧ c < 1000000) := Lib.hid fun z hz => by
    obtain ⟨c, hcm, rfl⟩ := List.mem_map.1 (srt_mem.1 hz)
    exact ⟨c, rfl, hr c hcm⟩
  have HTL : Hid ((srt (ks.map fun x : Nat => (x : Int))).length = ks.length) := Lib.hid (by unfold srt; rw [List.length_mergeSort, List.length_map])
  have HZL : Hid ((ks.map fun x : Nat => (x : Int)).length = ks.length) := Lib.hid (by simp)
  have HCZ : Hid (clz ks = (srt (ks.map fun x : Nat => (x : Int))).map fun z => litOf z.toNat) := Lib.hid rfl
  have htk : (ks.map fun x : Nat => (x : Int)).take ks.length = ks.map fun x : Nat => (x : Int) := by rw [List.take_of_length_le (by simp)]
  rw [htk] at HCL
  clear hc hr htk
  generalize (ks.map fun x : Nat => (x : Int)) = zs at *
  generalize clz ks = cz at *
  generalize ks.length = L at *
  obtain ⟨i0, hi, hz0, hz1, hz2⟩ := info_parts infoI
  go_enter Tryd.func50, Tryd.ntmps50
  go_wp2_with fail
  refine HCL.out.mono ?_
  rintro e w1 ⟨v1, rfl, hown1, _, hb1⟩
  obtain ⟨g1, cap1, rfl, hg1, hg1s, hn1, hm1⟩ := own_form hown1 h0
  have hown1' : w1.ownsRow w.heap.size 3 1 (.slice (some ⟨g1, 0, none⟩) zs.length cap1) zs.length (zs.map (Value.int .i64)) := by rw [HZL.out]; exact hown1
  obtain ⟨hH, hgl, hcp⟩ := own_holds hown1'
  have HS := Lib.hid (Tryd.slices_Sort_int g1 0 cap1 zs w1 hH hgl (by have := HZL.out; omega))
  rw [HZL.out] at HS
  have HO1 := Lib.hid hown1'
  have HB1 := Lib.hid hb1
  clear hown1 hown1' hH hb1 HCL
  go_wp2_with fail
  refine HS.out.mono ?_
  rintro e w2 ⟨rfl, n2, os2, hw2⟩
  change w2 = Go.Sort.grow (Go.Sort.putRow (Value.int .i64) (Go.Sort.ahead w1 n2) g1 0 (srt zs).toArray) os2 at hw2
  obtain ⟨o2, gr2⟩ := own_put HO1.out (ts := srt zs) (by rw [HTL.out, HZL.out]) n2 os2
  rw [← hw2] at o2 gr2
  clear hw2
  have HT := Lib.hid (rfl : srt zs = srt zs)
  generalize srt zs = ts at *
  rw [HZL.out] at o2
  have HB2 := Lib.hid (HB1.out.grown gr2 (Nat.le_trans (Nat.le_refl _) HB1.out.size) (fun k hk => by cases hk; exact hg1))
  have HCELL : Hid (∀ j, j < L → w2.cell? ⟨g1, j, none⟩ = some (.int .i64 (ts.getD j 0))) := Lib.hid fun j hj => by
    rw [o2.cellAt j (by omega), List.getElem?_map, List.getD_eq_getElem?_getD, List.getElem?_eq_getElem (by rw [HTL.out]; exact hj)]; rfl
  have hg1t : g1 < w2.heap.size := by have := gr2.size; omega
  clear o2 gr2 HS HO1 HB1 hgl hg1s hcp HT
  go_wp2_with (at_make; refine wpList_make_own _ rfl _ _ 41 rfl w2.heap.size 3 i0 (.int .i64 0) 1 Tryd.underlying41 hi hz0 hz1 .i64 .i64 _ L rfl rfl rfl ?c1 ?c2 ?c3 ?_)
  case c1 => rw [hz2]; omega
  case c2 => unfold maxLen; omega
  case c3 => exact Nat.le_refl _
  intro w3 hown3 hgrow3
  have HOW : Hid (w3.ownsRow w2.heap.size 3 1 (.slice (some ⟨w2.heap.size, 0, none⟩) 0 L) 0 (((ts.take 0).map fun z => litOf z.toNat).map (Value.int .i64))) := Lib.hid (by simpa using hown3)
  have HB3 := Lib.hid (below_grown hgrow3 (Nat.le_refl w2.heap.size) (by intro k hk; cases hk))
  clear hown3 hgrow3
  go_wp2
  go_loopw [4, 16] (fun v it wr => ∃ k : Nat, k ≤ L ∧ it = .int .i64 k ∧ wr.ownsRow w2.heap.size 3 1 v k (((ts.take k).map fun z => litOf z.toNat).map (Value.int .i64)) ∧ Below w2.heap.size w2 wr ∧ (∃ ao n cap, v = .slice ao n cap)) (fun _ it _ => L - (intOf it).toNat)
  case atStart => exact ⟨0, Nat.zero_le _, rfl, HOW.out, HB3.out, _, _, _, rfl⟩
  case round =>
    obtain ⟨k, hk, rfl, hown, hb, av, nv, cpv, rfl⟩ := hrel
    clear HOW HB3
    have HB := Lib.hid hb
    have HO := Lib.hid hown
    have hsz := hb.size
    by_cases hlt : k < L
    · have q : wr.cell? ⟨g1, k, none⟩ = some (.int .i64 (ts.getD k 0)) := (hb.cell (show (⟨g1, k, none⟩ : Addr).block < w2.heap.size from hg1t)).trans (HCELL.out k hlt)
      have hkt : k < ts.length := by have := HTL.out; omega
      have HST := Lib.hid (map_take_succ (fun z => litOf z.toNat) hkt)
      obtain ⟨c, hcz, hc⟩ := HTR.out (ts.getD k 0) (by rw [List.getD_eq_getElem?_getD, List.getElem?_eq_getElem hkt]; exact List.getElem_mem hkt)
      rw [hcz] at q HST
      have htn : ((c : Int)).toNat = c := Int.toNat_natCast c
      rw [htn] at HST
      have HLI := Lib.hid (literal_any wr c hc)
      generalize litOf c = l at *
      clear hb hown hcz htn
      have HO1 := Lib.hid (HO.out.alloc (.cells #[.int .i64 l] 3))
      go_wp2_with fail
      refine HLI.out.mono ?_
      rintro e w' ⟨rfl, rfl⟩
      go_wp2_with (at_builtin; refine wpList_append_own_at _ rfl (.tmp 20) (.tmp 23) 41 rfl w2.heap.size 3 i0 (.int .i64 0) 1 8 Tryd.underlying41 hi hz0 hz1 hz2 rfl (by decide) (.slice av nv cpv) k (((ts.take k).map fun z => litOf z.toNat).map (Value.int .i64)) rfl HO1.out ⟨w'.heap.size, 0, none⟩ 1 1 [.int .i64 l] rfl rfl (new_one _ _ _) ?d2 ?d3 ?d4 ?d5 ?_)
      case d2 => simp [Value.oneCell']
      case d3 => unfold maxLen; omega
      case d4 => omega
      case d5 => simp; omega
      intro v' w4 hown4 hgrow4 _ _
      obtain ⟨g4, cap4, rfl, _, _, _, _⟩ := own_form hown4 (by omega)
      have R1 : Hid (w4.ownsRow w2.heap.size 3 1 (.slice (some ⟨g4, 0, none⟩) (k + 1) cap4) (k + 1) (((ts.take (k + 1)).map fun z => litOf z.toNat).map (Value.int .i64))) := Lib.hid (by rw [HST.out]; simpa using hown4)
      have R2 := Lib.hid ((HB.out.alloc (by omega) _).grown hgrow4 (by simp; omega) (fun j hj => (HO.out.lt j hj).1))
      clear hown4 hgrow4
      go_wp2
      go_roundw
      case rel => exact ⟨k + 1, by omega, by go_num, R1.out, R2.out, _, _, _, rfl⟩
      case measure => simp [intOf]; omega
    · obtain rfl : k = L := by omega
      have HF : Hid (wr.ownsRow w.heap.size 3 1 (.slice av nv cpv) cz.length (cz.map (Value.int .i64))) := Lib.hid (by
        have := HO.out
        rw [List.take_of_length_le (by have := HTL.out; omega), ← HCZ.out] at this
        rw [HLZ.out]
        exact this.mono HB2.out.size)
      have HBF : Hid (Below w.heap.size w wr) := Lib.hid (HB2.out.trans (hb.mono HB2.out.size))
      clear hb hown HO HB
      go_wp2
      go_ret
      exact ⟨_, rfl, HF.out, HBF.out⟩
end Go.Proofs.YtojjjndhabjhdaaDoor.satX
namespace Go.Proofs.YtojjjndhabjhdaaDoor.satY
set_option linter.unusedSimpArgs false
set_option linter.unusedVariables false
open Go.ChangeShapes Go.WideShapes Go.ChangeAt Go.RowKit proofP proofQ owns cls satP satQ satR satA satF satB satC satD satE satG satH satI satJ satK satM satN satU satV satO satW satX
attribute [local go_sem ↓] Go.wp_at_zero Go.wp_at_succ

theorem map_take_nat (f : Nat → Nat) {ts : List Nat} {k : Nat} (h : k < ts.length) : (ts.take (k + 1)).map f = (ts.take k).map f ++ [f (ts.getD k 0)] := by
  rw [List.take_succ_eq_append_getElem h, List.map_append, List.getD_eq_getElem?_getD, List.getElem?_eq_getElem h]; rfl
set_option maxHeartbeats 2000000 in
set_option maxRecDepth 100000 in
theorem opposites_any (w : World) (B : Nat) (cv : Value) (ks : List Nat) (hc : IntsAt w B cv (ks.map fun x : Nat => (x : Int))) (hB : B ≤ w.heap.size) (hcl : ks.length ≤ 100000) (hr : ∀ c, c ∈ ks → c < 1000000) :
    Calls Tryd.prog 51 #[cv] w fun e w' => ∃ v, e = .returned v ∧ w'.ownsRow w.heap.size 3 1 v ks.length ((ks.map opp).map iv) ∧ Below w.heap.size w w' := by
  obtain ⟨ao, cap, b, off, rfl, hm, ha, hcell, h64⟩ := hc
  have hLm : (ks.map fun x : Nat => (x : Int)).length = ks.length := by simp
  rw [hLm] at hcell ⊢
  have HA : Hid (0 < ks.length → ao = some ⟨b, off, none⟩ ∧ b < B) := Lib.hid fun h => ha (fun e => by have := congrArg List.length e; rw [hLm] at this; simp at this; rw [this] at h; simp at h)
  have HC : Hid (∀ j, j < ks.length → w.cell? ⟨b, off + j, none⟩ = some (.int .i64 (ks.getD j 0 : Nat))) := Lib.hid fun j hj => by
    rw [hcell j hj, List.getD_eq_getElem?_getD, List.getD_eq_getElem?_getD, List.getElem?_map, List.getElem?_eq_getElem hj]; rfl
  have HR := Lib.hid hr
  clear ha hcell h64 hm hLm hr
  obtain ⟨i0, hi, hz0, hz1, hz2⟩ := info_parts infoI
  go_enter Tryd.func51, Tryd.ntmps51
  go_wp2_with (at_make; refine wpList_make_own _ rfl _ _ 23 rfl w.heap.size 3 i0 (.int .i64 0) 1 Tryd.underlying23 hi hz0 hz1 .i64 .i64 _ ks.length rfl rfl rfl ?c1 ?c2 ?c3 ?_)
  case c1 => rw [hz2]; omega
  case c2 => unfold maxLen; omega
  case c3 => exact Nat.le_refl _
  intro w1 hown hgrow
  have HOW : Hid (w1.ownsRow w.heap.size 3 1 (.slice (some ⟨w.heap.size, 0, none⟩) 0 ks.length) 0 (((ks.take 0).map opp).map iv)) := Lib.hid (by simpa using hown)
  have HB1 := Lib.hid (below_grown hgrow (Nat.le_refl w.heap.size) (by intro k hk; cases hk))
  clear hown hgrow
  go_wp2
  go_loopw [3, 11] (fun v it wr => ∃ k : Nat, k ≤ ks.length ∧ it = .int .i64 k ∧ wr.ownsRow w.heap.size 3 1 v k (((ks.take k).map opp).map iv) ∧ Below w.heap.size w wr ∧ (∃ ao n cap, v = .slice ao n cap)) (fun _ it _ => ks.length - (intOf it).toNat)
  case atStart => exact ⟨0, Nat.zero_le _, rfl, HOW.out, HB1.out, _, _, _, rfl⟩
  case round =>
    obtain ⟨k, hk, rfl, hown, hb, av, nv, cpv, rfl⟩ := hrel
    clear HOW HB1
    have HB := Lib.hid hb
    have HO := Lib.hid hown
    have hsz := hb.size
    by_cases hlt : k < ks.length
    · obtain ⟨rfl, hbB⟩ := HA.out (by omega)
      have q : wr.cell? ⟨b, off + k, none⟩ = some (.int .i64 (ks.getD k 0 : Nat)) := by rw [hb.cell (show (⟨b, off + k, none⟩ : Addr).block < w.heap.size from by show b < _; omega)]; exact HC.out k hlt
      have HST := Lib.hid (map_take_nat opp hlt)
      have hcr := HR.out _ (getD_mem' hlt)
      generalize ks.getD k 0 = c at *
      have hx := xor1 c (by omega)
      clear hb hown
      have HO1 := Lib.hid (HO.out.alloc (.cells #[.int .i64 (opp c : Nat)] 3))
      go_wp2_with (at_builtin; refine wpList_append_own_at _ rfl (.tmp 15) (.tmp 18) 23 rfl w.heap.size 3 i0 (.int .i64 0) 1 8 Tryd.underlying23 hi hz0 hz1 hz2 rfl (by decide) (.slice av nv cpv) k (((ks.take k).map opp).map iv) rfl HO1.out ⟨wr.heap.size, 0, none⟩ 1 1 [.int .i64 (opp c : Nat)] rfl rfl (new_one _ _ _) ?d2 ?d3 ?d4 ?d5 ?_)
      case d2 => simp [Value.oneCell']
      case d3 => unfold maxLen; omega
      case d4 => omega
      case d5 => omega
      intro v' w4 hown4 hgrow4 _ _
      obtain ⟨g4, cap4, rfl, _, _, _, _⟩ := own_form hown4 (by omega)
      have R1 : Hid (w4.ownsRow w.heap.size 3 1 (.slice (some ⟨g4, 0, none⟩) (k + 1) cap4) (k + 1) (((ks.take (k + 1)).map opp).map iv)) := Lib.hid (by rw [HST.out]; simpa [iv] using hown4)
      have R2 := Lib.hid ((HB.out.alloc (by omega) _).grown hgrow4 (by simp; omega) (fun j hj => (HO.out.lt j hj).1))
      clear hown4 hgrow4
      go_wp2
      go_roundw
      case rel => exact ⟨k + 1, by omega, by go_num, R1.out, R2.out, _, _, _, rfl⟩
      case measure => simp [intOf]; omega
    · obtain rfl : k = ks.length := by omega
      have HF : Hid (wr.ownsRow w.heap.size 3 1 (.slice av nv cpv) ks.length ((ks.map opp).map iv)) := Lib.hid (by
        have := HO.out
        rwa [List.take_length] at this)
      clear hb hown HO
      go_wp2
      go_ret
      exact ⟨_, rfl, HF.out, HB.out⟩
end Go.Proofs.YtojjjndhabjhdaaDoor.satY
namespace Go.Proofs.YtojjjndhabjhdaaDoor.satZ
set_option linter.unusedSimpArgs false
set_option linter.unusedVariables false
open Go.ChangeShapes Go.WideShapes Go.ChangeAt Go.RowKit proofP proofQ owns cls satP satQ satR satA satF satB satC satD satE satG satH satI satJ satK satM satN satU satV satO satW satX satY
attribute [local go_sem ↓] Go.wp_at_zero Go.wp_at_succ

def _root_.Go.Proofs.YtojjjndhabjhdaaDoor.satA.SS.sc (s : SS) (since pause : Int) : SS := { s with since := since, pause := pause }
section
variable {w w' : World} {B bp : Nat} {s : SS} {F : Ix → Ent}
theorem _root_.Go.Proofs.YtojjjndhabjhdaaDoor.satA.Mem.setSince (h : Mem w B bp s F) (z : Int) : Mem (w.setCell ⟨bp, 24, none⟩ (.int .i64 z)) B bp (s.sc z s.pause) F :=
  h.field 24 (.int .i64 z) rfl (by intro i; cases i <;> rfl) rfl rfl rfl rfl
theorem _root_.Go.Proofs.YtojjjndhabjhdaaDoor.satA.Mem.setPause (h : Mem w B bp s F) (z : Int) : Mem (w.setCell ⟨bp, 23, none⟩ (.int .i64 z)) B bp (s.sc s.since z) F :=
  h.field 23 (.int .i64 z) rfl (by intro i; cases i <;> rfl) rfl rfl rfl rfl
/-- it goes on, or it goes back to the beginning -/
def AgP (B bp : Nat) (s : SS) (F : Ix → Ent) (P : Nat → Prop) (w w' : World) : Prop :=
  ((s.restart = 0 ∨ s.since < s.pause) ∧ Mem w' B bp s F ∧ Below B w w') ∨
    (s.restart ≠ 0 ∧ s.pause ≤ s.since ∧ ∃ s1 F1, Mem w' B bp (s1.sc 0 (s.pause + (s.pause / 2 + 1))) F1 ∧ Below B w w' ∧
      ((s.starts = [] ∧ s1 = s ∧ F1 = F) ∨ ∃ t rsn hp pl, s.starts[0]? = some t ∧ s1 = s.bk t 0 rsn hp pl ∧ QI s.V (fun u => P u ∨ ∃ p x, t ≤ p ∧ s.trail[p]? = some x ∧ x / 2 = u) hp pl ∧ (∀ p x, s.trail[p]? = some x → p < t → rsn (x / 2) = s.rsn (x / 2)) ∧ ∀ v i, rsn v = some i → s.rsn v = some i))
set_option maxHeartbeats 2000000 in
set_option maxRecDepth 100000 in
theorem again_any (h : Mem w B bp s F) (hBs : Base s.V s.trail s.starts s.lvl) (hvt : s.vt = s.trail) (hW : WF s) (hV : s.V ≤ 20000) (hsl : s.starts.length ≤ 50000) (P : Nat → Prop) (hQ : QI s.V P s.heap s.place) (htl : ∀ t, s.starts[0]? = some t → t < s.trail.length) (hp : 0 ≤ s.pause ∧ (s.pause ≤ s.since → s.pause ≤ 1000000000000)) :
    Calls Tryd.prog 35 #[.pointer (some ⟨bp, 0, none⟩)] w fun e w' => e = .returned (.tuple #[]) ∧ AgP B bp s F P w w' := by
  have f1 : w.cell? ⟨bp, 1, none⟩ = some (.int .i64 s.restart) := h.fld 1
  have f23 : w.cell? ⟨bp, 23, none⟩ = some (.int .i64 s.pause) := h.fld 23
  have f24 : w.cell? ⟨bp, 24, none⟩ = some (.int .i64 s.since) := h.fld 24
  have hB := h.hB
  have hbl := h.obj.lt
  by_cases hr : s.restart = 0
  · rw [hr] at f1
    have HF : Hid (AgP B bp s F P w w.drew) := Lib.hid (.inl ⟨.inl hr, h.below (Below.refl _ _).drew, (Below.refl _ _).drew⟩)
    clear h hBs hvt hW hQ htl hr hp
    go_enter Tryd.func35, Tryd.ntmps35
    go_wp2
    go_region
    go_wp2
    refine bodyPost_ret (results_none rfl _ _ _) rfl ?_
    exact ⟨rfl, HF.out⟩
  · have hr2 : (s.restart == 0) = false := beq_eq_false_iff_ne.2 hr
    by_cases hs : s.since < s.pause
    · have HF : Hid (AgP B bp s F P w w.drew) := Lib.hid (.inl ⟨.inr hs, h.below (Below.refl _ _).drew, (Below.refl _ _).drew⟩)
      clear h hBs hvt hW hQ htl hr hp
      go_enter Tryd.func35, Tryd.ntmps35
      go_wp2
      go_region
      go_wp2
      refine bodyPost_ret (results_none rfl _ _ _) rfl ?_
      exact ⟨rfl, HF.out⟩
    · have hp1 := hp.1
      have hp2 : s.pause ≤ 1000000000000 := hp.2 (by omega)
      clear hp
      have HBK : Hid (Calls Tryd.prog 55 #[.pointer (some ⟨bp, 0, none⟩), .int .i64 0] w.drew fun e w' => e = .returned (.tuple #[]) ∧ ∃ s1 F1, Mem w' B bp s1 F1 ∧ s1.pause = s.pause ∧ Below B w w' ∧ 
        ((s.starts = [] ∧ s1 = s ∧ F1 = F) ∨ ∃ t rsn hp pl, s.starts[0]? = some t ∧ s1 = s.bk t 0 rsn hp pl ∧ QI s.V (fun u => P u ∨ ∃ p x, t ≤ p ∧ s.trail[p]? = some x ∧ x / 2 = u) hp pl ∧ (∀ p x, s.trail[p]? = some x → p < t → rsn (x / 2) = s.rsn (x / 2)) ∧ ∀ v i, rsn v = some i → s.rsn v = some i)) := Lib.hid (by
        have hM := h.below (Below.refl _ _).drew
        have hb0 : Below B w w.drew := (Below.refl _ _).drew
        cases hst : s.starts[0]? with
        | none =>
          have h0 : s.starts = [] := by
            cases hs : s.starts with
            | nil => rfl
            | cons a l => rw [hs] at hst; simp at hst
          refine (back_none hM 0 (by rw [h0]; simp) (by omega)).mono ?_
          rintro e w2 ⟨rfl, rfl⟩
          exact ⟨rfl, s, F, hM, rfl, hb0, .inl ⟨h0, rfl, rfl⟩⟩
        | some t =>
          refine (back_some hM hBs hvt hW hV hsl P hQ 0 t hst (htl t hst)).mono ?_
          rintro e w2 ⟨rfl, rsn, hp, pl, F', M, hb, h1, h2, h3, _⟩
          exact ⟨rfl, _, F', M, rfl, hb0.trans hb, .inr ⟨t, rsn, hp, pl, rfl, rfl, h1, h2, h3⟩⟩)
      have hq : (Int.tdiv s.pause 2) = s.pause / 2 := Int.tdiv_eq_ediv_of_nonneg hp1
      have hw1 : IntKind.i64.wrap (s.pause / 2 + 1) = s.pause / 2 + 1 := IntWalk.i64_in _ (by omega)
      have hw2 : IntKind.i64.wrap (s.pause + (s.pause / 2 + 1)) = s.pause + (s.pause / 2 + 1) := IntWalk.i64_in _ (by omega)
      clear h hBs hvt hW hQ htl
      go_enter Tryd.func35, Tryd.ntmps35
      go_wp2
      go_region
      go_wp2_with fail
      refine HBK.out.mono ?_
      rintro e w2 ⟨rfl, s1, F1, M1, hps, hb1, hor⟩
      have g23 : w2.cell? ⟨bp, 23, none⟩ = some (.int .i64 s1.pause) := M1.fld 23
      rw [hps] at g23
      have g24 : w2.cell? ⟨bp, 24, none⟩ = some (.int .i64 s1.since) := M1.fld 24
      have z23 := M1.obj.frozen 23
      have z24 := M1.obj.frozen 24
      have hb2 := M1.obj.lt
      have HF : Hid (AgP B bp s F P w ((w2.setCell ⟨bp, 24, none⟩ (.int .i64 0)).setCell ⟨bp, 23, none⟩ (.int .i64 (s.pause + (s.pause / 2 + 1)))).drew) := Lib.hid (.inr ⟨hr, by omega, s1, F1, ((M1.setSince 0).setPause (s.pause + (s.pause / 2 + 1))).below (Below.refl _ _).drew, ((hb1.setCell hB _).setCell hB _).drew, hor⟩)
      clear M1 hb1 hor HBK
      go_wp2
      go_region
      go_wp2
      go_end0
      exact ⟨rfl, HF.out⟩
end
end Go.Proofs.YtojjjndhabjhdaaDoor.satZ
