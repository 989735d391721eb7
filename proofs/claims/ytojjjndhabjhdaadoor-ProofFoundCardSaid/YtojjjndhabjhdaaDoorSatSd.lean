/-
  Contract of (*search).learn.
-/
import Derived.Test.YtojjjndhabjhdaaDoorSatSc
import Derived.Test.YtojjjndhabjhdaaDoorFhM
namespace Go.Proofs.YtojjjndhabjhdaaDoor.satSd
set_option linter.unusedSimpArgs false
set_option linter.unusedVariables false
open Go.ChangeShapes Go.WideShapes Go.ChangeAt Go.RowKit proofP proofQ owns cls satP satQ satR satS satA satF satB satC satD satE satG satH satI satJ satK satM satN satU satV satO satW satX satSa satSb satSc satCa satCb satCc satCd satCe satRi satRj
attribute [local go_sem ↓] Go.wp_at_zero Go.wp_at_succ

section
variable {w w' wr : World} {B bp : Nat} {s : SS} {F : Ix → Ent} {cs : List (List Int)} {n0 : Nat} {cls : Nat → List Int} {h : Nat}
/-- the row is learned -/
theorem _root_.Go.Proofs.YtojjjndhabjhdaaDoor.satA.Mem.appLearned (h : Mem w B bp s F) {w1 w2 : World} {n g' cap' i : Nat} (hn : s.learned.length = n) (hb : Below w.heap.size w w1) (hown : w2.ownsRow B 73 1 (.slice (some ⟨g', 0, none⟩) (n + 1) cap') (n + 1) (cont s (fvs F) .learned ++ [pv s.rp i])) (hgrow : w1.grownBy w2 (F .learned).v.ownBlock) (hg1 : some g' = (F .learned).v.ownBlock ∨ w1.heap.size ≤ g') :
    ∃ F', Mem (w2.setCell ⟨bp, 21, none⟩ (.slice (some ⟨g', 0, none⟩) (n + 1) cap')) B bp (s.ln (s.learned ++ [i])) F' ∧ (∀ k, k ≠ .learned → (F' k).v = (F k).v) ∧ Below B w (w2.setCell ⟨bp, 21, none⟩ (.slice (some ⟨g', 0, none⟩) (n + 1) cap')) := by
  subst hn
  obtain ⟨a, b⟩ := h.app .learned (f := 21) (x := pv s.rp i) (s' := s.ln (s.learned ++ [i])) hb (by simp [cont]) hown hgrow (by simp) rfl (by simp [cont, SS.ln]) (by intro q hq; cases q <;> first | rfl | exact absurd rfl hq) rfl rfl rfl rfl hg1
  exact ⟨_, a, fun k hk => fvs_other _ _ hk, b⟩
/-- the codes of the call's own become a row -/
theorem _root_.Go.Proofs.YtojjjndhabjhdaaDoor.satA.Mem.newRow (h : Mem w B bp s F) (hI : Idx s) (sp : Int) :
    ∃ F', Mem (w.alloc (.cells #[(F (.tmp 1)).v, zv sp, .bool false] 75)) B bp (s.nr (s.tmp 1) w.heap.size sp) F' ∧ (F' (.row s.n)).v = (F (.tmp 1)).v ∧ ∀ k, k ≠ .row s.n → k ≠ .tmp 1 → (F' k).v = (F k).v := by
  have M1 := h.mv (.tmp 1) (.row s.n) (by simp) rfl (s' := { s with row := updN s.row s.n (s.tmp 1), tmp := updN s.tmp 1 [] }) (fun i hi => ⟨by simp, by intro e; cases e; omega⟩) rfl rfl rfl rfl rfl (by
    show (updN s.row s.n (s.tmp 1) s.n).map iv = (s.tmp 1).map iv
    rw [updN_same]) (by
    show (updN s.tmp 1 [] 1).map iv = []
    rw [updN_same]; rfl) (by
    intro i h1 h2
    cases i <;> first
      | rfl
      | (show (updN s.row s.n (s.tmp 1) _).map iv = (s.row _).map iv
         rw [updN_other _ _ (fun e => h2 (by rw [e]))])
      | (show (updN s.tmp 1 [] _).map iv = (s.tmp _).map iv
         rw [updN_other _ _ (fun e => h1 (by rw [e]))]))
  have hv : (mvd F (.tmp 1) (.row s.n) (.row s.n)).v = (F (.tmp 1)).v := by unfold mvd; rw [upd_other _ _ (by simp), upd_same]
  have M2 := M1.make (s := { s with row := updN s.row s.n (s.tmp 1), tmp := updN s.tmp 1 [] }) ⟨hI.w, hI.l, hI.r⟩ sp
  change Mem (w.alloc (.cells #[(mvd F (.tmp 1) (.row s.n) (.row s.n)).v, zv sp, .bool false] 75)) B bp _ _ at M2
  rw [hv] at M2
  exact ⟨_, M2, hv, fun k h1 h2 => by unfold mvd; rw [upd_other _ _ h2, upd_other _ _ h1]⟩
theorem RI.idx (R : RI cs n0 cls h s) : Idx s := ⟨fun c i hi => (R.G.wt.wat c i hi).1, fun i hi => (R.lr i hi).2, fun v i hi => R.G.rb v i hi⟩
theorem lrn_notin {V : Nat} {trail starts : List Nat} {lvl : Nat → Nat} {cl : List (List Int)} {code b t : Nat} {ks : List Nat} (hL : Lrn trail starts lvl cl code ks) (hB : Base V trail starts lvl) (ht : starts[b]? = some t) : opp code ∉ trail.take t ∧ opp (opp code) ∉ trail.take t := by
  refine ⟨fun e => hB.con _ hL.pk.1 (List.mem_of_mem_take e), fun e => ?_⟩
  rw [opp_opp] at e
  obtain ⟨p, hp, hpc⟩ := mem_take.1 e
  have h1 := (hB.lv_cut hpc ht).2 hp
  have h2 := hL.pk.2
  have h3 := at_lt ht
  omega
def LnP (B bp : Nat) (cs : List (List Int)) (n0 : Nat) (s : SS) (w w' : World) : Prop := ∃ s' F', Mem w' B bp s' F' ∧ Below B w w' ∧ After cs n0 s s'
set_option maxHeartbeats 1000000 in
set_option maxRecDepth 100000 in
theorem learn_any (M : Mem w B bp s F) (R : RI cs n0 cls h s) (i : Nat) (hL : Lost s.n s.row s.trail s.starts s.lvl i) (hw : s.wanted.length < s.starts.length) (hn : n0 + s.logn + 1 ≤ 1000000000) (hsi : 0 ≤ s.since ∧ s.since ≤ 1000000000000) :
    Calls Tryd.prog 34 #[.pointer (some ⟨bp, 0, none⟩), pv s.rp i] w fun e w' => e = .returned (.tuple #[]) ∧ LnP B bp cs n0 s w w' := by
  obtain ⟨P, hQ, hP⟩ := R.q
  have HAN := Lib.hid (analyze_any M R.G R.wf P hQ R.sn i hL (by omega))
  have HR := Lib.hid R
  have HP := Lib.hid hP
  have hB := M.hB
  have hV : s.V ≤ 20000 := R.G.hV
  have hpv : pv s.rp i = .pointer (some ⟨s.rp i, 0, none⟩) := rfl
  rw [hpv] at HAN ⊢
  clear M R hQ hP hL hpv
  obtain ⟨i0, hi, hz0, hz1, hz2⟩ := info_parts infoC
  go_enter Tryd.func34, Tryd.ntmps34
  go_wp2_with fail
  refine HAN.out.mono ?_
  rintro e w1 ⟨code, ks, seen, hp, pl, wt, st, tmp, F1, M1, ht1, rfl, hLn, hQ1, hW1, hsn1, hb1⟩
  have hKr := hLn.rng HR.out.G.B
  have hKn := hLn.nodup
  have hKl : (opp code :: ks).length ≤ 100000 := by
    have := nodup_bound hKn (fun x hx => (hKr x hx).2); omega
  have ho1 := M1.ownAt (.tmp 1) rfl
  rw [show cont (s.an seen hp pl wt st tmp) (fvs F1) (.tmp 1) = (tmp 1).map iv from rfl, ht1, List.length_map] at ho1
  change w1.ownsRow B 3 1 (F1 (.tmp 1)).v (opp code :: ks).length ((opp code :: ks).map iv) at ho1
  obtain ⟨gC, cC, hCv0, hgC1, hgC2, hgC3, hgC4⟩ := own_form ho1 (by simp)
  obtain ⟨L, hLe⟩ : ∃ L : Nat, L = (opp code :: ks).length := ⟨_, rfl⟩
  have hCv : (F1 (.tmp 1)).v = .slice (some ⟨gC, 0, none⟩) L cC := by rw [hLe]; exact hCv0
  rw [← hLe] at hgC3
  have hL1 : 1 ≤ L := by rw [hLe]; simp
  have hLb : L ≤ 100000 := by rw [hLe]; exact hKl
  have HLE := Lib.hid hLe
  clear hCv0 hLe
  have HLN := Lib.hid hLn
  have HKR := Lib.hid hKr
  have HKN := Lib.hid hKn
  have HQ1 := Lib.hid hQ1
  have HW1 := Lib.hid hW1
  have HSN1 := Lib.hid hsn1
  have HT1 := Lib.hid ht1
  have HCV := Lib.hid hCv
  rw [hCv] at ho1 ⊢
  obtain ⟨aL, cL, hLv, f25⟩ := M1.logAt
  have hbl1 := M1.obj.lt
  change (F1 .log).v = .slice aL s.logn cL at hLv
  have hBel : Below w1.heap.size w1 w1.drew := (Below.refl _ _).drew
  have hMD := M1.below hBel
  have hoD := own_keep ho1 (grown_below hBel none) (fun b hb e => by cases e)
  have f25a : w1.drew.cell? ⟨bp, 25, none⟩ = some (.slice aL s.logn cL) := (hBel.cell hbl1).trans f25
  have HBD := Lib.hid (hb1.trans (hBel.mono (by omega)))
  have HLV := Lib.hid hLv
  clear M1 hLn hKr hKn hQ1 hW1 hsn1 ht1 hCv hb1 ho1 hBel hLv HAN f25
  go_wp2_with fail
  refine held.region (fun w' => w'.cell? ⟨bp, 25, none⟩ = some (.slice aL s.logn cL)) 11 (by kernel_rfl) ?_
  generalize w1.drew = w0 at *
  have hbl0 : bp < w0.heap.size := hMD.obj.lt
  have HCO := Lib.hid (clauseOf_own hoD hKl (fun c hc => by have := HKR.out c hc; omega))
  have HM0 := Lib.hid hMD
  clear hMD hoD
  refine held.wpLeft.take (i := 0) (v := ?_) rfl (by kernel_rfl) (by kernel_rfl) (by kernel_rfl) (by kernel_rfl) (by kernel_rfl) (fun _ _ _ h => h) (by rfl) ?_ f25a ?_
  rotate_left
  · (intro w hSw; go_simp; try with_reducible rfl)
  simp only [Act.put, List.setIfInBounds_toArray, List.set_cons_zero, List.set_cons_succ]
  refine held.wpLeft.take (i := 1) (v := ?_) rfl (by kernel_rfl) (by kernel_rfl) (by kernel_rfl) (by kernel_rfl) (by kernel_rfl) (fun _ _ _ h => h) (by rfl) ?_ f25a ?_
  rotate_left
  · (intro w hSw; go_simp; try with_reducible rfl)
  simp only [Act.put, List.setIfInBounds_toArray, List.set_cons_zero, List.set_cons_succ]
  refine held.wpLeft.take (i := 2) (v := ?_) rfl (by kernel_rfl) (by kernel_rfl) (by kernel_rfl) (by kernel_rfl) (by kernel_rfl) (fun _ _ _ h => h) (by rfl) ?_ f25a ?_
  rotate_left
  · (intro w hSw; go_simp; try with_reducible rfl)
  simp only [Act.put, List.setIfInBounds_toArray, List.set_cons_zero, List.set_cons_succ]
  refine held.wpLeft.take (i := 3) (v := ?_) rfl (by kernel_rfl) (by kernel_rfl) (by kernel_rfl) (by kernel_rfl) (by kernel_rfl) (fun _ _ _ h => h) (by rfl) ?_ f25a ?_
  rotate_left
  · (intro w hSw; go_simp; try with_reducible rfl)
  simp only [Act.put, List.setIfInBounds_toArray, List.set_cons_zero, List.set_cons_succ]
  refine held.wpLeft.take (i := 4) (v := ?_) rfl (by kernel_rfl) (by kernel_rfl) (by kernel_rfl) (by kernel_rfl) (by kernel_rfl) (fun _ _ _ h => h) (by rfl) ?_ f25a ?_
  rotate_left
  · (intro w hSw; go_simp; try with_reducible rfl)
  simp only [Act.put, List.setIfInBounds_toArray, List.set_cons_zero, List.set_cons_succ]
  refine held.wpLeft.take (i := 5) (v := ?_) rfl (by kernel_rfl) (by kernel_rfl) (by kernel_rfl) (by kernel_rfl) (by kernel_rfl) (fun _ _ _ h => h) (by rfl) ?_ f25a ?_
  rotate_left
  · (intro w hSw; go_simp; try with_reducible rfl)
  simp only [Act.put, List.setIfInBounds_toArray, List.set_cons_zero, List.set_cons_succ]
  refine held.wpLeft.one (i := 6) (by kernel_rfl) rfl (fun K hK => ?_)
  go_simp
  refine HCO.out.mono ?_
  rintro e w2 ⟨v2, rfl, hown2, hb2⟩
  obtain ⟨a2, c2, rfl⟩ := own_slice hown2
  have f25c := (hb2.cell (show (⟨bp, 25, none⟩ : Addr).block < _ from hbl0)).trans f25a
  refine hK.out _ _ (fun _ => f25c) ?_
  clear hK K
  have hs2 := hb2.size
  have HB2 : Hid (Below w0.heap.size w0 w2) := Lib.hid hb2
  obtain ⟨F2, M2, V2, K2⟩ := HM0.out.addLit (l := clz (opp code :: ks)) HB2.out (by rw [← ints_zv]; exact hown2)
  have HM2 := Lib.hid M2
  have HV2 := Lib.hid V2
  have HK2 := Lib.hid K2
  have hLv2 : (F2 .log).v = .slice aL s.logn cL := (K2 _ (by simp)).trans HLV.out
  have HLV2 := Lib.hid hLv2
  have HO := Lib.hid (M2.ownAt .log rfl)
  have hgt := M2.ne .log
  have HCT : Hid ((cont ((s.an seen hp pl wt st tmp).lgs (s.an seen hp pl wt st tmp).logn (updN (s.an seen hp pl wt st tmp).lg (s.an seen hp pl wt st tmp).logn (clz (opp code :: ks)))) (fvs F2) .log).length = s.logn) := Lib.hid (by simp [cont, SS.lgs, SS.an])
  rw [HCT.out, hLv2] at HO
  rw [hLv2] at hgt
  clear hown2 hb2 HCO M2 V2 K2 hLv2
  refine held.wpLeft.one (i := 7) (by kernel_rfl) rfl (fun K hK => ?_)
  go_simp
  have hA2 : Below w2.heap.size w2 (w2.alloc (.cells #[.slice a2 (clz (opp code :: ks)).length c2] 41)) := (Below.refl _ _).alloc (Nat.le_refl _) _
  have f25d := (hA2.cell (show (⟨bp, 25, none⟩ : Addr).block < _ from by show bp < _; omega)).trans f25c
  refine hK.out _ _ (fun _ => f25d) ?_
  clear hK K
  refine held.wpLeft.one (i := 8) (by kernel_rfl) rfl (fun K hK => ?_)
  refine step_append_lies _ (by rfl) _ _ _ (by rfl) B 41 i0 _ 1 24 Tryd.underlying22 hi hz0 hz1 hz2 rfl (by omega) (.slice aL s.logn cL) s.logn (cont ((s.an seen hp pl wt st tmp).lgs (s.an seen hp pl wt st tmp).logn (updN (s.an seen hp pl wt st tmp).lg (s.an seen hp pl wt st tmp).logn (clz (opp code :: ks)))) (fvs F2) .log) (by rfl) (by have := HO.out.alloc (.cells #[.slice a2 (clz (opp code :: ks)).length c2] 41); exact this) ⟨w2.heap.size, 0, none⟩ 1 1 [.slice a2 (clz (opp code :: ks)).length c2] (by rfl) (by rfl) (World.news_of_block (cs := #[.slice a2 (clz (opp code :: ks)).length c2]) (t := 41) (fr := (0, 0)) (heap_alloc_new w2 _)) (by simp [Value.oneCell']) (by omega) (by unfold maxLen; omega) (by omega) (by simp; omega) (w2.heap.size + 1) (by simp) ?_
  intro gg cap w3 hown3 hgrow hat hlt1
  have f25e : w3.cell? ⟨bp, 25, none⟩ = some (.slice aL s.logn cL) := hgrow.cell f25d (fun e => hgt e.symm)
  refine hK.out _ _ (fun _ => f25e) ?_
  clear hK K
  obtain ⟨F3, M3, V3, K3, B3⟩ := HM2.out.growLog (n := s.logn) rfl HV2.out hA2 hown3 (by rw [HLV2.out]; exact hgrow) (by
    rw [HLV2.out]
    rcases hat with hat | hat
    · exact .inl hat.symm
    · exact .inr (by rw [hat]; simp))
  have zw : w3.frozen? ⟨bp, 25, none⟩ = false := by
    have h1 := HM2.out.obj.frozen 25
    have h2 := (hA2.frozen (show (⟨bp, 25, none⟩ : Addr).block < _ from HM2.out.obj.lt)).trans h1
    exact (World.frozen?_of_block (hgrow.block bp (by simp; omega) (fun e => hgt e.symm))).trans h2
  have hB4 : Below B w (w3.setCell ⟨bp, 25, none⟩ (.slice (some ⟨gg, 0, none⟩) (s.logn + 1) cap)) := HBD.out.trans ((HB2.out.mono (by omega)).trans B3)
  have HM3 := Lib.hid M3
  have HB4 := Lib.hid hB4
  have HK3 : Hid ((F3 (.tmp 1)).v = .slice (some ⟨gC, 0, none⟩) L cC) := Lib.hid ((K3 _ (by simp)).trans ((HK2.out _ (by simp)).trans HCV.out))
  clear hown3 hgrow hat hlt1 M3 V3 K3 B3 hB4 HM2 HV2 HK2 HLV2 HO hgt HCT hA2 HLV HBD HCV HB2 HM0
  refine held.wpLeft.one (i := 9) (by kernel_rfl) rfl (fun K3 hK3 => ?_)
  go_simp
  refine hK3.out _ _ (fun _ => f25e) ?_
  clear hK3 K3
  refine held.wpLeft.one (i := 10) (by kernel_rfl) rfl (fun K3 hK3 => ?_)
  go_simp
  refine hK3.out _ _ (fun _ => f25e) ?_
  clear hK3 K3
  refine held.wpLeft.one (i := 11) (by kernel_rfl) rfl (fun K3 hK3 => ?_)
  go_simp
  refine hK3.out _ _ (fun h => absurd rfl h) ?_
  clear hK3 K3
  refine held.wpLeft.done (by kernel_rfl) ?_
  generalize w3.setCell ⟨bp, 25, none⟩ (.slice (some ⟨gg, 0, none⟩) (s.logn + 1) cap) = w4 at *
  clear f25a f25c f25d f25e zw
  have hM4 : Mem w4 B bp (s.ld seen hp pl wt st tmp (clz (opp code :: ks)) s.since) F3 := HM3.out
  have f24 : w4.cell? ⟨bp, 24, none⟩ = some (.int .i64 s.since) := hM4.fld 24
  have z24 := hM4.obj.frozen 24
  have hM5 : Mem (w4.setCell ⟨bp, 24, none⟩ (.int .i64 (s.since + 1))) B bp (s.ld seen hp pl wt st tmp (clz (opp code :: ks)) (s.since + 1)) F3 := hM4.setSince (s.since + 1)
  have HFD := Lib.hid (fade_any hM5 ⟨HW1.out.len, HW1.out.fp, HW1.out.st⟩ P HQ1.out)
  have HB5 : Hid (Below B w (w4.setCell ⟨bp, 24, none⟩ (.int .i64 (s.since + 1)))) := Lib.hid (HB4.out.trans ((Below.refl _ _).setCell hB _))
  have hwr : IntKind.i64.wrap (s.since + 1) = s.since + 1 := IntWalk.i64_in _ (by omega)
  clear hM4 hM5 HM3 HB4
  go_wp2_with fail
  refine HFD.out.mono ?_
  rintro e w6 ⟨rfl, hp6, pl6, wt6, st6, F6, M6, hF6, hb6, hQ6, hW6⟩
  change Mem w6 B bp (s.ld seen hp6 pl6 wt6 st6 tmp (clz (opp code :: ks)) (s.since + 1)) F6 at M6
  have HB6 := Lib.hid (HB5.out.trans hb6)
  have HK6 : Hid ((F6 (.tmp 1)).v = .slice (some ⟨gC, 0, none⟩) L cC) := Lib.hid ((congrFun hF6 (.tmp 1)).trans HK3.out)
  have HW6 : Hid (WF (s.an seen hp6 pl6 wt6 st6 tmp)) := Lib.hid ⟨hW6.len, hW6.fp, hW6.st⟩
  have hstl := HR.out.slen
  by_cases hks : ks = []
  · subst hks
    obtain rfl : L = 1 := HLE.out
    have hs0 : 0 < s.starts.length := by omega
    obtain ⟨t, ht⟩ : ∃ t, s.starts[0]? = some t := ⟨_, List.getElem?_eq_getElem hs0⟩
    have HBK := Lib.hid (back_some M6 (by exact HR.out.G.B) (by exact HR.out.G.vt) ⟨hW6.len, hW6.fp, hW6.st⟩ (by exact hV) (by exact HR.out.G.hs) P hQ6 0 t (by exact ht) (by exact HR.out.cur t (mem_at.2 ⟨0, ht⟩)))
    have HTT := Lib.hid ht
    clear M6 hF6 hb6 hQ6 hW6 HB5 HK3 HFD ht
    go_wp2_with fail
    refine HBK.out.mono ?_
    rintro e w7 ⟨rfl, rsn, hp7, pl7, F7, M7, hb7, hQ7, hr7, hr8, hK7⟩
    have hv7 : (F7 (.tmp 1)).v = .slice (some ⟨gC, 0, none⟩) 1 cC := (hK7 _ (by simp) (by simp) (by simp)).trans HK6.out
    obtain ⟨gX, cX, hXv, qX, _⟩ := M7.tmpAt 1 (by show 0 < (tmp 1).length; rw [HT1.out]; simp)
    change (F7 (.tmp 1)).v = .slice (some ⟨gX, 0, none⟩) (tmp 1).length cX at hXv
    rw [hv7] at hXv
    simp only [Value.slice.injEq, Option.some.injEq, Addr.mk.injEq, and_true] at hXv
    obtain ⟨rfl, hlx, rfl⟩ := hXv
    clear hlx
    have q0 := qX 0 (by show 0 < (tmp 1).length; rw [HT1.out]; simp)
    change w7.cell? ⟨gC, 0, none⟩ = some (.int .i64 ((tmp 1).getD 0 0 : Nat)) at q0
    rw [HT1.out] at q0
    change w7.cell? ⟨gC, 0, none⟩ = some (.int .i64 (opp code : Nat)) at q0
    obtain ⟨hRI, hms, hn1, hn2⟩ := RI.learnOne HR.out HLN.out HTT.out HP.out hQ7 HW6.out HSN1.out hr7 hr8 (s.since + 1) hn
    have hcr := HKR.out (opp code) (by simp)
    have htl := HR.out.G.B.len
    have HSE := Lib.hid (set_any M7 (by dsimp only [SS.put, SS.bk, SS.bl, SS.ld, SS.val, SS.lrp, SS.tr, SS.sts, SS.hd, SS.qu, SS.nr, SS.sm, SS.wt, SS.ln, SS.fg, SS.rm]; exact hV) (opp code) none (by dsimp only [SS.put, SS.bk, SS.bl, SS.ld, SS.val, SS.lrp, SS.tr, SS.sts, SS.hd, SS.qu, SS.nr, SS.sm, SS.wt, SS.ln, SS.fg, SS.rm]; exact hcr) (by dsimp only [SS.put, SS.bk, SS.bl, SS.ld, SS.val, SS.lrp, SS.tr, SS.sts, SS.hd, SS.qu, SS.nr, SS.sm, SS.wt, SS.ln, SS.fg, SS.rm]; exact hn1) (by dsimp only [SS.put, SS.bk, SS.bl, SS.ld, SS.val, SS.lrp, SS.tr, SS.sts, SS.hd, SS.qu, SS.nr, SS.sm, SS.wt, SS.ln, SS.fg, SS.rm]; exact hn2) (by dsimp only [SS.put, SS.bk, SS.bl, SS.ld, SS.val, SS.lrp, SS.tr, SS.sts, SS.hd, SS.qu, SS.nr, SS.sm, SS.wt, SS.ln, SS.fg, SS.rm]; rw [List.length_take]; omega) (by dsimp only [SS.put, SS.bk, SS.bl, SS.ld, SS.val, SS.lrp, SS.tr, SS.sts, SS.hd, SS.qu, SS.nr, SS.sm, SS.wt, SS.ln, SS.fg, SS.rm]; rw [List.length_take]; omega))
    have HAF := Lib.hid (afterOne hRI hms)
    have HB7 := Lib.hid (HB6.out.trans hb7)
    clear M7 hb7 hQ7 hr7 hr8 hK7 hv7 qX hRI hms hn1 hn2 HBK HB6 HK6 hcr htl hstl
    go_wp2_with fail
    refine HSE.out.mono ?_
    rintro e w8 ⟨rfl, F8, M8, hK8, hb8⟩
    have HFIN : Hid (LnP B bp cs n0 s w w8) := Lib.hid ⟨_, F8, M8, HB7.out.trans hb8, HAF.out⟩
    clear M8 hK8 hb8 HSE HAF
    go_wp2
    refine bodyPost_ret (results_none rfl _ _ _) rfl ?_
    exact ⟨rfl, HFIN.out⟩
  · have hk0 : 0 < ks.length := List.length_pos_iff.2 hks
    have hL2 : 2 ≤ L := by rw [HLE.out]; show 2 ≤ ks.length + 1; omega
    have HM6 := Lib.hid M6
    have HQ6 := Lib.hid hQ6
    have hlen1 : ((L : Int) == 1) = false := beq_eq_false_iff_ne.2 (by omega)
    clear M6 hF6 hb6 hQ6 hW6 HB5 HK3 HFD hk0
    generalize hKK : opp code :: ks = K0 at *
    have HKK := Lib.hid hKK
    clear hKK hks
    go_wp2
    go_loopw [5, 45] (fun hv it wr => ∃ k hi : Nat, it = .int .i64 k ∧ hv = .int .i64 hi ∧ k ≤ L ∧ 1 ≤ hi ∧ hi < L ∧ (k ≤ 2 → hi = 1) ∧ (∀ j, 1 ≤ j → j < k → s.lvl (K0.getD j 0 / 2) ≤ s.lvl (K0.getD hi 0 / 2)) ∧ Mem wr B bp (s.ld seen hp6 pl6 wt6 st6 tmp (clz K0) (s.since + 1)) F6 ∧ Below B w wr) (fun _ it _ => L - (intOf it).toNat)
    case atStart => exact ⟨0, 1, rfl, rfl, Nat.zero_le _, Nat.le_refl _, by omega, fun _ => rfl, fun j h1 h2 => by omega, HM6.out, HB6.out⟩
    case round =>
      obtain ⟨k, hi, rfl, rfl, hk, hh1, hhl, hh2, hmx, M, hb⟩ := hrel
      have HH2 := Lib.hid hh2
      clear hh2
      clear HM6
      have hv6 : (F6 (.tmp 1)).v = .slice (some ⟨gC, 0, none⟩) L cC := HK6.out
      have hx6 : (F6 (.tmp 1)).xs = K0.map iv := by rw [M.xs]; show (tmp 1).map iv = _; rw [HT1.out]
      by_cases hlt : k < L
      · have hltK : k < K0.length := by rw [← HLE.out]; exact hlt
        have hhlK : hi < K0.length := by rw [← HLE.out]; exact hhl
        have qk := M.own.cell hv6 k (by rw [hx6]; simpa using hltK)
        have qh := M.own.cell hv6 hi (by rw [hx6]; simpa using hhlK)
        rw [hx6, getD_iv hltK] at qk
        rw [hx6, getD_iv hhlK] at qh
        have hyr := HKR.out _ (getD_mem' hltK)
        have hzr := HKR.out _ (getD_mem' hhlK)
        obtain ⟨gL, cL2, hLv, f8, qL, nL, lL⟩ := M.lvlAt
        change wr.cell? ⟨bp, 8, none⟩ = some (.slice (some ⟨gL, 0, none⟩) (s.V + 1) cL2) at f8
        have HMX := Lib.hid hmx
        generalize hye : K0.getD k 0 = y at *
        generalize hze : K0.getD hi 0 = z at *
        obtain ⟨v1, hv1⟩ : ∃ v : Nat, (y : Int) / 2 = (v : Int) := ⟨y / 2, by omega⟩
        obtain ⟨v2, hv2⟩ : ∃ v : Nat, (z : Int) / 2 = (v : Int) := ⟨z / 2, by omega⟩
        have hv1n : y / 2 = v1 := by omega
        have hv2n : z / 2 = v2 := by omega
        have q1 := qL v1 (by show v1 ≤ s.V; omega)
        have q2 := qL v2 (by show v2 ≤ s.V; omega)
        change wr.cell? ⟨gL, v1, none⟩ = some (.int .i64 (s.lvl v1 : Nat)) at q1
        change wr.cell? ⟨gL, v2, none⟩ = some (.int .i64 (s.lvl v2 : Nat)) at q2
        have hb1 : v1 < s.V + 1 := by omega
        have hb2 : v2 < s.V + 1 := by omega
        have HREL : Hid (∀ n, ∀ hi' : Nat, 1 ≤ hi' → hi' < L → (k + 1 ≤ 2 → hi' = 1) → (∀ j, 1 ≤ j → j < k + 1 → s.lvl (K0.getD j 0 / 2) ≤ s.lvl (K0.getD hi' 0 / 2)) → ∃ k' hi2 : Nat, Value.int .i64 ((k : Int) + 1) = .int .i64 k' ∧ Value.int .i64 (hi' : Int) = .int .i64 hi2 ∧ k' ≤ L ∧ 1 ≤ hi2 ∧ hi2 < L ∧ (k' ≤ 2 → hi2 = 1) ∧ (∀ j, 1 ≤ j → j < k' → s.lvl (K0.getD j 0 / 2) ≤ s.lvl (K0.getD hi2 0 / 2)) ∧ Mem (wr.drewN n) B bp (s.ld seen hp6 pl6 wt6 st6 tmp (clz K0) (s.since + 1)) F6 ∧ Below B w (wr.drewN n)) := Lib.hid fun n hi' a1 a2 a4 a3 => ⟨k + 1, hi', by go_num, rfl, by omega, a1, a2, a4, a3, M.below (Go.Joins.below_draws _ _ _), hb.trans (Go.Joins.below_draws _ _ _)⟩
        have HY := Lib.hid hye
        have HZ := Lib.hid hze
        have HV1 := Lib.hid hv1n
        have HV2 := Lib.hid hv2n
        clear M hb hv6 hx6 hLv qL hmx hye hze hv1n hv2n hltK hhlK
        generalize s.V + 1 = VV at f8 hb1 hb2
        by_cases hk1 : 1 < k
        · by_cases hgt : s.lvl v2 < s.lvl v1
          · have hgt2 : (s.lvl v2 : Int) < (s.lvl v1 : Int) := by omega
            have HFIN : Hid (∀ j, 1 ≤ j → j < k + 1 → s.lvl (K0.getD j 0 / 2) ≤ s.lvl (K0.getD k 0 / 2)) := Lib.hid fun j h1 h2 => by
              by_cases e : j = k
              · subst e; exact Nat.le_refl _
              · have := HMX.out j h1 (by omega)
                rw [HY.out, HV1.out]
                rw [HV2.out] at this
                omega
            have HG2 := Lib.hid hgt2
            generalize s.lvl v1 = l1 at *
            generalize s.lvl v2 = l2 at *
            go_wp2_with fail
            have hk2 : decide ((1 : Int) < (k : Int)) = true := decide_eq_true (by omega)
            have hgt3 : decide ((l2 : Int) < (l1 : Int)) = true := decide_eq_true (by have := HG2.out; omega)
            go_quiet (fail)
            have HX := Lib.hid (HREL.out nq k (by omega) hlt (fun h => by omega) HFIN.out)
            generalize wr.drewN nq = w8 at *
            go_wp2
            go_roundw
            case rel => exact HX.out
            case measure => simp [intOf]; omega
          · have hgt2 : ¬ (s.lvl v2 : Int) < (s.lvl v1 : Int) := by omega
            have HFIN : Hid (∀ j, 1 ≤ j → j < k + 1 → s.lvl (K0.getD j 0 / 2) ≤ s.lvl (K0.getD hi 0 / 2)) := Lib.hid fun j h1 h2 => by
              by_cases e : j = k
              · subst e; rw [HY.out, HV1.out, HZ.out, HV2.out]; omega
              · rw [HZ.out]; exact HMX.out j h1 (by omega)
            have HG2 := Lib.hid hgt2
            generalize s.lvl v1 = l1 at *
            generalize s.lvl v2 = l2 at *
            go_wp2_with fail
            have hk2 : decide ((1 : Int) < (k : Int)) = true := decide_eq_true (by omega)
            have hgt3 : decide ((l2 : Int) < (l1 : Int)) = false := decide_eq_false (by have := HG2.out; omega)
            go_quiet (fail)
            have HX := Lib.hid (HREL.out nq hi hh1 hhl (fun h => HH2.out (by omega)) HFIN.out)
            generalize wr.drewN nq = w8 at *
            go_wp2
            go_roundw
            case rel => exact HX.out
            case measure => simp [intOf]; omega
        · have HFIN : Hid (∀ j, 1 ≤ j → j < k + 1 → s.lvl (K0.getD j 0 / 2) ≤ s.lvl (K0.getD hi 0 / 2)) := Lib.hid fun j h1 h2 => by
            by_cases e : j = k
            · subst e
              rw [show j = 1 from by omega, HH2.out (by omega)]
              exact Nat.le_refl _
            · rw [HZ.out]; exact HMX.out j h1 (by omega)
          go_wp2_with fail
          have hk2 : decide ((1 : Int) < (k : Int)) = false := decide_eq_false (by omega)
          go_quiet (fail)
          have HX := Lib.hid (HREL.out nq hi hh1 hhl (fun h => HH2.out (by omega)) HFIN.out)
          generalize wr.drewN nq = w8 at *
          go_wp2
          go_roundw
          case rel => exact HX.out
          case measure => simp [intOf]; omega
      · obtain rfl : k = L := by omega
        have h1K : 1 < K0.length := by rw [← HLE.out]; omega
        have hhK : hi < K0.length := by rw [← HLE.out]; omega
        have q1 := M.own.cell hv6 1 (by rw [hx6]; simpa using h1K)
        have qh := M.own.cell hv6 hi (by rw [hx6]; simpa using hhK)
        rw [hx6, getD_iv h1K] at q1
        rw [hx6, getD_iv hhK] at qh
        have z1 := M.own.frozen hv6 1
        have zh := M.own.frozen hv6 hi
        obtain ⟨F7, M7, K7⟩ := M.setTmp hv6 1 (K0.getD hi 0)
        have hv7 : (F7 (.tmp 1)).v = .slice (some ⟨gC, 0, none⟩) k cC := (congrFun K7 (.tmp 1)).trans hv6
        obtain ⟨F8, M8, K8⟩ := M7.setTmp hv7 hi (K0.getD 1 0)
        have htm8 : updN (updN tmp 1 ((tmp 1).set 1 (K0.getD hi 0))) 1 ((updN tmp 1 ((tmp 1).set 1 (K0.getD hi 0)) 1).set hi (K0.getD 1 0)) = updN tmp 1 (sw K0 1 hi) := by
          funext j
          rw [updN_same, HT1.out]
          unfold sw updN
          split <;> rfl
        have M9 : Mem ((wr.setCell ⟨gC, 1, none⟩ (.int .i64 (K0.getD hi 0 : Nat))).setCell ⟨gC, hi, none⟩ (.int .i64 (K0.getD 1 0 : Nat))) B bp (s.ld seen hp6 pl6 wt6 st6 (updN tmp 1 (sw K0 1 hi)) (clz K0) (s.since + 1)) F8 := by
          have := M8
          change Mem _ B bp (s.ld seen hp6 pl6 wt6 st6 (updN (updN tmp 1 ((tmp 1).set 1 (K0.getD hi 0))) 1 ((updN tmp 1 ((tmp 1).set 1 (K0.getD hi 0)) 1).set hi (K0.getD 1 0))) (clz K0) (s.since + 1)) F8 at this
          rw [htm8] at this
          exact this
        have HCUT : Hid (∃ F9, Mem ((wr.setCell ⟨gC, 1, none⟩ (.int .i64 (K0.getD hi 0 : Nat))).setCell ⟨gC, hi, none⟩ (.int .i64 (K0.getD 1 0 : Nat))).drew B bp (s.ld seen hp6 pl6 wt6 st6 (updN tmp 1 (sw K0 1 hi)) (clz K0) (s.since + 1)) F9 ∧ (F9 (.tmp 1)).v = .slice (some ⟨gC, 0, none⟩) k cC ∧ Below B w ((wr.setCell ⟨gC, 1, none⟩ (.int .i64 (K0.getD hi 0 : Nat))).setCell ⟨gC, hi, none⟩ (.int .i64 (K0.getD 1 0 : Nat))).drew) := Lib.hid ⟨F8, M9.below (Below.refl _ _).drew, (congrFun K8 (.tmp 1)).trans hv7, ((hb.setCell hgC1 _).setCell hgC1 _).drew⟩
        have HMX := Lib.hid hmx
        clear M M7 K7 hv7 M8 K8 htm8 M9 hmx hb hv6 hx6 h1K hhK
        go_upto_region 14 with (fail)
        go_cut [] (fun wx => ∃ F9, Mem wx B bp (s.ld seen hp6 pl6 wt6 st6 (updN tmp 1 (sw K0 1 hi)) (clz K0) (s.since + 1)) F9 ∧ (F9 (.tmp 1)).v = .slice (some ⟨gC, 0, none⟩) k cC ∧ Below B w wx)
        case first =>
          by_cases he : hi = 1
          · subst he
            generalize K0.getD 1 0 = x1 at *
            go_wp2_with fail
            go_region
            go_wp2
            go_meet
            case rel => exact HCUT.out
          · have hn1 : hi ≠ 1 := he
            have hn2 : 1 ≠ hi := fun e => he e.symm
            generalize K0.getD 1 0 = x1 at *
            generalize K0.getD hi 0 = xh at *
            go_wp2_with fail
            go_region
            go_wp2
            go_meet
            case rel => exact HCUT.out
        case rest =>
          obtain ⟨F9, M9, hv9, hb9⟩ := hcut
          -- the rest
          clear HCUT
          have hKe := HKK.out
          subst hKe
          clear HKK
          have h1K : 1 < (opp code :: ks).length := by rw [← HLE.out]; omega
          have hhK : hi < (opp code :: ks).length := by rw [← HLE.out]; omega
          obtain ⟨K, hKd⟩ : ∃ K, K = sw (opp code :: ks) 1 hi := ⟨_, rfl⟩
          rw [← hKd] at M9
          have hKl : K.length = k := by rw [hKd, sw_len]; exact HLE.out.symm
          have hKm : ∀ x, x ∈ K ↔ x ∈ opp code :: ks := fun x => by rw [hKd]; exact sw_mem _ _ _ h1K hhK x
          have hKn : K.Nodup := by rw [hKd]; exact sw_nodup _ _ _ h1K hhK HKN.out
          have hK0 : K.getD 0 0 = opp code := by rw [hKd, sw_get _ _ _ _ h1K hhK, if_neg (by omega), if_neg (by omega)]; rfl
          have hK1 : K.getD 1 0 = (opp code :: ks).getD hi 0 := by
            rw [hKd, sw_get _ _ _ _ h1K hhK]
            by_cases e : 1 = hi
            · rw [if_pos e, ← e]
            · rw [if_neg e, if_pos rfl]
          have hmax : ∀ x, x ∈ ks → s.lvl (x / 2) ≤ s.lvl (K.getD 1 0 / 2) := fun x hx => by
            obtain ⟨j, hj⟩ := mem_at.1 hx
            have := HMX.out (j + 1) (by omega) (by rw [HLE.out]; show j + 1 < ks.length + 1; have := at_lt hj; omega)
            rw [hK1]
            rwa [show (opp code :: ks).getD (j + 1) 0 = x from by rw [List.getD_eq_getElem?_getD, List.getElem?_cons_succ, hj]; rfl] at this
          have hk1m : K.getD 1 0 ∈ ks := by
            rw [hK1]
            obtain ⟨q, rfl⟩ : ∃ q, hi = q + 1 := ⟨hi - 1, by omega⟩
            show (opp code :: ks).getD (q + 1) 0 ∈ ks
            rw [List.getD_eq_getElem?_getD, List.getElem?_cons_succ, ← List.getD_eq_getElem?_getD]
            exact getD_mem' (by change q + 1 < ks.length + 1 at hhK; omega)
          have hpc := HLN.out.pc _ hk1m
          obtain ⟨b, hbv⟩ : ∃ b, s.lvl (K.getD 1 0 / 2) = b := ⟨_, rfl⟩
          obtain ⟨t, ht⟩ : ∃ t, s.starts[b]? = some t := ⟨_, List.getElem?_eq_getElem (by rw [← hbv]; exact hpc.2.2)⟩
          have hlvle : ∀ c, c ∈ opp code :: ks → s.lvl (c / 2) ≤ s.starts.length := fun c hc => by
            rcases List.mem_cons.1 hc with rfl | hc
            · rw [opp_half]; exact Nat.le_of_eq HLN.out.pk.2
            · exact Nat.le_of_lt (HLN.out.pc c hc).2.2
          have hst := HR.out.st
          have htrl := HR.out.G.B.len
          have htm1 : (updN tmp 1 K) 1 = K := updN_same _ _ _
          have HSP := Lib.hid (spread_any M9 (by dsimp only [SS.put, SS.bk, SS.bl, SS.ld, SS.val, SS.lrp, SS.tr, SS.sts, SS.hd, SS.qu, SS.nr, SS.sm, SS.wt, SS.ln, SS.fg, SS.rm]; exact hV) (by dsimp only [SS.put, SS.bk, SS.bl, SS.ld, SS.val, SS.lrp, SS.tr, SS.sts, SS.hd, SS.qu, SS.nr, SS.sm, SS.wt, SS.ln, SS.fg, SS.rm]; exact ⟨hst.2.1, by have := hst.2.2; omega⟩) (by dsimp only [SS.put, SS.bk, SS.bl, SS.ld, SS.val, SS.lrp, SS.tr, SS.sts, SS.hd, SS.qu, SS.nr, SS.sm, SS.wt, SS.ln, SS.fg, SS.rm]; rw [htm1, hKl]; omega) (by dsimp only [SS.put, SS.bk, SS.bl, SS.ld, SS.val, SS.lrp, SS.tr, SS.sts, SS.hd, SS.qu, SS.nr, SS.sm, SS.wt, SS.ln, SS.fg, SS.rm]; rw [htm1, hKl]; omega) (by
            dsimp only [SS.put, SS.bk, SS.bl, SS.ld, SS.val, SS.lrp, SS.tr, SS.sts, SS.hd, SS.qu, SS.nr, SS.sm, SS.wt, SS.ln, SS.fg, SS.rm]
            rw [htm1]
            intro c hc
            have hc0 := (hKm c).1 hc
            exact ⟨(HKR.out c hc0).2, by have := hlvle c hc0; rw [hst.1]; omega⟩) (by dsimp only [SS.put, SS.bk, SS.bl, SS.ld, SS.val, SS.lrp, SS.tr, SS.sts, SS.hd, SS.qu, SS.nr, SS.sm, SS.wt, SS.ln, SS.fg, SS.rm]; rw [hst.1]; omega))
          rw [hv9] at HSP
          have HB9 := Lib.hid hb9
          have HV9 := Lib.hid hv9
          have HKD := Lib.hid (And.intro hKm (And.intro hKn (And.intro hK0 (And.intro hmax (And.intro hbv ht)))))
          have HPC := Lib.hid hpc
          clear M9 hb9 hv9 hKd hKm hKn hK0 hmax hpc hlvle hst hk1m h1K hhK HMX
          go_wp2_with fail
          refine HSP.out.mono ?_
          rintro e w10 ⟨m, hm, rfl, stl, F10, M10, hF10, hstl, hb10⟩
          have hv10 : (F10 (.tmp 1)).v = .slice (some ⟨gC, 0, none⟩) k cC := (congrFun hF10 (.tmp 1)).trans HV9.out
          obtain ⟨F11, M11, hv11, hK11⟩ := M10.newRow (by
            refine ⟨?_, ?_, ?_⟩ <;> dsimp only [SS.put, SS.bk, SS.bl, SS.ld, SS.val, SS.lrp, SS.tr, SS.sts, SS.hd, SS.qu, SS.nr, SS.sm, SS.wt, SS.ln, SS.fg, SS.rm]
            · exact (RI.idx HR.out).w
            · exact (RI.idx HR.out).l
            · exact (RI.idx HR.out).r) m
          rw [hv10] at M11 hv11
          dsimp only [SS.put, SS.bk, SS.bl, SS.ld, SS.val, SS.lrp, SS.tr, SS.sts, SS.hd, SS.qu, SS.nr, SS.sm, SS.wt, SS.ln, SS.fg, SS.rm] at hv11 hK11
          have M11a : Mem (w10.alloc (.cells #[.slice (some ⟨gC, 0, none⟩) k cC, .int .i64 (m : Int), .bool false] 75)) B bp (((s.ld seen hp6 pl6 wt6 st6 (updN tmp 1 K) (clz (opp code :: ks)) (s.since + 1)).sm (s.stamp + 1) stl).nr K w10.heap.size m) F11 := by
            have := M11
            dsimp only [SS.put, SS.bk, SS.bl, SS.ld, SS.val, SS.lrp, SS.tr, SS.sts, SS.hd, SS.qu, SS.nr, SS.sm, SS.wt, SS.ln, SS.fg, SS.rm] at this ⊢
            rw [htm1] at this
            exact this
          have hA11 : Below w10.heap.size w10 (w10.alloc (.cells #[.slice (some ⟨gC, 0, none⟩) k cC, .int .i64 (m : Int), .bool false] 75)).drew := ((Below.refl _ _).alloc (Nat.le_refl _) _).drew
          have hq10 : ∀ j, j < k → (w10.alloc (.cells #[.slice (some ⟨gC, 0, none⟩) k cC, .int .i64 (m : Int), .bool false] 75)).drew.cell? ⟨gC, j, none⟩ = some (.int .i64 (K.getD j 0 : Nat)) := fun j hj => by
            have hx : (F10 (.tmp 1)).xs = K.map iv := by rw [M10.xs]; show (updN tmp 1 K 1).map iv = _; rw [htm1]
            have h1 := M10.own.cell hv10 j (by rw [hx, List.length_map, hKl]; exact hj)
            rw [hx, getD_iv (by rw [hKl]; exact hj)] at h1
            exact (hA11.cell (show (⟨gC, j, none⟩ : Addr).block < _ from ((M10.own.1 (.tmp 1)).lt gC (by rw [hv10]; rfl)).2)).trans h1
          have M11b := M11a.below (Below.refl (w10.alloc (.cells #[.slice (some ⟨gC, 0, none⟩) k cC, .int .i64 (m : Int), .bool false] 75)).heap.size _).drew
          have hB11 : Below B w (w10.alloc (.cells #[.slice (some ⟨gC, 0, none⟩) k cC, .int .i64 (m : Int), .bool false] 75)).drew := HB9.out.trans (hb10.trans (hA11.mono (by have := M10.hB; have := M10.obj.lt; omega)))
          have hri : (w10.alloc (.cells #[.slice (some ⟨gC, 0, none⟩) k cC, .int .i64 (m : Int), .bool false] 75)).drew.heap.size = w10.heap.size + 1 := by simp
          clear M10 hF10 hb10 M11 hA11 M11a HSP
          go_wp2_with fail
          refine held.region (fun x => x = (w10.alloc (.cells #[.slice (some ⟨gC, 0, none⟩) k cC, .int .i64 (m : Int), .bool false] 75)).drew) 11 (by kernel_rfl) ?_
          generalize (w10.alloc (.cells #[.slice (some ⟨gC, 0, none⟩) k cC, .int .i64 (m : Int), .bool false] 75)).drew = w11 at *
          generalize w10.heap.size = ri at *
          obtain ⟨gL, cL2, hLv, f8, qL, nL, lL⟩ := M11b.lvlAt
          dsimp only [SS.put, SS.bk, SS.bl, SS.ld, SS.val, SS.lrp, SS.tr, SS.sts, SS.hd, SS.qu, SS.nr, SS.sm, SS.wt, SS.ln, SS.fg, SS.rm] at f8 qL
          obtain ⟨hKm, hKn, hK0, hmax, hbv, ht⟩ := HKD.out
          have hyr := HKR.out _ ((hKm _).1 (getD_mem' (l := K) (k := 1) (by rw [hKl]; omega)))
          have q1 := hq10 1 (by omega)
          obtain ⟨v1, hv1⟩ : ∃ v : Nat, ((K.getD 1 0 : Nat) : Int) / 2 = (v : Int) := ⟨K.getD 1 0 / 2, by omega⟩
          have hv1n : K.getD 1 0 / 2 = v1 := by omega
          have hvV : v1 < s.V + 1 := by omega
          have q8 := qL v1 (by omega)
          rw [← hv1n, hbv, hv1n] at q8
          have HBK := Lib.hid (back_some M11b (by dsimp only [SS.put, SS.bk, SS.bl, SS.ld, SS.val, SS.lrp, SS.tr, SS.sts, SS.hd, SS.qu, SS.nr, SS.sm, SS.wt, SS.ln, SS.fg, SS.rm]; exact HR.out.G.B) (by dsimp only [SS.put, SS.bk, SS.bl, SS.ld, SS.val, SS.lrp, SS.tr, SS.sts, SS.hd, SS.qu, SS.nr, SS.sm, SS.wt, SS.ln, SS.fg, SS.rm]; exact HR.out.G.vt) (by
            have h1 := HW6.out.len
            have h2 := HW6.out.fp
            have h3 := HW6.out.st
            refine ⟨?_, ?_, ?_⟩ <;> dsimp only [SS.put, SS.bk, SS.bl, SS.ld, SS.val, SS.lrp, SS.tr, SS.sts, SS.hd, SS.qu, SS.nr, SS.sm, SS.wt, SS.ln, SS.fg, SS.rm]
            · exact h1
            · exact h2
            · exact h3) (by dsimp only [SS.put, SS.bk, SS.bl, SS.ld, SS.val, SS.lrp, SS.tr, SS.sts, SS.hd, SS.qu, SS.nr, SS.sm, SS.wt, SS.ln, SS.fg, SS.rm]; exact hV) (by dsimp only [SS.put, SS.bk, SS.bl, SS.ld, SS.val, SS.lrp, SS.tr, SS.sts, SS.hd, SS.qu, SS.nr, SS.sm, SS.wt, SS.ln, SS.fg, SS.rm]; exact HR.out.G.hs) P (by dsimp only [SS.put, SS.bk, SS.bl, SS.ld, SS.val, SS.lrp, SS.tr, SS.sts, SS.hd, SS.qu, SS.nr, SS.sm, SS.wt, SS.ln, SS.fg, SS.rm]; exact HQ6.out) b t (by dsimp only [SS.put, SS.bk, SS.bl, SS.ld, SS.val, SS.lrp, SS.tr, SS.sts, SS.hd, SS.qu, SS.nr, SS.sm, SS.wt, SS.ln, SS.fg, SS.rm]; exact ht) (by dsimp only [SS.put, SS.bk, SS.bl, SS.ld, SS.val, SS.lrp, SS.tr, SS.sts, SS.hd, SS.qu, SS.nr, SS.sm, SS.wt, SS.ln, SS.fg, SS.rm]; exact HR.out.cur t (mem_at.2 ⟨b, ht⟩)))
          have HQC := Lib.hid hq10
          have HV11 := Lib.hid hv11
          have HB11 := Lib.hid hB11
          have hbl11 := M11b.obj.lt
          clear M11b hLv qL hq10 hv11 hK11 hB11 hKm hKn hK0 hmax hbv ht hv1n hyr hv10
          have hk1 : 1 < k := by omega
          have hk1I : (1 : Int) < (k : Int) := by omega
          generalize K.getD 1 0 = y1 at q1 hv1
          generalize s.V + 1 = VV at f8 hvV
          refine held.wpLeft.take (i := 0) (v := ?_) rfl (by kernel_rfl) (by kernel_rfl) (by kernel_rfl) (by kernel_rfl) (by kernel_rfl) (fun _ _ _ h => h) (by rfl) ?_ rfl ?_
          rotate_left
          · (intro w hSw; subst hSw; go_simp; try with_reducible rfl)
          simp only [Act.put, List.setIfInBounds_toArray, List.set_cons_zero, List.set_cons_succ]
          refine held.wpLeft.take (i := 1) (v := ?_) rfl (by kernel_rfl) (by kernel_rfl) (by kernel_rfl) (by kernel_rfl) (by kernel_rfl) (fun _ _ _ h => h) (by rfl) ?_ rfl ?_
          rotate_left
          · (intro w hSw; subst hSw; go_simp; try with_reducible rfl)
          simp only [Act.put, List.setIfInBounds_toArray, List.set_cons_zero, List.set_cons_succ]
          refine held.wpLeft.take (i := 2) (v := ?_) rfl (by kernel_rfl) (by kernel_rfl) (by kernel_rfl) (by kernel_rfl) (by kernel_rfl) (fun _ _ _ h => h) (by rfl) ?_ rfl ?_
          rotate_left
          · (intro w hSw; subst hSw; go_simp; try with_reducible rfl)
          simp only [Act.put, List.setIfInBounds_toArray, List.set_cons_zero, List.set_cons_succ]
          refine held.wpLeft.take (i := 3) (v := ?_) rfl (by kernel_rfl) (by kernel_rfl) (by kernel_rfl) (by kernel_rfl) (by kernel_rfl) (fun _ _ _ h => h) (by rfl) ?_ rfl ?_
          rotate_left
          · (intro w hSw; subst hSw; go_simp; try with_reducible rfl)
          simp only [Act.put, List.setIfInBounds_toArray, List.set_cons_zero, List.set_cons_succ]
          refine held.wpLeft.take (i := 4) (v := ?_) rfl (by kernel_rfl) (by kernel_rfl) (by kernel_rfl) (by kernel_rfl) (by kernel_rfl) (fun _ _ _ h => h) (by rfl) ?_ rfl ?_
          rotate_left
          · (intro w hSw; subst hSw; go_simp; try with_reducible rfl)
          simp only [Act.put, List.setIfInBounds_toArray, List.set_cons_zero, List.set_cons_succ]
          refine held.wpLeft.take (i := 5) (v := ?_) rfl (by kernel_rfl) (by kernel_rfl) (by kernel_rfl) (by kernel_rfl) (by kernel_rfl) (fun _ _ _ h => h) (by rfl) ?_ rfl ?_
          rotate_left
          · (intro w hSw; subst hSw; go_simp; try with_reducible rfl)
          simp only [Act.put, List.setIfInBounds_toArray, List.set_cons_zero, List.set_cons_succ]
          refine held.wpLeft.take (i := 6) (v := ?_) rfl (by kernel_rfl) (by kernel_rfl) (by kernel_rfl) (by kernel_rfl) (by kernel_rfl) (fun _ _ _ h => h) (by rfl) ?_ rfl ?_
          rotate_left
          · (intro w hSw; subst hSw; go_simp; try with_reducible rfl)
          simp only [Act.put, List.setIfInBounds_toArray, List.set_cons_zero, List.set_cons_succ]
          refine held.wpLeft.take (i := 7) (v := ?_) rfl (by kernel_rfl) (by kernel_rfl) (by kernel_rfl) (by kernel_rfl) (by kernel_rfl) (fun _ _ _ h => h) (by rfl) ?_ rfl ?_
          rotate_left
          · (intro w hSw; subst hSw; go_simp; try with_reducible rfl)
          simp only [Act.put, List.setIfInBounds_toArray, List.set_cons_zero, List.set_cons_succ]
          refine held.wpLeft.take (i := 8) (v := ?_) rfl (by kernel_rfl) (by kernel_rfl) (by kernel_rfl) (by kernel_rfl) (by kernel_rfl) (fun _ _ _ h => h) (by rfl) ?_ rfl ?_
          rotate_left
          · (intro w hSw; subst hSw; go_simp; try with_reducible rfl)
          simp only [Act.put, List.setIfInBounds_toArray, List.set_cons_zero, List.set_cons_succ]
          refine held.wpLeft.take (i := 9) (v := ?_) rfl (by kernel_rfl) (by kernel_rfl) (by kernel_rfl) (by kernel_rfl) (by kernel_rfl) (fun _ _ _ h => h) (by rfl) ?_ rfl ?_
          rotate_left
          · (intro w hSw; subst hSw; go_simp; try with_reducible rfl)
          simp only [Act.put, List.setIfInBounds_toArray, List.set_cons_zero, List.set_cons_succ]
          refine held.wpLeft.take (i := 10) (v := ?_) rfl (by kernel_rfl) (by kernel_rfl) (by kernel_rfl) (by kernel_rfl) (by kernel_rfl) (fun _ _ _ h => h) (by rfl) ?_ rfl ?_
          rotate_left
          · (intro w hSw; subst hSw; go_simp; try with_reducible rfl)
          simp only [Act.put, List.setIfInBounds_toArray, List.set_cons_zero, List.set_cons_succ]
          refine held.wpLeft.one (i := 11) (by kernel_rfl) rfl (fun K2 hK2 => ?_)
          go_simp
          refine HBK.out.mono ?_
          rintro e w12 ⟨rfl, rsn, hp7, pl7, F12, M12, hb12, hQ7, hr7, hr8, hK12⟩
          refine hK2.out _ _ (fun h => absurd rfl h) ?_
          clear hK2 K2
          refine held.wpLeft.done (by kernel_rfl) ?_
          obtain ⟨hKm, hKn, hK0, hmax, hbv, ht⟩ := HKD.out
          have hrs : updN s.row s.n K s.n = K := updN_same _ _ _
          have hK0r := HKR.out _ ((hKm _).1 (getD_mem' (l := K) (k := 0) (by rw [hKl]; omega)))
          have hK1r := HKR.out _ ((hKm _).1 (getD_mem' (l := K) (k := 1) (by rw [hKl]; omega)))
          have hpv : pv (SS.rp (((((s.ld seen hp6 pl6 wt6 st6 (updN tmp 1 K) (clz (opp code :: ks)) (s.since + 1)).sm (s.stamp + 1) stl).nr K ri m).bk t b rsn hp7 pl7))) s.n = .pointer (some ⟨ri, 0, none⟩) := by
            dsimp only [SS.put, SS.bk, SS.bl, SS.ld, SS.val, SS.lrp, SS.tr, SS.sts, SS.hd, SS.qu, SS.nr, SS.sm, SS.wt, SS.ln, SS.fg, SS.rm]
            unfold pv
            rw [updN_same]
          have HWA := Lib.hid (watch_any M12 (by dsimp only [SS.put, SS.bk, SS.bl, SS.ld, SS.val, SS.lrp, SS.tr, SS.sts, SS.hd, SS.qu, SS.nr, SS.sm, SS.wt, SS.ln, SS.fg, SS.rm]; exact hV) s.n (by dsimp only [SS.put, SS.bk, SS.bl, SS.ld, SS.val, SS.lrp, SS.tr, SS.sts, SS.hd, SS.qu, SS.nr, SS.sm, SS.wt, SS.ln, SS.fg, SS.rm]; omega) (by dsimp only [SS.put, SS.bk, SS.bl, SS.ld, SS.val, SS.lrp, SS.tr, SS.sts, SS.hd, SS.qu, SS.nr, SS.sm, SS.wt, SS.ln, SS.fg, SS.rm]; rw [hrs, hKl]; omega) (by dsimp only [SS.put, SS.bk, SS.bl, SS.ld, SS.val, SS.lrp, SS.tr, SS.sts, SS.hd, SS.qu, SS.nr, SS.sm, SS.wt, SS.ln, SS.fg, SS.rm]; rw [hrs]; exact hK0r.2) (by dsimp only [SS.put, SS.bk, SS.bl, SS.ld, SS.val, SS.lrp, SS.tr, SS.sts, SS.hd, SS.qu, SS.nr, SS.sm, SS.wt, SS.ln, SS.fg, SS.rm]; rw [hrs]; exact hK1r.2) (by
            dsimp only [SS.put, SS.bk, SS.bl, SS.ld, SS.val, SS.lrp, SS.tr, SS.sts, SS.hd, SS.qu, SS.nr, SS.sm, SS.wt, SS.ln, SS.fg, SS.rm]
            rw [hrs]
            intro e
            have := nodup_get.1 hKn 0 1 (by rw [hKl]; omega) (by rw [hKl]; omega) e
            omega) (by dsimp only [SS.put, SS.bk, SS.bl, SS.ld, SS.val, SS.lrp, SS.tr, SS.sts, SS.hd, SS.qu, SS.nr, SS.sm, SS.wt, SS.ln, SS.fg, SS.rm]; exact fun c => HR.out.G.watLen c))
          rw [hpv] at HWA
          have HQ7 : Hid (QI s.V (fun u => P u ∨ ∃ p x, t ≤ p ∧ s.trail[p]? = some x ∧ x / 2 = u) hp7 pl7) := Lib.hid (by have := hQ7; dsimp only [SS.put, SS.bk, SS.bl, SS.ld, SS.val, SS.lrp, SS.tr, SS.sts, SS.hd, SS.qu, SS.nr, SS.sm, SS.wt, SS.ln, SS.fg, SS.rm] at this; exact this)
          have HR7 : Hid ((∀ p x, s.trail[p]? = some x → p < t → rsn (x / 2) = s.rsn (x / 2)) ∧ ∀ v i, rsn v = some i → s.rsn v = some i) := Lib.hid ⟨by have := hr7; dsimp only [SS.put, SS.bk, SS.bl, SS.ld, SS.val, SS.lrp, SS.tr, SS.sts, SS.hd, SS.qu, SS.nr, SS.sm, SS.wt, SS.ln, SS.fg, SS.rm] at this; exact this, by have := hr8; dsimp only [SS.put, SS.bk, SS.bl, SS.ld, SS.val, SS.lrp, SS.tr, SS.sts, SS.hd, SS.qu, SS.nr, SS.sm, SS.wt, SS.ln, SS.fg, SS.rm] at this; exact this⟩
          have HV12 : Hid ((F12 (.row s.n)).v = .slice (some ⟨gC, 0, none⟩) k cC) := Lib.hid ((hK12 _ (by simp) (by simp) (by simp)).trans HV11.out)
          have HB12 := Lib.hid (HB11.out.trans hb12)
          clear M12 hb12 hQ7 hr7 hr8 hK12 HBK HQC f8 q1 q8 hKm hKn hK0 hmax hbv ht hK0r hK1r hpv HV11 HB11
          go_wp2_with fail
          refine HWA.out.mono ?_
          rintro e w13 ⟨rfl, F13, M13, hK13, hb13⟩
          have M13a : Mem w13 B bp ((((((s.ld seen hp6 pl6 wt6 st6 (updN tmp 1 K) (clz (opp code :: ks)) (s.since + 1)).sm (s.stamp + 1) stl).nr K ri m).bk t b rsn hp7 pl7).wt (satS.watched s.W s.n K))) F13 := by
            have := M13
            dsimp only [SS.put, SS.bk, SS.bl, SS.ld, SS.val, SS.lrp, SS.tr, SS.sts, SS.hd, SS.qu, SS.nr, SS.sm, SS.wt, SS.ln, SS.fg, SS.rm] at this ⊢
            rw [hrs] at this
            exact this
          have f21 : w13.cell? ⟨bp, 21, none⟩ = some (F13 .learned).v := M13a.fld 21
          have z21 := M13a.obj.frozen 21
          obtain ⟨aG, cG, hGv⟩ := M13a.own.value .learned
          rw [M13a.xs, show (cont ((((((s.ld seen hp6 pl6 wt6 st6 (updN tmp 1 K) (clz (opp code :: ks)) (s.since + 1)).sm (s.stamp + 1) stl).nr K ri m).bk t b rsn hp7 pl7).wt (satS.watched s.W s.n K))) (fvs F13) .learned).length = s.learned.length from by dsimp only [cont, SS.put, SS.bk, SS.bl, SS.ld, SS.val, SS.lrp, SS.tr, SS.sts, SS.hd, SS.qu, SS.nr, SS.sm, SS.wt, SS.ln, SS.fg, SS.rm]; rw [List.length_map]] at hGv
          rw [hGv] at f21
          have hlg : s.learned.length ≤ 1000000000 := by have := HR.out.ll; omega
          have hbl13 := M13a.obj.lt
          have HO := Lib.hid ((M13a.below ((Below.refl _ _).alloc (Nat.le_refl _) (.cells #[.pointer (some ⟨ri, 0, none⟩)] 73))).ownAt .learned rfl)
          have hxl : (cont ((((((s.ld seen hp6 pl6 wt6 st6 (updN tmp 1 K) (clz (opp code :: ks)) (s.since + 1)).sm (s.stamp + 1) stl).nr K ri m).bk t b rsn hp7 pl7).wt (satS.watched s.W s.n K))) (fvs F13) .learned).length = s.learned.length := by dsimp only [cont, SS.put, SS.bk, SS.bl, SS.ld, SS.val, SS.lrp, SS.tr, SS.sts, SS.hd, SS.qu, SS.nr, SS.sm, SS.wt, SS.ln, SS.fg, SS.rm]; rw [List.length_map]
          rw [hxl, hGv] at HO
          have hgt := M13a.ne .learned
          rw [hGv] at hgt
          have HM13 := Lib.hid M13a
          have HGV := Lib.hid hGv
          have HV13 : Hid ((F13 (.row s.n)).v = .slice (some ⟨gC, 0, none⟩) k cC) := Lib.hid ((hK13 _ (fun c => by simp)).trans HV12.out)
          have HB13 := Lib.hid (HB12.out.trans hb13)
          obtain ⟨i1, hi1, hy0, hy1, hy2⟩ := info_parts infoR
          clear M13 M13a hK13 hb13 hGv HWA hxl HB12 HV12
          go_wp2_with (at_builtin; (refine wpList_append_own_at _ rfl _ _ 48 rfl B 73 i1 (.pointer none) 1 8 Tryd.underlying48 hi1 hy0 hy1 hy2 rfl (by decide) (.slice aG s.learned.length cG) s.learned.length (cont ((((((s.ld seen hp6 pl6 wt6 st6 (updN tmp 1 K) (clz (opp code :: ks)) (s.since + 1)).sm (s.stamp + 1) stl).nr K ri m).bk t b rsn hp7 pl7).wt (satS.watched s.W s.n K))) (fvs F13) .learned) rfl ?d0 ⟨w13.heap.size, 0, none⟩ 1 1 [.pointer (some ⟨ri, 0, none⟩)] rfl rfl (new_one _ _ _) ?d2 ?d3 ?d4 ?d5 ?_))
          case d0 => exact HO.out
          case d2 => simp [Value.oneCell']
          case d3 => unfold maxLen; omega
          case d4 => omega
          case d5 => simp; omega
          intro v' w14 hown14 hgrow14 _ hat
          obtain ⟨g', cap', rfl, _, _, _, _⟩ := own_form hown14 (by omega)
          have hpv13 : pv (SS.rp ((((((s.ld seen hp6 pl6 wt6 st6 (updN tmp 1 K) (clz (opp code :: ks)) (s.since + 1)).sm (s.stamp + 1) stl).nr K ri m).bk t b rsn hp7 pl7).wt (satS.watched s.W s.n K)))) s.n = .pointer (some ⟨ri, 0, none⟩) := by
            dsimp only [SS.put, SS.bk, SS.bl, SS.ld, SS.val, SS.lrp, SS.tr, SS.sts, SS.hd, SS.qu, SS.nr, SS.sm, SS.wt, SS.ln, SS.fg, SS.rm]
            unfold pv
            rw [updN_same]
          have hA13 : Below w13.heap.size w13 (w13.alloc (.cells #[.pointer (some ⟨ri, 0, none⟩)] 73)) := (Below.refl _ _).alloc (Nat.le_refl _) _
          obtain ⟨F14, M14, K14, B14⟩ := HM13.out.appLearned (i := s.n) (n := s.learned.length) (by dsimp only [SS.put, SS.bk, SS.bl, SS.ld, SS.val, SS.lrp, SS.tr, SS.sts, SS.hd, SS.qu, SS.nr, SS.sm, SS.wt, SS.ln, SS.fg, SS.rm]) hA13 (by rw [hpv13]; exact hown14) (by rw [HGV.out]; exact hgrow14) (by
            rw [HGV.out]
            rcases hat with hat | hat
            · exact .inl hat
            · exact .inr (by have : g' = w13.heap.size + 1 := by simpa [Value.ownBlock] using hat
                             rw [this]; simp))
          have M14a : Mem (w14.setCell ⟨bp, 21, none⟩ (.slice (some ⟨g', 0, none⟩) (s.learned.length + 1) cap')) B bp (((((((s.ld seen hp6 pl6 wt6 st6 (updN tmp 1 K) (clz (opp code :: ks)) (s.since + 1)).sm (s.stamp + 1) stl).nr K ri m).bk t b rsn hp7 pl7).wt (satS.watched s.W s.n K)).ln (s.learned ++ [s.n]))) F14 := by
            have := M14
            dsimp only [SS.put, SS.bk, SS.bl, SS.ld, SS.val, SS.lrp, SS.tr, SS.sts, SS.hd, SS.qu, SS.nr, SS.sm, SS.wt, SS.ln, SS.fg, SS.rm] at this ⊢
            exact this
          have f21b : w14.cell? ⟨bp, 21, none⟩ = some (.slice aG s.learned.length cG) := hgrow14.cell ((hA13.cell (show (⟨bp, 21, none⟩ : Addr).block < _ from hbl13)).trans f21) (fun e => hgt e.symm)
          have z21b : w14.frozen? ⟨bp, 21, none⟩ = false := (World.frozen?_of_block (hgrow14.block bp (by simp; omega) (fun e => hgt e.symm))).trans ((hA13.frozen (show (⟨bp, 21, none⟩ : Addr).block < _ from hbl13)).trans z21)
          have hv14 : (F14 (.row s.n)).v = .slice (some ⟨gC, 0, none⟩) k cC := (K14 _ (by simp)).trans HV13.out
          have hx14 : (F14 (.row s.n)).xs = K.map iv := by rw [M14a.xs]; show (updN s.row s.n K s.n).map iv = _; rw [hrs]
          have q0 := M14a.own.cell hv14 0 (by rw [hx14, List.length_map, hKl]; omega)
          obtain ⟨hKm, hKn, hK0, hmax, hbv, ht⟩ := HKD.out
          rw [hx14, getD_iv (by rw [hKl]; omega), hK0] at q0
          obtain ⟨hni1, hni2⟩ := lrn_notin HLN.out HR.out.G.B ht
          have hcr := HKR.out (opp code) (by simp)
          have htlen := HR.out.G.B.len
          have hslen := HR.out.G.hs
          have hrv : rv (SS.rp (((((((s.ld seen hp6 pl6 wt6 st6 (updN tmp 1 K) (clz (opp code :: ks)) (s.since + 1)).sm (s.stamp + 1) stl).nr K ri m).bk t b rsn hp7 pl7).wt (satS.watched s.W s.n K)).ln (s.learned ++ [s.n])))) (some s.n) = .pointer (some ⟨ri, 0, none⟩) := by
            dsimp only [SS.put, SS.bk, SS.bl, SS.ld, SS.val, SS.lrp, SS.tr, SS.sts, SS.hd, SS.qu, SS.nr, SS.sm, SS.wt, SS.ln, SS.fg, SS.rm]
            unfold rv pv
            dsimp only
            rw [updN_same]
          have HSE := Lib.hid (set_any M14a (by dsimp only [SS.put, SS.bk, SS.bl, SS.ld, SS.val, SS.lrp, SS.tr, SS.sts, SS.hd, SS.qu, SS.nr, SS.sm, SS.wt, SS.ln, SS.fg, SS.rm]; exact hV) (opp code) (some s.n) (by dsimp only [SS.put, SS.bk, SS.bl, SS.ld, SS.val, SS.lrp, SS.tr, SS.sts, SS.hd, SS.qu, SS.nr, SS.sm, SS.wt, SS.ln, SS.fg, SS.rm]; exact hcr) (by dsimp only [SS.put, SS.bk, SS.bl, SS.ld, SS.val, SS.lrp, SS.tr, SS.sts, SS.hd, SS.qu, SS.nr, SS.sm, SS.wt, SS.ln, SS.fg, SS.rm]; exact hni1) (by dsimp only [SS.put, SS.bk, SS.bl, SS.ld, SS.val, SS.lrp, SS.tr, SS.sts, SS.hd, SS.qu, SS.nr, SS.sm, SS.wt, SS.ln, SS.fg, SS.rm]; exact hni2) (by dsimp only [SS.put, SS.bk, SS.bl, SS.ld, SS.val, SS.lrp, SS.tr, SS.sts, SS.hd, SS.qu, SS.nr, SS.sm, SS.wt, SS.ln, SS.fg, SS.rm]; rw [List.length_take]; omega) (by dsimp only [SS.put, SS.bk, SS.bl, SS.ld, SS.val, SS.lrp, SS.tr, SS.sts, SS.hd, SS.qu, SS.nr, SS.sm, SS.wt, SS.ln, SS.fg, SS.rm]; rw [List.length_take]; omega))
          rw [hrv] at HSE
          have HB14 := Lib.hid (HB13.out.trans B14)
          clear M14 M14a K14 B14 hown14 hgrow14 hat HO hgt hA13 hpv13 hv14 hx14 hKm hKn hK0 hmax hbv ht hni1 hni2 hcr htlen hslen hrv HM13 HGV HB13 HV13 f21 z21
          go_wp2_with fail
          refine HSE.out.mono ?_
          rintro e w15 ⟨rfl, F15, M15, K15, b15⟩
          obtain ⟨hKm, hKn, hK0, hmax, hbv, ht⟩ := HKD.out
          have hR := HR.out
          have hkk : 2 ≤ K.length := by rw [hKl]; omega
          have hcr0 := HKR.out _ ((hKm _).1 (getD_mem' (l := K) (k := 0) (by omega)))
          have hcr1 := HKR.out _ ((hKm _).1 (getD_mem' (l := K) (k := 1) (by omega)))
          have HFG := Lib.hid (forget_any M15 (by
            dsimp only [SS.put, SS.bk, SS.bl, SS.ld, SS.val, SS.lrp, SS.tr, SS.sts, SS.hd, SS.qu, SS.nr, SS.sm, SS.wt, SS.ln, SS.fg, SS.rm]
            intro i hi
            rcases List.mem_append.1 hi with hi | hi
            · have := hR.lr i hi; omega
            · simp at hi; omega) (by dsimp only [SS.put, SS.bk, SS.bl, SS.ld, SS.val, SS.lrp, SS.tr, SS.sts, SS.hd, SS.qu, SS.nr, SS.sm, SS.wt, SS.ln, SS.fg, SS.rm]; rw [List.length_append, List.length_singleton]; have := hR.ll; omega) (by dsimp only [SS.put, SS.bk, SS.bl, SS.ld, SS.val, SS.lrp, SS.tr, SS.sts, SS.hd, SS.qu, SS.nr, SS.sm, SS.wt, SS.ln, SS.fg, SS.rm]; exact hV) (by
            dsimp only [SS.put, SS.bk, SS.bl, SS.ld, SS.val, SS.lrp, SS.tr, SS.sts, SS.hd, SS.qu, SS.nr, SS.sm, SS.wt, SS.ln, SS.fg, SS.rm]
            intro i hi
            by_cases e : i = s.n
            · subst e
              rw [updN_same]
              exact ⟨hkk, fun x hx => (HKR.out x ((hKm x).1 hx)).2⟩
            · rw [updN_other _ _ e]
              exact ⟨hR.G.R.two i (by omega), fun x hx => (hR.G.R.rng i (by omega) x hx).2⟩) (by
            dsimp only [SS.put, SS.bk, SS.bl, SS.ld, SS.val, SS.lrp, SS.tr, SS.sts, SS.hd, SS.qu, SS.nr, SS.sm, SS.wt, SS.ln, SS.fg, SS.rm]
            intro v i hv
            unfold updN at hv
            split at hv
            · cases hv; omega
            · have := hR.G.rb v i (HR7.out.2 v i hv); omega) (by
            dsimp only [SS.put, SS.bk, SS.bl, SS.ld, SS.val, SS.lrp, SS.tr, SS.sts, SS.hd, SS.qu, SS.nr, SS.sm, SS.wt, SS.ln, SS.fg, SS.rm]
            unfold satS.watched
            rw [updN_other _ _ (by omega), updN_other _ _ (by omega)]
            exact hR.wk) (by dsimp only [SS.put, SS.bk, SS.bl, SS.ld, SS.val, SS.lrp, SS.tr, SS.sts, SS.hd, SS.qu, SS.nr, SS.sm, SS.wt, SS.ln, SS.fg, SS.rm]; exact hR.ro.1) (by dsimp only [SS.put, SS.bk, SS.bl, SS.ld, SS.val, SS.lrp, SS.tr, SS.sts, SS.hd, SS.qu, SS.nr, SS.sm, SS.wt, SS.ln, SS.fg, SS.rm]; exact hR.ro.2))
          have HB15 := Lib.hid (HB14.out.trans b15)
          clear M15 K15 b15 HSE HB14 hKm hKn hK0 hmax hbv ht hR hkk hcr0 hcr1 f21b z21b q0
          go_wp2_with fail
          refine HFG.out.mono ?_
          rintro e w16 ⟨rfl, kept, gone, room, F16, M16, k1, k2, k3, k4, k5, k6, b16⟩
          obtain ⟨hKm, hKn, hK0, hmax, hbv, ht⟩ := HKD.out
          dsimp only [SS.put, SS.bk, SS.bl, SS.ld, SS.val, SS.lrp, SS.tr, SS.sts, SS.hd, SS.qu, SS.nr, SS.sm, SS.wt, SS.ln, SS.fg, SS.rm] at k1 k2 k3 k6 hstl
          obtain ⟨hRI, hms⟩ := RI.learnMany HR.out HLN.out hKm hKn (by rw [hKl]; omega) hK0 hmax hbv ht HP.out HQ7.out HW6.out HSN1.out HR7.out.1 HR7.out.2 (s.since + 1) hn ri m (updN tmp 1 K) hstl k1 k2 k3 ⟨k4, k5⟩ k6
          have HFIN : Hid (LnP B bp cs n0 s w w16) := Lib.hid ⟨_, F16, M16, HB15.out.trans b16, afterMany hRI hms⟩
          clear M16 b16 hRI hms k1 k2 k3 k4 k5 k6 hKm hKn hK0 hmax hbv ht
          go_wp2
          go_end0
          exact ⟨rfl, HFIN.out⟩
end
end Go.Proofs.YtojjjndhabjhdaaDoor.satSd
