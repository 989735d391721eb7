/-
  Contract of (*search).shortened.
-/
import Derived.Test.YtojjjndhabjhdaaDoorFdM
namespace Go.Proofs.YtojjjndhabjhdaaDoor.satV
set_option linter.unusedSimpArgs false
set_option linter.unusedVariables false
open Go.ChangeShapes Go.WideShapes Go.ChangeAt Go.RowKit proofP proofQ owns cls satP satQ satR satA satF satB satC satD satE satG satH satI satJ satK satM satN satU
attribute [local go_sem ↓] Go.wp_at_zero Go.wp_at_succ

theorem one_row (w : World) (x : Value) (T : TypeId) : (w.alloc (.cells #[x] T)).ownsRow w.heap.size T 1 (.slice (some ⟨w.heap.size, 0, none⟩) 1 1) 1 [x] :=
  ⟨rfl, .inr ⟨w.heap.size, 1, #[x], rfl, Nat.le_refl _, heap_alloc_new w _, Nat.le_refl _, by unfold maxLen; omega, rfl, rfl⟩⟩
section
variable {w w' : World} {B bp : Nat} {s : SS} {F : Ix → Ent}
theorem _root_.Go.Proofs.YtojjjndhabjhdaaDoor.satA.Mem.tmpAt (h : Mem w B bp s F) (j : Nat) (h0 : 0 < (s.tmp j).length) : ∃ g cap, (F (.tmp j)).v = .slice (some ⟨g, 0, none⟩) (s.tmp j).length cap ∧ (∀ p, p < (s.tmp j).length → w.cell? ⟨g, p, none⟩ = some (.int .i64 ((s.tmp j).getD p 0 : Nat))) ∧ (∀ p, w.frozen? ⟨g, p, none⟩ = false) ∧ g ≠ bp ∧ B ≤ g ∧ g < w.heap.size ∧ (s.tmp j).length ≤ cap ∧ cap ≤ maxLen := by
  obtain ⟨g, c, hv, q, z, n1, b1, l1, r1, k1, k2⟩ := h.at (.tmp j) (n := (s.tmp j).length) (by simp [cont]) h0
  exact ⟨g, c, hv, fun p hp => by rw [q p hp, show cont s (fvs F) (.tmp j) = (s.tmp j).map iv from rfl, getD_iv hp], z, n1, b1, l1, k1, k2⟩
/-- the kept codes, of so many that were looked at -/
def kept (s : SS) (h0 : Nat) (cs : List Nat) (k : Nat) : List Nat := h0 :: (cs.take k).filter fun c => !folB s c
theorem kept_yes {s : SS} {h0 k : Nat} {cs : List Nat} (hk : k < cs.length) (h : folB s (cs.getD k 0) = true) : kept s h0 cs (k + 1) = kept s h0 cs k := by
  unfold kept
  rw [List.take_succ_eq_append_getElem hk, List.filter_append]
  have : cs[k] = cs.getD k 0 := by rw [List.getD_eq_getElem?_getD, List.getElem?_eq_getElem hk]; rfl
  rw [this, List.filter_cons, h]; simp
theorem kept_no {s : SS} {h0 k : Nat} {cs : List Nat} (hk : k < cs.length) (h : folB s (cs.getD k 0) = false) : kept s h0 cs (k + 1) = kept s h0 cs k ++ [cs.getD k 0] := by
  unfold kept
  rw [List.take_succ_eq_append_getElem hk, List.filter_append]
  have : cs[k] = cs.getD k 0 := by rw [List.getD_eq_getElem?_getD, List.getElem?_eq_getElem hk]; rfl
  rw [this, List.filter_cons, h]; rfl
theorem kept_len (s : SS) (h0 : Nat) (cs : List Nat) (k : Nat) : (kept s h0 cs k).length ≤ k + 1 := by
  unfold kept
  have := List.length_filter_le (fun c => !folB s c) (cs.take k)
  have := List.length_take_le k cs
  simp; omega
theorem folB_tm (s : SS) (tmp : Nat → List Nat) (c : Nat) : folB (s.tm tmp) c = folB s c := rfl
/-- the seen ones, when so many were made unseen -/
def unseen (seen : Nat → Bool) (K : List Nat) (k : Nat) : Nat → Bool := fun v => if v ∈ (K.take k).map (fun c => c / 2) then false else seen v
theorem unseen_step {seen : Nat → Bool} {K : List Nat} {k : Nat} (hk : k < K.length) : unseen seen K (k + 1) = updN (unseen seen K k) (K.getD k 0 / 2) false := by
  funext v
  unfold unseen updN
  have : K[k] = K.getD k 0 := by rw [List.getD_eq_getElem?_getD, List.getElem?_eq_getElem hk]; rfl
  rw [List.take_succ_eq_append_getElem hk, List.map_append, this]
  by_cases e : v = K.getD k 0 / 2
  · rw [if_pos e, if_pos (by simp [e])]
  · rw [if_neg e]
    have e2 : v ∈ (K.take k).map (fun c => c / 2) ++ [K.getD k 0].map (fun c => c / 2) ↔ v ∈ (K.take k).map (fun c => c / 2) := by
      rw [List.mem_append]
      constructor
      · rintro (h | h)
        · exact h
        · simp at h; exact absurd h (by simpa using e)
      · exact .inl
    simp only [e2]
def SRel (B bp : Nat) (s : SS) (F : Ix → Ent) (h0 : Nat) (cs : List Nat) (b2 : Nat) (w : World) (k : Nat) (kv : Value) (wr : World) : Prop :=
  ∃ F', Mem wr B bp (s.tm (updN s.tmp 1 (kept s h0 cs k))) F' ∧ (F' (.tmp 1)).v = kv ∧ (∀ q, q ≠ .tmp 1 → (F' q).v = (F q).v) ∧ Below B w wr ∧ wr.cell? ⟨b2, 0, none⟩ = some (.pointer (some ⟨bp, 0, none⟩)) ∧ b2 < wr.heap.size ∧ kv.ownBlock ≠ some b2
def URel (B bp : Nat) (s : SS) (F : Ix → Ent) (h0 : Nat) (cs : List Nat) (b2 : Nat) (w : World) (kv : Value) (j : Nat) (wr : World) : Prop :=
  ∃ F', Mem wr B bp ((s.se (unseen s.seen (h0 :: cs) j)).tm (updN s.tmp 1 (kept s h0 cs cs.length))) F' ∧ (F' (.tmp 1)).v = kv ∧ (∀ q, q ≠ .tmp 1 → (F' q).v = (F q).v) ∧ Below B w wr ∧ wr.cell? ⟨b2, 0, none⟩ = some (.pointer (some ⟨bp, 0, none⟩)) ∧ b2 < wr.heap.size
def ShP (B bp : Nat) (s : SS) (F : Ix → Ent) (h0 : Nat) (cs : List Nat) (w : World) (e : Ending) (w' : World) : Prop :=
  ∃ F', Mem w' B bp ((s.se (unseen s.seen (h0 :: cs) (h0 :: cs).length)).tm (updN s.tmp 1 (kept s h0 cs cs.length))) F' ∧ e = .returned (F' (.tmp 1)).v ∧ (∀ q, q ≠ .tmp 1 → (F' q).v = (F q).v) ∧ Below B w w'
set_option maxHeartbeats 4000000 in
set_option maxRecDepth 100000 in
theorem shortened_any (h : Mem w B bp s F) (hV : s.V ≤ 20000) (h0 : Nat) (cs : List Nat) (ht : s.tmp 0 = h0 :: cs) (hc : ∀ c, c ∈ h0 :: cs → c < 2 * s.V + 2) (hl : cs.length ≤ 100000) (hR : ∀ i, i < s.n → ∀ x, x ∈ s.row i → x < 2 * s.V + 2) (hrb : ∀ v i, s.rsn v = some i → i < s.n) :
    Calls Tryd.prog 77 #[.pointer (some ⟨bp, 0, none⟩), (F (.tmp 0)).v] w (ShP B bp s F h0 cs w) := by
  obtain ⟨F0, M0, K0, KO⟩ := h.free 1
  obtain ⟨g0, c0, hv0, q0, z0, n0, b0, l0, k0, m0⟩ := h.tmpAt 0 (by rw [ht]; simp)
  have hln : (s.tmp 0).length = cs.length + 1 := by rw [ht]; simp
  rw [hln] at hv0 q0 k0
  rw [hv0]
  have hB := h.hB
  have hbl := h.obj.lt
  have hq0 := q0 0 (by omega)
  rw [ht] at q0 hq0
  have HQ0 : Hid (∀ p, p < cs.length → w.cell? ⟨g0, p + 1, none⟩ = some (.int .i64 (cs.getD p 0 : Nat))) := Lib.hid (fun p hp => by rw [q0 (p + 1) (by omega)]; rfl)
  have HQA := Lib.hid q0
  have hh0 : ((h0 :: cs).getD 0 0) = h0 := rfl
  rw [hh0] at hq0
  have hA1 : Below w.heap.size w (w.alloc (.cells #[.pointer (some ⟨bp, 0, none⟩)] 43)) := (Below.refl _ _).alloc (Nat.le_refl _) _
  obtain ⟨F1, M1, K1, KO1⟩ := (M0.below hA1).newTmp (j := 1) (l := [h0]) K0 ((Below.refl _ _).alloc (Nat.le_refl _) (.cells #[.int .i64 h0] 3)) (one_row _ (.int .i64 h0) _)
  have hR0 : SRel B bp s F h0 cs w.heap.size w 0 (.slice (some ⟨w.heap.size + 1, 0, none⟩) 1 1) ((w.alloc (.cells #[.pointer (some ⟨bp, 0, none⟩)] 43)).alloc (.cells #[.int .i64 h0] 3)) := by
    refine ⟨F1, ?_, by rw [K1]; simp, fun q hq => (KO1 q hq).trans (KO q hq), ((Below.refl B w).alloc (by omega) _).alloc (by simp; omega) _, by simp, by simp; omega, by simp [Value.ownBlock]⟩
    have e : updN (s.tm (updN s.tmp 1 [])).tmp 1 [h0] = updN s.tmp 1 (kept s h0 cs 0) := by
      funext j
      show updN (updN s.tmp 1 []) 1 [h0] j = _
      unfold updN kept
      split <;> simp
    have := M1
    rw [e] at this
    exact this
  have HR0 := Lib.hid hR0
  have HT := Lib.hid ht
  have HC := Lib.hid hc
  have HRR := Lib.hid hR
  have HRB := Lib.hid hrb
  have HV0 := Lib.hid hv0
  unfold maxLen at m0
  clear h M0 K0 KO M1 K1 KO1 hR0 ht hc hR hrb hv0 hA1 hln hh0 HQ0 HQA q0 z0
  obtain ⟨i0, hi, hz0, hz1, hz2⟩ := info_parts infoI
  go_enter Tryd.func77, Tryd.ntmps77
  by_cases hc1 : c0 = 1
  · subst hc1
    have hcs0 : cs.length = 0 := by omega
    go_wp2
    go_loopw [6, 19] (fun kv it wr => ∃ k : Nat, k ≤ cs.length ∧ it = .int .i64 k ∧ SRel B bp s F h0 cs w.heap.size w k kv wr) (fun _ it _ => cs.length - (intOf it).toNat)
    case atStart => exact ⟨0, Nat.zero_le _, rfl, HR0.out⟩
    case round =>
      obtain ⟨k, hk, rfl, F2, M, hkv, hK, hb, hbx, hlx, hob⟩ := hrel
      clear HR0
      have hv1 : (F2 (.tmp 0)).v = .slice (some ⟨g0, 0, none⟩) (cs.length + 1) 1 := (hK _ (by simp)).trans HV0.out
      have hx1 : (F2 (.tmp 0)).xs = (h0 :: cs).map iv := by
        rw [M.xs]
        show ((updN s.tmp 1 (kept s h0 cs k)) 0).map iv = _
        rw [updN_other _ _ (by decide), HT.out]
      have hws := M.obj.lt
      by_cases hlt : k < cs.length
      · exfalso; omega
      · obtain rfl : k = cs.length := by omega
        have HR1 : Hid (URel B bp s F h0 cs w.heap.size w u6 0 wr) := Lib.hid ⟨F2, by
          have e : unseen s.seen (h0 :: cs) 0 = s.seen := by funext v; unfold unseen; simp
          rw [e]; exact M, hkv, hK, hb, hbx, hlx⟩
        clear M hkv hv1 hx1 hK hb hbx hlx hob
        have hKl : (h0 :: cs).length = cs.length + 1 := rfl
        go_wp2
        go_loopw [10, 34] (fun c it wx => ∃ j : Nat, j ≤ cs.length + 1 ∧ it = .int .i64 j ∧ URel B bp s F h0 cs w.heap.size w u6 j wx) (fun _ it _ => cs.length + 1 - (intOf it).toNat)
        case atStart => exact ⟨0, Nat.zero_le _, rfl, HR1.out⟩
        case round =>
          obtain ⟨j, hj, rfl, F3, M, hkv, hK, hb, hbx, hlx⟩ := hrel
          clear HR1
          have hv1 : (F3 (.tmp 0)).v = .slice (some ⟨g0, 0, none⟩) (cs.length + 1) 1 := (hK _ (by simp)).trans HV0.out
          have hx1 : (F3 (.tmp 0)).xs = (h0 :: cs).map iv := by
            rw [M.xs]
            show ((updN s.tmp 1 (kept s h0 cs cs.length)) 0).map iv = _
            rw [updN_other _ _ (by decide), HT.out]
          by_cases hlt : j < cs.length + 1
          · have q := M.own.cell hv1 j (by rw [hx1]; simp; omega)
            rw [hx1, getD_iv (by simp; omega)] at q
            have hcm : (h0 :: cs).getD j 0 ∈ h0 :: cs := by rw [List.getD_eq_getElem?_getD, List.getElem?_eq_getElem (by simpa using hlt)]; exact List.getElem_mem (by simpa using hlt)
            have hcr := HC.out _ hcm
            have HUS := Lib.hid (unseen_step (seen := s.seen) (K := h0 :: cs) (k := j) (by simpa using hlt))
            generalize (h0 :: cs).getD j 0 = c at *
            obtain ⟨gS, cS, hSv, f14, qS, zS, nS, bS, lS⟩ := M.seenAt
            have q2 := qS (c / 2) (by show c / 2 ≤ s.V; omega)
            have z2 := zS (c / 2)
            have hv2 : c / 2 < s.V + 1 := by omega
            obtain ⟨F4, M4, K4⟩ := M.setSeen hSv (c / 2) false
            have nbx : w.heap.size ≠ gS := fun e => by
              have := M.own.cell hSv 0 (by rw [M.xs]; simp [cont])
              rw [← e, hbx, M.xs] at this
              simp [cont, range_at] at this
            have hbl2 := M.obj.lt
            change wr.cell? ⟨bp, 14, none⟩ = some (.slice (some ⟨gS, 0, none⟩) (s.V + 1) cS) at f14
            have HREL : Hid (URel B bp s F h0 cs w.heap.size w u6 (j + 1) (wr.setCell ⟨gS, c / 2, none⟩ (.bool false))) := Lib.hid ⟨F4, by
              rw [HUS.out]
              exact M4, (congrFun K4 (.tmp 1)).trans hkv, fun q hq => (congrFun K4 q).trans (hK q hq), hb.setCell bS _, by
              rw [World.cell?_setCell_far _ _ _ _ (fun e => nbx e.symm)]; exact hbx, by simpa using hlx⟩
            generalize (SS.seen _) (c / 2) = old at q2
            clear M hkv hv1 hx1 hK hb M4 K4 hSv qS zS hcm
            go_wp2
            go_roundw
            case rel => exact ⟨j + 1, by omega, by go_num, HREL.out⟩
            case measure => simp [intOf]; omega
          · obtain rfl : j = cs.length + 1 := by omega
            have HFIN : Hid (ShP B bp s F h0 cs w (.returned u6) wr) := Lib.hid ⟨F3, M, by rw [hkv], hK, hb⟩
            clear M hkv hv1 hx1 hK hb
            go_wp2
            go_ret
            exact HFIN.out
  · go_wp2
    go_loopw [6, 19] (fun kv it wr => ∃ k : Nat, k ≤ cs.length ∧ it = .int .i64 k ∧ SRel B bp s F h0 cs w.heap.size w k kv wr) (fun _ it _ => cs.length - (intOf it).toNat)
    case atStart => exact ⟨0, Nat.zero_le _, rfl, HR0.out⟩
    case round =>
      obtain ⟨k, hk, rfl, F2, M, hkv, hK, hb, hbx, hlx, hob⟩ := hrel
      clear HR0
      have hv1 : (F2 (.tmp 0)).v = .slice (some ⟨g0, 0, none⟩) (cs.length + 1) c0 := (hK _ (by simp)).trans HV0.out
      have hx1 : (F2 (.tmp 0)).xs = (h0 :: cs).map iv := by
        rw [M.xs]
        show ((updN s.tmp 1 (kept s h0 cs k)) 0).map iv = _
        rw [updN_other _ _ (by decide), HT.out]
      have hws := M.obj.lt
      by_cases hlt : k < cs.length
      · have hcap : ¬ (c0 = 1) := by omega
        have q := M.own.cell hv1 (1 + k) (by rw [hx1]; simp; omega)
        rw [hx1, getD_iv (by simp; omega), show ((h0 :: cs).getD (1 + k) 0) = cs.getD k 0 from by rw [Nat.add_comm]; rfl] at q
        have hcm : cs.getD k 0 ∈ h0 :: cs := List.mem_cons_of_mem _ (by rw [List.getD_eq_getElem?_getD, List.getElem?_eq_getElem hlt]; exact List.getElem_mem hlt)
        have HFO := Lib.hid (follow_any M (by exact hV) (cs.getD k 0) w.heap.size (HC.out _ hcm) HRR.out (fun i => HRB.out _ i) hbx hlx)
        have HY := Lib.hid (kept_yes (s := s) (h0 := h0) hlt)
        have HNn := Lib.hid (kept_no (s := s) (h0 := h0) hlt)
        rw [folB_tm] at HFO
        generalize cs.getD k 0 = c at *
        generalize hfb : folB s c = fb at *
        have HM := Lib.hid M
        have HK := Lib.hid hK
        have HB := Lib.hid hb
        have HBX := Lib.hid hbx
        have HKV := Lib.hid hkv
        clear M hv1 hx1 hK hb hbx hcm hfb
        go_wp2_with fail
        refine HFO.out.mono ?_
        rintro e w3 ⟨rfl, hb3⟩
        cases fb
        · have HE := HNn.out rfl
          have M3 := HM.out.below hb3
          have hkl := kept_len s h0 cs k
          have HO := Lib.hid (M3.ownAt (.tmp 1) rfl)
          have hxl : (cont (s.tm (updN s.tmp 1 (kept s h0 cs k))) (fvs F2) (.tmp 1)).length = (kept s h0 cs k).length := by
            show ((updN s.tmp 1 (kept s h0 cs k) 1).map iv).length = _
            rw [updN_same]; simp
          have hbx3 := (hb3.cell (show (⟨w.heap.size, 0, none⟩ : Addr).block < _ from hlx)).trans HBX.out
          have hs3 := hb3.size
          have HM3 := Lib.hid M3
          have HB3 := Lib.hid (HB.out.trans (hb3.mono (by omega)))
          have HKE := Lib.hid HE
          rw [HKV.out] at HO
          have HTV := HKV
          generalize hkk : (kept s h0 cs k).length = L at *
          have HKK := Lib.hid hkk
          clear HFO HM HB M3 hb3 HY HNn HE hkk
          go_wp2_with (at_builtin; (refine wpList_append_own_at _ rfl _ _ 23 rfl B 3 i0 (.int .i64 0) 1 8 Tryd.underlying23 hi hz0 hz1 hz2 rfl (by decide) u6 L (cont (s.tm (updN s.tmp 1 (kept s h0 cs k))) (fvs F2) (.tmp 1)) rfl ?c0 ⟨w3.heap.size, 0, none⟩ 1 1 [.int .i64 c] rfl rfl (new_one _ _ _) ?c2 ?c3 ?c4 ?c5 ?_))
          case c0 => have := HO.out.alloc (.cells #[.int .i64 c] 3); rw [hxl] at this; exact this
          case c2 => simp [Value.oneCell']
          case c3 => unfold maxLen; omega
          case c4 => omega
          case c5 => simp; omega
          intro v' w4 hown4 hgrow4 _ hat
          obtain ⟨g', cap', rfl, _, _, _, _⟩ := own_form hown4 (by omega)
          have hA := (Below.refl w3.heap.size w3).alloc (Nat.le_refl _) (.cells #[.int .i64 c] 3)
          obtain ⟨F4, M4, V4, K4, B4⟩ := HM3.out.appTmp (j := 1) (c := c) (n := L) (by show (updN s.tmp 1 (kept s h0 cs k) 1).length = L; rw [updN_same]; exact HKK.out) hA hown4 (by rw [HTV.out]; exact hgrow4) (by
            rw [HTV.out]
            rcases hat with hat | hat
            · exact .inl hat
            · exact .inr (by have : g' = w3.heap.size + 1 := by simpa [Value.ownBlock] using hat
                             rw [this]; simp))
          have hbx4 : w4.cell? ⟨w.heap.size, 0, none⟩ = some (.pointer (some ⟨bp, 0, none⟩)) := hgrow4.cell ((hA.cell (by show w.heap.size < _; omega)).trans hbx3) (fun e => hob e.symm)
          have HREL : Hid (SRel B bp s F h0 cs w.heap.size w (k + 1) (.slice (some ⟨g', 0, none⟩) (L + 1) cap') w4) := Lib.hid ⟨F4, by
            have e : updN (s.tm (updN s.tmp 1 (kept s h0 cs k))).tmp 1 ((s.tm (updN s.tmp 1 (kept s h0 cs k))).tmp 1 ++ [c]) = updN s.tmp 1 (kept s h0 cs (k + 1)) := by
              funext j
              show updN (updN s.tmp 1 (kept s h0 cs k)) 1 (updN s.tmp 1 (kept s h0 cs k) 1 ++ [c]) j = _
              rw [HKE.out, updN_same]
              unfold updN
              split <;> rfl
            have := M4
            rw [e] at this
            exact this, V4, fun q hq => (K4 q hq).trans (HK.out q hq), HB3.out.trans B4, hbx4, by have := hgrow4.size; simp at this; omega, by
              rcases hat with hat | hat
              · rw [hat]; exact hob
              · rw [hat]; intro e; simp at e; omega⟩
          clear M4 V4 K4 B4 hown4 hgrow4 hat hA HO HM3
          go_wp2
          go_roundw
          case rel => exact ⟨k + 1, by omega, by go_num, HREL.out⟩
          case measure => simp [intOf]; omega
        · have HE := HY.out rfl
          have HREL : Hid (SRel B bp s F h0 cs w.heap.size w (k + 1) u6 w3) := Lib.hid ⟨F2, by rw [HE]; exact HM.out.below hb3, HKV.out, HK.out, HB.out.trans (hb3.mono (by omega)), (hb3.cell (show (⟨w.heap.size, 0, none⟩ : Addr).block < _ from hlx)).trans HBX.out, by have := hb3.size; omega, hob⟩
          clear HM HB hb3 HFO HE HY HNn
          go_wp2
          go_roundw
          case rel => exact ⟨k + 1, by omega, by go_num, HREL.out⟩
          case measure => simp [intOf]; omega
      · obtain rfl : k = cs.length := by omega
        have HR1 : Hid (URel B bp s F h0 cs w.heap.size w u6 0 wr) := Lib.hid ⟨F2, by
          have e : unseen s.seen (h0 :: cs) 0 = s.seen := by funext v; unfold unseen; simp
          rw [e]; exact M, hkv, hK, hb, hbx, hlx⟩
        clear M hkv hv1 hx1 hK hb hbx hlx hob
        have hKl : (h0 :: cs).length = cs.length + 1 := rfl
        go_wp2
        go_loopw [10, 34] (fun c it wx => ∃ j : Nat, j ≤ cs.length + 1 ∧ it = .int .i64 j ∧ URel B bp s F h0 cs w.heap.size w u6 j wx) (fun _ it _ => cs.length + 1 - (intOf it).toNat)
        case atStart => exact ⟨0, Nat.zero_le _, rfl, HR1.out⟩
        case round =>
          obtain ⟨j, hj, rfl, F3, M, hkv, hK, hb, hbx, hlx⟩ := hrel
          clear HR1
          have hv1 : (F3 (.tmp 0)).v = .slice (some ⟨g0, 0, none⟩) (cs.length + 1) c0 := (hK _ (by simp)).trans HV0.out
          have hx1 : (F3 (.tmp 0)).xs = (h0 :: cs).map iv := by
            rw [M.xs]
            show ((updN s.tmp 1 (kept s h0 cs cs.length)) 0).map iv = _
            rw [updN_other _ _ (by decide), HT.out]
          by_cases hlt : j < cs.length + 1
          · have q := M.own.cell hv1 j (by rw [hx1]; simp; omega)
            rw [hx1, getD_iv (by simp; omega)] at q
            have hcm : (h0 :: cs).getD j 0 ∈ h0 :: cs := by rw [List.getD_eq_getElem?_getD, List.getElem?_eq_getElem (by simpa using hlt)]; exact List.getElem_mem (by simpa using hlt)
            have hcr := HC.out _ hcm
            have HUS := Lib.hid (unseen_step (seen := s.seen) (K := h0 :: cs) (k := j) (by simpa using hlt))
            generalize (h0 :: cs).getD j 0 = c at *
            obtain ⟨gS, cS, hSv, f14, qS, zS, nS, bS, lS⟩ := M.seenAt
            have q2 := qS (c / 2) (by show c / 2 ≤ s.V; omega)
            have z2 := zS (c / 2)
            have hv2 : c / 2 < s.V + 1 := by omega
            obtain ⟨F4, M4, K4⟩ := M.setSeen hSv (c / 2) false
            have nbx : w.heap.size ≠ gS := fun e => by
              have := M.own.cell hSv 0 (by rw [M.xs]; simp [cont])
              rw [← e, hbx, M.xs] at this
              simp [cont, range_at] at this
            have hbl2 := M.obj.lt
            change wr.cell? ⟨bp, 14, none⟩ = some (.slice (some ⟨gS, 0, none⟩) (s.V + 1) cS) at f14
            have HREL : Hid (URel B bp s F h0 cs w.heap.size w u6 (j + 1) (wr.setCell ⟨gS, c / 2, none⟩ (.bool false))) := Lib.hid ⟨F4, by
              rw [HUS.out]
              exact M4, (congrFun K4 (.tmp 1)).trans hkv, fun q hq => (congrFun K4 q).trans (hK q hq), hb.setCell bS _, by
              rw [World.cell?_setCell_far _ _ _ _ (fun e => nbx e.symm)]; exact hbx, by simpa using hlx⟩
            generalize (SS.seen _) (c / 2) = old at q2
            clear M hkv hv1 hx1 hK hb M4 K4 hSv qS zS hcm
            go_wp2
            go_roundw
            case rel => exact ⟨j + 1, by omega, by go_num, HREL.out⟩
            case measure => simp [intOf]; omega
          · obtain rfl : j = cs.length + 1 := by omega
            have HFIN : Hid (ShP B bp s F h0 cs w (.returned u6) wr) := Lib.hid ⟨F3, M, by rw [hkv], hK, hb⟩
            clear M hkv hv1 hx1 hK hb
            go_wp2
            go_ret
            exact HFIN.out
end
end Go.Proofs.YtojjjndhabjhdaaDoor.satV
