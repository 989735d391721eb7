/-
  The law RunesTexts returns true, where the errors and the decoder's tables are laid.
-/
import Derived.Test.YtlbmoefafkmmoabDoorTextA
import Derived.Test.YtlbmoefafkmmoabDoorPointsB
import Derived.Test.YtlbmoefafkmmoabDoorRunesD
import Derived.OpenShut
namespace Go.Proofs.YtlbmoefafkmmoabDoor.textB
open Go.ChangeShapes Go.WideShapes Go.ChangeAt Go.RowKit utfP utfQ utfR runesA runesD runesE sameInts ints errIs errs textA
open pointsA (PtsPost OwnI)

theorem pts_enc (zs : List Int) (h : ∀ r ∈ zs, Pt r) : pts (encAll zs) = some (zs.map Int.toNat) := by
  induction zs with
  | nil => rfl
  | cons r zs ih =>
    have hp := h r (by simp)
    have e : encAll (r :: zs) = (Utf8.encode r).data.toList ++ encAll zs := by simp [encAll]
    have hd := dec_enc r hp (encAll zs)
    have hz : 1 ≤ (Utf8.encode r).size := by
      by_cases h2 : r < 65536
      · exact (enc_size3 _ hp h2).1
      · rw [enc_size4 _ (by omega) hp.2.1]; decide
    have hne : (Utf8.encode r).data.toList ++ encAll zs ≠ [] := by
      intro hh
      have := congrArg List.length hh
      rw [List.length_append, Array.length_toList, ByteArray.size_data, List.length_nil] at this
      omega
    rw [e, pts_yes hne (by rw [hd]; dsimp only; omega), hd]
    dsimp only
    rw [List.drop_append_of_le_length (by rw [Array.length_toList, ByteArray.size_data]; exact Nat.le_refl _), List.drop_eq_nil_of_le (by rw [Array.length_toList, ByteArray.size_data]; exact Nat.le_refl _), List.nil_append, ih (fun x hx => h x (by simp [hx]))]
    simp
theorem map_back (zs : List Int) (h : ∀ r ∈ zs, Pt r) : (zs.map Int.toNat).map Int.ofNat = zs := by
  rw [List.map_map]
  conv => rhs; rw [← List.map_id zs]
  apply List.map_congr_left
  intro r hr
  have := (h r hr).1
  simp; omega
theorem ints_own {w : World} {B : Nat} {v : Value} {d : List Nat} (h : OwnI w B v d) : IntsAt w v (d.map Int.ofNat) := by
  rcases h.2 with ⟨rfl, hn⟩ | ⟨g, cap, cur, rfl, hb, hgg, hc, hm, _⟩
  · obtain rfl : d = [] := List.length_eq_zero_iff.1 hn
    exact ⟨Nat.zero_le _, none, 0, rfl, Or.inl rfl⟩
  · refine ⟨by simp; omega, some ⟨g, 0, none⟩, cap, by simp, Or.inr ⟨g, 0, rfl, fun i hi => ?_⟩⟩
    simp only [List.length_map] at hi
    rw [Nat.zero_add, World.ownsRow.cellAt (cap := cap) h i (by omega)]
    simp [pointsA.iv, List.getD, hi]

theorem mk_append (l : List UInt8) (r : Int) : (⟨l.toArray⟩ : ByteArray) ++ enc r = ⟨(l ++ (Utf8.encode r).data.toList).toArray⟩ := by
  unfold enc
  have : ((⟨l.toArray⟩ : ByteArray) ++ Utf8.encode r).data = (l ++ (Utf8.encode r).data.toList).toArray := by simp [ByteArray.data_append]
  cases h : (⟨l.toArray⟩ : ByteArray) ++ Utf8.encode r with
  | mk d => rw [h] at this; simp only at this; rw [this]

theorem law_big (ao : Option Addr) (len cap : Nat) (w : World) (h : 500 < len) :
    Calls Tryd.prog 3 #[.slice ao len cap] w fun e w' => e = .returned (.bool true) ∧ Below w.heap.size w w' := by
  go_enter Tryd.func3, Tryd.ntmps3
  go_wp2_with fail
  refine (runesA.alive _).mono ?_
  rintro e w' ⟨rfl, rfl⟩
  go_wp2
  go_ret
  exact ⟨rfl, Below.refl _ _⟩

set_option maxHeartbeats 400000 in
theorem law_small (v : Value) (zs : List Int) (w : World) (ad : Nat → Addr) (h : ArgI w v zs) (hm : zs.length ≤ 500) (hE : Errs w ad) (hT : Tabs w) :
    Calls Tryd.prog 3 #[v] w fun e w' => e = .returned (.bool true) ∧ Below w.heap.size w w' := by
  have HA := Lib.hid h
  have HE := Lib.hid hE
  have HT := Lib.hid hT
  obtain ⟨ao, cap, hv, hcell⟩ : ∃ ao cap, v = .slice ao zs.length cap ∧ (∀ j, j < zs.length → ∃ b off, ao = some ⟨b, off, none⟩ ∧ w.cell? ⟨b, off + j, none⟩ = some (iv (zs.getD j 0))) := by
    obtain ⟨ao, cap, rfl, _, _, hc⟩ := h
    exact ⟨ao, cap, rfl, hc⟩
  have HC := Lib.hid hcell
  clear hcell h hE hT
  subst hv
  generalize hlen : zs.length = len at *
  have HLEN := Lib.hid hlen
  clear hlen
  have h500 : ¬ 500 < len := by omega
  go_enter Tryd.func3, Tryd.ntmps3
  go_wp2_with fail
  refine (runesA.alive _).mono ?_
  rintro e w' ⟨rfl, rfl⟩
  go_wp2_with fail
  refine (ints_any _ zs _ HA.out (by rw [HLEN.out]; omega)).mono ?_
  rintro e w1 ⟨⟨u, rfl, hM⟩, hb1⟩
  have HM1 := Lib.hid hM
  have HB1 := Lib.hid hb1
  have hz1 := hb1.size
  have HE1 := Lib.hid (HE.out.below hb1)
  clear hM hb1
  go_wp2_with fail
  refine (text_any _ zs _ ad (HM1.out.arg (by rw [HLEN.out]; omega)) (by rw [HLEN.out]; omega) HE1.out).mono ?_
  rintro e w2 ⟨hb2, hq⟩
  have HB2 := Lib.hid (HB1.out.trans (hb2.mono hz1))
  have HM2 := Lib.hid (HM1.out.below hb2)
  have hz2 := HB2.out.size
  have HE2 := Lib.hid (HE.out.below HB2.out)
  have HT2 := Lib.hid (tabs_below HT.out HB2.out)
  have HA2 := Lib.hid (HA.out.below HB2.out)
  clear hb2
  rcases hq with ⟨hall, rfl⟩ | ⟨hnot, rfl⟩
  · have HALL := Lib.hid hall
    clear hall
    go_wp2
    go_loopw [6, 25] (fun x i wr => ∃ k : Nat, k ≤ len ∧ i = .int .i64 k ∧ x = .string ⟨(encAll (zs.take k)).toArray⟩ ∧ Below w2.heap.size w2 wr ∧ w2.heap.size ≤ wr.heap.size ∧ Hid (∀ r ∈ zs.take k, Pt r)) (fun _ i _ => len - (intOf i).toNat)
    case atStart => exact ⟨0, Nat.zero_le _, rfl, rfl, Below.refl _ _, Nat.le_refl _, Lib.hid (fun r hr => by simp at hr)⟩
    case round =>
      obtain ⟨k, hk, rfl, rfl, hb, hsz, hal⟩ := hrel
      by_cases hlt : k < len
      · obtain ⟨b0, off0, rfl, hc0⟩ := HC.out k hlt
        have hck : wr.cell? ⟨b0, off0 + k, none⟩ = some (iv (zs.getD k 0)) := by
          have e2 : w2.cell? ⟨b0, off0 + k, none⟩ = some (iv (zs.getD k 0)) := by
            rw [HB2.out.cell (World.block_lt_of_cell? w _ hc0)]; exact hc0
          rw [hb.cell (World.block_lt_of_cell? w2 _ e2)]; exact e2
        have htk : zs.take (k + 1) = zs.take k ++ [zs.getD k 0] := by
          rw [List.take_succ_eq_append_getElem (by rw [HLEN.out]; exact hlt)]
          simp [List.getD, HLEN.out, hlt]
        have hl4 := encAll_len (zs.take k)
        have htl : (zs.take k).length ≤ 500 := by rw [List.length_take]; omega
        have hmem : zs.getD k 0 ∈ zs := by
          have : k < zs.length := by rw [HLEN.out]; exact hlt
          rw [List.getD_eq_getElem?_getD, List.getElem?_eq_getElem this]; exact List.getElem_mem _
        have hsx : (⟨(encAll (zs.take k)).toArray⟩ : ByteArray).size ≤ 2000 := by
          show (encAll (zs.take k)).toArray.size ≤ 2000
          simp; omega
        generalize zs.getD k 0 = r at *
        have HTK := Lib.hid htk
        have HM := Lib.hid hmem
        have HB := Lib.hid hb
        clear hc0 htk hb hmem hl4 htl
        unfold iv at hck
        have hp : Pt r := HALL.out r HM.out
        have hez : (enc r).size ≤ 4 := encode_size_le r
        have hN : Hid (∀ x ∈ zs.take (k + 1), Pt x) := Lib.hid (by
          rw [HTK.out]; intro x hx
          rcases List.mem_append.1 hx with hx | hx
          · exact hal.out x hx
          · simp at hx; rw [hx]; exact hp)
        have HS : Hid ((⟨(encAll (zs.take k)).toArray⟩ : ByteArray) ++ enc r = ⟨(encAll (zs.take (k + 1))).toArray⟩) := Lib.hid (by rw [mk_append, HTK.out, encAll_snoc])
        generalize (⟨(encAll (zs.take k)).toArray⟩ : ByteArray) = X at *
        go_wp2_with fail
        refine (point_yes _ _ hp).mono ?_
        rintro e w' ⟨rfl, rfl⟩
        go_wp2_with fail
        refine (encR_yes _ _ hp).mono ?_
        rintro e w3 ⟨rfl, hb3⟩
        have HB3 := Lib.hid (HB.out.trans (hb3.mono hsz))
        have hz3 := HB3.out.size
        clear hb3
        go_wp2
        go_roundw
        case rel => exact ⟨k + 1, by omega, by go_num, by rw [← HS.out], HB3.out, hz3, hN⟩
        case measure => simp [intOf]; omega
      · have hf : zs.take k = zs := List.take_of_length_le (by rw [HLEN.out]; omega)
        rw [hf]
        have HB := Lib.hid hb
        have HTr := Lib.hid (tabs_below HT2.out hb)
        have HAr := Lib.hid (HA2.out.below hb)
        have HMr := Lib.hid (HM2.out.below hb)
        have hln := encAll_len zs
        have hsx : (⟨(encAll zs).toArray⟩ : ByteArray).size ≤ 100000 := by
          show (encAll zs).toArray.size ≤ 100000
          have := HLEN.out; simp; omega
        have HP : Hid (pts (⟨(encAll zs).toArray⟩ : ByteArray).data.toList = some (zs.map Int.toNat)) := Lib.hid (by
          show pts ((encAll zs).toArray).toList = _
          simpa using pts_enc zs HALL.out)
        have hnn := nilnil
        generalize (⟨(encAll zs).toArray⟩ : ByteArray) = X at *
        clear hf hb hln
        go_wp2_with fail
        refine (pointsB.points_any X _ hsx HTr.out).mono ?_
        rintro e w3 ⟨hb3, hq3⟩
        have HB3 := Lib.hid (HB.out.trans (hb3.mono hsz))
        have HA3 := Lib.hid (HAr.out.below hb3)
        have HM3 := Lib.hid (HMr.out.below hb3)
        clear hb3
        rcases hq3 with ⟨hn, _⟩ | ⟨d, v3, hn, ho, _, rfl⟩
        · rw [HP.out] at hn; cases hn
        · obtain rfl : d = zs.map Int.toNat := Option.some.inj (hn.symm.trans HP.out)
          have HI := Lib.hid (ints_own ho)
          rw [map_back zs HALL.out] at HI
          clear hn ho
          go_wp2_with fail
          refine (same_any _ _ _ zs zs HI.out HA3.out.at).mono ?_
          rintro e w4 ⟨rfl, n4, rfl⟩
          rw [beq_self_eq_true]
          have HA4 : Hid (ArgI (w3.drewN n4) _ zs) := Lib.hid (HA3.out.below (below_drewN (Below.refl _ _) n4))
          have HM4 := Lib.hid (HM3.out.below (below_drewN (Below.refl _ _) n4))
          go_wp2_with fail
          refine (kept_any _ _ zs _ _ HM4.out HA4.out (by rw [HLEN.out]; omega)).mono ?_
          rintro e w5 ⟨rfl, n5, rfl⟩
          go_wp2
          go_ret
          exact ⟨rfl, below_drewN (HB2.out.trans (HB3.out.mono hz2)) _⟩
  · have HNOT := Lib.hid hnot
    clear hnot
    go_wp2
    go_loopw [6, 25] (fun x i wr => ∃ k : Nat, k ≤ len ∧ i = .int .i64 k ∧ x = .string ⟨(encAll (zs.take k)).toArray⟩ ∧ Below w2.heap.size w2 wr ∧ w2.heap.size ≤ wr.heap.size ∧ Hid (∀ r ∈ zs.take k, Pt r)) (fun _ i _ => len - (intOf i).toNat)
    case atStart => exact ⟨0, Nat.zero_le _, rfl, rfl, Below.refl _ _, Nat.le_refl _, Lib.hid (fun r hr => by simp at hr)⟩
    case round =>
      obtain ⟨k, hk, rfl, rfl, hb, hsz, hal⟩ := hrel
      by_cases hlt : k < len
      · obtain ⟨b0, off0, rfl, hc0⟩ := HC.out k hlt
        have hck : wr.cell? ⟨b0, off0 + k, none⟩ = some (iv (zs.getD k 0)) := by
          have e2 : w2.cell? ⟨b0, off0 + k, none⟩ = some (iv (zs.getD k 0)) := by
            rw [HB2.out.cell (World.block_lt_of_cell? w _ hc0)]; exact hc0
          rw [hb.cell (World.block_lt_of_cell? w2 _ e2)]; exact e2
        have htk : zs.take (k + 1) = zs.take k ++ [zs.getD k 0] := by
          rw [List.take_succ_eq_append_getElem (by rw [HLEN.out]; exact hlt)]
          simp [List.getD, HLEN.out, hlt]
        have hl4 := encAll_len (zs.take k)
        have htl : (zs.take k).length ≤ 500 := by rw [List.length_take]; omega
        have hmem : zs.getD k 0 ∈ zs := by
          have : k < zs.length := by rw [HLEN.out]; exact hlt
          rw [List.getD_eq_getElem?_getD, List.getElem?_eq_getElem this]; exact List.getElem_mem _
        have hsx : (⟨(encAll (zs.take k)).toArray⟩ : ByteArray).size ≤ 2000 := by
          show (encAll (zs.take k)).toArray.size ≤ 2000
          simp; omega
        generalize zs.getD k 0 = r at *
        have HTK := Lib.hid htk
        have HM := Lib.hid hmem
        have HB := Lib.hid hb
        clear hc0 htk hb hmem hl4 htl
        unfold iv at hck
        by_cases hp : Pt r
        · have hez : (enc r).size ≤ 4 := encode_size_le r
          have hN : Hid (∀ x ∈ zs.take (k + 1), Pt x) := Lib.hid (by
            rw [HTK.out]; intro x hx
            rcases List.mem_append.1 hx with hx | hx
            · exact hal.out x hx
            · simp at hx; rw [hx]; exact hp)
          have HS : Hid ((⟨(encAll (zs.take k)).toArray⟩ : ByteArray) ++ enc r = ⟨(encAll (zs.take (k + 1))).toArray⟩) := Lib.hid (by rw [mk_append, HTK.out, encAll_snoc])
          generalize (⟨(encAll (zs.take k)).toArray⟩ : ByteArray) = X at *
          go_wp2_with fail
          refine (point_yes _ _ hp).mono ?_
          rintro e w' ⟨rfl, rfl⟩
          go_wp2_with fail
          refine (encR_yes _ _ hp).mono ?_
          rintro e w3 ⟨rfl, hb3⟩
          have HB3 := Lib.hid (HB.out.trans (hb3.mono hsz))
          have hz3 := HB3.out.size
          clear hb3
          go_wp2
          go_roundw
          case rel => exact ⟨k + 1, by omega, by go_num, by rw [← HS.out], HB3.out, hz3, hN⟩
          case measure => simp [intOf]; omega
        · have hnum := Lib.hid (num_err wr ad (HE2.out.below HB.out) 9 (by decide))
          go_wp2_with fail
          refine (point_no _ _ hp).mono ?_
          rintro e w' ⟨rfl, rfl⟩
          go_wp2_with fail
          refine hnum.out.mono ?_
          rintro e w3 ⟨rfl, hb3⟩
          have HB3 := Lib.hid (HB.out.trans (hb3.mono hsz))
          clear hb3
          go_wp2
          go_ret
          exact ⟨rfl, HB2.out.trans (HB3.out.mono hz2)⟩
      · have hf : zs.take k = zs := List.take_of_length_le (by rw [HLEN.out]; omega)
        have hal' := hal.out
        rw [hf] at hal'
        exact absurd hal' HNOT.out

theorem law_any (a0 : Option Addr) (len0 cap0 : Nat) (z0 : List Int) (w : World) (ad : Nat → Addr)
    (w0 : (a0 = none ∧ len0 = 0 ∧ cap0 = 0 ∧ z0 = []) ∨ ∃ x, a0 = some x ∧ len0 ≤ cap0 ∧ cap0 ≤ maxLen ∧ z0.length = cap0 ∧ (∀ i, i < z0.length → w.cell? (x.add i) = some (.int .i64 (z0.getD i 0))) ∧ ∀ n ∈ z0, (Lit.int .i64 n).wf = true)
    (hE : Errs w ad) (hT : Tabs w) :
    Calls Tryd.prog 3 #[.slice a0 len0 cap0] w fun e w' => e = .returned (.bool true) ∧ Below w.heap.size w w' := by
  by_cases h : 500 < len0
  · exact law_big a0 len0 cap0 w h
  · refine law_small _ (z0.take len0) w ad ?_ (by rw [List.length_take]; omega) hE hT
    rcases w0 with ⟨rfl, rfl, rfl, rfl⟩ | ⟨x, rfl, hl, hm, hz, hc, _⟩
    · exact ⟨none, 0, rfl, Nat.zero_le _, fun _ => ⟨rfl, rfl⟩, fun i hi => absurd hi (Nat.not_lt_zero _)⟩
    · have hlen : (z0.take len0).length = len0 := by rw [List.length_take]; omega
      refine ⟨some x, cap0, by rw [hlen], by rw [hlen]; unfold maxLen; omega, (fun h => by cases h), fun i hi => ?_⟩
      rw [hlen] at hi
      obtain ⟨b, off, rfl, hc'⟩ := ints_at hc (show 0 < z0.length by omega)
      refine ⟨b, off, rfl, ?_⟩
      rw [hc' i (by omega)]
      unfold iv
      simp [List.getD, hi]

end Go.Proofs.YtlbmoefafkmmoabDoor.textB
