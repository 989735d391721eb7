/-
  The law GlobFilled returns true.
-/
import Derived.Test.YtlmfcacmfaihgaaDoorGlobI
import Derived.Lib.AppendStr
namespace Go.Proofs.YtlmfcacmfaihgaaDoor.globJ
open Go.ChangeShapes Go.WideShapes Go.ChangeAt Go.RowKit globP globQ globA globB globC globD globE globF ownB globG globH globI

/-- a slice of texts that came in -/
def ArgS (w : World) (v : Value) (ss : List ByteArray) : Prop :=
  ∃ ao cap, v = .slice ao ss.length cap ∧ ss.length ≤ maxLen ∧ ∀ i, i < ss.length → ∃ b off, ao = some ⟨b, off, none⟩ ∧ w.cell? ⟨b, off + i, none⟩ = some (.string (ss.getD i ByteArray.empty))

theorem gm_self (p : List UInt8) : gm p (p.filter (· != star)) = true := by
  induction p with
  | nil => simp [gm]
  | cons c p ih =>
    by_cases h : c = star
    · subst h
      simp only [List.filter_cons, bne_self_eq_false, Bool.false_eq_true, if_false]
      exact (gm_star p _).2 ⟨[], _, rfl, ih⟩
    · have : (c != star) = true := by simpa using h
      rw [List.filter_cons, if_pos this, gm_lit _ _ _ _ h]
      simp [ih]
theorem gm_lit_go {p d : List UInt8} {c : UInt8} (hc : c ≠ star) (h : gm p d = true) : gm (p ++ [c]) (d ++ [c]) = true :=
  (gm_append p [c] _).2 ⟨d, [c], rfl, h, by rw [gm_lit _ _ _ _ hc]; simp [gm]⟩
theorem gm_star_go {p d : List UInt8} (x : List UInt8) (h : gm p d = true) : gm (p ++ [star]) (d ++ x) = true :=
  (gm_append p [star] _).2 ⟨d, x, rfl, h, gm_lone x⟩

theorem ownB_text {w : World} {B : Nat} {v : Value} {l : List UInt8} {s : ByteArray} (h : w.ownsRow B 5 1 v (l.length + s.size) ((l.map bv) ++ Lib.strCells s)) : OwnB w B v (l ++ s.data.toList) := by
  unfold OwnB
  have e : Lib.strCells s = s.data.toList.map bv := rfl
  rw [List.length_append, List.map_append, Array.length_toList, ← e]; exact h

theorem fill_big (P : ByteArray) (v : Value) (ss : List ByteArray) (w : World) (hv : ArgS w v ss) (h : 100 < P.size ∨ 100 < ss.length) :
    Calls Tryd.prog 3 #[.string P, v] w fun e w' => e = .returned (.bool true) ∧ Below w.heap.size w w' := by
  obtain ⟨ao, cap, rfl, hm, _⟩ := hv
  generalize ss.length = len at *
  by_cases h1 : 100 < P.size
  · clear h
    go_enter Tryd.func3, Tryd.ntmps3
    go_wp2_with fail
    refine (globD.alive _).mono ?_
    rintro e w' ⟨rfl, n1', rfl⟩
    go_wp2
    go_ret
    exact ⟨rfl, below_drewN' (Below.refl _ _) _⟩
  · have h2 : 100 < len := by omega
    clear h
    go_enter Tryd.func3, Tryd.ntmps3
    go_wp2_with fail
    refine (globD.alive _).mono ?_
    rintro e w' ⟨rfl, n1', rfl⟩
    go_wp2
    go_ret
    exact ⟨rfl, below_drewN' (Below.refl _ _) _⟩

set_option maxRecDepth 100000 in
theorem fill_small (P : ByteArray) (v : Value) (ss : List ByteArray) (w : World) (hv : ArgS w v ss) (hM : MaxL w) (hP : P.size ≤ 100) (hS : ss.length ≤ 100) :
    Calls Tryd.prog 3 #[.string P, v] w fun e w' => e = .returned (.bool true) ∧ Below w.heap.size w w' := by
  obtain ⟨i0, hi, hz0, hz1, hz2⟩ := info_parts infoB
  obtain ⟨ao, cap, rfl, hm, hcell⟩ := hv
  have HC := Lib.hid hcell
  have HM := Lib.hid hM
  generalize hlen : ss.length = len at *
  clear hcell hM hlen hm
  have q1 : ¬ 100 < P.size := by omega
  have q2 : ¬ 100 < len := by omega
  have d1 : decide (100 < P.size) = false := by simp; omega
  have d2 : decide (100 < len) = false := by simp; omega
  go_enter Tryd.func3, Tryd.ntmps3
  go_wp2_with fail
  refine (globD.alive _).mono ?_
  rintro e w' ⟨rfl, n1', rfl⟩
  have HB0 := Lib.hid (below_drewN' (Below.refl w.heap.size w) n1')
  have hz0' := HB0.out.size
  generalize w.drewN n1' = w0 at *
  go_wp2
  go_loopw [5, 6, 21] (fun v j i wr => ∃ (k n : Nat) (d : List UInt8), k ≤ P.size ∧ n ≤ len ∧ d.length ≤ 50 * k ∧ i = .int .i64 k ∧ j = .int .i64 n ∧ OwnB wr w.heap.size v d ∧ Below w.heap.size w wr ∧ Hid (gm (P.data.toList.take k) d = true)) (fun _ _ i _ => P.size - (intOf i).toNat)
  case atStart => exact ⟨0, 0, [], Nat.zero_le _, Nat.zero_le _, Nat.zero_le _, rfl, rfl, World.ownsRow_lit w0 #[] 0 hz0' (Nat.zero_le _) rfl, HB0.out.alloc hz0' _, Lib.hid (by simp [gm])⟩
  case round =>
    obtain ⟨k, n, d, hk, hn, hd, rfl, rfl, hown, hb, hp⟩ := hrel
    have hlt' := ownB_lt hown
    have hsz := hb.size
    have HO := Lib.hid hown
    have HB := Lib.hid hb
    have HL := Lib.hid hlt'
    clear hb hlt' d1 d2
    by_cases hlt : k < P.size
    · by_cases hc : P[k] = star
      · have hv : ((P[k].toNat : Int) != 42) = false := by rw [hc]; rfl
        by_cases hnl : n < len
        · obtain ⟨b0, off0, rfl, hc0⟩ := HC.out n hnl
          have hcw : wr.cell? ⟨b0, off0 + n, none⟩ = some (.string (ss.getD n ByteArray.empty)) := by
            rw [HB.out.cell (World.block_lt_of_cell? w _ hc0)]; exact hc0
          generalize ss.getD n ByteArray.empty = x at *
          have hN : Hid (gm (P.data.toList.take (k + 1)) (d ++ x.data.toList) = true) := Lib.hid (by rw [take_go P k hlt, hc]; exact gm_star_go _ hp.out)
          clear hc0 hc hp
          by_cases hx : 50 < x.size
          · clear hown
            go_wp2
            go_ret
            exact ⟨rfl, HB.out⟩
          · go_wp2_with (at_builtin; refine Lib.wpList_append_own_string _ rfl _ _ 24 9 rfl w.heap.size 5 i0 Tryd.underlying24 Tryd.underlying9 hi hz0 hz1 hz2 _ _ _ rfl hown x rfl ?c3 ?c4 hsz ?_)
            case c3 => unfold maxLen; omega
            case c4 => omega
            intro v' w2 hown2 hgr2 _
            have HO2 := Lib.hid (ownB_text hown2)
            have HB2 := Lib.hid (HB.out.grown hgr2 hsz HL.out)
            clear hown hown2 hgr2
            go_wp2
            go_roundw
            case rel => exact ⟨k + 1, n + 1, d ++ x.data.toList, by omega, by omega, by simp; omega, by go_num, by go_num, HO2.out, HB2.out, hN⟩
            case measure => simp [intOf]; omega
        · have hN : Hid (gm (P.data.toList.take (k + 1)) d = true) := Lib.hid (by
            have := gm_star_go (x := []) hp.out
            rw [List.append_nil] at this
            rw [take_go P k hlt, hc]; exact this)
          clear hc hp hown
          go_wp2
          go_roundw
          case rel => exact ⟨k + 1, n, d, by omega, by omega, by omega, by go_num, rfl, HO.out, HB.out, hN⟩
          case measure => simp [intOf]; omega
      · have hv : ((P[k].toNat : Int) != 42) = true := by
          rw [bne_iff_ne]; intro h; apply hc; exact UInt8.toNat_inj.1 (by show P[k].toNat = 42; omega)
        have hN : Hid (gm (P.data.toList.take (k + 1)) (d ++ [P[k]]) = true) := Lib.hid (by rw [take_go P k hlt]; exact gm_lit_go hc hp.out)
        clear hc hp
        go_wp2_with (at_builtin; refine wpList_append_own _ rfl _ _ 24 rfl w.heap.size 5 i0 (.int .u8 0) 1 1 Tryd.underlying24 hi hz0 hz1 hz2 rfl (by decide) _ _ _ rfl (World.ownsRow.alloc hown _) ⟨wr.heap.size, 0, none⟩ 1 1 [bv P[k]] rfl rfl ?c1 ?c2 ?c3 ?c4 ?c5 ?_)
        case c1 => exact cell_one_new _ _ _
        case c2 => intro u hu; simp at hu; subst hu; rfl
        case c3 => unfold maxLen; omega
        case c4 => omega
        case c5 => simp; omega
        intro v' w2 hown2 hgr2 _
        have HO2 := Lib.hid (ownB_snoc hown2)
        have HB2 := Lib.hid ((HB.out.alloc hsz _).grown hgr2 (by simp; omega) HL.out)
        clear hown hown2 hgr2
        go_wp2
        go_roundw
        case rel => exact ⟨k + 1, n, d ++ [P[k]], by omega, by omega, by simp; omega, by go_num, rfl, HO2.out, HB2.out, hN⟩
        case measure => simp [intOf]; omega
    · have hf : P.data.toList.take k = P.data.toList := List.take_of_length_le (by simp; omega)
      have X1 : Hid (gm P.data.toList (⟨d.toArray⟩ : ByteArray).data.toList = true) := Lib.hid (by have := hp.out; rw [hf] at this; simpa using this)
      have X2 : Hid (gm P.data.toList (⟨(P.data.toList.filter (· != star)).toArray⟩ : ByteArray).data.toList = true) := Lib.hid (by simpa using gm_self P.data.toList)
      have hstr := ownB_str hown
      have hS1 : (⟨d.toArray⟩ : ByteArray).size ≤ 9223372036854775807 := by show d.toArray.size ≤ _; simp; omega
      have hS2 : (⟨(P.data.toList.filter (· != star)).toArray⟩ : ByteArray).size ≤ 9223372036854775807 := by
        show (P.data.toList.filter (· != star)).toArray.size ≤ _
        have := List.length_filter_le (· != star) P.data.toList
        simp only [Array.length_toList] at this
        have e : P.data.size = P.size := rfl
        simp only [List.size_toArray]; omega
      have HL2 := Lib.hid (fun w hw => least_any P w hw (by omega))
      generalize (⟨d.toArray⟩ : ByteArray) = D at *
      generalize (⟨(P.data.toList.filter (· != star)).toArray⟩ : ByteArray) = F at *
      clear hown hp hf
      go_wp2_with fail
      refine (match_is _ _ _ X1.out _ (by unfold maxLen; omega) (by unfold maxLen; omega)).mono ?_
      rintro e w' ⟨rfl, n2', rfl⟩
      have HB1 := Lib.hid (below_drewN' HB.out n2')
      have hz1' := HB1.out.size
      generalize wr.drewN n2' = w1 at *
      clear hstr
      go_wp2_with fail
      refine (HL2.out _ (maxL_below (maxL_lt HM.out) HM.out HB1.out)).mono ?_
      rintro e w2 ⟨rfl, hb2⟩
      have HB2 := Lib.hid (HB1.out.trans (hb2.mono hz1'))
      clear hb2
      go_wp2_with fail
      refine (match_is _ _ _ X2.out _ (by unfold maxLen; omega) (by unfold maxLen; omega)).mono ?_
      rintro e w' ⟨rfl, n3', rfl⟩
      go_wp2
      go_ret
      exact ⟨rfl, below_drewN' HB2.out _⟩

theorem law_filled (P : ByteArray) (v : Value) (ss : List ByteArray) (w : World) (hv : ArgS w v ss) (hM : MaxL w) :
    Calls Tryd.prog 3 #[.string P, v] w fun e w' => e = .returned (.bool true) ∧ Below w.heap.size w w' := by
  by_cases h : 100 < P.size ∨ 100 < ss.length
  · exact fill_big P v ss w hv h
  · exact fill_small P v ss w hv hM (by omega) (by omega)

end Go.Proofs.YtlmfcacmfaihgaaDoor.globJ
