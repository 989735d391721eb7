/-
  The law IntsEach returns true.
-/
import Derived.Test.YtjkipgdjblbemaaDoorIntsG
import Derived.Test.YtjkipgdjblbemaaDoorOwnB
import Derived.ChangeSlices
import Derived.OpenShut
namespace Go.Proofs.YtjkipgdjblbemaaDoor.intsH
open Go.ChangeShapes Go.WideShapes Go.ChangeAt Go.RowKit intsP intsA intsB intsC intsD intsE intsF intsG errIs errs ownB

/-- a slice of numbers that came in -/
def ArgZ (w : World) (v : Value) (zs : List Int) : Prop :=
  ∃ ao cap, v = .slice ao zs.length cap ∧ zs.length ≤ maxLen ∧ ∀ i, i < zs.length → ∃ b off, ao = some ⟨b, off, none⟩ ∧ w.cell? ⟨b, off + i, none⟩ = some (.int .i64 (zs.getD i 0))

set_option maxRecDepth 100000 in
theorem argZ_of {H : Type} {enc : TypeId × Value → H} {W : World} {base : Nat} {v : Value} {d : DataW H} {ps : List MemPlace} (ok : Value.okWide Tryd.prog W .any base 38 v)
    (h : DataW.Trod enc Tryd.prog W 0 (fun _ => true) true 38 v d ps) : ∃ zs, ArgZ W v zs := by
  obtain ⟨a0, len, cap, rfl⟩ := okWide_slice Tryd.underlying38 ok
  obtain ⟨fuel, hf⟩ := h
  rcases open_ints Tryd.underlying38 Tryd.underlying3 (by kernel_rfl) hf with ⟨hcs, _⟩ | ⟨a, l, c, zs, hcs, _, hl, hm, hz, _, hcell, hwz⟩
  · simp [Value.cells] at hcs
    obtain ⟨rfl, rfl, rfl⟩ := hcs
    exact ⟨[], none, 0, rfl, Nat.zero_le _, fun i hi => absurd hi (Nat.not_lt_zero _)⟩
  · simp [Value.cells] at hcs
    obtain ⟨rfl, rfl, rfl⟩ := hcs
    simp only [if_true] at hz
    have hl' : (zs.take len).length = len := by rw [List.length_take]; omega
    refine ⟨zs.take len, some a, cap, by rw [hl'], by rw [hl']; omega, fun i hi => ?_⟩
    rw [hl'] at hi
    obtain ⟨b, off, spot⟩ := a
    have hspot : spot = none := by simpa [Addr.add] using World.cell?_spot (hcell 0 (by omega))
    subst hspot
    refine ⟨b, off, rfl, ?_⟩
    have := hcell i (by omega)
    rw [show (⟨b, off, none⟩ : Addr).add i = ⟨b, off + i, none⟩ from by unfold Addr.add; split <;> simp_all] at this
    rw [this]
    simp [List.getD, hi]

/-! ### plain -/
def dgB (d : Nat) : UInt8 := UInt8.ofNat (48 + d)
def fold (ds : List Nat) : Nat := ds.foldl (fun n d => 10 * n + d) 0
theorem fold_snoc (ds : List Nat) (d : Nat) : fold (ds ++ [d]) = 10 * fold ds + d := by simp [fold]
theorem dgB_isD {d : Nat} (h : d < 10) : isD (dgB d) = true := by unfold dgB isD; simp; omega
theorem map_isD {ds : List Nat} (h : ∀ d ∈ ds, d < 10) : ∀ c ∈ ds.map dgB, isD c = true := by
  intro c hc
  obtain ⟨d, hd, rfl⟩ := List.mem_map.1 hc
  exact dgB_isD (h d hd)
theorem acc_fold (ds : List Nat) (h : ∀ d ∈ ds, d < 10) : acc 0 (ds.map dgB) = fold ds := by
  have key : ∀ (ds : List Nat) (a : Nat), (∀ d ∈ ds, d < 10) → acc a (ds.map dgB) = ds.foldl (fun n d => 10 * n + d) a := by
    intro ds
    induction ds with
    | nil => intro a _; rfl
    | cons d ds ih =>
      intro a hd
      have h1 := hd d (by simp)
      have h2 : (dgB d).toNat = 48 + d := dig_val d h1
      show acc (a * 10 + ((dgB d).toNat - 48)) (ds.map dgB) = _
      rw [h2, ih _ (fun x hx => hd x (by simp [hx])), show a * 10 + (48 + d - 48) = 10 * a + d by omega]
      rfl
  exact key ds 0 h
theorem fold_lt (ds : List Nat) (h : ∀ d ∈ ds, d < 10) (hl : ds.length ≤ 18) : (fold ds : Int) < 1000000000000000000 := by
  have h1 := acc_lt (ds.map dgB) (map_isD h)
  rw [acc_fold ds h, List.length_map] at h1
  have h3 : 10 ^ ds.length ≤ 10 ^ 18 := Nat.pow_le_pow_right (by decide) hl
  have h4 : (10 : Nat) ^ 18 = 1000000000000000000 := by decide
  omega

theorem u_rem (z : Int) : ∃ (U : Int) (dd : Nat), dd < 10 ∧ (∀ w, (convert 3 40 (.int .i64 z)).run Tryd.prog w = .ok (.int .u64 U) w) ∧ U.tmod 10 = (dd : Int) := by
  have h0 : 0 ≤ IntKind.u64.wrap z := by
    unfold IntKind.wrap
    simp [IntKind.signed, IntKind.bits]
    omega
  refine ⟨IntKind.u64.wrap z, ((IntKind.u64.wrap z).tmod 10).toNat, ?_, fun w => by kernel_rfl, ?_⟩
  · rw [Int.tmod_eq_emod_of_nonneg h0]; omega
  · rw [Int.tmod_eq_emod_of_nonneg h0]; omega
theorem fold_lt17 (ds : List Nat) (h : ∀ d ∈ ds, d < 10) (hl : ds.length ≤ 17) : (fold ds : Int) < 100000000000000000 := by
  have h1 := acc_lt (ds.map dgB) (map_isD h)
  rw [acc_fold ds h, List.length_map] at h1
  have h3 : 10 ^ ds.length ≤ 10 ^ 17 := Nat.pow_le_pow_right (by decide) hl
  have h4 : (10 : Nat) ^ 17 = 100000000000000000 := by decide
  omega
theorem bv_dg (d : Nat) (h : d < 10) : Value.int .u8 (48 + (d : Int)) = bv (dgB d) := by
  unfold bv; rw [show (dgB d).toNat = 48 + d from dig_val d h]; rfl

theorem each_big (v : Value) (zs : List Int) (less : Bool) (w : World) (ad : Nat → Addr) (hv : ArgZ w v zs) (hE : Errs w ad) (hR : Rng w) (h : zs.length < 1 ∨ 18 < zs.length) :
    Calls Tryd.prog 6 #[v, .bool less] w fun e w' => e = .returned (.bool true) ∧ Below w.heap.size w w' := by
  have HA := Lib.hid (alive w ad hE hR)
  obtain ⟨ao, cap, rfl, hm, _⟩ := hv
  generalize zs.length = len at *
  clear hE hR
  by_cases h1 : len < 1
  · have g1 : (len : Int) < 1 := by omega
    clear h
    go_enter Tryd.func6, Tryd.ntmps6
    go_wp2_with fail
    refine HA.out.mono ?_
    rintro e w0 ⟨rfl, hb0⟩
    have HB0 := Lib.hid hb0
    clear hb0
    go_wp2
    go_ret
    exact ⟨rfl, HB0.out⟩
  · have g1 : ¬ (len : Int) < 1 := by omega
    have g2 : (18 : Int) < len := by omega
    clear h
    go_enter Tryd.func6, Tryd.ntmps6
    go_wp2_with fail
    refine HA.out.mono ?_
    rintro e w0 ⟨rfl, hb0⟩
    have HB0 := Lib.hid hb0
    clear hb0
    go_wp2
    go_ret
    exact ⟨rfl, HB0.out⟩

set_option maxRecDepth 100000 in
set_option maxHeartbeats 1000000 in
theorem each_small (v : Value) (zs : List Int) (less : Bool) (w : World) (ad : Nat → Addr) (hv : ArgZ w v zs) (hE : Errs w ad) (hR : Rng w) (hl1 : 1 ≤ zs.length) (hl2 : zs.length ≤ 18) :
    Calls Tryd.prog 6 #[v, .bool less] w fun e w' => e = .returned (.bool true) ∧ Below w.heap.size w w' := by
  have HA := Lib.hid (alive w ad hE hR)
  obtain ⟨i0, hi, hz0, hz1, hz2⟩ := info_parts infoB
  obtain ⟨ao, cap, rfl, hm, hcell⟩ := hv
  have HC := Lib.hid hcell
  have HE := Lib.hid hE
  have HR := Lib.hid hR
  generalize hlen : zs.length = len at *
  have g1 : ¬ (len : Int) < 1 := by omega
  have g2 : ¬ (18 : Int) < len := by omega
  have d1 : decide ((len : Int) < 1) = false := decide_eq_false g1
  have d2 : decide ((18 : Int) < len) = false := decide_eq_false g2
  clear hcell hE hR hlen hm
  go_enter Tryd.func6, Tryd.ntmps6
  go_wp2_with fail
  refine HA.out.mono ?_
  rintro e w0 ⟨rfl, hb0⟩
  have HB0 := Lib.hid hb0
  have hz0' := hb0.size
  clear hb0
  go_wp2
  go_loopw [5, 6, 25] (fun v n i wr => ∃ (k : Nat) (ds : List Nat), k ≤ len ∧ Hid (ds.length = k) ∧ i = .int .i64 k ∧ n = .int .i64 (fold ds : Int) ∧ OwnB wr w.heap.size v (ds.map dgB) ∧ Below w.heap.size w wr ∧ Hid (∀ d ∈ ds, d < 10)) (fun _ _ i _ => len - (intOf i).toNat)
  case atStart => exact ⟨0, [], Nat.zero_le _, Lib.hid rfl, rfl, rfl, World.ownsRow_lit w0 #[] 0 hz0' (Nat.zero_le _) rfl, HB0.out.alloc hz0' _, Lib.hid (fun d hd => by cases hd)⟩
  case round =>
    obtain ⟨k, ds, hk, hdl, rfl, rfl, hown, hb, hds⟩ := hrel
    have hlt' := ownB_lt hown
    have hsz := hb.size
    have HO := Lib.hid hown
    have HB := Lib.hid hb
    have HL := Lib.hid hlt'
    have hfl := fold_lt ds hds.out (by rw [hdl.out]; omega)
    have hml : Hid ((ds.map dgB).length = k) := Lib.hid (by rw [List.length_map]; exact hdl.out)
    clear hb hlt' d1 d2
    by_cases hlt : k < len
    · obtain ⟨b0, off0, rfl, hc0⟩ := HC.out k hlt
      have hcw : wr.cell? ⟨b0, off0 + k, none⟩ = some (.int .i64 (zs.getD k 0)) := by
        rw [HB.out.cell (World.block_lt_of_cell? w _ hc0)]; exact hc0
      generalize zs.getD k 0 = z at *
      clear hc0
      obtain ⟨U, dd, hdd, hcv, hrm⟩ := u_rem z
      have hfl17 := fold_lt17 ds hds.out (by rw [hdl.out]; omega)
      have hN1 : Hid ((ds ++ [dd]).length = k + 1) := Lib.hid (by rw [List.length_append, hdl.out]; rfl)
      have hN2 : Hid (∀ d ∈ ds ++ [dd], d < 10) := Lib.hid (by
        intro d hd
        rcases List.mem_append.1 hd with hd | hd
        · exact hds.out d hd
        · simp at hd; omega)
      have hN3 : Hid ((fold (ds ++ [dd]) : Int) = 10 * (fold ds : Int) + (dd : Int)) := Lib.hid (by rw [fold_snoc]; omega)
      have hddI : (dd : Int) ≤ 9 := by omega
      generalize fold ds = F at *
      go_wp2_with (at_builtin; refine wpList_append_own _ rfl _ _ 39 rfl w.heap.size 5 i0 (.int .u8 0) 1 1 Tryd.underlying39 hi hz0 hz1 hz2 rfl (by decide) _ _ _ rfl (World.ownsRow.alloc hown _) ⟨wr.heap.size, 0, none⟩ 1 1 [.int .u8 (48 + (dd : Int))] rfl rfl ?c1 ?c2 ?c3 ?c4 ?c5 ?_)
      case c1 => exact cell_one_new _ _ _
      case c2 => intro u hu; simp at hu; subst hu; rfl
      case c3 => rw [hml.out]; unfold maxLen; omega
      case c4 => rw [hml.out]; omega
      case c5 => simp; omega
      intro v' w2 hown2 hgr2 _
      rw [bv_dg dd hdd] at hown2
      have HO2 : Hid (OwnB w2 w.heap.size v' ((ds ++ [dd]).map dgB)) := Lib.hid (by
        unfold OwnB; rw [List.map_append, List.map_append, List.length_append, List.length_map, List.map_map]; exact hown2)
      have HB2 := Lib.hid ((HB.out.alloc hsz _).grown hgr2 (by simp; omega) HL.out)
      clear hown hown2 hgr2 hcv hrm hcw
      go_wp2
      go_roundw
      case rel => exact ⟨k + 1, ds ++ [dd], by omega, hN1, by go_num, by rw [hN3.out], HO2.out, HB2.out, hN2⟩
      case measure => simp [intOf]; omega
    · obtain rfl : k = len := by omega
      have hmap := map_isD hds.out
      have hne : ds.map dgB ≠ [] := by intro e; have := hml.out; rw [e] at this; simp at this; omega
      have hacc := acc_fold ds hds.out
      have hstr := ownB_str hown
      obtain ⟨g, cp, rfl, hc00⟩ : ∃ g cp, u5 = .slice (some ⟨g, 0, none⟩) k cp ∧ wr.cell? ⟨g, 0, none⟩ = some (bv ((ds.map dgB).getD 0 0)) := by
        have hown0 := hown
        rcases hown.2 with ⟨_, hn⟩ | ⟨g, cp, cur, rfl, _⟩
        · rw [hml.out] at hn; omega
        · refine ⟨g, cp, by rw [hml.out], ?_⟩
          have hlt0 : 0 < (ds.map dgB).length := by rw [hml.out]; omega
          rw [World.ownsRow.cellAt (cap := cp) hown0 0 (by omega), List.getElem?_map, List.getElem?_eq_getElem hlt0, List.getD_eq_getElem?_getD, List.getElem?_eq_getElem hlt0]
          rfl
      have hbt : bt (ds.map dgB) 0 = ((ds.map dgB).getD 0 0).toNat := rfl
      have hX : (⟨(ds.map dgB).toArray⟩ : ByteArray).size ≤ 18 := by
        show (ds.map dgB).toArray.size ≤ 18
        rw [List.size_toArray, hml.out]; omega
      have hXd : (⟨(ds.map dgB).toArray⟩ : ByteArray).data.toList = sgn false (ds.map dgB) := by simp [sgn]
      have hXd2 : ((⟨#[45]⟩ : ByteArray) ++ ⟨(ds.map dgB).toArray⟩).data.toList = sgn true (ds.map dgB) := by simp [sgn, ByteArray.data_append]
      have hXs2 : ((⟨#[45]⟩ : ByteArray) ++ ⟨(ds.map dgB).toArray⟩).size ≤ 19 := by
        rw [ByteArray.size_append]; show 1 + _ ≤ 19; omega
      have P1 := fun w hE hR => parse_any ⟨(ds.map dgB).toArray⟩ w ad (by omega) hE hR
      have P2 := fun w hE hR => parse_any ((⟨#[45]⟩ : ByteArray) ++ ⟨(ds.map dgB).toArray⟩) w ad (by omega) hE hR
      rw [hXd] at P1
      rw [hXd2] at P2
      have hfn : ∀ less, parseN (sgn less (ds.map dgB)) = if 1 < k ∧ ((ds.map dgB).getD 0 0).toNat = 48 then (0, 1) else (if less then -(fold ds : Int) else (fold ds : Int), 0) := by
        intro less
        by_cases hc : 1 < k ∧ ((ds.map dgB).getD 0 0).toNat = 48
        · rw [if_pos hc]
          exact parse_nought less _ hmap (by rw [hml.out]; omega) hc.2
        · rw [if_neg hc]
          refine parse_text less _ _ hmap hne (by intro h; rw [hml.out]; rw [hbt] at h; omega) ?_
          rw [text_val less _ hmap hne, hacc]
          unfold big
          cases less
          · rw [if_neg (by simp), if_pos (by omega), if_neg (by simp)]
          · rw [if_pos rfl, if_pos (by omega), if_pos rfl]
      rw [hfn false] at P1
      rw [hfn true] at P2
      generalize (⟨(ds.map dgB).toArray⟩ : ByteArray) = X at *
      generalize (ds.map dgB).getD 0 0 = c0 at *
      generalize fold ds = F at *
      unfold bv at hc00
      have HC0 := Lib.hid hc00
      have hqN := neqlN
      have hqE := neqlE 87 (.pointer (some (ad 0)))
      have hnE := nneqE 87 (.pointer (some (ad 0)))
      have hnN := nneqN
      clear hfn hXd hXd2 hbt hacc hne hmap hown hds hdl hml hc00
      by_cases hc : 1 < k ∧ c0.toNat = 48
      · rw [if_pos hc] at P1 P2
        obtain ⟨hc1, hc2⟩ := hc
        have t1 : ((c0.toNat : Int) == 48) = true := by rw [hc2]; rfl
        have t2 : (1 : Int) < (k : Int) := by omega
        unfold prV errV at P1 P2
        simp only [show ¬ ((1 : Nat) = 0) from by decide, if_false, Nat.sub_self] at P1 P2
        have P1 := Lib.hid P1
        have P2 := Lib.hid P2
        clear hc2
        cases less
        · go_wp2_with fail
          refine (P1.out _ (HE.out.below HB.out) (rng_below HR.out HB.out)).mono ?_
          rintro e w1 ⟨rfl, hb1⟩
          have HB1 := Lib.hid (HB.out.trans (hb1.mono hsz))
          have hc1' : w1.cell? ⟨g, 0, none⟩ = some (.int .u8 (c0.toNat : Int)) := by rw [hb1.cell (World.block_lt_of_cell? wr _ HC0.out)]; exact HC0.out
          clear hb1
          go_wp2
          go_ret
          exact ⟨rfl, HB1.out⟩
        · go_wp2_with fail
          refine (P2.out _ (HE.out.below HB.out) (rng_below HR.out HB.out)).mono ?_
          rintro e w1 ⟨rfl, hb1⟩
          have HB1 := Lib.hid (HB.out.trans (hb1.mono hsz))
          have hc1' : w1.cell? ⟨g, 0, none⟩ = some (.int .u8 (c0.toNat : Int)) := by rw [hb1.cell (World.block_lt_of_cell? wr _ HC0.out)]; exact HC0.out
          clear hb1
          go_wp2
          go_ret
          exact ⟨rfl, HB1.out⟩
      · rw [if_neg hc] at P1 P2
        unfold prV errV at P1 P2
        simp only [if_true, Bool.false_eq_true, if_false] at P1 P2
        have P1 := Lib.hid P1
        have P2 := Lib.hid P2
        by_cases hk1 : 1 < k
        · have t2 : (1 : Int) < (k : Int) := by omega
          have t1 : ((c0.toNat : Int) == 48) = false := by rw [beq_eq_false_iff_ne]; omega
          clear hc
          cases less
          · go_wp2_with fail
            refine (P1.out _ (HE.out.below HB.out) (rng_below HR.out HB.out)).mono ?_
            rintro e w1 ⟨rfl, hb1⟩
            have HB1 := Lib.hid (HB.out.trans (hb1.mono hsz))
            have hc1' : w1.cell? ⟨g, 0, none⟩ = some (.int .u8 (c0.toNat : Int)) := by rw [hb1.cell (World.block_lt_of_cell? wr _ HC0.out)]; exact HC0.out
            clear hb1
            go_wp2
            go_ret
            exact ⟨ret_bool (by simp), HB1.out⟩
          · go_wp2_with fail
            refine (P2.out _ (HE.out.below HB.out) (rng_below HR.out HB.out)).mono ?_
            rintro e w1 ⟨rfl, hb1⟩
            have HB1 := Lib.hid (HB.out.trans (hb1.mono hsz))
            have hc1' : w1.cell? ⟨g, 0, none⟩ = some (.int .u8 (c0.toNat : Int)) := by rw [hb1.cell (World.block_lt_of_cell? wr _ HC0.out)]; exact HC0.out
            clear hb1
            go_wp2
            go_ret
            exact ⟨ret_bool (by simp), HB1.out⟩
        · obtain rfl : k = 1 := by omega
          clear hc hk1 hl1 hl2 g1 g2 hlt hk HC HC0 HA HB0
          cases less
          · go_wp2_with fail
            refine (P1.out _ (HE.out.below HB.out) (rng_below HR.out HB.out)).mono ?_
            rintro e w1 ⟨rfl, hb1⟩
            have HB1 := Lib.hid (HB.out.trans (hb1.mono hsz))
            clear hb1
            go_wp2
            go_ret
            exact ⟨ret_bool (by simp), HB1.out⟩
          · go_wp2_with fail
            refine (P2.out _ (HE.out.below HB.out) (rng_below HR.out HB.out)).mono ?_
            rintro e w1 ⟨rfl, hb1⟩
            have HB1 := Lib.hid (HB.out.trans (hb1.mono hsz))
            clear hb1
            go_wp2
            go_ret
            exact ⟨ret_bool (by simp), HB1.out⟩

theorem lawEach (v : Value) (zs : List Int) (less : Bool) (w : World) (ad : Nat → Addr) (hv : ArgZ w v zs) (hE : Errs w ad) (hR : Rng w) :
    Calls Tryd.prog 6 #[v, .bool less] w fun e w' => e = .returned (.bool true) ∧ Below w.heap.size w w' := by
  by_cases h : zs.length < 1 ∨ 18 < zs.length
  · exact each_big v zs less w ad hv hE hR h
  · exact each_small v zs less w ad hv hE hR (by omega) (by omega)

end Go.Proofs.YtjkipgdjblbemaaDoor.intsH
