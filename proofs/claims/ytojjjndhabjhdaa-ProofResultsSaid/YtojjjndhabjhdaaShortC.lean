/-
  Contracts of the reference's Chosen and Shorten; the law ProofShort.
-/
import Derived.Test.YtojjjndhabjhdaaShortB
import Derived.Test.YtojjjndhabjhdaaClsArg
namespace Go.Proofs.Ytojjjndhabjhdaa.shortC
open Go.ChangeShapes Go.WideShapes Go.ChangeAt Go.RowKit proofP proofQ proofR owns proofA proofC proofG proofI proofJ proofK proofM proofN proofO proofS proofT proofU proofV proofW proofX shortP shortA shortB cls
set_option linter.unusedSimpArgs false
set_option linter.unusedVariables false

theorem nilv_of {H : Type} {enc : TypeId × Value → H} {w : World} {fuel : Nat} {t e : TypeId} (ht : Try.prog.underlying t = some (.slice e)) {v : Value} {x : DataW H × List MemPlace} (hf : DataW.trod enc Try.prog w 0 (fun _ => true) true fuel t [v] = some x) : Nilv v := by
  rcases DataW.trod_slice ht hf with ⟨hcs, _⟩ | ⟨a, len', cap', elems, rest, n, rfl, hcs, _⟩
  · intro n c e
    rw [e] at hcs
    have := (List.cons.inj hcs).1
    cases this; exact ⟨rfl, rfl⟩
  · intro n c e
    rw [e] at hcs
    have := (List.cons.inj hcs).1
    cases this
theorem arg_nilin {H : Type} {enc : TypeId × Value → H} {W : World} {base : Nat} {v : Value} {d : DataW H} {ps : List MemPlace} (ok : Value.okWide Try.prog W .any base 22 v)
    (h : DataW.Trod enc Try.prog W 0 (fun _ => true) true 22 v d ps) : NilIn W v := by
  obtain ⟨a0, len, cap, rfl⟩ := okWide_slice Try.underlying22 ok
  obtain ⟨fuel, hf⟩ := h
  intro b off n c hv i hi u hu
  cases hv
  rcases DataW.trod_slice Try.underlying22 hf with ⟨hcs, _⟩ | ⟨a, len, cap, elems, rest, n', rfl, hcs, _, _, hl, hm, hel, hg, _⟩
  · have := (List.cons.inj hcs).1; cases this
  · have := (List.cons.inj hcs).1; cases this
    rw [show Try.prog.cellsOf 30 = 1 from by kernel_rfl] at hg
    have h1 := hg i hi
    rw [List.getElem?_eq_getElem (by omega)] at h1
    obtain ⟨l, h2, h3⟩ := Option.bind_eq_some_iff.1 h1
    obtain ⟨u', rfl, hu'⟩ := clsArg.cells_one h2
    rw [clsArg.add1, Nat.mul_one, hu] at hu'
    cases hu'
    exact nilv_of Try.underlying30 h3

set_option maxRecDepth 100000 in
set_option maxHeartbeats 4000000 in
theorem Chosen_any (w : World) (B0 : Nat) (lv : Value) (log : List (List Int)) (m : Nat → Bool) (g cap : Nat) (hl : ClsAt w B0 lv log) (hB0 : B0 ≤ w.heap.size) (hg : g < w.heap.size) (hin : ∀ j, j < log.length → w.cell? ⟨g, j, none⟩ = some (.bool (m j))) (h2 : log.length ≤ 40000) :
    Calls Try.prog 34 #[lv, .slice (some ⟨g, 0, none⟩) log.length cap] w fun e w' => ∃ ao n c, e = .returned (.slice ao n c) ∧ ClsR w' B0 w.heap.size (.slice ao n c) (chosen log m log.length) ∧ Below w.heap.size w w' := by
  obtain ⟨al, capl, bl, offl, vsl, rfl, hml, hal, hcl, hnl⟩ := hl
  have HAL := Lib.hid hal
  have HCL := Lib.hid hcl
  have HNL := Lib.hid hnl
  have HIN := Lib.hid hin
  have HX0 := Lib.hid (ClsR.empty w B0)
  have HBA : Hid (Below w.heap.size w (w.alloc (.cells #[] 30))) := Lib.hid ((Below.refl _ _).alloc (Nat.le_refl _) _)
  clear hal hcl hnl hml hin
  go_enter Try.func34, Try.ntmps34
  go_wp2
  go_loopw [5, 11] (fun rv it wr => ∃ (k n cp : Nat) (ao : Option Addr), k ≤ log.length ∧ it = .int .i64 k ∧ rv = .slice ao n cp ∧ ClsR wr B0 w.heap.size (.slice ao n cp) (chosen log m k) ∧ Below w.heap.size w wr) (fun _ it _ => log.length - (intOf it).toNat)
  case atStart => exact ⟨0, 0, 0, _, Nat.zero_le _, rfl, rfl, HX0.out, HBA.out⟩
  case round =>
    clear HX0 HBA
    obtain ⟨k, n, cp, ao, hk, rfl, rfl, hr, hb⟩ := hrel
    have HR := Lib.hid hr
    have HB := Lib.hid hb
    have hws := hb.size
    by_cases hlt : k < log.length
    · obtain ⟨rfl, hbB⟩ := HAL.out (by intro h0; rw [h0] at hlt; simp at hlt)
      have hq : wr.cell? ⟨bl, offl + k, none⟩ = some (vsl k) := by rw [hb.cell (show (⟨bl, offl + k, none⟩ : Addr).block < w.heap.size from by show bl < _; omega)]; exact HCL.out k hlt
      have hx := HIN.out k hlt
      rw [← hb.cell (show (⟨g, k, none⟩ : Addr).block < w.heap.size from hg)] at hx
      obtain ⟨ai, capi, bi, offi, hvi, hrest⟩ := HNL.out k hlt
      have HIK := Lib.hid (HNL.out k hlt)
      rw [hvi] at hq HIK
      have hcl5 := chosen_len (log := log) (m := m) k
      cases hmk : m k
      · rw [hmk] at hx
        have HR2 : Hid (ClsR wr B0 w.heap.size (.slice ao n cp) (chosen log m (k + 1))) := Lib.hid (by rw [chosen_no hmk]; exact HR.out)
        generalize log.getD k [] = d at *
        clear hr hb hmk hrest hvi
        go_wp2
        go_roundw
        case rel => exact ⟨k + 1, _, _, _, by omega, by go_num, rfl, HR2.out, HB.out⟩
        case measure => simp [intOf]; omega
      · rw [hmk] at hx
        have HCH : Hid (chosen log m (k + 1) = chosen log m k ++ [log.getD k []]) := Lib.hid (chosen_yes hmk)
        generalize log.getD k [] = d at *
        have HR1 := Lib.hid (HR.out.alloc (Nat.le_trans hB0 hws) (.cells #[.slice ai d.length capi] 30))
        have HI1 := Lib.hid (cls_one (HIK.out.keep (hb.mono hB0)) (Nat.le_trans hB0 hws) 30)
        have HBA1 := Lib.hid (HB.out.alloc hws (.cells #[.slice ai d.length capi] 30))
        have HSA : Hid (w.heap.size ≤ (wr.alloc (.cells #[.slice ai d.length capi] 30)).heap.size) := Lib.hid (by simp; omega)
        have HL0 : Hid ((chosen log m k).length ≤ 100000) := Lib.hid (by omega)
        have HL1 : Hid ([d].length ≤ 100000) := Lib.hid (by simp)
        clear hr hb hmk hrest hvi hcl5
        go_wp2_with (at_builtin; refine wpList_append_clsx _ rfl (.tmp 20) (.tmp 22) rfl B0 w.heap.size (.slice ao n cp) (.slice (some ⟨wr.heap.size, 0, none⟩) 1 1) (chosen log m k) [d] rfl HR1.out rfl HI1.out (Nilv.some _ _ _) HL0.out HL1.out HSA.out hB0 ?_)
        intro a4 N4 c4 w4 hr4 hb4 hN4
        have HR4 : Hid (ClsR w4 B0 w.heap.size (.slice a4 N4 c4) (chosen log m (k + 1))) := Lib.hid (by rw [HCH.out]; exact hr4)
        have HB4 := Lib.hid (HBA1.out.trans hb4)
        clear hr4 hb4 HR1 HI1 hN4
        go_wp2
        go_roundw
        case rel => exact ⟨k + 1, _, _, _, by omega, by go_num, rfl, HR4.out, HB4.out⟩
        case measure => simp [intOf]; omega
    · obtain rfl : k = log.length := by omega
      clear hr hb
      go_wp2
      go_ret
      exact ⟨_, _, _, rfl, HR.out, HB.out⟩

/-- a row of truth values -/
def Bools (w : World) (B g n : Nat) (o : Nat → Bool) : Prop := w.ownsRow B 4 1 (.slice (some ⟨g, 0, none⟩) n n) n (obs n o)
theorem Bools.cell {w : World} {B g n : Nat} {o : Nat → Bool} (h : Bools w B g n o) (j : Nat) (hj : j < n) : w.cell? ⟨g, j, none⟩ = some (.bool (o j)) := by
  have := World.ownsRow.cellAt h j (by rw [Nat.mul_one]; exact hj)
  rw [obs_at hj] at this; exact this
theorem Bools.frozen {w : World} {B g n : Nat} {o : Nat → Bool} (h : Bools w B g n o) (j : Nat) : w.frozen? ⟨g, j, none⟩ = false := World.ownsRow.frozenAt h j
theorem Bools.set {w : World} {B g n : Nat} {o : Nat → Bool} (h : Bools w B g n o) {j : Nat} (hj : j < n) (b : Bool) : Bools (w.setCell ⟨g, j, none⟩ (.bool b)) B g n (updN o j b) := by
  have := (World.ownsRow.stored h j (.bool b)).1
  rw [obs_set hj] at this; exact this
theorem Bools.lt {w : World} {B g n : Nat} {o : Nat → Bool} (h : Bools w B g n o) : B ≤ g ∧ g < w.heap.size := World.ownsRow.lt h g rfl
theorem Bools.below {w w' : World} {B g n : Nat} {o : Nat → Bool} (h : Bools w B g n o) (hb : Below w.heap.size w w') : Bools w' B g n o := row_below h hb
theorem Bools.alike {w : World} {B g n : Nat} {o o' : Nat → Bool} (h : Bools w B g n o) (he : ∀ j, j < n → o j = o' j) : Bools w B g n o' := by
  unfold Bools at *
  have : obs n o = obs n o' := by unfold obs; apply List.map_congr_left; intro j hj; rw [he j (List.mem_range.1 hj)]
  rw [← this]; exact h

/-- one step of shortening, as the reference takes it -/
theorem mask_ref {cl log : List (List Int)} {t place : Nat} (hp : place = log.length - 2 - t) :
    (0 ≤ bad cl (chosen log (updN (maskM cl log t) place false) log.length) → updN (updN (maskM cl log t) place false) place true = maskM cl log (t + 1)) ∧ (¬ 0 ≤ bad cl (chosen log (updN (maskM cl log t) place false) log.length) → updN (maskM cl log t) place false = maskM cl log (t + 1)) := by
  constructor
  · intro h
    funext j
    show _ = stepM cl log (maskM cl log t) (log.length - 2 - t) j
    unfold stepM
    rw [← hp, decide_eq_true h]
    by_cases e : j = place
    · subst e; rw [updN_same, updN_same]
    · rw [updN_other _ _ e, updN_other _ _ e, updN_other _ _ e]
  · intro h
    funext j
    show _ = stepM cl log (maskM cl log t) (log.length - 2 - t) j
    unfold stepM
    rw [← hp, decide_eq_false h]

set_option maxRecDepth 100000 in
set_option maxHeartbeats 4000000 in
theorem RShorten_any (w : World) (cv lv : Value) (cl log : List (List Int)) (hc : ClsAt w w.heap.size cv cl) (hl : ClsAt w w.heap.size lv log) (hn : Nilv cv) (h1 : cl.length ≤ 40000) (h2 : log.length ≤ 40000) (hs1 : ∀ c ∈ cl, c.length ≤ 50000) (hs2 : ∀ c ∈ log, c.length ≤ 50000) :
    Calls Try.prog 19 #[cv, lv] w (ShortP cl log w) := by
  have HC := Lib.hid hc
  have HL := Lib.hid hl
  have HN := Lib.hid hn
  have HS1 := Lib.hid hs1
  have HS2 := Lib.hid hs2
  have HBD := Lib.hid (Bad_any w cv lv cl log hc hl hn h1 h2 hs1 hs2)
  have HBC := Lib.hid (bad_cases cl log)
  have HRF : Hid (shortened cl log = if bad cl log = -1 then chosen log (maskM cl log (log.length - 1)) log.length else []) := Lib.hid rfl
  obtain ⟨ac, capc, bc, offc, vsc, rfl, _, _, _, _⟩ := hc
  obtain ⟨al, capl, bl, offl, vsl, rfl, hml, hal, hcl, hnl⟩ := hl
  clear hs1 hs2 hal hcl hnl hml hn
  obtain ⟨iB, hiB, hzB0, hzB1, hzB2⟩ := info_parts infoB'
  go_enter Try.func19, Try.ntmps19
  go_wp2_with fail
  refine HBD.out.mono ?_
  rintro e w1 ⟨rfl, hb1⟩
  have HB1 := Lib.hid hb1
  have hs1 := hb1.size
  clear hb1 HBD
  generalize hbad : bad cl log = bd at *
  clear hbad
  rcases HBC.out with ⟨rfl, _⟩ | ⟨i, hi1, rfl, _, _⟩
  rotate_left
  · have HE : Hid (shortened cl log = []) := Lib.hid (by rw [HRF.out, if_neg (by omega)])
    clear HBC HRF
    have hge : (0 : Int) ≤ (i : Int) := by omega
    go_wp2
    go_ret
    exact ⟨none, 0, 0, rfl, by rw [HE.out]; exact cls_nil _ _, HB1.out⟩
  have HE : Hid (shortened cl log = chosen log (maskM cl log (log.length - 1)) log.length) := Lib.hid (by rw [HRF.out, if_pos rfl])
  clear HBC HRF
  go_wp2_with (at_make; refine wpList_make_full _ rfl (.tmp 13) (.tmp 13) 27 rfl w.heap.size 4 iB (.bool false) 1 Try.underlying27 hiB hzB0 hzB1 .i64 .i64 _ _ log.length rfl rfl rfl rfl ?e3 ?e4 ?e5 ?_)
  case e3 => rw [hzB2]; omega
  case e4 => unfold maxLen; omega
  case e5 => exact hs1
  intro w3 hown hgrow
  rw [toList_madeCells_one, obs_false] at hown
  have HR3 : Hid (Bools w3 w.heap.size w1.heap.size log.length (fun j => decide (j < 0))) := Lib.hid (Bools.alike hown (fun j _ => by simp))
  have HB3 := Lib.hid (HB1.out.trans (below_grown hgrow hs1 (by intro k hk; cases hk)))
  clear hown hgrow
  generalize w1.heap.size = g at *
  go_wp2
  go_loopw [17] (fun it wr => ∃ k : Nat, k ≤ log.length ∧ it = .int .i64 k ∧ Bools wr w.heap.size g log.length (fun j => decide (j < k)) ∧ Below w.heap.size w wr) (fun it _ => log.length - (intOf it).toNat)
  case atStart => exact ⟨0, Nat.zero_le _, rfl, HR3.out, HB3.out⟩
  case round =>
    clear HR3 HB3
    obtain ⟨k, hk, rfl, hr, hb⟩ := hrel
    have HB := Lib.hid hb
    by_cases hlt : k < log.length
    · have ck := hr.cell k hlt
      have zk := hr.frozen k
      have hgl := hr.lt
      have HR1 : Hid (Bools (wr.setCell ⟨g, k, none⟩ (.bool true)) w.heap.size g log.length (fun j => decide (j < k + 1))) := Lib.hid ((hr.set hlt true).alike (fun j _ => by
        by_cases e : j = k
        · subst e; rw [updN_same]; simp
        · rw [updN_other _ _ e]
          have : (j < k) ↔ (j < k + 1) := by omega
          simp only [this]))
      have HB2 := Lib.hid (hb.setCell (p := ⟨g, k, none⟩) hgl.1 (.bool true))
      clear hr hb
      go_wp2
      go_roundw
      case rel => exact ⟨k + 1, by omega, by go_num, HR1.out, HB2.out⟩
      case measure => simp [intOf]; omega
    · obtain rfl : k = log.length := by omega
      have HR1 : Hid (Bools wr w.heap.size g log.length (maskM cl log 0)) := Lib.hid (hr.alike (fun j hj => by simp [hj, maskM]))
      clear hr hb
      go_wp2
      go_loopw [7] (fun it wr => ∃ t : Nat, t ≤ log.length - 1 ∧ it = .int .i64 ((log.length : Int) - 2 - t) ∧ Bools wr w.heap.size g log.length (maskM cl log t) ∧ Below w.heap.size w wr) (fun it _ => (intOf it + 2).toNat)
      case atStart => exact ⟨0, Nat.zero_le _, by go_num, HR1.out, HB.out⟩
      case round =>
        clear HR1 HB hk hlt
        obtain ⟨t, ht, rfl, hr, hb⟩ := hrel
        have HB := Lib.hid hb
        have hws := hb.size
        have hgl := hr.lt
        by_cases hlt : t + 2 ≤ log.length
        · obtain ⟨place, hpl⟩ : ∃ place : Nat, place = log.length - 2 - t := ⟨_, rfl⟩
          have hpi : (log.length : Int) - 2 - (t : Int) = (place : Int) := by omega
          have HPI := Lib.hid hpi
          have hpn : place < log.length := by omega
          rw [hpi]
          have ck := hr.cell place hpn
          have zk := hr.frozen place
          have hb2 := hb.setCell (p := ⟨g, place, none⟩) hgl.1 (.bool false)
          have hr2 := hr.set hpn false
          have HMR := Lib.hid (mask_ref (cl := cl) hpl)
          have HCH := Lib.hid (Chosen_any (wr.setCell ⟨g, place, none⟩ (.bool false)) w.heap.size _ log (updN (maskM cl log t) place false) g log.length (HL.out.keep hb2) hb2.size hr2.lt.2 (fun j hj => hr2.cell j hj) h2)
          have HR2 := Lib.hid hr2
          have HB2 := Lib.hid hb2
          have hs2 := hb2.size
          generalize maskM cl log t place = ob at *
          generalize updN (maskM cl log t) place false = m2 at *
          generalize hw2 : wr.setCell ⟨g, place, none⟩ (.bool false) = w2 at *
          have HW2 := Lib.hid hw2
          clear hr hb hr2 hb2 hpi hpl
          go_wp2_with fail
          refine HCH.out.mono ?_
          rintro e w4 ⟨a4, n4, c4, rfl, hr4, hb4⟩
          have HR4 := Lib.hid (HR2.out.below hb4)
          have HB4 := Lib.hid (HB2.out.trans (hb4.mono hs2))
          have hs4 := HB4.out.size
          have HBD := Lib.hid (Bad_any w4 _ _ cl (chosen log m2 log.length) ((HC.out.keep HB4.out).mono hs4) (hr4.at hs4) HN.out h1 (by have := chosen_len (log := log) (m := m2) log.length; omega) HS1.out (fun c hc => by
            obtain ⟨i, hi, _, rfl⟩ := mem_chosen.1 hc
            exact HS2.out _ (getD_mem (d := []) hi)))
          have HBC := Lib.hid (bad_cases cl (chosen log m2 log.length))
          generalize bad cl (chosen log m2 log.length) = bd at *
          clear hr4 hb4 HCH HR2 HB2 ck zk HW2 hw2
          go_wp2_with fail
          refine HBD.out.mono ?_
          rintro e w5 ⟨rfl, hb5⟩
          have HR5 := Lib.hid (HR4.out.below hb5)
          have HB5 := Lib.hid (HB4.out.trans (hb5.mono hs4))
          clear hb5 HBD HR4 HB4
          rcases HBC.out with ⟨rfl, _⟩ | ⟨i, hi1, rfl, _, _⟩
          · have HR6 : Hid (Bools w5 w.heap.size g log.length (maskM cl log (t + 1))) := Lib.hid (by rw [← HMR.out.2 (by omega)]; exact HR5.out)
            clear HMR HBC HR5
            go_wp2
            go_roundw
            case rel => exact ⟨t + 1, by omega, congrArg (Value.int .i64) (by have := HPI.out; omega), HR6.out, HB5.out⟩
            case measure => have e2 := HPI.out; simp only [intOf]; omega
          · have hge : (0 : Int) ≤ (i : Int) := by omega
            have ck := HR5.out.cell place hpn
            have zk := HR5.out.frozen place
            have HR6 : Hid (Bools (w5.setCell ⟨g, place, none⟩ (.bool true)) w.heap.size g log.length (maskM cl log (t + 1))) := Lib.hid (by rw [← HMR.out.1 hge]; exact HR5.out.set hpn true)
            have HB6 := Lib.hid (HB5.out.setCell (p := ⟨g, place, none⟩) hgl.1 (.bool true))
            generalize m2 place = ob2 at *
            clear HMR HBC HR5
            go_wp2
            go_roundw
            case rel => exact ⟨t + 1, by omega, congrArg (Value.int .i64) (by have := HPI.out; omega), HR6.out, HB6.out⟩
            case measure => have e2 := HPI.out; simp only [intOf]; omega
        · obtain rfl : t = log.length - 1 := by omega
          have hneg : ¬ ((0 : Int) ≤ (log.length : Int) - 2 - ((log.length - 1 : Nat) : Int)) := by omega
          have HCH := Lib.hid (Chosen_any wr w.heap.size _ log (maskM cl log (log.length - 1)) g log.length (HL.out.keep hb) hws hr.lt.2 (fun j hj => hr.cell j hj) h2)
          rw [← HE.out] at HCH
          clear hr hb
          generalize ((log.length : Int) - 2 - ((log.length - 1 : Nat) : Int)) = zz at *
          go_wp2_with fail
          refine HCH.out.mono ?_
          rintro e w4 ⟨a4, n4, c4, rfl, hr4, hb4⟩
          have HB4 := Lib.hid (HB.out.trans (hb4.mono hws))
          have HR4 := Lib.hid (hr4.at HB4.out.size)
          clear hr4 hb4 HCH
          go_wp2
          go_ret
          exact ⟨_, _, _, rfl, HR4.out, HB4.out⟩

set_option maxRecDepth 100000 in
set_option maxHeartbeats 4000000 in
theorem law_short (cv lv : Value) (cl log : List (List Int)) (w : World) (hc : ClsAt w w.heap.size cv cl) (hl : ClsAt w w.heap.size lv log) (hn1 : Nilv cv) (hn2 : NilIn w lv) :
    Calls Try.prog 6 #[cv, lv] w fun e w' => e = .returned (.bool true) ∧ Below w.heap.size w w' := by
  have HC := Lib.hid hc
  have HL := Lib.hid hl
  have HN1 := Lib.hid hn1
  have HN2 := Lib.hid hn2
  have HAL := Lib.hid (alive_any w)
  have HLT : Hid (∀ w1 : World, Below w.heap.size w w1 → NilIn w1 lv) := Lib.hid (fun w1 hb b off n cap hv i hi u hu => by
    obtain ⟨ao, cap', b', off', vs, hv', _, ha, hcell, _⟩ := HL.out
    rw [hv] at hv'
    cases hv'
    have h1 := ha (by intro h0; rw [h0] at hi; simp at hi)
    cases h1.1
    rw [hb.cell (show (⟨b, off + i, none⟩ : Addr).block < w.heap.size from h1.2)] at hu
    exact HN2.out b off _ _ hv i hi u hu)
  obtain ⟨ac, capc, bc, offc, vsc, rfl, _, _, _, _⟩ := hc
  obtain ⟨al, capl, bl, offl, vsl, rfl, _, _, _, _⟩ := hl
  clear hn1 hn2
  go_enter Try.func6, Try.ntmps6
  go_wp2_with fail
  refine HAL.out.mono ?_
  rintro e w1 ⟨rfl, hb1⟩
  have HB1 := Lib.hid hb1
  have HBG := Lib.hid (big_any _ _ cl log w1 w.heap.size (HC.out.keep hb1) (HL.out.keep hb1))
  clear hb1 HAL
  go_wp2_with fail
  refine HBG.out.mono ?_
  rintro e w2 ⟨b, rfl, rfl, hf⟩
  cases b
  rotate_left
  · clear hf HBG
    go_wp2
    go_ret
    exact ⟨rfl, HB1.out⟩
  have HF := Lib.hid (hf rfl)
  clear hf HBG
  have hs1 := HB1.out.size
  have HSH := Lib.hid (Shorten_any w1 w.heap.size _ _ cl log (HC.out.keep HB1.out) (HL.out.keep HB1.out) (HLT.out w1 HB1.out) hs1 (by have := HF.out.1; omega) (by have := HF.out.2.2.1; omega) (fun c hc => by have := HF.out.2.1 c hc; omega) (fun c hc => by have := HF.out.2.2.2 c hc; omega))
  have HSL : Hid ((shortened cl log).length ≤ 100) := Lib.hid (by
    have := HF.out.2.2.1
    unfold shortened
    split
    · have := chosen_len (log := log) (m := maskM cl log (log.length - 1)) log.length; omega
    · simp)
  go_wp2_with fail
  refine HSH.out.mono ?_
  rintro e w2 ⟨a2, n2, c2, rfl, hv2, hb2⟩
  have HB2 := Lib.hid (HB1.out.trans (hb2.mono hs1))
  have hs2 := HB2.out.size
  have HV2 := Lib.hid hv2
  have HRS := Lib.hid (RShorten_any w2 _ _ cl log ((HC.out.keep HB2.out).mono hs2) ((HL.out.keep HB2.out).mono hs2) HN1.out (by have := HF.out.1; omega) (by have := HF.out.2.2.1; omega) (fun c hc => by have := HF.out.2.1 c hc; omega) (fun c hc => by have := HF.out.2.2.2 c hc; omega))
  clear hv2 hb2 HSH
  go_wp2_with fail
  refine HRS.out.mono ?_
  rintro e w3 ⟨a3, n3, c3, rfl, hv3, hb3⟩
  have HB3 := Lib.hid (HB2.out.trans (hb3.mono hs2))
  have hs23 := hb3.size
  have hv2' := (HV2.out.keep hb3).mono hs23
  clear HRS hb3 HV2
  generalize shortened cl log = sl at *
  obtain ⟨ao2, cap2, b2, off2, vs2, he2, _, ha2, hc2, hi2⟩ := hv2'
  obtain ⟨ao3, cap3, b3, off3, vs3, he3, _, ha3, hc3, hi3⟩ := hv3
  cases he2
  cases he3
  have hsl := HSL.out
  have HA2 := Lib.hid ha2
  have HA3 := Lib.hid ha3
  have HC2 := Lib.hid hc2
  have HC3 := Lib.hid hc3
  have HI2 := Lib.hid hi2
  have HI3 := Lib.hid hi3
  clear ha2 ha3 hc2 hc3 hi2 hi3
  go_wp2
  go_loopw [26] (fun it wr => ∃ k : Nat, k ≤ sl.length ∧ it = .int .i64 k ∧ Below w.heap.size w wr ∧ Below w3.heap.size w3 wr) (fun it _ => sl.length - (intOf it).toNat)
  case atStart => exact ⟨0, Nat.zero_le _, rfl, HB3.out, Below.refl _ _⟩
  case round =>
    obtain ⟨k, hk, rfl, hb, hb3⟩ := hrel
    have HB := Lib.hid hb
    have HBX := Lib.hid hb3
    by_cases hlt : k < sl.length
    · have hne : sl ≠ [] := by intro h0; rw [h0] at hlt; simp at hlt
      obtain ⟨rfl, hx2⟩ := HA2.out hne
      obtain ⟨rfl, hx3⟩ := HA3.out hne
      have q2 : wr.cell? ⟨b2, off2 + k, none⟩ = some (vs2 k) := by rw [hb3.cell (show (⟨b2, off2 + k, none⟩ : Addr).block < w3.heap.size from hx2)]; exact HC2.out k hlt
      have q3 : wr.cell? ⟨b3, off3 + k, none⟩ = some (vs3 k) := by rw [hb3.cell (show (⟨b3, off3 + k, none⟩ : Addr).block < w3.heap.size from hx3)]; exact HC3.out k hlt
      have hi2 := HI2.out k hlt
      have hi3 := HI3.out k hlt
      have hbd : Below w3.heap.size w3 wr.drew := hb3.drew
      have HSM := Lib.hid (Same_any (vs2 k) (vs3 k) (sl.getD k []) (sl.getD k []) wr.drew w3.heap.size (hi2.keep hbd) (hi3.keep hbd))
      have HD1 := Lib.hid (hb.drew)
      have HD3 := Lib.hid hbd
      have hw1 := hb.size
      have hw3 := hb3.size
      rw [decide_eq_true rfl] at HSM
      obtain ⟨ai2, capi2, bi2, offi2, hv2, _⟩ := hi2
      obtain ⟨ai3, capi3, bi3, offi3, hv3, _⟩ := hi3
      rw [hv2] at q2 HSM
      rw [hv3] at q3 HSM
      generalize sl.getD k [] = d at *
      clear hb hb3 hbd hv2 hv3
      go_wp2
      go_still_tail 8, (by kernel_rfl)
      change wpList _ _ _ _ _ wr.drew
      go_wp2_with fail
      refine HSM.out.mono ?_
      rintro e w4 ⟨rfl, hb4⟩
      have HB4 := Lib.hid (HD1.out.trans (hb4.mono hw1))
      have HB5 := Lib.hid (HD3.out.trans (hb4.mono hw3))
      clear hb4 HSM
      go_wp2
      go_roundw
      case rel => exact ⟨k + 1, by omega, by go_num, HB4.out, HB5.out⟩
      case measure => simp [intOf]; omega
    · clear hb hb3
      go_wp2
      go_ret
      exact ⟨rfl, HB.out⟩
end Go.Proofs.Ytojjjndhabjhdaa.shortC
