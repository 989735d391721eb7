/-
  The law ShowObjects returns true.
-/
import Derived.Test.YtdbidkfjbhclcaaDoorObjA
import Derived.Test.YtdbidkfjbhclcaaDoorNodeN
import Derived.Test.YtdbidkfjbhclcaaDoorSameN
namespace Go.Proofs.YtdbidkfjbhclcaaDoor.objL
set_option linter.unusedSimpArgs false
set_option linter.unusedVariables false
open Go.ChangeShapes Go.WideShapes Go.ChangeAt Go.RowKit nodeP nodeQ nodeA nodeB nodeH cloneP owns cloneS cloneU cloneV objA errs errIs sameN
/-- what stands before the Object is made -/
structure Few (ks : List ByteArray) (cs : List Nd) : Prop where
  k : ks.length ≤ 50
  c : cs.length ≤ 50
  l : ks.length + sumL ks ≤ 2000
  s : ∀ j (h : j < cs.length), sz cs[j] ≤ 201
/-- the Object lies in a block -/
structure Ob (w : World) (g : Nat) (ks : List ByteArray) (cs : List Nd) (ak : Option Addr) (ck : Nat) (ao : Option Addr) (cap : Nat) (wr : World) : Prop where
  bel : Below w.heap.size w wr
  box : Whole wr g 26 [.int .i64 7, .int .i64 0, .string ByteArray.empty, .slice ak ks.length ck, .slice ao cs.length cap]
  lies : NodeAt wr wr.heap.size (obj ks cs) [.int .i64 7, .int .i64 0, .string ByteArray.empty, .slice ak ks.length ck, .slice ao cs.length cap]
theorem Ob.step {w wr w' : World} {g ck cap : Nat} {ks : List ByteArray} {cs : List Nd} {ak ao : Option Addr} (h : Ob w g ks cs ak ck ao cap wr) (hb : Below wr.heap.size wr w') : Ob w g ks cs ak ck ao cap w' :=
  ⟨h.bel.trans (hb.mono h.bel.size), h.box.below hb h.box.lt, stays h.lies hb⟩
theorem obj_form {w : World} {B : Nat} {ks : List ByteArray} {cs : List Nd} {l : List Value} (h : NodeAt w B (obj ks cs) l) : ∃ ak ck ao cap, l = [.int .i64 7, .int .i64 0, .string ByteArray.empty, .slice ak ks.length ck, .slice ao cs.length cap] := by
  obtain ⟨kv, cv, rfl, _, _, _, ⟨ak, ck, _, _, rfl, _⟩, ⟨ao, cap, _, _, _, rfl, _⟩⟩ := h.open
  exact ⟨_, _, _, _, rfl⟩
theorem szs_of : ∀ cs : List Nd, (∀ c ∈ cs, sz c ≤ 201) → szs cs ≤ 201 * cs.length
  | [], _ => by simp [szs]
  | c :: cs, h => by
    have h1 := szs_of cs fun x hx => h x (by simp [hx])
    have h2 := h c (by simp)
    simp only [szs, List.length_cons]; omega
theorem Few.obj {ks : List ByteArray} {cs : List Nd} (h : Few ks cs) : (sz (obj ks cs) : Int) ≤ 100000 := by
  have h1 := szs_of cs fun c hc => by
    obtain ⟨j, hj, rfl⟩ := List.getElem_of_mem hc
    exact h.s j hj
  have h2 := h.k
  have h3 := h.c
  have h4 := h.l
  have h5 : (ByteArray.empty : ByteArray).size = 0 := rfl
  simp only [cloneU.obj, sz]
  omega
set_option maxHeartbeats 4000000 in
set_option maxRecDepth 100000 in
theorem law_objects (ks : List ByteArray) (cs : List Nd) (kv cv : Value) (w : World) (ad : Nat → Addr) (hk : KeysAt w w.heap.size kv ks) (hc : KidsAt w w.heap.size cv cs) (hE : Env w ad) (hR : Errs w ad) :
    Calls Tryd.prog 4 #[kv, cv] w fun e w' => e = .returned (.bool true) ∧ Below w.heap.size w w' := by
  have HKV := Lib.hid hk
  have HCV := Lib.hid hc
  obtain ⟨ak, ck, bk, offk, rfl, hmk, hak, hck, hsk⟩ := hk
  obtain ⟨ao, cap, b, off, ls, rfl, hmm, ha, hcx, hnx⟩ := hc
  have HCK := Lib.hid hck
  have HAK := Lib.hid hak
  have HSK := Lib.hid hsk
  have HA := Lib.hid ha
  have HC := Lib.hid hcx
  have HN := Lib.hid hnx
  have HE := Lib.hid hE
  have HR := Lib.hid hR
  have HML : Hid (ks.length ≤ maxLen ∧ cs.length ≤ maxLen) := Lib.hid ⟨hmk.1, hmm⟩
  have HCAP : Hid (ks.length ≤ ck) := Lib.hid hmk.2
  have HAL := Lib.hid (nodeN.alive w ad hE)
  clear hck hak hsk ha hcx hnx hE hR hmk hmm
  by_cases hK : (50 : Int) < (ks.length : Int)
  · go_enter Tryd.func4, Tryd.ntmps4
    go_wp2_with fail
    refine HAL.out.mono ?_
    rintro e w1 ⟨rfl, hb⟩
    go_wp2
    go_ret
    exact ⟨rfl, hb⟩
  by_cases hC : (50 : Int) < (cs.length : Int)
  · go_enter Tryd.func4, Tryd.ntmps4
    go_wp2_with fail
    refine HAL.out.mono ?_
    rintro e w1 ⟨rfl, hb⟩
    go_wp2
    go_ret
    exact ⟨rfl, hb⟩
  go_enter Tryd.func4, Tryd.ntmps4
  go_wp2_with fail
  refine HAL.out.mono ?_
  rintro e w1 ⟨rfl, hb⟩
  have HB1 := Lib.hid hb
  have HLO := Lib.hid (long_any ks _ w1 ((HKV.out.keep hb).mono hb.size) (by omega))
  clear hb
  go_wp2_with fail
  refine HLO.out.mono ?_
  rintro e w2 ⟨lg, rfl, ⟨nq, rfl⟩, hlg⟩
  have HB2 : Hid (Below w.heap.size w (w1.drewN nq)) := Lib.hid (HB1.out.trans (Go.Joins.below_draws _ _ _))
  clear HLO
  cases lg
  case true =>
    go_wp2
    go_ret
    exact ⟨rfl, HB2.out⟩
  have HLG := Lib.hid (hlg rfl)
  clear hlg
  generalize w1.drewN nq = w3 at *
  go_wp2
  go_loopw [6, 33] (fun _ i wr => ∃ m : Nat, m ≤ cs.length ∧ i = .int .i64 m ∧ Below w.heap.size w wr ∧ Hid (∀ j (h : j < cs.length), j < m → sz cs[j] ≤ 201)) (fun _ i _ => cs.length - (intOf i).toNat)
  case atStart => exact ⟨0, Nat.zero_le _, rfl, HB2.out, Lib.hid (fun j h h' => by omega)⟩
  case round =>
    obtain ⟨m, hm1, rfl, hb, hall⟩ := hrel
    by_cases hlt : m < cs.length
    · obtain ⟨rfl, hbs⟩ := HA.out (by rintro rfl; simp at hlt)
      obtain ⟨k', n', t', ak', lk', ck', ac', lc', cc', hkid, q0, q1, q2, q3, q4⟩ := kid_at HC.out HN.out hlt hbs hb
      have hb4 : Below w.heap.size w (wr.alloc (.cells #[.int .i64 k', .int .i64 n', .string t', .slice ak' lk' ck', .slice ac' lc' cc'] 26)) := hb.alloc hb.size _
      have HSZ := Lib.hid (nodeA.size_any cs[m] _ _ 200 0 (stays hkid hb4) (by omega) (by omega) (by omega) (by omega))
      have HB4 := Lib.hid hb4
      have HM : Hid (m < cs.length) := Lib.hid hlt
      have HALL : Hid (∀ z : Int, (sz cs[m] : Int) ≤ 201 → ∀ j (h : j < cs.length), j < m + 1 → sz cs[j] ≤ 201) := Lib.hid (fun z hz j h hj => by
        by_cases e : j = m
        · subst e; omega
        · exact hall.out j h (by omega))
      clear hkid hb4 hall hb
      generalize cs[m] = x at *
      go_wp2_with fail
      refine HSZ.out.mono ?_
      rintro e w5 ⟨z, rfl, hz0, hz1, hz2, hb5⟩
      have HB5 := Lib.hid (HB4.out.trans (hb5.mono HB4.out.size))
      clear hb5 HSZ
      by_cases hz : (200 : Int) < z
      · clear hz2
        go_wp2
        go_ret
        exact ⟨rfl, HB5.out⟩
      · have hx : (sz x : Int) ≤ 201 := by have := hz2 (by omega); omega
        have HX := Lib.hid (HALL.out 0 hx)
        clear hz2 hx
        go_wp2
        go_roundw
        case rel => exact ⟨m + 1, by omega, by go_num, HB5.out, HX⟩
        case measure => simp [intOf]; omega
    · obtain rfl : m = cs.length := by omega
      have HF : Hid (Few ks cs) := Lib.hid ⟨by omega, by omega, by have := HLG.out; omega, fun j h => hall.out j h h⟩
      have HB := Lib.hid hb
      have HOB := Lib.hid (object_any ks cs _ _ wr ad (HR.out.below hb) ((HKV.out.keep hb).mono hb.size) ((HCV.out.keep hb).mono hb.size) (by omega) HF.out.obj)
      clear hb hall
      go_wp2_with fail
      refine HOB.out.mono ?_
      rintro e w6 ⟨l6, ev', rfl, hb6, hcase⟩
      have HB6 := Lib.hid (HB.out.trans (hb6.mono HB.out.size))
      clear hb6 HOB
      rcases hcase with ⟨ho, rfl, hn⟩ | ⟨ho, rfl, rfl⟩
      · obtain ⟨hlc, hnd⟩ : ks.length = cs.length ∧ ks.Nodup := by
          unfold obe at ho
          by_cases h1 : ks.length = cs.length
          · rw [if_pos h1] at ho
            by_cases h2 : ks.Nodup
            · exact ⟨h1, h2⟩
            · rw [if_neg h2] at ho; cases ho
          · rw [if_neg h1] at ho; cases ho
        obtain ⟨ak6, ck6, ao6, cap6, rfl⟩ := obj_form hn
        have hb7 : Below w6.heap.size w6 (w6.alloc (.cells #[.int .i64 7, .int .i64 0, .string ByteArray.empty, .slice ak6 ks.length ck6, .slice ao6 cs.length cap6] 26)) := (Below.refl _ _).alloc (Nat.le_refl _) _
        have HO7 : Hid (Ob w w6.heap.size ks cs ak6 ck6 ao6 cap6 (w6.alloc (.cells #[.int .i64 7, .int .i64 0, .string ByteArray.empty, .slice ak6 ks.length ck6, .slice ao6 cs.length cap6] 26))) := Lib.hid ⟨HB6.out.trans (hb7.mono HB6.out.size), Whole.new w6 26 [.int .i64 7, .int .i64 0, .string ByteArray.empty, .slice ak6 ks.length ck6, .slice ao6 cs.length cap6], stays hn hb7⟩
        have HND := Lib.hid hnd
        have HLC := Lib.hid hlc
        have hlI : (ks.length : Int) = (cs.length : Int) := by omega
        have hnil := intsC.neqlN
        clear ho hn hb7 hnd hlc
        go_wp2
        go_loopw [62] (fun i wr => ∃ m : Nat, m ≤ ks.length ∧ i = .int .i64 m ∧ Hid (Ob w w6.heap.size ks cs ak6 ck6 ao6 cap6 wr)) (fun i _ => ks.length - (intOf i).toNat)
        case atStart => exact ⟨0, Nat.zero_le _, rfl, HO7⟩
        case round =>
          obtain ⟨m, hm1, rfl, hob⟩ := hrel
          by_cases hlt : m < ks.length
          · obtain ⟨rfl, hbs⟩ := HAK.out (by intro h0; rw [h0] at hlt; simp at hlt)
            have q : wr.cell? ⟨bk, offk + m, none⟩ = some (.string (ks.getD m ByteArray.empty)) := by rw [hob.out.bel.cell hbs]; exact HCK.out m hlt
            have hmc : m ≤ ck := by have := HCAP.out; omega
            have hmcI : (m : Int) ≤ (ck : Int) := by omega
            have HDIS : Hid (∀ p, p < m → ks.getD p ByteArray.empty ≠ ks.getD m ByteArray.empty) := Lib.hid (fun p hp e => by
              rw [List.getD_eq_getElem?_getD, List.getD_eq_getElem?_getD, List.getElem?_eq_getElem (by omega), List.getElem?_eq_getElem (by omega)] at e
              exact List.pairwise_iff_getElem.1 HND.out p m (by omega) (by omega) hp (by simpa using e))
            generalize ks.getD m ByteArray.empty = s at *
            go_wp2
            go_loopw [71] (fun j wq => ∃ p : Nat, p ≤ m ∧ j = .int .i64 p ∧ Hid (Ob w w6.heap.size ks cs ak6 ck6 ao6 cap6 wq)) (fun j _ => m - (intOf j).toNat)
            case atStart => exact ⟨0, Nat.zero_le _, rfl, hob⟩
            case round =>
              obtain ⟨p, hp1, rfl, hobq⟩ := hrel
              by_cases hlp : p < m
              · have q2 : wr.cell? ⟨bk, offk + p, none⟩ = some (.string (ks.getD p ByteArray.empty)) := by rw [hobq.out.bel.cell hbs]; exact HCK.out p (by omega)
                have he := HDIS.out p hlp
                generalize ks.getD p ByteArray.empty = x at *
                have qn : (x.toList == s.toList) = false := by
                  rw [beq_eq_false_iff_ne]; intro h; apply he; rw [Go.ByteArray.toList_eq, Go.ByteArray.toList_eq] at h
                  exact ByteArray.ext (by simpa using congrArg List.toArray h)
                clear he
                go_wp2
                go_roundw
                case rel => exact ⟨p + 1, by omega, by go_num, hobq⟩
                case measure => simp [intOf]; omega
              · obtain rfl : p = m := by omega
                go_wp2
                go_roundw
                case rel => exact ⟨p + 1, by omega, by go_num, hobq⟩
                case measure => simp [intOf]; omega
          · have hq1 : decide ((m : Int) < (cs.length : Int)) = false := decide_eq_false (by omega)
            have hq2 : decide (m < cs.length) = false := decide_eq_false (by omega)
            have c0 := hob.out.box.cell 0
            have c3 := hob.out.box.cell 3
            simp only [List.getElem?_cons_zero, List.getElem?_cons_succ] at c0 c3
            go_wp2
            go_loopw [105] (fun i wr => ∃ m : Nat, m ≤ ks.length ∧ i = .int .i64 m ∧ Hid (Ob w w6.heap.size ks cs ak6 ck6 ao6 cap6 wr)) (fun i _ => ks.length - (intOf i).toNat)
            case atStart => exact ⟨0, Nat.zero_le _, rfl, hob⟩
            case round =>
              clear c0 c3 hob hlt
              obtain ⟨m, hm1, rfl, hob⟩ := hrel
              by_cases hlt : m < ks.length
              · obtain ⟨rfl, hbs⟩ := HAK.out (by intro h0; rw [h0] at hlt; simp at hlt)
                obtain ⟨rfl, hbc⟩ := HA.out (by intro e; have h1 := congrArg List.length e; rw [List.length_nil] at h1; omega)
                have q : wr.cell? ⟨bk, offk + m, none⟩ = some (.string (ks.getD m ByteArray.empty)) := by rw [hob.out.bel.cell hbs]; exact HCK.out m hlt
                have HLT : Hid (m < cs.length) := Lib.hid (by omega)
                have HGET := Lib.hid (cloneU.get_at ks cs m _ wr hob.out.lies HLC.out HLT.out HND.out (by have := HF.out.s m HLT.out; omega))
                generalize hkm : ks.getD m ByteArray.empty = s at *
                have HKM := Lib.hid hkm
                clear hkm
                have c0 := hob.out.box.cell 0
                have c1 := hob.out.box.cell 1
                have c2 := hob.out.box.cell 2
                have c3 := hob.out.box.cell 3
                have c4 := hob.out.box.cell 4
                simp only [List.getElem?_cons_zero, List.getElem?_cons_succ] at c0 c1 c2 c3 c4
                go_wp2_with fail
                refine HGET.out.mono ?_
                rintro e w8 ⟨l8, rfl, hv, hb8⟩
                obtain ⟨v0, v1, vt, va, vn, vc, vb, vm, vd, rfl⟩ := node_form (node_of_at hv)
                have hb9 : Below w8.heap.size w8 (w8.alloc (.cells #[.int .i64 v0, .int .i64 v1, .string vt, .slice va vn vc, .slice vb vm vd] 26)) := (Below.refl _ _).alloc (Nat.le_refl _) _
                have HO9 := Lib.hid ((hob.out.step hb8).step hb9)
                have hW9 := Whole.new w8 26 [.int .i64 v0, .int .i64 v1, .string vt, .slice va vn vc, .slice vb vm vd]
                have HV9 := Lib.hid (stays hv hb9)
                obtain ⟨kv6, cv6, e6, _, _, _, ⟨a6, f6, bk6, off6, e7, hm6, ha6, hc6, _⟩, _⟩ := HO9.out.lies.open
                simp only [List.cons.injEq, and_true, true_and] at e6
                obtain ⟨rfl, rfl⟩ := e6
                cases e7
                obtain ⟨rfl, hl6⟩ := ha6 (by intro e; have h1 := congrArg List.length e; rw [List.length_nil] at h1; omega)
                have z3 := hc6 m hlt
                rw [HKM.out] at z3
                obtain ⟨k', n', t', ak', lk', ck', ac', lc', cc', hkid, q0, q1, q2, q3, q4⟩ := kid_at HC.out HN.out HLT.out hbc HO9.out.bel
                have HSA : Hid (∀ w', Below (w8.alloc (.cells #[.int .i64 v0, .int .i64 v1, .string vt, .slice va vn vc, .slice vb vm vd] 26)).heap.size (w8.alloc (.cells #[.int .i64 v0, .int .i64 v1, .string vt, .slice va vn vc, .slice vb vm vd] 26)) w' → Calls Tryd.prog 14 #[.agg #[.int .i64 v0, .int .i64 v1, .string vt, .slice va vn vc, .slice vb vm vd], .agg #[.int .i64 k', .int .i64 n', .string t', .slice ak' lk' ck', .slice ac' lc' cc']] w' fun e w'' => e = .returned (.bool true) ∧ Below w'.heap.size w' w'') := Lib.hid (fun w' hb => by
                  have := rsame_any cs[m] cs[m] _ _ w' (stays HV9.out hb) (stays (stays hkid HO9.out.bel) hb)
                  rw [same_yes rfl] at this
                  exact this)
                have d0 := hW9.cell 0
                have d1 := hW9.cell 1
                have d2 := hW9.cell 2
                have d3 := hW9.cell 3
                have d4 := hW9.cell 4
                simp only [List.getElem?_cons_zero, List.getElem?_cons_succ] at d0 d1 d2 d3 d4
                have x3 := HO9.out.box.cell 3
                simp only [List.getElem?_cons_zero, List.getElem?_cons_succ] at x3
                clear hb8 hb9 hW9 hv hkid HGET hob c0 c1 c2 c3 c4 q hc6 ha6 hm6
                go_wp2_with fail
                go_region_with (first
                  | (go_at_call 14; refine (HSA.out _ ?_).mono ?_; exact (Go.Joins.below_draws _ _ 1); rintro e w10 ⟨rfl, hb10⟩; have HO10 := Lib.hid ((HO9.out.step (Go.Joins.below_draws _ _ 1)).step hb10); clear hb10))
                all_goals (
                  clear d0 d1 d2 d3 d4 q0 q1 q2 q3 q4 x3 z3 HSA HV9
                  go_wp2
                  go_roundw
                  case rel => exact ⟨m + 1, by omega, by go_num, HO10⟩
                  case measure => simp [intOf]; omega)
              · obtain rfl : m = ks.length := by omega
                have HBL := Lib.hid hob.out.bel
                go_wp2
                go_ret
                exact ⟨rfl, HBL.out⟩
      · have hb7 : Below w.heap.size w (w6.alloc (.cells #[.int .i64 0, .int .i64 0, .string ByteArray.empty, .slice none 0 0, .slice none 0 0] 26)) := HB6.out.alloc HB6.out.size _
        have HR7 := Lib.hid (HR.out.below hb7)
        have HB7 := Lib.hid hb7
        have hW7 := Lib.hid (Whole.new w6 26 [.int .i64 0, .int .i64 0, .string ByteArray.empty, .slice none 0 0, .slice none 0 0])
        clear hb7
        by_cases hlc : ks.length = cs.length
        · have HND : Hid (¬ ks.Nodup) := Lib.hid (fun h => ho (by unfold obe; rw [if_pos hlc, if_pos h]))
          have hOB : obe ks cs = 5 := by unfold obe; rw [if_pos hlc, if_neg HND.out]
          rw [hOB]
          have hlI : (ks.length : Int) = (cs.length : Int) := by omega
          have c0 := hW7.out.cell 0
          simp only [List.getElem?_cons_zero] at c0
          have HC0 := Lib.hid c0
          clear ho hOB hlc hW7 c0
          go_wp2
          go_loopw [62] (fun i wr => ∃ m : Nat, m ≤ ks.length ∧ i = .int .i64 m ∧ Below w.heap.size w wr ∧ Hid (wr.cell? ⟨w6.heap.size, 0, none⟩ = some (.int .i64 0)) ∧ Hid ((ks.take m).Nodup)) (fun i _ => ks.length - (intOf i).toNat)
          case atStart => exact ⟨0, Nat.zero_le _, rfl, HB7.out, HC0, Lib.hid (by simp)⟩
          case round =>
            obtain ⟨m, hm1, rfl, hb, hc0, hnd⟩ := hrel
            by_cases hlt : m < ks.length
            · obtain ⟨rfl, hbs⟩ := HAK.out (by intro h0; rw [h0] at hlt; simp at hlt)
              have q : wr.cell? ⟨bk, offk + m, none⟩ = some (.string (ks.getD m ByteArray.empty)) := by rw [hb.cell hbs]; exact HCK.out m hlt
              have hmc : m ≤ ck := by have := HCAP.out; omega
              have hmcI : (m : Int) ≤ (ck : Int) := by omega
              have hsn := Lib.hid (fun h h' => take_nodup_snoc (l := ks) m hlt h h')
              have HS : Hid (∃ s, ks.getD m ByteArray.empty = s) := Lib.hid ⟨_, rfl⟩
              obtain ⟨s, hs⟩ := HS.out
              rw [hs] at q hsn
              have HSS := Lib.hid hs
              have HB := Lib.hid hb
              clear hs hb
              go_wp2
              go_loopw [71] (fun j wq => ∃ p : Nat, p ≤ m ∧ j = .int .i64 p ∧ Below w.heap.size w wq ∧ Hid (wq.cell? ⟨w6.heap.size, 0, none⟩ = some (.int .i64 0)) ∧ Hid (∀ r, r < p → ks.getD r ByteArray.empty ≠ s)) (fun j _ => m - (intOf j).toNat)
              case atStart => exact ⟨0, Nat.zero_le _, rfl, HB.out, hc0, Lib.hid (fun r hr => by omega)⟩
              case round =>
                obtain ⟨p, hp1, rfl, hbq, hcq, hne⟩ := hrel
                by_cases hlp : p < m
                · have q2 : wr.cell? ⟨bk, offk + p, none⟩ = some (.string (ks.getD p ByteArray.empty)) := by rw [hbq.cell hbs]; exact HCK.out p (by omega)
                  have HBQ := Lib.hid hbq
                  generalize hx : ks.getD p ByteArray.empty = x at *
                  have EX := Lib.hid hx
                  clear hbq hx
                  by_cases he : x = s
                  · subst he
                    have c0 := hcq.out
                    have HNM := Lib.hid (num_err _ ad (HR.out.below HBQ.out) 4 (by decide))
                    go_wp2_with fail
                    refine HNM.out.mono ?_
                    rintro e w8 ⟨rfl, hb8⟩
                    have HB8 := Lib.hid (HBQ.out.trans (hb8.mono HBQ.out.size))
                    clear hb8
                    go_wp2
                    go_ret
                    exact ⟨rfl, HB8.out⟩
                  · have qn : (x.toList == s.toList) = false := by
                      rw [beq_eq_false_iff_ne]; intro h; apply he; rw [Go.ByteArray.toList_eq, Go.ByteArray.toList_eq] at h
                      exact ByteArray.ext (by simpa using congrArg List.toArray h)
                    have hN : Hid (∀ r, r < p + 1 → ks.getD r ByteArray.empty ≠ s) := Lib.hid (fun r hr => by
                      by_cases e : r = p
                      · subst e; rw [EX.out]; exact he
                      · exact hne.out r (by omega))
                    go_wp2
                    go_roundw
                    case rel => exact ⟨p + 1, by omega, by go_num, HBQ.out, hcq, hN⟩
                    case measure => simp [intOf]; omega
                · obtain rfl : p = m := by omega
                  have hN : Hid ((ks.take (p + 1)).Nodup) := Lib.hid (hsn.out hnd.out (fun h => by
                    obtain ⟨r, hr, e⟩ := List.getElem_of_mem h
                    rw [List.length_take] at hr
                    refine hne.out r (by omega) ?_
                    rw [List.getD_eq_getElem?_getD, List.getElem?_eq_getElem (by omega), ← e, List.getElem_take]; rfl))
                  have HBQ := Lib.hid hbq
                  clear hbq
                  go_wp2
                  go_roundw
                  case rel => exact ⟨p + 1, by omega, by go_num, HBQ.out, hcq, hN⟩
                  case measure => simp [intOf]; omega
            · exact absurd (by have := hnd.out; rw [show m = ks.length by omega, List.take_length] at this; exact this) HND.out
        · have hOB : obe ks cs = 6 := by unfold obe; rw [if_neg hlc]
          rw [hOB]
          have hlI : ¬ ((ks.length : Int) = (cs.length : Int)) := by omega
          have HNM := Lib.hid (num_err _ ad HR7.out 5 (by decide))
          clear ho hOB hlc
          go_wp2_with fail
          refine HNM.out.mono ?_
          rintro e w8 ⟨rfl, hb8⟩
          have HB8 := Lib.hid (HB7.out.trans (hb8.mono HB7.out.size))
          clear hb8
          go_wp2
          go_ret
          exact ⟨rfl, HB8.out⟩
end Go.Proofs.YtdbidkfjbhclcaaDoor.objL
