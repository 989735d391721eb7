/-
  Rows of copied clauses; contract of proof.Shorten.
  Contracts of the reference's Chosen and Shorten; the law ProofShort.
-/
import Derived.Test.YtojjjndhabjhdaaDoorFrM
import Derived.Test.YtojjjndhabjhdaaDoorFpM
namespace Go.Proofs.YtojjjndhabjhdaaDoor.shortB
open Go.ChangeShapes Go.WideShapes Go.ChangeAt Go.RowKit proofP proofQ proofR owns proofA proofC proofG proofI proofJ proofK proofM proofN proofO proofS proofT proofU proofV proofW proofX shortP shortA cls
set_option linter.unusedSimpArgs false
set_option linter.unusedVariables false

/-- no inner slice that is nil has room -/
def NilIn (w : World) (v : Value) : Prop := ∀ b off n cap, v = .slice (some ⟨b, off, none⟩) n cap → ∀ i, i < n → ∀ u, w.cell? ⟨b, off + i, none⟩ = some u → Nilv u

/-- integers in a block other than one -/
def IntsOff (w : World) (ob : Option Nat) (v : Value) (l : List Int) : Prop :=
  ∃ ao cap b off, v = .slice ao l.length cap ∧ l.length ≤ maxLen ∧ (l ≠ [] → ao = some ⟨b, off, none⟩ ∧ b < w.heap.size ∧ some b ≠ ob) ∧ (∀ i, i < l.length → w.cell? ⟨b, off + i, none⟩ = some (.int .i64 (l.getD i 0))) ∧ ∀ x ∈ l, In64 x
theorem IntsOff.at {w : World} {ob : Option Nat} {v : Value} {l : List Int} (h : IntsOff w ob v l) : IntsAt w w.heap.size v l := by
  obtain ⟨ao, cap, b, off, rfl, hm, ha, hc, hs⟩ := h
  exact ⟨ao, cap, b, off, rfl, hm, fun h => ⟨(ha h).1, (ha h).2.1⟩, hc, hs⟩
theorem IntsOff.grown {w w' : World} {ob ob' : Option Nat} {v : Value} {l : List Int} (h : IntsOff w ob v l) (hg : w.grownBy w' ob) (ho : ob' = ob ∨ ob' = some w.heap.size) : IntsOff w' ob' v l := by
  obtain ⟨ao, cap, b, off, rfl, hm, ha, hc, hs⟩ := h
  refine ⟨ao, cap, b, off, rfl, hm, fun h => ⟨(ha h).1, Nat.lt_of_lt_of_le (ha h).2.1 hg.size, ?_⟩, fun i hi => ?_, hs⟩
  · rcases ho with e | e
    · rw [e]; exact (ha h).2.2
    · rw [e]; intro e; cases e; exact absurd (ha h).2.1 (Nat.lt_irrefl _)
  · have := ha (by intro h0; rw [h0] at hi; simp at hi)
    rw [World.cell?_of_block (w := w) (hg.block b this.2.1 this.2.2)]; exact hc i hi
theorem IntsOff.below {w w' : World} {ob : Option Nat} {v : Value} {l : List Int} (h : IntsOff w ob v l) (hb : Below w.heap.size w w') : IntsOff w' ob v l := h.grown (grown_below hb _) (.inl rfl)
theorem off_row {w : World} {B : Nat} {ob : Option Nat} {v : Value} {l : List Int} (h : IntsR w B v l) (hs : ∀ x ∈ l, In64 x) (ho : ∀ b, ob = some b → b < B) : IntsOff w ob v l := by
  have h' : w.ownsRow B 3 1 v l.length (l.map (Value.int .i64)) := h
  rcases h'.2 with ⟨rfl, h0⟩ | ⟨g, cap, cur, rfl, hb, hg, hn, hm, hc, ht⟩
  · obtain rfl : l = [] := List.length_eq_zero_iff.1 h0
    exact ⟨none, 0, 0, 0, rfl, Nat.zero_le _, fun h => absurd rfl h, fun i hi => absurd hi (Nat.not_lt_zero _), by simp⟩
  · refine ⟨_, cap, g, 0, rfl, by omega, fun _ => ⟨rfl, (Array.getElem?_eq_some_iff.1 hg).1, fun e => ?_⟩, fun i hi => ?_, hs⟩
    · have := ho g e.symm; omega
    · have := World.ownsRow.cellAt h' i (by omega)
      rw [Nat.zero_add, this, List.getElem?_map, List.getElem?_eq_getElem hi, List.getD_eq_getElem?_getD, List.getElem?_eq_getElem hi]; rfl

/-- a row of clauses of the call's own, whose clauses lie in other blocks -/
def ClsO (w : World) (base : Nat) (v : Value) (cl : List (List Int)) : Prop := ∃ vl, w.ownsRow base 41 1 v cl.length vl ∧ ∀ i, i < cl.length → IntsOff w v.ownBlock (vl.getD i undef) (cl.getD i [])
theorem ClsO.at {w : World} {base : Nat} {v : Value} {cl : List (List Int)} (h : ClsO w base v cl) : ClsAt w w.heap.size v cl := by
  obtain ⟨vl, h1, h2⟩ := h
  exact ClsAt.ofRow h1 (fun i hi => (h2 i hi).at)
theorem ClsO.nil (w : World) (base : Nat) : ClsO w base (.slice none 0 0) [] := ⟨[], ⟨rfl, .inl ⟨rfl, rfl⟩⟩, fun i hi => absurd hi (Nat.not_lt_zero _)⟩
theorem ClsO.below {w w' : World} {base : Nat} {v : Value} {cl : List (List Int)} (h : ClsO w base v cl) (hb : Below w.heap.size w w') : ClsO w' base v cl := by
  obtain ⟨vl, h1, h2⟩ := h
  exact ⟨vl, row_below h1 hb, fun i hi => (h2 i hi).below hb⟩
theorem ClsO.lt {w : World} {base : Nat} {v : Value} {cl : List (List Int)} (h : ClsO w base v cl) : ∀ b, v.ownBlock = some b → b < w.heap.size := by
  obtain ⟨vl, h1, h2⟩ := h
  exact fun b hb => (h1.lt b hb).2

section
variable (w : World)
theorem wpList_append_clsO {ops : Array Oper} {rest : List Oper} {o : Oper} {a : Act} {Q : Exit → Act → World → Prop} (hgd : o.guard = none) (s x : Operand)
    (ho : o.op = .call { callee := .builtin .append, args := #[s, x], argTypes := #[22, 22] })
    (base : Nat) (v xv : Value) (xb : Nat) (cl : List (List Int)) (d : List Int) (hs : a.eval s = v) (hr : ClsO w base v cl) (hx : a.eval x = .slice (some ⟨xb, 0, none⟩) 1 1) (hxc : w.cell? ⟨xb, 0, none⟩ = some xv) (hxi : IntsOff w v.ownBlock xv d)
    (h1 : cl.length ≤ 100000) (hbase : base ≤ w.heap.size)
    (h : ∀ ao N c w', ClsO w' base (.slice ao N c) (cl ++ [d]) → Below base w w' → wpList Tryd.prog ops Q rest (a.put o.dst (.slice ao N c)) w') :
    wpList Tryd.prog ops Q (o :: rest) a w := by
  obtain ⟨i0, hi0, hz0, hz1, hz2⟩ := info_parts infoC
  obtain ⟨vl, ho1, hin⟩ := hr
  have hlen : vl.length = cl.length := by have := ho1.1; omega
  refine wpList_append_opt w hgd s x _ ho base 41 i0 (.slice none 0 0) 24 Tryd.underlying22 hi0 hz0 hz1 hz2 rfl v cl.length vl hs ho1 (some ⟨xb, 0, none⟩) 1 1 [xv] hx (fun h0 => by cases h0) rfl ?_ ?_ (by unfold maxLen; omega) (by omega) hbase ?_
  · intro ad had j u hu
    cases had
    have hj : j = 0 := by have := (List.getElem?_eq_some_iff.1 hu).1; simp at this; exact this
    subst hj
    simp at hu; subst hu
    rw [proofT.clsadd]; exact hxc
  · intro u hu
    simp at hu; subst hu
    exact ints_one hxi.at
  · intro v' w' ho' hg' hat
    have hb : Below base w w' := (Below.refl base w).grown hg' hbase (fun j hj => (ho1.lt j hj).1)
    obtain ⟨a3, c3, hv3, _, _, _⟩ := cap_row ho'
    subst hv3
    refine h a3 _ c3 w' ⟨vl ++ [xv], by rw [List.length_append]; exact ho', fun i hi => ?_⟩ hb
    rw [List.length_append] at hi
    by_cases hlt : i < cl.length
    · rw [List.getD_eq_getElem?_getD, List.getElem?_append_left (by omega), List.getD_eq_getElem?_getD, List.getElem?_append_left hlt, ← List.getD_eq_getElem?_getD, ← List.getD_eq_getElem?_getD]
      exact (hin i hlt).grown hg' hat
    · have e : i = cl.length := by simp at hi; omega
      subst e
      rw [List.getD_eq_getElem?_getD, List.getElem?_append_right (by omega), List.getD_eq_getElem?_getD, List.getElem?_append_right (by omega), hlen, Nat.sub_self]
      exact hxi.grown hg' hat
end

def ShortP (cl log : List (List Int)) (w : World) (e : Ending) (w' : World) : Prop := ∃ ao n c, e = .returned (.slice ao n c) ∧ ClsAt w' w'.heap.size (.slice ao n c) (shortened cl log) ∧ Below w.heap.size w w'

theorem infoB' : (Tryd.prog.info? 4).map (fun i => (i.zero, i.size, i.bytes)) = some (some (.bool false), 1, 1) := by kernel_rfl
theorem obs_false (n : Nat) : List.replicate n (Value.bool false) = obs n (fun _ => false) := by
  unfold obs; exact rep_map _ _

set_option maxRecDepth 100000 in
set_option maxHeartbeats 4000000 in
theorem Shorten_any (w : World) (B0 : Nat) (cv lv : Value) (cl log : List (List Int)) (hc : ClsAt w B0 cv cl) (hl : ClsAt w B0 lv log) (hn : NilIn w lv) (hB0 : B0 ≤ w.heap.size) (h1 : cl.length ≤ 40000) (h2 : log.length ≤ 40000) (hs1 : ∀ c ∈ cl, c.length ≤ 100000) (hs2 : ∀ c ∈ log, c.length ≤ 100000) :
    Calls Tryd.prog 8 #[cv, lv] w (ShortP cl log w) := by
  have HN := Lib.hid (new_pv w B0 cv lv cl log hc hl hB0 h1 h2 hs1 hs2)
  have HL := Lib.hid hl
  have HS2 := Lib.hid hs2
  have HNI := Lib.hid hn
  obtain ⟨ac, capc, bc, offc, vsc, rfl, _, _, _, _⟩ := hc
  obtain ⟨al, capl, bl, offl, vsl, rfl, hml, hal, hcl, hnl⟩ := hl
  have HAL := Lib.hid hal
  have HCL := Lib.hid hcl
  have HNL := Lib.hid hnl
  have HRF : Hid (shortened cl log = if bad cl log = -1 then chosen log (maskM cl log (log.length - 1)) log.length else []) := Lib.hid rfl
  clear hs1 hs2 hal hcl hnl hml hn
  obtain ⟨iB, hiB, hzB0, hzB1, hzB2⟩ := info_parts infoB'
  go_enter Tryd.func8, Tryd.ntmps8
  go_wp2_with fail
  refine HN.out.mono ?_
  rintro e w1 ⟨bp, x, rfl, hbp, hpv, hb⟩
  have HC := Lib.hid (check_pv x w1 w.heap.size bp _ cl log hpv ((HL.out.mono hB0).keep hb) h1 h2 HS2.out)
  have HB := Lib.hid hb
  have HBC := Lib.hid (bad_cases cl log)
  have HBE : Hid (∃ z, bad cl log = z) := Lib.hid ⟨_, rfl⟩
  clear hpv hb HN
  go_wp2_with fail
  refine HC.out.mono ?_
  rintro e w2 ⟨rfl, hpv2, hb2⟩
  have HB2 := Lib.hid (HB.out.trans hb2)
  have HPV := Lib.hid hpv2
  clear hb2 HC hpv2
  generalize hbad : bad cl log = bd at *
  have HBAD := Lib.hid hbad
  clear hbad
  rcases HBC.out with ⟨rfl, _⟩ | ⟨i, hi1, rfl, _, _⟩
  rotate_left
  · have HE : Hid (shortened cl log = []) := Lib.hid (by rw [HRF.out, if_neg (by omega)])
    clear HBC HRF HPV HBE
    have hge : (0 : Int) ≤ (i : Int) := by omega
    go_wp2
    go_ret
    exact ⟨none, 0, 0, rfl, by rw [HE.out]; exact cls_nil _ _, HB2.out⟩
  have HP2 := Lib.hid (HPV.out rfl)
  have HE : Hid (shortened cl log = chosen log (maskM cl log (log.length - 1)) log.length) := Lib.hid (by rw [HRF.out, if_pos rfl])
  clear HBC HRF HPV HBE
  have hs2 := HB2.out.size
  go_wp2_with (at_make; refine wpList_make_full _ rfl (.tmp 18) (.tmp 18) 24 rfl w2.heap.size 4 iB (.bool false) 1 Tryd.underlying24 hiB hzB0 hzB1 .i64 .i64 _ _ log.length rfl rfl rfl rfl ?e3 ?e4 ?e5 ?_)
  case e3 => rw [hzB2]; omega
  case e4 => unfold maxLen; omega
  case e5 => exact Nat.le_refl _
  intro w3 hown hgrow
  rw [toList_madeCells_one] at hown
  have hb3 := below_grown hgrow (Nat.le_refl w2.heap.size) (by intro k hk; cases hk)
  have HB3 := Lib.hid (HB2.out.trans (hb3.mono hs2))
  have HP3 : Hid (PVx ⟨4, .slice (some ⟨w2.heap.size, 0, none⟩) log.length log.length, obs log.length (fun j => !maskM cl log 0 j)⟩ w3 w.heap.size bp (.slice al log.length capl) cl log (fun _ => true)) := Lib.hid (by
    have e : obs log.length (fun j => !maskM cl log 0 j) = List.replicate log.length (Value.bool false) := (obs_false log.length).symm
    rw [e]
    exact pv_adopt (x := ⟨4, .slice (some ⟨w2.heap.size, 0, none⟩) log.length log.length, List.replicate log.length (Value.bool false)⟩) HP2.out hb3 (by simpa using hown))
  clear hown hgrow hb3 HP2
  generalize w2.heap.size = g at *
  go_wp2
  go_loopw [7] (fun it wr => ∃ (t : Nat) (f : Nat → Bool), t ≤ log.length - 1 ∧ it = .int .i64 ((log.length : Int) - 2 - t) ∧ PVx ⟨4, .slice (some ⟨g, 0, none⟩) log.length log.length, obs log.length (fun j => !maskM cl log t j)⟩ wr w.heap.size bp (.slice al log.length capl) cl log f ∧ (∀ j, j < cl.length → f j = true) ∧ Below w.heap.size w wr) (fun it _ => (intOf it + 2).toNat)
  case atStart => exact ⟨0, _, Nat.zero_le _, by go_num, HP3.out, fun _ _ => rfl, HB3.out⟩
  case round =>
    clear HP3 HB3 HB HB2
    obtain ⟨t, f, ht, rfl, hpv, hf, hb⟩ := hrel
    have HB := Lib.hid hb
    have hws := hb.size
    by_cases hlt : t + 2 ≤ log.length
    · obtain ⟨place, hpl⟩ : ∃ place : Nat, place = log.length - 2 - t := ⟨_, rfl⟩
      have hpi : (log.length : Int) - 2 - (t : Int) = (place : Int) := by omega
      have hpn : place < log.length := by omega
      rw [hpi]
      obtain ⟨x1, x2, x3, x4, x5⟩ := pv_extra hpv rfl
      have xk := x4 place (by rw [obs_len]; exact hpn)
      rw [obs_at hpn] at xk
      have zk := x5 place
      have hp1 := pv_setExtra hpv rfl place (.bool true)
      rw [obs_set hpn] at hp1
      have hb1 := hb.setCell (p := ⟨g, place, none⟩) x1 (.bool true)
      have HBH := Lib.hid (behind_any (wr.setCell ⟨g, place, none⟩ (.bool true)) w.heap.size bp _ cl log f (updN (fun j => !maskM cl log t j) place true) place g log.length hp1 hf ((HL.out.mono hB0).keep hb1) hpn (updN_same _ _ _) h1 h2 HS2.out)
      have HMS := Lib.hid (fun b => mask_step (b := b) HBAD.out hlt hpl)
      have HB1 := Lib.hid hb1
      have HOB := Lib.hid (fun b => obs_set (o := updN (fun j => !maskM cl log t j) place true) hpn b)
      have hnext : IntKind.i64.wrap ((place : Int) - 1) = (log.length : Int) - 2 - ((t + 1 : Nat) : Int) := by rw [IntWalk.i64_in _ (by omega)]; omega
      have HNXT := Lib.hid hnext
      have HPI := Lib.hid hpi
      have hpm : (place : Int) + 2 = (place : Int) + 2 := rfl
      generalize (!maskM cl log t place) = ob at *
      generalize updN (fun j => !maskM cl log t j) place true = o' at *
      clear hpv hb x2 x3 x4 x5 hp1 hb1 hf hnext hpi hpl hpm
      go_wp2_with fail
      refine HBH.out.mono ?_
      rintro e w4 ⟨b, f', rfl, hbi, hp4, hf4, hb4⟩
      have HMB := Lib.hid (HMS.out b hbi)
      obtain ⟨y1, y2, y3, y4, y5⟩ := pv_extra hp4 rfl
      have yk := y4 place (by rw [obs_len]; exact hpn)
      rw [obs_at hpn] at yk
      have zk4 := y5 place
      have hp5 := pv_setExtra hp4 rfl place (.bool b)
      rw [HOB.out, HMB.out] at hp5
      have HP5 := Lib.hid hp5
      have HF4 := Lib.hid hf4
      have HB5 := Lib.hid ((HB1.out.trans hb4).setCell (p := ⟨g, place, none⟩) y1 (.bool b))
      generalize o' place = ob4 at *
      clear hp4 hp5 hb4 hf4 y2 y3 y4 y5 hbi HBH HMS HMB HOB xk zk
      go_wp2
      go_roundw
      case rel => exact ⟨t + 1, f', by omega, congrArg (Value.int .i64) (by have := HPI.out; omega), HP5.out, HF4.out, HB5.out⟩
      case measure => have e2 := HPI.out; simp only [intOf]; omega
    · obtain rfl : t = log.length - 1 := by omega
      have hneg : ¬ ((0 : Int) ≤ (log.length : Int) - 2 - ((log.length - 1 : Nat) : Int)) := by omega
      obtain ⟨x1, x2, x3, x4, x5⟩ := pv_extra hpv rfl
      have HX : Hid (∀ j, j < log.length → wr.cell? ⟨g, j, none⟩ = some (.bool (!maskM cl log (log.length - 1) j))) := Lib.hid (fun j hj => by rw [x4 j (by rw [obs_len]; exact hj), obs_at hj])
      generalize maskM cl log (log.length - 1) = m at *
      clear hpv hb hf x3 x4 x5
      generalize ((log.length : Int) - 2 - ((log.length - 1 : Nat) : Int)) = zz at *
      generalize hwo : wr = wo at *
      clear hwo
      go_wp2
      go_loopw [8, 39] (fun rv it wr => ∃ (k n cp : Nat) (ao : Option Addr), k ≤ log.length ∧ it = .int .i64 k ∧ rv = .slice ao n cp ∧ ClsO wr wo.heap.size (.slice ao n cp) (chosen log m k) ∧ Below wo.heap.size wo wr) (fun _ it _ => log.length - (intOf it).toNat)
      case atStart => exact ⟨0, 0, 0, none, Nat.zero_le _, rfl, rfl, ClsO.nil _ _, Below.refl _ _⟩
      case round =>
        obtain ⟨k, n, cp, ao, hk, rfl, rfl, hr, hb⟩ := hrel
        have HR := Lib.hid hr
        have HBW := Lib.hid hb
        have hw5 := hb.size
        have HB5 := Lib.hid (HB.out.trans (hb.mono hws))
        by_cases hk2 : k < log.length
        · obtain ⟨rfl, hbB⟩ := HAL.out (by intro h0; rw [h0] at hk2; simp at hk2)
          have hq : wr.cell? ⟨bl, offl + k, none⟩ = some (vsl k) := by rw [HB5.out.cell (show (⟨bl, offl + k, none⟩ : Addr).block < w.heap.size from by show bl < _; omega)]; exact HCL.out k hk2
          have hx := HX.out k hk2
          rw [← hb.cell (show (⟨g, k, none⟩ : Addr).block < wo.heap.size from x2)] at hx
          cases hmk : m k
          · rw [hmk] at hx
            have HR2 : Hid (ClsO wr wo.heap.size (.slice ao n cp) (chosen log m (k + 1))) := Lib.hid (by rw [chosen_no hmk]; exact HR.out)
            obtain ⟨ai, capi, bi, offi, hvi, _⟩ := HNL.out k hk2
            rw [hvi] at hq
            generalize (log.getD k []).length = dl at *
            clear hr hb hmk
            go_wp2
            go_roundw
            case rel => exact ⟨k + 1, _, _, _, by omega, by go_num, rfl, HR2.out, HBW.out⟩
            case measure => simp [intOf]; omega
          · rw [hmk] at hx
            have HCH : Hid (chosen log m (k + 1) = chosen log m k ++ [log.getD k []]) := Lib.hid (chosen_yes hmk)
            have hik := HNL.out k hk2
            have HNK := Lib.hid (HNI.out bl offl _ _ rfl k hk2 (vsl k) (HCL.out k hk2))
            have hdl := HS2.out _ (getD_mem (d := []) hk2)
            have hcl5 := chosen_len (log := log) (m := m) k
            have HI6 := Lib.hid (hik.in64)
            have HE0 := Lib.hid (IntsR.empty wr)
            have hba : Below wr.heap.size wr (wr.alloc (.cells #[] 3)) := (Below.refl _ _).alloc (Nat.le_refl _) _
            have HBA := Lib.hid hba
            have HXI : Hid (IntsAt (wr.alloc (.cells #[] 3)) (wr.alloc (.cells #[] 3)).heap.size (vsl k) (log.getD k [])) := Lib.hid ((hik.keep ((HB5.out.trans (hba.mono HB5.out.size)).mono hB0)).mono (by have := HB5.out.size; have := hba.size; omega))
            have HSA : Hid (wr.heap.size ≤ (wr.alloc (.cells #[] 3)).heap.size) := Lib.hid hba.size
            have HL0 : Hid (([] : List Int).length ≤ 1000000) := Lib.hid (by simp)
            have HL1 : Hid ((log.getD k []).length ≤ 1000000) := Lib.hid (by omega)
            obtain ⟨ai, capi, bi, offi, hvi, _⟩ := hik
            rw [hvi] at hq HNK HXI
            generalize log.getD k [] = d at *
            clear hr hb hmk hba hvi
            go_wp2_with (at_builtin; refine wpList_append_ints _ rfl (.tmp 50) (.tmp 51) 41 rfl Tryd.underlying41 wr.heap.size (.slice (some ⟨wr.heap.size, 0, none⟩) 0 0) (.slice ai d.length capi) [] d rfl HE0.out rfl HXI.out HNK.out HL0.out HL1.out HSA.out ?_)
            intro a6 n6 c6 w6 ho6 hb6 hn6
            have ho6' : IntsR w6 wr.heap.size (.slice a6 n6 c6) d := ho6
            have hb56 : Below wr.heap.size wr w6 := HBA.out.trans hb6
            have hba2 : Below w6.heap.size w6 (w6.alloc (.cells #[.slice a6 n6 c6] 41)) := (Below.refl _ _).alloc (Nat.le_refl _) _
            have HR7 : Hid (ClsO (w6.alloc (.cells #[.slice a6 n6 c6] 41)) wo.heap.size (.slice ao n cp) (chosen log m k)) := Lib.hid ((HR.out.below hb56).below hba2)
            have HI7 : Hid (IntsOff (w6.alloc (.cells #[.slice a6 n6 c6] 41)) (Value.slice ao n cp).ownBlock (.slice a6 n6 c6) d) := Lib.hid ((off_row ho6' HI6.out (fun b hb => HR.out.lt b hb)).below hba2)
            have HC7 : Hid ((w6.alloc (.cells #[.slice a6 n6 c6] 41)).cell? ⟨w6.heap.size, 0, none⟩ = some (.slice a6 n6 c6)) := Lib.hid (new_one w6 (.slice a6 n6 c6) 41 0 _ rfl)
            have hs6 := hb56.size
            have HS7 : Hid (wo.heap.size ≤ (w6.alloc (.cells #[.slice a6 n6 c6] 41)).heap.size) := Lib.hid (by have := hba2.size; omega)
            have HL7 : Hid ((chosen log m k).length ≤ 100000) := Lib.hid (by omega)
            have HB7 := Lib.hid ((HBW.out.trans (hb56.mono hw5)).trans (hba2.mono (by omega)))
            clear ho6 hb6 ho6' hb56 hba2 hn6 HE0 HBA HXI HSA HNK hcl5
            go_wp2_with (at_builtin; refine wpList_append_clsO _ rfl (.tmp 49) (.tmp 53) rfl wo.heap.size (.slice ao n cp) (.slice a6 n6 c6) w6.heap.size (chosen log m k) d rfl HR7.out rfl HC7.out HI7.out HL7.out HS7.out ?_)
            intro a8 n8 c8 w8 ho8 hb8
            have HO8 : Hid (ClsO w8 wo.heap.size (.slice a8 n8 c8) (chosen log m (k + 1))) := Lib.hid (by rw [HCH.out]; exact ho8)
            have HB8 := Lib.hid (HB7.out.trans hb8)
            clear ho8 hb8 HR7 HI7 HC7 HS7 HL7 HB7
            go_wp2
            go_roundw
            case rel => exact ⟨k + 1, _, _, _, by omega, by go_num, rfl, HO8.out, HB8.out⟩
            case measure => simp [intOf]; omega
        · obtain rfl : k = log.length := by omega
          have HF : Hid (ClsAt wr wr.heap.size (.slice ao n cp) (shortened cl log)) := Lib.hid (by rw [HE.out]; exact hr.at)
          clear hr hb
          go_wp2
          go_ret
          exact ⟨_, _, _, rfl, HF.out, HB5.out⟩
end Go.Proofs.YtojjjndhabjhdaaDoor.shortB
namespace Go.Proofs.YtojjjndhabjhdaaDoor.shortC
open Go.ChangeShapes Go.WideShapes Go.ChangeAt Go.RowKit proofP proofQ proofR owns proofA proofC proofG proofI proofJ proofK proofM proofN proofO proofS proofT proofU proofV proofW proofX shortP shortA shortB cls
set_option linter.unusedSimpArgs false
set_option linter.unusedVariables false

/-- a row of truth values -/
def Bools (w : World) (B g n : Nat) (o : Nat → Bool) : Prop := w.ownsRow B 4 1 (.slice (some ⟨g, 0, none⟩) n n) n (obs n o)
theorem Bools.cell {w : World} {B g n : Nat} {o : Nat → Bool} (h : Bools w B g n o) (j : Nat) (hj : j < n) : w.cell? ⟨g, j, none⟩ = some (.bool (o j)) := by
  have := World.ownsRow.cellAt h j (by rw [Nat.mul_one]; exact hj)
  rw [obs_at hj] at this; exact this
theorem Bools.frozen {w : World} {B g n : Nat} {o : Nat → Bool} (h : Bools w B g n o) (j : Nat) : w.frozen? ⟨g, j, none⟩ = false := World.ownsRow.frozenAt h j
theorem Bools.set {w : World} {B g n : Nat} {o : Nat → Bool} (h : Bools w B g n o) {j : Nat} (hj : j < n) (b : Bool) : Bools (w.setCell ⟨g, j, none⟩ (.bool b)) B g n (updN o j b) := by
  have := (World.ownsRow.stored h j (.bool b)).1
  rw [obs_set hj] at this; exact this
theorem Bools.lt {w : World} {B g n : Nat} {o : Nat → Bool} (h : Bools w B g n o) : B ≤ g ∧ g < w.heap.size := World.ownsRow.lt h g rfl
theorem Bools.below {w w' : World} {B g n : Nat} {o : Nat → Bool} (h : Bools w B g n o) (hb : Below w.heap.size w w') : Bools w' B g n o := row_below h hb
theorem Bools.alike {w : World} {B g n : Nat} {o o' : Nat → Bool} (h : Bools w B g n o) (he : ∀ j, j < n → o j = o' j) : Bools w B g n o' := by
  unfold Bools at *
  have : obs n o = obs n o' := by unfold obs; apply List.map_congr_left; intro j hj; rw [he j (List.mem_range.1 hj)]
  rw [← this]; exact h

end Go.Proofs.YtojjjndhabjhdaaDoor.shortC
