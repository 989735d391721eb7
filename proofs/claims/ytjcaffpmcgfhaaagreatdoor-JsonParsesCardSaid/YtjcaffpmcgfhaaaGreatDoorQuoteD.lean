/-
  The contract of the reference's Take (written by gen_quoteD.py).
-/
import Derived.Test.YtjcaffpmcgfhaaaGreatDoorQuoM
namespace Go.Proofs.YtjcaffpmcgfhaaaGreatDoor.quoteD
open Go.ChangeShapes Go.WideShapes Go.ChangeAt Go.RowKit utfP utfQ utfR runesA runesC runesD runesE quoteP quoteA quoteB quoteC errIs errs

def rkV (o : Option (List UInt8 × Nat)) : Value := match o with
  | some q => .tuple #[.string ⟨q.1.toArray⟩, .int .i64 (q.2 : Int)]
  | none => .tuple #[.string ⟨#[]⟩, .int .i64 0]
def RkPost (w : World) (o : Option (List UInt8 × Nat)) (e : Ending) (w' : World) : Prop := e = .returned (rkV o) ∧ Below w.heap.size w w'

theorem mkA (d y : List UInt8) (Y : ByteArray) (h : Y.data.toList = y) : (⟨d.toArray⟩ : ByteArray) ++ Y = ⟨(d ++ y).toArray⟩ := by
  subst h
  have : ((⟨d.toArray⟩ : ByteArray) ++ Y).data = (d ++ Y.data.toList).toArray := by simp [ByteArray.data_append]
  cases h : (⟨d.toArray⟩ : ByteArray) ++ Y with
  | mk d' => rw [h] at this; simp only at this; rw [this]
theorem enc_eb (r : Int) : (enc r).data.toList = eb r := (eb_def r).symm
theorem one_ext (s : ByteArray) (p : Nat) (h : p < s.size) : (s.extract p (p + 1)).data.toList = [s[p]] := by
  rw [ext_take]
  have hl : p < s.data.toList.length := by simpa using h
  rw [List.drop_eq_getElem_cons hl]
  rfl
theorem eb_byte (c : UInt8) (h : c.toNat < 128) : eb ((c.toNat : Nat) : Int) = [c] := by rw [eb_small _ h]; simp

set_option maxRecDepth 100000 in
theorem refTake_no (s : ByteArray) (p : Int) (w : World) (h : p < 0 ∨ (s.size : Int) ≤ p) :
    Calls Tryz.prog 37 #[.string s, .int .i64 p] w (RkPost w none) := by
  by_cases h1 : p < 0
  · clear h
    go_enter Tryz.func37, Tryz.ntmps37
    go_wp2
    go_ret2
    exact ⟨rfl, Below.refl _ _⟩
  · have h2 : (s.size : Int) ≤ p := by omega
    clear h
    go_enter Tryz.func37, Tryz.ntmps37
    go_wp2
    go_ret2
    exact ⟨rfl, Below.refl _ _⟩
set_option maxRecDepth 100000 in
theorem refTake_noq (s : ByteArray) (p : Nat) (w : World) (hp : p < s.size) (h : s[p].toNat ≠ 34) :
    Calls Tryz.prog 37 #[.string s, .int .i64 p] w (RkPost w none) := by
  have q0 : ((s[p].toNat : Int) != 34) = true := by rw [bne_iff_ne]; omega
  clear h
  go_enter Tryz.func37, Tryz.ntmps37
  go_wp2
  go_ret2
  exact ⟨rfl, Below.refl _ _⟩

/-- the reference's Hex, at a place as the walk spells it -/
theorem rhex (s : ByteArray) (p : Nat) (z : Int) (w : World) (hs : s.size ≤ maxLen) (hz : z = (p : Int)) (h : p + 4 ≤ s.size) :
    Calls Tryz.prog 49 #[.string s, .int .i64 z] w fun e w' => e = .returned (.int .i64 (hx s.data.toList p 4)) ∧ w = w' := by
  subst hz; exact ref_at s p w hs h
theorem rhexNo (s : ByteArray) (p : Nat) (z : Int) (w : World) (hs : s.size ≤ maxLen) (hz : z = (p : Int)) (h : s.size < p + 4) :
    Calls Tryz.prog 49 #[.string s, .int .i64 z] w fun e w' => e = .returned (.int .i64 (-1)) ∧ w = w' := by
  subst hz; exact ref_no s p w hs (Or.inr (by omega))
/-- a contract's post with a number or -1 -/
theorem rhexAny (s : ByteArray) (p : Nat) (z : Int) (w : World) (hs : s.size ≤ maxLen) (hz : z = (p : Int)) :
    Calls Tryz.prog 49 #[.string s, .int .i64 z] w fun e w' => e = .returned (.int .i64 (if s.size < p + 4 then -1 else hx s.data.toList p 4)) ∧ w = w' := by
  by_cases h : s.size < p + 4
  · rw [if_pos h]; exact rhexNo s p z w hs hz h
  · rw [if_neg h]; exact rhex s p z w hs hz (by omega)

theorem pc_raw_none {l : List UInt8} (h0 : bt l 0 ≠ 92) (h : (dec l).2 = 0 ∨ (dec l).1 < 32) : pc l = none := by
  unfold pc; rw [if_pos h0, if_pos (h.elim Or.inl (fun x => Or.inr (Or.inl x)))]
theorem pc_raw_some {l : List UInt8} (h0 : bt l 0 ≠ 92) (h34 : bt l 0 ≠ 34) (h : ¬ ((dec l).2 = 0 ∨ (dec l).1 < 32)) : pc l = some (((dec l).1 : Int), (dec l).2) ∧ eb ((dec l).1 : Int) = l.take (dec l).2 := by
  have hz : (dec l).2 ≠ 0 := fun x => h (Or.inl x)
  obtain ⟨q1, q2, q3, q4, q5⟩ := dec_ok (l := l) rfl hz
  have hn : (dec l).1 ≠ 34 := by
    intro e
    rw [e, show ((34 : Nat) : Int) = ((34 : Nat) : Int) from rfl, eb_small 34 (by decide)] at q5
    apply h34
    have : l.head? = some 34 := by
      have h1 : (l.take (dec l).2).head? = some 34 := by rw [← q5]; rfl
      rw [List.head?_take, if_neg hz] at h1; exact h1
    unfold bt
    cases l with
    | nil => cases this
    | cons a t => have := Option.some.inj this; rw [this]; rfl
  refine ⟨?_, q5⟩
  unfold pc; rw [if_pos h0, if_neg (by omega)]
theorem pc_let {l : List UInt8} {n : Nat} (h0 : bt l 0 = 92) (h2 : 2 ≤ l.length) (h1 : letr (bt l 1) = some n) : pc l = some ((n : Int), 2) := by
  have h3 : bt l 1 ≠ 117 := by intro e; rw [e] at h1; cases h1
  unfold pc; rw [if_neg (by omega), if_neg (by omega), if_neg h3, h1]; rfl
theorem pc_letno {l : List UInt8} (h0 : bt l 0 = 92) (h3 : bt l 1 ≠ 117) (h1 : letr (bt l 1) = none) : pc l = none := by
  unfold pc; rw [if_neg (by omega), if_neg h3, h1]; split <;> rfl
theorem pc_short {l : List UInt8} (h0 : bt l 0 = 92) (h2 : l.length < 2) : pc l = none := by
  unfold pc; rw [if_neg (by omega), if_pos h2]
theorem pc_u {l : List UInt8} (h0 : bt l 0 = 92) (h2 : 2 ≤ l.length) (h1 : bt l 1 = 117) : pc l = hexd l := by
  unfold pc; rw [if_neg (by omega), if_neg (by omega), if_pos h1]

set_option maxRecDepth 100000 in
set_option maxHeartbeats 4000000 in
theorem refTake_q (s : ByteArray) (a : Nat) (w : World) (hs : s.size ≤ 100000) (hp : a < s.size) (h : s[a].toNat = 34) :
    Calls Tryz.prog 37 #[.string s, .int .i64 a] w (RkPost w ((tk (s.data.toList.drop (a + 1))).map fun q => (q.1, q.2 + 1))) := by
  have q0 : ((s[a].toNat : Int) != 34) = false := by rw [h]; rfl
  have d1 : decide ((a : Int) < 0) = false := by simp
  have d2 : decide (s.size ≤ a) = false := by simp; omega
  have hm : s.size ≤ maxLen := by unfold maxLen; omega
  clear h
  go_enter Tryz.func37, Tryz.ntmps37
  go_wp2
  go_loopw [6, 7] (fun o z wr => ∃ (p : Nat) (d : List UInt8), a + 1 ≤ p ∧ p ≤ s.size ∧ z = .int .i64 p ∧ o = .string ⟨d.toArray⟩ ∧ d.length ≤ p ∧ Below w.heap.size w wr ∧ Hid (tk (s.data.toList.drop (a + 1)) = (tk (s.data.toList.drop p)).map fun x => (d ++ x.1, (p - (a + 1)) + x.2))) (fun _ z _ => s.size - (intOf z).toNat)
  case atStart => exact ⟨a + 1, [], Nat.le_refl _, by omega, by go_num, rfl, Nat.zero_le _, Below.refl _ _, Lib.hid (by cases tk (s.data.toList.drop (a + 1)) <;> simp)⟩
  case round =>
    obtain ⟨p, d, hap, hps, rfl, rfl, hd, hb, htk⟩ := hrel
    have hsz := hb.size
    have HB := Lib.hid hb
    have hX : (⟨d.toArray⟩ : ByteArray).size ≤ 100000 := by show d.toArray.size ≤ _; simp; omega
    have hll : (s.data.toList.drop p).length = s.size - p := by simp
    clear hb d1 d2 q0
    by_cases hlt : p < s.size
    · have hb0 := bt_get s p 0 (by omega)
      simp only [Nat.add_zero] at hb0
      by_cases h34 : s[p].toNat = 34
      · have q1 : ((s[p].toNat : Int) == 34) = true := by rw [h34]; rfl
        have hfin := Lib.hid (tk_fin htk.out (by simp; omega) (by rw [hb0]; exact h34))
        clear hb0 h34 htk hll
        generalize hXX : (⟨d.toArray⟩ : ByteArray) = X at *
        have HXX := Lib.hid hXX
        clear hXX
        go_wp2
        go_ret2
        refine ⟨?_, HB.out⟩
        rw [hfin.out]
        show _ = Ending.returned (.tuple #[.string ⟨d.toArray⟩, .int .i64 ((p - (a + 1) + 1 + 1 : Nat) : Int)])
        rw [show ((p - (a + 1) + 1 + 1 : Nat) : Int) = (p : Int) + 1 - a by omega, HXX.out]
        rfl
      have q1 : ((s[p].toNat : Int) == 34) = false := by rw [beq_eq_false_iff_ne]; omega
      have hz : bt (s.data.toList.drop p) 0 ≠ 34 := by rw [hb0]; exact h34
      by_cases h92 : s[p].toNat ≠ 92
      · have q2 : ((s[p].toNat : Int) != 92) = true := by rw [bne_iff_ne]; omega
        have HD := refdec_at s p wr hm hlt
        unfold decP at HD
        have hbd := pointsA.dec_bd (l := s.data.toList.drop p)
        have hbl := dec_le (l := s.data.toList.drop p)
        have hno := Lib.hid (fun hx => tk_fail htk.out hz (pc_raw_none (by rw [hb0]; exact h92) hx))
        have hgo := Lib.hid (fun hx => tk_go hap htk.out hz (pc_raw_some (by rw [hb0]; exact h92) hz hx).1)
        have hye := Lib.hid (fun hx => (pc_raw_some (l := s.data.toList.drop p) (by rw [hb0]; exact h92) hz hx).2)
        generalize dec (s.data.toList.drop p) = q at *
        obtain ⟨n, b⟩ := q
        simp only at HD hbd hbl hno hgo hye
        have HD := Lib.hid HD
        rw [hll] at hbl
        have hb4 := hbd.2
        have hn4 : (n : Int) ≤ 1114111 := by omega
        clear hb0 h34 h92 htk hz hll hbd
        by_cases hx : b = 0 ∨ n < 32
        · have hN := Lib.hid (hno.out hx)
          by_cases hx1 : b = 0
          · have q3 : ((b : Int) == 0) = true := by rw [hx1]; rfl
            clear hx hx1 hno hgo hye
            go_wp2_with fail
            refine HD.out.mono ?_
            rintro e w1 ⟨rfl, hb1⟩
            have HB1 := Lib.hid (HB.out.trans (hb1.mono hsz))
            clear hb1
            go_wp2
            go_ret2
            exact ⟨by rw [hN.out]; rfl, HB1.out⟩
          · have q3 : ((b : Int) == 0) = false := by rw [beq_eq_false_iff_ne]; omega
            have q4 : (n : Int) < 32 := by omega
            clear hx hx1 hno hgo hye
            go_wp2_with fail
            refine HD.out.mono ?_
            rintro e w1 ⟨rfl, hb1⟩
            have HB1 := Lib.hid (HB.out.trans (hb1.mono hsz))
            clear hb1
            go_wp2
            go_ret2
            exact ⟨by rw [hN.out]; rfl, HB1.out⟩
        · have hN := Lib.hid (hgo.out hx)
          have hY := Lib.hid (hye.out hx)
          have q3 : ((b : Int) == 0) = false := by rw [beq_eq_false_iff_ne]; omega
          have q4 : ¬ (n : Int) < 32 := by omega
          have hb1' : 1 ≤ b := by omega
          have d4 : p + b ≤ s.size := by omega
          have d5 : (p : Int) + b ≤ s.size := by omega
          have HS : Hid ((⟨d.toArray⟩ : ByteArray) ++ s.extract p (p + b) = ⟨(d ++ eb (n : Int)).toArray⟩) := Lib.hid (mkA d _ _ (by rw [ext_take, hY.out]))
          have hel : Hid ((eb (n : Int)).length = b) := Lib.hid (by rw [hY.out, List.length_take, List.length_drop, Array.length_toList]; have : s.data.size = s.size := rfl; omega)
          generalize (⟨d.toArray⟩ : ByteArray) = X at *
          have hes : (s.extract p (p + b)).size ≤ 4 := by rw [ByteArray.size_extract]; omega
          clear hx hno hgo hye
          go_wp2_with fail
          refine HD.out.mono ?_
          rintro e w1 ⟨rfl, hb1⟩
          have HB1 := Lib.hid (HB.out.trans (hb1.mono hsz))
          clear hb1
          go_wp2
          go_roundw
          case rel => exact ⟨p + b, d ++ eb (n : Int), by omega, by omega, by go_num, by rw [← HS.out], by rw [List.length_append, hel.out]; omega, HB1.out, hN⟩
          case measure => simp [intOf]; omega
      have h92' : s[p].toNat = 92 := by omega
      have q2 : ((s[p].toNat : Int) != 92) = false := by rw [h92']; rfl
      have hb0' : bt (s.data.toList.drop p) 0 = 92 := by rw [hb0]; exact h92'
      clear hb0 h34 h92 h92'
      by_cases hp1 : p + 1 < s.size
      · have q3 : ((p : Int) + 1 == (s.size : Int)) = false := by rw [beq_eq_false_iff_ne]; omega
        have hb1 := bt_get s p 1 hp1
        have d7 : (p : Int) + 2 ≤ s.size := by omega
        have d8 : p + 2 ≤ s.size := by omega
        have hex : (s.extract (p + 1) (p + 2)).data.toList = [s[p + 1]] := one_ext s (p + 1) hp1
        have hes : (s.extract (p + 1) (p + 2)).size ≤ 1 := by rw [ByteArray.size_extract]; omega
        by_cases hv : s[p + 1].toNat = 34
        · have hpc : pc (s.data.toList.drop p) = some (((34 : Nat) : Int), 2) := pc_let hb0' (by omega) (by rw [hb1, hv]; rfl)
          have hN := Lib.hid (tk_go hap htk.out hz hpc)
          have q0 : ((s[p + 1].toNat : Int) == 34) = true := by rw [hv]; rfl
          have q1 : ((s[p + 1].toNat : Int) == 92) = false := by rw [hv]; rfl
          have q2 : ((s[p + 1].toNat : Int) == 47) = false := by rw [hv]; rfl
          have q3 : ((s[p + 1].toNat : Int) == 98) = false := by rw [hv]; rfl
          have q4 : ((s[p + 1].toNat : Int) == 102) = false := by rw [hv]; rfl
          have q5 : ((s[p + 1].toNat : Int) == 110) = false := by rw [hv]; rfl
          have q6 : ((s[p + 1].toNat : Int) == 114) = false := by rw [hv]; rfl
          have q7 : ((s[p + 1].toNat : Int) == 116) = false := by rw [hv]; rfl
          have q8 : ((s[p + 1].toNat : Int) == 117) = false := by rw [hv]; rfl
          have hbb : eb ((34 : Nat) : Int) = [34] := eb_small 34 (by decide)
          have hc1 : s[p + 1] = 34 := UInt8.toNat_inj.1 (by rw [hv]; rfl)
          have HS : Hid ((⟨d.toArray⟩ : ByteArray) ++ s.extract (p + 1) (p + 2) = ⟨(d ++ eb ((34 : Nat) : Int)).toArray⟩) := Lib.hid (mkA d _ _ (by rw [hbb, hex, hc1]))
          have hel : Hid ((eb ((34 : Nat) : Int)).length = 1) := Lib.hid (by rw [hbb]; rfl)
          generalize (⟨d.toArray⟩ : ByteArray) = X at *
          clear hv hc1 hbb hpc hb0' hb1 hex htk hz hll
          go_wp2
          go_roundw
          case rel => exact ⟨p + 2, d ++ eb ((34 : Nat) : Int), by omega, by omega, by go_num, by rw [← HS.out], by rw [List.length_append, hel.out]; omega, HB.out, hN⟩
          case measure => simp [intOf]; omega
        have nv34 : s[p + 1].toNat ≠ 34 := hv
        clear hv
        by_cases hv : s[p + 1].toNat = 92
        · have hpc : pc (s.data.toList.drop p) = some (((92 : Nat) : Int), 2) := pc_let hb0' (by omega) (by rw [hb1, hv]; rfl)
          have hN := Lib.hid (tk_go hap htk.out hz hpc)
          have q0 : ((s[p + 1].toNat : Int) == 34) = false := by rw [hv]; rfl
          have q1 : ((s[p + 1].toNat : Int) == 92) = true := by rw [hv]; rfl
          have q2 : ((s[p + 1].toNat : Int) == 47) = false := by rw [hv]; rfl
          have q3 : ((s[p + 1].toNat : Int) == 98) = false := by rw [hv]; rfl
          have q4 : ((s[p + 1].toNat : Int) == 102) = false := by rw [hv]; rfl
          have q5 : ((s[p + 1].toNat : Int) == 110) = false := by rw [hv]; rfl
          have q6 : ((s[p + 1].toNat : Int) == 114) = false := by rw [hv]; rfl
          have q7 : ((s[p + 1].toNat : Int) == 116) = false := by rw [hv]; rfl
          have q8 : ((s[p + 1].toNat : Int) == 117) = false := by rw [hv]; rfl
          have hbb : eb ((92 : Nat) : Int) = [92] := eb_small 92 (by decide)
          have hc1 : s[p + 1] = 92 := UInt8.toNat_inj.1 (by rw [hv]; rfl)
          have HS : Hid ((⟨d.toArray⟩ : ByteArray) ++ s.extract (p + 1) (p + 2) = ⟨(d ++ eb ((92 : Nat) : Int)).toArray⟩) := Lib.hid (mkA d _ _ (by rw [hbb, hex, hc1]))
          have hel : Hid ((eb ((92 : Nat) : Int)).length = 1) := Lib.hid (by rw [hbb]; rfl)
          generalize (⟨d.toArray⟩ : ByteArray) = X at *
          clear hv hc1 hbb hpc hb0' hb1 hex htk hz hll
          go_wp2
          go_roundw
          case rel => exact ⟨p + 2, d ++ eb ((92 : Nat) : Int), by omega, by omega, by go_num, by rw [← HS.out], by rw [List.length_append, hel.out]; omega, HB.out, hN⟩
          case measure => simp [intOf]; omega
        have nv92 : s[p + 1].toNat ≠ 92 := hv
        clear hv
        by_cases hv : s[p + 1].toNat = 47
        · have hpc : pc (s.data.toList.drop p) = some (((47 : Nat) : Int), 2) := pc_let hb0' (by omega) (by rw [hb1, hv]; rfl)
          have hN := Lib.hid (tk_go hap htk.out hz hpc)
          have q0 : ((s[p + 1].toNat : Int) == 34) = false := by rw [hv]; rfl
          have q1 : ((s[p + 1].toNat : Int) == 92) = false := by rw [hv]; rfl
          have q2 : ((s[p + 1].toNat : Int) == 47) = true := by rw [hv]; rfl
          have q3 : ((s[p + 1].toNat : Int) == 98) = false := by rw [hv]; rfl
          have q4 : ((s[p + 1].toNat : Int) == 102) = false := by rw [hv]; rfl
          have q5 : ((s[p + 1].toNat : Int) == 110) = false := by rw [hv]; rfl
          have q6 : ((s[p + 1].toNat : Int) == 114) = false := by rw [hv]; rfl
          have q7 : ((s[p + 1].toNat : Int) == 116) = false := by rw [hv]; rfl
          have q8 : ((s[p + 1].toNat : Int) == 117) = false := by rw [hv]; rfl
          have hbb : eb ((47 : Nat) : Int) = [47] := eb_small 47 (by decide)
          have hc1 : s[p + 1] = 47 := UInt8.toNat_inj.1 (by rw [hv]; rfl)
          have HS : Hid ((⟨d.toArray⟩ : ByteArray) ++ s.extract (p + 1) (p + 2) = ⟨(d ++ eb ((47 : Nat) : Int)).toArray⟩) := Lib.hid (mkA d _ _ (by rw [hbb, hex, hc1]))
          have hel : Hid ((eb ((47 : Nat) : Int)).length = 1) := Lib.hid (by rw [hbb]; rfl)
          generalize (⟨d.toArray⟩ : ByteArray) = X at *
          clear hv hc1 hbb hpc hb0' hb1 hex htk hz hll
          go_wp2
          go_roundw
          case rel => exact ⟨p + 2, d ++ eb ((47 : Nat) : Int), by omega, by omega, by go_num, by rw [← HS.out], by rw [List.length_append, hel.out]; omega, HB.out, hN⟩
          case measure => simp [intOf]; omega
        have nv47 : s[p + 1].toNat ≠ 47 := hv
        clear hv
        by_cases hv : s[p + 1].toNat = 98
        · have hpc : pc (s.data.toList.drop p) = some (((8 : Nat) : Int), 2) := pc_let hb0' (by omega) (by rw [hb1, hv]; rfl)
          have hN := Lib.hid (tk_go hap htk.out hz hpc)
          have q0 : ((s[p + 1].toNat : Int) == 34) = false := by rw [hv]; rfl
          have q1 : ((s[p + 1].toNat : Int) == 92) = false := by rw [hv]; rfl
          have q2 : ((s[p + 1].toNat : Int) == 47) = false := by rw [hv]; rfl
          have q3 : ((s[p + 1].toNat : Int) == 98) = true := by rw [hv]; rfl
          have q4 : ((s[p + 1].toNat : Int) == 102) = false := by rw [hv]; rfl
          have q5 : ((s[p + 1].toNat : Int) == 110) = false := by rw [hv]; rfl
          have q6 : ((s[p + 1].toNat : Int) == 114) = false := by rw [hv]; rfl
          have q7 : ((s[p + 1].toNat : Int) == 116) = false := by rw [hv]; rfl
          have q8 : ((s[p + 1].toNat : Int) == 117) = false := by rw [hv]; rfl
          have hbb : eb ((8 : Nat) : Int) = [8] := eb_small 8 (by decide)
          have hc1 : s[p + 1] = 98 := UInt8.toNat_inj.1 (by rw [hv]; rfl)
          have HS : Hid ((⟨d.toArray⟩ : ByteArray) ++ ({ data := #[8] } : ByteArray) = ⟨(d ++ eb ((8 : Nat) : Int)).toArray⟩) := Lib.hid (mkA d _ _ (by rw [hbb]))
          have hel : Hid ((eb ((8 : Nat) : Int)).length = 1) := Lib.hid (by rw [hbb]; rfl)
          generalize (⟨d.toArray⟩ : ByteArray) = X at *
          clear hv hc1 hbb hpc hb0' hb1 hex htk hz hll
          go_wp2
          go_roundw
          case rel => exact ⟨p + 2, d ++ eb ((8 : Nat) : Int), by omega, by omega, by go_num, by rw [← HS.out], by rw [List.length_append, hel.out]; omega, HB.out, hN⟩
          case measure => simp [intOf]; omega
        have nv98 : s[p + 1].toNat ≠ 98 := hv
        clear hv
        by_cases hv : s[p + 1].toNat = 102
        · have hpc : pc (s.data.toList.drop p) = some (((12 : Nat) : Int), 2) := pc_let hb0' (by omega) (by rw [hb1, hv]; rfl)
          have hN := Lib.hid (tk_go hap htk.out hz hpc)
          have q0 : ((s[p + 1].toNat : Int) == 34) = false := by rw [hv]; rfl
          have q1 : ((s[p + 1].toNat : Int) == 92) = false := by rw [hv]; rfl
          have q2 : ((s[p + 1].toNat : Int) == 47) = false := by rw [hv]; rfl
          have q3 : ((s[p + 1].toNat : Int) == 98) = false := by rw [hv]; rfl
          have q4 : ((s[p + 1].toNat : Int) == 102) = true := by rw [hv]; rfl
          have q5 : ((s[p + 1].toNat : Int) == 110) = false := by rw [hv]; rfl
          have q6 : ((s[p + 1].toNat : Int) == 114) = false := by rw [hv]; rfl
          have q7 : ((s[p + 1].toNat : Int) == 116) = false := by rw [hv]; rfl
          have q8 : ((s[p + 1].toNat : Int) == 117) = false := by rw [hv]; rfl
          have hbb : eb ((12 : Nat) : Int) = [12] := eb_small 12 (by decide)
          have hc1 : s[p + 1] = 102 := UInt8.toNat_inj.1 (by rw [hv]; rfl)
          have HS : Hid ((⟨d.toArray⟩ : ByteArray) ++ ({ data := #[12] } : ByteArray) = ⟨(d ++ eb ((12 : Nat) : Int)).toArray⟩) := Lib.hid (mkA d _ _ (by rw [hbb]))
          have hel : Hid ((eb ((12 : Nat) : Int)).length = 1) := Lib.hid (by rw [hbb]; rfl)
          generalize (⟨d.toArray⟩ : ByteArray) = X at *
          clear hv hc1 hbb hpc hb0' hb1 hex htk hz hll
          go_wp2
          go_roundw
          case rel => exact ⟨p + 2, d ++ eb ((12 : Nat) : Int), by omega, by omega, by go_num, by rw [← HS.out], by rw [List.length_append, hel.out]; omega, HB.out, hN⟩
          case measure => simp [intOf]; omega
        have nv102 : s[p + 1].toNat ≠ 102 := hv
        clear hv
        by_cases hv : s[p + 1].toNat = 110
        · have hpc : pc (s.data.toList.drop p) = some (((10 : Nat) : Int), 2) := pc_let hb0' (by omega) (by rw [hb1, hv]; rfl)
          have hN := Lib.hid (tk_go hap htk.out hz hpc)
          have q0 : ((s[p + 1].toNat : Int) == 34) = false := by rw [hv]; rfl
          have q1 : ((s[p + 1].toNat : Int) == 92) = false := by rw [hv]; rfl
          have q2 : ((s[p + 1].toNat : Int) == 47) = false := by rw [hv]; rfl
          have q3 : ((s[p + 1].toNat : Int) == 98) = false := by rw [hv]; rfl
          have q4 : ((s[p + 1].toNat : Int) == 102) = false := by rw [hv]; rfl
          have q5 : ((s[p + 1].toNat : Int) == 110) = true := by rw [hv]; rfl
          have q6 : ((s[p + 1].toNat : Int) == 114) = false := by rw [hv]; rfl
          have q7 : ((s[p + 1].toNat : Int) == 116) = false := by rw [hv]; rfl
          have q8 : ((s[p + 1].toNat : Int) == 117) = false := by rw [hv]; rfl
          have hbb : eb ((10 : Nat) : Int) = [10] := eb_small 10 (by decide)
          have hc1 : s[p + 1] = 110 := UInt8.toNat_inj.1 (by rw [hv]; rfl)
          have HS : Hid ((⟨d.toArray⟩ : ByteArray) ++ ({ data := #[10] } : ByteArray) = ⟨(d ++ eb ((10 : Nat) : Int)).toArray⟩) := Lib.hid (mkA d _ _ (by rw [hbb]))
          have hel : Hid ((eb ((10 : Nat) : Int)).length = 1) := Lib.hid (by rw [hbb]; rfl)
          generalize (⟨d.toArray⟩ : ByteArray) = X at *
          clear hv hc1 hbb hpc hb0' hb1 hex htk hz hll
          go_wp2
          go_roundw
          case rel => exact ⟨p + 2, d ++ eb ((10 : Nat) : Int), by omega, by omega, by go_num, by rw [← HS.out], by rw [List.length_append, hel.out]; omega, HB.out, hN⟩
          case measure => simp [intOf]; omega
        have nv110 : s[p + 1].toNat ≠ 110 := hv
        clear hv
        by_cases hv : s[p + 1].toNat = 114
        · have hpc : pc (s.data.toList.drop p) = some (((13 : Nat) : Int), 2) := pc_let hb0' (by omega) (by rw [hb1, hv]; rfl)
          have hN := Lib.hid (tk_go hap htk.out hz hpc)
          have q0 : ((s[p + 1].toNat : Int) == 34) = false := by rw [hv]; rfl
          have q1 : ((s[p + 1].toNat : Int) == 92) = false := by rw [hv]; rfl
          have q2 : ((s[p + 1].toNat : Int) == 47) = false := by rw [hv]; rfl
          have q3 : ((s[p + 1].toNat : Int) == 98) = false := by rw [hv]; rfl
          have q4 : ((s[p + 1].toNat : Int) == 102) = false := by rw [hv]; rfl
          have q5 : ((s[p + 1].toNat : Int) == 110) = false := by rw [hv]; rfl
          have q6 : ((s[p + 1].toNat : Int) == 114) = true := by rw [hv]; rfl
          have q7 : ((s[p + 1].toNat : Int) == 116) = false := by rw [hv]; rfl
          have q8 : ((s[p + 1].toNat : Int) == 117) = false := by rw [hv]; rfl
          have hbb : eb ((13 : Nat) : Int) = [13] := eb_small 13 (by decide)
          have hc1 : s[p + 1] = 114 := UInt8.toNat_inj.1 (by rw [hv]; rfl)
          have HS : Hid ((⟨d.toArray⟩ : ByteArray) ++ ({ data := #[13] } : ByteArray) = ⟨(d ++ eb ((13 : Nat) : Int)).toArray⟩) := Lib.hid (mkA d _ _ (by rw [hbb]))
          have hel : Hid ((eb ((13 : Nat) : Int)).length = 1) := Lib.hid (by rw [hbb]; rfl)
          generalize (⟨d.toArray⟩ : ByteArray) = X at *
          clear hv hc1 hbb hpc hb0' hb1 hex htk hz hll
          go_wp2
          go_roundw
          case rel => exact ⟨p + 2, d ++ eb ((13 : Nat) : Int), by omega, by omega, by go_num, by rw [← HS.out], by rw [List.length_append, hel.out]; omega, HB.out, hN⟩
          case measure => simp [intOf]; omega
        have nv114 : s[p + 1].toNat ≠ 114 := hv
        clear hv
        by_cases hv : s[p + 1].toNat = 116
        · have hpc : pc (s.data.toList.drop p) = some (((9 : Nat) : Int), 2) := pc_let hb0' (by omega) (by rw [hb1, hv]; rfl)
          have hN := Lib.hid (tk_go hap htk.out hz hpc)
          have q0 : ((s[p + 1].toNat : Int) == 34) = false := by rw [hv]; rfl
          have q1 : ((s[p + 1].toNat : Int) == 92) = false := by rw [hv]; rfl
          have q2 : ((s[p + 1].toNat : Int) == 47) = false := by rw [hv]; rfl
          have q3 : ((s[p + 1].toNat : Int) == 98) = false := by rw [hv]; rfl
          have q4 : ((s[p + 1].toNat : Int) == 102) = false := by rw [hv]; rfl
          have q5 : ((s[p + 1].toNat : Int) == 110) = false := by rw [hv]; rfl
          have q6 : ((s[p + 1].toNat : Int) == 114) = false := by rw [hv]; rfl
          have q7 : ((s[p + 1].toNat : Int) == 116) = true := by rw [hv]; rfl
          have q8 : ((s[p + 1].toNat : Int) == 117) = false := by rw [hv]; rfl
          have hbb : eb ((9 : Nat) : Int) = [9] := eb_small 9 (by decide)
          have hc1 : s[p + 1] = 116 := UInt8.toNat_inj.1 (by rw [hv]; rfl)
          have HS : Hid ((⟨d.toArray⟩ : ByteArray) ++ ({ data := #[9] } : ByteArray) = ⟨(d ++ eb ((9 : Nat) : Int)).toArray⟩) := Lib.hid (mkA d _ _ (by rw [hbb]))
          have hel : Hid ((eb ((9 : Nat) : Int)).length = 1) := Lib.hid (by rw [hbb]; rfl)
          generalize (⟨d.toArray⟩ : ByteArray) = X at *
          clear hv hc1 hbb hpc hb0' hb1 hex htk hz hll
          go_wp2
          go_roundw
          case rel => exact ⟨p + 2, d ++ eb ((9 : Nat) : Int), by omega, by omega, by go_num, by rw [← HS.out], by rw [List.length_append, hel.out]; omega, HB.out, hN⟩
          case measure => simp [intOf]; omega
        have nv116 : s[p + 1].toNat ≠ 116 := hv
        clear hv
        by_cases hv : s[p + 1].toNat = 117
        · have hpc : pc (s.data.toList.drop p) = hexd (s.data.toList.drop p) := pc_u hb0' (by omega) (by rw [hb1]; exact hv)
          have q0 : ((s[p + 1].toNat : Int) == 34) = false := by rw [hv]; rfl
          have q1 : ((s[p + 1].toNat : Int) == 92) = false := by rw [hv]; rfl
          have q2 : ((s[p + 1].toNat : Int) == 47) = false := by rw [hv]; rfl
          have q3 : ((s[p + 1].toNat : Int) == 98) = false := by rw [hv]; rfl
          have q4 : ((s[p + 1].toNat : Int) == 102) = false := by rw [hv]; rfl
          have q5 : ((s[p + 1].toNat : Int) == 110) = false := by rw [hv]; rfl
          have q6 : ((s[p + 1].toNat : Int) == 114) = false := by rw [hv]; rfl
          have q7 : ((s[p + 1].toNat : Int) == 116) = false := by rw [hv]; rfl
          have q8 : ((s[p + 1].toNat : Int) == 117) = true := by rw [hv]; rfl
          clear hv hb0' hb1 hex hes nv34 nv92 nv47 nv98 nv102 nv110 nv114 nv116
          have e2 : hx (s.data.toList.drop p) 2 4 = hx s.data.toList (p + 2) 4 := hx_drop _ _ _ _
          have e8 : hx (s.data.toList.drop p) 8 4 = hx s.data.toList (p + 8) 4 := hx_drop _ _ _ _
          have c6 : bt (s.data.toList.drop p) 6 = bt s.data.toList (p + 6) := bt_drop _ _ _
          have c7 : bt (s.data.toList.drop p) 7 = bt s.data.toList (p + 7) := bt_drop _ _ _
          have b2 := hx_bd s.data.toList (p + 2) 4 (Nat.le_refl _)
          have b8 := hx_bd s.data.toList (p + 8) 4 (Nat.le_refl _)
          have HX := fun z w hz => rhexAny s (p + 2) z w hm hz
          by_cases h1 : s.size < p + 2 + 4 ∨ hx s.data.toList (p + 2) 4 < 0
          · have hr : pc (s.data.toList.drop p) = none := by rw [hpc]; unfold hexd; rw [e2, if_pos (by omega)]
            have hN := Lib.hid (tk_fail htk.out hz hr)
            have hneg : (if s.size < p + 2 + 4 then (-1 : Int) else hx s.data.toList (p + 2) 4) < 0 := by split <;> omega
            generalize (if s.size < p + 2 + 4 then (-1 : Int) else hx s.data.toList (p + 2) 4) = n at *
            have HX := Lib.hid HX
            clear e2 e8 c6 c7 b2 b8 h1 hr hpc htk hz hll
            go_wp2_with fail
            refine (HX.out _ _ (by omega)).mono ?_
            rintro e w' ⟨rfl, rfl⟩
            go_wp2
            go_ret2
            exact ⟨by rw [hN.out]; rfl, HB.out⟩
          rw [if_neg (by omega)] at HX
          have HX := Lib.hid HX
          by_cases h2 : Pt (hx s.data.toList (p + 2) 4)
          · have hr : pc (s.data.toList.drop p) = some (hx s.data.toList (p + 2) 4, 6) := by rw [hpc]; unfold hexd; rw [e2, if_neg (by omega), if_pos h2]
            have hN := Lib.hid (tk_go hap htk.out hz hr)
            have hok := pc_ok hr
            rw [hll] at hok
            obtain ⟨_, _, _, p4, _, p6, p7⟩ := hok
            have n0 : ¬ hx s.data.toList (p + 2) 4 < 0 := by omega
            have d9 : p + 6 ≤ s.size := by omega
            generalize hx s.data.toList (p + 2) 4 = n at *
            have HS : Hid ((⟨d.toArray⟩ : ByteArray) ++ enc n = ⟨(d ++ eb n).toArray⟩) := Lib.hid (mkA d _ _ (enc_eb n))
            have hez : (enc n).size ≤ 4 := by have := p7; rw [eb_len] at this; exact this
            generalize (⟨d.toArray⟩ : ByteArray) = X at *
            clear e2 e8 c6 c7 b8 h1 hr hpc htk hz hll p4 p7
            go_wp2_with fail
            refine (HX.out _ _ (by omega)).mono ?_
            rintro e w' ⟨rfl, rfl⟩
            go_wp2_with fail
            refine (point_yes _ _ h2).mono ?_
            rintro e w' ⟨rfl, rfl⟩
            go_wp2_with fail
            refine (encR_yes _ _ h2).mono ?_
            rintro e w1 ⟨rfl, hb1⟩
            have HB1 := Lib.hid (HB.out.trans (hb1.mono hsz))
            clear hb1
            go_wp2
            go_roundw
            case rel => exact ⟨p + 6, d ++ eb n, by omega, by omega, by go_num, by rw [← HS.out], by rw [List.length_append]; omega, HB1.out, hN⟩
            case measure => simp [intOf]; omega
          have hge : 55296 ≤ hx s.data.toList (p + 2) 4 := by unfold Pt at h2; omega
          by_cases h3 : p + 7 < s.size ∧ bt s.data.toList (p + 6) = 92 ∧ bt s.data.toList (p + 7) = 117
          · obtain ⟨g1, g2, g3⟩ := h3
            have r6 : bt s.data.toList (p + 6) = s[p + 6].toNat := by unfold bt; rw [bget s _ (by omega)]
            have r7 : bt s.data.toList (p + 7) = s[p + 7].toNat := by unfold bt; rw [bget s _ g1]
            have t6 : ((s[p + 6].toNat : Int) != 92) = false := by rw [← r6, g2]; rfl
            have t7 : ((s[p + 7].toNat : Int) != 117) = false := by rw [← r7, g3]; rfl
            have HX8 := fun z w hz => rhexAny s (p + 8) z w hm hz
            have n0 : ¬ hx s.data.toList (p + 2) 4 < 0 := by omega
            have l7 : ¬ (s.size : Int) ≤ (p : Int) + 7 := by omega
            by_cases h5 : ¬ s.size < p + 8 + 4 ∧ hx s.data.toList (p + 2) 4 < 56320 ∧ 56320 ≤ hx s.data.toList (p + 8) 4 ∧ hx s.data.toList (p + 8) 4 ≤ 57343
            · obtain ⟨k0, k1, k2, k3⟩ := h5
              rw [if_neg k0] at HX8
              have HX8 := Lib.hid HX8
              have hr : pc (s.data.toList.drop p) = some (65536 + 1024 * (hx s.data.toList (p + 2) 4 - 55296) + (hx s.data.toList (p + 8) 4 - 56320), 12) := by
                rw [hpc]; unfold hexd; rw [e2, e8, if_neg (by omega), if_neg h2, if_neg (by omega), if_pos ⟨hge, k1, k2, k3⟩]
              have hN := Lib.hid (tk_go hap htk.out hz hr)
              have hok := pc_ok hr
              rw [hll] at hok
              obtain ⟨hP, _, _, p4, _, p6, p7⟩ := hok
              have d9 : p + 12 ≤ s.size := by omega
              clear e2 e8 c6 c7 hr hpc htk hz hll r6 r7 g2 g3
              generalize hx s.data.toList (p + 2) 4 = n at *
              generalize hx s.data.toList (p + 8) 4 = m at *
              have hval : 65536 + 1024 * (n - 55296) + m - 56320 = 65536 + 1024 * (n - 55296) + (m - 56320) := by omega
              have HEn : Hid (∀ w, Calls Tryz.prog 51 #[.int .i64 (65536 + 1024 * (n - 55296) + m - 56320)] w fun e w' => e = .returned (.string (enc (65536 + 1024 * (n - 55296) + (m - 56320)))) ∧ Below w.heap.size w w') := Lib.hid (fun w => by rw [hval]; exact encR_yes _ w hP)
              have HS : Hid ((⟨d.toArray⟩ : ByteArray) ++ enc (65536 + 1024 * (n - 55296) + (m - 56320)) = ⟨(d ++ eb (65536 + 1024 * (n - 55296) + (m - 56320))).toArray⟩) := Lib.hid (mkA d _ _ (enc_eb _))
              have hez : (enc (65536 + 1024 * (n - 55296) + (m - 56320))).size ≤ 4 := by have := p7; rw [eb_len] at this; exact this
              generalize (⟨d.toArray⟩ : ByteArray) = X at *
              generalize enc (65536 + 1024 * (n - 55296) + (m - 56320)) = E at *
              generalize eb (65536 + 1024 * (n - 55296) + (m - 56320)) = eB at *
              clear hP hval p4
              go_wp2_with fail
              refine (HX.out _ _ (by omega)).mono ?_
              rintro e w' ⟨rfl, rfl⟩
              go_wp2_with fail
              refine (point_no _ _ h2).mono ?_
              rintro e w' ⟨rfl, rfl⟩
              go_wp2_with fail
              refine (HX8.out _ _ (by omega)).mono ?_
              rintro e w' ⟨rfl, rfl⟩
              go_wp2_with fail
              refine (HEn.out _).mono ?_
              rintro e w1 ⟨rfl, hb1⟩
              have HB1 := Lib.hid (HB.out.trans (hb1.mono hsz))
              clear hb1
              go_wp2
              go_roundw
              case rel => exact ⟨p + 12, d ++ eB, by omega, by omega, by go_num, by rw [← HS.out], by rw [List.length_append]; omega, HB1.out, hN⟩
              case measure => simp [intOf]; omega
            · have hr : pc (s.data.toList.drop p) = none := by
                rw [hpc]; unfold hexd; rw [e2, e8, if_neg (by omega), if_neg h2]
                by_cases k : (s.data.toList.drop p).length < 12 ∨ bt (s.data.toList.drop p) 6 ≠ 92 ∨ bt (s.data.toList.drop p) 7 ≠ 117 ∨ hx s.data.toList (p + 8) 4 < 0
                · rw [if_pos k]
                · rw [if_neg k, if_neg (by rw [hll] at k; omega)]
              have hN := Lib.hid (tk_fail htk.out hz hr)
              have hm8 : (if s.size < p + 8 + 4 then (-1 : Int) else hx s.data.toList (p + 8) 4) ≤ 65535 ∧ (56320 ≤ hx s.data.toList (p + 2) 4 ∨ (if s.size < p + 8 + 4 then (-1 : Int) else hx s.data.toList (p + 8) 4) < 56320 ∨ 57343 < (if s.size < p + 8 + 4 then (-1 : Int) else hx s.data.toList (p + 8) 4)) := by
                split <;> omega
              generalize (if s.size < p + 8 + 4 then (-1 : Int) else hx s.data.toList (p + 8) 4) = m at *
              have HX8 := Lib.hid HX8
              clear e2 e8 c6 c7 hr hpc htk hz hll r6 r7 g2 g3 h5 b8 h1
              generalize hx s.data.toList (p + 2) 4 = n at *
              obtain ⟨hm1, hm2⟩ := hm8
              by_cases y1 : 56320 ≤ n
              · clear hm2
                go_wp2_with fail
                refine (HX.out _ _ (by omega)).mono ?_
                rintro e w' ⟨rfl, rfl⟩
                go_wp2_with fail
                refine (point_no _ _ h2).mono ?_
                rintro e w' ⟨rfl, rfl⟩
                go_wp2_with fail
                refine (HX8.out _ _ (by omega)).mono ?_
                rintro e w' ⟨rfl, rfl⟩
                go_wp2
                go_ret2
                exact ⟨by rw [hN.out]; rfl, HB.out⟩
              by_cases y2 : m < 56320
              · clear hm2
                go_wp2_with fail
                refine (HX.out _ _ (by omega)).mono ?_
                rintro e w' ⟨rfl, rfl⟩
                go_wp2_with fail
                refine (point_no _ _ h2).mono ?_
                rintro e w' ⟨rfl, rfl⟩
                go_wp2_with fail
                refine (HX8.out _ _ (by omega)).mono ?_
                rintro e w' ⟨rfl, rfl⟩
                go_wp2
                go_ret2
                exact ⟨by rw [hN.out]; rfl, HB.out⟩
              · have y3 : 57343 < m := by omega
                clear hm2
                go_wp2_with fail
                refine (HX.out _ _ (by omega)).mono ?_
                rintro e w' ⟨rfl, rfl⟩
                go_wp2_with fail
                refine (point_no _ _ h2).mono ?_
                rintro e w' ⟨rfl, rfl⟩
                go_wp2_with fail
                refine (HX8.out _ _ (by omega)).mono ?_
                rintro e w' ⟨rfl, rfl⟩
                go_wp2
                go_ret2
                exact ⟨by rw [hN.out]; rfl, HB.out⟩
          · have hr : pc (s.data.toList.drop p) = none := by
              rw [hpc]; unfold hexd; rw [e2, e8, c6, c7, if_neg (by omega), if_neg h2, if_pos (by omega)]
            have hN := Lib.hid (tk_fail htk.out hz hr)
            have n0 : ¬ hx s.data.toList (p + 2) 4 < 0 := by omega
            by_cases y1 : s.size ≤ p + 7
            · have l7 : (s.size : Int) ≤ (p : Int) + 7 := by omega
              clear e2 e8 c6 c7 hr hpc htk hz hll h3 b8 h1
              generalize hx s.data.toList (p + 2) 4 = n at *
              go_wp2_with fail
              refine (HX.out _ _ (by omega)).mono ?_
              rintro e w' ⟨rfl, rfl⟩
              go_wp2_with fail
              refine (point_no _ _ h2).mono ?_
              rintro e w' ⟨rfl, rfl⟩
              go_wp2
              go_ret2
              exact ⟨by rw [hN.out]; rfl, HB.out⟩
            have l7 : ¬ (s.size : Int) ≤ (p : Int) + 7 := by omega
            have l7' : p + 7 < s.size := by omega
            have r6 : bt s.data.toList (p + 6) = s[p + 6].toNat := by unfold bt; rw [bget s _ (by omega)]
            have r7 : bt s.data.toList (p + 7) = s[p + 7].toNat := by unfold bt; rw [bget s _ l7']
            by_cases y2 : s[p + 6].toNat = 92
            · have t6 : ((s[p + 6].toNat : Int) != 92) = false := by rw [y2]; rfl
              have t7 : ((s[p + 7].toNat : Int) != 117) = true := by rw [bne_iff_ne]; omega
              clear e2 e8 c6 c7 hr hpc htk hz hll h3 b8 h1 r6 r7 y2
              generalize hx s.data.toList (p + 2) 4 = n at *
              go_wp2_with fail
              refine (HX.out _ _ (by omega)).mono ?_
              rintro e w' ⟨rfl, rfl⟩
              go_wp2_with fail
              refine (point_no _ _ h2).mono ?_
              rintro e w' ⟨rfl, rfl⟩
              go_wp2
              go_ret2
              exact ⟨by rw [hN.out]; rfl, HB.out⟩
            · have t6 : ((s[p + 6].toNat : Int) != 92) = true := by rw [bne_iff_ne]; omega
              clear e2 e8 c6 c7 hr hpc htk hz hll h3 b8 h1 r6 r7 y2
              generalize hx s.data.toList (p + 2) 4 = n at *
              go_wp2_with fail
              refine (HX.out _ _ (by omega)).mono ?_
              rintro e w' ⟨rfl, rfl⟩
              go_wp2_with fail
              refine (point_no _ _ h2).mono ?_
              rintro e w' ⟨rfl, rfl⟩
              go_wp2
              go_ret2
              exact ⟨by rw [hN.out]; rfl, HB.out⟩
        have hl : letr (bt (s.data.toList.drop p) 1) = none := by
          rw [hb1]; unfold letr; rw [if_neg (by omega), if_neg (by omega), if_neg (by omega), if_neg (by omega), if_neg (by omega), if_neg (by omega)]
        have hpc := pc_letno hb0' (by rw [hb1]; exact hv) hl
        have hN := Lib.hid (tk_fail htk.out hz hpc)
        have q0 : ((s[p + 1].toNat : Int) == 34) = false := by rw [beq_eq_false_iff_ne]; omega
        have q1 : ((s[p + 1].toNat : Int) == 92) = false := by rw [beq_eq_false_iff_ne]; omega
        have q2 : ((s[p + 1].toNat : Int) == 47) = false := by rw [beq_eq_false_iff_ne]; omega
        have q3 : ((s[p + 1].toNat : Int) == 98) = false := by rw [beq_eq_false_iff_ne]; omega
        have q4 : ((s[p + 1].toNat : Int) == 102) = false := by rw [beq_eq_false_iff_ne]; omega
        have q5 : ((s[p + 1].toNat : Int) == 110) = false := by rw [beq_eq_false_iff_ne]; omega
        have q6 : ((s[p + 1].toNat : Int) == 114) = false := by rw [beq_eq_false_iff_ne]; omega
        have q7 : ((s[p + 1].toNat : Int) == 116) = false := by rw [beq_eq_false_iff_ne]; omega
        have q8 : ((s[p + 1].toNat : Int) == 117) = false := by rw [beq_eq_false_iff_ne]; omega
        clear hv hb0' hb1 hex hes nv34 nv92 nv47 nv98 nv102 nv110 nv114 nv116 hl hpc htk hz hll
        go_wp2
        go_ret2
        exact ⟨by rw [hN.out]; rfl, HB.out⟩
      · have q3 : ((p : Int) + 1 == (s.size : Int)) = true := by rw [beq_iff_eq]; omega
        have hN := Lib.hid (tk_fail htk.out hz (pc_short hb0' (by omega)))
        clear hb0' htk hz hll
        go_wp2
        go_ret2
        exact ⟨by rw [hN.out]; rfl, HB.out⟩
    · have hN := Lib.hid (tk_out htk.out (by simp; omega))
      clear htk hll
      go_wp2
      go_ret2
      exact ⟨by rw [hN.out]; rfl, HB.out⟩

theorem refTake_any (s : ByteArray) (p : Int) (w : World) (hs : s.size ≤ 100000) :
    Calls Tryz.prog 37 #[.string s, .int .i64 p] w (RkPost w (takeO s.data.toList p)) := by
  by_cases h : p < 0 ∨ (s.size : Int) ≤ p
  · have e : takeO s.data.toList p = none := by
      unfold takeO
      by_cases h1 : p < 0
      · rw [if_pos h1]
      · rw [if_neg h1, List.drop_eq_nil_of_le (by simp; omega)]; exact stk_nil
    rw [e]; exact refTake_no s p w h
  · obtain ⟨n, rfl⟩ := Int.eq_ofNat_of_zero_le (show 0 ≤ p by omega)
    have hn : n < s.size := by omega
    have e : takeO s.data.toList (n : Int) = stk (s.data.toList.drop n) := by unfold takeO; rw [if_neg (by omega), Int.toNat_natCast]
    rw [e, stk_at s n hn]
    by_cases hq : s[n].toNat = 34
    · rw [if_pos hq]; exact refTake_q s n w hs hn hq
    · rw [if_neg hq]; exact refTake_noq s n w hn hq

end Go.Proofs.YtjcaffpmcgfhaaaGreatDoor.quoteD
