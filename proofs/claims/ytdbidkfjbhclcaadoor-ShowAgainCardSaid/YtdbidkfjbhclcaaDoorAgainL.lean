/-
  The law ShowAgain returns true.
-/
import Derived.Test.YtdbidkfjbhclcaaDoorOutG
import Derived.Test.YtdbidkfjbhclcaaDoorNodeN
import Derived.Test.YtdbidkfjbhclcaaDoorSameQ
namespace Go.Proofs.YtdbidkfjbhclcaaDoor.againL
open Go.ChangeShapes Go.WideShapes Go.ChangeAt Go.RowKit Go.WideMaps Go.Maps nodeP nodeQ nodeA nodeS ownI jsonP errs errIs runesE quoteB jsonQ jsonR jsonL nodeG nodeH nodeK nodeM nodeN outG sameN sameQ jsonT jsonU
set_option linter.unusedSimpArgs false
set_option linter.unusedVariables false

theorem rt_parts {x : Nd} (h : RT x = true) : okAt x 0 = true ∧ count x ≤ 20000 := by
  unfold RT at h
  simp only [Bool.and_eq_true, decide_eq_true_eq] at h
  exact ⟨h.1, by omega⟩
/-- a right value's text is read as that value -/
theorem read_tx {w : World} {B : Nat} {x : Nd} {l : List Value} (h : NodeAt w B x l) (hr : RT x = true) (hs : sz x ≤ 2001) : pOut (⟨(tx x).toArray⟩ : ByteArray).data.toList = (x, 0) := by
  have hl := tx_len h
  show pOut (tx x) = (x, 0)
  unfold pOut
  rw [if_neg (by omega), parse_tx (fit_at h) (rt_parts hr).1 (rt_parts hr).2]
theorem tx_size {w : World} {B : Nat} {x : Nd} {l : List Value} (h : NodeAt w B x l) (hs : sz x ≤ 2001) : ((⟨(tx x).toArray⟩ : ByteArray).size : Int) ≤ 1000000 := by
  have hl := tx_len h
  have : (⟨(tx x).toArray⟩ : ByteArray).size = (tx x).length := by simp [ByteArray.size]
  omega
theorem txV_yes {ad : Nat → Addr} {x : Nd} (h : RT x = true) : txV ad x = .tuple #[.string ⟨(tx x).toArray⟩, .nilIface] := by unfold txV; rw [if_pos h]
theorem txV_no {ad : Nat → Addr} {x : Nd} (h : RT x = false) : txV ad x = .tuple #[.string ⟨#[]⟩, ev (ad 5)] := by unfold txV; rw [if_neg (by rw [h]; decide)]
/-- a block of a value -/
structure Bn (w : World) (a b c d e : Value) (wr : World) : Prop where
  bel : Below w.heap.size w wr
  sz : w.heap.size + 1 ≤ wr.heap.size
  c0 : wr.cell? ⟨w.heap.size, 0, none⟩ = some a
  c1 : wr.cell? ⟨w.heap.size, 1, none⟩ = some b
  c2 : wr.cell? ⟨w.heap.size, 2, none⟩ = some c
  c3 : wr.cell? ⟨w.heap.size, 3, none⟩ = some d
  c4 : wr.cell? ⟨w.heap.size, 4, none⟩ = some e
theorem Bn.of (w : World) (a b c d e : Value) (T : TypeId) : Bn w a b c d e (w.alloc (.cells #[a, b, c, d, e] T)) :=
  ⟨(Below.refl _ _).alloc (Nat.le_refl _) _, by simp, by simp, by simp, by simp, by simp, by simp⟩
theorem Bn.step {w wr w' : World} {a b c d e : Value} (h : Bn w a b c d e wr) (hb : Below wr.heap.size wr w') : Bn w a b c d e w' := by
  have := hb.size
  have h1 := h.sz
  exact ⟨h.bel.trans (hb.mono (by omega)), by omega, by rw [hb.cell (by show w.heap.size < _; omega)]; exact h.c0, by rw [hb.cell (by show w.heap.size < _; omega)]; exact h.c1, by rw [hb.cell (by show w.heap.size < _; omega)]; exact h.c2, by rw [hb.cell (by show w.heap.size < _; omega)]; exact h.c3, by rw [hb.cell (by show w.heap.size < _; omega)]; exact h.c4⟩

set_option maxRecDepth 100000 in
set_option maxHeartbeats 8000000 in
theorem law_again (s : ByteArray) (w : World) (ad : Nat → Addr) (hE : Env w ad) (hJ : Ej w ad) (hG : intsC.Rng w) :
    Calls Tryd.prog 5 #[.string s] w fun e w' => e = .returned (.bool true) ∧ Below w.heap.size w w' := by
  have HE := Lib.hid hE
  have HJ := Lib.hid hJ
  have HG := Lib.hid hG
  clear hE hJ hG
  by_cases hl : 2000 < s.size
  · have hlI : (2000 : Int) < (s.size : Int) := by omega
    clear hl
    go_enter Tryd.func5, Tryd.ntmps5
    go_wp2_with fail
    refine (nodeN.alive _ ad HE.out).mono ?_
    rintro e w1 ⟨rfl, hb⟩
    have HB := Lib.hid hb
    clear hb
    go_wp2
    go_ret
    exact ⟨rfl, HB.out⟩
  · have hlI : ¬ ((2000 : Int) < (s.size : Int)) := by omega
    have hsI : (s.size : Int) ≤ 1000000 := by omega
    have hll : s.data.toList.length ≤ 2000 := by rw [Array.length_toList, ByteArray.size_data]; omega
    have HO := Lib.hid (out_good s.data.toList (by omega))
    have HSZ : Hid (sz (pOut s.data.toList).1 ≤ 2001) := Lib.hid (by have := HO.out.1; omega)
    clear hl hll
    go_enter Tryd.func5, Tryd.ntmps5
    go_wp2_with fail
    refine (nodeN.alive _ ad HE.out).mono ?_
    rintro e w1 ⟨rfl, hb⟩
    have HB1 := Lib.hid hb
    have HPA := Lib.hid (jsonL.parse_any s w1 ad (HE.out.below hb).tabs (HJ.out.below hb) (intsC.rng_below HG.out hb) hsI)
    clear hb
    generalize pOut s.data.toList = q at *
    obtain ⟨x, k⟩ := q
    go_wp2_with fail
    refine HPA.out.mono ?_
    rintro e w2 ⟨v, rfl, hb, hv⟩
    have HB2 := Lib.hid (HB1.out.trans (hb.mono HB1.out.size))
    have HV := Lib.hid hv
    clear hb hv HPA
    by_cases hk : k = 0
    · have he0 : intsC.errV ad (x, k).snd = .nilIface := by rw [hk]; rfl
      rw [he0]
      have HRT := Lib.hid (HO.out.2.2 hk)
      have hsz : sz x ≤ 2001 := HSZ.out
      have HP := Lib.hid (read_tx HV.out HRT.out hsz)
      have hps := tx_size HV.out hsz
      have HTY := Lib.hid (fun ad => txV_yes (ad := ad) HRT.out)
      have HS : Hid (sz x ≤ 2001) := Lib.hid hsz
      have HSY := Lib.hid (same_yes (rfl : x = x))
      have HCN : Hid ((count x : Int) + (count x : Int) ≤ 100000) := Lib.hid (by have := count_sz x; omega)
      clear hk he0 hsz
      generalize (⟨(tx x).toArray⟩ : ByteArray) = X at *
      have qe : (X.toList == X.toList) = true := by simp
      have HN3 := Lib.hid (Bn.of w2 (.int .i64 v.k) (.int .i64 v.m) (.string v.t) (.slice v.a1 v.n1 v.c1) (.slice v.a2 v.n2 v.c2) 26)
      have HB3 : Hid (Below w.heap.size w (w2.alloc (.cells #[.int .i64 v.k, .int .i64 v.m, .string v.t, .slice v.a1 v.n1 v.c1, .slice v.a2 v.n2 v.c2] 26))) := Lib.hid (HB2.out.alloc HB2.out.size _)
      have HTX := Lib.hid (nodeM.text_any x v.l _ ad (stays HV.out HN3.out.bel) (HE.out.below HB3.out) (Nat.le_trans HS.out (by decide)))
      rw [HTY.out] at HTX
      go_wp2_with fail
      refine HTX.out.mono ?_
      rintro e w4 ⟨rfl, hb4⟩
      have HN4 := Lib.hid (HN3.out.step hb4)
      have HB4 := Lib.hid (HB3.out.trans (hb4.mono HB3.out.size))
      clear hb4
      have HPB := Lib.hid (jsonL.parse_any X w4 ad (HE.out.below HB4.out).tabs (HJ.out.below HB4.out) (intsC.rng_below HG.out HB4.out) hps)
      rw [HP.out] at HPB
      go_wp2_with fail
      refine HPB.out.mono ?_
      rintro e w5 ⟨v', rfl, hb5, hv'⟩
      have HN5 := Lib.hid (HN4.out.step hb5)
      have HB5 := Lib.hid (HB4.out.trans (hb5.mono HB4.out.size))
      have HV5 := Lib.hid hv'
      clear hb5 hv'
      have he0 : intsC.errV ad (x, 0).snd = .nilIface := rfl
      rw [he0]
      have HM6 := Lib.hid (Bn.of w5 (.int .i64 v'.k) (.int .i64 v'.m) (.string v'.t) (.slice v'.a1 v'.n1 v'.c1) (.slice v'.a2 v'.n2 v'.c2) 26)
      have HN6 := Lib.hid (HN5.out.step HM6.out.bel)
      have HB6 : Hid (Below w.heap.size w (w5.alloc (.cells #[.int .i64 v'.k, .int .i64 v'.m, .string v'.t, .slice v'.a1 v'.n1 v'.c1, .slice v'.a2 v'.n2 v'.c2] 26))) := Lib.hid (HB5.out.alloc HB5.out.size _)
      have HTX2 := Lib.hid (nodeM.text_any x v'.l _ ad (stays HV5.out HM6.out.bel) (HE.out.below HB6.out) (Nat.le_trans HS.out (by decide)))
      rw [HTY.out] at HTX2
      go_wp2_with fail
      refine HTX2.out.mono ?_
      rintro e w7 ⟨rfl, hb7⟩
      have HN7 := Lib.hid (HN6.out.step hb7)
      have HM7 := Lib.hid (HM6.out.step hb7)
      have HB7 := Lib.hid (HB6.out.trans (hb7.mono HB6.out.size))
      have HSA := Lib.hid (jsame_any x x v'.l v.l w7 (stays HV5.out (HM7.out.bel)) (stays HV.out HN7.out.bel) HCN.out)
      rw [HSY.out] at HSA
      clear hb7 he0
      have b0 := HN7.out.c0
      have b1 := HN7.out.c1
      have b2 := HN7.out.c2
      have b3 := HN7.out.c3
      have b4 := HN7.out.c4
      have d0 := HM7.out.c0
      have d1 := HM7.out.c1
      have d2 := HM7.out.c2
      have d3 := HM7.out.c3
      have d4 := HM7.out.c4
      go_wp2_with fail
      refine HSA.out.mono ?_
      rintro e w8 ⟨rfl, hb8⟩
      have HB8 := Lib.hid (HB7.out.trans (hb8.mono HB7.out.size))
      clear hb8
      go_wp2
      go_ret
      exact ⟨rfl, HB8.out⟩
    · obtain ⟨k', rfl⟩ : ∃ k', k = k' + 1 := ⟨k - 1, by omega⟩
      have he0 : intsC.errV ad (x, k' + 1).snd = ev (ad k') := rfl
      rw [he0]
      clear HO HSZ hk he0
      go_wp2
      go_ret
      exact ⟨rfl, HB2.out.alloc HB2.out.size _⟩
end Go.Proofs.YtdbidkfjbhclcaaDoor.againL
