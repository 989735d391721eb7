/-
  The law ShowTexts returns true.
-/
import Derived.Test.YtdbidkfjbhclcaaGreatDoorOutG
import Derived.Test.YtdbidkfjbhclcaaGreatDoorNodeN
import Derived.Test.YtdbidkfjbhclcaaGreatDoorSameN
import Derived.Test.YtdbidkfjbhclcaaGreatDoorShowR
import Derived.Test.YtdbidkfjbhclcaaGreatDoorShowT
namespace Go.Proofs.YtdbidkfjbhclcaaGreatDoor.showL
open Go.ChangeShapes Go.WideShapes Go.ChangeAt Go.RowKit Go.WideMaps Go.Maps nodeP nodeQ nodeA nodeS ownI jsonP errs errIs runesE quoteB jsonQ jsonR jsonL nodeG nodeH nodeK nodeM nodeN outG sameN jsonT jsonU
set_option linter.unusedSimpArgs false
set_option linter.unusedVariables false

theorem rt_ok {x : Nd} (h : sz x ≤ 2000) : RT x = okAt x 0 := by
  have hc : count x ≤ 2000 := by have := count_sz x; omega
  unfold RT
  have : decide ((count x : Int) ≤ 20000) = true := by rw [decide_eq_true_eq]; omega
  simp [this]
theorem read_tx {w : World} {B : Nat} {x : Nd} {l : List Value} (h : NodeAt w B x l) (hr : okAt x 0 = true) (hs : sz x ≤ 2000) : pOut (⟨(tx x).toArray⟩ : ByteArray).data.toList = (x, 0) := by
  have hl := tx_len h
  have hc : count x ≤ 2000 := by have := count_sz x; omega
  show pOut (tx x) = (x, 0)
  unfold pOut
  rw [if_neg (by omega), parse_tx (fit_at h) hr (by omega)]
theorem tx_size {w : World} {B : Nat} {x : Nd} {l : List Value} (h : NodeAt w B x l) (hs : sz x ≤ 2001) : ((⟨(tx x).toArray⟩ : ByteArray).size : Int) ≤ 1000000 := by
  have hl := tx_len h
  have : (⟨(tx x).toArray⟩ : ByteArray).size = (tx x).length := by simp [ByteArray.size]
  omega
theorem txV_yes {ad : Nat → Addr} {x : Nd} (h : RT x = true) : txV ad x = .tuple #[.string ⟨(tx x).toArray⟩, .nilIface] := by unfold txV; rw [if_pos h]
theorem txV_no {ad : Nat → Addr} {x : Nd} (h : RT x = false) : txV ad x = .tuple #[.string ⟨#[]⟩, ev (ad 5)] := by unfold txV; rw [if_neg (by rw [h]; decide)]
/-- a world behind the box of the value -/
structure Bn (w : World) (a b c d e : Value) (wr : World) : Prop where
  bel : Below w.heap.size w wr
  sz : w.heap.size + 1 ≤ wr.heap.size
  c0 : wr.cell? ⟨w.heap.size, 0, none⟩ = some a
  c1 : wr.cell? ⟨w.heap.size, 1, none⟩ = some b
  c2 : wr.cell? ⟨w.heap.size, 2, none⟩ = some c
  c3 : wr.cell? ⟨w.heap.size, 3, none⟩ = some d
  c4 : wr.cell? ⟨w.heap.size, 4, none⟩ = some e
theorem Bn.of (w : World) (a b c d e : Value) (T : TypeId) : Bn w a b c d e (w.alloc (.cells #[a, b, c, d, e] T)) :=
  ⟨(Below.refl _ _).alloc (Nat.le_refl _) _, by simp, by simp, by simp, by simp, by simp, by simp⟩
theorem Bn.step {w wr w' : World} {a b c d e : Value} (h : Bn w a b c d e wr) (hb : Below wr.heap.size wr w') : Bn w a b c d e w' := by
  have := hb.size
  have h1 := h.sz
  exact ⟨h.bel.trans (hb.mono (by omega)), by omega, by rw [hb.cell (by show w.heap.size < _; omega)]; exact h.c0, by rw [hb.cell (by show w.heap.size < _; omega)]; exact h.c1, by rw [hb.cell (by show w.heap.size < _; omega)]; exact h.c2, by rw [hb.cell (by show w.heap.size < _; omega)]; exact h.c3, by rw [hb.cell (by show w.heap.size < _; omega)]; exact h.c4⟩

set_option maxRecDepth 100000 in
set_option maxHeartbeats 4000000 in
theorem law_texts (x : Nd) (l : List Value) (w : World) (ad : Nat → Addr) (hx : NodeAt w w.heap.size x l) (hE : Env w ad) (hR : Errs w ad) (hG : intsC.Rng w) :
    Calls Tryz.prog 3 #[.agg l.toArray] w fun e w' => e = .returned (.bool true) ∧ Below w.heap.size w w' := by
  cases x with
  | mk k n t ks cs =>
  have HX := Lib.hid hx
  have HE := Lib.hid hE
  have HR := Lib.hid hR
  have HG := Lib.hid hG
  obtain ⟨kv, cv, rfl, _, _, htm, hkv, hcv⟩ := hx.open
  obtain ⟨ao, cap, _, _, _, rfl, hj1⟩ := hcv
  obtain ⟨ak, capk, _, _, rfl, hj2⟩ := hkv
  clear hj1 hj2
  generalize ks.length = nk at *
  generalize cs.length = nc at *
  generalize (Nd.mk k n t ks cs) = x at *
  have HB0 := Lib.hid (Bn.of w (.int .i64 k) (.int .i64 n) (.string t) (.slice ak nk capk) (.slice ao nc cap) 25)
  have hn := intsC.neqlN
  have hn2 := errs.nilnil
  clear hx hE hR hG htm
  go_enter Tryz.func3, Tryz.ntmps3
  go_wp2_with fail
  refine (nodeN.alive _ ad (HE.out.below HB0.out.bel)).mono ?_
  rintro e w1 ⟨rfl, hb⟩
  have HB1 := Lib.hid (HB0.out.step hb)
  clear hb
  have b0 := HB1.out.c0
  have b1 := HB1.out.c1
  have b2 := HB1.out.c2
  have b3 := HB1.out.c3
  have b4 := HB1.out.c4
  go_wp2_with fail
  refine (nodeA.size_any x _ _ 2000 0 (stays HX.out HB1.out.bel) (by omega) (by omega) (by omega) (by omega)).mono ?_
  rintro e w2 ⟨z, rfl, hz0, hz1, hz2, hb⟩
  have HB2 := Lib.hid (HB1.out.step hb)
  clear hb b0 b1 b2 b3 b4
  have b0 := HB2.out.c0
  have b1 := HB2.out.c1
  have b2 := HB2.out.c2
  have b3 := HB2.out.c3
  have b4 := HB2.out.c4
  by_cases hz : 2000 < z
  · clear hz2
    go_wp2
    go_ret
    exact ⟨rfl, HB2.out.bel⟩
  have hsz : sz x ≤ 2000 := by have := hz2 (by omega); omega
  have HRT := Lib.hid (rt_ok hsz)
  clear hz2
  go_wp2_with fail
  refine (nodeM.text_any x _ _ ad (stays HX.out HB2.out.bel) (HE.out.below HB2.out.bel) (by omega)).mono ?_
  rintro e w3 ⟨he, hb⟩
  have HB3 := Lib.hid (HB2.out.step hb)
  clear hb b0 b1 b2 b3 b4
  have b0 := HB3.out.c0
  have b1 := HB3.out.c1
  have b2 := HB3.out.c2
  have b3 := HB3.out.c3
  have b4 := HB3.out.c4
  have HRI := Lib.hid (showR.rright_any x _ _ 0 (stays HX.out HB3.out.bel) (by decide) (by omega))
  generalize hok : okAt x 0 = ok at *
  cases ok
  · rw [txV_no HRT.out] at he
    subst he
    go_wp2_with fail
    refine HRI.out.mono ?_
    rintro e w4 ⟨rfl, hb⟩
    have HB4 := Lib.hid (HB3.out.step hb)
    clear hb b0 b1 b2 b3 b4
    go_wp2_with fail
    refine (errs.num_err _ ad (HR.out.below HB4.out.bel) 5 (by decide)).mono ?_
    rintro e w5 ⟨rfl, hb⟩
    have HB5 := Lib.hid (HB4.out.step hb)
    clear hb
    go_wp2
    go_ret
    exact ⟨rfl, HB5.out.bel⟩
  · rw [txV_yes HRT.out] at he
    subst he
    have HP := Lib.hid (read_tx HX.out hok hsz)
    have hps := tx_size HX.out (by omega)
    have HT := Lib.hid (fun w' (h : NodeAt w' w'.heap.size x [.int .i64 k, .int .i64 n, .string t, .slice ak nk capk, .slice ao nc cap]) => showT.text_all x _ w' 0 h hok (by omega))
    unfold showT.TP at HT
    generalize (⟨(tx x).toArray⟩ : ByteArray) = X at *
    go_wp2_with fail
    refine HRI.out.mono ?_
    rintro e w4 ⟨rfl, hb⟩
    have HB4 := Lib.hid (HB3.out.step hb)
    clear hb b0 b1 b2 b3 b4
    have b0 := HB4.out.c0
    have b1 := HB4.out.c1
    have b2 := HB4.out.c2
    have b3 := HB4.out.c3
    have b4 := HB4.out.c4
    go_wp2_with fail
    refine (HT.out _ (stays HX.out HB4.out.bel)).mono ?_
    rintro e w5 ⟨rfl, hb⟩
    have HB5 := Lib.hid (HB4.out.step hb)
    clear hb b0 b1 b2 b3 b4
    have b0 := HB5.out.c0
    have b1 := HB5.out.c1
    have b2 := HB5.out.c2
    have b3 := HB5.out.c3
    have b4 := HB5.out.c4
    have qe : (X.toList == X.toList) = true := by simp
    go_wp2_with fail
    refine (jsonL.parse_any X _ ad (HE.out.below HB5.out.bel).tabs (HR.out.below HB5.out.bel).ej (intsC.rng_below HG.out HB5.out.bel) hps).mono ?_
    rw [HP.out]
    rintro e w6 ⟨v, rfl, hb, hv⟩
    have HB6 := Lib.hid (HB5.out.step hb)
    have HV := Lib.hid hv
    clear hb b0 b1 b2 b3 b4
    have he0 : intsC.errV ad (x, 0).snd = .nilIface := rfl
    rw [he0]
    have HB7 : Hid (∀ o, Bn w (.int .i64 k) (.int .i64 n) (.string t) (.slice ak nk capk) (.slice ao nc cap) (w6.alloc o)) := Lib.hid (fun o => HB6.out.step ((Below.refl _ _).alloc (Nat.le_refl _) o))
    have b0 := fun o => (HB7.out o).c0
    have b1 := fun o => (HB7.out o).c1
    have b2 := fun o => (HB7.out o).c2
    have b3 := fun o => (HB7.out o).c3
    have b4 := fun o => (HB7.out o).c4
    clear hv he0
    go_wp2_with fail
    refine (rsame_any x x _ _ _ (stays HV.out ((Below.refl _ _).alloc (Nat.le_refl _) _)) (stays HX.out (HB7.out _).bel)).mono ?_
    rintro e w8 ⟨he, hb⟩
    rw [same_yes rfl] at he
    subst he
    have HB8 := Lib.hid ((HB7.out _).step hb)
    clear hb b0 b1 b2 b3 b4
    go_wp2
    go_ret
    exact ⟨rfl, HB8.out.bel⟩
end Go.Proofs.YtdbidkfjbhclcaaGreatDoor.showL
