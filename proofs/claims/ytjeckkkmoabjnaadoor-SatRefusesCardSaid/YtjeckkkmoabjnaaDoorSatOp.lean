/-
  The law SatOptions.
-/
import Derived.Test.YtjeckkkmoabjnaaDoorSatSo
namespace Go.Proofs.YtjeckkkmoabjnaaDoor.satOp
set_option linter.unusedSimpArgs false
set_option linter.unusedVariables false
open Go.ChangeShapes Go.WideShapes Go.ChangeAt Go.RowKit proofP proofQ proofR owns cls satP satA satX satCa satCe satCf satSe proofN proofO proofS proofT proofU proofV proofW satLg satLh satMa satMb satMc satMd satPg satPh satMe satSo
attribute [local go_sem ↓] Go.wp_at_zero Go.wp_at_succ

def opt (r k b : Int) (re : Bool) : Obj := .cells #[.int .i64 r, .int .i64 k, .bool re, .int .i64 b] 25
theorem four {w : World} {x : Nat} {t : TypeId} {v0 v1 v2 v3 : Value} (h : Whole w x t [v0, v1, v2, v3]) : w.cell? ⟨x, 0, none⟩ = some v0 ∧ w.cell? ⟨x, 1, none⟩ = some v1 ∧ w.cell? ⟨x, 2, none⟩ = some v2 ∧ w.cell? ⟨x, 3, none⟩ = some v3 :=
  ⟨h.cell 0, h.cell 1, h.cell 2, h.cell 3⟩
set_option maxHeartbeats 8000000 in
set_option maxRecDepth 100000 in
theorem law_options (cv av : Value) (V r k b ro ko bo : Int) (re re2 : Bool) (cs : List (List Int)) (asm : List Int) (w : World) (a1 a2 : Addr) (hc : ClsAt w w.heap.size cv cs) (ha : IntsAt w w.heap.size av asm) (hn : Nilv cv) (hk : In64 r ∧ In64 k ∧ In64 ro ∧ In64 ko) (hg : 11 < w.heap.size) (g9 : w.cell? ⟨9, 0, none⟩ = some (evl a1)) (g11 : w.cell? ⟨11, 0, none⟩ = some (evl a2)) :
    Calls Tryd.prog 5 #[.agg #[cv, .int .i64 V, av, .int .i64 r, .int .i64 k, .bool re, .int .i64 b], .agg #[.int .i64 ro, .int .i64 ko, .bool re2, .int .i64 bo]] w fun e w' => e = .returned (.bool true) ∧ Below w.heap.size w w' := by
  have hB1 : Below w.heap.size w ((w.alloc (satSo.ask cv av V r k b re)).alloc (opt ro ko bo re2)) := ((Below.refl _ _).alloc (Nat.le_refl _) _).alloc (by simp) _
  have hS1 : ((w.alloc (satSo.ask cv av V r k b re)).alloc (opt ro ko bo re2)).heap.size = w.heap.size + 2 := by simp
  have HA := Lib.hid (alive_any _ a1 a2 (by rw [hS1]; omega) ((hB1.cell (show (⟨9, 0, none⟩ : Addr).block < _ from by show 9 < _; omega)).trans g9) ((hB1.cell (show (⟨11, 0, none⟩ : Addr).block < _ from hg)).trans g11))
  have HW : Hid (Whole ((w.alloc (satSo.ask cv av V r k b re)).alloc (opt ro ko bo re2)) w.heap.size 27 [cv, .int .i64 V, av, .int .i64 r, .int .i64 k, .bool re, .int .i64 b]) := Lib.hid ((Whole.new w 27 [cv, .int .i64 V, av, .int .i64 r, .int .i64 k, .bool re, .int .i64 b]).below ((Below.refl _ _).alloc (Nat.le_refl _) _) (by simp))
  have ho := Whole.new (w.alloc (satSo.ask cv av V r k b re)) 25 [.int .i64 ro, .int .i64 ko, .bool re2, .int .i64 bo]
  rw [show (w.alloc (satSo.ask cv av V r k b re)).heap.size = w.heap.size + 1 by simp] at ho
  have HO : Hid (Whole ((w.alloc (satSo.ask cv av V r k b re)).alloc (opt ro ko bo re2)) (w.heap.size + 1) 25 [.int .i64 ro, .int .i64 ko, .bool re2, .int .i64 bo]) := Lib.hid ho
  have HB1 := Lib.hid hB1
  have HS1 := Lib.hid hS1
  have HC := Lib.hid hc
  have HAI := Lib.hid ha
  have HN := Lib.hid hn
  have HG := Lib.hid (And.intro hg (And.intro g9 g11))
  have HK := Lib.hid hk
  have HCF : Hid (∃ a n c, cv = .slice a n c) := Lib.hid (by obtain ⟨ac, capc, bc, offc, vsc, rfl, _, _, _, _⟩ := hc; exact ⟨_, _, _, rfl⟩)
  have HAF : Hid (∃ a n c, av = .slice a n c) := Lib.hid (by obtain ⟨aa, capa, ba, offa, rfl, _⟩ := ha; exact ⟨_, _, _, rfl⟩)
  obtain ⟨ac, nc, yc, rfl⟩ := HCF.out
  obtain ⟨aa, na, ya, rfl⟩ := HAF.out
  clear hc ha hn hg g9 g11 hB1 hS1 hk HCF HAF ho
  unfold satSo.ask opt at *
  go_enter Tryd.func5, Tryd.ntmps5
  go_wp2_with fail
  refine HA.out.mono ?_
  rintro e w2 ⟨rfl, hb2⟩
  have hW2 := HW.out.below hb2 (by rw [HS1.out]; omega)
  have HO2 := Lib.hid (HO.out.below hb2 (by rw [HS1.out]; omega))
  have HW2 := Lib.hid hW2
  have HB2 := Lib.hid (HB1.out.trans (hb2.mono (by rw [HS1.out]; omega)))
  have hs2 : w.heap.size + 2 ≤ w2.heap.size := by have := hb2.size; rw [HS1.out] at this; exact this
  have HFW := Lib.hid (few_any (.slice ac nc yc) (.slice aa na ya) V ((HC.out.keep HB2.out).mono (by omega)) ((HAI.out.keep HB2.out).mono (by omega)) HN.out)
  obtain ⟨k0, k1, k2, k3, k4, k5, k6⟩ := seven hW2
  clear hb2 hW2 HW HA HB1 HS1 HO
  go_wp2_with fail
  refine HFW.out.mono ?_
  rintro e w3 ⟨bf, rfl, hf, hb3⟩
  have hW3 := HW2.out.below hb3 (by omega)
  have HB3 := Lib.hid (HB2.out.trans (hb3.mono (by omega)))
  have hs3 : w.heap.size + 2 ≤ w3.heap.size := by have := hb3.size; omega
  have HW3 := Lib.hid hW3
  have HO3 := Lib.hid (HO2.out.below hb3 (by omega))
  clear k0 k1 k2 k3 k4 k5 k6
  obtain ⟨k0, k1, k2, k3, k4, k5, k6⟩ := seven hW3
  clear hb3 hW3 HW2 HB2 HFW HO2
  cases bf
  · clear hf
    go_wp2
    go_ret
    exact ⟨rfl, HB3.out⟩
  have HF := Lib.hid (hf rfl)
  clear hf
  obtain ⟨V, rfl⟩ := Int.eq_ofNat_of_zero_le HF.out.v.1
  have hV10 : V ≤ 10 := by have := HF.out.v.2; omega
  have HSO : Hid (∀ (r k : Int) (wx : World), 0 ≤ r → 0 ≤ k → k ≤ 9223372036854775807 → Below w.heap.size w wx → Calls Tryd.prog 9 #[.slice ac nc yc, .int .i64 V, .slice aa na ya, .agg #[.int .i64 r, .int .i64 k, .bool false, .int .i64 1073741824]] wx (AnsP cs V asm 1073741824 r wx)) := Lib.hid (fun r k wx h1 h2 h3 hb => solve_ans V r k 1073741824 false a1 a2 (HC.out.keep hb) (HAI.out.keep hb) hb.size (by have := HG.out.1; have := hb.size; omega) ((hb.cell (show (⟨9, 0, none⟩ : Addr).block < w.heap.size from by have := HG.out.1; show 9 < _; omega)).trans HG.out.2.1) ((hb.cell (show (⟨11, 0, none⟩ : Addr).block < w.heap.size from HG.out.1)).trans HG.out.2.2) (few_fine HF.out ⟨h1, h2, by omega⟩) (by omega) h3 (fun c hc => by have := HF.out.l c hc; omega) (by have := HF.out.a; omega))
  have HPO : Hid (∀ (wx : World), Below w.heap.size w wx → Calls Tryd.prog 17 #[.slice ac nc yc, .int .i64 V, .slice aa na ya] wx fun e w' => ∃ p : Bool, e = .returned (.tuple #[.bool p, .nilIface]) ∧ (p = true ↔ Psb cs V asm) ∧ Below wx.heap.size wx w') := Lib.hid (fun wx hb => possible_ok V a1 a2 (HC.out.keep hb) (HAI.out.keep hb) hb.size (by have := HG.out.1; have := hb.size; omega) ((hb.cell (show (⟨9, 0, none⟩ : Addr).block < w.heap.size from by have := HG.out.1; show 9 < _; omega)).trans HG.out.2.1) ((hb.cell (show (⟨11, 0, none⟩ : Addr).block < w.heap.size from HG.out.1)).trans HG.out.2.2) (few_fine HF.out ⟨by omega, by omega, by omega⟩) (by omega) (fun c hc => by have := HF.out.l c hc; omega) (by have := HF.out.a; omega))
  have hne := nilnilE
  have HKM : Hid ((0 ≤ max r 0 ∧ 0 ≤ max k 0 ∧ max k 0 ≤ 9223372036854775807) ∧ (0 ≤ max ro 0 ∧ 0 ≤ max ko 0 ∧ max ko 0 ≤ 9223372036854775807)) := Lib.hid (by have := HK.out; unfold In64 at this; omega)
  go_wp2_with fail
  refine (HSO.out _ _ w3 HKM.out.1.1 HKM.out.1.2.1 HKM.out.1.2.2 HB3.out).mono ?_
  rintro e w4 ⟨st, pconf, p1, pa, px, p2, pb, py, p3, pc, pz, plogs, rfl, pA, pB⟩
  have hst := pA.nolim (by unfold cmax; omega)
  have hA5 : Below w4.heap.size w4 (w4.alloc (.cells #[.int .i64 st, .slice p1 pa px, .slice p2 pb py, .slice p3 pc pz, .int .i64 pconf] 32)) := (Below.refl _ _).alloc (Nat.le_refl _) _
  have hZ5 : (w4.alloc (.cells #[.int .i64 st, .slice p1 pa px, .slice p2 pb py, .slice p3 pc pz, .int .i64 pconf] 32)).heap.size = w4.heap.size + 1 := by simp
  have hs4 : w.heap.size + 2 ≤ w4.heap.size := by have := pB.size; omega
  have hR5 := Whole.new w4 32 [.int .i64 st, .slice p1 pa px, .slice p2 pb py, .slice p3 pc pz, .int .i64 pconf]
  have hP1 : st = 1 ∧ Psb cs V asm ∨ st = 2 ∧ ¬ Psb cs V asm := by
    rcases hst with e | e
    · subst e; exact .inl ⟨rfl, pA.yes⟩
    · subst e; exact .inr ⟨rfl, pA.no (by omega)⟩
  have HB5 : Hid (Below w.heap.size w (w4.alloc (.cells #[.int .i64 st, .slice p1 pa px, .slice p2 pb py, .slice p3 pc pz, .int .i64 pconf] 32))) := Lib.hid ((HB3.out.trans (pB.mono (by omega))).trans (hA5.mono (by omega)))
  have hW5 := (HW3.out.below pB (by omega)).below hA5 (by omega)
  have hO5 := (HO3.out.below pB (by omega)).below hA5 (by omega)
  clear k0 k1 k2 k3 k4 k5 k6 HW3 HO3 HB3 pA pB hA5 hst
  have HP1 := Lib.hid hP1
  obtain ⟨k0, k1, k2, k3, k4, k5, k6⟩ := seven hW5
  obtain ⟨o0, o1, o2, o3⟩ := four hO5
  have HW5 := Lib.hid hW5
  have HR5 := Lib.hid hR5
  have HO5 := Lib.hid hO5
  have HZ5 := Lib.hid hZ5
  clear hW5 hR5 hO5 hP1 hZ5
  go_wp2_with fail
  refine (HSO.out _ _ _ HKM.out.2.1 HKM.out.2.2.1 HKM.out.2.2.2 HB5.out).mono ?_
  rintro e w6 ⟨su, qconf, q1, qa, qx, q2, qb, qy, q3, qc, qz, qlogs, rfl, qA, qB⟩
  have hZ5 := HZ5.out
  generalize w4.alloc (.cells #[.int .i64 st, .slice p1 pa px, .slice p2 pb py, .slice p3 pc pz, .int .i64 pconf] 32) = w5 at *
  generalize w4.heap.size = g at *
  have hst := qA.nolim (by unfold cmax; omega)
  have hA7 : Below w6.heap.size w6 (w6.alloc (.cells #[.int .i64 su, .slice q1 qa qx, .slice q2 qb qy, .slice q3 qc qz, .int .i64 qconf] 32)) := (Below.refl _ _).alloc (Nat.le_refl _) _
  have hs6 : g + 1 ≤ w6.heap.size := by have := qB.size; omega
  have hQ7 := Whole.new w6 32 [.int .i64 su, .slice q1 qa qx, .slice q2 qb qy, .slice q3 qc qz, .int .i64 qconf]
  have hP2 : su = 1 ∧ Psb cs V asm ∨ su = 2 ∧ ¬ Psb cs V asm := by
    rcases hst with e | e
    · subst e; exact .inl ⟨rfl, qA.yes⟩
    · subst e; exact .inr ⟨rfl, qA.no (by omega)⟩
  have HP2 := Lib.hid hP2
  have HB7 : Hid (Below w.heap.size w (w6.alloc (.cells #[.int .i64 su, .slice q1 qa qx, .slice q2 qb qy, .slice q3 qc qz, .int .i64 qconf] 32))) := Lib.hid ((HB5.out.trans (qB.mono (by omega))).trans (hA7.mono (by omega)))
  have hW7 := (HW5.out.below qB (by omega)).below hA7 (by omega)
  have hR7 := (HR5.out.below qB (by omega)).below hA7 (by omega)
  clear k0 k1 k2 k3 k4 k5 k6 o0 o1 o2 o3 HW5 HR5 HO5 HB5 HZ5 hA7 hst hP2
  obtain ⟨k0, k1, k2, k3, k4, k5, k6⟩ := seven hW7
  have HR7 := Lib.hid hR7
  have HQ7 := Lib.hid hQ7
  clear hW7 hR7 hQ7 qA qB
  have HZ7 : Hid ((w6.alloc (.cells #[.int .i64 su, .slice q1 qa qx, .slice q2 qb qy, .slice q3 qc qz, .int .i64 qconf] 32)).heap.size = w6.heap.size + 1) := Lib.hid (by simp)
  go_wp2_with fail
  refine (HPO.out _ HB7.out).mono ?_
  rintro e w8 ⟨p, rfl, hp, hb8⟩
  have HB8 := Lib.hid (HB7.out.trans (hb8.mono (by have := HZ7.out; omega)))
  have hR8 := HR7.out.below hb8 (by have := HZ7.out; omega)
  have hQ8 := HQ7.out.below hb8 (by have := HZ7.out; omega)
  have r0 := hR8.cell 0
  have q0 := hQ8.cell 0
  simp only [List.getElem?_cons_zero] at r0 q0
  have HPP : Hid (p = true ∧ st = 1 ∧ su = 1 ∨ p = false ∧ st = 2 ∧ su = 2) := Lib.hid (by
    rcases HP1.out with ⟨e1, f1⟩ | ⟨e1, f1⟩ <;> rcases HP2.out with ⟨e2, f2⟩ | ⟨e2, f2⟩
    · exact .inl ⟨hp.2 f1, e1, e2⟩
    · exact absurd f1 f2
    · exact absurd f2 f1
    · refine .inr ⟨?_, e1, e2⟩
      cases p
      · rfl
      · exact absurd (hp.1 rfl) f1)
  clear hp hb8 hR8 hQ8 HP1 HP2 HR7 HQ7 HZ7 HB7 k0 k1 k2 k3 k4 k5 k6
  generalize w6.heap.size = g2 at *
  rcases HPP.out with ⟨rfl, rfl, rfl⟩ | ⟨rfl, rfl, rfl⟩
  · clear HPP
    go_wp2
    go_ret
    exact ⟨rfl, HB8.out⟩
  · clear HPP
    go_wp2
    go_ret
    exact ⟨rfl, HB8.out⟩
end Go.Proofs.YtjeckkkmoabjnaaDoor.satOp
