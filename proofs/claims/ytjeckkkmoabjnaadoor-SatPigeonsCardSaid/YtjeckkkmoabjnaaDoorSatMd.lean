/-
  Contracts of sat.Possible and of the law's few, model, core.
-/
import Derived.Test.YtjeckkkmoabjnaaDoorSmM
namespace Go.Proofs.YtjeckkkmoabjnaaDoor.satMd
set_option linter.unusedSimpArgs false
set_option linter.unusedVariables false
open Go.ChangeShapes Go.WideShapes Go.ChangeAt Go.RowKit proofP proofQ proofR owns cls satP satA satX satCa satCe satCf satSe proofN proofO proofS proofT proofU proofV proofW satLg satLh satMa satMb satMc
attribute [local go_sem ↓] Go.wp_at_zero Go.wp_at_succ

section
variable {w w' : World} {cs : List (List Int)} {V : Nat} {asm : List Int}
set_option maxHeartbeats 4000000 in
set_option maxRecDepth 100000 in
theorem possible_ok {B : Nat} {cv av : Value} (V : Nat) (a1 a2 : Addr) (hc : ClsAt w B cv cs) (ha : IntsAt w B av asm) (hB : B ≤ w.heap.size) (hg : 11 < w.heap.size) (g9 : w.cell? ⟨9, 0, none⟩ = some (evl a1)) (g11 : w.cell? ⟨11, 0, none⟩ = some (evl a2)) (hF : Fine (V : Int) cs asm 0 0 1073741824) (hV : V ≤ 20) (hcl : ∀ c, c ∈ cs → c.length ≤ 100000) (hal : asm.length ≤ 100000) :
    Calls Tryd.prog 17 #[cv, .int .i64 V, av] w fun e w' => ∃ p : Bool, e = .returned (.tuple #[.bool p, .nilIface]) ∧ (p = true ↔ Psb cs V asm) ∧ Below w.heap.size w w' := by
  have HSO := Lib.hid (solve_ans V 0 0 1073741824 false a1 a2 hc ha hB hg g9 g11 hF hV (by omega) hcl hal)
  have hne := neqN
  clear hc ha hcl hal g9 g11
  go_enter Tryd.func17, Tryd.ntmps17
  go_wp2_with fail
  refine HSO.out.mono ?_
  rintro e w1 ⟨st, conf, x1, n1, c1, x2, n2, c2, x3, n3, c3, logs, rfl, hA, hb⟩
  have HPY : Hid ((st == 1) = true → Psb cs V asm) := Lib.hid fun h => by
    obtain rfl : st = 1 := by simpa using h
    exact hA.yes
  have HPN : Hid ((st == 1) = false → ¬ Psb cs V asm) := Lib.hid fun h => by
    rcases hA.nolim (by unfold cmax; omega) with e | e
    · subst e; cases h
    · subst e; exact hA.no (by omega)
  have HB := Lib.hid hb
  have hbs := hb.size
  clear hA hb HSO
  go_wp2
  go_ret2
  refine ⟨_, rfl, ⟨HPY.out, fun h => ?_⟩, (HB.out.alloc hbs _)⟩
  cases hb : (st == 1) with
  | true => rfl
  | false => exact absurd h (HPN.out hb)
/-- an operation whose guard lets it go is as one without a guard -/
theorem unguard {P : Program} {ops : Array Oper} {Q : Exit → Act → World → Prop} {a : Act} {w : World} {rest : List Oper} {d : Option Tmp} {op : Op} {t : TypeId} {ps : String} {af : Array Edge} {g : Option (Nat × Bool)} (hw : Region.wanted ⟨d, op, t, ps, af, g⟩ (yielded ops a.tmps) = true)
    (h : wpList P ops Q (⟨d, op, t, ps, af, none⟩ :: rest) a w) : wpList P ops Q (⟨d, op, t, ps, af, g⟩ :: rest) a w := by
  unfold wpList at *
  rw [if_pos hw]
  rw [if_pos (by rfl)] at h
  exact h
/-- few clauses of few variables -/
structure FewL (V : Int) (cs : List (List Int)) (asm : List Int) : Prop where
  n : cs.length ≤ 60
  l : ∀ c, c ∈ cs → c.length ≤ 20
  a : asm.length ≤ 20
  v : 0 ≤ V ∧ V ≤ 10
  cr : ∀ c, c ∈ cs → ∀ l, l ∈ c → l ≠ 0 ∧ -V ≤ l ∧ l ≤ V
  ar : ∀ l, l ∈ asm → l ≠ 0 ∧ -V ≤ l ∧ l ≤ V
def FewLP (V : Int) (cs : List (List Int)) (asm : List Int) (w : World) (e : Ending) (w' : World) : Prop := ∃ b : Bool, e = .returned (.bool b) ∧ (b = true → FewL V cs asm) ∧ Below w.heap.size w w'
theorem rgt_yes {V : Int} {cl : List (List Int)} (h : rgt cl V = true) : ∀ c, c ∈ cl → ∀ l, l ∈ c → l ≠ 0 ∧ -V ≤ l ∧ l ≤ V := by
  intro c hc l hl
  unfold rgt at h
  rw [Bool.not_eq_true', List.any_eq_false] at h
  have h1 := h c hc
  rw [Bool.not_eq_true, List.any_eq_false] at h1
  exact badl_no.1 (Bool.eq_false_iff.2 (h1 l hl))
theorem rgt_no {V : Int} {cl : List (List Int)} (h : ∀ c, c ∈ cl → ∀ l, l ∈ c → l ≠ 0 ∧ -V ≤ l ∧ l ≤ V) : rgt cl V = true := by
  unfold rgt
  rw [Bool.not_eq_true', List.any_eq_false]
  intro c hc
  rw [Bool.not_eq_true, List.any_eq_false]
  intro l hl
  rw [badl_no.2 (h c hc l hl)]
  simp
set_option maxHeartbeats 4000000 in
set_option maxRecDepth 100000 in
theorem few_any (cv av : Value) (V : Int) (hc : ClsAt w w.heap.size cv cs) (ha : IntsAt w w.heap.size av asm) (hn : Nilv cv) :
    Calls Tryd.prog 8 #[cv, .int .i64 V, av] w (FewLP V cs asm w) := by
  have HBG := Lib.hid (Big_any cv cs 60 20 w w.heap.size hc (by omega) (by omega))
  have HC := Lib.hid hc
  have HA := Lib.hid ha
  have HN := Lib.hid hn
  obtain ⟨ac, capc, bc, offc, vsc, rfl, hmc, _, _, _⟩ := hc
  obtain ⟨aa, capa, ba, offa, rfl, hma, _, _, _⟩ := ha
  unfold maxLen at hmc hma
  clear hn
  go_enter Tryd.func8, Tryd.ntmps8
  go_wp2_with fail
  refine HBG.out.mono ?_
  rintro e w1 ⟨b, rfl, rfl, hf⟩
  cases b
  rotate_left
  · clear hf HBG
    go_wp2
    go_ret
    exact ⟨false, rfl, fun h => (by cases h), Below.refl _ _⟩
  have HS := Lib.hid (hf rfl)
  clear hf HBG
  by_cases h1 : (20 : Int) < (asm.length : Int)
  · go_wp2
    go_ret
    exact ⟨false, rfl, fun h => (by cases h), Below.refl _ _⟩
  have h1' : (asm.length : Int) ≤ 20 := Int.not_lt.1 h1
  by_cases h2 : V < 0
  · go_wp2
    go_ret
    exact ⟨false, rfl, fun h => (by cases h), Below.refl _ _⟩
  have h2' : (0 : Int) ≤ V := Int.not_lt.1 h2
  by_cases h3 : 10 < V
  · go_wp2
    go_ret
    exact ⟨false, rfl, fun h => (by cases h), Below.refl _ _⟩
  have h3' : V ≤ 10 := Int.not_lt.1 h3
  clear h1 h2 h3
  have HX0 := Lib.hid (ClsR.empty w w.heap.size)
  have hbA : Below w.heap.size w (w.alloc (.cells #[] 38)) := (Below.refl _ _).alloc (Nat.le_refl _) _
  have HK0 := Lib.hid (HC.out.keep hbA)
  have HSA : Hid (w.heap.size ≤ (w.alloc (.cells #[] 38)).heap.size) := Lib.hid (by simp)
  have HBA := Lib.hid hbA
  clear hbA
  go_wp2_with (at_builtin; refine unguard rfl ?_; refine wpList_append_cls _ rfl (.tmp 24) (.tmp 25) rfl w.heap.size w.heap.size _ _ [] cs rfl HX0.out rfl HK0.out HN.out ?a1 ?a2 HSA.out (Nat.le_refl _) ?_)
  case a1 => simp
  case a2 => have := HS.out.1; omega
  intro a3 N3 c3 w3 hr3 hb3 hN3
  have HB3 := Lib.hid (HBA.out.trans hb3)
  have hs3 := HB3.out.size
  have HR3 : Hid (ClsR (w3.alloc (.cells #[.slice aa asm.length capa] 38)) w.heap.size w.heap.size (.slice a3 N3 c3) cs) := Lib.hid (ClsR.alloc hr3 hs3 _)
  have HI3 := Lib.hid (cls_one (HA.out.keep HB3.out) hs3 38)
  have HBA3 := Lib.hid (HB3.out.alloc hs3 (.cells #[.slice aa asm.length capa] 38))
  have HSA3 : Hid (w.heap.size ≤ (w3.alloc (.cells #[.slice aa asm.length capa] 38)).heap.size) := Lib.hid (by simp; omega)
  clear hr3 hb3 HK0 HBA HX0 hN3 HSA
  go_wp2_with (at_builtin; refine unguard rfl ?_; refine wpList_append_clsx _ rfl (.tmp 26) (.tmp 28) rfl w.heap.size w.heap.size _ _ cs [asm] rfl HR3.out rfl HI3.out (Nilv.some _ _ _) ?a3 ?a4 HSA3.out (Nat.le_refl _) ?_)
  case a3 => have := HS.out.1; omega
  case a4 => simp
  intro a4 N4 c4 w4 hr4 hb4 hN4
  have HB4 := Lib.hid (HBA3.out.trans hb4)
  have hs4 := HB4.out.size
  have HRG := Lib.hid (Right17_any _ (cs ++ [asm]) V w4 w4.heap.size (hr4.at hs4) h2' (by omega))
  have HFW : Hid (rgt (cs ++ [asm]) V = true → FewL V cs asm) := Lib.hid fun h => by
    have h1 := rgt_yes h
    exact ⟨HS.out.1, HS.out.2, by omega, ⟨h2', h3'⟩, fun c hc => h1 c (List.mem_append_left _ hc), h1 asm (by simp)⟩
  generalize rgt (cs ++ [asm]) V = rb at *
  clear hr4 hb4 hN4 HR3 HI3 HBA3 HSA3 HS
  go_wp2_with fail
  refine HRG.out.mono ?_
  rintro e w5 ⟨rfl, rfl⟩
  go_wp2
  go_ret
  exact ⟨rb, rfl, HFW.out, HB4.out⟩
set_option maxHeartbeats 4000000 in
set_option maxRecDepth 100000 in
/-- the law's model says yes -/
theorem model_any (cv av mv : Value) (st conf : Int) (x2 : Option Addr) (n2 c2 : Nat) (x3 : Option Addr) (n3 c3 : Nat) (m : List Bool) (hc : ClsAt w w.heap.size cv cs) (ha : IntsAt w w.heap.size av asm) (hm : BoolsAt w w.heap.size mv m) (h1 : allIn cs m = true) (h2 : ∀ a, a ∈ asm → holds a m = true) (hV : m.length ≤ 20) :
    Calls Tryd.prog 13 #[.agg #[.int .i64 st, mv, .slice x2 n2 c2, .slice x3 n3 c3, .int .i64 conf], cv, .int .i64 m.length, av] w fun e w' => e = .returned (.bool true) ∧ Below w.heap.size w w' := by
  have hbA : Below w.heap.size w (w.alloc (.cells #[.int .i64 st, mv, .slice x2 n2 c2, .slice x3 n3 c3, .int .i64 conf] 32)) := (Below.refl _ _).alloc (Nat.le_refl _) _
  have HW := Whole.new w 32 [.int .i64 st, mv, .slice x2 n2 c2, .slice x3 n3 c3, .int .i64 conf]
  have q1 := HW.cell 1
  simp only [List.getElem?_cons_zero, List.getElem?_cons_succ] at q1
  have HAL := All_any cv mv cs m (w.alloc (.cells #[.int .i64 st, mv, .slice x2 n2 c2, .slice x3 n3 c3, .int .i64 conf] 32)) w.heap.size w.heap.size (hc.keep hbA) (hm.keep hbA)
  rw [h1] at HAL
  have HAL := Lib.hid HAL
  have HB := Lib.hid hbA
  have HH := Lib.hid h2
  have HMM := Lib.hid (hm.keep hbA)
  have HAI := Lib.hid ha
  obtain ⟨am, capm, bm, offm, rfl, _, _, _⟩ := hm
  obtain ⟨ac, capc, bc, offc, vsc, rfl, _, _, _, _⟩ := hc
  obtain ⟨aa, capa, ba, offa, rfl, hma, haa, hac, _⟩ := ha
  have HAA := Lib.hid haa
  have HAC := Lib.hid hac
  unfold maxLen at hma
  clear haa hac h1 h2 hbA HW
  go_enter Tryd.func13, Tryd.ntmps13
  go_wp2_with fail
  refine HAL.out.mono ?_
  rintro e w1 ⟨rfl, he⟩
  subst he
  generalize w.alloc (.cells #[.int .i64 st, .slice am m.length capm, .slice x2 n2 c2, .slice x3 n3 c3, .int .i64 conf] 32) = w1 at *
  clear HAL
  go_wp2
  go_loop [25] (fun it => ∃ j : Nat, j ≤ asm.length ∧ it = .int .i64 j) (fun it => asm.length - (intOf it).toNat)
  case atStart => exact ⟨0, Nat.zero_le _, rfl⟩
  case round =>
    obtain ⟨j, hj, rfl⟩ := hrel
    by_cases hjl : j < asm.length
    · obtain ⟨rfl, hbB⟩ := HAA.out (by intro h0; rw [h0] at hjl; simp at hjl)
      have q : w1.cell? ⟨ba, offa + j, none⟩ = some (.int .i64 (asm.getD j 0)) := by
        rw [HB.out.cell (show (⟨ba, offa + j, none⟩ : Addr).block < w.heap.size from hbB)]
        exact HAC.out j hjl
      have hmm : asm.getD j 0 ∈ asm := getD_mem (d := 0) hjl
      have hho := Holds_any (asm.getD j 0) _ m w1 w.heap.size HMM.out (HAI.out.in64 _ hmm)
      rw [HH.out _ hmm] at hho
      have HHO := Lib.hid hho
      generalize asm.getD j 0 = x at *
      clear hho hmm
      go_wp2_with fail
      refine HHO.out.mono ?_
      rintro e w5 ⟨rfl, rfl⟩
      go_wp2
      go_round
      case rel => exact ⟨j + 1, by omega, by go_num⟩
      case measure => simp [intOf]; omega
    · obtain rfl : j = asm.length := by omega
      go_wp2
      go_ret
      exact ⟨rfl, HB.out⟩
set_option maxHeartbeats 4000000 in
set_option maxRecDepth 100000 in
/-- the law's core says yes -/
theorem core_any (cv av kv lv : Value) (st conf : Int) (x1 : Option Addr) (n1 c1 : Nat) (V : Nat) (K : List Nat) (l : List (List Int)) (hc : ClsAt w w.heap.size cv cs) (ha : IntsAt w w.heap.size av asm) (hk : IntsAt w w.heap.size kv (clz K)) (hl : ClsAt w w.heap.size lv (l ++ [clz (K.map opp)])) (hn : K.Nodup) (hK : ∀ x, x ∈ K → 2 ≤ x ∧ x < 2 * V + 2 ∧ litOf x ∈ asm) (hlo : LogOk cs V (l ++ [clz (K.map opp)])) (hV : V ≤ 10) :
    Calls Tryd.prog 14 #[.agg #[.int .i64 st, .slice x1 n1 c1, kv, lv, .int .i64 conf], cv, .int .i64 V, av] w fun e w' => e = .returned (.bool true) ∧ Below w.heap.size w w' := by
  have hbA : Below w.heap.size w (w.alloc (.cells #[.int .i64 st, .slice x1 n1 c1, kv, lv, .int .i64 conf] 32)) := (Below.refl _ _).alloc (Nat.le_refl _) _
  have HW := Whole.new w 32 [.int .i64 st, .slice x1 n1 c1, kv, lv, .int .i64 conf]
  have q2 := HW.cell 2
  have q3 := HW.cell 3
  simp only [List.getElem?_cons_zero, List.getElem?_cons_succ] at q2 q3
  have hlt : ∀ x, x ∈ clz K → lit x ∧ x ∈ asm := fun x hx => by
    obtain ⟨y, hy, rfl⟩ := clz_mem.1 hx
    have := hK y hy
    exact ⟨litOf_lit y this.1 (by omega), this.2.2⟩
  have hlen : (clz K).length ≤ 22 := by
    have h1 : (clz K).length = K.length := by unfold clz srt; rw [List.length_map, List.length_mergeSort, List.length_map]
    rw [h1]
    exact nodup_bound hn fun x hx => by have := hK x hx; omega
  have HLT := Lib.hid hlt
  have HLEN := Lib.hid hlen
  have HNO : Hid (¬ Psb cs V (clz K)) := Lib.hid (unsat_no hlo (fun x hx => ⟨(hK x hx).1, by have := (hK x hx).2.1; omega⟩) fun x hx => clz_mem.2 ⟨x, hx, rfl⟩)
  have HSR : Hid (Srt (clz K)) := Lib.hid (clz_srt hn fun x hx => (hK x hx).1)
  have HNP : Hid (normL ((clz K).map fun x => -x) = clz (K.map opp)) := Lib.hid (norm_opp hn fun x hx => (hK x hx).1)
  generalize clz K = C at *
  generalize clz (K.map opp) = D at *
  have HB1 := Lib.hid hbA
  have hsA : (w.alloc (.cells #[.int .i64 st, .slice x1 n1 c1, kv, lv, .int .i64 conf] 32)).heap.size = w.heap.size + 1 := by simp
  have HC := Lib.hid hc
  have HAI := Lib.hid ha
  have HKI := Lib.hid hk
  have HLG := Lib.hid hl
  have HIN : Hid (∀ x, x ∈ C → ∀ w1, Below w.heap.size w w1 → Calls Tryd.prog 30 #[av, .int .i64 x] w1 fun e w' => e = .returned (.bool true) ∧ w1 = w') := Lib.hid fun x hx w1 hb => In_yes av asm x w1 w.heap.size (ha.keep hb) (hlt x hx).2
  clear hn hK hlo hlt hlen
  obtain ⟨ak, capk, bk, offk, rfl, _, hak, hck, _⟩ := hk
  obtain ⟨al, capl, bl, offl, vl, rfl, hml, hall, hcl, hnl⟩ := hl
  obtain ⟨ac, capc, bc, offc, vsc, rfl, _, _, _, _⟩ := hc
  obtain ⟨aa, capa, ba, offa, rfl, _, _, _, _⟩ := ha
  have HAK := Lib.hid hak
  have HCK := Lib.hid hck
  have HSZ := Lib.hid hsA
  have hLL : (l ++ [D]).length = l.length + 1 := by simp
  obtain ⟨rfl, hbl⟩ := hall (by simp)
  have qD := hcl l.length (by omega)
  have hID := hnl l.length (by omega)
  rw [show (l ++ [D]).getD l.length [] = D from by simp] at hID
  unfold maxLen at hml
  rw [hLL] at hml q2 q3 HLG HB1 HW HSZ ⊢
  generalize l.length = M at *
  have HID := Lib.hid hID
  obtain ⟨aD, capD, bD, offD, hvD, hmD, _, _, _⟩ := hID
  rw [hvD] at qD HID
  clear hak hck hall hcl hnl hbA hsA hLL hvD
  have hcn := HLEN.out
  go_enter Tryd.func14, Tryd.ntmps14
  go_wp2
  have hB1 := HB1.out
  have hZ1 := HSZ.out
  generalize w.alloc (.cells #[.int .i64 st, .slice x1 n1 c1, .slice ak C.length capk, .slice (some ⟨bl, offl, none⟩) (M + 1) capl, .int .i64 conf] 32) = w1 at *
  go_loop [19] (fun it => ∃ j : Nat, j ≤ C.length ∧ it = .int .i64 j) (fun it => C.length - (intOf it).toNat)
  case atStart => exact ⟨0, Nat.zero_le _, rfl⟩
  case round =>
    obtain ⟨j, hj, rfl⟩ := hrel
    by_cases hjl : j < C.length
    · obtain ⟨rfl, hbB⟩ := HAK.out (by intro h0; rw [h0] at hjl; simp at hjl)
      have q : w1.cell? ⟨bk, offk + j, none⟩ = some (.int .i64 (C.getD j 0)) := by
        rw [hB1.cell (show (⟨bk, offk + j, none⟩ : Addr).block < w.heap.size from hbB)]
        exact HCK.out j hjl
      have hmm : C.getD j 0 ∈ C := getD_mem (d := 0) hjl
      have HI := Lib.hid (HIN.out _ hmm w1 hB1)
      generalize C.getD j 0 = x at *
      clear hmm
      go_wp2_with fail
      refine HI.out.mono ?_
      rintro e w5 ⟨rfl, rfl⟩
      go_wp2
      go_round
      case rel => exact ⟨j + 1, by omega, by go_num⟩
      case measure => simp [intOf]; omega
    · obtain rfl : j = C.length := by omega
      have HRI := Lib.hid (Right14_any w1 w.heap.size _ C (HKI.out.keep hB1) (by omega) (by omega) (fun x hx => (HLT.out x hx).1) HSR.out)
      go_wp2_with fail
      refine HRI.out.mono ?_
      rintro e w2 ⟨rfl, hb2⟩
      have HB2 := Lib.hid (hB1.trans (hb2.mono (by omega)))
      have hs2 : w.heap.size + 1 ≤ w2.heap.size := by have := hb2.size; omega
      have k2 := (hb2.cell (show (⟨w.heap.size, 2, none⟩ : Addr).block < w1.heap.size from by show w.heap.size < _; omega)).trans q2
      have k3 := (hb2.cell (show (⟨w.heap.size, 3, none⟩ : Addr).block < w1.heap.size from by show w.heap.size < _; omega)).trans q3
      have HPO := Lib.hid (Possible17_any _ _ cs C V w2 ((HC.out.keep HB2.out).mono (by omega)) ((HKI.out.keep HB2.out).mono (by omega)) hV)
      clear hb2 q2 q3 hB1 HRI
      go_wp2_with fail
      refine HPO.out.mono ?_
      rintro e w3 ⟨p, rfl, hp, hb3⟩
      have hpf : p = false := by
        cases p
        · rfl
        · exact absurd (hp.1 rfl) HNO.out
      subst hpf
      have g2 := (hb3.cell (show (⟨w.heap.size, 2, none⟩ : Addr).block < w2.heap.size from by show w.heap.size < _; omega)).trans k2
      have g3 := (hb3.cell (show (⟨w.heap.size, 3, none⟩ : Addr).block < w2.heap.size from by show w.heap.size < _; omega)).trans k3
      have HB3 := Lib.hid (HB2.out.trans (hb3.mono (by omega)))
      have hs3 : w.heap.size + 1 ≤ w3.heap.size := by have := hb3.size; omega
      clear hb3 hp HPO k2 k3
      have hM1 : ((M : Int) + 1 == 0) = false := by rw [beq_eq_false_iff_ne]; omega
      have HE0 : Hid (IntsR (w3.alloc (.cells #[] 3)) (w.heap.size + 1) (.slice (some ⟨w3.heap.size, 0, none⟩) 0 0) []) := Lib.hid (World.ownsRow.mono (IntsR.empty w3) hs3)
      have hbA : Below (w.heap.size + 1) w3 (w3.alloc (.cells #[] 3)) := (Below.refl _ _).alloc hs3 _
      have e2 := (hbA.cell (show (⟨w.heap.size, 2, none⟩ : Addr).block < w.heap.size + 1 from by show w.heap.size < _; omega)).trans g2
      have e3 := (hbA.cell (show (⟨w.heap.size, 3, none⟩ : Addr).block < w.heap.size + 1 from by show w.heap.size < _; omega)).trans g3
      have HBX0 : Hid (Below w.heap.size w (w3.alloc (.cells #[] 3)) ∧ w.heap.size + 1 ≤ (w3.alloc (.cells #[] 3)).heap.size) := Lib.hid ⟨HB3.out.trans (hbA.mono (by omega)), by simp; omega⟩
      go_wp2
      generalize w3.heap.size = z3 at *
      go_loopw [11, 49] (fun fv it wr => ∃ (k n cp : Nat) (ao : Option Addr), k ≤ C.length ∧ it = .int .i64 k ∧ fv = .slice ao n cp ∧ IntsR wr (w.heap.size + 1) (.slice ao n cp) ((C.take k).map fun x => -x) ∧ Below w.heap.size w wr ∧ w.heap.size + 1 ≤ wr.heap.size ∧ wr.cell? ⟨w.heap.size, 3, none⟩ = some (.slice (some ⟨bl, offl, none⟩) (M + 1) capl)) (fun _ it _ => C.length - (intOf it).toNat)
      case atStart => exact ⟨0, 0, 0, _, Nat.zero_le _, rfl, rfl, HE0.out, HBX0.out.1, HBX0.out.2, e3⟩
      case round =>
        clear HE0 HBX0 e2 e3 hbA g2 g3
        obtain ⟨k, n, cp, ao, hk, rfl, rfl, hr, hb, hws, h3⟩ := hrel
        have HR := Lib.hid hr
        have HB := Lib.hid hb
        by_cases hlt : k < C.length
        · obtain ⟨rfl, hbB⟩ := HAK.out (by intro h0; rw [h0] at hlt; simp at hlt)
          have q : wr.cell? ⟨bk, offk + k, none⟩ = some (.int .i64 (C.getD k 0)) := by rw [hb.cell (show (⟨bk, offk + k, none⟩ : Addr).block < w.heap.size from by show bk < _; omega)]; exact HCK.out k hlt
          have hmm : C.getD k 0 ∈ C := getD_mem (d := 0) hlt
          have hlx := (HLT.out _ hmm).1
          obtain ⟨_, b1, b2⟩ := hlx
          have HSN : Hid ((C.take (k + 1)).map (fun x => -x) = (C.take k).map (fun x => -x) ++ [-(C.getD k 0)]) := Lib.hid (by rw [take_snoc hlt]; simp)
          have HXN := Lib.hid (ints_new wr (-(C.getD k 0)) (by unfold In64; omega))
          have HRA := Lib.hid (HR.out.alloc (.cells #[.int .i64 (-(C.getD k 0))] 3))
          have HS2 : Hid (w.heap.size + 1 ≤ (wr.alloc (.cells #[.int .i64 (-(C.getD k 0))] 3)).heap.size) := Lib.hid (by simp; omega)
          have HBA := Lib.hid (HB.out.alloc (by omega) (.cells #[.int .i64 (-(C.getD k 0))] 3))
          have HBC : Hid (Below (w.heap.size + 1) wr (wr.alloc (.cells #[.int .i64 (-(C.getD k 0))] 3))) := Lib.hid ((Below.refl _ _).alloc hws _)
          have HL0 : Hid (((C.take k).map fun x => -x).length ≤ 1000000) := Lib.hid (by simp; omega)
          have HL1 : Hid ([-(C.getD k 0)].length ≤ 1000000) := Lib.hid (by simp)
          have H3 := Lib.hid h3
          generalize C.getD k 0 = x at *
          clear hr hb hmm h3
          go_wp2_with (at_builtin; refine wpList_append_ints _ rfl (.tmp 53) (.tmp 56) 23 rfl Tryd.underlying23 (w.heap.size + 1) (.slice ao n cp) (.slice (some ⟨wr.heap.size, 0, none⟩) 1 1) ((C.take k).map fun x => -x) [-x] rfl HRA.out rfl HXN.out (Nilv.some _ _ _) HL0.out HL1.out HS2.out ?_)
          intro a1 n1 c1 w4 ho1 hb1 hn1
          have HO1 : Hid (IntsR w4 (w.heap.size + 1) (.slice a1 n1 c1) ((C.take (k + 1)).map fun x => -x)) := Lib.hid (by rw [HSN.out, List.map_take]; exact ho1)
          have HB1' := Lib.hid (HBA.out.trans (hb1.mono (by omega)))
          have HS4 : Hid (w.heap.size + 1 ≤ w4.heap.size) := Lib.hid (Nat.le_trans HS2.out hb1.size)
          have H34 : Hid (w4.cell? ⟨w.heap.size, 3, none⟩ = some (.slice (some ⟨bl, offl, none⟩) (M + 1) capl)) := Lib.hid (((HBC.out.trans hb1).cell (show (⟨w.heap.size, 3, none⟩ : Addr).block < w.heap.size + 1 from by show w.heap.size < _; omega)).trans H3.out)
          clear ho1 hb1 HSN HXN HRA HS2 HBA HBC HL0 HL1 H3
          go_wp2
          go_roundw
          case rel => exact ⟨k + 1, _, _, _, by omega, by go_num, rfl, HO1.out, HB1'.out, HS4.out, H34.out⟩
          case measure => simp [intOf]; omega
        · obtain rfl : k = C.length := by omega
          rw [List.take_length] at hr
          have h64 : ∀ x ∈ C.map fun x => -x, In64 x := fun x hx => by
            obtain ⟨y, hy, rfl⟩ := List.mem_map.1 hx
            have := (HLT.out y hy).1
            unfold lit at this
            unfold In64
            omega
          have HNO2 := Lib.hid (Norm_any wr wr.heap.size _ (C.map fun x => -x) (hr.at h64) (Nat.le_refl _) (by simp; omega))
          have hn : n = C.length := by
            obtain ⟨a', c', he⟩ := own_slice hr
            injection he with _ e _
            simpa using e
          subst hn
          have HW4 := Lib.hid h3
          clear hr h64 hb HR h3
          go_wp2_with fail
          refine HNO2.out.mono ?_
          rintro e w4 (⟨_, v, rfl, hv, hb4⟩ | ⟨⟨x, hx, hnx⟩, rfl, hb4⟩)
          · rw [HNP.out] at hv
            have HV := Lib.hid hv
            have HB4 := Lib.hid (HB.out.trans (hb4.mono (by omega)))
            have q3 := (hb4.cell (show (⟨w.heap.size, 3, none⟩ : Addr).block < wr.heap.size from by show w.heap.size < _; omega)).trans HW4.out
            have qL : w4.cell? ⟨bl, offl + M, none⟩ = some (.slice aD D.length capD) := (HB4.out.cell (show (⟨bl, offl + M, none⟩ : Addr).block < w.heap.size from hbl)).trans qD
            have hs4 := hb4.size
            have HSA := Lib.hid (Same_any _ v D D w4 w4.heap.size ((HID.out.keep HB4.out).mono (by omega)) hv.at)
            obtain ⟨b2, off2, cap2, hvv, _⟩ := hv
            subst hvv
            clear hb4 HNO2 qD
            go_wp2_with fail
            refine HSA.out.mono ?_
            rintro e w5 ⟨rfl, hb5⟩
            have HB5 := Lib.hid (HB4.out.trans (hb5.mono (by omega)))
            clear hb5
            rw [decide_true]
            go_wp2
            go_ret
            exact ⟨rfl, HB5.out⟩
          · obtain ⟨y, hy, rfl⟩ := List.mem_map.1 hx
            exact absurd (lit_neg (HLT.out y hy).1) hnx
end
end Go.Proofs.YtjeckkkmoabjnaaDoor.satMd
