/-
  Clauses that are appended; the law ProofMore.
-/
import Derived.Test.YtojjjndhabjhdaaProofT
import Derived.ChangeSlices
namespace Go.Proofs.Ytojjjndhabjhdaa.proofU
open Go.ChangeShapes Go.WideShapes Go.ChangeAt Go.RowKit proofP proofQ proofR owns proofA proofI proofM proofN proofO proofS proofT cls
set_option linter.unusedSimpArgs false
set_option linter.unusedVariables false

theorem arg_nilv {H : Type} {enc : TypeId × Value → H} {W : World} {base : Nat} {t e : TypeId} (ht : Try.prog.underlying t = some (.slice e)) {v : Value} {d : DataW H} {ps : List MemPlace} (ok : Value.okWide Try.prog W .any base t v)
    (h : DataW.Trod enc Try.prog W 0 (fun _ => true) true t v d ps) : Nilv v := by
  obtain ⟨a0, len, cap, rfl⟩ := okWide_slice ht ok
  obtain ⟨fuel, hf⟩ := h
  rcases DataW.trod_slice ht hf with ⟨hcs, _⟩ | ⟨a, len', cap', elems, rest, n, rfl, hcs, _⟩
  · intro n c e
    rw [e] at hcs
    have := (List.cons.inj hcs).1
    cases this; exact ⟨rfl, rfl⟩
  · intro n c e
    rw [e] at hcs
    have := (List.cons.inj hcs).1
    cases this

theorem infoC : (Try.prog.info? 30).map (fun i => (i.zero, i.size, i.bytes)) = some (some (.slice none 0 0), 1, 24) := by kernel_rfl
def valsOf (vs : Nat → Value) (m : Nat) : List Value := (List.range m).map vs
theorem valsOf_len (vs : Nat → Value) (m : Nat) : (valsOf vs m).length = m := by simp [valsOf]
theorem valsOf_at {vs : Nat → Value} {m i : Nat} (h : i < m) : (valsOf vs m)[i]? = some (vs i) := by simp [valsOf, h]

/-- a row of clauses of the call's own, whose clauses lie elsewhere -/
def ClsR (w : World) (B0 base : Nat) (v : Value) (cl : List (List Int)) : Prop := ∃ vl, w.ownsRow base 30 1 v cl.length vl ∧ ∀ i, i < cl.length → IntsAt w B0 (vl.getD i undef) (cl.getD i [])
theorem ClsR.at {w : World} {B0 base : Nat} {v : Value} {cl : List (List Int)} (h : ClsR w B0 base v cl) (hB : B0 ≤ w.heap.size) : ClsAt w w.heap.size v cl := by
  obtain ⟨vl, h1, h2⟩ := h
  exact ClsAt.ofRow h1 (fun i hi => (h2 i hi).mono hB)
theorem ClsR.empty (w : World) (B0 : Nat) : ClsR (w.alloc (.cells #[] 30)) B0 w.heap.size (.slice (some ⟨w.heap.size, 0, none⟩) 0 0) [] := ⟨[], own_empty w _, fun i hi => absurd hi (Nat.not_lt_zero _)⟩
theorem ClsR.alloc {w : World} {B0 base : Nat} {v : Value} {cl : List (List Int)} (h : ClsR w B0 base v cl) (hB : B0 ≤ w.heap.size) (o : Obj) : ClsR (w.alloc o) B0 base v cl := by
  obtain ⟨vl, h1, h2⟩ := h
  exact ⟨vl, h1.alloc o, fun i hi => (h2 i hi).keep ((Below.refl _ _).alloc hB o)⟩
theorem ints_one {w : World} {B : Nat} {v : Value} {l : List Int} (h : IntsAt w B v l) : v.oneCell' = true := by
  obtain ⟨ao, cap, b, off, rfl, _⟩ := h; rfl

section
variable (w : World)
theorem wpList_append_cls {ops : Array Oper} {rest : List Oper} {o : Oper} {a : Act} {Q : Exit → Act → World → Prop} (hgd : o.guard = none) (s x : Operand)
    (ho : o.op = .call { callee := .builtin .append, args := #[s, x], argTypes := #[22, 22] })
    (B0 base : Nat) (v xv : Value) (cl log : List (List Int)) (hs : a.eval s = v) (hr : ClsR w B0 base v cl) (hx : a.eval x = xv) (hxv : ClsAt w B0 xv log) (hnil : Nilv xv)
    (h1 : cl.length ≤ 100000) (h2 : log.length ≤ 100000) (hbase : base ≤ w.heap.size) (hB : B0 ≤ base)
    (h : ∀ ao N c w', ClsR w' B0 base (.slice ao N c) (cl ++ log) → Below base w w' → N ≤ 200000 → wpList Try.prog ops Q rest (a.put o.dst (.slice ao N c)) w') :
    wpList Try.prog ops Q (o :: rest) a w := by
  obtain ⟨i0, hi0, hz0, hz1, hz2⟩ := info_parts infoC
  obtain ⟨vl, ho1, hin⟩ := hr
  obtain ⟨ao, cap, b, off, vs, rfl, _, ha, hc, hn⟩ := hxv
  have hlen : vl.length = cl.length := by have := ho1.1; omega
  refine wpList_append_opt w hgd s x _ ho base 30 i0 (.slice none 0 0) 24 Try.underlying22 hi0 hz0 hz1 hz2 rfl v cl.length vl hs ho1 ao log.length cap (valsOf vs log.length) hx (fun h0 => ?_) (valsOf_len _ _) ?_ ?_ (by unfold maxLen; omega) (by omega) hbase ?_
  · subst h0; exact hnil _ _ rfl
  · intro ad had j u hu
    have hj : j < log.length := by have := (List.getElem?_eq_some_iff.1 hu).1; rwa [valsOf_len] at this
    rw [valsOf_at hj] at hu
    obtain ⟨rfl, _⟩ := ha (by intro h0; rw [h0] at hj; simp at hj)
    cases had; cases hu
    rw [proofT.clsadd]; exact hc j hj
  · intro u hu
    obtain ⟨j, hj, rfl⟩ := List.mem_map.1 hu
    exact ints_one (hn j (by simpa using hj))
  · intro v' w' ho' hg' _
    have hb : Below base w w' := (Below.refl base w).grown hg' hbase (fun j hj => (ho1.lt j hj).1)
    obtain ⟨a3, c3, hv3, _, _, _⟩ := cap_row ho'
    subst hv3
    refine h a3 _ c3 w' ⟨vl ++ valsOf vs log.length, by rw [List.length_append]; exact ho', fun i hi => ?_⟩ hb (by omega)
    rw [List.length_append] at hi
    by_cases hlt : i < cl.length
    · rw [List.getD_eq_getElem?_getD, List.getElem?_append_left (by omega), List.getD_eq_getElem?_getD, List.getElem?_append_left hlt, ← List.getD_eq_getElem?_getD, ← List.getD_eq_getElem?_getD]
      exact (hin i hlt).keep (hb.mono hB)
    · rw [List.getD_eq_getElem?_getD, List.getElem?_append_right (by omega), List.getD_eq_getElem?_getD, List.getElem?_append_right (by omega), hlen, valsOf_at (by omega), ← List.getD_eq_getElem?_getD]
      exact (hn (i - cl.length) (by omega)).keep (hb.mono hB)
end

theorem app_self (cl log : List (List Int)) : bad (cl ++ log) cl = -1 := bad_none fun j hj => pl_self (by
  apply List.mem_append_left; apply List.mem_append_left
  rw [List.getD_eq_getElem?_getD, List.getElem?_eq_getElem hj]; exact List.getElem_mem hj)

set_option maxRecDepth 100000 in
set_option maxHeartbeats 4000000 in
theorem law_more (cv lv vc : Value) (cl log : List (List Int)) (c : List Int) (w : World) (hc : ClsAt w w.heap.size cv cl) (hl : ClsAt w w.heap.size lv log) (hv : IntsAt w w.heap.size vc c) (hn1 : Nilv cv) (hn2 : Nilv lv) :
    Calls Try.prog 4 #[cv, lv, vc] w fun e w' => e = .returned (.bool true) ∧ Below w.heap.size w w' := by
  have HC := Lib.hid hc
  have HL := Lib.hid hl
  have HV := Lib.hid hv
  have HN1 := Lib.hid hn1
  have HN2 := Lib.hid hn2
  have HAL := Lib.hid (alive_any w)
  obtain ⟨ac, capc, bc, offc, vsc, rfl, _, _, _, _⟩ := hc
  obtain ⟨al, capl, bl, offl, vsl, rfl, _, _, _, _⟩ := hl
  obtain ⟨av, capv, bv, offv, rfl, hmv, _, _, _⟩ := hv
  unfold maxLen at hmv
  clear hn1 hn2
  go_enter Try.func4, Try.ntmps4
  go_wp2_with fail
  refine HAL.out.mono ?_
  rintro e w1 ⟨rfl, hb1⟩
  have HB1 := Lib.hid hb1
  have HBG := Lib.hid (big_any _ _ cl log w1 w.heap.size (HC.out.keep hb1) (HL.out.keep hb1))
  have hs1 := hb1.size
  have HRI := Lib.hid (fun (h : c.length ≤ 10) => Right14_some w1 w.heap.size _ c (HV.out.keep HB1.out) hs1 (by omega))
  clear hb1 HAL
  go_wp2_with fail
  refine HBG.out.mono ?_
  rintro e w2 ⟨b, rfl, rfl, hf⟩
  cases b
  rotate_left
  · clear hf HBG
    go_wp2
    go_ret
    exact ⟨rfl, HB1.out⟩
  have HF := Lib.hid (hf rfl)
  clear hf HBG
  by_cases hlen : c.length ≤ 10
  rotate_left
  · clear HRI
    go_wp2
    go_ret
    exact ⟨rfl, HB1.out⟩
  have HRI2 := Lib.hid (HRI.out hlen)
  clear HRI
  go_wp2_with fail
  refine HRI2.out.mono ?_
  rintro e w2 ⟨b, rfl, hb2⟩
  have HB2 := Lib.hid (HB1.out.trans (hb2.mono hs1))
  clear hb2 HRI2
  cases b
  · go_wp2
    go_ret
    exact ⟨rfl, HB2.out⟩
  have hs2 := HB2.out.size
  have hbA := HB2.out.alloc hs2 (.cells #[] 30)
  have HX0 := Lib.hid (ClsR.empty w2 w.heap.size)
  have HK0 := Lib.hid (HC.out.keep hbA)
  have HBA := Lib.hid hbA
  have hsA : w2.heap.size ≤ (w2.alloc (.cells #[] 30)).heap.size := by simp
  have HSA := Lib.hid hsA
  clear hbA hsA
  go_wp2_with (at_builtin; refine wpList_append_cls _ rfl (.tmp 23) (.tmp 24) rfl w.heap.size w2.heap.size _ _ [] cl rfl HX0.out rfl HK0.out HN1.out ?a1 ?a2 HSA.out hs2 ?_)
  case a1 => simp
  case a2 => have := HF.out.1; omega
  intro a3 N3 c3 w3 hr3 hb3 hN3
  have HR3 : Hid (ClsR w3 w.heap.size w2.heap.size (.slice a3 N3 c3) cl) := Lib.hid hr3
  have HB3 := Lib.hid (HBA.out.trans (hb3.mono hs2))
  have hs3 : w2.heap.size ≤ w3.heap.size := Nat.le_trans HSA.out hb3.size
  clear hr3 hb3 HK0 HBA HX0
  go_wp2_with (at_builtin; refine wpList_append_cls _ rfl (.tmp 25) (.tmp 26) rfl w.heap.size w2.heap.size _ _ cl log rfl HR3.out rfl (HL.out.keep HB3.out) HN2.out ?a3 ?a4 hs3 hs2 ?_)
  case a3 => have := HF.out.1; omega
  case a4 => have := HF.out.2.2.1; omega
  intro a4 N4 c4 w4 hr4 hb4 hN4
  have HB4 := Lib.hid (HB3.out.trans (hb4.mono hs2))
  have hs4 := HB4.out.size
  have HR4 := Lib.hid (hr4.at hs4)
  have HP1 := Lib.hid (Plain_any w4 w.heap.size _ _ cl c (HC.out.keep HB4.out) (HV.out.keep HB4.out) hs4 (by have := HF.out.1; omega) (fun c hc => by have := HF.out.2.1 c hc; omega) (by omega))
  clear hr4 hb4 HR3 HSA hs3
  have HLA : Hid ((cl ++ log).length ≤ 42) := Lib.hid (by rw [List.length_append]; have := HF.out.1; have := HF.out.2.2.1; omega)
  have HLB : Hid (∀ d ∈ cl ++ log, d.length ≤ 10) := Lib.hid (fun d hd => by rcases List.mem_append.1 hd with h | h; exact HF.out.2.1 d h; exact HF.out.2.2.2 d h)
  have HMO := Lib.hid (fun (h : pl cl c = true) => pl_mono (cl' := cl ++ log) (fun x hx => List.mem_append_left _ hx) h)
  go_wp2_with fail
  refine HP1.out.mono ?_
  rintro e w5 ⟨rfl, hb5⟩
  have HB5 := Lib.hid (HB4.out.trans (hb5.mono hs4))
  have HR5 := Lib.hid (HR4.out.keep hb5)
  have hs45 := hb5.size
  have hs5 := HB5.out.size
  have HP2 := Lib.hid (fun (h : pl (cl ++ log) c = true) => h ▸ Plain_any w5 w5.heap.size _ _ (cl ++ log) c (HR5.out.mono hs45) ((HV.out.keep HB5.out).mono hs5) (Nat.le_refl _) (by have := HLA.out; omega) (fun c hc => by have := HLB.out c hc; omega) (by omega))
  have HTL : Hid (∀ w6 : World, Below w.heap.size w w6 → Below w4.heap.size w4 w6 → Calls Try.prog 14 #[.slice (some ⟨w6.heap.size, 0, none⟩) 1 1, .slice av c.length capv] (w6.alloc (.cells #[.slice av c.length capv] 30)) fun e w' => e = .returned (.bool true) ∧ Below w.heap.size w w' ∧ Below w4.heap.size w4 w') := Lib.hid (fun w6 hb6 hb46 => by
    have hw := Whole.new w6 30 [.slice av c.length capv]
    have hsz : (w6.alloc (.cells #[.slice av c.length capv] 30)).heap.size = w6.heap.size + 1 := by simp
    have hs6 := hb6.size
    have hba := hb6.alloc hs6 (.cells #[.slice av c.length capv] 30)
    have hcb := cls_block (l := [c]) (B := w6.heap.size + 1) hw (by omega) (by unfold maxLen; simp) rfl (fun i hi => by
      obtain rfl : i = 0 := by simp at hi; omega
      exact (HV.out.keep hba).mono (by omega)) 1
    have hp := Plain_any _ (w6.heap.size + 1) _ _ [c] c hcb ((HV.out.keep hba).mono (by omega)) (by omega) (by simp) (fun d hd => by simp at hd; rw [hd]; omega) (by omega)
    rw [pl_self (by simp)] at hp
    refine hp.mono ?_
    rintro e w7 ⟨rfl, hb7⟩
    exact ⟨rfl, hba.trans (hb7.mono (by omega)), (hb46.alloc hb46.size _).trans (hb7.mono (by have := hb46.size; omega))⟩)
  have HCK : Hid (∀ w6 : World, Below w.heap.size w w6 → Below w4.heap.size w4 w6 → Calls Try.prog 11 #[.slice a4 N4 c4, .slice ac cl.length capc] w6 fun e w' => e = .returned (.int .i64 (-1)) ∧ Below w.heap.size w w') := Lib.hid (fun w6 hb6 hb46 => by
    have hp := Check_any w6 w6.heap.size _ _ (cl ++ log) cl ((HR4.out.keep hb46).mono hb46.size) ((HC.out.keep hb6).mono hb6.size) (Nat.le_refl _) (by have := HLA.out; omega) (by have := HF.out.1; omega) (fun c hc => by have := HLB.out c hc; omega) (fun c hc => by have := HF.out.2.1 c hc; omega)
    rw [app_self] at hp
    refine hp.mono ?_
    rintro e w7 ⟨rfl, hb7⟩
    exact ⟨rfl, hb6.trans (hb7.mono hb6.size)⟩)
  have HB45 := Lib.hid hb5
  generalize hpl : pl cl c = r at *
  clear hpl hb5 HP1
  cases r
  · clear HP2 HMO
    go_wp2_with fail
    refine (HTL.out _ HB5.out HB45.out).mono ?_
    rintro e w6 ⟨rfl, hb6, hb46⟩
    have HQ := Lib.hid (HCK.out w6 hb6 hb46)
    clear hb6 hb46 HTL HCK
    go_wp2_with fail
    refine HQ.out.mono ?_
    rintro e w7 ⟨rfl, hb7⟩
    have HB7 := Lib.hid hb7
    clear hb7 HQ
    go_wp2
    go_ret
    exact ⟨rfl, HB7.out⟩
  · have HPP := Lib.hid (HP2.out (HMO.out rfl))
    clear HP2 HMO
    go_wp2_with fail
    refine HPP.out.mono ?_
    rintro e w6 ⟨rfl, hb6⟩
    have HB6 := Lib.hid (HB5.out.trans (hb6.mono hs5))
    have HB46 := Lib.hid (HB45.out.trans (hb6.mono hs45))
    clear hb6 HPP
    go_wp2_with fail
    refine (HTL.out _ HB6.out HB46.out).mono ?_
    rintro e w7 ⟨rfl, hb7, hb47⟩
    have HQ := Lib.hid (HCK.out w7 hb7 hb47)
    clear hb7 hb47 HTL HCK
    go_wp2_with fail
    refine HQ.out.mono ?_
    rintro e w8 ⟨rfl, hb8⟩
    have HB8 := Lib.hid hb8
    clear hb8 HQ
    go_wp2
    go_ret
    exact ⟨rfl, HB8.out⟩
end Go.Proofs.Ytojjjndhabjhdaa.proofU
