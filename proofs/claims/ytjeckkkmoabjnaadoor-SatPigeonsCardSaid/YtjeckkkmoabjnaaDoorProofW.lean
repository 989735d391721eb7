/-
  Contracts of the reference's Plain and Bad, and of proof.Refutes.
-/
import Derived.Test.YtjeckkkmoabjnaaDoorPsM
import Derived.Test.YtjeckkkmoabjnaaDoorProofV
namespace Go.Proofs.YtjeckkkmoabjnaaDoor.proofW
open Go.ChangeShapes Go.WideShapes Go.ChangeAt Go.RowKit proofP proofQ proofR owns proofN proofO proofS proofT proofU proofV cls
set_option linter.unusedSimpArgs false
set_option linter.unusedVariables false

/-- the opposite, as the machine reckons it -/
def ng (x : Int) : Int := if x = -9223372036854775808 then x else -x
theorem ng_in {x : Int} (h : In64 x) : In64 (ng x) := by unfold ng In64 at *; split <;> omega
theorem ng_wrap {x : Int} (h : In64 x) : IntKind.i64.wrap (-x) = ng x := by
  unfold ng
  split
  · rename_i e; subst e; rfl
  · exact IntWalk.i64_in _ (by unfold In64 at h; omega)
theorem ng_lit {x : Int} (h : lit x) : ng x = -x := by unfold ng lit at *; rw [if_neg (by omega)]
theorem ng_back {x : Int} (h : lit (ng x)) : lit x := by unfold ng lit at *; split at h <;> omega
theorem clash_ng {cl : List (List Int)} {c : List Int} : Clash cl (c.map ng) ↔ Plain cl c := by
  unfold Plain
  constructor
  · refine Clash.from fun x hx hl => ?_
    obtain ⟨y, hy, rfl⟩ := List.mem_map.1 hx
    exact List.mem_map.2 ⟨y, hy, (ng_lit (ng_back hl)).symm⟩
  · refine Clash.from fun x hx hl => ?_
    obtain ⟨y, hy, rfl⟩ := List.mem_map.1 hx
    exact List.mem_map.2 ⟨y, hy, ng_lit (lit_back hl)⟩
theorem map_snoc {c : List Int} {j : Nat} (h : j < c.length) : (c.take (j + 1)).map ng = (c.take j).map ng ++ [ng (c.getD j 0)] := by rw [take_snoc h]; simp
theorem map_in {c : List Int} (h : ∀ x ∈ c, In64 x) : ∀ x ∈ c.map ng, In64 x := fun x hx => by
  obtain ⟨y, hy, rfl⟩ := List.mem_map.1 hx; exact ng_in (h y hy)
theorem row_below {w w' : World} {B : Nat} {e : TypeId} {v : Value} {n : Nat} {xs : List Value} (h : w.ownsRow B e 1 v n xs) (hb : Below w.heap.size w w') : w'.ownsRow B e 1 v n xs :=
  h.kept (row := none) ⟨hb.os, hb.tape, hb.output, hb.size, fun k hk _ => hb.block k hk⟩ (Classical.em _)
theorem _root_.Go.Proofs.YtjeckkkmoabjnaaDoor.proofU.ClsR.below {w w' : World} {B0 base : Nat} {v : Value} {cl : List (List Int)} (h : ClsR w B0 base v cl) (hb : Below w.heap.size w w') (hB : B0 ≤ w.heap.size) : ClsR w' B0 base v cl := by
  obtain ⟨vl, h1, h2⟩ := h
  exact ⟨vl, row_below h1 hb, fun i hi => (h2 i hi).keep (hb.mono hB)⟩

set_option maxRecDepth 100000 in
set_option maxHeartbeats 4000000 in
theorem RPlain_any (w : World) (B : Nat) (cv vc : Value) (cl : List (List Int)) (c : List Int) (hc : ClsAt w B cv cl) (hv : IntsAt w B vc c) (hB : B ≤ w.heap.size) (hs : ∀ c ∈ cl, c.length ≤ 50000) (hlen : c.length ≤ 50000) :
    Calls Tryd.prog 26 #[cv, vc] w fun e w' => e = .returned (.bool (pl cl c)) ∧ Below w.heap.size w w' := by
  have HC := Lib.hid hc
  have HV := Lib.hid hv
  have HS := Lib.hid hs
  obtain ⟨ac, capc, bc, offc, vs, rfl, _, _, _, _⟩ := hc
  obtain ⟨av, capv, bv, offv, rfl, hvm, hva, hvc, hv64⟩ := hv
  have HVA := Lib.hid hva
  have HVC := Lib.hid hvc
  have H64 := Lib.hid hv64
  have HE0 := Lib.hid (IntsR.empty w)
  have HBA : Hid (Below w.heap.size w (w.alloc (.cells #[] 3))) := Lib.hid ((Below.refl _ _).alloc (Nat.le_refl _) _)
  clear hva hvc hv64 hs hvm
  go_enter Tryd.func26, Tryd.ntmps26
  go_wp2
  go_loopw [5, 13] (fun fv it wr => ∃ (k n cp : Nat) (ao : Option Addr), k ≤ c.length ∧ it = .int .i64 k ∧ fv = .slice ao n cp ∧ IntsR wr w.heap.size (.slice ao n cp) ((c.take k).map ng) ∧ Below w.heap.size w wr) (fun _ it _ => c.length - (intOf it).toNat)
  case atStart => exact ⟨0, 0, 0, _, Nat.zero_le _, rfl, rfl, HE0.out, HBA.out⟩
  case round =>
    clear HE0 HBA
    obtain ⟨k, n, cp, ao, hk, rfl, rfl, hr, hb⟩ := hrel
    have HR := Lib.hid hr
    have HB := Lib.hid hb
    have hws := hb.size
    by_cases hlt : k < c.length
    · obtain ⟨rfl, hbB⟩ := HVA.out (by intro h0; rw [h0] at hlt; simp at hlt)
      have q : wr.cell? ⟨bv, offv + k, none⟩ = some (.int .i64 (c.getD k 0)) := by rw [hb.cell (show (⟨bv, offv + k, none⟩ : Addr).block < w.heap.size from by show bv < _; omega)]; exact HVC.out k hlt
      have HMM := Lib.hid (getD_mem (d := 0) hlt)
      have hi64 := H64.out _ HMM.out
      have HCV := Lib.hid (HV.out.keep (hb.mono hB))
      have HSN := Lib.hid (map_snoc hlt)
      have HXN := Lib.hid (ints_new wr (ng (c.getD k 0)) (ng_in hi64))
      have hwp := ng_wrap hi64
      have HWP := Lib.hid hwp
      have HRA := Lib.hid (HR.out.alloc (.cells #[.int .i64 (ng (c.getD k 0))] 3))
      have HS2 : Hid (w.heap.size ≤ (wr.alloc (.cells #[.int .i64 (ng (c.getD k 0))] 3)).heap.size) := Lib.hid (by simp; omega)
      have HBA := Lib.hid (HB.out.alloc hws (.cells #[.int .i64 (ng (c.getD k 0))] 3))
      have HL0 : Hid (((c.take k).map ng).length ≤ 1000000) := Lib.hid (by simp; omega)
      have HL1 : Hid ([ng (c.getD k 0)].length ≤ 1000000) := Lib.hid (by simp)
      have HLN := Lib.hid (fun h => ng_lit (x := c.getD k 0) h)
      generalize c.getD k 0 = x at *
      obtain ⟨i1, i2⟩ := hi64
      clear hr hb
      by_cases hx : lit x
      · have HX := Lib.hid hx
        have b1 : -20000 ≤ x := hx.2.1
        have b2 : x ≤ 20000 := hx.2.2
        rw [HLN.out hx] at HXN HRA HS2 HBA HL1 HSN
        by_cases hin : -x ∈ c
        · have HIN := Lib.hid (In_yes _ c (-x) wr _ HCV.out hin)
          have HE := Lib.hid (pl_taut (cl := cl) HMM.out hx hin)
          clear hx hin hwp
          go_wp2_with (first | (go_at_call 50; refine (Is_yes _ _ HX.out).mono ?_; rintro e w' ⟨rfl, rfl⟩) | (go_at_call 30; refine HIN.out.mono ?_; rintro e w' ⟨rfl, rfl⟩))
          go_ret
          exact ⟨by rw [HE.out]; rfl, HB.out⟩
        · have HIN := Lib.hid (In_no _ c (-x) wr _ HCV.out hin)
          clear hx hin hwp
          go_wp2_with (first | (go_at_call 50; refine (Is_yes _ _ HX.out).mono ?_; rintro e w' ⟨rfl, rfl⟩) | (go_at_call 30; refine HIN.out.mono ?_; rintro e w' ⟨rfl, rfl⟩) | (at_builtin; refine wpList_append_ints _ rfl (.tmp 25) (.tmp 28) 23 rfl Tryd.underlying23 w.heap.size (.slice ao n cp) (.slice (some ⟨wr.heap.size, 0, none⟩) 1 1) ((c.take k).map ng) [-x] rfl HRA.out rfl HXN.out (Nilv.some _ _ _) HL0.out HL1.out HS2.out ?_))
          intro a1 n1 c1 w1 ho1 hb1 hn1
          have HO1 : Hid (IntsR w1 w.heap.size (.slice a1 n1 c1) ((c.take (k + 1)).map ng)) := Lib.hid (by rw [HSN.out, List.map_take]; exact ho1)
          have HB1 := Lib.hid (HBA.out.trans hb1)
          clear ho1 hb1
          go_wp2
          go_roundw
          case rel => exact ⟨k + 1, _, _, _, by omega, by go_num, rfl, HO1.out, HB1.out⟩
          case measure => simp [intOf]; omega
      · have HX := Lib.hid hx
        generalize ng x = y at *
        clear hx
        go_wp2_with (first | (go_at_call 50; refine (Is_no _ _ HX.out).mono ?_; rintro e w' ⟨rfl, rfl⟩) | (at_builtin; refine wpList_append_ints _ rfl (.tmp 25) (.tmp 28) 23 rfl Tryd.underlying23 w.heap.size (.slice ao n cp) (.slice (some ⟨wr.heap.size, 0, none⟩) 1 1) ((c.take k).map ng) [y] rfl HRA.out rfl HXN.out (Nilv.some _ _ _) HL0.out HL1.out HS2.out ?_))
        intro a1 n1 c1 w1 ho1 hb1 hn1
        have HO1 : Hid (IntsR w1 w.heap.size (.slice a1 n1 c1) ((c.take (k + 1)).map ng)) := Lib.hid (by rw [HSN.out, List.map_take]; exact ho1)
        have HB1 := Lib.hid (HBA.out.trans hb1)
        clear ho1 hb1
        go_wp2
        go_roundw
        case rel => exact ⟨k + 1, _, _, _, by omega, by go_num, rfl, HO1.out, HB1.out⟩
        case measure => simp [intOf]; omega
    · obtain rfl : k = c.length := by omega
      rw [List.take_length] at hr HR
      have HPR := Lib.hid (Prop_any wr wr.heap.size _ _ cl (c.map ng) ((HC.out.keep (hb.mono hB)).mono (Nat.le_trans hB hws)) (hr.at (map_in H64.out)) (Nat.le_refl _) HS.out)
      clear hr hb
      go_wp2_with fail
      refine HPR.out.mono ?_
      rintro e w2 (⟨hcl, rfl, hb2⟩ | ⟨hcl, ad, n2, cp2, rfl, hb2⟩)
      · have HE : Hid (pl cl c = true) := Lib.hid (pl_iff.2 (clash_ng.1 hcl))
        have HB2 := Lib.hid (HB.out.trans (hb2.mono hws))
        clear hcl hb2 HPR
        go_wp2
        go_ret
        exact ⟨by rw [HE.out]; rfl, HB2.out⟩
      · have HE : Hid (pl cl c = false) := Lib.hid (pl_no.2 (fun h => hcl (clash_ng.2 h)))
        have HB2 := Lib.hid (HB.out.trans (hb2.mono hws))
        clear hcl hb2 HPR
        go_wp2
        go_ret
        exact ⟨by rw [HE.out]; rfl, HB2.out⟩

theorem new_oneW (w : World) (x : Value) (t : TypeId) : ∀ j u, [x][j]? = some u → (w.alloc (.cells #[x] t)).cell? ((⟨w.heap.size, 0, none⟩ : Addr).add j) = some u := by
  intro j u h
  rcases j with _ | j
  · simp at h; subst h
    simp [Addr.add]
  · simp at h
/-- a slice of clauses, wherever it lies -/
def ClsX (w : World) (B0 : Nat) (v : Value) (cl : List (List Int)) : Prop := ∃ ao cap b off, ∃ vs : Nat → Value, v = .slice ao cl.length cap ∧ (cl ≠ [] → ao = some ⟨b, off, none⟩) ∧ (∀ i, i < cl.length → w.cell? ⟨b, off + i, none⟩ = some (vs i)) ∧ ∀ i, i < cl.length → IntsAt w B0 (vs i) (cl.getD i [])
theorem cls_x {w : World} {B0 : Nat} {v : Value} {cl : List (List Int)} (h : ClsAt w B0 v cl) : ClsX w B0 v cl := by
  obtain ⟨ao, cap, b, off, vs, h1, _, h3, h4, h5⟩ := h
  exact ⟨ao, cap, b, off, vs, h1, fun h => (h3 h).1, h4, h5⟩
theorem cls_one {w : World} {B0 : Nat} {v : Value} {c : List Int} (h : IntsAt w B0 v c) (hB : B0 ≤ w.heap.size) (t : TypeId) : ClsX (w.alloc (.cells #[v] t)) B0 (.slice (some ⟨w.heap.size, 0, none⟩) 1 1) [c] := by
  refine ⟨_, 1, w.heap.size, 0, fun _ => v, rfl, fun _ => rfl, fun i hi => ?_, fun i hi => ?_⟩
  · obtain rfl : i = 0 := by simp at hi; omega
    have := new_oneW w v t 0 v rfl
    rw [proofT.clsadd] at this; exact this
  · obtain rfl : i = 0 := by simp at hi; omega
    exact h.keep ((Below.refl _ _).alloc hB _)
section
variable (w : World)
theorem wpList_append_clsxM {ops : Array Oper} {rest : List Oper} {o : Oper} {a : Act} {Q : Exit → Act → World → Prop} (M : Nat) (hM : M ≤ 2000000000) (hgd : o.guard = none) (s x : Operand)
    (ho : o.op = .call { callee := .builtin .append, args := #[s, x], argTypes := #[22, 22] })
    (B0 base : Nat) (v xv : Value) (cl log : List (List Int)) (hs : a.eval s = v) (hr : ClsR w B0 base v cl) (hx : a.eval x = xv) (hxv : ClsX w B0 xv log) (hnil : Nilv xv)
    (h1 : cl.length ≤ M) (h2 : log.length ≤ M) (hbase : base ≤ w.heap.size) (hB : B0 ≤ base)
    (h : ∀ ao N c w', ClsR w' B0 base (.slice ao N c) (cl ++ log) → Below base w w' → N ≤ 2 * M → wpList Tryd.prog ops Q rest (a.put o.dst (.slice ao N c)) w') :
    wpList Tryd.prog ops Q (o :: rest) a w := by
  obtain ⟨i0, hi0, hz0, hz1, hz2⟩ := info_parts infoC
  obtain ⟨vl, ho1, hin⟩ := hr
  obtain ⟨ao, cap, b, off, vs, rfl, ha, hc, hn⟩ := hxv
  have hlen : vl.length = cl.length := by have := ho1.1; omega
  refine wpList_append_opt w hgd s x _ ho base 38 i0 (.slice none 0 0) 24 Tryd.underlying22 hi0 hz0 hz1 hz2 rfl v cl.length vl hs ho1 ao log.length cap (valsOf vs log.length) hx (fun h0 => ?_) (valsOf_len _ _) ?_ ?_ (by unfold maxLen; omega) (by omega) hbase ?_
  · subst h0; exact hnil _ _ rfl
  · intro ad had j u hu
    have hj : j < log.length := by have := (List.getElem?_eq_some_iff.1 hu).1; rwa [valsOf_len] at this
    rw [valsOf_at hj] at hu
    obtain rfl := ha (by intro h0; rw [h0] at hj; simp at hj)
    cases had; cases hu
    rw [proofT.clsadd]; exact hc j hj
  · intro u hu
    obtain ⟨j, hj, rfl⟩ := List.mem_map.1 hu
    exact ints_one (hn j (by simpa using hj))
  · intro v' w' ho' hg' _
    have hb : Below base w w' := (Below.refl base w).grown hg' hbase (fun j hj => (ho1.lt j hj).1)
    obtain ⟨a3, c3, hv3, _, _, _⟩ := cap_row ho'
    subst hv3
    refine h a3 _ c3 w' ⟨vl ++ valsOf vs log.length, by rw [List.length_append]; exact ho', fun i hi => ?_⟩ hb (by omega)
    rw [List.length_append] at hi
    by_cases hlt : i < cl.length
    · rw [List.getD_eq_getElem?_getD, List.getElem?_append_left (by omega), List.getD_eq_getElem?_getD, List.getElem?_append_left hlt, ← List.getD_eq_getElem?_getD, ← List.getD_eq_getElem?_getD]
      exact (hin i hlt).keep (hb.mono hB)
    · rw [List.getD_eq_getElem?_getD, List.getElem?_append_right (by omega), List.getD_eq_getElem?_getD, List.getElem?_append_right (by omega), hlen, valsOf_at (by omega), ← List.getD_eq_getElem?_getD]
      exact (hn (i - cl.length) (by omega)).keep (hb.mono hB)
theorem wpList_append_clsx {ops : Array Oper} {rest : List Oper} {o : Oper} {a : Act} {Q : Exit → Act → World → Prop} (hgd : o.guard = none) (s x : Operand)
    (ho : o.op = .call { callee := .builtin .append, args := #[s, x], argTypes := #[22, 22] })
    (B0 base : Nat) (v xv : Value) (cl log : List (List Int)) (hs : a.eval s = v) (hr : ClsR w B0 base v cl) (hx : a.eval x = xv) (hxv : ClsX w B0 xv log) (hnil : Nilv xv)
    (h1 : cl.length ≤ 100000) (h2 : log.length ≤ 100000) (hbase : base ≤ w.heap.size) (hB : B0 ≤ base)
    (h : ∀ ao N c w', ClsR w' B0 base (.slice ao N c) (cl ++ log) → Below base w w' → N ≤ 200000 → wpList Tryd.prog ops Q rest (a.put o.dst (.slice ao N c)) w') :
    wpList Tryd.prog ops Q (o :: rest) a w :=
  wpList_append_clsxM w 100000 (by omega) hgd s x ho B0 base v xv cl log hs hr hx hxv hnil h1 h2 hbase hB h
end
theorem take_snocL {l : List (List Int)} {j : Nat} (h : j < l.length) : l.take (j + 1) = l.take j ++ [l.getD j []] := by
  rw [List.take_succ_eq_append_getElem h, List.getD_eq_getElem?_getD, List.getElem?_eq_getElem h]; rfl

set_option maxRecDepth 100000 in
set_option maxHeartbeats 4000000 in
theorem Bad_any (w : World) (cv lv : Value) (cl log : List (List Int)) (hc : ClsAt w w.heap.size cv cl) (hl : ClsAt w w.heap.size lv log) (hn : Nilv cv) (h1 : cl.length ≤ 100000) (h2 : log.length ≤ 1000000000) (hs1 : ∀ c ∈ cl, c.length ≤ 50000) (hs2 : ∀ c ∈ log, c.length ≤ 50000) :
    Calls Tryd.prog 10 #[cv, lv] w fun e w' => e = .returned (.int .i64 (bad cl log)) ∧ Below w.heap.size w w' := by
  have HC := Lib.hid hc
  have HL := Lib.hid hl
  have HN := Lib.hid hn
  have HS1 := Lib.hid hs1
  have HS2 := Lib.hid hs2
  obtain ⟨ac, capc, bc, offc, vsc, rfl, _, _, _, _⟩ := hc
  obtain ⟨al, capl, bl, offl, vsl, rfl, hml, hal, hcl, hnl⟩ := hl
  have HAL := Lib.hid hal
  have HCL := Lib.hid hcl
  have HNL := Lib.hid hnl
  have HX0 := Lib.hid (ClsR.empty w w.heap.size)
  have HBA : Hid (Below w.heap.size w (w.alloc (.cells #[] 38))) := Lib.hid ((Below.refl _ _).alloc (Nat.le_refl _) _)
  have HK0 := Lib.hid (HC.out.keep HBA.out)
  have HSZ : Hid (w.heap.size ≤ (w.alloc (.cells #[] 38)).heap.size) := Lib.hid (by simp)
  have H1 := Lib.hid h1
  have H2 := Lib.hid h2
  clear hn hs1 hs2 hal hcl hnl hml h1
  go_enter Tryd.func10, Tryd.ntmps10
  go_wp2_with (at_builtin; refine wpList_append_cls _ rfl (.tmp 8) (.tmp 9) rfl w.heap.size w.heap.size (.slice (some ⟨w.heap.size, 0, none⟩) 0 0) (.slice ac cl.length capc) [] cl rfl HX0.out rfl HK0.out HN.out ?a1 ?a2 HSZ.out (Nat.le_refl _) ?_)
  case a1 => simp
  case a2 => exact H1.out
  intro a3 N3 c3 w3 hr3 hb3 hN3
  have HR3 : Hid (ClsR w3 w.heap.size w.heap.size (.slice a3 N3 c3) cl) := Lib.hid hr3
  have HB3 := Lib.hid (HBA.out.trans hb3)
  clear hr3 hb3 HK0 HBA HX0 hN3
  go_wp2
  go_loopw [5, 13] (fun sv it wr => ∃ (k n cp : Nat) (ao : Option Addr), k ≤ log.length ∧ it = .int .i64 k ∧ sv = .slice ao n cp ∧ ClsR wr w.heap.size w.heap.size (.slice ao n cp) (cl ++ log.take k) ∧ Below w.heap.size w wr ∧ Hid (∀ j, j < k → pl (cl ++ log.take j) (log.getD j []) = true)) (fun _ it _ => log.length - (intOf it).toNat)
  case atStart => exact ⟨0, _, _, _, Nat.zero_le _, rfl, rfl, by simpa using HR3.out, HB3.out, Lib.hid (fun j hj => absurd hj (Nat.not_lt_zero _))⟩
  case round =>
    clear HR3 HB3
    obtain ⟨k, n, cp, ao, hk, rfl, rfl, hr, hb, hgd⟩ := hrel
    have HR := Lib.hid hr
    have HB := Lib.hid hb
    have hws := hb.size
    by_cases hlt : k < log.length
    · obtain ⟨rfl, hbB⟩ := HAL.out (by intro h0; rw [h0] at hlt; simp at hlt)
      have q : wr.cell? ⟨bl, offl + k, none⟩ = some (vsl k) := by rw [hb.cell (show (⟨bl, offl + k, none⟩ : Addr).block < w.heap.size from hbB)]; exact HCL.out k hlt
      have hmem : log.getD k [] ∈ log := getD_mem (d := []) hlt
      have hIk := HNL.out k hlt
      have HIK := Lib.hid hIk
      have HPL := Lib.hid (RPlain_any wr wr.heap.size _ (vsl k) (cl ++ log.take k) (log.getD k []) (hr.at hws) ((hIk.keep hb).mono hws) (Nat.le_refl _) (fun d hd => by
        rcases List.mem_append.1 hd with h | h
        · exact HS1.out d h
        · exact HS2.out d (List.mem_of_mem_take h)) (HS2.out _ hmem))
      have HBAD := Lib.hid (fun (h : pl (cl ++ log.take k) (log.getD k []) = false) => bad_at hlt hgd.out h)
      have HTS := Lib.hid (take_snocL hlt)
      have HLN : Hid ((cl ++ log.take k).length ≤ 2000000000) := Lib.hid (by have := H1.out; have := H2.out; simp; omega)
      generalize hrr : pl (cl ++ log.take k) (log.getD k []) = r at *
      have HGDI : Hid (r = true → ∀ j, j < k + 1 → pl (cl ++ log.take j) (log.getD j []) = true) := Lib.hid (fun h j hj => by
        by_cases e : j = k
        · rw [e]; exact hrr.trans h
        · exact hgd.out j (by omega))
      obtain ⟨ai, capi, bi, offi, hvi, _⟩ := hIk
      rw [hvi] at q HPL HIK
      generalize log.getD k [] = d at *
      clear hr hb hrr hmem hvi
      go_wp2_with fail
      refine HPL.out.mono ?_
      rintro e w1 ⟨rfl, hb1⟩
      have HB1 := Lib.hid (HB.out.trans (hb1.mono hws))
      have hw1 := HB1.out.size
      cases r
      · have HE := Lib.hid (HBAD.out rfl)
        clear hb1 HBAD HPL
        go_wp2
        go_ret
        exact ⟨by rw [HE.out]; rfl, HB1.out⟩
      · have HR1 := Lib.hid ((HR.out.below hb1 hws).alloc hw1 (.cells #[.slice ai (d).length capi] 38))
        have HI1 := Lib.hid (cls_one (HIK.out.keep HB1.out) hw1 38)
        have HBA1 := Lib.hid (HB1.out.alloc hw1 (.cells #[.slice ai (d).length capi] 38))
        have HSA : Hid (w.heap.size ≤ (w1.alloc (.cells #[.slice ai (d).length capi] 38)).heap.size) := Lib.hid (by simp; omega)
        have HGD := Lib.hid (HGDI.out rfl)
        have HL1 : Hid ([d].length ≤ 2000000000) := Lib.hid (by simp)
        clear hb1 HBAD HPL HIK HR hgd
        go_wp2_with (at_builtin; refine wpList_append_clsxM _ 2000000000 (Nat.le_refl _) rfl (.tmp 23) (.tmp 25) rfl w.heap.size w.heap.size (.slice ao n cp) (.slice (some ⟨w1.heap.size, 0, none⟩) 1 1) (cl ++ log.take k) [d] rfl HR1.out rfl HI1.out (Nilv.some _ _ _) HLN.out HL1.out HSA.out (Nat.le_refl _) ?_)
        intro a4 N4 c4 w4 hr4 hb4 hN4
        have HR4 : Hid (ClsR w4 w.heap.size w.heap.size (.slice a4 N4 c4) (cl ++ log.take (k + 1))) := Lib.hid (by rw [HTS.out]; exact hr4)
        have HB4 := Lib.hid (HBA1.out.trans hb4)
        clear hr4 hb4 HR1 HI1 hN4
        go_wp2
        go_roundw
        case rel =>
          have h2 := H2.out
          exact ⟨k + 1, _, _, _, by omega, by go_num, rfl, HR4.out, HB4.out, HGD⟩
        case measure =>
          have h2 := H2.out
          simp [intOf]; omega
    · obtain rfl : k = log.length := by omega
      have HE := Lib.hid (bad_none hgd.out)
      clear hr hb hgd
      go_wp2
      go_ret
      exact ⟨by rw [HE.out]; rfl, HB.out⟩
end Go.Proofs.YtjeckkkmoabjnaaDoor.proofW
