/-
  The law SatRefuses.
-/
import Derived.Test.YtjeckkkmoabjnaaDoorSatOp
import Derived.Test.YtjeckkkmoabjnaaDoorSatArg
import Derived.Test.YtjeckkkmoabjnaaDoorHeld2
namespace Go.Proofs.YtjeckkkmoabjnaaDoor.satRf
set_option linter.unusedSimpArgs false
set_option linter.unusedVariables false
open Go.ChangeShapes Go.WideShapes Go.ChangeAt Go.RowKit proofP proofQ proofR owns cls satP satA satX satCa satCe satCf satSe proofN proofO proofS proofT proofU proofV proofW satLg satLh satMa satMb satMc satMd satPg satPh satMe satSo satOp errs errIs
attribute [local go_sem ↓] Go.wp_at_zero Go.wp_at_succ

theorem chk_one {V r k b : Int} {cs : List (List Int)} {asm : List Int} (hn : cs.length ≤ 200000) (h : chk V cs asm r k b ≠ 0) : chk V cs asm r k b = 1 := by
  unfold chk at *
  split
  · rfl
  split
  · rfl
  split
  · rfl
  split
  · rfl
  split
  · omega
  · rename_i h1 h2 h3 h4 h5
    rw [if_neg h1, if_neg h2, if_neg h3, if_neg h4, if_neg h5] at h
    exact absurd rfl h
def SvA (ok : Bool) (a1 : Addr) (w : World) (e : Ending) (w' : World) : Prop :=
  ∃ (st conf : Int) (x1 : Option Addr) (n1 y1 : Nat) (x2 : Option Addr) (n2 y2 : Nat) (x3 : Option Addr) (n3 y3 : Nat) (EV : Value), e = .returned (.tuple #[.agg #[.int .i64 st, .slice x1 n1 y1, .slice x2 n2 y2, .slice x3 n3 y3, .int .i64 conf], EV]) ∧ Below w.heap.size w w' ∧ (ok = true → EV = .nilIface ∧ 1 ≤ st ∧ st ≤ 3) ∧ (ok = false → EV = evl a1 ∧ st = 0)
/-- are they clauses and assumptions of so many variables, and are the options none below 0? -/
noncomputable def fineB (V : Int) (cs : List (List Int)) (asm : List Int) (r k b : Int) : Bool := decide (chk V cs asm r k b = 0)
theorem solve_any {w : World} {B : Nat} {cv av : Value} {cs : List (List Int)} {asm : List Int} (V r k b : Int) (re : Bool) (a1 a2 : Addr) (hc : ClsAt w B cv cs) (ha : IntsAt w B av asm) (hB : B ≤ w.heap.size) (hg : 11 < w.heap.size) (g9 : w.cell? ⟨9, 0, none⟩ = some (evl a1)) (g11 : w.cell? ⟨11, 0, none⟩ = some (evl a2))
    (hV : V ≤ 10 ∨ 20000 < V) (hk : k ≤ 9223372036854775807) (hn : cs.length ≤ 30) (hcl : ∀ c, c ∈ cs → c.length ≤ 10) (hal : asm.length ≤ 10) :
    Calls Tryd.prog 9 #[cv, .int .i64 V, av, .agg #[.int .i64 r, .int .i64 k, .bool re, .int .i64 b]] w (SvA (fineB V cs asm r k b) a1 w) := by
  unfold fineB
  by_cases h : chk V cs asm r k b = 0
  · have hF := chk_fine.1 h
    obtain ⟨n, rfl⟩ := Int.eq_ofNat_of_zero_le hF.v.1
    refine (solve_ans n r k b re a1 a2 hc ha hB hg g9 g11 hF (by have := hF.v.2; omega) hk (fun c hc => by have := hcl c hc; omega) (by omega)).mono ?_
    rintro e w' ⟨st, conf, x1, n1, y1, x2, n2, y2, x3, n3, y3, logs, rfl, hA, hb⟩
    refine ⟨st, conf, x1, n1, y1, x2, n2, y2, x3, n3, y3, _, rfl, hb, fun _ => ⟨rfl, ?_⟩, fun h2 => ?_⟩
    · rcases hA.three with e | e | e <;> omega
    · rw [decide_eq_true h] at h2; cases h2
  · refine (solve_bad V r k b re a1 a2 hc ha hB hg g9 g11 h).mono ?_
    rintro e w' ⟨rfl, hb⟩
    refine ⟨0, 0, none, 0, 0, none, 0, 0, none, 0, 0, _, rfl, hb, fun h2 => ?_, fun _ => ⟨?_, rfl⟩⟩
    · rw [decide_eq_false h] at h2; cases h2
    · rw [chk_one (by omega) h]; rfl
def PoA (ok : Bool) (a1 : Addr) (w : World) (e : Ending) (w' : World) : Prop :=
  ∃ (p : Bool) (EV : Value), e = .returned (.tuple #[.bool p, EV]) ∧ Below w.heap.size w w' ∧ EV = if ok then .nilIface else evl a1
set_option maxHeartbeats 4000000 in
set_option maxRecDepth 100000 in
theorem possible_any {w : World} {B : Nat} {cv av : Value} {cs : List (List Int)} {asm : List Int} (V : Int) (a1 a2 : Addr) (hc : ClsAt w B cv cs) (ha : IntsAt w B av asm) (hB : B ≤ w.heap.size) (hg : 11 < w.heap.size) (g9 : w.cell? ⟨9, 0, none⟩ = some (evl a1)) (g11 : w.cell? ⟨11, 0, none⟩ = some (evl a2))
    (hV : V ≤ 10 ∨ 20000 < V) (hn : cs.length ≤ 30) (hcl : ∀ c, c ∈ cs → c.length ≤ 10) (hal : asm.length ≤ 10) :
    Calls Tryd.prog 17 #[cv, .int .i64 V, av] w (PoA (fineB V cs asm 0 0 1073741824) a1 w) := by
  have HSO := Lib.hid (solve_any V 0 0 1073741824 false a1 a2 hc ha hB hg g9 g11 hV (by omega) hn hcl hal)
  generalize fineB V cs asm 0 0 1073741824 = ok at *
  clear hc ha hcl hal g9 g11
  go_enter Tryd.func17, Tryd.ntmps17
  go_wp2_with fail
  refine HSO.out.mono ?_
  rintro e w1 ⟨st, conf, x1, n1, c1, x2, n2, c2, x3, n3, c3, EV, rfl, hb, h1, h2⟩
  have HB := Lib.hid hb
  have hbs := hb.size
  cases ok
  · obtain ⟨rfl, rfl⟩ := h2 rfl
    have hne := neqE a1
    clear hb HSO h1 h2
    go_wp2
    go_ret2
    exact ⟨_, _, rfl, (HB.out.alloc hbs _), rfl⟩
  · obtain ⟨rfl, _, _⟩ := h1 rfl
    have hne := neqN
    clear hb HSO h1 h2
    go_wp2
    go_ret2
    exact ⟨_, _, rfl, (HB.out.alloc hbs _), rfl⟩
/-- the law's wrong -/
theorem wrong_is {V : Int} {cs : List (List Int)} {asm : List Int} (hn : cs.length ≤ 30) : fineB V cs asm 0 0 1073741824 = !(decide (V < 0) || (decide (20000 < V) || !(rgt (cs ++ [asm]) V))) := by
  unfold fineB
  rw [Bool.eq_iff_iff, decide_eq_true_iff, chk_fine]
  simp only [Bool.not_eq_true', Bool.or_eq_false_iff, decide_eq_false_iff_not, Bool.not_eq_false']
  constructor
  · intro h
    exact ⟨by have := h.v; omega, by have := h.v; omega, rgt_no fun c hc => by
      rcases List.mem_append.1 hc with hc | hc
      · exact h.c c hc
      · obtain rfl := List.mem_singleton.1 hc
        exact h.a⟩
  · rintro ⟨h1, h2, h3⟩
    have h4 := rgt_yes h3
    exact ⟨by omega, fun c hc => h4 c (List.mem_append_left _ hc), h4 asm (by simp), by omega, by omega⟩
section
variable (w : World)
theorem run_append_clsx (ty : TypeId) (B0 base : Nat) (v xv : Value) (cl log : List (List Int)) (hr : ClsR w B0 base v cl) (hxv : ClsX w B0 xv log) (hnil : Nilv xv) (h1 : cl.length ≤ 100000) (h2 : log.length ≤ 100000) (hbase : base ≤ w.heap.size) (hB : B0 ≤ base) :
    ∃ ao N c w', (Builtin.append_ #[22, 22] ty #[v, xv]).run Tryd.prog w = .ok (.slice ao N c) w' ∧ ClsR w' B0 base (.slice ao N c) (cl ++ log) ∧ Below base w w' ∧ w.grownBy w' v.ownBlock := by
  obtain ⟨i0, hi0, hz0, hz1, hz2⟩ := info_parts proofU.infoC
  have hr0 := hr
  obtain ⟨vl, ho1, hin⟩ := hr
  obtain ⟨ao, cap, b, off, vs, rfl, ha, hc, hn⟩ := hxv
  have hlen : vl.length = cl.length := by have := ho1.1; omega
  cases ao with
  | none =>
    obtain ⟨h0, rfl⟩ := hnil _ _ rfl
    obtain rfl : log = [] := List.length_eq_zero_iff.1 h0
    have hrun := run_append_owned_none (P := Tryd.prog) w base 22 ty 38 i0 1 Tryd.underlying22 hi0 v cl.length vl ho1
    obtain ⟨a3, c3, hv3, _, _, _⟩ := cap_row ho1
    subst hv3
    exact ⟨_, _, _, w, hrun, by rw [List.append_nil]; exact hr0, Below.refl _ _, World.grownBy.refl _ _⟩
  | some ad =>
    obtain ⟨v', w', hrun, ho', hg', _, hat⟩ := run_append_own_at (P := Tryd.prog) w base 22 ty 38 i0 (.slice none 0 0) 1 24 Tryd.underlying22 hi0 hz0 hz1 hz2 rfl (by omega) v cl.length vl ho1 ad log.length cap (valsOf vs log.length) (by rw [valsOf_len]; omega) (fun j u hu => by
      have hj : j < log.length := by have := (List.getElem?_eq_some_iff.1 hu).1; rwa [valsOf_len] at this
      rw [valsOf_at hj] at hu
      have he := ha (by intro h0; rw [h0] at hj; simp at hj)
      cases he; cases hu
      rw [proofT.clsadd]; exact hc j hj) (fun u hu => by
      obtain ⟨j, hj, rfl⟩ := List.mem_map.1 hu
      exact ints_one (hn j (by simpa using hj))) (by unfold maxLen; omega) (by omega) hbase
    have hb : Below base w w' := (Below.refl base w).grown hg' hbase (fun j hj => (ho1.lt j hj).1)
    obtain ⟨a3, c3, hv3, _, _, _⟩ := cap_row ho'
    subst hv3
    refine ⟨a3, _, c3, w', hrun, ⟨vl ++ valsOf vs log.length, by rw [List.length_append]; exact ho', fun i hi => ?_⟩, hb, hg'⟩
    rw [List.length_append] at hi
    by_cases hlt : i < cl.length
    · rw [List.getD_eq_getElem?_getD, List.getElem?_append_left (by omega), List.getD_eq_getElem?_getD, List.getElem?_append_left hlt, ← List.getD_eq_getElem?_getD, ← List.getD_eq_getElem?_getD]
      exact (hin i hlt).keep (hb.mono hB)
    · rw [List.getD_eq_getElem?_getD, List.getElem?_append_right (by omega), List.getD_eq_getElem?_getD, List.getElem?_append_right (by omega), hlen, valsOf_at (by omega), ← List.getD_eq_getElem?_getD]
      exact (hn (i - cl.length) (by omega)).keep (hb.mono hB)
theorem step_append_clsx {ops : Array Oper} {o : Oper} {a : Act} {K : Act → World → Prop} {Q : Exit → Act → World → Prop} {E : Prop} (hw : Region.wanted o (yielded ops a.tmps) = true) (s x : Operand)
    (ho : o.op = .call { callee := .builtin .append, args := #[s, x], argTypes := #[22, 22] })
    (B0 base : Nat) (v xv : Value) (cl log : List (List Int)) (hs : a.eval s = v) (hr : ClsR w B0 base v cl) (hx : a.eval x = xv) (hxv : ClsX w B0 xv log) (hnil : Nilv xv)
    (h1 : cl.length ≤ 100000) (h2 : log.length ≤ 100000) (hbase : base ≤ w.heap.size) (hB : B0 ≤ base)
    (h : ∀ ao N c w', ClsR w' B0 base (.slice ao N c) (cl ++ log) → Below base w w' → w.grownBy w' v.ownBlock → K (a.put o.dst (.slice ao N c)) w') :
    if Region.wanted o (yielded ops a.tmps) = true then Oper.wp Tryd.prog o a w K Q else E := by
  rw [if_pos hw]
  obtain ⟨ao, N, c, w', hrun, h2', h3, h4'⟩ := run_append_clsx w o.type B0 base v xv cl log hr hxv hnil h1 h2 hbase hB
  unfold Oper.wp execOp
  simp only [ho, resolve, invoke, builtin, Sem.run_bind, Sem.run_pure, Result.andThen_ok, List.map_toArray, List.map_cons, List.map_nil, hs, hx, hrun]
  exact h _ _ _ w' h2' h3 h4'
end

theorem clsr_mono {w : World} {B0 base base' : Nat} {v : Value} {cl : List (List Int)} (h : ClsR w B0 base v cl) (hB : base' ≤ base) : ClsR w B0 base' v cl := by
  obtain ⟨vl, h1, h2⟩ := h
  exact ⟨vl, h1.mono hB, h2⟩
theorem one_keep {w w' : World} {B0 x : Nat} {c : List Int} (h : ClsX w B0 (.slice (some ⟨x, 0, none⟩) 1 1) [c]) (hb : Below B0 w w') (hx : w'.heap[x]? = w.heap[x]?) : ClsX w' B0 (.slice (some ⟨x, 0, none⟩) 1 1) [c] := by
  obtain ⟨ao, cap, b, off, vs, he, ha, hc, hn⟩ := h
  have hae := ha (by simp)
  subst hae
  cases he
  refine ⟨_, _, x, 0, vs, rfl, fun _ => rfl, fun i hi => ?_, fun i hi => (hn i hi).keep hb⟩
  rw [World.cell?_of_block (w := w) hx]; exact hc i hi
theorem one_below {w w' : World} {B B0 x : Nat} {c : List Int} (h : ClsX w B0 (.slice (some ⟨x, 0, none⟩) 1 1) [c]) (hb : Below B w w') (hB : B0 ≤ B) (hx : x < B) : ClsX w' B0 (.slice (some ⟨x, 0, none⟩) 1 1) [c] := one_keep h (hb.mono hB) (hb.block x hx)
theorem one_kept {w w' : World} {B B0 x : Nat} {row : Option Nat} {c : List Int} (h : ClsX w B0 (.slice (some ⟨x, 0, none⟩) 1 1) [c]) (hb : Below B w w') (hB : B0 ≤ B) (hg : w.grownBy w' row) (hr : row ≠ some x) (hx : x < w.heap.size) : ClsX w' B0 (.slice (some ⟨x, 0, none⟩) 1 1) [c] := one_keep h (hb.mono hB) (hg.block x hx (fun e => hr e.symm))
set_option maxHeartbeats 8000000 in
set_option maxRecDepth 100000 in
theorem law_refuses (cv av : Value) (V r k b : Int) (re : Bool) (cs : List (List Int)) (asm : List Int) (w : World) (ad : Nat → Addr) (hE : Errs w ad) (hc : ClsAt w w.heap.size cv cs) (ha : IntsAt w w.heap.size av asm) (hn : Nilv cv) (hi : In64 V ∧ In64 k) :
    Calls Tryd.prog 6 #[.agg #[cv, .int .i64 V, av, .int .i64 r, .int .i64 k, .bool re, .int .i64 b]] w fun e w' => e = .returned (.bool true) ∧ Below w.heap.size w w' := by
  have g9 : w.cell? ⟨9, 0, none⟩ = some (evl (ad 9)) := hE.glob 9 (by decide)
  have g11 : w.cell? ⟨11, 0, none⟩ = some (evl (ad 11)) := hE.glob 11 (by decide)
  have hg : 11 < w.heap.size := World.block_lt_of_cell? w _ g11
  have hB1 : Below w.heap.size w (w.alloc (satSo.ask cv av V r k b re)) := (Below.refl _ _).alloc (Nat.le_refl _) _
  have hS1 : (w.alloc (satSo.ask cv av V r k b re)).heap.size = w.heap.size + 1 := by simp
  have HA := Lib.hid (alive_any _ (ad 9) (ad 11) (by rw [hS1]; omega) ((hB1.cell (show (⟨9, 0, none⟩ : Addr).block < _ from by show 9 < _; omega)).trans g9) ((hB1.cell (show (⟨11, 0, none⟩ : Addr).block < _ from hg)).trans g11))
  have HW := Lib.hid (Whole.new w 27 [cv, .int .i64 V, av, .int .i64 r, .int .i64 k, .bool re, .int .i64 b])
  have HB1 := Lib.hid hB1
  have HS1 := Lib.hid hS1
  have HC := Lib.hid hc
  have HAI := Lib.hid ha
  have HN := Lib.hid hn
  have HE := Lib.hid hE
  have HG := Lib.hid (And.intro hg (And.intro g9 g11))
  have HI := Lib.hid hi
  have HAF : Hid (∃ a c, av = .slice a asm.length c ∧ asm.length ≤ maxLen) := Lib.hid (by obtain ⟨aa, capa, ba, offa, rfl, h, _⟩ := ha; exact ⟨_, _, rfl, h⟩)
  have HCF : Hid (∃ a c, cv = .slice a cs.length c) := Lib.hid (by obtain ⟨ac, capc, bc, offc, vsc, rfl, _, _, _, _⟩ := hc; exact ⟨_, _, rfl⟩)
  obtain ⟨ac, yc, rfl⟩ := HCF.out
  obtain ⟨aa, ya, rfl, hma⟩ := HAF.out
  unfold maxLen at hma
  clear hc ha hn hg g9 g11 hB1 hS1 hE hi HCF HAF
  unfold satSo.ask at *
  go_enter Tryd.func6, Tryd.ntmps6
  go_wp2_with fail
  refine HA.out.mono ?_
  rintro e w2 ⟨rfl, hb2⟩
  have hW2 := HW.out.below hb2 (by rw [HS1.out]; omega)
  have HW2 := Lib.hid hW2
  have HB2 := Lib.hid (HB1.out.trans (hb2.mono (by rw [HS1.out]; omega)))
  have hs2 : w.heap.size + 1 ≤ w2.heap.size := by have := hb2.size; rw [HS1.out] at this; exact this
  have HBG := Lib.hid (Big_any (.slice ac cs.length yc) cs 30 10 w2 w.heap.size (HC.out.keep HB2.out) (by omega) (by omega))
  obtain ⟨k0, k1, k2, k3, k4, k5, k6⟩ := seven hW2
  clear hb2 hW2 HW HA HB1 HS1
  go_upto_region 3 with (fail)
  go_cut [29] (fun v wx => ∃ bb : Bool, v = .bool bb ∧ wx = w2 ∧ Hid (bb = false → (cs.length ≤ 30 ∧ ∀ c ∈ cs, c.length ≤ 10) ∧ (asm.length : Int) ≤ 10 ∧ (V ≤ 10 ∨ 20000 < V)))
  case first =>
    go_wp2_with fail
    refine HBG.out.mono ?_
    rintro e w3 ⟨bf, rfl, rfl, hf⟩
    cases bf
    rotate_left
    · clear hf HBG
      go_wp2
      go_meet
      exact ⟨true, rfl, rfl, Lib.hid fun h => by cases h⟩
    have HF := Lib.hid (hf rfl)
    clear hf HBG
    by_cases h1 : (10 : Int) < (asm.length : Int)
    · go_wp2
      go_meet
      exact ⟨true, rfl, rfl, Lib.hid fun h => by cases h⟩
    have h1' : (asm.length : Int) ≤ 10 := Int.not_lt.1 h1
    by_cases h2 : 10 < V
    · by_cases h3 : V ≤ 20000
      · go_wp2
        go_meet
        exact ⟨true, rfl, rfl, Lib.hid fun h => by cases h⟩
      · have HR : Hid (V ≤ 10 ∨ 20000 < V) := Lib.hid (by omega)
        have HD : Hid ((decide (10 < (asm.length : Int)) || decide (V ≤ 20000)) = false) := Lib.hid (by rw [Bool.or_eq_false_iff, decide_eq_false_iff_not, decide_eq_false_iff_not]; omega)
        go_wp2
        go_meet
        exact ⟨false, congrArg Value.bool HD.out, rfl, Lib.hid fun _ => ⟨HF.out, h1', HR.out⟩⟩
    · have HR : Hid (V ≤ 10 ∨ 20000 < V) := Lib.hid (by omega)
      have HD : Hid (decide (10 < (asm.length : Int)) = false) := Lib.hid (by rw [decide_eq_false_iff_not]; omega)
      go_wp2
      go_meet
      exact ⟨false, congrArg Value.bool HD.out, rfl, Lib.hid fun _ => ⟨HF.out, h1', HR.out⟩⟩
  case rest =>
    obtain ⟨bb, rfl, rfl, hf⟩ := hcut
    cases bb
    rotate_left
    · clear hf HBG
      go_wp2
      go_ret
      exact ⟨rfl, HB2.out⟩
    obtain ⟨hf1, hf2, hf3⟩ := hf.out rfl
    have HF := Lib.hid hf1
    have HVV := Lib.hid hf3
    clear hf hf1 hf3 HBG
    have HSO := Lib.hid (solve_any V r k b re (ad 9) (ad 11) (HC.out.keep HB2.out) (HAI.out.keep HB2.out) HB2.out.size (by have := HG.out.1; omega) ((HB2.out.cell (show (⟨9, 0, none⟩ : Addr).block < w.heap.size from by have := HG.out.1; show 9 < _; omega)).trans HG.out.2.1) ((HB2.out.cell (show (⟨11, 0, none⟩ : Addr).block < w.heap.size from HG.out.1)).trans HG.out.2.2) HVV.out (by have := HI.out.2; unfold In64 at this; omega) HF.out.1 HF.out.2 (by omega))
    have HPO : Hid (∀ wx : World, Below w.heap.size w wx → Calls Tryd.prog 17 #[.slice ac cs.length yc, .int .i64 V, .slice aa asm.length ya] wx (PoA (fineB V cs asm 0 0 1073741824) (ad 9) wx)) := Lib.hid (fun wx hb => possible_any V (ad 9) (ad 11) (HC.out.keep hb) (HAI.out.keep hb) hb.size (by have := HG.out.1; have := hb.size; omega) ((hb.cell (show (⟨9, 0, none⟩ : Addr).block < w.heap.size from by have := HG.out.1; show 9 < _; omega)).trans HG.out.2.1) ((hb.cell (show (⟨11, 0, none⟩ : Addr).block < w.heap.size from HG.out.1)).trans HG.out.2.2) HVV.out HF.out.1 HF.out.2 (by omega))
    have HOK : Hid (fineB V cs asm r k b = (fineB V cs asm 0 0 1073741824 && (decide (0 ≤ r) && (decide (0 ≤ k) && decide (0 ≤ b))))) := Lib.hid (by
      unfold fineB
      rw [Bool.eq_iff_iff]
      simp only [Bool.and_eq_true, decide_eq_true_eq, chk_fine]
      constructor
      · intro h; exact ⟨⟨h.v, h.c, h.a, by omega, h.n⟩, h.o⟩
      · rintro ⟨h, ho⟩; exact ⟨h.v, h.c, h.a, ho, h.n⟩)
    have HWR : Hid (fineB V cs asm 0 0 1073741824 = !(decide (V < 0) || (decide (20000 < V) || !(rgt (cs ++ [asm]) V)))) := Lib.hid (wrong_is HF.out.1)
    generalize fineB V cs asm r k b = ok at *
    generalize fineB V cs asm 0 0 1073741824 = okp at *
    go_wp2_with fail
    refine HSO.out.mono ?_
    rintro e w4 ⟨st, conf, x1, n1, y1, x2, n2, y2, x3, n3, y3, EV, rfl, hb4, he1, he2⟩
    have hA5 : Below w4.heap.size w4 (w4.alloc (.cells #[.int .i64 st, .slice x1 n1 y1, .slice x2 n2 y2, .slice x3 n3 y3, .int .i64 conf] 32)) := (Below.refl _ _).alloc (Nat.le_refl _) _
    have hs4 : w.heap.size + 1 ≤ w4.heap.size := by have := hb4.size; omega
    have hs5 : (w4.alloc (.cells #[.int .i64 st, .slice x1 n1 y1, .slice x2 n2 y2, .slice x3 n3 y3, .int .i64 conf] 32)).heap.size = w4.heap.size + 1 := by simp
    have hR5 := Whole.new w4 32 [.int .i64 st, .slice x1 n1 y1, .slice x2 n2 y2, .slice x3 n3 y3, .int .i64 conf]
    have hW5 := (HW2.out.below hb4 (by omega)).below hA5 (by omega)
    have HB5 : Hid (Below w.heap.size w (w4.alloc (.cells #[.int .i64 st, .slice x1 n1 y1, .slice x2 n2 y2, .slice x3 n3 y3, .int .i64 conf] 32))) := Lib.hid ((HB2.out.trans (hb4.mono (by omega))).trans (hA5.mono (by omega)))
    have HEV : Hid ((ok = true → EV = .nilIface ∧ 1 ≤ st ∧ st ≤ 3) ∧ (ok = false → EV = evl (ad 9) ∧ st = 0)) := Lib.hid ⟨he1, he2⟩
    clear k0 k1 k2 k3 k4 k5 k6 hb4 hA5 he1 he2 HW2 HB2 HSO
    have HP5 := Lib.hid (HPO.out _ HB5.out)
    obtain ⟨k0, k1, k2, k3, k4, k5, k6⟩ := seven hW5
    have HW5 := Lib.hid hW5
    have HR5 := Lib.hid hR5
    have HZ5 := Lib.hid hs5
    clear hW5 hR5 HPO hs5
    go_wp2_with fail
    refine HP5.out.mono ?_
    rintro e w6 ⟨p, BV, rfl, hb6, hBV⟩
    have hZ5 := HZ5.out
    have hW6 := HW5.out.below hb6 (by omega)
    have HR6 := Lib.hid (HR5.out.below hb6 (by omega))
    have HB6 := Lib.hid (HB5.out.trans (hb6.mono (by omega)))
    have hs6 : w4.heap.size + 1 ≤ w6.heap.size := by have := hb6.size; omega
    have HBV := Lib.hid hBV
    clear k0 k1 k2 k3 k4 k5 k6 hb6 hBV HW5 HR5 HB5 HP5 HZ5 hZ5
    obtain ⟨k0, k1, k2, k3, k4, k5, k6⟩ := seven hW6
    have HW6 := Lib.hid hW6
    clear hW6
    generalize w4.heap.size = g at *
    have hA7 : Below w6.heap.size w6 (w6.alloc (.cells #[.int .i64 r, .int .i64 k, .bool re, .int .i64 b] 25)) := (Below.refl _ _).alloc (Nat.le_refl _) _
    have HO7 := Lib.hid (Whole.new w6 25 [.int .i64 r, .int .i64 k, .bool re, .int .i64 b])
    have HR7 := Lib.hid (HR6.out.below hA7 (by omega))
    have HW7 := Lib.hid (HW6.out.below hA7 (by omega))
    have HB7 := Lib.hid (HB6.out.trans (hA7.mono (by omega)))
    have HZ7 : Hid ((w6.alloc (.cells #[.int .i64 r, .int .i64 k, .bool re, .int .i64 b] 25)).heap.size = w6.heap.size + 1) := Lib.hid (by simp)
    clear hA7
    go_upto_region 8 with (fail)
    clear k0 k1 k2 k3 k4 k5 k6 HR6 HW6 HB6
    generalize w6.alloc (.cells #[.int .i64 r, .int .i64 k, .bool re, .int .i64 b] 25) = w7 at *
    obtain ⟨k0, k1, k2, k3, k4, k5, k6⟩ := seven HW7.out
    go_cut [8] (fun v wx => v = .bool (!okp) ∧ Below w7.heap.size w7 wx)
    case first =>
      by_cases h1 : V < 0
      · have HD : Hid (okp = false) := Lib.hid (by rw [HWR.out, decide_eq_true h1]; rfl)
        go_region
        all_goals (go_wp2_with fail)
        go_meet
        exact ⟨by rw [HD.out]; rfl, (Below.refl _ _).drew⟩
      by_cases h2 : 20000 < V
      · have HD : Hid (okp = false) := Lib.hid (by rw [HWR.out, decide_eq_true h2]; simp)
        go_region
        all_goals (go_wp2_with fail)
        go_meet
        exact ⟨by rw [HD.out]; rfl, (Below.refl _ _).drew⟩
      --MARK8
      refine held2.region (fun _ w' => w'.cell? ⟨w.heap.size, 0, none⟩ = some (.slice ac cs.length yc) ∧ w'.cell? ⟨w.heap.size, 1, none⟩ = some (.int .i64 V) ∧ w'.cell? ⟨w.heap.size, 2, none⟩ = some (.slice aa asm.length ya)) (by kernel_rfl) ?_
      have hB8 : Below w7.heap.size w7 w7.drew := (Below.refl _ _).drew
      have hS8 : w7.drew.cell? ⟨w.heap.size, 0, none⟩ = some (.slice ac cs.length yc) ∧ w7.drew.cell? ⟨w.heap.size, 1, none⟩ = some (.int .i64 V) ∧ w7.drew.cell? ⟨w.heap.size, 2, none⟩ = some (.slice aa asm.length ya) := ⟨k0, k1, k2⟩
      generalize w7.drew = w8 at *
      clear k0 k1 k2 k3 k4 k5 k6
      have hd1 : decide (V < 0) = false := decide_eq_false h1
      have hd2 : decide (20000 < V) = false := decide_eq_false h2
      have HB8 := Lib.hid (HB7.out.trans (hB8.mono (by have := HB7.out.size; omega)))
      have HB78 := Lib.hid hB8
      have hwZ : w.heap.size + 1 ≤ w8.heap.size := by have := HZ7.out; have := HB78.out.size; omega
      have HKS : Hid (∀ wx, Below w8.heap.size w8 wx → wx.cell? ⟨w.heap.size, 0, none⟩ = some (.slice ac cs.length yc) ∧ wx.cell? ⟨w.heap.size, 1, none⟩ = some (.int .i64 V) ∧ wx.cell? ⟨w.heap.size, 2, none⟩ = some (.slice aa asm.length ya)) := Lib.hid fun wx hb => ⟨(hb.cell (p := ⟨w.heap.size, 0, none⟩) (by show w.heap.size < _; omega)).trans hS8.1, (hb.cell (p := ⟨w.heap.size, 1, none⟩) (by show w.heap.size < _; omega)).trans hS8.2.1, (hb.cell (p := ⟨w.heap.size, 2, none⟩) (by show w.heap.size < _; omega)).trans hS8.2.2⟩
      have HKC : Hid (∀ wx, Below w8.heap.size w8 wx → ClsAt wx w.heap.size (.slice ac cs.length yc) cs ∧ IntsAt wx w.heap.size (.slice aa asm.length ya) asm) := Lib.hid fun wx hb => ⟨HC.out.keep (HB8.out.trans (hb.mono (by omega))), HAI.out.keep (HB8.out.trans (hb.mono (by omega)))⟩
      have HRG : Hid (∀ vx wx, ClsAt wx wx.heap.size vx (cs ++ [asm]) → Calls Tryd.prog 19 #[vx, .int .i64 V] wx fun e w' => e = .returned (.bool (rgt (cs ++ [asm]) V)) ∧ wx = w') := Lib.hid fun vx wx h => Right17_any vx (cs ++ [asm]) V wx _ h (by omega) (by omega)
      have HWZ : Hid (rgt (cs ++ [asm]) V = okp) := Lib.hid (by rw [HWR.out, hd1, hd2]; simp)
      generalize rgt (cs ++ [asm]) V = rb at *
      refine held2.wpLeft.take (i := 0) (v := ?_) rfl (by kernel_rfl) (by kernel_rfl) (by kernel_rfl) (by kernel_rfl) (fun _ _ => Iff.rfl) (fun _ _ _ h => h) (by rfl) ?_ hS8 ?_
      rotate_left
      · (intro wz l hl1 hl2 hSw; obtain ⟨x0, x1, x2⟩ := hSw; go_simp; try with_reducible rfl)
      simp only [Act.put, List.setIfInBounds_toArray, List.set_cons_zero, List.set_cons_succ, List.getElem_toArray, List.getElem_cons_succ, List.getElem_cons_zero]
      refine held2.wpLeft.take (i := 1) (v := ?_) rfl (by kernel_rfl) (by kernel_rfl) (by kernel_rfl) (by kernel_rfl) (fun _ _ => Iff.rfl) (fun _ _ _ h => h) (by rfl) ?_ hS8 ?_
      rotate_left
      · (intro wz l hl1 hl2 hSw; obtain ⟨x0, x1, x2⟩ := hSw; go_simp; try with_reducible rfl)
      simp only [Act.put, List.setIfInBounds_toArray, List.set_cons_zero, List.set_cons_succ, List.getElem_toArray, List.getElem_cons_succ, List.getElem_cons_zero]
      refine held2.wpLeft.take (i := 2) (v := .bool false) rfl (by kernel_rfl) (by kernel_rfl) (by kernel_rfl) (by kernel_rfl) (fun _ _ => Iff.rfl) (fun _ _ _ h => h) (by rfl) ?_ hS8 ?_
      · (intro wz l hl1 hl2 hSw; obtain ⟨x0, x1, x2⟩ := hSw; first | (go_simp; done) | (go_simp; with_reducible rfl) | (go_simp; rw [hd1]; done) | (go_simp; simp [hd1]; done))
      simp only [Act.put, List.setIfInBounds_toArray, List.set_cons_zero, List.set_cons_succ, List.getElem_toArray, List.getElem_cons_succ, List.getElem_cons_zero]
      refine held2.wpLeft.take (i := 3) (v := ?_) rfl (by kernel_rfl) (by kernel_rfl) (by kernel_rfl) (by kernel_rfl) (fun _ _ => Iff.rfl) (fun _ _ _ h => h) (by rfl) ?_ hS8 ?_
      rotate_left
      · (intro wz l hl1 hl2 hSw; obtain ⟨x0, x1, x2⟩ := hSw; go_simp; try with_reducible rfl)
      simp only [Act.put, List.setIfInBounds_toArray, List.set_cons_zero, List.set_cons_succ, List.getElem_toArray, List.getElem_cons_succ, List.getElem_cons_zero]
      refine held2.wpLeft.take (i := 4) (v := ?_) rfl (by kernel_rfl) (by kernel_rfl) (by kernel_rfl) (by kernel_rfl) (fun _ _ => Iff.rfl) (fun _ _ _ h => h) (by rfl) ?_ hS8 ?_
      rotate_left
      · (intro wz l hl1 hl2 hSw; obtain ⟨x0, x1, x2⟩ := hSw; go_simp; try with_reducible rfl)
      simp only [Act.put, List.setIfInBounds_toArray, List.set_cons_zero, List.set_cons_succ, List.getElem_toArray, List.getElem_cons_succ, List.getElem_cons_zero]
      refine held2.wpLeft.take (i := 5) (v := ?_) rfl (by kernel_rfl) (by kernel_rfl) (by kernel_rfl) (by kernel_rfl) (fun _ _ => Iff.rfl) (fun _ _ _ h => h) (by rfl) ?_ hS8 ?_
      rotate_left
      · (intro wz l hl1 hl2 hSw; obtain ⟨x0, x1, x2⟩ := hSw; go_simp; try with_reducible rfl)
      simp only [Act.put, List.setIfInBounds_toArray, List.set_cons_zero, List.set_cons_succ, List.getElem_toArray, List.getElem_cons_succ, List.getElem_cons_zero]
      refine held2.wpLeft.take (i := 6) (v := .bool false) rfl (by kernel_rfl) (by kernel_rfl) (by kernel_rfl) (by kernel_rfl) (fun _ _ => Iff.rfl) (fun _ _ _ h => h) (by rfl) ?_ hS8 ?_
      · (intro wz l hl1 hl2 hSw; obtain ⟨x0, x1, x2⟩ := hSw; first | (go_simp; done) | (go_simp; with_reducible rfl) | (go_simp; rw [hd2]; done) | (go_simp; simp [hd2]; done))
      simp only [Act.put, List.setIfInBounds_toArray, List.set_cons_zero, List.set_cons_succ, List.getElem_toArray, List.getElem_cons_succ, List.getElem_cons_zero]
      refine held2.wpLeft.take (i := 7) (v := ?_) rfl (by kernel_rfl) (by kernel_rfl) (by kernel_rfl) (by kernel_rfl) (fun _ _ => Iff.rfl) (fun _ _ _ h => h) (by rfl) ?_ hS8 ?_
      rotate_left
      · (intro wz l hl1 hl2 hSw; obtain ⟨x0, x1, x2⟩ := hSw; go_simp; try with_reducible rfl)
      simp only [Act.put, List.setIfInBounds_toArray, List.set_cons_zero, List.set_cons_succ, List.getElem_toArray, List.getElem_cons_succ, List.getElem_cons_zero]
      refine held2.wpLeft.take (i := 8) (v := ?_) rfl (by kernel_rfl) (by kernel_rfl) (by kernel_rfl) (by kernel_rfl) (fun _ _ => Iff.rfl) (fun _ _ _ h => h) (by rfl) ?_ hS8 ?_
      rotate_left
      · (intro wz l hl1 hl2 hSw; obtain ⟨x0, x1, x2⟩ := hSw; go_simp; try with_reducible rfl)
      simp only [Act.put, List.setIfInBounds_toArray, List.set_cons_zero, List.set_cons_succ, List.getElem_toArray, List.getElem_cons_succ, List.getElem_cons_zero]
      refine held2.wpLeft.take (i := 10) (v := ?_) rfl (by kernel_rfl) (by kernel_rfl) (by kernel_rfl) (by kernel_rfl) (fun _ _ => Iff.rfl) (fun _ _ _ h => h) (by rfl) ?_ hS8 ?_
      rotate_left
      · (intro wz l hl1 hl2 hSw; obtain ⟨x0, x1, x2⟩ := hSw; go_simp; try with_reducible rfl)
      simp only [Act.put, List.setIfInBounds_toArray, List.set_cons_zero, List.set_cons_succ, List.getElem_toArray, List.getElem_cons_succ, List.getElem_cons_zero]
      refine held2.wpLeft.take (i := 11) (v := ?_) rfl (by kernel_rfl) (by kernel_rfl) (by kernel_rfl) (by kernel_rfl) (fun _ _ => Iff.rfl) (fun _ _ _ h => h) (by rfl) ?_ hS8 ?_
      rotate_left
      · (intro wz l hl1 hl2 hSw; obtain ⟨x0, x1, x2⟩ := hSw; go_simp; try with_reducible rfl)
      simp only [Act.put, List.setIfInBounds_toArray, List.set_cons_zero, List.set_cons_succ, List.getElem_toArray, List.getElem_cons_succ, List.getElem_cons_zero]
      refine held2.wpLeft.take (i := 13) (v := ?_) rfl (by kernel_rfl) (by kernel_rfl) (by kernel_rfl) (by kernel_rfl) (fun _ _ => Iff.rfl) (fun _ _ _ h => h) (by rfl) ?_ hS8 ?_
      rotate_left
      · (intro wz l hl1 hl2 hSw; obtain ⟨x0, x1, x2⟩ := hSw; go_simp; try with_reducible rfl)
      simp only [Act.put, List.setIfInBounds_toArray, List.set_cons_zero, List.set_cons_succ, List.getElem_toArray, List.getElem_cons_succ, List.getElem_cons_zero]
      refine held2.wpLeft.take (i := 14) (v := ?_) rfl (by kernel_rfl) (by kernel_rfl) (by kernel_rfl) (by kernel_rfl) (fun _ _ => Iff.rfl) (fun _ _ _ h => h) (by rfl) ?_ hS8 ?_
      rotate_left
      · (intro wz l hl1 hl2 hSw; obtain ⟨x0, x1, x2⟩ := hSw; go_simp; try with_reducible rfl)
      simp only [Act.put, List.setIfInBounds_toArray, List.set_cons_zero, List.set_cons_succ, List.getElem_toArray, List.getElem_cons_succ, List.getElem_cons_zero]
      refine held2.wpLeft.take (i := 17) (v := ?_) rfl (by kernel_rfl) (by kernel_rfl) (by kernel_rfl) (by kernel_rfl) (fun _ _ => Iff.rfl) (fun _ _ _ h => h) (by rfl) ?_ hS8 ?_
      rotate_left
      · (intro wz l hl1 hl2 hSw; obtain ⟨x0, x1, x2⟩ := hSw; go_simp; try with_reducible rfl)
      simp only [Act.put, List.setIfInBounds_toArray, List.set_cons_zero, List.set_cons_succ, List.getElem_toArray, List.getElem_cons_succ, List.getElem_cons_zero]
      refine held2.wpLeft.take (i := 18) (v := ?_) rfl (by kernel_rfl) (by kernel_rfl) (by kernel_rfl) (by kernel_rfl) (fun _ _ => Iff.rfl) (fun _ _ _ h => h) (by rfl) ?_ hS8 ?_
      rotate_left
      · (intro wz l hl1 hl2 hSw; obtain ⟨x0, x1, x2⟩ := hSw; go_simp; try with_reducible rfl)
      simp only [Act.put, List.setIfInBounds_toArray, List.set_cons_zero, List.set_cons_succ, List.getElem_toArray, List.getElem_cons_succ, List.getElem_cons_zero]
      have HQw8 : Hid (Below w8.heap.size w8 w8) := Lib.hid (Below.refl _ _)
      refine held2.wpLeft.two (i := 9) (k := 15) (by kernel_rfl) rfl rfl (fun K hK => ?_) (fun K hK => ?_)
      · go_simp
        have hbw9 : Below w8.heap.size w8 (w8.alloc (.cells #[] 38)) := HQw8.out.alloc (by omega) _
        have HXw9 : Hid (ClsR (w8.alloc (.cells #[] 38)) w.heap.size w8.heap.size (.slice (some ⟨w8.heap.size, 0, none⟩) 0 0) []) := Lib.hid (ClsR.empty w8 w.heap.size)
        have HZw9 : Hid ((w8.alloc (.cells #[] 38)).heap.size = w8.heap.size + 1) := Lib.hid (by simp)
        refine hK.out _ _ (HKS.out _ hbw9) ?_
        clear hK K
        generalize w8.alloc (.cells #[] 38) = w9 at *
        have HQw9 := Lib.hid hbw9
        try simp only [Act.put, List.setIfInBounds_toArray, List.set_cons_zero, List.set_cons_succ, List.getElem_toArray, List.getElem_cons_succ, List.getElem_cons_zero]
        refine held2.wpLeft.two (i := 12) (k := 15) (by kernel_rfl) rfl rfl (fun K hK => ?_) (fun K hK => ?_)
        · refine step_append_clsx _ (by rfl) (.tmp 63) (.tmp 65) (by rfl) w.heap.size w8.heap.size _ _ [] cs (by rfl) HXw9.out (by rfl) (cls_x (HKC.out w9 HQw9.out).1) HN.out (by simp) (by have := HF.out.1; omega) HQw9.out.size (by omega) ?_
          intro a3 N3 c3 w10 hr3 hb3 hg3
          have HQ10 := Lib.hid (HQw9.out.trans hb3)
          have hs10 := HQ10.out.size
          refine hK.out _ _ (HKS.out _ HQ10.out) ?_
          clear hK K
          try simp only [Act.put, List.setIfInBounds_toArray, List.set_cons_zero, List.set_cons_succ, List.getElem_toArray, List.getElem_cons_succ, List.getElem_cons_zero]
          refine held2.wpLeft.one (i := 15) (by kernel_rfl) rfl (fun K hK => ?_)
          go_simp
          have HQ11 : Hid (Below w8.heap.size w8 (w10.alloc (.cells #[.slice aa asm.length ya] 38))) := Lib.hid (HQ10.out.alloc hs10 _)
          have HX11 : Hid (ClsR (w10.alloc (.cells #[.slice aa asm.length ya] 38)) w.heap.size w8.heap.size (.slice a3 N3 c3) cs) := Lib.hid (ClsR.alloc hr3 (by omega) _)
          have HY11 := Lib.hid (cls_one (HKC.out w10 HQ10.out).2 (by omega) 38)
          refine hK.out _ _ (HKS.out _ HQ11.out) ?_
          clear hK K hr3 hb3 hg3
          try simp only [Act.put, List.setIfInBounds_toArray, List.set_cons_zero, List.set_cons_succ, List.getElem_toArray, List.getElem_cons_succ, List.getElem_cons_zero]
          refine held2.wpLeft.one (i := 16) (by kernel_rfl) rfl (fun K hK => ?_)
          refine step_append_clsx _ (by rfl) (.tmp 66) (.tmp 69) (by rfl) w.heap.size w8.heap.size _ _ cs [asm] (by rfl) HX11.out (by rfl) HY11.out (Nilv.some _ _ _) (by have := HF.out.1; omega) (by simp) HQ11.out.size (by omega) ?_
          intro a5 N5 c5 w15 hr5 hb5 hg5
          have HQ15 := Lib.hid (HQ11.out.trans hb5)
          have hs15 : w.heap.size ≤ w15.heap.size := by have := HQ15.out.size; omega
          have HR15 := Lib.hid (HRG.out (.slice a5 N5 c5) w15 (hr5.at hs15))
          refine hK.out _ _ (HKS.out _ HQ15.out) ?_
          clear hK K hr5 hb5 hg5
          try simp only [Act.put, List.setIfInBounds_toArray, List.set_cons_zero, List.set_cons_succ, List.getElem_toArray, List.getElem_cons_succ, List.getElem_cons_zero]
          refine held2.wpLeft.one (i := 19) (by kernel_rfl) rfl (fun K hK => ?_)
          go_simp
          refine HR15.out.mono ?_
          rintro e w16 ⟨rfl, rfl⟩
          have hSE := HKS.out _ HQ15.out
          refine hK.out _ _ hSE ?_
          clear hK K
          try simp only [Act.put, List.setIfInBounds_toArray, List.set_cons_zero, List.set_cons_succ, List.getElem_toArray, List.getElem_cons_succ, List.getElem_cons_zero]
          refine held2.wpLeft.take (i := 20) (v := ?_) rfl (by kernel_rfl) (by kernel_rfl) (by kernel_rfl) (by kernel_rfl) (fun _ _ => Iff.rfl) (fun _ _ _ h => h) (by rfl) ?_ hSE ?_
          rotate_left
          · (intro wz l hl1 hl2 hSw; obtain ⟨x0, x1, x2⟩ := hSw; go_simp; try with_reducible rfl)
          simp only [Act.put, List.setIfInBounds_toArray, List.set_cons_zero, List.set_cons_succ, List.getElem_toArray, List.getElem_cons_succ, List.getElem_cons_zero]
          refine held2.wpLeft.take (i := 21) (v := ?_) rfl (by kernel_rfl) (by kernel_rfl) (by kernel_rfl) (by kernel_rfl) (fun _ _ => Iff.rfl) (fun _ _ _ h => h) (by rfl) ?_ hSE ?_
          rotate_left
          · (intro wz l hl1 hl2 hSw; obtain ⟨x0, x1, x2⟩ := hSw; go_simp; try with_reducible rfl)
          simp only [Act.put, List.setIfInBounds_toArray, List.set_cons_zero, List.set_cons_succ, List.getElem_toArray, List.getElem_cons_succ, List.getElem_cons_zero]
          refine held2.wpLeft.take (i := 22) (v := ?_) rfl (by kernel_rfl) (by kernel_rfl) (by kernel_rfl) (by kernel_rfl) (fun _ _ => Iff.rfl) (fun _ _ _ h => h) (by rfl) ?_ hSE ?_
          rotate_left
          · (intro wz l hl1 hl2 hSw; obtain ⟨x0, x1, x2⟩ := hSw; go_simp; try with_reducible rfl)
          simp only [Act.put, List.setIfInBounds_toArray, List.set_cons_zero, List.set_cons_succ, List.getElem_toArray, List.getElem_cons_succ, List.getElem_cons_zero]
          refine held2.wpLeft.done (by kernel_rfl) ?_
          go_wp2_with fail
          go_meet
          exact ⟨by rw [← HWZ.out], HB78.out.trans (HQ15.out.mono (by have := HB78.out.size; omega))⟩
        · go_simp
          have HQ10 : Hid (Below w8.heap.size w8 (w9.alloc (.cells #[.slice aa asm.length ya] 38))) := Lib.hid (HQw9.out.alloc HQw9.out.size _)
          have HX10 : Hid (ClsR (w9.alloc (.cells #[.slice aa asm.length ya] 38)) w.heap.size w8.heap.size (.slice (some ⟨w8.heap.size, 0, none⟩) 0 0) []) := Lib.hid (ClsR.alloc HXw9.out (by have := HZw9.out; omega) _)
          have HY10 := Lib.hid (cls_one (HKC.out w9 HQw9.out).2 (by have := HZw9.out; omega) 38)
          have HZ10 : Hid ((w9.alloc (.cells #[.slice aa asm.length ya] 38)).heap.size = w9.heap.size + 1) := Lib.hid (by simp)
          refine hK.out _ _ (HKS.out _ HQ10.out) ?_
          clear hK K
          generalize w9.alloc (.cells #[.slice aa asm.length ya] 38) = w10 at *
          try simp only [Act.put, List.setIfInBounds_toArray, List.set_cons_zero, List.set_cons_succ, List.getElem_toArray, List.getElem_cons_succ, List.getElem_cons_zero]
          refine held2.wpLeft.one (i := 12) (by kernel_rfl) rfl (fun K hK => ?_)
          refine step_append_clsx _ (by rfl) (.tmp 63) (.tmp 65) (by rfl) w.heap.size w8.heap.size _ _ [] cs (by rfl) HX10.out (by rfl) (cls_x (HKC.out w10 HQ10.out).1) HN.out (by simp) (by have := HF.out.1; omega) HQ10.out.size (by omega) ?_
          intro a3 N3 c3 w11 hr3 hb3 hg3
          have HQ11 := Lib.hid (HQ10.out.trans hb3)
          have HX11 := Lib.hid hr3
          have HY11 := Lib.hid (one_kept HY10.out hb3 (by omega) hg3 (fun e => by have e2 : w8.heap.size = w9.heap.size := Option.some.inj e; have := HZw9.out; omega) (by have := HZ10.out; omega))
          refine hK.out _ _ (HKS.out _ HQ11.out) ?_
          clear hK K hr3 hb3 hg3
          try simp only [Act.put, List.setIfInBounds_toArray, List.set_cons_zero, List.set_cons_succ, List.getElem_toArray, List.getElem_cons_succ, List.getElem_cons_zero]
          refine held2.wpLeft.one (i := 16) (by kernel_rfl) rfl (fun K hK => ?_)
          refine step_append_clsx _ (by rfl) (.tmp 66) (.tmp 69) (by rfl) w.heap.size w8.heap.size _ _ cs [asm] (by rfl) HX11.out (by rfl) HY11.out (Nilv.some _ _ _) (by have := HF.out.1; omega) (by simp) HQ11.out.size (by omega) ?_
          intro a5 N5 c5 w15 hr5 hb5 hg5
          have HQ15 := Lib.hid (HQ11.out.trans hb5)
          have hs15 : w.heap.size ≤ w15.heap.size := by have := HQ15.out.size; omega
          have HR15 := Lib.hid (HRG.out (.slice a5 N5 c5) w15 (hr5.at hs15))
          refine hK.out _ _ (HKS.out _ HQ15.out) ?_
          clear hK K hr5 hb5 hg5
          try simp only [Act.put, List.setIfInBounds_toArray, List.set_cons_zero, List.set_cons_succ, List.getElem_toArray, List.getElem_cons_succ, List.getElem_cons_zero]
          refine held2.wpLeft.one (i := 19) (by kernel_rfl) rfl (fun K hK => ?_)
          go_simp
          refine HR15.out.mono ?_
          rintro e w16 ⟨rfl, rfl⟩
          have hSE := HKS.out _ HQ15.out
          refine hK.out _ _ hSE ?_
          clear hK K
          try simp only [Act.put, List.setIfInBounds_toArray, List.set_cons_zero, List.set_cons_succ, List.getElem_toArray, List.getElem_cons_succ, List.getElem_cons_zero]
          refine held2.wpLeft.take (i := 20) (v := ?_) rfl (by kernel_rfl) (by kernel_rfl) (by kernel_rfl) (by kernel_rfl) (fun _ _ => Iff.rfl) (fun _ _ _ h => h) (by rfl) ?_ hSE ?_
          rotate_left
          · (intro wz l hl1 hl2 hSw; obtain ⟨x0, x1, x2⟩ := hSw; go_simp; try with_reducible rfl)
          simp only [Act.put, List.setIfInBounds_toArray, List.set_cons_zero, List.set_cons_succ, List.getElem_toArray, List.getElem_cons_succ, List.getElem_cons_zero]
          refine held2.wpLeft.take (i := 21) (v := ?_) rfl (by kernel_rfl) (by kernel_rfl) (by kernel_rfl) (by kernel_rfl) (fun _ _ => Iff.rfl) (fun _ _ _ h => h) (by rfl) ?_ hSE ?_
          rotate_left
          · (intro wz l hl1 hl2 hSw; obtain ⟨x0, x1, x2⟩ := hSw; go_simp; try with_reducible rfl)
          simp only [Act.put, List.setIfInBounds_toArray, List.set_cons_zero, List.set_cons_succ, List.getElem_toArray, List.getElem_cons_succ, List.getElem_cons_zero]
          refine held2.wpLeft.take (i := 22) (v := ?_) rfl (by kernel_rfl) (by kernel_rfl) (by kernel_rfl) (by kernel_rfl) (fun _ _ => Iff.rfl) (fun _ _ _ h => h) (by rfl) ?_ hSE ?_
          rotate_left
          · (intro wz l hl1 hl2 hSw; obtain ⟨x0, x1, x2⟩ := hSw; go_simp; try with_reducible rfl)
          simp only [Act.put, List.setIfInBounds_toArray, List.set_cons_zero, List.set_cons_succ, List.getElem_toArray, List.getElem_cons_succ, List.getElem_cons_zero]
          refine held2.wpLeft.done (by kernel_rfl) ?_
          go_wp2_with fail
          go_meet
          exact ⟨by rw [← HWZ.out], HB78.out.trans (HQ15.out.mono (by have := HB78.out.size; omega))⟩
      · go_simp
        have HQ9 : Hid (Below w8.heap.size w8 (w8.alloc (.cells #[.slice aa asm.length ya] 38))) := Lib.hid (HQw8.out.alloc (by omega) _)
        have HY9 := Lib.hid (cls_one (HKC.out w8 HQw8.out).2 (by omega) 38)
        have HZ9 : Hid ((w8.alloc (.cells #[.slice aa asm.length ya] 38)).heap.size = w8.heap.size + 1) := Lib.hid (by simp)
        refine hK.out _ _ (HKS.out _ HQ9.out) ?_
        clear hK K
        generalize w8.alloc (.cells #[.slice aa asm.length ya] 38) = w9 at *
        try simp only [Act.put, List.setIfInBounds_toArray, List.set_cons_zero, List.set_cons_succ, List.getElem_toArray, List.getElem_cons_succ, List.getElem_cons_zero]
        refine held2.wpLeft.one (i := 9) (by kernel_rfl) rfl (fun K hK => ?_)
        go_simp
        have HQ10 : Hid (Below w8.heap.size w8 (w9.alloc (.cells #[] 38))) := Lib.hid (HQ9.out.alloc HQ9.out.size _)
        have HX10 : Hid (ClsR (w9.alloc (.cells #[] 38)) w.heap.size w8.heap.size (.slice (some ⟨w9.heap.size, 0, none⟩) 0 0) []) := Lib.hid (clsr_mono (ClsR.empty w9 w.heap.size) HQ9.out.size)
        have HY10 := Lib.hid (one_below HY9.out ((Below.refl w9.heap.size w9).alloc (Nat.le_refl _) (.cells #[] 38)) (by have := HZ9.out; omega) (by have := HZ9.out; omega))
        have HZ10 : Hid ((w9.alloc (.cells #[] 38)).heap.size = w9.heap.size + 1) := Lib.hid (by simp)
        refine hK.out _ _ (HKS.out _ HQ10.out) ?_
        clear hK K
        generalize w9.alloc (.cells #[] 38) = w10 at *
        try simp only [Act.put, List.setIfInBounds_toArray, List.set_cons_zero, List.set_cons_succ, List.getElem_toArray, List.getElem_cons_succ, List.getElem_cons_zero]
        refine held2.wpLeft.one (i := 12) (by kernel_rfl) rfl (fun K hK => ?_)
        refine step_append_clsx _ (by rfl) (.tmp 63) (.tmp 65) (by rfl) w.heap.size w8.heap.size _ _ [] cs (by rfl) HX10.out (by rfl) (cls_x (HKC.out w10 HQ10.out).1) HN.out (by simp) (by have := HF.out.1; omega) HQ10.out.size (by omega) ?_
        intro a3 N3 c3 w11 hr3 hb3 hg3
        have HQ11 := Lib.hid (HQ10.out.trans hb3)
        have HX11 := Lib.hid hr3
        have HY11 := Lib.hid (one_kept HY10.out hb3 (by omega) hg3 (fun e => by have e2 : w9.heap.size = w8.heap.size := Option.some.inj e; have := HZ9.out; omega) (by have := HZ10.out; have := HZ9.out; omega))
        refine hK.out _ _ (HKS.out _ HQ11.out) ?_
        clear hK K hr3 hb3 hg3
        try simp only [Act.put, List.setIfInBounds_toArray, List.set_cons_zero, List.set_cons_succ, List.getElem_toArray, List.getElem_cons_succ, List.getElem_cons_zero]
        refine held2.wpLeft.one (i := 16) (by kernel_rfl) rfl (fun K hK => ?_)
        refine step_append_clsx _ (by rfl) (.tmp 66) (.tmp 69) (by rfl) w.heap.size w8.heap.size _ _ cs [asm] (by rfl) HX11.out (by rfl) HY11.out (Nilv.some _ _ _) (by have := HF.out.1; omega) (by simp) HQ11.out.size (by omega) ?_
        intro a5 N5 c5 w15 hr5 hb5 hg5
        have HQ15 := Lib.hid (HQ11.out.trans hb5)
        have hs15 : w.heap.size ≤ w15.heap.size := by have := HQ15.out.size; omega
        have HR15 := Lib.hid (HRG.out (.slice a5 N5 c5) w15 (hr5.at hs15))
        refine hK.out _ _ (HKS.out _ HQ15.out) ?_
        clear hK K hr5 hb5 hg5
        try simp only [Act.put, List.setIfInBounds_toArray, List.set_cons_zero, List.set_cons_succ, List.getElem_toArray, List.getElem_cons_succ, List.getElem_cons_zero]
        refine held2.wpLeft.one (i := 19) (by kernel_rfl) rfl (fun K hK => ?_)
        go_simp
        refine HR15.out.mono ?_
        rintro e w16 ⟨rfl, rfl⟩
        have hSE := HKS.out _ HQ15.out
        refine hK.out _ _ hSE ?_
        clear hK K
        try simp only [Act.put, List.setIfInBounds_toArray, List.set_cons_zero, List.set_cons_succ, List.getElem_toArray, List.getElem_cons_succ, List.getElem_cons_zero]
        refine held2.wpLeft.take (i := 20) (v := ?_) rfl (by kernel_rfl) (by kernel_rfl) (by kernel_rfl) (by kernel_rfl) (fun _ _ => Iff.rfl) (fun _ _ _ h => h) (by rfl) ?_ hSE ?_
        rotate_left
        · (intro wz l hl1 hl2 hSw; obtain ⟨x0, x1, x2⟩ := hSw; go_simp; try with_reducible rfl)
        simp only [Act.put, List.setIfInBounds_toArray, List.set_cons_zero, List.set_cons_succ, List.getElem_toArray, List.getElem_cons_succ, List.getElem_cons_zero]
        refine held2.wpLeft.take (i := 21) (v := ?_) rfl (by kernel_rfl) (by kernel_rfl) (by kernel_rfl) (by kernel_rfl) (fun _ _ => Iff.rfl) (fun _ _ _ h => h) (by rfl) ?_ hSE ?_
        rotate_left
        · (intro wz l hl1 hl2 hSw; obtain ⟨x0, x1, x2⟩ := hSw; go_simp; try with_reducible rfl)
        simp only [Act.put, List.setIfInBounds_toArray, List.set_cons_zero, List.set_cons_succ, List.getElem_toArray, List.getElem_cons_succ, List.getElem_cons_zero]
        refine held2.wpLeft.take (i := 22) (v := ?_) rfl (by kernel_rfl) (by kernel_rfl) (by kernel_rfl) (by kernel_rfl) (fun _ _ => Iff.rfl) (fun _ _ _ h => h) (by rfl) ?_ hSE ?_
        rotate_left
        · (intro wz l hl1 hl2 hSw; obtain ⟨x0, x1, x2⟩ := hSw; go_simp; try with_reducible rfl)
        simp only [Act.put, List.setIfInBounds_toArray, List.set_cons_zero, List.set_cons_succ, List.getElem_toArray, List.getElem_cons_succ, List.getElem_cons_zero]
        refine held2.wpLeft.done (by kernel_rfl) ?_
        go_wp2_with fail
        go_meet
        exact ⟨by rw [← HWZ.out], HB78.out.trans (HQ15.out.mono (by have := HB78.out.size; omega))⟩
      --ENDMARK8
    case rest =>
      obtain ⟨rfl, hb8⟩ := hcut
      have hZ7 := HZ7.out
      have hR8 := HR7.out.below hb8 (by omega)
      have hO8 := HO7.out.below hb8 (by omega)
      have HB8 := Lib.hid (HB7.out.trans (hb8.mono (by omega)))
      have HE8 := Lib.hid (HE.out.below (HB8.out))
      have hs8 : w6.heap.size + 1 ≤ wc.heap.size := by have := hb8.size; omega
      have HR8 := Lib.hid hR8
      have HO8 := Lib.hid hO8
      have r0 := hR8.cell 0
      simp only [List.getElem?_cons_zero] at r0
      obtain ⟨o0, o1, o2, o3⟩ := four hO8
      have hne := nilnilE
      have hEV := HEV.out
      have hBV := HBV.out
      have hOK := HOK.out
      generalize w6.heap.size = g6 at *
      clear hb8 hR8 hO8 k0 k1 k2 k3 k4 k5 k6 HR7 HO7 HW7 HB7 HZ7 hZ7 HEV HBV HOK HWR
      cases okp
      · obtain rfl : ok = false := hOK
        obtain ⟨rfl, rfl⟩ := hEV.2 rfl
        obtain rfl : BV = evl (ad 9) := hBV
        have HN1 : Hid (Calls Tryd.prog 20 #[evl (ad 9)] wc fun e w' => e = .returned (.int .i64 10) ∧ Below wc.heap.size wc w') := Lib.hid (num_err wc ad HE8.out 9 (by omega))
        clear hEV
        go_wp2_with fail
        refine HN1.out.mono ?_
        rintro e w9 ⟨rfl, hb9⟩
        have hR9 := HR8.out.below hb9 (by omega)
        have hO9 := HO8.out.below hb9 (by omega)
        have HB9 := Lib.hid (HB8.out.trans (hb9.mono (by omega)))
        have HE9 := HE8.out.below hb9
        have HN2 : Hid (Calls Tryd.prog 20 #[evl (ad 9)] w9 fun e w' => e = .returned (.int .i64 10) ∧ Below w9.heap.size w9 w') := Lib.hid (num_err w9 ad HE9 9 (by omega))
        have hs9 : w.heap.size ≤ w9.heap.size := HB9.out.size
        clear r0 o0 o1 o2 o3 HN1 HE9 hb9
        have r0 := hR9.cell 0
        simp only [List.getElem?_cons_zero] at r0
        obtain ⟨o0, o1, o2, o3⟩ := four hO9
        clear hR9 hO9
        go_wp2_with fail
        refine HN2.out.mono ?_
        rintro e w10 ⟨rfl, hb10⟩
        have HB10 := Lib.hid (HB9.out.trans (hb10.mono hs9))
        clear hb10
        go_wp2
        go_ret
        exact ⟨rfl, HB10.out⟩
      · obtain rfl : BV = .nilIface := hBV
        have HN1 := Lib.hid (num_nil wc)
        rw [Bool.true_and] at hOK
        go_wp2_with fail
        refine HN1.out.mono ?_
        rintro e w9 ⟨rfl, rfl⟩
        have HN2 : Hid (Calls Tryd.prog 20 #[evl (ad 9)] wc fun e w' => e = .returned (.int .i64 10) ∧ Below wc.heap.size wc w') := Lib.hid (num_err wc ad HE8.out 9 (by omega))
        have hsW : w.heap.size ≤ wc.heap.size := HB8.out.size
        cases ok
        · obtain ⟨rfl, rfl⟩ := hEV.2 rfl
          have HBAD : Hid (r < 0 ∨ k < 0 ∨ b < 0) := Lib.hid (by
            have := hOK
            simp only [Bool.false_eq, Bool.and_eq_false_iff, decide_eq_false_iff_not] at this
            omega)
          clear hEV hOK HN1
          by_cases h1 : r < 0
          · go_wp2_with fail
            refine HN2.out.mono ?_
            rintro e w10 ⟨rfl, hb10⟩
            have HB10 := Lib.hid (HB8.out.trans (hb10.mono hsW))
            clear hb10
            go_wp2
            go_ret
            exact ⟨rfl, HB10.out⟩
          by_cases h2 : k < 0
          · go_wp2_with fail
            refine HN2.out.mono ?_
            rintro e w10 ⟨rfl, hb10⟩
            have HB10 := Lib.hid (HB8.out.trans (hb10.mono hsW))
            clear hb10
            go_wp2
            go_ret
            exact ⟨rfl, HB10.out⟩
          have h3 : b < 0 := by rcases HBAD.out with h | h | h <;> omega
          go_wp2_with fail
          refine HN2.out.mono ?_
          rintro e w10 ⟨rfl, hb10⟩
          have HB10 := Lib.hid (HB8.out.trans (hb10.mono hsW))
          clear hb10
          go_wp2
          go_ret
          exact ⟨rfl, HB10.out⟩
        · obtain ⟨rfl, hs1, hs3⟩ := hEV.1 rfl
          have hop := hOK.symm
          simp only [Bool.and_eq_true, decide_eq_true_eq] at hop
          obtain ⟨hr0, hk0, hb0⟩ := hop
          have h1 : ¬ r < 0 := by omega
          have h2 : ¬ k < 0 := by omega
          have h3 : ¬ b < 0 := by omega
          clear hEV hOK HN1 HN2 hr0 hk0 hb0
          go_wp2
          go_ret
          exact ⟨rfl, HB8.out⟩
end Go.Proofs.YtjeckkkmoabjnaaDoor.satRf
