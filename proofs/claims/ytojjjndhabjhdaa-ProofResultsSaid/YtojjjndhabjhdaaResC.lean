/-
  The law ProofResults: its memory, and a step of a statement that draws its order.
-/
import Derived.Test.YtojjjndhabjhdaaResB
import Derived.Test.YtojjjndhabjhdaaProofY
namespace Go.Proofs.Ytojjjndhabjhdaa.resC
open Go.ChangeShapes Go.WideShapes Go.ChangeAt Go.RowKit proofP proofQ proofR owns proofA proofC proofG proofI proofJ proofK proofM proofN proofO proofS proofT proofU proofV proofW proofX proofY resA resB cls
set_option linter.unusedSimpArgs false
set_option linter.unusedVariables false

section
variable (w : World)
theorem run_append_cls (ty : TypeId) (B0 base : Nat) (v xv : Value) (cl log : List (List Int)) (hr : ClsR w B0 base v cl) (hxv : ClsAt w B0 xv log) (hnil : Nilv xv) (h1 : cl.length ≤ 100000) (h2 : log.length ≤ 100000) (hbase : base ≤ w.heap.size) (hB : B0 ≤ base) :
    ∃ ao N c w', (Builtin.append_ #[22, 22] ty #[v, xv]).run Try.prog w = .ok (.slice ao N c) w' ∧ ClsR w' B0 base (.slice ao N c) (cl ++ log) ∧ Below base w w' := by
  obtain ⟨i0, hi0, hz0, hz1, hz2⟩ := info_parts infoC
  have hr0 := hr
  obtain ⟨vl, ho1, hin⟩ := hr
  obtain ⟨ao, cap, b, off, vs, rfl, _, ha, hc, hn⟩ := hxv
  have hlen : vl.length = cl.length := by have := ho1.1; omega
  cases ao with
  | none =>
    obtain ⟨h0, rfl⟩ := hnil _ _ rfl
    obtain rfl : log = [] := List.length_eq_zero_iff.1 h0
    have hrun := run_append_owned_none (P := Try.prog) w base 22 ty 30 i0 1 Try.underlying22 hi0 v cl.length vl ho1
    obtain ⟨a3, c3, hv3, _, _, _⟩ := cap_row ho1
    subst hv3
    exact ⟨_, _, _, w, hrun, by rw [List.append_nil]; exact hr0, Below.refl _ _⟩
  | some ad =>
    obtain ⟨v', w', hrun, ho', hg', _, hat⟩ := run_append_own_at (P := Try.prog) w base 22 ty 30 i0 (.slice none 0 0) 1 24 Try.underlying22 hi0 hz0 hz1 hz2 rfl (by omega) v cl.length vl ho1 ad log.length cap (valsOf vs log.length) (by rw [valsOf_len]; omega) (fun j u hu => by
      have hj : j < log.length := by have := (List.getElem?_eq_some_iff.1 hu).1; rwa [valsOf_len] at this
      rw [valsOf_at hj] at hu
      obtain ⟨he, _⟩ := ha (by intro h0; rw [h0] at hj; simp at hj)
      cases he; cases hu
      rw [proofT.clsadd]; exact hc j hj) (fun u hu => by
      obtain ⟨j, hj, rfl⟩ := List.mem_map.1 hu
      exact ints_one (hn j (by simpa using hj))) (by unfold maxLen; omega) (by omega) hbase
    have hb : Below base w w' := (Below.refl base w).grown hg' hbase (fun j hj => (ho1.lt j hj).1)
    obtain ⟨a3, c3, hv3, _, _, _⟩ := cap_row ho'
    subst hv3
    refine ⟨a3, _, c3, w', hrun, ⟨vl ++ valsOf vs log.length, by rw [List.length_append]; exact ho', fun i hi => ?_⟩, hb⟩
    rw [List.length_append] at hi
    by_cases hlt : i < cl.length
    · rw [List.getD_eq_getElem?_getD, List.getElem?_append_left (by omega), List.getD_eq_getElem?_getD, List.getElem?_append_left hlt, ← List.getD_eq_getElem?_getD, ← List.getD_eq_getElem?_getD]
      exact (hin i hlt).keep (hb.mono hB)
    · rw [List.getD_eq_getElem?_getD, List.getElem?_append_right (by omega), List.getD_eq_getElem?_getD, List.getElem?_append_right (by omega), hlen, valsOf_at (by omega), ← List.getD_eq_getElem?_getD]
      exact (hn (i - cl.length) (by omega)).keep (hb.mono hB)
theorem step_append_cls {ops : Array Oper} {o : Oper} {a : Act} {K : Act → World → Prop} {Q : Exit → Act → World → Prop} {E : Prop} (hw : Region.wanted o (yielded ops a.tmps) = true) (s x : Operand)
    (ho : o.op = .call { callee := .builtin .append, args := #[s, x], argTypes := #[22, 22] })
    (B0 base : Nat) (v xv : Value) (cl log : List (List Int)) (hs : a.eval s = v) (hr : ClsR w B0 base v cl) (hx : a.eval x = xv) (hxv : ClsAt w B0 xv log) (hnil : Nilv xv)
    (h1 : cl.length ≤ 100000) (h2 : log.length ≤ 100000) (hbase : base ≤ w.heap.size) (hB : B0 ≤ base)
    (h : ∀ ao N c w', ClsR w' B0 base (.slice ao N c) (cl ++ log) → Below base w w' → K (a.put o.dst (.slice ao N c)) w') :
    if Region.wanted o (yielded ops a.tmps) = true then Oper.wp Try.prog o a w K Q else E := by
  rw [if_pos hw]
  obtain ⟨ao, N, c, w', hrun, h2', h3⟩ := run_append_cls w o.type B0 base v xv cl log hr hxv hnil h1 h2 hbase hB
  unfold Oper.wp execOp
  simp only [ho, resolve, invoke, builtin, Sem.run_bind, Sem.run_pure, Result.andThen_ok, List.map_toArray, List.map_cons, List.map_nil, hs, hx, hrun]
  exact h _ _ _ w' h2' h3
end

/-- the law's two variables -/
structure Fld (w : World) (b1 b2 : Nat) (cv av mv kv lv : Value) (vars st cf : Int) : Prop where
  x0 : w.cell? ⟨b1, 0, none⟩ = some cv
  x1 : w.cell? ⟨b1, 1, none⟩ = some (.int .i64 vars)
  x2 : w.cell? ⟨b1, 2, none⟩ = some av
  y0 : w.cell? ⟨b2, 0, none⟩ = some (.int .i64 st)
  y1 : w.cell? ⟨b2, 1, none⟩ = some mv
  y2 : w.cell? ⟨b2, 2, none⟩ = some kv
  y3 : w.cell? ⟨b2, 3, none⟩ = some lv
  y4 : w.cell? ⟨b2, 4, none⟩ = some (.int .i64 cf)
theorem Fld.keep {w w' : World} {b1 b2 B : Nat} {cv av mv kv lv : Value} {vars st cf : Int} (h : Fld w b1 b2 cv av mv kv lv vars st cf) (hb : Below B w w') (h1 : b1 < B) (h2 : b2 < B) : Fld w' b1 b2 cv av mv kv lv vars st cf :=
  ⟨(hb.cell (p := ⟨b1, 0, none⟩) h1).trans h.x0, (hb.cell (p := ⟨b1, 1, none⟩) h1).trans h.x1, (hb.cell (p := ⟨b1, 2, none⟩) h1).trans h.x2, (hb.cell (p := ⟨b2, 0, none⟩) h2).trans h.y0, (hb.cell (p := ⟨b2, 1, none⟩) h2).trans h.y1, (hb.cell (p := ⟨b2, 2, none⟩) h2).trans h.y2, (hb.cell (p := ⟨b2, 3, none⟩) h2).trans h.y3, (hb.cell (p := ⟨b2, 4, none⟩) h2).trans h.y4⟩
theorem all_snoc {α : Type} {l : List α} {p : α → Bool} {k : Nat} {d : α} (h : k < l.length) : ((l.take (k + 1)).all p) = ((l.take k).all p && p (l.getD k d)) := by
  rw [List.take_succ_eq_append_getElem h, List.all_append, List.getD_eq_getElem?_getD, List.getElem?_eq_getElem h]; simp
end Go.Proofs.Ytojjjndhabjhdaa.resC
