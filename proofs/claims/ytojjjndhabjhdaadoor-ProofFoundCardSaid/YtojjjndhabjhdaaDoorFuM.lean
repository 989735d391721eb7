/-
  Plain: what a run answers tells whether there is a model.
  Contracts of the reference's Right (clauses in order, clauses of so many variables) and Possible.
  What Solve answers, for good; contract of sat.Possible.
-/
import Derived.Test.YtojjjndhabjhdaaDoorFiM
import Derived.Test.YtojjjndhabjhdaaDoorFqM
import Derived.Test.YtojjjndhabjhdaaDoorSatLh
namespace Go.Proofs.YtojjjndhabjhdaaDoor.satMa
set_option linter.unusedSimpArgs false
set_option linter.unusedVariables false
open proofP proofQ proofR owns cls satP satA satX satCa satCf satSe proofN proofO proofS proofT

/-- a model of all variables with which clauses and assumptions are true -/
def Psb (cs : List (List Int)) (V : Nat) (asm : List Int) : Prop := ∃ m : List Bool, m.length = V ∧ allIn cs m = true ∧ ∀ a, a ∈ asm → holds a m = true
/-- literals of so many variables -/
def In (V : Nat) (l : Int) : Prop := l ≠ 0 ∧ -(V : Int) ≤ l ∧ l ≤ (V : Int)
section
variable {cs : List (List Int)} {V : Nat} {asm c : List Int} {T K : List Nat} {logs l : List (List Int)} {m : List Bool}
theorem In.lit {x : Int} (h : In V x) (hV : V ≤ 20000) : lit x := ⟨h.1, by have := h.2.1; omega, by have := h.2.2; omega⟩
/-- the model of a complete trail -/
def mod (T : List Nat) (V : Nat) : List Bool := (List.range V).map fun i => decide (2 * (i + 1) + 1 ∈ T)
theorem mod_len : (mod T V).length = V := by simp [mod]
theorem mdl_mod : mdl T V V = (mod T V).map Value.bool := by
  unfold mdl mod
  rw [List.map_map]
  refine List.map_congr_left fun i hi => ?_
  rw [List.mem_range] at hi
  show Value.bool _ = Value.bool _
  congr 1
  rw [decide_eq_true hi, Bool.true_and]
  show decide (0 < val T (2 * (i + 1) + 1)) = decide (2 * (i + 1) + 1 ∈ T)
  by_cases h : 2 * (i + 1) + 1 ∈ T
  · rw [decide_eq_true h, val_pos h]; rfl
  · rw [decide_eq_false h]
    refine decide_eq_false ?_
    unfold val
    rw [if_neg h]
    split <;> omega
theorem mod_at {i : Nat} (h : i < V) : (mod T V).getD i false = decide (2 * (i + 1) + 1 ∈ T) := by
  unfold mod
  rw [List.getD_eq_getElem?_getD, List.getElem?_map, List.getElem?_range h]; rfl
theorem holds_mod {x : Int} (hx : In V x) (hV : V ≤ 20000) (h2 : ∀ y, y ∈ T → opp y ∉ T) (h3 : ∀ v, 1 ≤ v → v ≤ V → 2 * v ∈ T ∨ 2 * v + 1 ∈ T) : holds x (mod T V) = true ↔ code x ∈ T := by
  unfold holds
  rw [mod_len, decide_eq_true (hx.lit hV), Bool.true_and]
  obtain ⟨h0, ha, hb⟩ := hx
  by_cases hn : x < 0
  · rw [if_pos hn]
    have e1 : decide ((V : Int) < -x) = false := decide_eq_false (by omega)
    rw [e1, Bool.false_or]
    have hi : (-x - 1).toNat < V := by omega
    rw [mod_at hi]
    have e2 : 2 * ((-x - 1).toNat + 1) + 1 = code x + 1 := by unfold code; rw [if_pos hn]; omega
    have e3 : code x % 2 = 0 := by unfold code; rw [if_pos hn]; omega
    rw [e2]
    have e4 : opp (code x) = code x + 1 := by unfold opp; rw [if_pos e3]
    have h5 := h3 ((-x - 1).toNat + 1) (by omega) (by omega)
    have e5 : 2 * ((-x - 1).toNat + 1) = code x := by omega
    rw [e5] at h5
    constructor
    · intro h
      rcases h5 with h5 | h5
      · exact h5
      · simp [h5] at h
    · intro h
      have := h2 _ h
      rw [e4] at this
      simp [this]
  · rw [if_neg hn]
    have e1 : decide (x ≤ (V : Int)) = true := decide_eq_true hb
    rw [e1, Bool.true_and]
    have hi : (x - 1).toNat < V := by omega
    rw [mod_at hi]
    have e2 : 2 * ((x - 1).toNat + 1) + 1 = code x := by unfold code; rw [if_neg hn]; omega
    rw [e2]
    simp
theorem sats_true (h : Sats T c) (hc : ∀ x, x ∈ c → In V x) (hV : V ≤ 20000) (h2 : ∀ y, y ∈ T → opp y ∉ T) (h3 : ∀ v, 1 ≤ v → v ≤ V → 2 * v ∈ T ∨ 2 * v + 1 ∈ T) : trueIn c (mod T V) = true := by
  obtain ⟨x, hx, hT⟩ := h
  obtain ⟨z, hz, _, rfl⟩ := (row_is c x).1 hx
  unfold trueIn
  exact List.any_eq_true.2 ⟨z, hz, (holds_mod (hc z hz) hV h2 h3).2 hT⟩
/-- a model was found -/
theorem mod_is (hc : ∀ c, c ∈ cs → ∀ x, x ∈ c → In V x) (ha : ∀ x, x ∈ asm → In V x) (hV : V ≤ 20000) (h2 : ∀ y, y ∈ T → opp y ∉ T) (h3 : ∀ v, 1 ≤ v → v ≤ V → 2 * v ∈ T ∨ 2 * v + 1 ∈ T) (h4 : ∀ c, c ∈ cs → Sats T c) (h5 : ∀ a, a ∈ rowOf asm → a ∈ T) : allIn cs (mod T V) = true ∧ ∀ a, a ∈ asm → holds a (mod T V) = true := by
  refine ⟨?_, fun a h => (holds_mod (ha a h) hV h2 h3).2 (h5 _ ((row_is asm _).2 ⟨a, h, (ha a h).lit hV, rfl⟩))⟩
  unfold allIn
  exact List.all_eq_true.2 fun c h => sats_true (h4 c h) (hc c h) hV h2 h3
/-- a log that is right -/
theorem log_bad (h : LogOk cs V logs) : bad cs logs = -1 := bad_none fun j hj => (h j hj).1
/-- no model was found -/
theorem unsat_no (h : LogOk cs V (l ++ [clz (K.map opp)])) (hr : ∀ x, x ∈ K → 2 ≤ x ∧ x < 40002) (ha : ∀ x, x ∈ K → litOf x ∈ asm) : ¬ Psb cs V asm := by
  rintro ⟨m, _, h1, h2⟩
  have h3 := snd_law (log_bad h) m h1
  unfold allIn at h3
  have h4 := List.all_eq_true.1 h3 (clz (K.map opp)) (by simp)
  unfold trueIn at h4
  obtain ⟨z, hz, h5⟩ := List.any_eq_true.1 h4
  obtain ⟨y, hy, rfl⟩ := clz_mem.1 hz
  obtain ⟨x, hx, rfl⟩ := List.mem_map.1 hy
  have hx2 := hr x hx
  rw [litOf_opp x hx2.1] at h5
  exact (holds_neg m (litOf_lit x hx2.1 hx2.2)).1 h5 (h2 _ (ha x hx))
/-! ### clauses in order -/
end
end Go.Proofs.YtojjjndhabjhdaaDoor.satMa
namespace Go.Proofs.YtojjjndhabjhdaaDoor.satMb
set_option linter.unusedSimpArgs false
set_option linter.unusedVariables false
open Go.ChangeShapes Go.WideShapes Go.ChangeAt Go.RowKit proofP proofQ proofR owns cls satP satA satX satCa satCf satSe proofN proofO proofS proofT proofU satLg satLh satMa
attribute [local go_sem ↓] Go.wp_at_zero Go.wp_at_succ

/-- are these clauses of so many variables? -/
def rgt (cl : List (List Int)) (V : Int) : Bool := !(cl.any fun c => c.any (badl V))
/-- the bits of a number -/
def bits (V n : Nat) : List Bool := (List.range V).map fun i => n.testBit i
/-- a model that is tried -/
def tryB (cs : List (List Int)) (V : Nat) (asm : List Int) (n : Nat) : Bool := allIn cs (bits V n) && asm.all fun a => holds a (bits V n)
theorem iB : (Tryd.prog.info? 4).map (fun i => (i.zero, i.size, i.bytes)) = some (some (.bool false), 1, 1) := by kernel_rfl
end Go.Proofs.YtojjjndhabjhdaaDoor.satMb
namespace Go.Proofs.YtojjjndhabjhdaaDoor.satMc
set_option linter.unusedSimpArgs false
set_option linter.unusedVariables false
open Go.ChangeShapes Go.WideShapes Go.ChangeAt Go.RowKit proofP proofQ proofR owns cls satP satA satX satCa satCe satCf satSe proofN proofO proofS proofT proofU satLg satLh satMa satMb
attribute [local go_sem ↓] Go.wp_at_zero Go.wp_at_succ

/-- what Solve answers, in a later world -/
structure Ans (w : World) (cs : List (List Int)) (V : Nat) (asm : List Int) (b r st conf : Int) (mv cv lv : Value) (logs : List (List Int)) : Prop where
  log : ClsAt w w.heap.size lv logs
  ok : LogOk cs V logs
  nl : NilC w lv
  len : (logs.length : Int) ≤ cmax + 1
  len0 : r = 0 → (logs.length : Int) ≤ 2 ^ V + 1
  cfl : 0 ≤ conf ∧ conf ≤ cmax
  kind : (st = 1 ∧ cv = .slice none 0 0 ∧ ∃ m, BoolsAt w w.heap.size mv m ∧ m.length = V ∧ allIn cs m = true ∧ ∀ a, a ∈ asm → holds a m = true) ∨
    (st = 2 ∧ mv = .slice none 0 0 ∧ ∃ K l, IntsAt w w.heap.size cv (clz K) ∧ K.Nodup ∧ (∀ x, x ∈ K → 2 ≤ x ∧ x < 2 * V + 2 ∧ litOf x ∈ asm) ∧ logs = l ++ [clz (K.map opp)]) ∨
    (st = 3 ∧ mv = .slice none 0 0 ∧ cv = .slice none 0 0 ∧ b < conf ∧ (r = 0 → b < 2 ^ V))
theorem bools_mono {w : World} {B B' : Nat} (hB : B ≤ B') {v : Value} {l : List Bool} (h : BoolsAt w B v l) : BoolsAt w B' v l := by
  obtain ⟨ao, cap, b, off, rfl, hm, ha, hc⟩ := h
  exact ⟨ao, cap, b, off, rfl, hm, fun h => ⟨(ha h).1, by have := (ha h).2; omega⟩, hc⟩
theorem nilC_keep {w w' : World} {v : Value} {l : List (List Int)} (hc : ClsAt w w.heap.size v l) (h : NilC w v) (hb : Below w.heap.size w w') : NilC w' v := by
  intro b off n cap he i hi u hu
  obtain ⟨ao, cap2, b2, off2, vs, he2, hm, ha, hcl, hn⟩ := hc
  rw [he] at he2
  cases he2
  have h3 := ha (by intro e; rw [e] at hi; simp at hi)
  obtain ⟨h4, h5⟩ := h3
  cases h4
  rw [hb.cell (show (⟨b, off + i, none⟩ : Addr).block < w.heap.size from h5)] at hu
  exact h b off l.length cap he i hi u hu
section
variable {w w' : World} {cs : List (List Int)} {V : Nat} {asm : List Int} {b r st conf : Int} {mv cv lv : Value} {logs : List (List Int)}
theorem Ans.keep (h : Ans w cs V asm b r st conf mv cv lv logs) (hb : Below w.heap.size w w') : Ans w' cs V asm b r st conf mv cv lv logs := by
  refine ⟨(h.log.keep hb).mono hb.size, h.ok, nilC_keep h.log h.nl hb, h.len, h.len0, h.cfl, ?_⟩
  rcases h.kind with ⟨e1, e2, m, hm, h5⟩ | ⟨e1, e2, K, l, hr, h5⟩ | h4
  · exact .inl ⟨e1, e2, m, bools_mono hb.size (hm.keep hb), h5⟩
  · exact .inr (.inl ⟨e1, e2, K, l, (hr.keep hb).mono hb.size, h5⟩)
  · exact .inr (.inr h4)
theorem Ans.no (h : Ans w cs V asm b r 2 conf mv cv lv logs) (hV : V ≤ 20000) : ¬ Psb cs V asm := by
  rcases h.kind with ⟨e1, e2, m, hm, h5⟩ | ⟨e1, e2, K, l, hr, hn, hK, hl⟩ | h4
  · cases e1
  · have := h.ok
    rw [hl] at this
    exact unsat_no this (fun x hx => ⟨(hK x hx).1, by have := (hK x hx).2.1; omega⟩) fun x hx => (hK x hx).2.2
  · cases h4.1
theorem Ans.three (h : Ans w cs V asm b r st conf mv cv lv logs) : st = 1 ∨ st = 2 ∨ st = 3 := by
  rcases h.kind with ⟨e1, _⟩ | ⟨e1, _⟩ | h4
  · exact .inl e1
  · exact .inr (.inl e1)
  · exact .inr (.inr h4.1)
theorem bools_of {w : World} {B : Nat} {e : TypeId} {v : Value} {l : List Bool} (h : w.ownsRow B e 1 v l.length (l.map Value.bool)) : BoolsAt w w.heap.size v l := by
  rcases h.2 with ⟨rfl, h0⟩ | ⟨g, cap, cur, rfl, hb, hg, hn, hm, hc, ht⟩
  · obtain rfl : l = [] := List.length_eq_zero_iff.1 h0
    exact ⟨none, 0, 0, 0, rfl, Nat.zero_le _, fun h => absurd rfl h, fun i hi => absurd hi (Nat.not_lt_zero _)⟩
  · refine ⟨_, cap, g, 0, rfl, by omega, fun _ => ⟨rfl, (Array.getElem?_eq_some_iff.1 hg).1⟩, fun i hi => ?_⟩
    have := World.ownsRow.cellAt h i (by omega)
    rw [Nat.zero_add, this, List.getElem?_map, List.getElem?_eq_getElem hi, List.getD_eq_getElem?_getD, List.getElem?_eq_getElem hi]; rfl
def AnsP (cs : List (List Int)) (V : Nat) (asm : List Int) (b r : Int) (w : World) (e : Ending) (w' : World) : Prop :=
  ∃ st conf a1 n1 c1 a2 n2 c2 a3 n3 c3 logs, e = .returned (.tuple #[.agg #[.int .i64 st, .slice a1 n1 c1, .slice a2 n2 c2, .slice a3 n3 c3, .int .i64 conf], .nilIface]) ∧ Ans w' cs V asm b r st conf (.slice a1 n1 c1) (.slice a2 n2 c2) (.slice a3 n3 c3) logs ∧ Below w.heap.size w w'
/-- as AnsP, and a model's memory is new -/
def AnsN (cs : List (List Int)) (V : Nat) (asm : List Int) (b r : Int) (w : World) (e : Ending) (w' : World) : Prop :=
  ∃ st conf a1 n1 c1 a2 n2 c2 a3 n3 c3 logs, e = .returned (.tuple #[.agg #[.int .i64 st, .slice a1 n1 c1, .slice a2 n2 c2, .slice a3 n3 c3, .int .i64 conf], .nilIface]) ∧ Ans w' cs V asm b r st conf (.slice a1 n1 c1) (.slice a2 n2 c2) (.slice a3 n3 c3) logs ∧ Below w.heap.size w w' ∧ ∀ bk, (Value.slice a1 n1 c1).ownBlock = some bk → w.heap.size ≤ bk
theorem solve_new {B : Nat} {cv av : Value} (V : Nat) (r k b : Int) (re : Bool) (a1 a2 : Addr) (hc : ClsAt w B cv cs) (ha : IntsAt w B av asm) (hB : B ≤ w.heap.size) (hg : 1 < w.heap.size) (g9 : w.cell? ⟨0, 0, none⟩ = some (evl a1)) (g11 : w.cell? ⟨1, 0, none⟩ = some (evl a2)) (hF : Fine (V : Int) cs asm r k b) (hV : V ≤ 20) (hk : k ≤ 9223372036854775807) (hcl : ∀ c, c ∈ cs → c.length ≤ 100000) (hal : asm.length ≤ 100000) :
    Calls Tryd.prog 6 #[cv, .int .i64 V, av, .agg #[.int .i64 r, .int .i64 k, .bool re, .int .i64 b]] w (AnsN cs V asm b r w) := by
  refine (solve_ok V r k b re a1 a2 hc ha hB hg g9 g11 hF hV hk hcl hal).mono ?_
  rintro e w' ⟨res, wr, rfl, hs, hb, hR⟩
  obtain ⟨st, conf, x1, n1, c1, x2, n2, c2, x3, n3, c3, he⟩ := RunOut.form hR
  obtain ⟨st', conf', mv, cv', lv, logs, he2, hk, hl, _, h1, h2, h3, h4⟩ := hR
  cases he
  injection he2 with he2
  injection he2 with he2
  simp only [Array.mk.injEq, List.cons.injEq, Value.int.injEq, true_and, and_true] at he2
  obtain ⟨e1, e2, e3, e4, e5⟩ := he2
  subst e1 e2 e3 e4 e5
  have hnew : ∀ bk, (Value.slice x1 n1 c1).ownBlock = some bk → w.heap.size ≤ bk := fun bk hbk => by
    rcases h4 with ⟨_, _, T, hr, _⟩ | ⟨_, e2, _⟩ | ⟨_, e2, _⟩
    · exact Nat.le_trans hs (hr.lt bk hbk).1
    · rw [e2] at hbk; cases hbk
    · rw [e2] at hbk; cases hbk
  refine ⟨st, conf, x1, n1, c1, x2, n2, c2, x3, n3, c3, logs, rfl, ⟨hk.at, hl, hk.nil, h3.1, h3.2, ⟨h1, h2⟩, ?_⟩, hb, hnew⟩
  rcases h4 with ⟨e1, e2, T, hr, t1, t2, t3, t4, t5⟩ | ⟨e1, e2, K, l, hr, k1, k2, k3⟩ | h4
  · have hm := mod_is (T := T) hF.c hF.a (by omega) t2 t3 t4 t5
    rw [mdl_mod] at hr
    refine .inl ⟨e1, e2, mod T V, bools_of (by rw [mod_len]; exact hr), mod_len, hm.1, hm.2⟩
  · refine .inr (.inl ⟨e1, e2, K, l, IntsAt.ofRow hr fun x hx => ?_, k1, fun x hx => ?_, k3⟩)
    · obtain ⟨y, hy, rfl⟩ := clz_mem.1 hx
      have := row_rng hF.a y (k2 y hy)
      unfold In64 litOf
      split <;> omega
    · have h1 := row_rng hF.a x (k2 x hx)
      exact ⟨h1.1, h1.2, ((row_is asm).lit (k2 x hx)).1⟩
  · exact .inr (.inr h4)
theorem solve_ans {B : Nat} {cv av : Value} (V : Nat) (r k b : Int) (re : Bool) (a1 a2 : Addr) (hc : ClsAt w B cv cs) (ha : IntsAt w B av asm) (hB : B ≤ w.heap.size) (hg : 1 < w.heap.size) (g9 : w.cell? ⟨0, 0, none⟩ = some (evl a1)) (g11 : w.cell? ⟨1, 0, none⟩ = some (evl a2)) (hF : Fine (V : Int) cs asm r k b) (hV : V ≤ 20) (hk : k ≤ 9223372036854775807) (hcl : ∀ c, c ∈ cs → c.length ≤ 100000) (hal : asm.length ≤ 100000) :
    Calls Tryd.prog 6 #[cv, .int .i64 V, av, .agg #[.int .i64 r, .int .i64 k, .bool re, .int .i64 b]] w (AnsP cs V asm b r w) := by
  refine (solve_new V r k b re a1 a2 hc ha hB hg g9 g11 hF hV hk hcl hal).mono ?_
  rintro e w' ⟨st, conf, x1, n1, c1, x2, n2, c2, x3, n3, c3, logs, rfl, h1, h2, _⟩
  exact ⟨st, conf, x1, n1, c1, x2, n2, c2, x3, n3, c3, logs, rfl, h1, h2⟩
end
end Go.Proofs.YtojjjndhabjhdaaDoor.satMc
