/-
  errors.Is by its contracts, at sentinels of errors.New's make (after the kit's worked text SentryIs).
  The errors of package api lie in memory aa their text lays them: thirteen different pointers; haversacknum.Num tells an error's number.
  Slices of integers and of clauses among the arguments.
-/
import Derived.Test.YtjeckkkmoabjnaaDoorChecked
import Derived.WalkKit
import Derived.LaidEql
import Derived.Stop.Asserts
import Derived.RowKitTokens
import Derived.Lib.Hide
import Derived.Stop.LaidErr
import Derived.LaidSub
import Derived.MakeChecks
import Derived.Stop.IfaceNil
import Derived.Deep.LoopGhost
import Derived.Test.YtjeckkkmoabjnaaDoorScM
import Derived.Test.YtjeckkkmoabjnaaDoorProg
import Derived.ChangeSlices
namespace Go.Proofs.YtjeckkkmoabjnaaDoor.errIs
open Go.RowKit Go.Extern.Stop Go.Stop Go.Extern

theorem isTypeOf (v : Value) (w : World) : (Extern.ReflectliteType.typeOf #[.iface 146 v]).run Tryd.prog w = .ok (.iface 108 (.agg #[.pointer (some ⟨13, 146, none⟩)])) w := by kernel_rfl
/-- the model's entry for (rtype).Comparable -/
def cmpEntry : Array Value → Sem Value := Extern.ReflectliteType.method fun t => do Go.Extern.Rtype.noPackHeld "Comparable" t; pure (.bool (← typeInfo t).comparable)
theorem isComparable (w : World) : (cmpEntry #[.agg #[.pointer (some ⟨13, 146, none⟩)]]).run Tryd.prog w = .ok (.bool true) w := by kernel_rfl
theorem isMethodComparable (v : Value) (w : World) : (Go.method 282 108 v "Comparable").run Tryd.prog w = .ok (126, v) w := by kernel_rfl
theorem isComp : (Tryd.prog.info? 146).map (·.comparable) = some true := by kernel_rfl
theorem isSize : (Tryd.prog.info? 170).map (·.size) = some 1 := by kernel_rfl
theorem noIsE (v : Value) (xT : TypeId) (w : World) : (Instr.typeAssert (.iface 146 v) xT 110 true).run Tryd.prog w = .ok (.tuple #[.nilIface, .bool false]) w := run_typeAssert_lacksB Tryd.underlying110 (by kernel_rfl) (by kernel_rfl) v xT w
theorem noUnwrapE (v : Value) (xT : TypeId) (w : World) : (Instr.typeAssert (.iface 146 v) xT 113 true).run Tryd.prog w = .ok (.tuple #[.nilIface, .bool false]) w := run_typeAssert_lacksB Tryd.underlying113 (by kernel_rfl) (by kernel_rfl) v xT w
theorem noUnwrapsE (v : Value) (xT : TypeId) (w : World) : (Instr.typeAssert (.iface 146 v) xT 115 true).run Tryd.prog w = .ok (.tuple #[.nilIface, .bool false]) w := run_typeAssert_lacksB Tryd.underlying115 (by kernel_rfl) (by kernel_rfl) v xT w

/-- an error of errors.New's make, at an address -/
abbrev ev (a : Addr) : Value := .iface 146 (.pointer (some a))

theorem is_same (a : Addr) (w : World) :
    Calls Tryd.prog 32 #[ev a, ev a] w fun e w' => e = .returned (.bool true) ∧ w = w' := by
  obtain ⟨i, hi, hcmp⟩ := Option.map_eq_some_iff.1 isComp
  obtain ⟨j, hj, hjs⟩ := Option.map_eq_some_iff.1 isSize
  have h8 := @run_callFunc_extern Tryd.prog 53 _ Extern.ReflectliteType.typeOf Tryd.func53 (by kernel_rfl) (by kernel_rfl) (by kernel_rfl) (by kernel_rfl)
  have h32 := @run_callFunc_extern Tryd.prog 126 _ cmpEntry Tryd.func126 (by kernel_rfl) (by kernel_rfl) (by kernel_rfl) (by kernel_rfl)
  have tT := isTypeOf
  have cT := isComparable
  have mR := isMethodComparable
  have heq := run_eql_iface_ptr_same (P := Tryd.prog) w a Tryd.underlying34 Tryd.underlying146 hi hcmp hj
  go_enter Tryd.func32, Tryd.ntmps32
  go_wp2
  refine wp_loop_rounds 1 ?_
  rw [rounds_succ]
  go_wp2
  go_ret
  exact ⟨rfl, rfl⟩

theorem is_other (a b : Addr) (ca cb : Array Value) (ta tb : TypeId) (w : World) (hne : a ≠ b) (ha : w.heap[a.block]? = some (.cells ca ta (0, 0))) (hb : w.heap[b.block]? = some (.cells cb tb (0, 0))) :
    Calls Tryd.prog 32 #[ev a, ev b] w fun e w' => e = .returned (.bool false) ∧ w = w' := by
  obtain ⟨i, hi, hcmp⟩ := Option.map_eq_some_iff.1 isComp
  obtain ⟨j, hj, hjs⟩ := Option.map_eq_some_iff.1 isSize
  have h8 := @run_callFunc_extern Tryd.prog 53 _ Extern.ReflectliteType.typeOf Tryd.func53 (by kernel_rfl) (by kernel_rfl) (by kernel_rfl) (by kernel_rfl)
  have h32 := @run_callFunc_extern Tryd.prog 126 _ cmpEntry Tryd.func126 (by kernel_rfl) (by kernel_rfl) (by kernel_rfl) (by kernel_rfl)
  have tT := isTypeOf
  have cT := isComparable
  have mR := isMethodComparable
  have nE := noIsE
  have uE := noUnwrapE
  have vE := noUnwrapsE
  have heq := run_eql_iface_ptr_other (P := Tryd.prog) w Tryd.underlying34 Tryd.underlying146 hi hcmp hj (by rw [hjs]; decide) hne ha hb
  go_enter Tryd.func32, Tryd.ntmps32
  go_wp2
  refine wp_loop_rounds 1 ?_
  rw [rounds_succ]
  go_wp2
  go_ret
  exact ⟨rfl, rfl⟩

end Go.Proofs.YtjeckkkmoabjnaaDoor.errIs
namespace Go.Proofs.YtjeckkkmoabjnaaDoor.errs
open Go.RowKit errIs

/-- the variables' numbers, in the order of the document's table -/
def gl : List Nat := [0, 1, 2, 3, 4, 5, 6, 7, 8, 9, 10, 11, 12]

/-- the errors lie there -/
structure Errs (w : World) (ad : Nat → Addr) : Prop where
  glob : ∀ k, k < 13 → w.cell? ⟨gl.getD k 0, 0, none⟩ = some (ev (ad k))
  inj : ∀ i j, i < 13 → j < 13 → i ≠ j → ad i ≠ ad j
  row : ∀ k, k < 13 → ∃ c t, w.heap[(ad k).block]? = some (.cells c t (0, 0))

theorem Errs.below {w w' : World} {ad : Nat → Addr} (h : Errs w ad) (hb : Below w.heap.size w w') : Errs w' ad where
  glob k hk := by
    have := h.glob k hk
    rw [hb.cell (World.block_lt_of_cell? w _ this)]; exact this
  inj := h.inj
  row k hk := by
    obtain ⟨c, t, hr⟩ := h.row k hk
    exact ⟨c, t, by rw [hb.block _ (Array.getElem?_eq_some_iff.1 hr).1]; exact hr⟩

/-- the errors that reading JSON hands back lie there -/
structure Ej (w : World) (ad : Nat → Addr) : Prop where
  glob : ∀ k, k < 5 → w.cell? ⟨gl.getD k 0, 0, none⟩ = some (ev (ad k))
theorem Ej.below {w w' : World} {ad : Nat → Addr} (h : Ej w ad) (hb : Below w.heap.size w w') : Ej w' ad where
  glob k hk := by
    have := h.glob k hk
    rw [hb.cell (World.block_lt_of_cell? w _ this)]; exact this
theorem Errs.ej {w : World} {ad : Nat → Addr} (h : Errs w ad) : Ej w ad := ⟨fun k hk => h.glob k (by omega)⟩
instance {w : World} {ad : Nat → Addr} : Coe (Errs w ad) (Ej w ad) := ⟨Errs.ej⟩

theorem isIf : Tryd.prog.isIface 34 = true := by kernel_rfl
theorem nilnil (w : World) : (binOp .eql 34 .nilIface .nilIface).run Tryd.prog w = .ok (.bool true) w := by kernel_rfl

theorem num_nil (w : World) : Calls Tryd.prog 20 #[.nilIface] w fun e w' => e = .returned (.int .i64 0) ∧ w = w' := by
  have hn := nilnil
  go_enter Tryd.func20, Tryd.ntmps20
  go_wp2
  go_ret
  exact ⟨rfl, rfl⟩

def lst (ad : Nat → Addr) : Array Value := #[ev (ad 0), ev (ad 1), ev (ad 2), ev (ad 3), ev (ad 4), ev (ad 5), ev (ad 6), ev (ad 7), ev (ad 8), ev (ad 9), ev (ad 10), ev (ad 11), ev (ad 12)]
theorem lst_at (ad : Nat → Addr) (k : Nat) (h : k < 13) : (lst ad)[k]? = some (ev (ad k)) := by
  rcases (show k = 0 ∨ k = 1 ∨ k = 2 ∨ k = 3 ∨ k = 4 ∨ k = 5 ∨ k = 6 ∨ k = 7 ∨ k = 8 ∨ k = 9 ∨ k = 10 ∨ k = 11 ∨ k = 12 by omega) with rfl | rfl | rfl | rfl | rfl | rfl | rfl | rfl | rfl | rfl | rfl | rfl | rfl <;> rfl

set_option maxRecDepth 100000 in
theorem num_err (w : World) (ad : Nat → Addr) (hE : Errs w ad) (i : Nat) (hi : i < 13) :
    Calls Tryd.prog 20 #[ev (ad i)] w fun e w' => e = .returned (.int .i64 ((i : Int) + 1)) ∧ Below w.heap.size w w' := by
  have hif := isIf
  have g0 : w.cell? ⟨0, 0, none⟩ = some (ev (ad 0)) := hE.glob 0 (by decide)
  have g1 : w.cell? ⟨1, 0, none⟩ = some (ev (ad 1)) := hE.glob 1 (by decide)
  have g2 : w.cell? ⟨2, 0, none⟩ = some (ev (ad 2)) := hE.glob 2 (by decide)
  have g3 : w.cell? ⟨3, 0, none⟩ = some (ev (ad 3)) := hE.glob 3 (by decide)
  have g4 : w.cell? ⟨4, 0, none⟩ = some (ev (ad 4)) := hE.glob 4 (by decide)
  have g5 : w.cell? ⟨5, 0, none⟩ = some (ev (ad 5)) := hE.glob 5 (by decide)
  have g6 : w.cell? ⟨6, 0, none⟩ = some (ev (ad 6)) := hE.glob 6 (by decide)
  have g7 : w.cell? ⟨7, 0, none⟩ = some (ev (ad 7)) := hE.glob 7 (by decide)
  have g8 : w.cell? ⟨8, 0, none⟩ = some (ev (ad 8)) := hE.glob 8 (by decide)
  have g9 : w.cell? ⟨9, 0, none⟩ = some (ev (ad 9)) := hE.glob 9 (by decide)
  have g10 : w.cell? ⟨10, 0, none⟩ = some (ev (ad 10)) := hE.glob 10 (by decide)
  have g11 : w.cell? ⟨11, 0, none⟩ = some (ev (ad 11)) := hE.glob 11 (by decide)
  have g12 : w.cell? ⟨12, 0, none⟩ = some (ev (ad 12)) := hE.glob 12 (by decide)
  have HE := Lib.hid hE
  clear hE
  go_enter Tryd.func20, Tryd.ntmps20
  go_wp2
  have hb := (Below.refl w.heap.size w).alloc (Nat.le_refl _) (.cells (lst ad) 34)
  have HC : Hid (∀ k, k < 13 → (w.alloc (.cells (lst ad) 34)).cell? ⟨w.heap.size, k, none⟩ = some (ev (ad k))) := Lib.hid (fun k hk => by rw [World.cell?_alloc_mark]; exact lst_at ad k hk)
  have HE1 := Lib.hid (HE.out.below hb)
  have HB := Lib.hid hb
  change Code.wp _ _ _ _ (w.alloc (.cells (lst ad) 34))
  generalize w.alloc (.cells (lst ad) 34) = W1 at *
  clear hb HE g0 g1 g2 g3 g4 g5 g6 g7 g8 g9 g10 g11 g12
  go_loop [24] (fun z => ∃ k : Nat, k ≤ i ∧ z = .int .i64 k) (fun z => 13 - (intOf z).toNat)
  case atStart => exact ⟨0, Nat.zero_le _, rfl⟩
  case round =>
    obtain ⟨k, hk, rfl⟩ := hrel
    have hc := HC.out k (by omega)
    by_cases hki : k = i
    · subst hki
      go_wp2_with (go_at_call 32; refine (is_same _ _).mono ?_; rintro e w' ⟨rfl, rfl⟩)
      go_ret
      exact ⟨rfl, HB.out⟩
    · have hlt : k < i := by omega
      have hne := Lib.hid (HE1.out.inj i k hi (by omega) (by omega))
      obtain ⟨c1, t1, r1⟩ := HE1.out.row i hi
      obtain ⟨c2, t2, r2⟩ := HE1.out.row k (by omega)
      have R1 := Lib.hid r1
      have R2 := Lib.hid r2
      clear r1 r2 hki
      go_wp2_with (go_at_call 32; refine (is_other _ _ _ _ _ _ _ hne.out R1.out R2.out).mono ?_; rintro e w' ⟨rfl, rfl⟩)
      go_round
      case rel => exact ⟨k + 1, by omega, by go_num⟩
      case measure => simp [intOf]; omega

/-! ### what the rows' list gives -/
def datum (t : List UInt8) : DataW Unit := .iface "*errors.errorString" (.ptr (.agg [.lit (.string t)]))

theorem star : "*" ++ "errors.errorString" = "*errors.errorString" := by decide
theorem ename (u : TypeId) (h : Tryd.prog.typeName? 3 u = some "*errors.errorString") : u = 146 :=
  typeName_ptr_named (nm := "errors.errorString") (by rw [star]; kernel_rfl) (by kernel_rfl) (by decide) u (by rw [star]; exact h)
theorem cellsE : Tryd.prog.cellsOf 170 = 1 := by kernel_rfl
theorem cellsS : Tryd.prog.cellsOf 9 = 1 := by kernel_rfl

set_option maxRecDepth 100000 in
theorem sents {W : World} : ∀ (l : List (String × Nat × List UInt8)), (∀ x ∈ l, Tryd.prog.globalNamed x.1 = some x.2.1 ∧ (Tryd.prog.globals[x.2.1]?).map (·.type) = some 34) →
    ∀ ps, DataW.LaidVars Tryd.prog W (l.map fun x => (x.1, datum x.2.2)) ps → ps.Nodup →
    (∀ b off, MemPlace.cell b off ∈ ps → (∃ c t, W.heap[b]? = some (.cells c t (0, 0))) ∧ ∀ u v, W.cell? ⟨b, off, none⟩ = some (.iface u v) → Value.okWide Tryd.prog W .any 0 u v) →
    ∃ aa : List Addr, aa.length = l.length ∧ aa.Nodup ∧ (∀ k, k < l.length → W.cell? ⟨(l.getD k ("", 0, [])).2.1, 0, none⟩ = some (ev (aa.getD k ⟨0, 0, none⟩))) ∧ ∀ a ∈ aa, MemPlace.cell a.block a.off ∈ ps := by
  intro l
  induction l with
  | nil => intro _ ps _ _ _; exact ⟨[], rfl, List.nodup_nil, (fun k hk => absurd hk (Nat.not_lt_zero _)), (fun a ha => absurd ha (List.not_mem_nil))⟩
  | cons x l ih =>
    intro hg ps hv hnd hrows
    obtain ⟨g0, t0, cs0, f0, p0, q0, hg0, ht0, hv0, hd0, hr0, e0⟩ := hv
    obtain ⟨hgx, htx⟩ := hg x (by simp)
    obtain rfl := Option.some.inj (hgx.symm.trans hg0)
    obtain rfl := Option.some.inj (htx.symm.trans ht0)
    subst e0
    obtain ⟨l0⟩ := cs0
    have ok0 : ∀ u v, l0 = [.iface u v] → Value.okWide Tryd.prog W .any 0 u v := fun u v e => by
      subst e
      exact (hrows x.2.1 0 (by simp [MemPlace.row])).2 u v (by simpa using World.var?_cell hg0 hv0 0)
    obtain ⟨a0, s0, rfl, hc0, hs0, hz0, rfl⟩ := errorString_of_trod Tryd.underlying34 ename Tryd.underlying146 Tryd.underlying170 rfl rfl Tryd.underlying9 cellsE cellsS hd0 ok0
    rw [List.nodup_append] at hnd
    obtain ⟨hn1, hn2, hn3⟩ := hnd
    obtain ⟨aa, h1, h2, h3, h4⟩ := ih (fun y hy => hg y (by simp [hy])) q0 hr0 hn2 (fun b off h => hrows b off (by simp [h]))
    refine ⟨a0 :: aa, by simp [h1], ?_, ?_, ?_⟩
    · rw [List.nodup_cons]
      refine ⟨fun ha => ?_, h2⟩
      exact hn3 (.cell a0.block a0.off) (by simp [MemPlace.row]) _ (h4 a0 ha) rfl
    · intro k hk
      cases k with
      | zero => simpa using World.var?_cell hg0 hv0 0
      | succ k => simpa using h3 k (by simpa using hk)
    · intro a ha
      rcases List.mem_cons.1 ha with rfl | ha
      · simp [MemPlace.row]
      · simp [h4 a ha]

def sentL : List (String × Nat × List UInt8) := [("haversack/api.ErrSyntax", 0, [104, 97, 118, 101, 114, 115, 97, 99, 107, 58, 32, 115, 121, 110, 116, 97, 120]), ("haversack/api.ErrDepth", 1, [104, 97, 118, 101, 114, 115, 97, 99, 107, 58, 32, 100, 101, 112, 116, 104]), ("haversack/api.ErrSize", 2, [104, 97, 118, 101, 114, 115, 97, 99, 107, 58, 32, 115, 105, 122, 101]), ("haversack/api.ErrNumber", 3, [104, 97, 118, 101, 114, 115, 97, 99, 107, 58, 32, 110, 117, 109, 98, 101, 114]), ("haversack/api.ErrKey", 4, [104, 97, 118, 101, 114, 115, 97, 99, 107, 58, 32, 107, 101, 121]), ("haversack/api.ErrType", 5, [104, 97, 118, 101, 114, 115, 97, 99, 107, 58, 32, 116, 121, 112, 101]), ("haversack/api.ErrName", 6, [104, 97, 118, 101, 114, 115, 97, 99, 107, 58, 32, 110, 97, 109, 101]), ("haversack/api.ErrVersion", 7, [104, 97, 118, 101, 114, 115, 97, 99, 107, 58, 32, 118, 101, 114, 115, 105, 111, 110]), ("haversack/api.ErrSpec", 8, [104, 97, 118, 101, 114, 115, 97, 99, 107, 58, 32, 115, 112, 101, 99]), ("haversack/api.ErrRange", 9, [104, 97, 118, 101, 114, 115, 97, 99, 107, 58, 32, 114, 97, 110, 103, 101]), ("haversack/api.ErrNone", 10, [104, 97, 118, 101, 114, 115, 97, 99, 107, 58, 32, 110, 111, 110, 101]), ("haversack/api.ErrLimit", 11, [104, 97, 118, 101, 114, 115, 97, 99, 107, 58, 32, 108, 105, 109, 105, 116]), ("haversack/api.ErrTwice", 12, [104, 97, 118, 101, 114, 115, 97, 99, 107, 58, 32, 116, 119, 105, 99, 101])]
def isSent (x : String × DataW Unit) : Bool := sentL.any fun y => y.1 == x.1

set_option maxRecDepth 100000 in
theorem of_laid {W : World} {l : List (String × DataW Unit)} (hp : (l.all fun x => x.2.handleName?.isNone) = true) (hl : l.filter isSent = sentL.map fun x => (x.1, datum x.2.2)) (h : laidMetH Tryd.prog l W) : ∃ ad, Errs W ad := by
  rw [MakeChecks.laidMetH_plain _ _ _ hp] at h
  have h := h.filter isSent
  rw [hl] at h
  obtain ⟨ps, hv, hnd, hrows⟩ := h
  obtain ⟨aa, h1, h2, h3, h4⟩ := sents sentL (by
    intro x hx
    simp only [sentL, List.mem_cons, List.mem_nil_iff, or_false] at hx
    rcases hx with rfl | rfl | rfl | rfl | rfl | rfl | rfl | rfl | rfl | rfl | rfl | rfl | rfl <;> exact ⟨by kernel_rfl, by kernel_rfl⟩) ps hv hnd hrows
  have h13 : aa.length = 13 := h1
  refine ⟨fun k => aa.getD k ⟨0, 0, none⟩, ?_, ?_, ?_⟩
  · intro k hk
    have := h3 k hk
    have e : (sentL.getD k ("", 0, [])).2.1 = gl.getD k 0 := by
      rcases (show k = 0 ∨ k = 1 ∨ k = 2 ∨ k = 3 ∨ k = 4 ∨ k = 5 ∨ k = 6 ∨ k = 7 ∨ k = 8 ∨ k = 9 ∨ k = 10 ∨ k = 11 ∨ k = 12 by omega) with rfl | rfl | rfl | rfl | rfl | rfl | rfl | rfl | rfl | rfl | rfl | rfl | rfl <;> rfl
    rw [e] at this; exact this
  · intro i j hi hj hne e
    rw [List.getD_eq_getElem?_getD, List.getD_eq_getElem?_getD, List.getElem?_eq_getElem (by omega), List.getElem?_eq_getElem (by omega)] at e
    exact hne ((List.getElem_inj h2).1 (by simpa using e))
  · intro k hk
    have hm : aa.getD k ⟨0, 0, none⟩ ∈ aa := by
      rw [List.getD_eq_getElem?_getD, List.getElem?_eq_getElem (by omega)]; exact List.getElem_mem _
    exact (hrows _ _ (h4 _ hm)).1

end Go.Proofs.YtjeckkkmoabjnaaDoor.errs
namespace Go.Proofs.YtjeckkkmoabjnaaDoor.clsArg
open Go.ChangeShapes Go.WideShapes Go.ChangeAt Go.RowKit cls
set_option linter.unusedSimpArgs false
set_option linter.unusedVariables false

theorem in64_of {z : Int} (h : (Lit.int .i64 z).wf = true) : In64 z := by
  have h1 : IntKind.i64.min = -9223372036854775808 := by decide
  have h2 : IntKind.i64.max = 9223372036854775807 := by decide
  simp [Lit.wf] at h
  unfold In64
  omega
theorem cell_lt {w : World} {a : Addr} {v : Value} (h : w.cell? a = some v) : a.block < w.heap.size := by
  unfold World.cell? at h
  by_cases hb : a.block < w.heap.size
  · exact hb
  · rw [Array.getElem?_eq_none (by omega)] at h; simp at h
theorem add1 (b o n : Nat) : (⟨b, o, none⟩ : Addr).add n = ⟨b, o + n, none⟩ := by unfold Addr.add; split <;> simp_all

theorem ints_of {H : Type} {enc : TypeId × Value → H} {w : World} {fuel : Nat} {t : TypeId} (ht : Tryd.prog.underlying t = some (.slice 3)) {v : Value} {x : DataW H × List MemPlace} (hf : DataW.trod enc Tryd.prog w 0 (fun _ => true) true fuel t [v] = some x) : ∃ l, IntsAt w w.heap.size v l := by
  rcases open_ints ht Tryd.underlying3 (by kernel_rfl) hf with ⟨hcs, hx⟩ | ⟨a, len', cap', zs, hcs, _, hl, hm, hz, hx, hcell, hws⟩
  · simp at hcs
    subst hcs
    exact ⟨[], none, 0, 0, 0, rfl, Nat.zero_le _, fun h => absurd rfl h, fun i hi => absurd hi (Nat.not_lt_zero _), by simp⟩
  · simp at hcs
    subst hcs
    simp only [if_true] at hz
    have hl' : (zs.take len').length = len' := by rw [List.length_take]; omega
    by_cases h0 : len' = 0
    · subst h0
      exact ⟨[], some a, cap', 0, 0, rfl, Nat.zero_le _, fun h => absurd rfl h, fun i hi => absurd hi (Nat.not_lt_zero _), by simp⟩
    · obtain ⟨b, off, spot⟩ := a
      have hspot : spot = none := by simpa [Addr.add] using World.cell?_spot (hcell 0 (by omega))
      subst hspot
      have hcell' : ∀ i, i < len' → w.cell? ⟨b, off + i, none⟩ = some (.int .i64 ((zs.take len').getD i 0)) := by
        intro i hi
        have := hcell i (by omega)
        rw [add1] at this
        rw [this]
        simp [List.getD, hi]
      refine ⟨zs.take len', some ⟨b, off, none⟩, cap', b, off, by rw [hl'], by rw [hl']; omega, fun _ => ⟨rfl, cell_lt (hcell' 0 (by omega))⟩, fun i hi => hcell' i (by omega), fun s hs => in64_of (hws s (List.mem_of_mem_take hs))⟩

theorem choose_list {α β : Type} [Inhabited α] [Inhabited β] (n : Nat) (p : Nat → α → β → Prop) (h : ∀ i, i < n → ∃ a b, p i a b) : ∃ (l : List α) (f : Nat → β), l.length = n ∧ ∀ i (hi : i < l.length), p i l[i] (f i) := by
  induction n with
  | zero => exact ⟨[], fun _ => default, rfl, fun i hi => absurd hi (Nat.not_lt_zero _)⟩
  | succ n ih =>
    obtain ⟨l, f, hl, hp⟩ := ih (fun i hi => h i (by omega))
    obtain ⟨a, b, hab⟩ := h n (by omega)
    refine ⟨l ++ [a], fun i => if i = n then b else f i, by simp [hl], fun i hi => ?_⟩
    by_cases e : i = n
    · subst e; simpa [hl, List.getElem_append] using hab
    · have hi' : i < l.length := by simp at hi; omega
      simp only [if_neg e, List.getElem_append_left hi']
      exact hp i hi'
instance : Inhabited Value := ⟨undef⟩
theorem cells_one {w : World} {a : Addr} {l : List Value} (h : w.cells? 0 a 1 = some l) : ∃ u, l = [u] ∧ w.cell? a = some u := by
  unfold World.cells? at h
  rw [if_pos (Nat.zero_le _)] at h
  have hl : l.length = 1 := by simpa using mapM_some_length h
  obtain ⟨u, rfl⟩ := List.length_eq_one_iff.1 hl
  refine ⟨u, rfl, ?_⟩
  have := mapM_some_get h 0 0 (by simp)
  have e : a.add 0 = a := by cases a; unfold Addr.add; split <;> simp_all
  rw [e] at this; simpa using this

theorem cls_of {H : Type} {enc : TypeId × Value → H} {w : World} {fuel : Nat} {v : Value} {x : DataW H × List MemPlace}
    (hf : DataW.trod enc Tryd.prog w 0 (fun _ => true) true fuel 22 [v] = some x) : ∃ cs, ClsAt w w.heap.size v cs := by
  rcases DataW.trod_slice Tryd.underlying22 hf with ⟨hcs, _⟩ | ⟨a, len, cap, elems, rest, n, rfl, hcs, _, _, hl, hm, hel, hg, _⟩
  · simp at hcs
    subst hcs
    exact ⟨[], none, 0, 0, 0, fun _ => undef, rfl, Nat.zero_le _, fun h => absurd rfl h, fun i hi => absurd hi (Nat.not_lt_zero _), fun i hi => absurd hi (Nat.not_lt_zero _)⟩
  · simp at hcs
    subst hcs
    by_cases h0 : len = 0
    · subst h0
      exact ⟨[], some a, cap, 0, 0, fun _ => undef, rfl, Nat.zero_le _, fun h => absurd rfl h, fun i hi => absurd hi (Nat.not_lt_zero _), fun i hi => absurd hi (Nat.not_lt_zero _)⟩
    · rw [show Tryd.prog.cellsOf 38 = 1 from by kernel_rfl] at hg
      have hall : ∀ i, i < len → ∃ (c : List Int) (u : Value), w.cell? (a.add (i * 1)) = some u ∧ IntsAt w w.heap.size u c := by
        intro i hi
        have h1 := hg i hi
        rw [List.getElem?_eq_getElem (by omega)] at h1
        obtain ⟨l, h2, h3⟩ := Option.bind_eq_some_iff.1 h1
        obtain ⟨u, rfl, hu⟩ := cells_one h2
        obtain ⟨c, hc⟩ := ints_of Tryd.underlying38 h3
        exact ⟨c, u, hu, hc⟩
      obtain ⟨cs, vs, hcl, hp⟩ := choose_list len (fun i (c : List Int) (u : Value) => w.cell? (a.add (i * 1)) = some u ∧ IntsAt w w.heap.size u c) hall
      obtain ⟨b, off, spot⟩ := a
      have hspot : spot = none := by simpa [Addr.add] using World.cell?_spot (hp 0 (by omega)).1
      subst hspot
      have hcell : ∀ i, i < len → w.cell? ⟨b, off + i, none⟩ = some (vs i) := fun i hi => by
        have := (hp i (by omega)).1
        rw [add1, Nat.mul_one] at this; exact this
      refine ⟨cs, some ⟨b, off, none⟩, cap, b, off, vs, by rw [hcl], by omega, fun _ => ⟨rfl, cell_lt (hcell 0 (by omega))⟩, fun i hi => hcell i (by omega), fun i hi => ?_⟩
      have := (hp i hi).2
      rw [List.getD_eq_getElem?_getD, List.getElem?_eq_getElem hi]; exact this

set_option maxRecDepth 100000 in
theorem arg_cls {H : Type} {enc : TypeId × Value → H} {W : World} {base : Nat} {v : Value} {d : DataW H} {ps : List MemPlace} (ok : Value.okWide Tryd.prog W .any base 22 v)
    (h : DataW.Trod enc Tryd.prog W 0 (fun _ => true) true 22 v d ps) : ∃ cs, ClsAt W W.heap.size v cs := by
  obtain ⟨a0, len, cap, rfl⟩ := okWide_slice Tryd.underlying22 ok
  obtain ⟨fuel, hf⟩ := h
  exact cls_of hf
set_option maxRecDepth 100000 in
theorem arg_ints {H : Type} {enc : TypeId × Value → H} {W : World} {base : Nat} {t : TypeId} (ht : Tryd.prog.underlying t = some (.slice 3)) {v : Value} {d : DataW H} {ps : List MemPlace} (ok : Value.okWide Tryd.prog W .any base t v)
    (h : DataW.Trod enc Tryd.prog W 0 (fun _ => true) true t v d ps) : ∃ cs, IntsAt W W.heap.size v cs := by
  obtain ⟨a0, len, cap, rfl⟩ := okWide_slice ht ok
  obtain ⟨fuel, hf⟩ := h
  exact ints_of ht hf
end Go.Proofs.YtjeckkkmoabjnaaDoor.clsArg
