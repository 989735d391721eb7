/-
  errors.Is by its contracts, at sentinels of errors.New's make (after the kit's worked text SentryIs).
  The errors of package api lie in memory aa their text lays them: thirteen different pointers; haversacknum.Num tells an error's number.
  Contracts of package quote's escaped, letter, hexed, piece.
  Contracts of quote.Take and quote.Parse.
  Contracts of quote.Quote and quote.Safe; of haversacklaw03.alive.
-/
import Derived.Test.YtdbidkfjbhclcaaDoorChecked
import Derived.WalkKit
import Derived.LaidEql
import Derived.Stop.Asserts
import Derived.RowKitTokens
import Derived.Lib.Hide
import Derived.Stop.LaidErr
import Derived.LaidSub
import Derived.MakeChecks
import Derived.Stop.IfaceNil
import Derived.Deep.LoopGhost
import Derived.Test.YtdbidkfjbhclcaaDoorRunM
import Derived.Test.YtdbidkfjbhclcaaDoorUtfM
import Derived.Lib.MapLaws
import Derived.Lib.OthersKept
import Derived.WalkSmall
namespace Go.Proofs.YtdbidkfjbhclcaaDoor.errIs
open Go.RowKit Go.Extern.Stop Go.Stop Go.Extern

theorem isTypeOf (v : Value) (w : World) : (Extern.ReflectliteType.typeOf #[.iface 168 v]).run Tryd.prog w = .ok (.iface 96 (.agg #[.pointer (some ⟨22, 168, none⟩)])) w := by kernel_rfl
/-- the model's entry for (rtype).Comparable -/
def cmpEntry : Array Value → Sem Value := Extern.ReflectliteType.method fun t => do Go.Extern.Rtype.noPackHeld "Comparable" t; pure (.bool (← typeInfo t).comparable)
theorem isComparable (w : World) : (cmpEntry #[.agg #[.pointer (some ⟨22, 168, none⟩)]]).run Tryd.prog w = .ok (.bool true) w := by kernel_rfl
theorem isMethodComparable (v : Value) (w : World) : (Go.method 302 96 v "Comparable").run Tryd.prog w = .ok (118, v) w := by kernel_rfl
theorem isComp : (Tryd.prog.info? 168).map (·.comparable) = some true := by kernel_rfl
theorem isSize : (Tryd.prog.info? 170).map (·.size) = some 1 := by kernel_rfl
theorem noIsE (v : Value) (xT : TypeId) (w : World) : (Instr.typeAssert (.iface 168 v) xT 98 true).run Tryd.prog w = .ok (.tuple #[.nilIface, .bool false]) w := run_typeAssert_lacksB Tryd.underlying98 (by kernel_rfl) (by kernel_rfl) v xT w
theorem noUnwrapE (v : Value) (xT : TypeId) (w : World) : (Instr.typeAssert (.iface 168 v) xT 101 true).run Tryd.prog w = .ok (.tuple #[.nilIface, .bool false]) w := run_typeAssert_lacksB Tryd.underlying101 (by kernel_rfl) (by kernel_rfl) v xT w
theorem noUnwrapsE (v : Value) (xT : TypeId) (w : World) : (Instr.typeAssert (.iface 168 v) xT 102 true).run Tryd.prog w = .ok (.tuple #[.nilIface, .bool false]) w := run_typeAssert_lacksB Tryd.underlying102 (by kernel_rfl) (by kernel_rfl) v xT w

/-- an error of errors.New's make, at an address -/
abbrev ev (a : Addr) : Value := .iface 168 (.pointer (some a))

theorem is_same (a : Addr) (w : World) :
    Calls Tryd.prog 21 #[ev a, ev a] w fun e w' => e = .returned (.bool true) ∧ w = w' := by
  obtain ⟨i, hi, hcmp⟩ := Option.map_eq_some_iff.1 isComp
  obtain ⟨j, hj, hjs⟩ := Option.map_eq_some_iff.1 isSize
  have h8 := @run_callFunc_extern Tryd.prog 33 _ Extern.ReflectliteType.typeOf Tryd.func33 (by kernel_rfl) (by kernel_rfl) (by kernel_rfl) (by kernel_rfl)
  have h32 := @run_callFunc_extern Tryd.prog 118 _ cmpEntry Tryd.func118 (by kernel_rfl) (by kernel_rfl) (by kernel_rfl) (by kernel_rfl)
  have tT := isTypeOf
  have cT := isComparable
  have mR := isMethodComparable
  have heq := run_eql_iface_ptr_same (P := Tryd.prog) w a Tryd.underlying30 Tryd.underlying168 hi hcmp hj
  go_enter Tryd.func21, Tryd.ntmps21
  go_wp2
  refine wp_loop_rounds 1 ?_
  rw [rounds_succ]
  go_wp2
  go_ret
  exact ⟨rfl, rfl⟩

theorem is_other (a b : Addr) (ca cb : Array Value) (ta tb : TypeId) (w : World) (hne : a ≠ b) (ha : w.heap[a.block]? = some (.cells ca ta (0, 0))) (hb : w.heap[b.block]? = some (.cells cb tb (0, 0))) :
    Calls Tryd.prog 21 #[ev a, ev b] w fun e w' => e = .returned (.bool false) ∧ w = w' := by
  obtain ⟨i, hi, hcmp⟩ := Option.map_eq_some_iff.1 isComp
  obtain ⟨j, hj, hjs⟩ := Option.map_eq_some_iff.1 isSize
  have h8 := @run_callFunc_extern Tryd.prog 33 _ Extern.ReflectliteType.typeOf Tryd.func33 (by kernel_rfl) (by kernel_rfl) (by kernel_rfl) (by kernel_rfl)
  have h32 := @run_callFunc_extern Tryd.prog 118 _ cmpEntry Tryd.func118 (by kernel_rfl) (by kernel_rfl) (by kernel_rfl) (by kernel_rfl)
  have tT := isTypeOf
  have cT := isComparable
  have mR := isMethodComparable
  have nE := noIsE
  have uE := noUnwrapE
  have vE := noUnwrapsE
  have heq := run_eql_iface_ptr_other (P := Tryd.prog) w Tryd.underlying30 Tryd.underlying168 hi hcmp hj (by rw [hjs]; decide) hne ha hb
  go_enter Tryd.func21, Tryd.ntmps21
  go_wp2
  refine wp_loop_rounds 1 ?_
  rw [rounds_succ]
  go_wp2
  go_ret
  exact ⟨rfl, rfl⟩

end Go.Proofs.YtdbidkfjbhclcaaDoor.errIs
namespace Go.Proofs.YtdbidkfjbhclcaaDoor.errs
open Go.RowKit errIs

/-- the variables' numbers, in the order of the document's table -/
def gl : List Nat := [2, 3, 4, 5, 1, 0, 6, 7, 8, 9, 10, 11, 12]

/-- the errors lie there -/
structure Errs (w : World) (ad : Nat → Addr) : Prop where
  glob : ∀ k, k < 13 → w.cell? ⟨gl.getD k 0, 0, none⟩ = some (ev (ad k))
  inj : ∀ i j, i < 13 → j < 13 → i ≠ j → ad i ≠ ad j
  row : ∀ k, k < 13 → ∃ c t, w.heap[(ad k).block]? = some (.cells c t (0, 0))

theorem Errs.below {w w' : World} {ad : Nat → Addr} (h : Errs w ad) (hb : Below w.heap.size w w') : Errs w' ad where
  glob k hk := by
    have := h.glob k hk
    rw [hb.cell (World.block_lt_of_cell? w _ this)]; exact this
  inj := h.inj
  row k hk := by
    obtain ⟨c, t, hr⟩ := h.row k hk
    exact ⟨c, t, by rw [hb.block _ (Array.getElem?_eq_some_iff.1 hr).1]; exact hr⟩

/-- the errors that reading JSON hands back lie there -/
structure Ej (w : World) (ad : Nat → Addr) : Prop where
  glob : ∀ k, k < 5 → w.cell? ⟨gl.getD k 0, 0, none⟩ = some (ev (ad k))
theorem Ej.below {w w' : World} {ad : Nat → Addr} (h : Ej w ad) (hb : Below w.heap.size w w') : Ej w' ad where
  glob k hk := by
    have := h.glob k hk
    rw [hb.cell (World.block_lt_of_cell? w _ this)]; exact this
theorem Errs.ej {w : World} {ad : Nat → Addr} (h : Errs w ad) : Ej w ad := ⟨fun k hk => h.glob k (by omega)⟩
instance {w : World} {ad : Nat → Addr} : Coe (Errs w ad) (Ej w ad) := ⟨Errs.ej⟩

theorem isIf : Tryd.prog.isIface 30 = true := by kernel_rfl
theorem nilnil (w : World) : (binOp .eql 30 .nilIface .nilIface).run Tryd.prog w = .ok (.bool true) w := by kernel_rfl

theorem num_nil (w : World) : Calls Tryd.prog 12 #[.nilIface] w fun e w' => e = .returned (.int .i64 0) ∧ w = w' := by
  have hn := nilnil
  go_enter Tryd.func12, Tryd.ntmps12
  go_wp2
  go_ret
  exact ⟨rfl, rfl⟩

def lst (ad : Nat → Addr) : Array Value := #[ev (ad 0), ev (ad 1), ev (ad 2), ev (ad 3), ev (ad 4), ev (ad 5), ev (ad 6), ev (ad 7), ev (ad 8), ev (ad 9), ev (ad 10), ev (ad 11), ev (ad 12)]
theorem lst_at (ad : Nat → Addr) (k : Nat) (h : k < 13) : (lst ad)[k]? = some (ev (ad k)) := by
  rcases (show k = 0 ∨ k = 1 ∨ k = 2 ∨ k = 3 ∨ k = 4 ∨ k = 5 ∨ k = 6 ∨ k = 7 ∨ k = 8 ∨ k = 9 ∨ k = 10 ∨ k = 11 ∨ k = 12 by omega) with rfl | rfl | rfl | rfl | rfl | rfl | rfl | rfl | rfl | rfl | rfl | rfl | rfl <;> rfl

set_option maxRecDepth 100000 in
theorem num_err (w : World) (ad : Nat → Addr) (hE : Errs w ad) (i : Nat) (hi : i < 13) :
    Calls Tryd.prog 12 #[ev (ad i)] w fun e w' => e = .returned (.int .i64 ((i : Int) + 1)) ∧ Below w.heap.size w w' := by
  have hif := isIf
  have g0 : w.cell? ⟨2, 0, none⟩ = some (ev (ad 0)) := hE.glob 0 (by decide)
  have g1 : w.cell? ⟨3, 0, none⟩ = some (ev (ad 1)) := hE.glob 1 (by decide)
  have g2 : w.cell? ⟨4, 0, none⟩ = some (ev (ad 2)) := hE.glob 2 (by decide)
  have g3 : w.cell? ⟨5, 0, none⟩ = some (ev (ad 3)) := hE.glob 3 (by decide)
  have g4 : w.cell? ⟨1, 0, none⟩ = some (ev (ad 4)) := hE.glob 4 (by decide)
  have g5 : w.cell? ⟨0, 0, none⟩ = some (ev (ad 5)) := hE.glob 5 (by decide)
  have g6 : w.cell? ⟨6, 0, none⟩ = some (ev (ad 6)) := hE.glob 6 (by decide)
  have g7 : w.cell? ⟨7, 0, none⟩ = some (ev (ad 7)) := hE.glob 7 (by decide)
  have g8 : w.cell? ⟨8, 0, none⟩ = some (ev (ad 8)) := hE.glob 8 (by decide)
  have g9 : w.cell? ⟨9, 0, none⟩ = some (ev (ad 9)) := hE.glob 9 (by decide)
  have g10 : w.cell? ⟨10, 0, none⟩ = some (ev (ad 10)) := hE.glob 10 (by decide)
  have g11 : w.cell? ⟨11, 0, none⟩ = some (ev (ad 11)) := hE.glob 11 (by decide)
  have g12 : w.cell? ⟨12, 0, none⟩ = some (ev (ad 12)) := hE.glob 12 (by decide)
  have HE := Lib.hid hE
  clear hE
  go_enter Tryd.func12, Tryd.ntmps12
  go_wp2
  have hb := (Below.refl w.heap.size w).alloc (Nat.le_refl _) (.cells (lst ad) 30)
  have HC : Hid (∀ k, k < 13 → (w.alloc (.cells (lst ad) 30)).cell? ⟨w.heap.size, k, none⟩ = some (ev (ad k))) := Lib.hid (fun k hk => by rw [World.cell?_alloc_mark]; exact lst_at ad k hk)
  have HE1 := Lib.hid (HE.out.below hb)
  have HB := Lib.hid hb
  change Code.wp _ _ _ _ (w.alloc (.cells (lst ad) 30))
  generalize w.alloc (.cells (lst ad) 30) = W1 at *
  clear hb HE g0 g1 g2 g3 g4 g5 g6 g7 g8 g9 g10 g11 g12
  go_loop [24] (fun z => ∃ k : Nat, k ≤ i ∧ z = .int .i64 k) (fun z => 13 - (intOf z).toNat)
  case atStart => exact ⟨0, Nat.zero_le _, rfl⟩
  case round =>
    obtain ⟨k, hk, rfl⟩ := hrel
    have hc := HC.out k (by omega)
    by_cases hki : k = i
    · subst hki
      go_wp2_with (go_at_call 21; refine (is_same _ _).mono ?_; rintro e w' ⟨rfl, rfl⟩)
      go_ret
      exact ⟨rfl, HB.out⟩
    · have hlt : k < i := by omega
      have hne := Lib.hid (HE1.out.inj i k hi (by omega) (by omega))
      obtain ⟨c1, t1, r1⟩ := HE1.out.row i hi
      obtain ⟨c2, t2, r2⟩ := HE1.out.row k (by omega)
      have R1 := Lib.hid r1
      have R2 := Lib.hid r2
      clear r1 r2 hki
      go_wp2_with (go_at_call 21; refine (is_other _ _ _ _ _ _ _ hne.out R1.out R2.out).mono ?_; rintro e w' ⟨rfl, rfl⟩)
      go_round
      case rel => exact ⟨k + 1, by omega, by go_num⟩
      case measure => simp [intOf]; omega

/-! ### what the rows' list gives -/
def datum (t : List UInt8) : DataW Unit := .iface "*errors.errorString" (.ptr (.agg [.lit (.string t)]))

theorem star : "*" ++ "errors.errorString" = "*errors.errorString" := by decide
theorem ename (u : TypeId) (h : Tryd.prog.typeName? 3 u = some "*errors.errorString") : u = 168 :=
  typeName_ptr_named (nm := "errors.errorString") (by rw [star]; kernel_rfl) (by kernel_rfl) (by decide) u (by rw [star]; exact h)
theorem cellsE : Tryd.prog.cellsOf 170 = 1 := by kernel_rfl
theorem cellsS : Tryd.prog.cellsOf 9 = 1 := by kernel_rfl

set_option maxRecDepth 100000 in
theorem sents {W : World} : ∀ (l : List (String × Nat × List UInt8)), (∀ x ∈ l, Tryd.prog.globalNamed x.1 = some x.2.1 ∧ (Tryd.prog.globals[x.2.1]?).map (·.type) = some 30) →
    ∀ ps, DataW.LaidVars Tryd.prog W (l.map fun x => (x.1, datum x.2.2)) ps → ps.Nodup →
    (∀ b off, MemPlace.cell b off ∈ ps → (∃ c t, W.heap[b]? = some (.cells c t (0, 0))) ∧ ∀ u v, W.cell? ⟨b, off, none⟩ = some (.iface u v) → Value.okWide Tryd.prog W .any 0 u v) →
    ∃ aa : List Addr, aa.length = l.length ∧ aa.Nodup ∧ (∀ k, k < l.length → W.cell? ⟨(l.getD k ("", 0, [])).2.1, 0, none⟩ = some (ev (aa.getD k ⟨0, 0, none⟩))) ∧ ∀ a ∈ aa, MemPlace.cell a.block a.off ∈ ps := by
  intro l
  induction l with
  | nil => intro _ ps _ _ _; exact ⟨[], rfl, List.nodup_nil, (fun k hk => absurd hk (Nat.not_lt_zero _)), (fun a ha => absurd ha (List.not_mem_nil))⟩
  | cons x l ih =>
    intro hg ps hv hnd hrows
    obtain ⟨g0, t0, cs0, f0, p0, q0, hg0, ht0, hv0, hd0, hr0, e0⟩ := hv
    obtain ⟨hgx, htx⟩ := hg x (by simp)
    obtain rfl := Option.some.inj (hgx.symm.trans hg0)
    obtain rfl := Option.some.inj (htx.symm.trans ht0)
    subst e0
    obtain ⟨l0⟩ := cs0
    have ok0 : ∀ u v, l0 = [.iface u v] → Value.okWide Tryd.prog W .any 0 u v := fun u v e => by
      subst e
      exact (hrows x.2.1 0 (by simp [MemPlace.row])).2 u v (by simpa using World.var?_cell hg0 hv0 0)
    obtain ⟨a0, s0, rfl, hc0, hs0, hz0, rfl⟩ := errorString_of_trod Tryd.underlying30 ename Tryd.underlying168 Tryd.underlying170 rfl rfl Tryd.underlying9 cellsE cellsS hd0 ok0
    rw [List.nodup_append] at hnd
    obtain ⟨hn1, hn2, hn3⟩ := hnd
    obtain ⟨aa, h1, h2, h3, h4⟩ := ih (fun y hy => hg y (by simp [hy])) q0 hr0 hn2 (fun b off h => hrows b off (by simp [h]))
    refine ⟨a0 :: aa, by simp [h1], ?_, ?_, ?_⟩
    · rw [List.nodup_cons]
      refine ⟨fun ha => ?_, h2⟩
      exact hn3 (.cell a0.block a0.off) (by simp [MemPlace.row]) _ (h4 a0 ha) rfl
    · intro k hk
      cases k with
      | zero => simpa using World.var?_cell hg0 hv0 0
      | succ k => simpa using h3 k (by simpa using hk)
    · intro a ha
      rcases List.mem_cons.1 ha with rfl | ha
      · simp [MemPlace.row]
      · simp [h4 a ha]

def sentL : List (String × Nat × List UInt8) := [("haversack/api.ErrSyntax", 2, [104, 97, 118, 101, 114, 115, 97, 99, 107, 58, 32, 115, 121, 110, 116, 97, 120]), ("haversack/api.ErrDepth", 3, [104, 97, 118, 101, 114, 115, 97, 99, 107, 58, 32, 100, 101, 112, 116, 104]), ("haversack/api.ErrSize", 4, [104, 97, 118, 101, 114, 115, 97, 99, 107, 58, 32, 115, 105, 122, 101]), ("haversack/api.ErrNumber", 5, [104, 97, 118, 101, 114, 115, 97, 99, 107, 58, 32, 110, 117, 109, 98, 101, 114]), ("haversack/api.ErrKey", 1, [104, 97, 118, 101, 114, 115, 97, 99, 107, 58, 32, 107, 101, 121]), ("haversack/api.ErrType", 0, [104, 97, 118, 101, 114, 115, 97, 99, 107, 58, 32, 116, 121, 112, 101]), ("haversack/api.ErrName", 6, [104, 97, 118, 101, 114, 115, 97, 99, 107, 58, 32, 110, 97, 109, 101]), ("haversack/api.ErrVersion", 7, [104, 97, 118, 101, 114, 115, 97, 99, 107, 58, 32, 118, 101, 114, 115, 105, 111, 110]), ("haversack/api.ErrSpec", 8, [104, 97, 118, 101, 114, 115, 97, 99, 107, 58, 32, 115, 112, 101, 99]), ("haversack/api.ErrRange", 9, [104, 97, 118, 101, 114, 115, 97, 99, 107, 58, 32, 114, 97, 110, 103, 101]), ("haversack/api.ErrNone", 10, [104, 97, 118, 101, 114, 115, 97, 99, 107, 58, 32, 110, 111, 110, 101]), ("haversack/api.ErrLimit", 11, [104, 97, 118, 101, 114, 115, 97, 99, 107, 58, 32, 108, 105, 109, 105, 116]), ("haversack/api.ErrTwice", 12, [104, 97, 118, 101, 114, 115, 97, 99, 107, 58, 32, 116, 119, 105, 99, 101])]
def isSent (x : String × DataW Unit) : Bool := sentL.any fun y => y.1 == x.1

set_option maxRecDepth 100000 in
theorem of_laid {W : World} {l : List (String × DataW Unit)} (hp : (l.all fun x => x.2.handleName?.isNone) = true) (hl : l.filter isSent = sentL.map fun x => (x.1, datum x.2.2)) (h : laidMetH Tryd.prog l W) : ∃ ad, Errs W ad := by
  rw [MakeChecks.laidMetH_plain _ _ _ hp] at h
  have h := h.filter isSent
  rw [hl] at h
  obtain ⟨ps, hv, hnd, hrows⟩ := h
  obtain ⟨aa, h1, h2, h3, h4⟩ := sents sentL (by
    intro x hx
    simp only [sentL, List.mem_cons, List.mem_nil_iff, or_false] at hx
    rcases hx with rfl | rfl | rfl | rfl | rfl | rfl | rfl | rfl | rfl | rfl | rfl | rfl | rfl <;> exact ⟨by kernel_rfl, by kernel_rfl⟩) ps hv hnd hrows
  have h13 : aa.length = 13 := h1
  refine ⟨fun k => aa.getD k ⟨0, 0, none⟩, ?_, ?_, ?_⟩
  · intro k hk
    have := h3 k hk
    have e : (sentL.getD k ("", 0, [])).2.1 = gl.getD k 0 := by
      rcases (show k = 0 ∨ k = 1 ∨ k = 2 ∨ k = 3 ∨ k = 4 ∨ k = 5 ∨ k = 6 ∨ k = 7 ∨ k = 8 ∨ k = 9 ∨ k = 10 ∨ k = 11 ∨ k = 12 by omega) with rfl | rfl | rfl | rfl | rfl | rfl | rfl | rfl | rfl | rfl | rfl | rfl | rfl <;> rfl
    rw [e] at this; exact this
  · intro i j hi hj hne e
    rw [List.getD_eq_getElem?_getD, List.getD_eq_getElem?_getD, List.getElem?_eq_getElem (by omega), List.getElem?_eq_getElem (by omega)] at e
    exact hne ((List.getElem_inj h2).1 (by simpa using e))
  · intro k hk
    have hm : aa.getD k ⟨0, 0, none⟩ ∈ aa := by
      rw [List.getD_eq_getElem?_getD, List.getElem?_eq_getElem (by omega)]; exact List.getElem_mem _
    exact (hrows _ _ (h4 _ hm)).1

end Go.Proofs.YtdbidkfjbhclcaaDoor.errs
namespace Go.Proofs.YtdbidkfjbhclcaaDoor.quoteA
open Go.ChangeShapes Go.WideShapes Go.ChangeAt Go.RowKit utfP utfQ utfR runesA runesC runesD runesE quoteP

/-- the table of the code points below 32 lies there -/
def Ctl (w : World) : Prop := ∀ c, c < 32 → w.cell? ⟨16, c, none⟩ = some (.string ⟨(ctl.getD c []).toArray⟩)

theorem ctl_below {w w' : World} (h : Ctl w) (hb : Below w.heap.size w w') : Ctl w' := by
  intro c hc
  have := h c hc
  rw [hb.cell (World.block_lt_of_cell? w _ this)]; exact this

def escS (c : UInt8) : ByteArray := ⟨(esc c.toNat).toArray⟩

theorem escaped_any (c : UInt8) (w : World) (hC : Ctl w) :
    Calls Tryd.prog 58 #[.int .u8 (c.toNat : Int)] w fun e w' => e = .returned (.string (escS c)) ∧ w = w' := by
  by_cases h : c.toNat < 32
  · have hc := hC c.toNat h
    have hr : Hid (escS c = ⟨(ctl.getD c.toNat []).toArray⟩) := Lib.hid (by unfold escS esc; rw [if_pos h])
    generalize (⟨(ctl.getD c.toNat []).toArray⟩ : ByteArray) = x at *
    generalize c.toNat = n at *
    clear hC
    go_enter Tryd.func58, Tryd.ntmps58
    go_wp2
    go_ret
    exact ⟨by rw [hr.out]; rfl, rfl⟩
  · clear hC
    by_cases h1 : c.toNat = 34
    · have hr : Hid (escS c = ⟨#[92, 34]⟩) := Lib.hid (by unfold escS esc; rw [if_neg h, if_pos h1])
      have q1 : ((c.toNat : Int) == 34) = true := by rw [h1]; rfl
      clear h1
      generalize c.toNat = n at *
      go_enter Tryd.func58, Tryd.ntmps58
      go_wp2
      go_ret
      exact ⟨by rw [hr.out]; rfl, rfl⟩
    have q1 : ((c.toNat : Int) == 34) = false := by rw [beq_eq_false_iff_ne]; omega
    by_cases h2 : c.toNat = 92
    · have hr : Hid (escS c = ⟨#[92, 92]⟩) := Lib.hid (by unfold escS esc; rw [if_neg h, if_neg h1, if_pos h2])
      have q2 : ((c.toNat : Int) == 92) = true := by rw [h2]; rfl
      clear h1 h2
      generalize c.toNat = n at *
      go_enter Tryd.func58, Tryd.ntmps58
      go_wp2
      go_ret
      exact ⟨by rw [hr.out]; rfl, rfl⟩
    · have hr : Hid (escS c = ⟨#[]⟩) := Lib.hid (by unfold escS esc; rw [if_neg h, if_neg h1, if_neg h2])
      have q2 : ((c.toNat : Int) == 92) = false := by rw [beq_eq_false_iff_ne]; omega
      clear h1 h2
      generalize c.toNat = n at *
      go_enter Tryd.func58, Tryd.ntmps58
      go_wp2
      go_ret
      exact ⟨by rw [hr.out]; rfl, rfl⟩

def letR (c : Nat) : Value := match letr c with
  | some n => .tuple #[.int .i32 (n : Int), .bool true]
  | none => .tuple #[.int .i32 0, .bool false]

theorem letter_yes (c n : Nat) (z : Int) (w : World) (hz : z = (c : Int)) (h : (c = 34 ∧ n = 34) ∨ (c = 92 ∧ n = 92) ∨ (c = 47 ∧ n = 47) ∨ (c = 98 ∧ n = 8) ∨ (c = 102 ∧ n = 12) ∨ (c = 110 ∧ n = 10) ∨ (c = 114 ∧ n = 13) ∨ (c = 116 ∧ n = 9)) :
    Calls Tryd.prog 67 #[.int .u8 z] w fun e w' => e = .returned (letR c) ∧ w = w' := by
  subst hz
  rcases h with ⟨rfl, rfl⟩ | ⟨rfl, rfl⟩ | ⟨rfl, rfl⟩ | ⟨rfl, rfl⟩ | ⟨rfl, rfl⟩ | ⟨rfl, rfl⟩ | ⟨rfl, rfl⟩ | ⟨rfl, rfl⟩
  all_goals
    go_enter Tryd.func67, Tryd.ntmps67
    go_wp2
    go_ret2
    exact ⟨rfl, rfl⟩

theorem letter_no (c : Nat) (w : World) (h : letr c = none) :
    Calls Tryd.prog 67 #[.int .u8 (c : Int)] w fun e w' => e = .returned (letR c) ∧ w = w' := by
  have hr : Hid (letR c = .tuple #[.int .i32 0, .bool false]) := Lib.hid (by unfold letR; rw [h])
  have hn : c ≠ 34 ∧ c ≠ 92 ∧ c ≠ 47 ∧ c ≠ 98 ∧ c ≠ 102 ∧ c ≠ 110 ∧ c ≠ 114 ∧ c ≠ 116 := by
    refine ⟨?_, ?_, ?_, ?_, ?_, ?_, ?_, ?_⟩ <;> (rintro rfl; cases h)
  obtain ⟨n1, n2, n3, n4, n5, n6, n7, n8⟩ := hn
  have q1 : ((c : Int) == 34) = false := by rw [beq_eq_false_iff_ne]; omega
  have q2 : ((c : Int) == 92) = false := by rw [beq_eq_false_iff_ne]; omega
  have q3 : ((c : Int) == 47) = false := by rw [beq_eq_false_iff_ne]; omega
  have q4 : ((c : Int) == 98) = false := by rw [beq_eq_false_iff_ne]; omega
  have q5 : ((c : Int) == 102) = false := by rw [beq_eq_false_iff_ne]; omega
  have q6 : ((c : Int) == 110) = false := by rw [beq_eq_false_iff_ne]; omega
  have q7 : ((c : Int) == 114) = false := by rw [beq_eq_false_iff_ne]; omega
  have q8 : ((c : Int) == 116) = false := by rw [beq_eq_false_iff_ne]; omega
  clear h n1 n2 n3 n4 n5 n6 n7 n8
  go_enter Tryd.func67, Tryd.ntmps67
  go_wp2
  go_ret2
  exact ⟨by rw [hr.out]; rfl, rfl⟩

theorem letter_any (c : UInt8) (w : World) :
    Calls Tryd.prog 67 #[.int .u8 (c.toNat : Int)] w fun e w' => e = .returned (letR c.toNat) ∧ w = w' := by
  cases h : letr c.toNat with
  | none => exact letter_no c.toNat w h
  | some n =>
    refine letter_yes c.toNat n _ w rfl ?_
    unfold letr at h
    generalize c.toNat = m at *
    by_cases h0 : m = 34 ∨ m = 92 ∨ m = 47
    · rw [if_pos h0] at h
      obtain rfl := Option.some.inj h
      omega
    rw [if_neg h0] at h
    by_cases h1 : m = 98
    · rw [if_pos h1] at h
      have := Option.some.inj h
      omega
    rw [if_neg h1] at h
    by_cases h2 : m = 102
    · rw [if_pos h2] at h
      have := Option.some.inj h
      omega
    rw [if_neg h2] at h
    by_cases h3 : m = 110
    · rw [if_pos h3] at h
      have := Option.some.inj h
      omega
    rw [if_neg h3] at h
    by_cases h4 : m = 114
    · rw [if_pos h4] at h
      have := Option.some.inj h
      omega
    rw [if_neg h4] at h
    by_cases h5 : m = 116
    · rw [if_pos h5] at h
      have := Option.some.inj h
      omega
    rw [if_neg h5] at h
    cases h

/-- what piece and hexed hand back -/
def pcV (o : Option (Int × Nat)) : Value := match o with
  | some q => .tuple #[.int .i32 q.1, .int .i64 (q.2 : Int), .bool true]
  | none => .tuple #[.int .i32 0, .int .i64 0, .bool false]

/-- runes.Hex at a place, with the place as the walk spells it -/
theorem hexI (s : ByteArray) (p : Nat) (z : Int) (w : World) (hs : s.size ≤ maxLen) (hz : z = (p : Int)) (h : p + 4 ≤ s.size) (hh : 0 ≤ hx s.data.toList p 4) :
    Calls Tryd.prog 77 #[.string s, .int .i64 z] w fun e w' => e = .returned (.tuple #[.int .i64 (hx s.data.toList p 4), .bool true]) ∧ w = w' := by
  subst hz
  have := hex_at s p w hs h
  rw [hexRes, if_pos hh] at this
  exact this
theorem hexNo (s : ByteArray) (p : Nat) (z : Int) (w : World) (hs : s.size ≤ maxLen) (hz : z = (p : Int)) (h : s.size < p + 4 ∨ hx s.data.toList p 4 < 0) :
    Calls Tryd.prog 77 #[.string s, .int .i64 z] w fun e w' => e = .returned (.tuple #[.int .i64 0, .bool false]) ∧ w = w' := by
  subst hz
  by_cases h1 : s.size < p + 4
  · exact hex_no s p w hs (Or.inr (by omega))
  · have := hex_at s p w hs (by omega)
    rw [hexRes, if_neg (by omega)] at this
    exact this

theorem pre_u (l : List UInt8) : Lib.hasPrefix l [92, 117] = decide (2 ≤ l.length ∧ bt l 0 = 92 ∧ bt l 1 = 117) := by
  unfold Lib.hasPrefix bt
  match l with
  | [] => rfl
  | [a] => simp [List.isPrefixOf]
  | a :: b :: t =>
    rw [Bool.eq_iff_iff]
    simp only [List.isPrefixOf, Bool.and_true, Bool.and_eq_true, beq_iff_eq, decide_eq_true_eq, List.length_cons, List.getD_cons_zero, List.getD_cons_succ]
    constructor
    · rintro ⟨h1, h2⟩
      subst h1 h2
      exact ⟨by omega, rfl, rfl⟩
    · rintro ⟨_, h1, h2⟩
      exact ⟨UInt8.toNat_inj.1 h1.symm, UInt8.toNat_inj.1 h2.symm⟩
theorem bt_drop (l : List UInt8) (p k : Nat) : bt (l.drop p) k = bt l (p + k) := by
  unfold bt; simp [List.getD]

theorem hexed_at (s : ByteArray) (p : Nat) (w : World) (hs : s.size ≤ 1000000) (hp : p + 1 < s.size) :
    Calls Tryd.prog 66 #[.string s, .int .i64 p] w fun e w' => e = .returned (pcV (hexd (s.data.toList.drop p))) ∧ w = w' := by
  have hm : s.size ≤ maxLen := by unfold maxLen; omega
  have hlen : (s.data.toList.drop p).length = s.size - p := by simp
  have e2 : hx (s.data.toList.drop p) 2 4 = hx s.data.toList (p + 2) 4 := hx_drop _ _ _ _
  have e8 : hx (s.data.toList.drop p) 8 4 = hx s.data.toList (p + 8) 4 := hx_drop _ _ _ _
  have b2 := hx_bd s.data.toList (p + 2) 4 (Nat.le_refl _)
  have b8 := hx_bd s.data.toList (p + 8) 4 (Nat.le_refl _)
  by_cases h1 : s.size < p + 2 + 4 ∨ hx s.data.toList (p + 2) 4 < 0
  · have hr : Hid (pcV (hexd (s.data.toList.drop p)) = .tuple #[.int .i32 0, .int .i64 0, .bool false]) := Lib.hid (by
      unfold hexd; rw [e2, if_pos (by omega)]; rfl)
    have HX := Lib.hid (fun z w hz => hexNo s (p + 2) z w hm hz h1)
    clear e2 e8 b2 b8 h1 hlen
    go_enter Tryd.func66, Tryd.ntmps66
    go_wp2_with fail
    refine (HX.out _ _ (by omega)).mono ?_
    rintro e w' ⟨rfl, rfl⟩
    go_wp2
    go_ret3
    exact ⟨by rw [hr.out]; rfl, rfl⟩
  have HX := Lib.hid (fun z w hz => hexI s (p + 2) z w hm hz (by omega) (by omega))
  by_cases h2 : Pt (hx s.data.toList (p + 2) 4)
  · have hr : Hid (pcV (hexd (s.data.toList.drop p)) = .tuple #[.int .i32 (hx s.data.toList (p + 2) 4), .int .i64 6, .bool true]) := Lib.hid (by
      unfold hexd; rw [e2, if_neg (by omega), if_pos h2]; rfl)
    clear e2 e8 b8 h1 hlen
    generalize hx s.data.toList (p + 2) 4 = n at *
    go_enter Tryd.func66, Tryd.ntmps66
    go_wp2_with fail
    refine (HX.out _ _ (by omega)).mono ?_
    rintro e w' ⟨rfl, rfl⟩
    go_wp2_with fail
    refine (encode_yes _ _ h2).mono ?_
    rintro e w' ⟨rfl, rfl⟩
    go_wp2
    go_ret3
    exact ⟨by rw [hr.out]; rfl, rfl⟩
  have hd : (s.extract (p + 6) s.size).data.toList = s.data.toList.drop (p + 6) := ext_drop s (p + 6)
  have hpre : Lib.hasPrefix (s.extract (p + 6) s.size).data.toList [92, 117] = decide (2 ≤ s.size - (p + 6) ∧ bt s.data.toList (p + 6) = 92 ∧ bt s.data.toList (p + 7) = 117) := by
    rw [hd, pre_u, bt_drop, bt_drop]; simp
  have c6 : bt (s.data.toList.drop p) 6 = bt s.data.toList (p + 6) := bt_drop _ _ _
  have c7 : bt (s.data.toList.drop p) 7 = bt s.data.toList (p + 7) := bt_drop _ _ _
  have HP := fun w => Tryd.strings_HasPrefix (s.extract (p + 6) s.size) ⟨#[92, 117]⟩ w
  have hl6 : p + 6 ≤ s.size := by omega
  by_cases h3 : 2 ≤ s.size - (p + 6) ∧ bt s.data.toList (p + 6) = 92 ∧ bt s.data.toList (p + 7) = 117
  · rw [show Lib.hasPrefix (s.extract (p + 6) s.size).data.toList (ByteArray.mk #[92, 117]).data.toList = true from hpre.trans (decide_eq_true h3)] at HP
    have HP := Lib.hid HP
    by_cases h4 : s.size < p + 8 + 4 ∨ hx s.data.toList (p + 8) 4 < 0
    · have hr : Hid (pcV (hexd (s.data.toList.drop p)) = .tuple #[.int .i32 0, .int .i64 0, .bool false]) := Lib.hid (by
        unfold hexd; rw [e2, e8, if_neg (by omega), if_neg h2, if_pos (by omega)]; rfl)
      have HX8 := Lib.hid (fun z w hz => hexNo s (p + 8) z w hm hz h4)
      clear e2 e8 h1 hlen h3 h4 hd hpre c6 c7
      generalize hx s.data.toList (p + 2) 4 = n at *
      go_enter Tryd.func66, Tryd.ntmps66
      go_wp2_with fail
      refine (HX.out _ _ (by omega)).mono ?_
      rintro e w' ⟨rfl, rfl⟩
      go_wp2_with fail
      refine (encode_no _ _ h2).mono ?_
      rintro e w' ⟨rfl, rfl⟩
      go_wp2_with fail
      refine (HP.out _).mono ?_
      rintro e w' ⟨rfl, rfl⟩
      go_wp2_with fail
      refine (HX8.out _ _ (by omega)).mono ?_
      rintro e w' ⟨rfl, rfl⟩
      go_wp2
      go_ret3
      exact ⟨by rw [hr.out]; rfl, rfl⟩
    · have HX8 := Lib.hid (fun z w hz => hexI s (p + 8) z w hm hz (by omega) (by omega))
      have hn4 : 12 ≤ s.size - p := by omega
      have hge : 55296 ≤ hx s.data.toList (p + 2) 4 := by unfold Pt at h2; omega
      by_cases h5 : hx s.data.toList (p + 2) 4 < 56320 ∧ 56320 ≤ hx s.data.toList (p + 8) 4 ∧ hx s.data.toList (p + 8) 4 ≤ 57343
      · have hr : Hid (pcV (hexd (s.data.toList.drop p)) = .tuple #[.int .i32 (65536 + 1024 * (hx s.data.toList (p + 2) 4 - 55296) + (hx s.data.toList (p + 8) 4 - 56320)), .int .i64 12, .bool true]) := Lib.hid (by
          unfold hexd; rw [e2, e8, if_neg (by omega), if_neg h2, if_neg (by omega), if_pos ⟨hge, h5⟩]; rfl)
        obtain ⟨g1, g2, g3⟩ := h5
        clear e2 e8 h1 hlen h3 h4 hd hpre c6 c7
        generalize hx s.data.toList (p + 2) 4 = n at *
        generalize hx s.data.toList (p + 8) 4 = m at *
        go_enter Tryd.func66, Tryd.ntmps66
        go_wp2_with fail
        refine (HX.out _ _ (by omega)).mono ?_
        rintro e w' ⟨rfl, rfl⟩
        go_wp2_with fail
        refine (encode_no _ _ h2).mono ?_
        rintro e w' ⟨rfl, rfl⟩
        go_wp2_with fail
        refine (HP.out _).mono ?_
        rintro e w' ⟨rfl, rfl⟩
        go_wp2_with fail
        refine (HX8.out _ _ (by omega)).mono ?_
        rintro e w' ⟨rfl, rfl⟩
        go_wp2_with fail
        refine (join_yes _ _ _ hge g1 g2 g3).mono ?_
        rintro e w' ⟨rfl, rfl⟩
        go_wp2
        go_ret3
        exact ⟨by rw [hr.out]; rfl, rfl⟩
      · have hr : Hid (pcV (hexd (s.data.toList.drop p)) = .tuple #[.int .i32 0, .int .i64 0, .bool false]) := Lib.hid (by
          unfold hexd; rw [e2, e8, if_neg (by omega), if_neg h2, if_neg (by omega), if_neg (fun h => h5 h.2)]; rfl)
        have HJ := Lib.hid (fun w => join_no (hx s.data.toList (p + 2) 4) (hx s.data.toList (p + 8) 4) w (by omega))
        clear e2 e8 h1 hlen h3 h4 h5 hd hpre c6 c7
        generalize hx s.data.toList (p + 2) 4 = n at *
        generalize hx s.data.toList (p + 8) 4 = m at *
        go_enter Tryd.func66, Tryd.ntmps66
        go_wp2_with fail
        refine (HX.out _ _ (by omega)).mono ?_
        rintro e w' ⟨rfl, rfl⟩
        go_wp2_with fail
        refine (encode_no _ _ h2).mono ?_
        rintro e w' ⟨rfl, rfl⟩
        go_wp2_with fail
        refine (HP.out _).mono ?_
        rintro e w' ⟨rfl, rfl⟩
        go_wp2_with fail
        refine (HX8.out _ _ (by omega)).mono ?_
        rintro e w' ⟨rfl, rfl⟩
        go_wp2_with fail
        refine (HJ.out _).mono ?_
        rintro e w' ⟨rfl, rfl⟩
        go_wp2
        go_ret3
        exact ⟨by rw [hr.out]; rfl, rfl⟩
  · rw [show Lib.hasPrefix (s.extract (p + 6) s.size).data.toList (ByteArray.mk #[92, 117]).data.toList = false from hpre.trans (decide_eq_false h3)] at HP
    have HP := Lib.hid HP
    have hr : Hid (pcV (hexd (s.data.toList.drop p)) = .tuple #[.int .i32 0, .int .i64 0, .bool false]) := Lib.hid (by
      unfold hexd; rw [e2, e8, c6, c7, if_neg (by omega), if_neg h2, if_pos (by omega)]; rfl)
    clear e2 e8 h1 hlen h3 hd hpre c6 c7 b8
    generalize hx s.data.toList (p + 2) 4 = n at *
    go_enter Tryd.func66, Tryd.ntmps66
    go_wp2_with fail
    refine (HX.out _ _ (by omega)).mono ?_
    rintro e w' ⟨rfl, rfl⟩
    go_wp2_with fail
    refine (encode_no _ _ h2).mono ?_
    rintro e w' ⟨rfl, rfl⟩
    go_wp2_with fail
    refine (HP.out _).mono ?_
    rintro e w' ⟨rfl, rfl⟩
    go_wp2
    go_ret3
    exact ⟨by rw [hr.out]; rfl, rfl⟩

theorem bt_get (s : ByteArray) (p k : Nat) (h : p + k < s.size) : bt (s.data.toList.drop p) k = s[p + k].toNat := by
  unfold bt
  have : (s.data.toList.drop p).getD k 0 = s.data.toList.getD (p + k) 0 := by simp [List.getD]
  rw [this, bget s _ h]

def PcPost (w : World) (l : List UInt8) (e : Ending) (w' : World) : Prop := e = .returned (pcV (pc l)) ∧ Below w.heap.size w w'

theorem piece_raw (s : ByteArray) (p : Nat) (w : World) (hp : p < s.size) (h0 : s[p].toNat ≠ 92) (hT : Tabs w) :
    Calls Tryd.prog 59 #[.string s, .int .i64 p] w (PcPost w (s.data.toList.drop p)) := by
  have hb0 := bt_get s p 0 (by omega)
  simp only [Nat.add_zero] at hb0
  have hpc : pcV (pc (s.data.toList.drop p)) = if (dec (s.data.toList.drop p)).2 = 0 ∨ (dec (s.data.toList.drop p)).1 < 32 ∨ (dec (s.data.toList.drop p)).1 = 34 then .tuple #[.int .i32 0, .int .i64 0, .bool false] else .tuple #[.int .i32 ((dec (s.data.toList.drop p)).1 : Int), .int .i64 ((dec (s.data.toList.drop p)).2 : Int), .bool true] := by
    unfold pc
    rw [if_pos (by rw [hb0]; exact h0)]
    split <;> rfl
  have hbd : ((dec (s.data.toList.drop p)).1 : Int) ≤ 1114111 := by
    by_cases z : (dec (s.data.toList.drop p)).2 = 0
    · unfold dec at *
      split
      · simp
      · rename_i c; rw [if_neg c] at z; have := decodeL_pos (s.data.toList.drop p); omega
    · exact (dec_ok rfl z).1.2.1
  have HD := decode_at s p w hp hT
  unfold decR at HD
  generalize dec (s.data.toList.drop p) = q at *
  obtain ⟨a, b⟩ := q
  simp only at hpc hbd HD
  have q0 : ((s[p].toNat : Int) != 92) = true := by rw [bne_iff_ne]; omega
  unfold PcPost
  rw [hpc]
  clear hpc hb0 h0 hT
  by_cases z : b = 0
  · have d0 : decide (0 < b) = false := by simp; omega
    rw [d0] at HD
    have HD := Lib.hid HD
    rw [if_pos (Or.inl z)]
    clear d0 z
    go_enter Tryd.func59, Tryd.ntmps59
    go_wp2_with fail
    refine HD.out.mono ?_
    rintro e w1 ⟨rfl, hb1⟩
    have HB1 := Lib.hid hb1
    clear hb1
    go_wp2
    go_ret3
    exact ⟨rfl, HB1.out⟩
  have d0 : decide (0 < b) = true := by simp; omega
  rw [d0] at HD
  have HD := Lib.hid HD
  by_cases h1 : a < 32
  · rw [if_pos (Or.inr (Or.inl h1))]
    have d1 : (a : Int) < 32 := by omega
    clear d0 z
    go_enter Tryd.func59, Tryd.ntmps59
    go_wp2_with fail
    refine HD.out.mono ?_
    rintro e w1 ⟨rfl, hb1⟩
    have HB1 := Lib.hid hb1
    clear hb1
    go_wp2
    go_ret3
    exact ⟨rfl, HB1.out⟩
  have d1 : ¬ (a : Int) < 32 := by omega
  by_cases h2 : a = 34
  · rw [if_pos (Or.inr (Or.inr h2))]
    have d2 : ((a : Int) == 34) = true := by rw [h2]; rfl
    clear d0 z h2
    go_enter Tryd.func59, Tryd.ntmps59
    go_wp2_with fail
    refine HD.out.mono ?_
    rintro e w1 ⟨rfl, hb1⟩
    have HB1 := Lib.hid hb1
    clear hb1
    go_wp2
    go_ret3
    exact ⟨rfl, HB1.out⟩
  · rw [if_neg (by omega)]
    have d2 : ((a : Int) == 34) = false := by rw [beq_eq_false_iff_ne]; omega
    clear d0 z h2
    go_enter Tryd.func59, Tryd.ntmps59
    go_wp2_with fail
    refine HD.out.mono ?_
    rintro e w1 ⟨rfl, hb1⟩
    have HB1 := Lib.hid hb1
    clear hb1
    go_wp2
    go_ret3
    exact ⟨rfl, HB1.out⟩

theorem piece_at (s : ByteArray) (p : Nat) (w : World) (hs : s.size ≤ 1000000) (hp : p < s.size) (hT : Tabs w) :
    Calls Tryd.prog 59 #[.string s, .int .i64 p] w (PcPost w (s.data.toList.drop p)) := by
  by_cases h0 : s[p].toNat ≠ 92
  · exact piece_raw s p w hp h0 hT
  have h0' : s[p].toNat = 92 := by omega
  have hb0 := bt_get s p 0 (by omega)
  simp only [Nat.add_zero] at hb0
  have q0 : ((s[p].toNat : Int) != 92) = false := by rw [h0']; rfl
  have hlen : (s.data.toList.drop p).length = s.size - p := by simp
  clear hT
  unfold PcPost
  by_cases h1 : p + 1 < s.size
  · have hb1 := bt_get s p 1 h1
    by_cases h2 : s[p + 1].toNat = 117
    · have hr : Hid (pc (s.data.toList.drop p) = hexd (s.data.toList.drop p)) := Lib.hid (by
        unfold pc; rw [hb0, if_neg (by omega), if_neg (by omega), hb1, if_pos h2])
      rw [hr.out]
      have q1 : ((s[p + 1].toNat : Int) == 117) = true := by rw [h2]; rfl
      have HX := hexed_at s p w hs h1
      have hpv : ∃ x y z, pcV (hexd (s.data.toList.drop p)) = .tuple #[.int .i32 x, .int .i64 y, .bool z] := by
        unfold pcV; split
        · exact ⟨_, _, _, rfl⟩
        · exact ⟨_, _, _, rfl⟩
      obtain ⟨x, y, z, hpv⟩ := hpv
      rw [hpv] at HX ⊢
      have HX := Lib.hid HX
      clear hb0 hb1 h0 h0' h2 hpv hlen hr
      go_enter Tryd.func59, Tryd.ntmps59
      go_wp2_with fail
      refine HX.out.mono ?_
      rintro e w1 ⟨rfl, rfl⟩
      go_wp2
      go_ret3
      exact ⟨rfl, Below.refl _ _⟩
    · have hr : pc (s.data.toList.drop p) = (letr s[p + 1].toNat).map fun r => ((r : Int), 2) := by
        unfold pc; rw [hb0, if_neg (by omega), if_neg (by omega), hb1, if_neg h2]
      rw [hr]
      have q1 : ((s[p + 1].toNat : Int) == 117) = false := by rw [beq_eq_false_iff_ne]; omega
      have HL := fun w => letter_any s[p + 1] w
      unfold letR at HL
      cases hl : letr s[p + 1].toNat with
      | none =>
        rw [hl] at HL
        simp only at HL
        have HL := Lib.hid HL
        clear hb0 hb1 h0 h0' h2 hlen hr hl
        go_enter Tryd.func59, Tryd.ntmps59
        go_wp2_with fail
        refine (HL.out _).mono ?_
        rintro e w1 ⟨rfl, rfl⟩
        go_wp2
        go_ret3
        exact ⟨rfl, Below.refl _ _⟩
      | some n =>
        rw [hl] at HL
        simp only at HL
        have HL := Lib.hid HL
        clear hb0 hb1 h0 h0' h2 hlen hr hl
        go_enter Tryd.func59, Tryd.ntmps59
        go_wp2_with fail
        refine (HL.out _).mono ?_
        rintro e w1 ⟨rfl, rfl⟩
        go_wp2
        go_ret3
        exact ⟨rfl, Below.refl _ _⟩
  · have hr : Hid (pc (s.data.toList.drop p) = none) := Lib.hid (by
      unfold pc; rw [hb0, if_neg (by omega), if_pos (by omega)])
    rw [hr.out]
    clear hb0 h0 h0' hlen hr
    go_enter Tryd.func59, Tryd.ntmps59
    go_wp2
    go_ret3
    exact ⟨rfl, Below.refl _ _⟩

end Go.Proofs.YtdbidkfjbhclcaaDoor.quoteA
namespace Go.Proofs.YtdbidkfjbhclcaaDoor.quoteB
open Go.ChangeShapes Go.WideShapes Go.ChangeAt Go.RowKit utfP utfQ utfR runesA runesC runesD runesE quoteP quoteA errIs errs

/-- the error of syntax lies there -/
def Syn (w : World) (ad : Nat → Addr) : Prop := w.cell? ⟨2, 0, none⟩ = some (ev (ad 0))
theorem syn_below {w w' : World} {ad : Nat → Addr} (h : Syn w ad) (hb : Below w.heap.size w w') : Syn w' ad := by
  unfold Syn at *
  rw [hb.cell (World.block_lt_of_cell? w _ h)]; exact h

abbrev IsB (B b : Nat) (l : List UInt8) (w : World) : Prop := Lib.IsBuilderF 48 5 B b (Lib.byteCells l) w

theorem builderAt_below {B b : Nat} {p : Value} {bs : List Value} {W W' : World} (h : Lib.BuilderAtF 48 5 B b p bs W) (hb : Below W.heap.size W W') : Lib.BuilderAtF 48 5 B b p bs W' := by
  obtain ⟨h1, v, h2, h3, h4⟩ := h
  have hlt : b < W.heap.size := (Array.getElem?_eq_some_iff.1 h2).1
  refine ⟨h1, v, by rw [hb.block _ hlt]; exact h2, ?_, h4⟩
  exact Go.World.ownsRowF.kept h3 (row := none) ⟨hb.os, hb.tape, hb.output, hb.size, fun k hk _ => hb.block k hk⟩ (Classical.em _)
theorem isB_below {B b : Nat} {l : List UInt8} {W W' : World} (h : IsB B b l W) (hb : Below W.heap.size W W') : IsB B b l W' :=
  h.elim (fun h => Or.inl (builderAt_below h hb)) (fun h => Or.inr (builderAt_below h hb))

theorem new_builder (w : World) (o : Array Value) (h : o = #[.pointer none, .slice none 0 0]) : IsB w.heap.size w.heap.size [] (w.alloc (.cells o 48)) := by
  subst h
  refine Lib.IsBuilderF.of (Or.inl ⟨Nat.le_refl _, .slice none 0 0, ?_, World.ownsRow_nil _ _ _ _, by simp [Value.ownBlock]⟩)
  show (w.heap.push _)[w.heap.size]? = _
  simp

/-- the string at a text's head, with its quotes -/
noncomputable def stk (l : List UInt8) : Option (List UInt8 × Nat) := if bt l 0 = 34 then (tk l.tail).map fun q => (q.1, q.2 + 1) else none
noncomputable def takeO (l : List UInt8) (p : Int) : Option (List UInt8 × Nat) := if p < 0 then none else stk (l.drop p.toNat)

def tkV (ad : Nat → Addr) (o : Option (List UInt8 × Nat)) : Value := match o with
  | some q => .tuple #[.string ⟨q.1.toArray⟩, .int .i64 (q.2 : Int), .nilIface]
  | none => .tuple #[.string ⟨#[]⟩, .int .i64 0, ev (ad 0)]
def TkPost (w : World) (ad : Nat → Addr) (o : Option (List UInt8 × Nat)) (e : Ending) (w' : World) : Prop := e = .returned (tkV ad o) ∧ Below w.heap.size w w'

theorem stk_nil : stk [] = none := rfl
theorem stk_at (s : ByteArray) (p : Nat) (h : p < s.size) : stk (s.data.toList.drop p) = if s[p].toNat = 34 then (tk (s.data.toList.drop (p + 1))).map fun q => (q.1, q.2 + 1) else none := by
  have hb := bt_get s p 0 (by omega)
  simp only [Nat.add_zero] at hb
  unfold stk
  rw [hb, List.tail_drop]

theorem take_no (s : ByteArray) (p : Int) (w : World) (ad : Nat → Addr) (hE : Syn w ad) (h : p < 0 ∨ (s.size : Int) ≤ p) :
    Calls Tryd.prog 52 #[.string s, .int .i64 p] w (TkPost w ad none) := by
  have hg : w.cell? ⟨2, 0, none⟩ = some (ev (ad 0)) := hE
  clear hE
  by_cases h1 : p < 0
  · clear h
    go_enter Tryd.func52, Tryd.ntmps52
    go_wp2
    go_quiet (fail)
    go_wp2
    go_ret3
    exact ⟨rfl, below_drewN (Below.refl _ _) _⟩
  · have h2 : (s.size : Int) ≤ p := by omega
    clear h
    go_enter Tryd.func52, Tryd.ntmps52
    go_wp2
    go_quiet (fail)
    go_wp2
    go_ret3
    exact ⟨rfl, below_drewN (Below.refl _ _) _⟩

theorem take_noq (s : ByteArray) (p : Nat) (w : World) (ad : Nat → Addr) (hE : Syn w ad) (hp : p < s.size) (h : s[p].toNat ≠ 34) :
    Calls Tryd.prog 52 #[.string s, .int .i64 p] w (TkPost w ad none) := by
  have hg : w.cell? ⟨2, 0, none⟩ = some (ev (ad 0)) := hE
  have q0 : ((s[p].toNat : Int) != 34) = true := by rw [bne_iff_ne]; omega
  clear hE h
  go_enter Tryd.func52, Tryd.ntmps52
  go_wp2
  go_quiet (fail)
  go_wp2
  go_ret3
  exact ⟨rfl, below_drewN (Below.refl _ _) _⟩

theorem tk_go {l : List UInt8} {a p : Nat} {d : List UInt8} {r : Int} {k : Nat} (ha : a ≤ p) (h : tk (l.drop a) = (tk (l.drop p)).map fun x => (d ++ x.1, (p - a) + x.2)) (z : bt (l.drop p) 0 ≠ 34) (hq : pc (l.drop p) = some (r, k)) :
    tk (l.drop a) = (tk (l.drop (p + k))).map fun x => ((d ++ eb r) ++ x.1, (p + k - a) + x.2) := by
  rw [h, tk_yes z hq, List.drop_drop, Option.map_map]
  congr 1
  funext x
  simp only [Function.comp]
  rw [List.append_assoc]
  congr 1
  omega
theorem tk_fin {l : List UInt8} {a p : Nat} {d : List UInt8} (h : tk (l.drop a) = (tk (l.drop p)).map fun x => (d ++ x.1, (p - a) + x.2)) (hp : p < l.length) (z : bt (l.drop p) 0 = 34) :
    tk (l.drop a) = some (d, p - a + 1) := by
  rw [h, tk_end (by rw [ne_eq, List.drop_eq_nil_iff]; omega) z]; simp
theorem tk_fail {l : List UInt8} {a p : Nat} {d : List UInt8} (h : tk (l.drop a) = (tk (l.drop p)).map fun x => (d ++ x.1, (p - a) + x.2)) (z : bt (l.drop p) 0 ≠ 34) (hq : pc (l.drop p) = none) :
    tk (l.drop a) = none := by
  rw [h, tk_no z hq]; rfl
theorem tk_out {l : List UInt8} {a p : Nat} {d : List UInt8} (h : tk (l.drop a) = (tk (l.drop p)).map fun x => (d ++ x.1, (p - a) + x.2)) (hp : ¬ p < l.length) :
    tk (l.drop a) = none := by
  rw [h, List.drop_eq_nil_of_le (by omega)]; rfl

theorem write_cells (d : List UInt8) (r : Int) : Lib.byteCells d ++ Lib.strCells (Utf8.encode r) = Lib.byteCells (d ++ eb r) := by
  rw [Lib.strCells_eq, Lib.byteCells_append, eb_def]

set_option maxRecDepth 100000 in
theorem take_q (s : ByteArray) (a : Nat) (w : World) (ad : Nat → Addr) (hs : s.size ≤ 1000000) (hT : Tabs w) (hE : Syn w ad) (hp : a < s.size) (h : s[a].toNat = 34) :
    Calls Tryd.prog 52 #[.string s, .int .i64 a] w (TkPost w ad ((tk (s.data.toList.drop (a + 1))).map fun q => (q.1, q.2 + 1))) := by
  have q0 : ((s[a].toNat : Int) != 34) = false := by rw [h]; rfl
  have d1 : decide ((a : Int) < 0) = false := by simp
  have d2 : decide (s.size ≤ a) = false := by simp; omega
  have HT := Lib.hid hT
  have HE := Lib.hid hE
  clear hE hT h
  go_enter Tryd.func52, Tryd.ntmps52
  go_wp2
  go_loopw [8] (fun z wr => ∃ (p : Nat) (d : List UInt8), a + 1 ≤ p ∧ p ≤ s.size ∧ z = .int .i64 p ∧ d.length ≤ p ∧ IsB w.heap.size w.heap.size d wr ∧ Below w.heap.size w wr ∧ Hid (tk (s.data.toList.drop (a + 1)) = (tk (s.data.toList.drop p)).map fun x => (d ++ x.1, (p - (a + 1)) + x.2))) (fun z _ => s.size - (intOf z).toNat)
  case atStart => exact ⟨a + 1, [], Nat.le_refl _, by omega, by go_num, Nat.zero_le _, new_builder w _ rfl, (Below.refl _ _).alloc (Nat.le_refl _) _, Lib.hid (by cases tk (s.data.toList.drop (a + 1)) <;> simp)⟩
  case round =>
    obtain ⟨p, d, hap, hps, rfl, hd, hB, hb, htk⟩ := hrel
    have hsz := hb.size
    have HBd := Lib.hid hB
    have HB := Lib.hid hb
    have hg : wr.cell? ⟨2, 0, none⟩ = some (ev (ad 0)) := syn_below HE.out hb
    have hll : s.data.toList.length = s.size := by simp
    clear hB hb d1 d2 q0
    by_cases hlt : p < s.size
    · have hb0 := bt_get s p 0 (by omega)
      simp only [Nat.add_zero] at hb0
      by_cases h34 : s[p].toNat = 34
      · have q1 : ((s[p].toNat : Int) == 34) = true := by rw [h34]; rfl
        have hfin := Lib.hid (tk_fin htk.out (by omega) (by rw [hb0]; exact h34))
        have HS := Lib.hid (Tryd.Builder_String_any_f w.heap.size w.heap.size d wr HBd.out hsz)
        clear hb0 h34 htk hg hll
        go_wp2_with fail
        refine HS.out.mono ?_
        rintro e w1 ⟨rfl, _, hb2⟩
        have HN2 := Lib.hid (HB.out.trans hb2)
        clear hb2
        go_wp2
        go_ret3
        refine ⟨?_, HN2.out⟩
        rw [hfin.out]
        show _ = Ending.returned (.tuple #[.string ⟨d.toArray⟩, .int .i64 ((p - (a + 1) + 1 + 1 : Nat) : Int), .nilIface])
        rw [show ((p - (a + 1) + 1 + 1 : Nat) : Int) = (p : Int) + 1 - a by omega]
        rfl
      · have q1 : ((s[p].toNat : Int) == 34) = false := by rw [beq_eq_false_iff_ne]; omega
        have hz : bt (s.data.toList.drop p) 0 ≠ 34 := by rw [hb0]; exact h34
        have HP := piece_at s p wr hs hlt (tabs_below HT.out HB.out)
        cases hq : pc (s.data.toList.drop p) with
        | none =>
          have hN := Lib.hid (tk_fail htk.out hz hq)
          unfold PcPost at HP
          rw [hq] at HP
          have HP := Lib.hid HP
          clear hb0 h34 htk hz hll hq hg
          go_wp2_with fail
          refine HP.out.mono ?_
          rintro e w1 ⟨rfl, hb1⟩
          have HB1 := Lib.hid (HB.out.trans (hb1.mono hsz))
          have hg1 : w1.cell? ⟨2, 0, none⟩ = some (ev (ad 0)) := syn_below HE.out HB1.out
          clear hb1
          unfold pcV
          go_wp2
          go_quiet (fail)
          go_wp2
          go_ret3
          refine ⟨?_, below_drewN HB1.out _⟩
          rw [hN.out]; rfl
        | some q =>
          obtain ⟨r, k⟩ := q
          obtain ⟨p1, p2, p3, p4, p5, p6, p7⟩ := pc_ok hq
          rw [List.length_drop] at p4
          have hN := Lib.hid (tk_go hap htk.out hz hq)
          unfold PcPost at HP
          rw [hq] at HP
          have HP := Lib.hid HP
          have hr0 : 0 ≤ r := p1.1
          have hr1 : r ≤ 1114111 := p1.2.1
          have hez : (Utf8.encode r).size ≤ 4 := by rw [← eb_len]; exact p7
          have hel : (eb r).length ≤ k := p6
          clear hb0 h34 htk hz hq hg p1 p3 p5 p6 p7
          go_wp2_with fail
          refine HP.out.mono ?_
          rintro e w1 ⟨rfl, hb1⟩
          have HB1 := Lib.hid (HB.out.trans (hb1.mono hsz))
          have hz1 := HB1.out.size
          have HW := Lib.hid (Tryd.Builder_WriteString_f w.heap.size w.heap.size (Lib.byteCells d) (Utf8.encode r) w1 (isB_below HBd.out hb1) (by rw [Lib.byteCells_length]; omega) hz1)
          clear hb1
          unfold pcV
          go_wp2_with fail
          refine HW.out.mono ?_
          rintro e w2 ⟨rfl, hbd2, hb2⟩
          rw [write_cells] at hbd2
          have HBd2 := Lib.hid hbd2
          have HB2 := Lib.hid (HB1.out.trans hb2)
          clear hbd2 hb2
          go_wp2
          go_roundw
          case rel => exact ⟨p + k, d ++ eb r, by omega, by omega, by go_num, by rw [List.length_append]; omega, Or.inr HBd2.out, HB2.out, hN⟩
          case measure => simp [intOf]; omega
    · have hN := Lib.hid (tk_out htk.out (by omega))
      clear htk hll
      go_wp2
      go_quiet (fail)
      go_wp2
      go_ret3
      refine ⟨?_, below_drewN HB.out _⟩
      rw [hN.out]; rfl

theorem take_any (s : ByteArray) (p : Int) (w : World) (ad : Nat → Addr) (hs : s.size ≤ 1000000) (hT : Tabs w) (hE : Syn w ad) :
    Calls Tryd.prog 52 #[.string s, .int .i64 p] w (TkPost w ad (takeO s.data.toList p)) := by
  by_cases h : p < 0 ∨ (s.size : Int) ≤ p
  · have e : takeO s.data.toList p = none := by
      unfold takeO
      by_cases h1 : p < 0
      · rw [if_pos h1]
      · rw [if_neg h1, List.drop_eq_nil_of_le (by simp; omega)]; exact stk_nil
    rw [e]; exact take_no s p w ad hE h
  · obtain ⟨n, rfl⟩ := Int.eq_ofNat_of_zero_le (show 0 ≤ p by omega)
    have hn : n < s.size := by omega
    have e : takeO s.data.toList (n : Int) = stk (s.data.toList.drop n) := by unfold takeO; rw [if_neg (by omega), Int.toNat_natCast]
    rw [e, stk_at s n hn]
    by_cases hq : s[n].toNat = 34
    · rw [if_pos hq]; exact take_q s n w ad hs hT hE hn hq
    · rw [if_neg hq]; exact take_noq s n w ad hE hn hq

/-! ### Parse -/
/-- a whole text that is a string: what it means -/
noncomputable def prs (l : List UInt8) : Option (List UInt8) := match stk l with
  | some q => if q.2 = l.length then some q.1 else none
  | none => none
def prV (ad : Nat → Addr) (o : Option (List UInt8)) : Value := match o with
  | some x => .tuple #[.string ⟨x.toArray⟩, .nilIface]
  | none => .tuple #[.string ⟨#[]⟩, ev (ad 0)]

theorem nneqE (a : Addr) (w : World) : (binOp .neq 30 (ev a) .nilIface).run Tryd.prog w = .ok (.bool true) w := by kernel_rfl
theorem nneqN (w : World) : (binOp .neq 30 .nilIface .nilIface).run Tryd.prog w = .ok (.bool false) w := by kernel_rfl

end Go.Proofs.YtdbidkfjbhclcaaDoor.quoteB
namespace Go.Proofs.YtdbidkfjbhclcaaDoor.quoteC
open Go.ChangeShapes Go.WideShapes Go.ChangeAt Go.RowKit utfP utfQ utfR runesA runesC runesD runesE quoteP quoteA quoteB errIs errs pointsB

/-- what is written when k bytes are done -/
def qw (l : List UInt8) (k : Nat) : List UInt8 := 34 :: (l.take k).flatMap qB
theorem qw_len (l : List UInt8) (k : Nat) : (qw l k).length ≤ 6 * k + 1 := by
  unfold qw
  have := (flat_len (l.take k)).2
  have := List.length_take_le k l
  rw [List.length_cons]; omega
theorem take_go (s : ByteArray) (k : Nat) (h : k < s.size) : s.data.toList.take (k + 1) = s.data.toList.take k ++ [s[k]] := by
  rw [List.take_succ_eq_append_getElem (by simpa using h)]; rfl
theorem qw_go (s : ByteArray) (k : Nat) (h : k < s.size) : qw s.data.toList (k + 1) = qw s.data.toList k ++ qB s[k] := by
  unfold qw; rw [take_go s k h, List.flatMap_append]; simp
theorem qw_all (l : List UInt8) (k : Nat) (h : ¬ k < l.length) : qw l k ++ [34] = qt l := by
  unfold qw qt; rw [List.take_of_length_le (by omega)]; rfl
theorem cells1 (l : List UInt8) (c : UInt8) : Lib.byteCells l ++ [.int .u8 (c.toNat : Int)] = Lib.byteCells (l ++ [c]) := by rw [Lib.byteCells_append]; rfl
theorem cellsE (l : List UInt8) (c : UInt8) : Lib.byteCells l ++ Lib.strCells (escS c) = Lib.byteCells (l ++ esc c.toNat) := by rw [Lib.strCells_eq, Lib.byteCells_append]; rfl
theorem esc_nil {c : UInt8} (h : esc c.toNat = []) : (escS c).toList.isEmpty = true := by rw [toL]; unfold escS; rw [h]; rfl
theorem esc_not {c : UInt8} (h : esc c.toNat ≠ []) : (escS c).toList.isEmpty = false := by
  rw [toL]; unfold escS; simpa using h
theorem qB_one {c : UInt8} (h : esc c.toNat = []) : qB c = [c] := by unfold qB; rw [if_pos h]
theorem qB_esc {c : UInt8} (h : esc c.toNat ≠ []) : qB c = esc c.toNat := by unfold qB; rw [if_neg h]

def qtV (ad : Nat → Addr) (l : List UInt8) : Value := if (pts l).isSome = true then .tuple #[.string ⟨(qt l).toArray⟩, .nilIface] else .tuple #[.string ⟨#[]⟩, ev (ad 0)]

theorem quote_no (s : ByteArray) (w : World) (ad : Nat → Addr) (hs : s.size ≤ 100000) (hT : Tabs w) (hE : Syn w ad) (hv : (pts s.data.toList).isSome = false) :
    Calls Tryd.prog 48 #[.string s] w fun e w' => e = .returned (qtV ad s.data.toList) ∧ Below w.heap.size w w' := by
  have HV := Lib.hid (valid_is s false hv w (by unfold maxLen; omega) hT)
  have hr : Hid (qtV ad s.data.toList = .tuple #[.string ⟨#[]⟩, ev (ad 0)]) := Lib.hid (by unfold qtV; rw [hv]; rfl)
  have HE := Lib.hid hE
  clear hT hE hv
  go_enter Tryd.func48, Tryd.ntmps48
  go_wp2_with fail
  refine HV.out.mono ?_
  rintro e w1 ⟨rfl, hb1⟩
  have HB1 := Lib.hid hb1
  have hg : w1.cell? ⟨2, 0, none⟩ = some (ev (ad 0)) := syn_below HE.out hb1
  clear hb1
  go_wp2
  go_quiet (fail)
  go_wp2
  go_ret2
  exact ⟨by rw [hr.out]; rfl, below_drewN HB1.out _⟩

set_option maxRecDepth 100000 in
theorem quote_yes (s : ByteArray) (w : World) (ad : Nat → Addr) (hs : s.size ≤ 100000) (hT : Tabs w) (hC : Ctl w) (hv : (pts s.data.toList).isSome = true) :
    Calls Tryd.prog 48 #[.string s] w fun e w' => e = .returned (qtV ad s.data.toList) ∧ Below w.heap.size w w' := by
  have HV := Lib.hid (valid_is s true hv w (by unfold maxLen; omega) hT)
  have hr : Hid (qtV ad s.data.toList = .tuple #[.string ⟨(qt s.data.toList).toArray⟩, .nilIface]) := Lib.hid (by unfold qtV; rw [if_pos hv])
  have HC := Lib.hid hC
  clear hT hv hC
  go_enter Tryd.func48, Tryd.ntmps48
  go_wp2_with fail
  refine HV.out.mono ?_
  rintro e w1 ⟨rfl, hb1⟩
  have HB1 := Lib.hid hb1
  have hz1 := hb1.size
  clear hb1
  have HW0 := Lib.hid (Tryd.Builder_WriteByte_k w1.heap.size w1.heap.size (Lib.byteCells []) 34 _ (new_builder w1 _ rfl) (by decide) (by simp))
  go_wp2_with fail
  refine HW0.out.mono ?_
  rintro e w2 ⟨rfl, hbd2, hb2, _⟩
  have HBd2 : Hid (IsB w1.heap.size w1.heap.size (qw s.data.toList 0) w2) := Lib.hid (Or.inr hbd2)
  have HB2 := Lib.hid (((Below.refl w1.heap.size w1).alloc (Nat.le_refl _) _).trans hb2)
  have hz2 := HB2.out.size
  clear hbd2 hb2
  go_wp2
  go_loopw [14] (fun i wr => ∃ k : Nat, k ≤ s.size ∧ i = .int .i64 k ∧ IsB w1.heap.size w1.heap.size (qw s.data.toList k) wr ∧ Below w1.heap.size w1 wr) (fun i _ => s.size - (intOf i).toNat)
  case atStart => exact ⟨0, Nat.zero_le _, rfl, HBd2.out, HB2.out⟩
  case round =>
    obtain ⟨k, hk, rfl, hB, hb⟩ := hrel
    have hsz := hb.size
    have HBd := Lib.hid hB
    have HB := Lib.hid hb
    have hl6 := qw_len s.data.toList k
    clear hB hb
    by_cases hlt : k < s.size
    · have HCr := Lib.hid (ctl_below (ctl_below HC.out HB1.out) HB.out)
      have hgo := Lib.hid (qw_go s k hlt)
      by_cases he : esc s[k].toNat = []
      · have q1 := esc_nil he
        have hN : Hid (qw s.data.toList (k + 1) = qw s.data.toList k ++ [s[k]]) := Lib.hid (by rw [hgo.out, qB_one he])
        have HW := Lib.hid (Tryd.Builder_WriteByte_k w1.heap.size w1.heap.size (Lib.byteCells (qw s.data.toList k)) (s[k].toNat : Int) wr HBd.out (by rw [Lib.byteCells_length]; omega) hsz)
        clear he hgo
        go_wp2_with fail
        refine (escaped_any _ _ HCr.out).mono ?_
        rintro e w' ⟨rfl, rfl⟩
        go_wp2_with fail
        refine HW.out.mono ?_
        rintro e w3 ⟨rfl, hbd3, hb3, _⟩
        rw [cells1, ← hN.out] at hbd3
        have HBd3 := Lib.hid hbd3
        have HB3 := Lib.hid (HB.out.trans hb3)
        clear hbd3 hb3
        go_wp2
        go_roundw
        case rel => exact ⟨k + 1, by omega, by go_num, Or.inr HBd3.out, HB3.out⟩
        case measure => simp [intOf]; omega
      · have q1 := esc_not he
        have hN : Hid (qw s.data.toList (k + 1) = qw s.data.toList k ++ esc s[k].toNat) := Lib.hid (by rw [hgo.out, qB_esc he])
        have hel := (esc_len _ he).2
        have hes : (escS s[k]).size ≤ 6 := by unfold escS; show (esc s[k].toNat).toArray.size ≤ 6; simpa using hel
        have HW := Lib.hid (Tryd.Builder_WriteString_k w1.heap.size w1.heap.size (Lib.byteCells (qw s.data.toList k)) (escS s[k]) wr HBd.out (by rw [Lib.byteCells_length]; omega) hsz)
        clear he hgo
        go_wp2_with fail
        refine (escaped_any _ _ HCr.out).mono ?_
        rintro e w' ⟨rfl, rfl⟩
        go_wp2_with fail
        refine HW.out.mono ?_
        rintro e w3 ⟨rfl, hbd3, hb3, _⟩
        rw [cellsE, ← hN.out] at hbd3
        have HBd3 := Lib.hid hbd3
        have HB3 := Lib.hid (HB.out.trans hb3)
        clear hbd3 hb3
        go_wp2
        go_roundw
        case rel => exact ⟨k + 1, by omega, by go_num, Or.inr HBd3.out, HB3.out⟩
        case measure => simp [intOf]; omega
    · have hN := Lib.hid (qw_all s.data.toList k (by simpa using hlt))
      have HW := Lib.hid (Tryd.Builder_WriteByte_k w1.heap.size w1.heap.size (Lib.byteCells (qw s.data.toList k)) 34 wr HBd.out (by rw [Lib.byteCells_length]; omega) hsz)
      go_wp2_with fail
      refine HW.out.mono ?_
      rintro e w3 ⟨rfl, hbd3, hb3, _⟩
      have hbd3' := cells1 (qw s.data.toList k) 34
      rw [show ((34 : UInt8).toNat : Int) = 34 from rfl] at hbd3'
      rw [hbd3', hN.out] at hbd3
      have HB3 := Lib.hid (HB.out.trans hb3)
      have hz3 := HB3.out.size
      have HS := Lib.hid (Tryd.Builder_String_any_f w1.heap.size w1.heap.size (qt s.data.toList) w3 (Or.inr hbd3) hz3)
      clear hbd3 hb3 hbd3'
      go_wp2_with fail
      refine HS.out.mono ?_
      rintro e w4 ⟨rfl, _, hb4⟩
      have HB4 := Lib.hid (HB3.out.trans hb4)
      clear hb4
      go_wp2
      go_ret2
      exact ⟨by rw [hr.out]; rfl, HB1.out.trans (HB4.out.mono hz1)⟩

theorem quote_any (s : ByteArray) (w : World) (ad : Nat → Addr) (hs : s.size ≤ 100000) (hT : Tabs w) (hE : Syn w ad) (hC : Ctl w) :
    Calls Tryd.prog 48 #[.string s] w fun e w' => e = .returned (qtV ad s.data.toList) ∧ Below w.heap.size w w' := by
  cases hv : (pts s.data.toList).isSome
  · exact quote_no s w ad hs hT hE hv
  · exact quote_yes s w ad hs hT hC hv



end Go.Proofs.YtdbidkfjbhclcaaDoor.quoteC
