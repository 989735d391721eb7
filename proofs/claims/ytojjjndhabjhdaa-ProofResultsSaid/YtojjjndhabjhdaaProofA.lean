/-
  The prover's memory; contracts of proof.codeOf, isLiteral, (*prover).set.
-/
import Derived.Test.YtojjjndhabjhdaaChecked
import Derived.Test.YtojjjndhabjhdaaProofR
import Derived.Test.YtojjjndhabjhdaaOwns
import Derived.WalkKit
import Derived.ProofKit
import Derived.WalkLawsBesides
import Derived.WalkSpells
import Derived.Laws.Bits64
import Derived.RegionTactic
import Derived.BigRegion
import Derived.ChangeAlike
import Derived.IntWalk
import Derived.OwnWalk
import Derived.Outline
namespace Go.Proofs.Ytojjjndhabjhdaa.proofA
set_option linter.unusedSimpArgs false
set_option linter.unusedVariables false
open Go.ChangeShapes Go.WideShapes Go.ChangeAt Go.RowKit proofP proofQ owns

def iv (n : Nat) : Value := .int .i64 (n : Int)
inductive Ix where
  | on | always | short | rows | watches | value | trail | row (i : Nat) | watch (c : Nat) | extra
deriving DecidableEq
def ty : Ix → TypeId
  | .on => 4 | .always => 4 | .short => 3 | .rows => 29 | .watches => 29 | .value => 72 | .trail => 3 | .row _ => 3 | .watch _ => 3 | .extra => 3
/-- .. where one more row, which is not the prover's, has another type -/
def tx (t : TypeId) : Ix → TypeId
  | .extra => t
  | k => ty k

structure PS where
  n : Nat
  m : Nat
  row : Nat → List Nat
  W : Nat → List Nat
  on : Nat → Bool
  short : List Nat
  trail : List Nat
  /-- a row that lies beside the prover's -/
  extra : Ent := ⟨3, .slice none 0 0, []⟩

structure Mem (w : World) (B bp : Nat) (lv va : Value) (first nv : Nat) (s : PS) (F : Ix → Ent) : Prop where
  own : Owns w B F
  obj : Whole w bp 68 [lv, iv first, (F .rows).v, (F .on).v, va, (F .short).v, (F .watches).v, (F .value).v, (F .trail).v]
  hx : B ≤ bp ∧ F .extra = s.extra
  ne : ∀ k, (F k).v.ownBlock ≠ some bp
  te : ∀ k, (F k).e = tx s.extra.e k
  on : (F .on).xs = (List.range s.n).map fun i => .bool (s.on i)
  short : (F .short).xs = s.short.map iv
  rows : (F .rows).xs = (List.range s.n).map fun i => (F (.row i)).v
  watches : (F .watches).xs = (List.range s.m).map fun c => (F (.watch c)).v
  value : (F .value).xs = (List.range nv).map fun c => .int .i8 (val s.trail c)
  trail : (F .trail).xs = s.trail.map iv
  row : ∀ i, (F (.row i)).xs = (s.row i).map iv
  watch : ∀ c, (F (.watch c)).xs = (s.W c).map iv
theorem Mem.hB {w : World} {B bp : Nat} {lv va : Value} {first nv : Nat} {s : PS} {F : Ix → Ent} (h : Mem w B bp lv va first nv s F) : B ≤ bp := h.hx.1

theorem infoI : (Try.prog.info? 3).map (fun i => (i.zero, i.size, i.bytes)) = some (some (.int .i64 0), 1, 8) := by kernel_rfl


theorem ofIntNat (a : Nat) (ha : a < 9223372036854775808) : (BitVec.ofInt 64 (a : Int)).toNat = a := by
  rw [BitVec.ofInt_natCast, BitVec.toNat_ofNat]; exact Nat.mod_eq_of_lt (by omega)
theorem nat_xor1 (c : Nat) : c ^^^ 1 = opp c := by
  have h1 : (c ^^^ 1) / 2 = c / 2 := by rw [Nat.xor_div_two]; simp
  have h2 : (c ^^^ 1) % 2 = (c + 1) % 2 := by
    have := Nat.xor_mod_two_eq_one (a := c) (b := 1)
    omega
  unfold opp
  split <;> omega
theorem nat_or1 (c : Nat) : c ||| 1 = if c % 2 = 0 then c + 1 else c := by
  have h1 : (c ||| 1) / 2 = c / 2 := by rw [Nat.or_div_two]; simp
  have h2 : (c ||| 1) % 2 = 1 := by rw [Nat.or_mod_two_eq_one]; simp
  split <;> omega
theorem wrapNat (n : Nat) (h : n < 9223372036854775808) : IntKind.i64.wrap (n : Int) = (n : Int) := IntWalk.i64_in _ (by omega)
theorem xor1 (c : Nat) (h : c < 4611686018427387904) : bits .xor .i64 (c : Int) 1 = ((opp c : Nat) : Int) := by
  show IntKind.i64.wrap ((BitVec.ofInt 64 (c : Int) ^^^ BitVec.ofInt 64 ((1 : Nat) : Int)).toNat : Int) = _
  rw [BitVec.toNat_xor, ofIntNat c (by omega), ofIntNat 1 (by omega), nat_xor1]
  refine wrapNat _ ?_
  unfold opp; split <;> omega
theorem or1 (c : Nat) (h : c < 4611686018427387904) : bits .or .i64 (c : Int) 1 = ((if c % 2 = 0 then c + 1 else c : Nat) : Int) := by
  show IntKind.i64.wrap ((BitVec.ofInt 64 (c : Int) ||| BitVec.ofInt 64 ((1 : Nat) : Int)).toNat : Int) = _
  rw [BitVec.toNat_or, ofIntNat c (by omega), ofIntNat 1 (by omega), nat_or1]
  refine wrapNat _ ?_
  split <;> omega

theorem ret_int {k : IntKind} {a b : Int} (h : a = b) : Ending.returned (.int k a) = .returned (.int k b) := by rw [h]
theorem codeOf_lit (l : Int) (w : World) (hl : lit l) : Calls Try.prog 53 #[.int .i64 l] w fun e w' => e = .returned (.int .i64 (code l : Nat)) ∧ w = w' := by
  have h1 : -20000 ≤ l := hl.2.1
  have h2 : l ≤ 20000 := hl.2.2
  have HC : Hid ((l < 0 → ((code l : Nat) : Int) = -2 * l) ∧ (¬ l < 0 → ((code l : Nat) : Int) = 2 * l + 1)) := Lib.hid ⟨fun h => by unfold code; rw [if_pos h]; omega, fun h => by unfold code; rw [if_neg h]; omega⟩
  clear hl
  by_cases h : l < 0
  · have H1 := Lib.hid (HC.out.1 h)
    clear HC
    go_enter Try.func53, Try.ntmps53
    go_wp2
    go_ret
    exact ⟨ret_int (by rw [H1.out]), rfl⟩
  · have H1 := Lib.hid (HC.out.2 h)
    clear HC
    go_enter Try.func53, Try.ntmps53
    go_wp2
    go_ret
    exact ⟨ret_int (by rw [H1.out]), rfl⟩
theorem isLit_yes (l : Int) (w : World) (hl : lit l) : Calls Try.prog 52 #[.int .i64 l] w fun e w' => e = .returned (.bool true) ∧ w = w' := by
  have h0 : (l != 0) = true := by simpa using hl.1
  have h1 : -20000 ≤ l := hl.2.1
  have h2 : l ≤ 20000 := hl.2.2
  clear hl
  go_enter Try.func52, Try.ntmps52
  go_wp2
  go_ret
  exact ⟨rfl, rfl⟩
theorem isLit_no (l : Int) (w : World) (hl : ¬ lit l) : Calls Try.prog 52 #[.int .i64 l] w fun e w' => e = .returned (.bool false) ∧ w = w' := by
  by_cases h0 : l = 0
  · subst h0
    go_enter Try.func52, Try.ntmps52
    go_wp2
    go_ret
    exact ⟨rfl, rfl⟩
  · by_cases h1 : -20000 ≤ l
    · have h2 : ¬ l ≤ 20000 := fun h => hl ⟨h0, h1, h⟩
      clear hl
      go_enter Try.func52, Try.ntmps52
      go_wp2
      go_ret
      exact ⟨rfl, rfl⟩
    · clear hl
      go_enter Try.func52, Try.ntmps52
      go_wp2
      go_ret
      exact ⟨rfl, rfl⟩

theorem Mem.field {w : World} {B bp : Nat} {lv va : Value} {first nv : Nat} {s : PS} {F : Ix → Ent} (h : Mem w B bp lv va first nv s F) :
    w.cell? ⟨bp, 0, none⟩ = some lv ∧ w.cell? ⟨bp, 1, none⟩ = some (.int .i64 first) ∧ w.cell? ⟨bp, 2, none⟩ = some (F .rows).v ∧ w.cell? ⟨bp, 3, none⟩ = some (F .on).v ∧ w.cell? ⟨bp, 5, none⟩ = some (F .short).v ∧ w.cell? ⟨bp, 6, none⟩ = some (F .watches).v ∧
      w.cell? ⟨bp, 7, none⟩ = some (F .value).v ∧ w.cell? ⟨bp, 8, none⟩ = some (F .trail).v :=
  ⟨h.obj.cell 0, h.obj.cell 1, h.obj.cell 2, h.obj.cell 3, h.obj.cell 5, h.obj.cell 6, h.obj.cell 7, h.obj.cell 8⟩
/-- the values' row -/
theorem Mem.vals {w : World} {B bp : Nat} {lv va : Value} {first nv : Nat} {s : PS} {F : Ix → Ent} (h : Mem w B bp lv va first nv s F) (hn : 0 < nv) :
    ∃ g cap, (F .value).v = .slice (some ⟨g, 0, none⟩) nv cap ∧ B ≤ g ∧ g < w.heap.size ∧ g ≠ bp ∧ (∀ c, c < nv → w.cell? ⟨g, c, none⟩ = some (.int .i8 (val s.trail c))) ∧ ∀ c, w.frozen? ⟨g, c, none⟩ = false := by
  have hl : (F .value).xs.length = nv := by rw [h.value]; simp
  obtain ⟨g, cap, hv, h1, h2, _, _⟩ := h.own.form .value (by omega)
  rw [hl] at hv
  refine ⟨g, cap, hv, h1, h2, ?_, fun c hc => ?_, fun c => h.own.frozen hv c⟩
  · intro e; exact h.ne .value (by rw [hv, e]; rfl)
  · rw [h.own.cell hv c (by omega), h.value]; simp [hc]

/-- the present trail with a code, if it is open -/
def setT (trail : List Nat) (c : Nat) : List Nat := if c ∈ trail ∨ opp c ∈ trail then trail else trail ++ [c]

theorem val_snoc {trail : List Nat} {c : Nat} (h : c ∉ trail) (h' : opp c ∉ trail) (x : Nat) : val (trail ++ [c]) x = if x = c then 1 else if x = opp c then -1 else val trail x := by
  unfold val
  by_cases e1 : x = c
  · subst e1; simp
  · rw [if_neg e1]
    by_cases e2 : x = opp c
    · rw [e2, if_pos rfl, opp_opp]
      have h2 : ¬ (opp c ∈ trail ++ [c]) := by simp [h', opp_ne]
      rw [if_neg h2, if_pos (by simp)]
    · rw [if_neg e2]
      have : opp x ≠ c := fun e => e2 (by rw [← e, opp_opp])
      simp [e1, this]
theorem vals_snoc {trail : List Nat} {c nv : Nat} (h : c ∉ trail) (h' : opp c ∉ trail) : (((List.range nv).map fun c => Value.int .i8 (val trail c)).set c (.int .i8 1)).set (opp c) (.int .i8 (-1)) = (List.range nv).map fun x => .int .i8 (val (trail ++ [c]) x) := by
  apply List.ext_getElem?
  intro j
  rw [List.getElem?_set, List.getElem?_set]
  simp only [List.length_set, List.length_map, List.length_range, List.getElem?_map, List.getElem?_range]
  by_cases hj : j < nv
  · rw [List.getElem?_range hj]
    simp only [Option.map_some]
    rw [val_snoc h h']
    by_cases e2 : opp c = j
    · rw [if_pos e2, e2, if_pos hj]
      subst e2
      rw [if_neg (opp_ne c), if_pos rfl]
    · rw [if_neg e2]
      by_cases e1 : c = j
      · subst e1; simp [hj]
      · rw [if_neg e1, if_neg (fun e => e1 e.symm), if_neg (fun e => e2 e.symm)]
  · rw [List.getElem?_eq_none (by simp; omega)]
    by_cases e2 : opp c = j
    · rw [if_pos e2, if_neg (by omega)]; rfl
    · rw [if_neg e2]
      by_cases e1 : c = j
      · rw [if_pos e1, if_neg (by omega)]; rfl
      · rw [if_neg e1]; rfl

theorem len_iv (l : List Nat) : (l.map iv).length = l.length := by simp
/-- two values written -/
theorem set2 {w : World} {B bp : Nat} {lv va : Value} {first nv : Nat} {s : PS} {F : Ix → Ent} (h : Mem w B bp lv va first nv s F) {g cap : Nat} (hv : (F .value).v = .slice (some ⟨g, 0, none⟩) nv cap) (c c' : Nat) (x y : Value) :
    Owns ((w.setCell ⟨g, c, none⟩ x).setCell ⟨g, c', none⟩ y) B (upd F .value ⟨(F .value).e, (F .value).v, ((F .value).xs.set c x).set c' y⟩) ∧ w.grownBy ((w.setCell ⟨g, c, none⟩ x).setCell ⟨g, c', none⟩ y) (some g) := by
  obtain ⟨a1, a2⟩ := h.own.set hv c x
  obtain ⟨b1, b2⟩ := a1.set (k := .value) (by rw [upd_same]; exact hv) c' y
  refine ⟨b1.alike fun k => ?_, ⟨rfl, rfl, rfl, by simp, fun k hk hne => (b2.block k (by simpa using hk) hne).trans (a2.block k hk hne)⟩⟩
  by_cases e : k = .value
  · subst e; rw [upd_same, upd_same, upd_same]
  · rw [upd_other _ _ e, upd_other _ _ e, upd_other _ _ e]
theorem new_one (w : World) (x : Value) (t : TypeId) : ∀ j u, [x][j]? = some u → (w.alloc (.cells #[x] t)).cell? ((⟨w.heap.size, 0, none⟩ : Addr).add j) = some u := by
  intro j u h
  rcases j with _ | j
  · simp at h; subst h
    simp [Addr.add]
  · simp at h
theorem new_oneD (w : World) (x : Value) (t : TypeId) {n : Nat} (hn : w.heap.size = n) : ∀ j u, [x][j]? = some u → (w.alloc (.cells #[x] t)).drew.cell? ((⟨n, 0, none⟩ : Addr).add j) = some u := by
  subst hn; exact new_one w x t
theorem set_mem {w w1 : World} {B bp : Nat} {lv va v' : Value} {first nv : Nat} {s : PS} {F : Ix → Ent} (h : Mem w B bp lv va first nv s F) {g cap : Nat} (hv : (F .value).v = .slice (some ⟨g, 0, none⟩) nv cap) {c : Nat} (h1 : c ∉ s.trail) (h2 : opp c ∉ s.trail)
    (ho : Owns w1 B (upd (upd F .value ⟨(F .value).e, (F .value).v, ((F .value).xs.set c (.int .i8 1)).set (opp c) (.int .i8 (-1))⟩) .trail ⟨3, v', s.trail.map iv ++ [iv c]⟩))
    (hw : Whole w1 bp 68 [lv, iv first, (F .rows).v, (F .on).v, va, (F .short).v, (F .watches).v, (F .value).v, (F .trail).v]) (hne : v'.ownBlock ≠ some bp) :
    Mem (w1.setCell ⟨bp, 8, none⟩ v') B bp lv va first nv { s with trail := s.trail ++ [c] } (upd (upd F .value ⟨(F .value).e, (F .value).v, ((F .value).xs.set c (.int .i8 1)).set (opp c) (.int .i8 (-1))⟩) .trail ⟨3, v', s.trail.map iv ++ [iv c]⟩) := by
  obtain ⟨hw', hg'⟩ := hw.set 8 v'
  have hnk : ∀ k, (upd (upd F .value ⟨(F .value).e, (F .value).v, ((F .value).xs.set c (.int .i8 1)).set (opp c) (.int .i8 (-1))⟩) .trail ⟨3, v', s.trail.map iv ++ [iv c]⟩ k).v.ownBlock ≠ some bp := by
    intro k
    by_cases e : k = .trail
    · subst e; rw [upd_same]; exact hne
    · rw [upd_other _ _ e]
      by_cases e2 : k = .value
      · subst e2; rw [upd_same]; exact h.ne .value
      · rw [upd_other _ _ e2]; exact h.ne k
  refine ⟨ho.apart hg' (fun k b hk e => hnk k (by rw [hk]; exact e.symm)), ?_, h.hx, hnk, fun k => ?_, ?_, ?_, ?_, ?_, ?_, ?_, fun i => ?_, fun i => ?_⟩
  · simpa [upd] using hw'
  · by_cases e : k = .trail
    · subst e; rw [upd_same]; rfl
    · rw [upd_other _ _ e]
      by_cases e2 : k = .value
      · subst e2; rw [upd_same]; exact h.te .value
      · rw [upd_other _ _ e2]; exact h.te k
  · simp [upd, h.on]
  · simp [upd, h.short]
  · simp [upd, h.rows]
  · simp [upd, h.watches]
  · rw [upd_other _ _ (by decide), upd_same, h.value]
    exact vals_snoc h1 h2
  · simp [upd]
  · simp [upd, h.row]
  · simp [upd, h.watch]
/-- what a call leaves -/
def After (B bp : Nat) (lv : Value) (first nv : Nat) (s : PS) (K : Ix → Prop) (F : Ix → Ent) (w w' : World) : Prop := Below B w w' ∧ ∃ va F', Mem w' B bp lv va first nv s F' ∧ ∀ k, K k → (F' k).v = (F k).v

set_option maxHeartbeats 1000000 in
set_option maxRecDepth 100000 in
theorem set_known (B bp : Nat) (lv va : Value) (first nv : Nat) (s : PS) (F : Ix → Ent) (w : World) (h : Mem w B bp lv va first nv s F) (c : Nat) (hc : c < nv) (b : Bool) (v : Int) (hv : val s.trail c = v) (hb : (v = 1 ∧ b = true) ∨ (v = -1 ∧ b = false)) :
    Calls Try.prog 56 #[.pointer (some ⟨bp, 0, none⟩), .int .i64 c] w fun e w' => e = .returned (.bool b) ∧ w = w' := by
  obtain ⟨g, cap, hval, h1, h2, h3, h4, h5⟩ := h.vals (by omega)
  have f7 := h.field.2.2.2.2.2.2.1
  rw [hval] at f7
  have q := h4 c hc
  rw [hv] at q
  clear h h4 h5 hval h3 hv
  rcases hb with ⟨rfl, rfl⟩ | ⟨rfl, rfl⟩
  · go_enter Try.func56, Try.ntmps56
    go_wp2
    go_ret
    exact ⟨rfl, rfl⟩
  · go_enter Try.func56, Try.ntmps56
    go_wp2
    go_ret
    exact ⟨rfl, rfl⟩

set_option maxHeartbeats 1000000 in
set_option maxRecDepth 100000 in
theorem set_open (B bp : Nat) (lv va : Value) (first nv : Nat) (s : PS) (F : Ix → Ent) (w : World) (h : Mem w B bp lv va first nv s F) (c : Nat) (hc : c < nv) (hc' : opp c < nv) (hsm : c < 4611686018427387904) (hl : s.trail.length ≤ 100000) (h1 : c ∉ s.trail) (h2 : opp c ∉ s.trail) :
    Calls Try.prog 56 #[.pointer (some ⟨bp, 0, none⟩), .int .i64 c] w fun e w' => e = .returned (.bool true) ∧ After B bp lv first nv { s with trail := s.trail ++ [c] } (fun k => k ≠ .trail) F w w' := by
  have HM := Lib.hid h
  obtain ⟨g, cap, hval, hg1, hg2, hg3, hg4, hg5⟩ := h.vals (by omega)
  have f7 := h.field.2.2.2.2.2.2.1
  have f8 := h.field.2.2.2.2.2.2.2
  have z8 := h.obj.frozen 8
  rw [hval] at f7
  have q1 := hg4 c hc
  have q2 := hg4 (opp c) hc'
  rw [val_zero h1 h2] at q1
  rw [val_zero h2 (by rw [opp_opp]; exact h1)] at q2
  have z1 := hg5 c
  have z2 := hg5 (opp c)
  have hx := xor1 c hsm
  have hne := opp_ne c
  have hne' := fun e => opp_ne c (Eq.symm e)
  have HV := Lib.hid hval
  have HN := Lib.hid h1
  have HN' := Lib.hid h2
  clear h h1 h2 hg4 hg5 hval hsm
  generalize hcc : opp c = c' at *
  have HCC := Lib.hid hcc
  clear hcc
  have HO := Lib.hid (set2 HM.out HV.out c c')
  generalize htv : (F .trail).v = tv at *
  have HTV := Lib.hid htv
  clear htv
  obtain ⟨i0, hi, hz0, hz1, hz2⟩ := info_parts infoI
  go_enter Try.func56, Try.ntmps56
  go_wp2
  go_region
  go_wp2_with (at_builtin; refine wpList_append_own_at _ rfl _ _ 29 rfl B 3 i0 (.int .i64 0) 1 8 Try.underlying29 hi hz0 hz1 hz2 rfl (by decide) tv s.trail.length (s.trail.map iv) rfl ?c0 ⟨w.heap.size, 0, none⟩ 1 1 [.int .i64 c] rfl rfl ?c1 ?c2 ?c3 ?c4 ?c5 ?_)
  case c0 => exact ((HO.out _ _).1.drew.alloc _).at .trail (by simp [upd, HM.out.te, tx, ty]) (by simp [upd, HTV.out]) (by simp) (by simp [upd, HM.out.trail])
  case c1 => exact new_oneD _ _ _ (by simp)
  case c2 => simp [Value.oneCell']
  case c3 => unfold maxLen; omega
  case c4 => omega
  case c5 => simp; omega
  intro v' w1 hown1 hgrow1 _ hat
  have hO1 := ((HO.out (.int .i8 1) (.int .i8 (-1))).1.drew.alloc (.cells #[.int .i64 c] 3)).step .trail ⟨3, v', s.trail.map iv ++ [iv c]⟩ (by simp only [upd]; rw [if_neg (by decide), HTV.out]; exact hgrow1) (by simpa [iv] using hown1) (by
    simp only [upd]; rw [if_neg (by decide), HTV.out]
    rcases hat with hat | hat
    · exact .inl hat
    · exact .inr (.inr ⟨_, hat, by simp⟩))
  have hW1 : Whole w1 bp 68 [lv, iv first, (F .rows).v, (F .on).v, va, (F .short).v, (F .watches).v, (F .value).v, (F .trail).v] := by
    have a1 := HM.out.obj.kept (HO.out (.int .i8 1) (.int .i8 (-1))).2 (by intro e; cases e; exact hg3 rfl)
    have a2 := (a1.below (Below.refl _ _).drew a1.lt).below ((Below.refl _ _).alloc (Nat.le_refl _) (.cells #[.int .i64 c] 3)) a1.lt
    exact a2.kept hgrow1 (by rw [← HTV.out]; exact HM.out.ne .trail)
  have p7 : w1.cell? ⟨bp, 7, none⟩ = some (.slice (some ⟨g, 0, none⟩) nv cap) := by rw [← HV.out]; exact hW1.cell 7
  have p8 : w1.cell? ⟨bp, 8, none⟩ = some tv := by rw [← HTV.out]; exact hW1.cell 8
  have y8 := hW1.frozen 8
  have qc : w1.cell? ⟨g, c, none⟩ = some (.int .i8 1) := by
    have hvv : (upd (upd F .value ⟨(F .value).e, (F .value).v, ((F .value).xs.set c (.int .i8 1)).set c' (.int .i8 (-1))⟩) .trail ⟨3, v', s.trail.map iv ++ [iv c]⟩ .value).v = .slice (some ⟨g, 0, none⟩) nv cap := by simp [upd, HV.out]
    rw [hO1.cell hvv c (by simp [upd, HM.out.value, hc])]
    simp [upd, HM.out.value, List.getElem?_set, hne, hc]
  obtain ⟨g', cap', rfl, _, _, _, _⟩ := own_form hown1 (by omega)
  have HO1 := Lib.hid hO1
  have HW1 := Lib.hid hW1
  have HB1 : Hid (Below B w w1) := Lib.hid ((((((Below.refl B w).setCell hg1 _).setCell hg1 _).alloc (by simp; omega) _).drew).grown hgrow1 (by simp; omega) (fun k hk => ((HM.out.own.1 .trail).lt k (by rw [HTV.out]; exact hk)).1))
  have HNB : Hid ((Value.slice (some ⟨g', 0, none⟩) (s.trail.length + 1) cap').ownBlock ≠ some bp) := Lib.hid (by
    have hlt := HM.out.obj.lt
    rcases hat with hat | hat
    · rw [hat, ← HTV.out]; exact HM.out.ne .trail
    · rw [hat]; intro e; simp at e; omega)
  clear hO1 hW1 hown1 hgrow1 hat f7 f8 z8 q1 q2 z1 z2
  go_wp2
  go_ret
  refine ⟨rfl, HB1.out.setCell HM.out.hB _, va, _, set_mem HM.out HV.out HN.out (by rw [HCC.out]; exact HN'.out) (by rw [HCC.out]; exact HO1.out) HW1.out HNB.out, fun k hk => ?_⟩
  rw [upd_other _ _ hk]
  by_cases e2 : k = .value
  · subst e2; rw [upd_same]
  · rw [upd_other _ _ e2]
end Go.Proofs.Ytojjjndhabjhdaa.proofA
