/-
  Plain: literals in order, and propagation clause by clause, as the reference does it.
  The prover's memory; contracts of proof.codeOf, isLiteral, (*prover).set.
  Contract of (*prover).move.
  What holds while (*prover).follow goes on.
  Contract of (*prover).follow.
-/
import Derived.Test.YtojjjndhabjhdaaDoorFaM
import Derived.Test.YtojjjndhabjhdaaDoorChecked
import Derived.Test.YtojjjndhabjhdaaDoorFbM
import Derived.WalkKit
import Derived.ProofKit
import Derived.WalkLawsBesides
import Derived.WalkSpells
import Derived.Laws.Bits64
import Derived.RegionTactic
import Derived.BigRegion
import Derived.ChangeAlike
import Derived.IntWalk
import Derived.OwnWalk
import Derived.Outline
import Derived.Deep.RegionLaw
import Derived.Deep.AppendLies
import Derived.Deep.DrawnRows
import Derived.Laws.Pointers
import Derived.Deep.QuietTactic
import Derived.BigQuiet
import Derived.Deep.DeepCutAuto
import Derived.Carry
namespace Go.Proofs.YtojjjndhabjhdaaDoor.proofR
set_option linter.unusedSimpArgs false
set_option linter.unusedVariables false
open proofP proofQ

def less (a b : Int) : Bool := decide (a.natAbs < b.natAbs) || (decide (a.natAbs = b.natAbs) && decide (a < b))
theorem less_iff {a b : Int} : less a b = true ↔ a.natAbs < b.natAbs ∨ (a.natAbs = b.natAbs ∧ a < b) := by simp [less]
theorem less_irr (a : Int) : less a a = false := by simp [less]
theorem less_trans {a b c : Int} (h : less a b = true) (h' : less b c = true) : less a c = true := by rw [less_iff] at *; omega
theorem less_tri {a b : Int} (h : less a b = false) (hne : a ≠ b) : less b a = true := by
  rw [less_iff]
  have : ¬ (a.natAbs < b.natAbs ∨ (a.natAbs = b.natAbs ∧ a < b)) := fun hh => by rw [← less_iff] at hh; rw [h] at hh; cases hh
  omega
def put : List Int → Int → List Int
  | [], x => [x]
  | y :: t, x => if less y x = true then y :: put t x else if y = x then y :: t else x :: y :: t
theorem mem_put (l : List Int) (x z : Int) : z ∈ put l x ↔ z ∈ l ∨ z = x := by
  induction l with
  | nil => simp [put]
  | cons y t ih =>
    unfold put
    split
    · simp [ih, or_assoc]
    · split
      · rename_i _ e; subst e
        simp
        intro e; exact .inl e
      · simp only [List.mem_cons]
        constructor
        · rintro (h | h)
          · exact .inr h
          · exact .inl h
        · rintro (h | h)
          · exact .inr h
          · exact .inl h
def Srt (l : List Int) : Prop := l.Pairwise fun a b => less a b = true
theorem srt_put {l : List Int} (h : Srt l) (x : Int) : Srt (put l x) := by
  induction l with
  | nil => simp [put, Srt]
  | cons y t ih =>
    have h' := List.pairwise_cons.1 h
    unfold put
    split
    · rename_i hl
      refine List.pairwise_cons.2 ⟨fun z hz => ?_, ih h'.2⟩
      rcases (mem_put t x z).1 hz with hz | rfl
      · exact h'.1 z hz
      · exact hl
    · rename_i hl
      split
      · exact h
      · rename_i hne
        refine List.pairwise_cons.2 ⟨fun z hz => ?_, h⟩
        have hxy := less_tri (Bool.eq_false_iff.2 hl) hne
        rcases List.mem_cons.1 hz with rfl | hz
        · exact hxy
        · exact less_trans hxy (h'.1 z hz)
theorem srt_nodup {l : List Int} (h : Srt l) : l.Nodup := by
  unfold List.Nodup
  refine List.Pairwise.imp ?_ h
  intro a b hab e
  subst e
  rw [less_irr] at hab; cases hab
theorem put_len {l : List Int} {x : Int} (h : x ∉ l) : (put l x).length = l.length + 1 := by
  induction l with
  | nil => simp [put]
  | cons y t ih =>
    unfold put
    split
    · simp [ih (fun hh => h (by simp [hh]))]
    · split
      · rename_i _ e; exact absurd (by simp [e]) h
      · simp
theorem nodup_map_code {l : List Int} (h : l.Nodup) (hl : ∀ x ∈ l, lit x) : (l.map code).Nodup := by
  unfold List.Nodup
  rw [List.pairwise_map]
  refine List.Pairwise.imp_of_mem ?_ h
  intro a b ha hb hne e
  apply hne
  rw [← litOf_code a (hl a ha), e, litOf_code b (hl b hb)]
theorem srt_bound {l : List Int} (h : Srt l) (hl : ∀ x ∈ l, lit x) : l.length ≤ 40002 := by
  have := nodup_bound (nodup_map_code (srt_nodup h) hl) (m := 40002) (fun x hx => by
    obtain ⟨y, hy, rfl⟩ := List.mem_map.1 hx
    exact (code_rng y (hl y hy)).2)
  simpa using this

structure RI (cl : List (List Int)) (fr set : List Int) : Prop where
  srt : Srt set
  lits : ∀ l ∈ set, lit l
  con : ∀ l ∈ set, -l ∉ set
  der : ∀ l ∈ set, Der cl fr l
theorem RI.nil (cl : List (List Int)) (fr : List Int) : RI cl fr [] := ⟨List.Pairwise.nil, by simp, by simp, by simp⟩
theorem RI.more {cl : List (List Int)} {fr set : List Int} (h : RI cl fr set) {x : Int} (hl : lit x) (h2 : -x ∉ set) (hd : Der cl fr x) : RI cl fr (put set x) := by
  refine ⟨srt_put h.srt x, fun l hm => ?_, fun l hm hn => ?_, fun l hm => ?_⟩
  · rcases (mem_put _ _ _).1 hm with hm | rfl
    · exact h.lits l hm
    · exact hl
  · rcases (mem_put _ _ _).1 hm with hm | e1 <;> rcases (mem_put _ _ _).1 hn with hn | e2
    · exact h.con l hm hn
    · rw [← e2, Int.neg_neg] at h2; exact h2 hm
    · rw [e1] at hn; exact h2 hn
    · unfold lit at hl; omega
  · rcases (mem_put _ _ _).1 hm with hm | rfl
    · exact h.der l hm
    · exact hd
theorem RI.fail {cl : List (List Int)} {fr set : List Int} (h : RI cl fr set) {x : Int} (hx : x ∈ fr) (hl : lit x) (h2 : -x ∈ set) : Clash cl fr := .inl ⟨x, .start hx hl, h.der _ h2⟩
theorem RI.len {cl : List (List Int)} {fr set : List Int} (h : RI cl fr set) : set.length ≤ 40002 := srt_bound h.srt h.lits

/-- a clause's literals that are not refuted, in order; whether one is set -/
def lefts (set c : List Int) : List Int := c.foldl (fun acc l => if lit l ∧ -l ∉ set then put acc l else acc) []
def isDone (set c : List Int) : Bool := c.any fun l => decide (lit l ∧ l ∈ set)
theorem mem_foldl (set : List Int) : ∀ (c acc : List Int) (x : Int), x ∈ c.foldl (fun acc l => if lit l ∧ -l ∉ set then put acc l else acc) acc ↔ x ∈ acc ∨ (x ∈ c ∧ lit x ∧ -x ∉ set)
  | [], acc, x => by simp
  | y :: c, acc, x => by
    rw [List.foldl_cons, mem_foldl set c]
    by_cases h : lit y ∧ -y ∉ set
    · rw [if_pos h, mem_put]
      constructor
      · rintro ((h1 | h1) | h1)
        · exact .inl h1
        · subst h1; exact .inr ⟨by simp, h⟩
        · exact .inr ⟨by simp [h1.1], h1.2⟩
      · rintro (h1 | ⟨h1, h2⟩)
        · exact .inl (.inl h1)
        · rcases List.mem_cons.1 h1 with h1 | h1
          · exact .inl (.inr h1)
          · exact .inr ⟨h1, h2⟩
    · rw [if_neg h]
      constructor
      · rintro (h1 | h1)
        · exact .inl h1
        · exact .inr ⟨by simp [h1.1], h1.2⟩
      · rintro (h1 | ⟨h1, h2⟩)
        · exact .inl h1
        · rcases List.mem_cons.1 h1 with h1 | h1
          · subst h1; exact absurd h2 h
          · exact .inr ⟨h1, h2⟩
theorem mem_lefts (set c : List Int) (x : Int) : x ∈ lefts set c ↔ x ∈ c ∧ lit x ∧ -x ∉ set := by
  unfold lefts; rw [mem_foldl]; simp
theorem isDone_iff (set c : List Int) : isDone set c = true ↔ ∃ l ∈ c, lit l ∧ l ∈ set := by simp [isDone]

def ClosedC (set c : List Int) : Prop := (∃ l ∈ c, lit l ∧ l ∈ set) ∨ ∃ a ∈ c, ∃ b ∈ c, lit a ∧ lit b ∧ a ≠ b ∧ -a ∉ set ∧ -b ∉ set
theorem der_left {cl : List (List Int)} {fr set c : List Int} (h : RI cl fr set) (hc : c ∈ cl) {x : Int} (hx : x ∈ c) (hl : lit x) (ho : ∀ y ∈ lefts set c, y = x) : Der cl fr x := by
  refine .unit hc hx hl fun y hy hly hne => ?_
  by_cases hn : -y ∈ set
  · exact h.der _ hn
  · exact absurd (ho y ((mem_lefts set c y).2 ⟨hy, hly, hn⟩)) hne
theorem RI.one {cl : List (List Int)} {fr set c : List Int} (h : RI cl fr set) (hc : c ∈ cl) {x : Int} (h1 : lefts set c = [x]) (hd : isDone set c = false) : RI cl fr (put set x) ∧ (put set x).length = set.length + 1 := by
  obtain ⟨hm, hl, hn⟩ := (mem_lefts set c x).1 (by rw [h1]; simp)
  refine ⟨h.more hl hn (der_left h hc hm hl (by rw [h1]; simp)), put_len fun hin => ?_⟩
  have : isDone set c = true := (isDone_iff set c).2 ⟨x, hm, hl, hin⟩
  rw [hd] at this; cases this
end Go.Proofs.YtojjjndhabjhdaaDoor.proofR
namespace Go.Proofs.YtojjjndhabjhdaaDoor.proofA
set_option linter.unusedSimpArgs false
set_option linter.unusedVariables false
open Go.ChangeShapes Go.WideShapes Go.ChangeAt Go.RowKit proofP proofQ owns

def iv (n : Nat) : Value := .int .i64 (n : Int)
inductive Ix where
  | on | always | short | rows | watches | value | trail | row (i : Nat) | watch (c : Nat) | extra
deriving DecidableEq
def ty : Ix → TypeId
  | .on => 4 | .always => 4 | .short => 3 | .rows => 23 | .watches => 23 | .value => 70 | .trail => 3 | .row _ => 3 | .watch _ => 3 | .extra => 3
/-- .. where one more row, which is not the prover's, has another type -/
def tx (t : TypeId) : Ix → TypeId
  | .extra => t
  | k => ty k

structure PS where
  n : Nat
  m : Nat
  row : Nat → List Nat
  W : Nat → List Nat
  on : Nat → Bool
  short : List Nat
  trail : List Nat
  /-- a row that lies beside the prover's -/
  extra : Ent := ⟨3, .slice none 0 0, []⟩

structure Mem (w : World) (B bp : Nat) (lv va : Value) (first nv : Nat) (s : PS) (F : Ix → Ent) : Prop where
  own : Owns w B F
  obj : Whole w bp 89 [lv, iv first, (F .rows).v, (F .on).v, va, (F .short).v, (F .watches).v, (F .value).v, (F .trail).v]
  hx : B ≤ bp ∧ F .extra = s.extra
  ne : ∀ k, (F k).v.ownBlock ≠ some bp
  te : ∀ k, (F k).e = tx s.extra.e k
  on : (F .on).xs = (List.range s.n).map fun i => .bool (s.on i)
  short : (F .short).xs = s.short.map iv
  rows : (F .rows).xs = (List.range s.n).map fun i => (F (.row i)).v
  watches : (F .watches).xs = (List.range s.m).map fun c => (F (.watch c)).v
  value : (F .value).xs = (List.range nv).map fun c => .int .i8 (val s.trail c)
  trail : (F .trail).xs = s.trail.map iv
  row : ∀ i, (F (.row i)).xs = (s.row i).map iv
  watch : ∀ c, (F (.watch c)).xs = (s.W c).map iv
theorem Mem.hB {w : World} {B bp : Nat} {lv va : Value} {first nv : Nat} {s : PS} {F : Ix → Ent} (h : Mem w B bp lv va first nv s F) : B ≤ bp := h.hx.1

theorem infoI : (Tryd.prog.info? 3).map (fun i => (i.zero, i.size, i.bytes)) = some (some (.int .i64 0), 1, 8) := by kernel_rfl


theorem ofIntNat (a : Nat) (ha : a < 9223372036854775808) : (BitVec.ofInt 64 (a : Int)).toNat = a := by
  rw [BitVec.ofInt_natCast, BitVec.toNat_ofNat]; exact Nat.mod_eq_of_lt (by omega)
theorem nat_xor1 (c : Nat) : c ^^^ 1 = opp c := by
  have h1 : (c ^^^ 1) / 2 = c / 2 := by rw [Nat.xor_div_two]; simp
  have h2 : (c ^^^ 1) % 2 = (c + 1) % 2 := by
    have := Nat.xor_mod_two_eq_one (a := c) (b := 1)
    omega
  unfold opp
  split <;> omega
theorem nat_or1 (c : Nat) : c ||| 1 = if c % 2 = 0 then c + 1 else c := by
  have h1 : (c ||| 1) / 2 = c / 2 := by rw [Nat.or_div_two]; simp
  have h2 : (c ||| 1) % 2 = 1 := by rw [Nat.or_mod_two_eq_one]; simp
  split <;> omega
theorem wrapNat (n : Nat) (h : n < 9223372036854775808) : IntKind.i64.wrap (n : Int) = (n : Int) := IntWalk.i64_in _ (by omega)
theorem xor1 (c : Nat) (h : c < 4611686018427387904) : bits .xor .i64 (c : Int) 1 = ((opp c : Nat) : Int) := by
  show IntKind.i64.wrap ((BitVec.ofInt 64 (c : Int) ^^^ BitVec.ofInt 64 ((1 : Nat) : Int)).toNat : Int) = _
  rw [BitVec.toNat_xor, ofIntNat c (by omega), ofIntNat 1 (by omega), nat_xor1]
  refine wrapNat _ ?_
  unfold opp; split <;> omega
theorem or1 (c : Nat) (h : c < 4611686018427387904) : bits .or .i64 (c : Int) 1 = ((if c % 2 = 0 then c + 1 else c : Nat) : Int) := by
  show IntKind.i64.wrap ((BitVec.ofInt 64 (c : Int) ||| BitVec.ofInt 64 ((1 : Nat) : Int)).toNat : Int) = _
  rw [BitVec.toNat_or, ofIntNat c (by omega), ofIntNat 1 (by omega), nat_or1]
  refine wrapNat _ ?_
  split <;> omega

theorem ret_int {k : IntKind} {a b : Int} (h : a = b) : Ending.returned (.int k a) = .returned (.int k b) := by rw [h]
theorem codeOf_lit (l : Int) (w : World) (hl : lit l) : Calls Tryd.prog 74 #[.int .i64 l] w fun e w' => e = .returned (.int .i64 (code l : Nat)) ∧ w = w' := by
  have h1 : -20000 ≤ l := hl.2.1
  have h2 : l ≤ 20000 := hl.2.2
  have HC : Hid ((l < 0 → ((code l : Nat) : Int) = -2 * l) ∧ (¬ l < 0 → ((code l : Nat) : Int) = 2 * l + 1)) := Lib.hid ⟨fun h => by unfold code; rw [if_pos h]; omega, fun h => by unfold code; rw [if_neg h]; omega⟩
  clear hl
  by_cases h : l < 0
  · have H1 := Lib.hid (HC.out.1 h)
    clear HC
    go_enter Tryd.func74, Tryd.ntmps74
    go_wp2
    go_ret
    exact ⟨ret_int (by rw [H1.out]), rfl⟩
  · have H1 := Lib.hid (HC.out.2 h)
    clear HC
    go_enter Tryd.func74, Tryd.ntmps74
    go_wp2
    go_ret
    exact ⟨ret_int (by rw [H1.out]), rfl⟩
theorem isLit_yes (l : Int) (w : World) (hl : lit l) : Calls Tryd.prog 73 #[.int .i64 l] w fun e w' => e = .returned (.bool true) ∧ w = w' := by
  have h0 : (l != 0) = true := by simpa using hl.1
  have h1 : -20000 ≤ l := hl.2.1
  have h2 : l ≤ 20000 := hl.2.2
  clear hl
  go_enter Tryd.func73, Tryd.ntmps73
  go_wp2
  go_ret
  exact ⟨rfl, rfl⟩
theorem isLit_no (l : Int) (w : World) (hl : ¬ lit l) : Calls Tryd.prog 73 #[.int .i64 l] w fun e w' => e = .returned (.bool false) ∧ w = w' := by
  by_cases h0 : l = 0
  · subst h0
    go_enter Tryd.func73, Tryd.ntmps73
    go_wp2
    go_ret
    exact ⟨rfl, rfl⟩
  · by_cases h1 : -20000 ≤ l
    · have h2 : ¬ l ≤ 20000 := fun h => hl ⟨h0, h1, h⟩
      clear hl
      go_enter Tryd.func73, Tryd.ntmps73
      go_wp2
      go_ret
      exact ⟨rfl, rfl⟩
    · clear hl
      go_enter Tryd.func73, Tryd.ntmps73
      go_wp2
      go_ret
      exact ⟨rfl, rfl⟩

theorem Mem.field {w : World} {B bp : Nat} {lv va : Value} {first nv : Nat} {s : PS} {F : Ix → Ent} (h : Mem w B bp lv va first nv s F) :
    w.cell? ⟨bp, 0, none⟩ = some lv ∧ w.cell? ⟨bp, 1, none⟩ = some (.int .i64 first) ∧ w.cell? ⟨bp, 2, none⟩ = some (F .rows).v ∧ w.cell? ⟨bp, 3, none⟩ = some (F .on).v ∧ w.cell? ⟨bp, 5, none⟩ = some (F .short).v ∧ w.cell? ⟨bp, 6, none⟩ = some (F .watches).v ∧
      w.cell? ⟨bp, 7, none⟩ = some (F .value).v ∧ w.cell? ⟨bp, 8, none⟩ = some (F .trail).v :=
  ⟨h.obj.cell 0, h.obj.cell 1, h.obj.cell 2, h.obj.cell 3, h.obj.cell 5, h.obj.cell 6, h.obj.cell 7, h.obj.cell 8⟩
/-- the values' row -/
theorem Mem.vals {w : World} {B bp : Nat} {lv va : Value} {first nv : Nat} {s : PS} {F : Ix → Ent} (h : Mem w B bp lv va first nv s F) (hn : 0 < nv) :
    ∃ g cap, (F .value).v = .slice (some ⟨g, 0, none⟩) nv cap ∧ B ≤ g ∧ g < w.heap.size ∧ g ≠ bp ∧ (∀ c, c < nv → w.cell? ⟨g, c, none⟩ = some (.int .i8 (val s.trail c))) ∧ ∀ c, w.frozen? ⟨g, c, none⟩ = false := by
  have hl : (F .value).xs.length = nv := by rw [h.value]; simp
  obtain ⟨g, cap, hv, h1, h2, _, _⟩ := h.own.form .value (by omega)
  rw [hl] at hv
  refine ⟨g, cap, hv, h1, h2, ?_, fun c hc => ?_, fun c => h.own.frozen hv c⟩
  · intro e; exact h.ne .value (by rw [hv, e]; rfl)
  · rw [h.own.cell hv c (by omega), h.value]; simp [hc]

/-- the present trail with a code, if it is open -/
def setT (trail : List Nat) (c : Nat) : List Nat := if c ∈ trail ∨ opp c ∈ trail then trail else trail ++ [c]

theorem val_snoc {trail : List Nat} {c : Nat} (h : c ∉ trail) (h' : opp c ∉ trail) (x : Nat) : val (trail ++ [c]) x = if x = c then 1 else if x = opp c then -1 else val trail x := by
  unfold val
  by_cases e1 : x = c
  · subst e1; simp
  · rw [if_neg e1]
    by_cases e2 : x = opp c
    · rw [e2, if_pos rfl, opp_opp]
      have h2 : ¬ (opp c ∈ trail ++ [c]) := by simp [h', opp_ne]
      rw [if_neg h2, if_pos (by simp)]
    · rw [if_neg e2]
      have : opp x ≠ c := fun e => e2 (by rw [← e, opp_opp])
      simp [e1, this]
theorem vals_snoc {trail : List Nat} {c nv : Nat} (h : c ∉ trail) (h' : opp c ∉ trail) : (((List.range nv).map fun c => Value.int .i8 (val trail c)).set c (.int .i8 1)).set (opp c) (.int .i8 (-1)) = (List.range nv).map fun x => .int .i8 (val (trail ++ [c]) x) := by
  apply List.ext_getElem?
  intro j
  rw [List.getElem?_set, List.getElem?_set]
  simp only [List.length_set, List.length_map, List.length_range, List.getElem?_map, List.getElem?_range]
  by_cases hj : j < nv
  · rw [List.getElem?_range hj]
    simp only [Option.map_some]
    rw [val_snoc h h']
    by_cases e2 : opp c = j
    · rw [if_pos e2, e2, if_pos hj]
      subst e2
      rw [if_neg (opp_ne c), if_pos rfl]
    · rw [if_neg e2]
      by_cases e1 : c = j
      · subst e1; simp [hj]
      · rw [if_neg e1, if_neg (fun e => e1 e.symm), if_neg (fun e => e2 e.symm)]
  · rw [List.getElem?_eq_none (by simp; omega)]
    by_cases e2 : opp c = j
    · rw [if_pos e2, if_neg (by omega)]; rfl
    · rw [if_neg e2]
      by_cases e1 : c = j
      · rw [if_pos e1, if_neg (by omega)]; rfl
      · rw [if_neg e1]; rfl

/-- two values written -/
theorem set2 {w : World} {B bp : Nat} {lv va : Value} {first nv : Nat} {s : PS} {F : Ix → Ent} (h : Mem w B bp lv va first nv s F) {g cap : Nat} (hv : (F .value).v = .slice (some ⟨g, 0, none⟩) nv cap) (c c' : Nat) (x y : Value) :
    Owns ((w.setCell ⟨g, c, none⟩ x).setCell ⟨g, c', none⟩ y) B (upd F .value ⟨(F .value).e, (F .value).v, ((F .value).xs.set c x).set c' y⟩) ∧ w.grownBy ((w.setCell ⟨g, c, none⟩ x).setCell ⟨g, c', none⟩ y) (some g) := by
  obtain ⟨a1, a2⟩ := h.own.set hv c x
  obtain ⟨b1, b2⟩ := a1.set (k := .value) (by rw [upd_same]; exact hv) c' y
  refine ⟨b1.alike fun k => ?_, ⟨rfl, rfl, rfl, by simp, fun k hk hne => (b2.block k (by simpa using hk) hne).trans (a2.block k hk hne)⟩⟩
  by_cases e : k = .value
  · subst e; rw [upd_same, upd_same, upd_same]
  · rw [upd_other _ _ e, upd_other _ _ e, upd_other _ _ e]
theorem new_one (w : World) (x : Value) (t : TypeId) : ∀ j u, [x][j]? = some u → (w.alloc (.cells #[x] t)).cell? ((⟨w.heap.size, 0, none⟩ : Addr).add j) = some u := by
  intro j u h
  rcases j with _ | j
  · simp at h; subst h
    simp [Addr.add]
  · simp at h
theorem new_oneD (w : World) (x : Value) (t : TypeId) {n : Nat} (hn : w.heap.size = n) : ∀ j u, [x][j]? = some u → (w.alloc (.cells #[x] t)).drew.cell? ((⟨n, 0, none⟩ : Addr).add j) = some u := by
  subst hn; exact new_one w x t
theorem set_mem {w w1 : World} {B bp : Nat} {lv va v' : Value} {first nv : Nat} {s : PS} {F : Ix → Ent} (h : Mem w B bp lv va first nv s F) {g cap : Nat} (hv : (F .value).v = .slice (some ⟨g, 0, none⟩) nv cap) {c : Nat} (h1 : c ∉ s.trail) (h2 : opp c ∉ s.trail)
    (ho : Owns w1 B (upd (upd F .value ⟨(F .value).e, (F .value).v, ((F .value).xs.set c (.int .i8 1)).set (opp c) (.int .i8 (-1))⟩) .trail ⟨3, v', s.trail.map iv ++ [iv c]⟩))
    (hw : Whole w1 bp 89 [lv, iv first, (F .rows).v, (F .on).v, va, (F .short).v, (F .watches).v, (F .value).v, (F .trail).v]) (hne : v'.ownBlock ≠ some bp) :
    Mem (w1.setCell ⟨bp, 8, none⟩ v') B bp lv va first nv { s with trail := s.trail ++ [c] } (upd (upd F .value ⟨(F .value).e, (F .value).v, ((F .value).xs.set c (.int .i8 1)).set (opp c) (.int .i8 (-1))⟩) .trail ⟨3, v', s.trail.map iv ++ [iv c]⟩) := by
  obtain ⟨hw', hg'⟩ := hw.set 8 v'
  have hnk : ∀ k, (upd (upd F .value ⟨(F .value).e, (F .value).v, ((F .value).xs.set c (.int .i8 1)).set (opp c) (.int .i8 (-1))⟩) .trail ⟨3, v', s.trail.map iv ++ [iv c]⟩ k).v.ownBlock ≠ some bp := by
    intro k
    by_cases e : k = .trail
    · subst e; rw [upd_same]; exact hne
    · rw [upd_other _ _ e]
      by_cases e2 : k = .value
      · subst e2; rw [upd_same]; exact h.ne .value
      · rw [upd_other _ _ e2]; exact h.ne k
  refine ⟨ho.apart hg' (fun k b hk e => hnk k (by rw [hk]; exact e.symm)), ?_, h.hx, hnk, fun k => ?_, ?_, ?_, ?_, ?_, ?_, ?_, fun i => ?_, fun i => ?_⟩
  · simpa [upd] using hw'
  · by_cases e : k = .trail
    · subst e; rw [upd_same]; rfl
    · rw [upd_other _ _ e]
      by_cases e2 : k = .value
      · subst e2; rw [upd_same]; exact h.te .value
      · rw [upd_other _ _ e2]; exact h.te k
  · simp [upd, h.on]
  · simp [upd, h.short]
  · simp [upd, h.rows]
  · simp [upd, h.watches]
  · rw [upd_other _ _ (by decide), upd_same, h.value]
    exact vals_snoc h1 h2
  · simp [upd]
  · simp [upd, h.row]
  · simp [upd, h.watch]
/-- what a call leaves -/
def After (B bp : Nat) (lv : Value) (first nv : Nat) (s : PS) (K : Ix → Prop) (F : Ix → Ent) (w w' : World) : Prop := Below B w w' ∧ ∃ va F', Mem w' B bp lv va first nv s F' ∧ ∀ k, K k → (F' k).v = (F k).v

set_option maxHeartbeats 1000000 in
set_option maxRecDepth 100000 in
theorem set_known (B bp : Nat) (lv va : Value) (first nv : Nat) (s : PS) (F : Ix → Ent) (w : World) (h : Mem w B bp lv va first nv s F) (c : Nat) (hc : c < nv) (b : Bool) (v : Int) (hv : val s.trail c = v) (hb : (v = 1 ∧ b = true) ∨ (v = -1 ∧ b = false)) :
    Calls Tryd.prog 90 #[.pointer (some ⟨bp, 0, none⟩), .int .i64 c] w fun e w' => e = .returned (.bool b) ∧ w = w' := by
  obtain ⟨g, cap, hval, h1, h2, h3, h4, h5⟩ := h.vals (by omega)
  have f7 := h.field.2.2.2.2.2.2.1
  rw [hval] at f7
  have q := h4 c hc
  rw [hv] at q
  clear h h4 h5 hval h3 hv
  rcases hb with ⟨rfl, rfl⟩ | ⟨rfl, rfl⟩
  · go_enter Tryd.func90, Tryd.ntmps90
    go_wp2
    go_ret
    exact ⟨rfl, rfl⟩
  · go_enter Tryd.func90, Tryd.ntmps90
    go_wp2
    go_ret
    exact ⟨rfl, rfl⟩

set_option maxHeartbeats 1000000 in
set_option maxRecDepth 100000 in
theorem set_open (B bp : Nat) (lv va : Value) (first nv : Nat) (s : PS) (F : Ix → Ent) (w : World) (h : Mem w B bp lv va first nv s F) (c : Nat) (hc : c < nv) (hc' : opp c < nv) (hsm : c < 4611686018427387904) (hl : s.trail.length ≤ 100000) (h1 : c ∉ s.trail) (h2 : opp c ∉ s.trail) :
    Calls Tryd.prog 90 #[.pointer (some ⟨bp, 0, none⟩), .int .i64 c] w fun e w' => e = .returned (.bool true) ∧ After B bp lv first nv { s with trail := s.trail ++ [c] } (fun k => k ≠ .trail) F w w' := by
  have HM := Lib.hid h
  obtain ⟨g, cap, hval, hg1, hg2, hg3, hg4, hg5⟩ := h.vals (by omega)
  have f7 := h.field.2.2.2.2.2.2.1
  have f8 := h.field.2.2.2.2.2.2.2
  have z8 := h.obj.frozen 8
  rw [hval] at f7
  have q1 := hg4 c hc
  have q2 := hg4 (opp c) hc'
  rw [val_zero h1 h2] at q1
  rw [val_zero h2 (by rw [opp_opp]; exact h1)] at q2
  have z1 := hg5 c
  have z2 := hg5 (opp c)
  have hx := xor1 c hsm
  have hne := opp_ne c
  have hne' := fun e => opp_ne c (Eq.symm e)
  have HV := Lib.hid hval
  have HN := Lib.hid h1
  have HN' := Lib.hid h2
  clear h h1 h2 hg4 hg5 hval hsm
  generalize hcc : opp c = c' at *
  have HCC := Lib.hid hcc
  clear hcc
  have HO := Lib.hid (set2 HM.out HV.out c c')
  generalize htv : (F .trail).v = tv at *
  have HTV := Lib.hid htv
  clear htv
  obtain ⟨i0, hi, hz0, hz1, hz2⟩ := info_parts infoI
  go_enter Tryd.func90, Tryd.ntmps90
  go_wp2
  go_region
  go_wp2_with (at_builtin; refine wpList_append_own_at _ rfl _ _ 23 rfl B 3 i0 (.int .i64 0) 1 8 Tryd.underlying23 hi hz0 hz1 hz2 rfl (by decide) tv s.trail.length (s.trail.map iv) rfl ?c0 ⟨w.heap.size, 0, none⟩ 1 1 [.int .i64 c] rfl rfl ?c1 ?c2 ?c3 ?c4 ?c5 ?_)
  case c0 => exact ((HO.out _ _).1.drew.alloc _).at .trail (by simp [upd, HM.out.te, tx, ty]) (by simp [upd, HTV.out]) (by simp) (by simp [upd, HM.out.trail])
  case c1 => exact new_oneD _ _ _ (by simp)
  case c2 => simp [Value.oneCell']
  case c3 => unfold maxLen; omega
  case c4 => omega
  case c5 => simp; omega
  intro v' w1 hown1 hgrow1 _ hat
  have hO1 := ((HO.out (.int .i8 1) (.int .i8 (-1))).1.drew.alloc (.cells #[.int .i64 c] 3)).step .trail ⟨3, v', s.trail.map iv ++ [iv c]⟩ (by simp only [upd]; rw [if_neg (by decide), HTV.out]; exact hgrow1) (by simpa [iv] using hown1) (by
    simp only [upd]; rw [if_neg (by decide), HTV.out]
    rcases hat with hat | hat
    · exact .inl hat
    · exact .inr (.inr ⟨_, hat, by simp⟩))
  have hW1 : Whole w1 bp 89 [lv, iv first, (F .rows).v, (F .on).v, va, (F .short).v, (F .watches).v, (F .value).v, (F .trail).v] := by
    have a1 := HM.out.obj.kept (HO.out (.int .i8 1) (.int .i8 (-1))).2 (by intro e; cases e; exact hg3 rfl)
    have a2 := (a1.below (Below.refl _ _).drew a1.lt).below ((Below.refl _ _).alloc (Nat.le_refl _) (.cells #[.int .i64 c] 3)) a1.lt
    exact a2.kept hgrow1 (by rw [← HTV.out]; exact HM.out.ne .trail)
  have p7 : w1.cell? ⟨bp, 7, none⟩ = some (.slice (some ⟨g, 0, none⟩) nv cap) := by rw [← HV.out]; exact hW1.cell 7
  have p8 : w1.cell? ⟨bp, 8, none⟩ = some tv := by rw [← HTV.out]; exact hW1.cell 8
  have y8 := hW1.frozen 8
  have qc : w1.cell? ⟨g, c, none⟩ = some (.int .i8 1) := by
    have hvv : (upd (upd F .value ⟨(F .value).e, (F .value).v, ((F .value).xs.set c (.int .i8 1)).set c' (.int .i8 (-1))⟩) .trail ⟨3, v', s.trail.map iv ++ [iv c]⟩ .value).v = .slice (some ⟨g, 0, none⟩) nv cap := by simp [upd, HV.out]
    rw [hO1.cell hvv c (by simp [upd, HM.out.value, hc])]
    simp [upd, HM.out.value, List.getElem?_set, hne, hc]
  obtain ⟨g', cap', rfl, _, _, _, _⟩ := own_form hown1 (by omega)
  have HO1 := Lib.hid hO1
  have HW1 := Lib.hid hW1
  have HB1 : Hid (Below B w w1) := Lib.hid ((((((Below.refl B w).setCell hg1 _).setCell hg1 _).alloc (by simp; omega) _).drew).grown hgrow1 (by simp; omega) (fun k hk => ((HM.out.own.1 .trail).lt k (by rw [HTV.out]; exact hk)).1))
  have HNB : Hid ((Value.slice (some ⟨g', 0, none⟩) (s.trail.length + 1) cap').ownBlock ≠ some bp) := Lib.hid (by
    have hlt := HM.out.obj.lt
    rcases hat with hat | hat
    · rw [hat, ← HTV.out]; exact HM.out.ne .trail
    · rw [hat]; intro e; simp at e; omega)
  clear hO1 hW1 hown1 hgrow1 hat f7 f8 z8 q1 q2 z1 z2
  go_wp2
  go_ret
  refine ⟨rfl, HB1.out.setCell HM.out.hB _, va, _, set_mem HM.out HV.out HN.out (by rw [HCC.out]; exact HN'.out) (by rw [HCC.out]; exact HO1.out) HW1.out HNB.out, fun k hk => ?_⟩
  rw [upd_other _ _ hk]
  by_cases e2 : k = .value
  · subst e2; rw [upd_same]
  · rw [upd_other _ _ e2]
end Go.Proofs.YtojjjndhabjhdaaDoor.proofA
namespace Go.Proofs.YtojjjndhabjhdaaDoor.proofB
set_option linter.unusedSimpArgs false
set_option linter.unusedVariables false
open Go.ChangeShapes Go.WideShapes Go.ChangeAt Go.RowKit proofP proofQ owns proofA
attribute [local go_sem ↓] Go.wp_at_zero Go.wp_at_succ

section
variable {w : World} {B bp : Nat} {lv va : Value} {first nv : Nat} {s : PS} {F : Ix → Ent}

theorem _root_.Go.Proofs.YtojjjndhabjhdaaDoor.proofA.Mem.rowsAt (h : Mem w B bp lv va first nv s F) (hn : 0 < s.n) : ∃ g cap, (F .rows).v = .slice (some ⟨g, 0, none⟩) s.n cap ∧ ∀ i, i < s.n → w.cell? ⟨g, i, none⟩ = some (F (.row i)).v := by
  have hl : (F .rows).xs.length = s.n := by rw [h.rows]; simp
  obtain ⟨g, cap, hv, h1, h2, _, _⟩ := h.own.form .rows (by omega)
  rw [hl] at hv
  exact ⟨g, cap, hv, fun i hi => by rw [h.own.cell hv i (by omega), h.rows]; simp [hi]⟩
theorem _root_.Go.Proofs.YtojjjndhabjhdaaDoor.proofA.Mem.onAt (h : Mem w B bp lv va first nv s F) (hn : 0 < s.n) : ∃ g cap, (F .on).v = .slice (some ⟨g, 0, none⟩) s.n cap ∧ ∀ i, i < s.n → w.cell? ⟨g, i, none⟩ = some (.bool (s.on i)) := by
  have hl : (F .on).xs.length = s.n := by rw [h.on]; simp
  obtain ⟨g, cap, hv, h1, h2, _, _⟩ := h.own.form .on (by omega)
  rw [hl] at hv
  exact ⟨g, cap, hv, fun i hi => by rw [h.own.cell hv i (by omega), h.on]; simp [hi]⟩
theorem _root_.Go.Proofs.YtojjjndhabjhdaaDoor.proofA.Mem.watchesAt (h : Mem w B bp lv va first nv s F) (hn : 0 < s.m) : ∃ g cap, (F .watches).v = .slice (some ⟨g, 0, none⟩) s.m cap ∧ (∀ i, i < s.m → w.cell? ⟨g, i, none⟩ = some (F (.watch i)).v) ∧ g ≠ bp ∧ B ≤ g ∧ g < w.heap.size ∧ ∀ i, w.frozen? ⟨g, i, none⟩ = false := by
  have hl : (F .watches).xs.length = s.m := by rw [h.watches]; simp
  obtain ⟨g, cap, hv, h1, h2, _, _⟩ := h.own.form .watches (by omega)
  rw [hl] at hv
  exact ⟨g, cap, hv, fun i hi => by rw [h.own.cell hv i (by omega), h.watches]; simp [hi], fun e => h.ne .watches (by rw [hv, e]; rfl), h1, h2, fun i => h.own.frozen hv i⟩
theorem getD_iv {l : List Nat} {j : Nat} (hj : j < l.length) : (l.map iv)[j]? = some (.int .i64 (l.getD j 0 : Nat)) := by
  rw [List.getElem?_map, List.getElem?_eq_getElem hj, List.getD_eq_getElem?_getD, List.getElem?_eq_getElem hj]; rfl
theorem _root_.Go.Proofs.YtojjjndhabjhdaaDoor.proofA.Mem.rowAt (h : Mem w B bp lv va first nv s F) (i : Nat) (hn : 0 < (s.row i).length) : ∃ g cap, (F (.row i)).v = .slice (some ⟨g, 0, none⟩) (s.row i).length cap ∧ (∀ j, j < (s.row i).length → w.cell? ⟨g, j, none⟩ = some (.int .i64 ((s.row i).getD j 0 : Nat))) ∧ g ≠ bp ∧ B ≤ g ∧ g < w.heap.size ∧ ∀ j, w.frozen? ⟨g, j, none⟩ = false := by
  have hl : (F (.row i)).xs.length = (s.row i).length := by rw [h.row]; simp
  obtain ⟨g, cap, hv, h1, h2, _, _⟩ := h.own.form (.row i) (by omega)
  rw [hl] at hv
  exact ⟨g, cap, hv, fun j hj => by rw [h.own.cell hv j (by omega), h.row]; exact getD_iv hj, fun e => h.ne (.row i) (by rw [hv, e]; rfl), h1, h2, fun j => h.own.frozen hv j⟩
end

theorem val_lo {trail : List Nat} (h : TI trail) {x : Nat} (hx : opp x ∈ trail) : val trail x = -1 := val_neg (fun hh => h.con x hh hx) hx
theorem val_ge {trail : List Nat} {x : Nat} (hx : opp x ∉ trail) : 0 ≤ val trail x := by
  by_cases h : x ∈ trail
  · rw [val_pos h]; decide
  · rw [val_zero h hx]; decide

def moved (s : PS) (i k : Nat) : PS := { s with row := updN s.row i (sw (s.row i) 1 k), W := updN s.W ((s.row i).getD k 0) (s.W ((s.row i).getD k 0) ++ [i]) }
theorem ent_ext {a b : Ent} (e : a.e = b.e) (v : a.v = b.v) (x : a.xs = b.xs) : a = b := by cases a; cases b; simp_all
theorem watch_core {w W2 w1 : World} {B bp : Nat} {lv va : Value} {first nv : Nat} {s : PS} {F F2 : Ix → Ent} {row' : Nat → List Nat} (h : Mem w B bp lv va first nv s F) {x i gW capW gg cap : Nat} (o : Obj) (hxm : x < s.m) (hWv : (F .watches).v = .slice (some ⟨gW, 0, none⟩) s.m capW)
    (O2 : Owns W2 B F2) (G2 : Below B w W2) (he : ∀ k, (F2 k).e = (F k).e) (hv : ∀ k, (F2 k).v = (F k).v) (hx : ∀ k, (∀ j, k ≠ .row j) → (F2 k).xs = (F k).xs) (hr : ∀ j, (F2 (.row j)).xs = (row' j).map iv) (hob : Whole W2 bp 89 [lv, iv first, (F .rows).v, (F .on).v, va, (F .short).v, (F .watches).v, (F .value).v, (F .trail).v])
    (hown1 : w1.ownsRow B 3 1 (.slice (some ⟨gg, 0, none⟩) ((s.W x).length + 1) cap) ((s.W x).length + 1) ((s.W x).map iv ++ [.int .i64 i])) (hgrow : ((W2.alloc o).drew).grownBy w1 (F (.watch x)).v.ownBlock) (hat : (F (.watch x)).v.ownBlock = some gg ∨ gg = W2.heap.size + 1) :
    Below B w (w1.setCell ⟨gW, x, none⟩ (.slice (some ⟨gg, 0, none⟩) ((s.W x).length + 1) cap)) ∧ ∃ F', Mem (w1.setCell ⟨gW, x, none⟩ (.slice (some ⟨gg, 0, none⟩) ((s.W x).length + 1) cap)) B bp lv va first nv { s with row := row', W := updN s.W x (s.W x ++ [i]) } F' ∧ (∀ k, k ≠ .watch x → (F' k).v = (F k).v) ∧ F' .always = F .always := by
  have hBW : B ≤ W2.heap.size := Nat.le_trans h.hB (Nat.le_of_lt hob.lt)
  have O3 := ((O2.alloc o).drew).step (.watch x) ⟨3, .slice (some ⟨gg, 0, none⟩) ((s.W x).length + 1) cap, (s.W x).map iv ++ [.int .i64 i]⟩ (by rw [hv]; exact hgrow) (by simpa using hown1) (by
    rw [hv]
    rcases hat with hat | hat
    · exact .inl hat.symm
    · exact .inr (.inr ⟨gg, rfl, by simp; omega⟩))
  have hWv3 : (upd F2 (.watch x) ⟨3, .slice (some ⟨gg, 0, none⟩) ((s.W x).length + 1) cap, (s.W x).map iv ++ [.int .i64 i]⟩ .watches).v = .slice (some ⟨gW, 0, none⟩) s.m capW := by rw [upd_other _ _ (by simp), hv, hWv]
  obtain ⟨O4, G4⟩ := O3.set hWv3 x (.slice (some ⟨gg, 0, none⟩) ((s.W x).length + 1) cap)
  have hgW : gW ≠ bp := fun e => h.ne .watches (by rw [hWv, e]; rfl)
  have hBg : B ≤ gW := ((h.own.1 .watches).lt gW (by rw [hWv]; rfl)).1
  have hob1 : Whole w1 bp 89 [lv, iv first, (F .rows).v, (F .on).v, va, (F .short).v, (F .watches).v, (F .value).v, (F .trail).v] := by
    have a2 := hob.below (((Below.refl _ _).alloc (Nat.le_refl _) o).drew) hob.lt
    exact a2.kept hgrow (h.ne _)
  have hB1 : Below B w w1 := (((G2.alloc hBW o).drew)).grown hgrow (by simp; omega) (fun k hk => ((h.own.1 (.watch x)).lt k hk).1)
  refine ⟨hB1.setCell hBg _, _, ⟨O4, ?_, ⟨h.hx.1, (ent_ext (he .extra) (hv .extra) (hx .extra (by simp))).trans h.hx.2⟩, fun k => ?_, fun k => ?_, ?_, ?_, ?_, ?_, ?_, ?_, fun j => ?_, fun c => ?_⟩, fun k hk => ?_, ?_⟩
  rotate_right
  rotate_right
  · by_cases e1 : k = .watches
    · subst e1; rw [upd_same]; dsimp only; rw [hWv3, hWv]
    · rw [upd_other _ _ e1, upd_other _ _ hk, hv]
  · rw [upd_other _ _ (by simp), upd_other _ _ (by simp)]
    have h1 := he .always
    have h2 := hv .always
    have h3 := hx .always (by simp)
    cases hF2 : F2 .always; cases hF : F .always
    rw [hF2, hF] at h1 h2 h3
    simp only at h1 h2 h3
    rw [h1, h2, h3]
  · have a3 := hob1.kept G4 (by intro e; cases e; exact hgW rfl)
    simpa [upd, hv] using a3
  · by_cases e1 : k = .watches
    · subst e1; rw [upd_same]; dsimp only; rw [hWv3]; intro e; cases e; exact hgW rfl
    · rw [upd_other _ _ e1]
      by_cases e2 : k = .watch x
      · subst e2
        rw [upd_same]
        rcases hat with hat | hat
        · intro e; exact h.ne (.watch x) (by rw [hat]; exact e)
        · intro e
          have e' : gg = bp := by simpa [Value.ownBlock] using e
          have := hob.lt; omega
      · rw [upd_other _ _ e2, hv]; exact h.ne k
  · by_cases e1 : k = .watches
    · subst e1; rw [upd_same]; dsimp only; rw [upd_other _ _ (by simp), he]; exact h.te .watches
    · rw [upd_other _ _ e1]
      by_cases e2 : k = .watch x
      · subst e2; rw [upd_same]; rfl
      · rw [upd_other _ _ e2, he]; exact h.te k
  · simp [upd, hx, h.on]
  · simp [upd, hx, h.short]
  · simp [upd, hx, h.rows, hv]
  · rw [upd_same]
    dsimp only
    rw [upd_other _ _ (by simp), hx .watches (by simp), h.watches]
    apply List.ext_getElem?
    intro j
    rw [List.getElem?_set]
    simp only [List.length_map, List.length_range, List.getElem?_map]
    by_cases e : x = j
    · subst e
      simp only [if_true, hxm, List.getElem?_range hxm, Option.map_some]
      rw [upd_other _ _ (by simp), upd_same]
    · rw [if_neg e]
      by_cases hj : j < s.m
      · simp only [List.getElem?_range hj, Option.map_some]
        rw [upd_other _ _ (by simp), upd_other _ _ (by simp; exact fun e' => e e'.symm), hv]
      · rw [List.getElem?_eq_none (by simp; omega)]; rfl
  · simp [upd, hx, h.value]
  · simp [upd, hx, h.trail]
  · rw [upd_other _ _ (by simp), upd_other _ _ (by simp), hr]
  · rw [upd_other _ _ (by simp)]
    by_cases e : c = x
    · subst e; rw [upd_same]; dsimp only; rw [updN_same, List.map_append]; rfl
    · rw [upd_other _ _ (by simpa using e), hx _ (by simp), h.watch]; dsimp only; rw [updN_other _ _ e]
theorem watch_mem {w W2 w1 : World} {B bp : Nat} {lv va : Value} {first nv : Nat} {s : PS} {F F2 : Ix → Ent} {row' : Nat → List Nat} (h : Mem w B bp lv va first nv s F) {x i gW capW gg cap : Nat} (o : Obj) (hxm : x < s.m) (hWv : (F .watches).v = .slice (some ⟨gW, 0, none⟩) s.m capW)
    (O2 : Owns W2 B F2) (G2 : Below B w W2) (he : ∀ k, (F2 k).e = (F k).e) (hv : ∀ k, (F2 k).v = (F k).v) (hx : ∀ k, (∀ j, k ≠ .row j) → (F2 k).xs = (F k).xs) (hr : ∀ j, (F2 (.row j)).xs = (row' j).map iv) (hob : Whole W2 bp 89 [lv, iv first, (F .rows).v, (F .on).v, va, (F .short).v, (F .watches).v, (F .value).v, (F .trail).v])
    (hown1 : w1.ownsRow B 3 1 (.slice (some ⟨gg, 0, none⟩) ((s.W x).length + 1) cap) ((s.W x).length + 1) ((s.W x).map iv ++ [.int .i64 i])) (hgrow : ((W2.alloc o).drew).grownBy w1 (F (.watch x)).v.ownBlock) (hat : (F (.watch x)).v.ownBlock = some gg ∨ gg = W2.heap.size + 1) :
    After B bp lv first nv { s with row := row', W := updN s.W x (s.W x ++ [i]) } (fun k => k ≠ .watch x) F w (w1.setCell ⟨gW, x, none⟩ (.slice (some ⟨gg, 0, none⟩) ((s.W x).length + 1) cap)) := by
  obtain ⟨h1, F', h2, h3, _⟩ := watch_core (row' := row') h o hxm hWv O2 G2 he hv hx hr hob hown1 hgrow hat
  exact ⟨h1, va, F', h2, h3⟩
theorem row_sw {w : World} {B bp : Nat} {lv va : Value} {first nv : Nat} {s : PS} {F : Ix → Ent} (h : Mem w B bp lv va first nv s F) {i k x y : Nat} (hx : (s.row i).getD k 0 = x) (hy : (s.row i).getD 1 0 = y) (hk : 1 < (s.row i).length) :
    ∀ j, (upd F (.row i) ⟨(F (.row i)).e, (F (.row i)).v, ((F (.row i)).xs.set 1 (.int .i64 x)).set k (.int .i64 y)⟩ (.row j)).xs = (updN s.row i (sw (s.row i) 1 k) j).map iv := by
  intro j
  by_cases e : j = i
  · subst e
    rw [upd_same, updN_same]
    dsimp only
    rw [h.row]
    unfold sw
    rw [hx, hy, List.map_set, List.map_set]
    rfl
  · rw [upd_other _ _ (by simpa using e), updN_other _ _ e, h.row]
def MoveP (B bp : Nat) (lv : Value) (first nv : Nat) (s : PS) (F : Ix → Ent) (i : Nat) (w : World) (e : Ending) (w' : World) : Prop :=
  (∃ k, 2 ≤ k ∧ k < (s.row i).length ∧ opp ((s.row i).getD k 0) ∉ s.trail ∧ e = .returned (.bool true) ∧ After B bp lv first nv (moved s i k) (fun j => j ≠ .watch ((s.row i).getD k 0)) F w w') ∨
    ((∀ k, 2 ≤ k → k < (s.row i).length → opp ((s.row i).getD k 0) ∈ s.trail) ∧ e = .returned (.bool false) ∧ w = w')

set_option maxHeartbeats 2000000 in
set_option maxRecDepth 100000 in
theorem move_any (B bp : Nat) (lv va : Value) (first nv : Nat) (s : PS) (F : Ix → Ent) (w : World) (h : Mem w B bp lv va first nv s F) (T : TI s.trail) (i : Nat) (hi : i < s.n) (h2 : 2 ≤ (s.row i).length) (hx : ∀ x, x ∈ s.row i → x < s.m ∧ x < nv)
    (hl : (s.row i).length ≤ 100000) (hW : ∀ c, (s.W c).length ≤ 100000) :
    Calls Tryd.prog 98 #[.pointer (some ⟨bp, 0, none⟩), .int .i64 i] w (MoveP B bp lv first nv s F i w) := by
  have HM := Lib.hid h
  have HT := Lib.hid T
  have HX := Lib.hid hx
  have HW := Lib.hid hW
  obtain ⟨gR, capR, hR, hR1⟩ := h.rowsAt (by omega)
  obtain ⟨gi, capi, hI, hI1, hI2, hI3, hI4, hI5⟩ := h.rowAt i (by omega)
  have x0 := hx _ (get_mem (r := s.row i) (i := 0) (by omega))
  obtain ⟨gV, capV, hV, hV1, hV2, hV3, hV4, hV5⟩ := h.vals (by omega)
  obtain ⟨gW, capW, hWv, hW1, hW2, hW3, hW4, hW5⟩ := h.watchesAt (by omega)
  obtain ⟨f0, f1, f2, f3, f5, f6, f7, f8⟩ := h.field
  rw [hR] at f2
  rw [hV] at f7
  rw [hWv] at f6
  have r1 := hR1 i hi
  rw [hI] at r1
  have HI1 := Lib.hid hI1
  have HI5 := Lib.hid hI5
  have HV1 := Lib.hid hV4
  have HW1 := Lib.hid hW1
  have HW5 := Lib.hid hW5
  have HI := Lib.hid hI
  have HWv := Lib.hid hWv
  clear h T hx hW hR1 hI1 hI5 hV4 hV5 hW1 hW5 f0 f1 f3 f5 f8 x0 hR hI hV hWv
  generalize hL : (s.row i).length = L at *
  have HL := Lib.hid hL
  clear hL
  go_enter Tryd.func98, Tryd.ntmps98
  go_wp2
  go_loop [6] (fun q => ∃ k : Nat, 2 ≤ k ∧ k ≤ L ∧ q = .int .i64 k ∧ Hid (∀ j, 2 ≤ j → j < k → opp ((s.row i).getD j 0) ∈ s.trail)) (fun q => L - (intOf q).toNat)
  case atStart => exact ⟨2, Nat.le_refl _, h2, rfl, Lib.hid (fun j a b => by omega)⟩
  case round =>
    obtain ⟨k, hk2, hk, rfl, hg⟩ := hrel
    by_cases hlt : k < L
    · have c1 := HI1.out k hlt
      have hxx := HX.out _ (get_mem (r := s.row i) (i := k) (by rw [HL.out]; exact hlt))
      have c2 := HV1.out _ hxx.2
      by_cases ho : opp ((s.row i).getD k 0) ∈ s.trail
      · rw [val_lo HT.out ho] at c2
        have HG : Hid (∀ j, 2 ≤ j → j < k + 1 → opp ((s.row i).getD j 0) ∈ s.trail) := Lib.hid (fun j a b => by
          by_cases e : j = k
          · rw [e]; exact ho
          · exact hg.out j a (by omega))
        obtain ⟨hxm, hxv⟩ := hxx
        clear ho hg
        generalize (s.row i).getD k 0 = x at *
        go_wp2
        go_round
        case rel => exact ⟨k + 1, by omega, by omega, by go_num, HG⟩
        case measure => simp [intOf]; omega
      · have hge := val_ge ho
        have c3 := HI1.out 1 (by omega)
        have z1 := HI5.out 1
        have zk := HI5.out k
        have hk1 : ¬ (1 = k) := by omega
        have hk1' : ¬ (k = 1) := by omega
        obtain ⟨hxm, hxv⟩ := hxx
        have wx := HW1.out _ hxm
        have zx := HW5.out ((s.row i).getD k 0)
        have HO := Lib.hid (HM.out.own.set2 HI.out 1 k (iv ((s.row i).getD k 0)) (iv ((s.row i).getD 1 0)))
        have HWl := Lib.hid (HW.out ((s.row i).getD k 0))
        have HK : Hid (2 ≤ k ∧ k < (s.row i).length ∧ opp ((s.row i).getD k 0) ∉ s.trail) := Lib.hid ⟨hk2, by rw [HL.out]; exact hlt, ho⟩
        generalize hz : val s.trail ((s.row i).getD k 0) = z at *
        generalize hxe : (s.row i).getD k 0 = x at *
        generalize hye : (s.row i).getD 1 0 = y at *
        generalize hwv : (F (.watch x)).v = wv at *
        have Hxe := Lib.hid hxe
        have Hye := Lib.hid hye
        have Hwv := Lib.hid hwv
        clear hz hxe hye ho hg hwv
        obtain ⟨i0, hi0, hz0, hz1, hz2⟩ := info_parts infoI
        go_wp2
        obtain ⟨O2, G2⟩ := HO.out
        have hgg : gW ≠ gi := fun e => by have := HM.out.own.2 .watches (.row i) gi (by rw [HWv.out, e]; rfl) (by rw [HI.out]; rfl); cases this
        unfold iv at O2 G2
        generalize hW2e : World.setCell (w.setCell ⟨gi, 1, none⟩ (.int .i64 x)) ⟨gi, k, none⟩ (.int .i64 y) = W2 at O2 G2 ⊢
        clear hW2e
        have m6 := G2.cell f6 (by simp; exact fun e => hI2 e.symm)
        have mw := G2.cell wx (by simpa using hgg)
        have hsz := G2.size
        have hO2 : W2.ownsRow B 3 1 wv (s.W x).length ((s.W x).map iv) := O2.at (.watch x) (by simp [upd, HM.out.te, tx, ty]) (by simp [upd, Hwv.out]) (by simp) (by simp [upd, HM.out.watch])
        have HO2 := Lib.hid hO2
        have HO3 := Lib.hid O2
        have HG2 := Lib.hid G2
        have hwl := HWl.out
        have nb1 : wv.ownBlock ≠ some bp := by rw [← Hwv.out]; exact HM.out.ne (.watch x)
        have nb2 : wv.ownBlock ≠ some gW := by
          intro e
          have := HM.out.own.2 (.watch x) .watches gW (by rw [Hwv.out]; exact e) (by rw [HWv.out]; rfl)
          cases this
        have hx0 : (0 : Int) ≤ (x : Int) := Int.natCast_nonneg _
        have hx1 : (x : Int) < (s.m : Int) := by omega
        have hbl : bp < W2.heap.size := by have := HM.out.obj.lt; omega
        have hgl : gW < W2.heap.size := by omega
        have hA : Below W2.heap.size W2 (W2.alloc (.cells #[.int .i64 i] 3)).drew := ((Below.refl _ _).alloc (Nat.le_refl _) _).drew
        clear O2 G2 hO2 f2 f6 f7 r1 c1 c2 c3 z1 zk wx zx hge
        have ma6 : ((W2.alloc (.cells #[.int .i64 i] 3)).drew).cell? ⟨bp, 6, none⟩ = some (.slice (some ⟨gW, 0, none⟩) s.m capW) := (hA.cell hbl).trans m6
        have maw : ((W2.alloc (.cells #[.int .i64 i] 3)).drew).cell? ⟨gW, x, none⟩ = some wv := (hA.cell hgl).trans mw
        have maz : ((W2.alloc (.cells #[.int .i64 i] 3)).drew).frozen? ⟨gW, x, none⟩ = false := (hA.frozen hgl).trans (HO3.out.frozen (k := .watches) (g := gW) (n := s.m) (cap := capW) (by simp [upd, HWv.out]) x)
        clear hA
        refine held.region (fun w' => w'.cell? ⟨bp, 6, none⟩ = some (.slice (some ⟨gW, 0, none⟩) s.m capW) ∧ w'.cell? ⟨gW, x, none⟩ = some wv) 16 (by kernel_rfl) ?_
        have hS : W2.drew.cell? ⟨bp, 6, none⟩ = some (.slice (some ⟨gW, 0, none⟩) s.m capW) ∧ W2.drew.cell? ⟨gW, x, none⟩ = some wv := ⟨m6, mw⟩
        refine held.wpLeft.take (i := 0) (v := ?_) rfl (by kernel_rfl) (by kernel_rfl) (by kernel_rfl) (by kernel_rfl) (by kernel_rfl) (fun _ _ _ h => h) (by rfl) ?_ hS ?_
        rotate_left
        · (intro w hSw; obtain ⟨s1, s2⟩ := hSw; go_simp; try with_reducible rfl)
        simp only [Act.put, List.setIfInBounds_toArray, List.set_cons_zero, List.set_cons_succ]
        refine held.wpLeft.take (i := 1) (v := ?_) rfl (by kernel_rfl) (by kernel_rfl) (by kernel_rfl) (by kernel_rfl) (by kernel_rfl) (fun _ _ _ h => h) (by rfl) ?_ hS ?_
        rotate_left
        · (intro w hSw; obtain ⟨s1, s2⟩ := hSw; go_simp; try with_reducible rfl)
        simp only [Act.put, List.setIfInBounds_toArray, List.set_cons_zero, List.set_cons_succ]
        refine held.wpLeft.take (i := 2) (v := ?_) rfl (by kernel_rfl) (by kernel_rfl) (by kernel_rfl) (by kernel_rfl) (by kernel_rfl) (fun _ _ _ h => h) (by rfl) ?_ hS ?_
        rotate_left
        · (intro w hSw; obtain ⟨s1, s2⟩ := hSw; go_simp; try with_reducible rfl)
        simp only [Act.put, List.setIfInBounds_toArray, List.set_cons_zero, List.set_cons_succ]
        refine held.wpLeft.take (i := 3) (v := ?_) rfl (by kernel_rfl) (by kernel_rfl) (by kernel_rfl) (by kernel_rfl) (by kernel_rfl) (fun _ _ _ h => h) (by rfl) ?_ hS ?_
        rotate_left
        · (intro w hSw; obtain ⟨s1, s2⟩ := hSw; go_simp; try with_reducible rfl)
        simp only [Act.put, List.setIfInBounds_toArray, List.set_cons_zero, List.set_cons_succ]
        refine held.wpLeft.take (i := 4) (v := ?_) rfl (by kernel_rfl) (by kernel_rfl) (by kernel_rfl) (by kernel_rfl) (by kernel_rfl) (fun _ _ _ h => h) (by rfl) ?_ hS ?_
        rotate_left
        · (intro w hSw; obtain ⟨s1, s2⟩ := hSw; go_simp; try with_reducible rfl)
        simp only [Act.put, List.setIfInBounds_toArray, List.set_cons_zero, List.set_cons_succ]
        refine held.wpLeft.take (i := 5) (v := ?_) rfl (by kernel_rfl) (by kernel_rfl) (by kernel_rfl) (by kernel_rfl) (by kernel_rfl) (fun _ _ _ h => h) (by rfl) ?_ hS ?_
        rotate_left
        · (intro w hSw; obtain ⟨s1, s2⟩ := hSw; go_simp; try with_reducible rfl)
        simp only [Act.put, List.setIfInBounds_toArray, List.set_cons_zero, List.set_cons_succ]
        refine held.wpLeft.take (i := 6) (v := ?_) rfl (by kernel_rfl) (by kernel_rfl) (by kernel_rfl) (by kernel_rfl) (by kernel_rfl) (fun _ _ _ h => h) (by rfl) ?_ hS ?_
        rotate_left
        · (intro w hSw; obtain ⟨s1, s2⟩ := hSw; go_simp; try with_reducible rfl)
        simp only [Act.put, List.setIfInBounds_toArray, List.set_cons_zero, List.set_cons_succ]
        refine held.wpLeft.take (i := 7) (v := ?_) rfl (by kernel_rfl) (by kernel_rfl) (by kernel_rfl) (by kernel_rfl) (by kernel_rfl) (fun _ _ _ h => h) (by rfl) ?_ hS ?_
        rotate_left
        · (intro w hSw; obtain ⟨s1, s2⟩ := hSw; go_simp; try with_reducible rfl)
        simp only [Act.put, List.setIfInBounds_toArray, List.set_cons_zero, List.set_cons_succ]
        refine held.wpLeft.take (i := 8) (v := ?_) rfl (by kernel_rfl) (by kernel_rfl) (by kernel_rfl) (by kernel_rfl) (by kernel_rfl) (fun _ _ _ h => h) (by rfl) ?_ hS ?_
        rotate_left
        · (intro w hSw; obtain ⟨s1, s2⟩ := hSw; go_simp; try with_reducible rfl)
        simp only [Act.put, List.setIfInBounds_toArray, List.set_cons_zero, List.set_cons_succ]
        refine held.wpLeft.take (i := 9) (v := ?_) rfl (by kernel_rfl) (by kernel_rfl) (by kernel_rfl) (by kernel_rfl) (by kernel_rfl) (fun _ _ _ h => h) (by rfl) ?_ hS ?_
        rotate_left
        · (intro w hSw; obtain ⟨s1, s2⟩ := hSw; go_simp; try with_reducible rfl)
        simp only [Act.put, List.setIfInBounds_toArray, List.set_cons_zero, List.set_cons_succ]
        refine held.wpLeft.take (i := 10) (v := ?_) rfl (by kernel_rfl) (by kernel_rfl) (by kernel_rfl) (by kernel_rfl) (by kernel_rfl) (fun _ _ _ h => h) (by rfl) ?_ hS ?_
        rotate_left
        · (intro w hSw; obtain ⟨s1, s2⟩ := hSw; go_simp; try with_reducible rfl)
        simp only [Act.put, List.setIfInBounds_toArray, List.set_cons_zero, List.set_cons_succ]
        refine held.wpLeft.take (i := 11) (v := ?_) rfl (by kernel_rfl) (by kernel_rfl) (by kernel_rfl) (by kernel_rfl) (by kernel_rfl) (fun _ _ _ h => h) (by rfl) ?_ hS ?_
        rotate_left
        · (intro w hSw; obtain ⟨s1, s2⟩ := hSw; go_simp; try with_reducible rfl)
        simp only [Act.put, List.setIfInBounds_toArray, List.set_cons_zero, List.set_cons_succ]
        refine held.wpLeft.take (i := 12) (v := ?_) rfl (by kernel_rfl) (by kernel_rfl) (by kernel_rfl) (by kernel_rfl) (by kernel_rfl) (fun _ _ _ h => h) (by rfl) ?_ hS ?_
        rotate_left
        · (intro w hSw; obtain ⟨s1, s2⟩ := hSw; go_simp; try with_reducible rfl)
        simp only [Act.put, List.setIfInBounds_toArray, List.set_cons_zero, List.set_cons_succ]
        refine held.wpLeft.one (i := 13) (by kernel_rfl) rfl (fun K hK => ?_)
        go_simp
        refine hK.out _ _ (fun _ => ⟨ma6, maw⟩) ?_
        clear hK K
        refine held.wpLeft.one (i := 14) (by kernel_rfl) rfl (fun K2 hK2 => ?_)
        refine step_append_lies _ (by rfl) _ _ _ (by rfl) B 3 i0 _ 1 8 Tryd.underlying23 hi0 hz0 hz1 hz2 rfl (by omega) wv (s.W x).length ((s.W x).map iv) (by rfl) ((HO2.out.alloc _).drew) ⟨W2.heap.size, 0, none⟩ 1 1 [.int .i64 i] (by rfl) (by rfl) (World.news_of_block (cs := #[.int .i64 i]) (t := 3) (fr := (0, 0)) (heap_alloc_new W2 _)) (by simp [Value.oneCell']) (by omega) (by unfold maxLen; omega) (by omega) (by simp; omega) (W2.heap.size + 1) (by simp) ?_
        intro gg cap w1 hown1 hgrow hat hlt1
        have m6' : w1.cell? ⟨bp, 6, none⟩ = some (.slice (some ⟨gW, 0, none⟩) s.m capW) := hgrow.cell ma6 (by intro e; exact nb1 e.symm)
        have mw' : w1.cell? ⟨gW, x, none⟩ = some wv := hgrow.cell maw (by intro e; exact nb2 e.symm)
        have zw' : w1.frozen? ⟨gW, x, none⟩ = false := (World.frozen?_of_block (hgrow.block gW (by simp; omega) (by intro e; exact nb2 e.symm))).trans maz
        refine hK2.out _ _ (fun _ => ⟨m6', mw'⟩) ?_
        clear hK2 K2
        refine held.wpLeft.one (i := 15) (by kernel_rfl) rfl (fun K4 hK4 => ?_)
        go_simp
        refine hK4.out _ _ (fun _ => ⟨m6', mw'⟩) ?_
        clear hK4 K4
        refine held.wpLeft.one (i := 16) (by kernel_rfl) rfl (fun K3 hK3 => ?_)
        go_simp
        refine hK3.out _ _ (fun h => absurd rfl h) ?_
        clear hK3 K3
        refine held.wpLeft.done (by kernel_rfl) ?_
        all_goals
          have HF := Lib.hid (watch_mem (row' := updN s.row i (sw (s.row i) 1 k)) HM.out _ hxm HWv.out HO3.out ((Below.refl B w).grown HG2.out (by omega) (fun k hk => by cases hk; exact hI3)) (by intro q; by_cases e : q = .row i <;> simp [upd, e]) (by intro q; by_cases e : q = .row i <;> simp [upd, e])
            (by intro q hq; rw [upd_other _ _ (hq i)]) (row_sw HM.out Hxe.out Hye.out (by have := HK.out; omega)) (HM.out.obj.kept HG2.out (by intro e; cases e; exact hI2 rfl)) hown1 (by rw [Hwv.out]; exact hgrow) (by rw [Hwv.out]; exact hat))
          clear hown1 hgrow hat hlt1
          go_wp2
          go_ret
          refine .inl ⟨k, HK.out.1, HK.out.2.1, by rw [Hxe.out]; exact HK.out.2.2, rfl, ?_⟩
          unfold moved
          rw [Hxe.out]
          exact HF.out
    · obtain rfl : k = L := by omega
      go_wp2
      go_ret
      exact .inr ⟨fun j a b => hg.out j a (by rw [← HL.out]; exact b), rfl, rfl⟩
end Go.Proofs.YtojjjndhabjhdaaDoor.proofB
namespace Go.Proofs.YtojjjndhabjhdaaDoor.proofC
set_option linter.unusedSimpArgs false
set_option linter.unusedVariables false
open Go.ChangeShapes Go.WideShapes Go.ChangeAt Go.RowKit proofP proofQ owns proofA proofB

section
variable {w w' : World} {B bp : Nat} {lv va : Value} {first nv : Nat} {s : PS} {F : Ix → Ent}
theorem _root_.Go.Proofs.YtojjjndhabjhdaaDoor.proofA.Mem.below (h : Mem w B bp lv va first nv s F) (hb : Below w.heap.size w w') : Mem w' B bp lv va first nv s F :=
  ⟨h.own.below hb, h.obj.below hb h.obj.lt, h.hx, h.ne, h.te, h.on, h.short, h.rows, h.watches, h.value, h.trail, h.row, h.watch⟩
/-- a cell of a watching list is written -/
theorem _root_.Go.Proofs.YtojjjndhabjhdaaDoor.proofA.Mem.setWatch (h : Mem w B bp lv va first nv s F) {lost gL capL N : Nat} (hv : (F (.watch lost)).v = .slice (some ⟨gL, 0, none⟩) N capL) (q i : Nat) :
    Mem (w.setCell ⟨gL, q, none⟩ (.int .i64 i)) B bp lv va first nv { s with W := updN s.W lost ((s.W lost).set q i) } (upd F (.watch lost) ⟨(F (.watch lost)).e, (F (.watch lost)).v, (F (.watch lost)).xs.set q (.int .i64 i)⟩) := by
  obtain ⟨O1, G1⟩ := h.own.set hv q (.int .i64 i)
  have hg : gL ≠ bp := fun e => h.ne (.watch lost) (by rw [hv, e]; rfl)
  refine ⟨O1, ?_, h.hx, fun k => ?_, fun k => ?_, ?_, ?_, ?_, ?_, ?_, ?_, fun i => ?_, fun c => ?_⟩
  · have := h.obj.kept G1 (by intro e; cases e; exact hg rfl)
    simpa [upd] using this
  · by_cases e : k = .watch lost
    · subst e; rw [upd_same]; exact h.ne _
    · rw [upd_other _ _ e]; exact h.ne k
  · by_cases e : k = .watch lost
    · subst e; rw [upd_same]; exact h.te _
    · rw [upd_other _ _ e]; exact h.te k
  · simp [upd, h.on]
  · simp [upd, h.short]
  · simp [upd, h.rows]
  · rw [upd_other _ _ (by simp), h.watches]
    apply List.map_congr_left
    intro c _
    by_cases e : c = lost
    · subst e; rw [upd_same]
    · rw [upd_other _ _ (by simpa using e)]
  · simp [upd, h.value]
  · simp [upd, h.trail]
  · rw [upd_other _ _ (by simp), h.row]
  · by_cases e : c = lost
    · subst e; rw [upd_same]; dsimp only; rw [updN_same, h.watch, List.map_set]; rfl
    · rw [upd_other _ _ (by simpa using e), h.watch]; dsimp only; rw [updN_other _ _ e]
/-- two codes of a row exchanged -/
theorem _root_.Go.Proofs.YtojjjndhabjhdaaDoor.proofA.Mem.swapRow (h : Mem w B bp lv va first nv s F) {i gi capi L x y : Nat} (hv : (F (.row i)).v = .slice (some ⟨gi, 0, none⟩) L capi) (hx : (s.row i).getD 1 0 = x) (hy : (s.row i).getD 0 0 = y) :
    Mem ((w.setCell ⟨gi, 0, none⟩ (.int .i64 x)).setCell ⟨gi, 1, none⟩ (.int .i64 y)) B bp lv va first nv { s with row := updN s.row i (sw (s.row i) 0 1) } (upd F (.row i) ⟨(F (.row i)).e, (F (.row i)).v, ((F (.row i)).xs.set 0 (.int .i64 x)).set 1 (.int .i64 y)⟩) := by
  obtain ⟨O1, G1⟩ := h.own.set2 hv 0 1 (.int .i64 x) (.int .i64 y)
  have hg : gi ≠ bp := fun e => h.ne (.row i) (by rw [hv, e]; rfl)
  refine ⟨O1, ?_, h.hx, fun k => ?_, fun k => ?_, ?_, ?_, ?_, ?_, ?_, ?_, fun j => ?_, fun c => ?_⟩
  · have := h.obj.kept G1 (by intro e; cases e; exact hg rfl)
    simpa [upd] using this
  · by_cases e : k = .row i
    · subst e; rw [upd_same]; exact h.ne _
    · rw [upd_other _ _ e]; exact h.ne k
  · by_cases e : k = .row i
    · subst e; rw [upd_same]; exact h.te _
    · rw [upd_other _ _ e]; exact h.te k
  · simp [upd, h.on]
  · simp [upd, h.short]
  · rw [upd_other _ _ (by simp), h.rows]
    apply List.map_congr_left
    intro c _
    by_cases e : c = i
    · subst e; rw [upd_same]
    · rw [upd_other _ _ (by simpa using e)]
  · simp [upd, h.watches]
  · simp [upd, h.value]
  · simp [upd, h.trail]
  · by_cases e : j = i
    · subst e
      rw [upd_same]
      dsimp only
      rw [updN_same, h.row]
      unfold sw
      rw [hx, hy, List.map_set, List.map_set]
      rfl
    · rw [upd_other _ _ (by simpa using e), h.row]; dsimp only; rw [updN_other _ _ e]
  · rw [upd_other _ _ (by simp), h.watch]
theorem _root_.Go.Proofs.YtojjjndhabjhdaaDoor.proofA.Mem.cutWatch (h : Mem w B bp lv va first nv s F) {lost gL capL N q : Nat} (hv : (F (.watch lost)).v = .slice (some ⟨gL, 0, none⟩) N capL) (hq : q ≤ N) (hN : (s.W lost).length = N) : w.ownsRow B 3 1 (.slice (some ⟨gL, 0, none⟩) q capL) q (((s.W lost).take q).map iv) := by
  have h1 := h.own.1 (.watch lost)
  have hlen : (F (.watch lost)).xs.length = N := by rw [h.watch]; simpa using hN
  rcases h1.2 with ⟨hv', _⟩ | ⟨g, cap, cur, hv', hb, hg, hn', hm', hc, ht⟩
  · rw [hv] at hv'; cases hv'
  · rw [hv] at hv'
    cases hv'
    have he := h.te (.watch lost)
    rw [show tx s.extra.e (.watch lost) = 3 from rfl] at he
    rw [he] at hg
    refine ⟨by simp; omega, .inr ⟨gL, capL, cur, rfl, hb, hg, by omega, hm', hc, ?_⟩⟩
    rw [h.watch] at ht
    have : cur.toList.take (q * 1) = (cur.toList.take (((s.W lost).map iv).length * 1)).take q := by rw [List.take_take]; congr 1; simp; omega
    rw [this, ht, List.map_take]
/-- a watching list is put back -/
theorem _root_.Go.Proofs.YtojjjndhabjhdaaDoor.proofA.Mem.putWatch (h : Mem w B bp lv va first nv s F) {lost gL capL N gW capW : Nat} (hm : lost < s.m) (hv : (F (.watch lost)).v = .slice (some ⟨gL, 0, none⟩) N capL) {l : List Nat} (hg : w.grownBy w' (some gL))
    (hcut : w'.ownsRow B 3 1 (.slice (some ⟨gL, 0, none⟩) l.length capL) l.length (l.map iv)) (hWv : (F .watches).v = .slice (some ⟨gW, 0, none⟩) s.m capW) :
    ∃ F', Mem (w'.setCell ⟨gW, lost, none⟩ (.slice (some ⟨gL, 0, none⟩) l.length capL)) B bp lv va first nv { s with W := updN s.W lost l } F' := by
  have O1 := h.own.step (.watch lost) ⟨3, .slice (some ⟨gL, 0, none⟩) l.length capL, l.map iv⟩ (w' := w') (by rw [hv]; exact hg) (by
    dsimp only
    rw [List.length_map]; exact hcut) (.inl (by rw [hv]; rfl))
  have hWv1 : (upd F (.watch lost) ⟨3, .slice (some ⟨gL, 0, none⟩) l.length capL, l.map iv⟩ .watches).v = .slice (some ⟨gW, 0, none⟩) s.m capW := by rw [upd_other _ _ (by simp)]; exact hWv
  obtain ⟨O2, G2⟩ := O1.set hWv1 lost (.slice (some ⟨gL, 0, none⟩) l.length capL)
  have hgW : gW ≠ bp := fun e => h.ne .watches (by rw [hWv, e]; rfl)
  have hgL : gL ≠ bp := fun e => h.ne (.watch lost) (by rw [hv, e]; rfl)
  refine ⟨_, O2, ?_, h.hx, fun k => ?_, fun k => ?_, ?_, ?_, ?_, ?_, ?_, ?_, fun j => ?_, fun c => ?_⟩
  · have := (h.obj.kept hg (by intro e; cases e; exact hgL rfl)).kept G2 (by intro e; cases e; exact hgW rfl)
    simpa [upd] using this
  · by_cases e1 : k = .watches
    · subst e1; rw [upd_same]; dsimp only; rw [hWv1]; intro e; cases e; exact hgW rfl
    · rw [upd_other _ _ e1]
      by_cases e2 : k = .watch lost
      · subst e2; rw [upd_same]; intro e; cases e; exact hgL rfl
      · rw [upd_other _ _ e2]; exact h.ne k
  · by_cases e1 : k = .watches
    · subst e1; rw [upd_same]; dsimp only; rw [upd_other _ _ (by simp)]; exact h.te .watches
    · rw [upd_other _ _ e1]
      by_cases e2 : k = .watch lost
      · subst e2; rw [upd_same]; rfl
      · rw [upd_other _ _ e2]; exact h.te k
  · simp [upd, h.on]
  · simp [upd, h.short]
  · simp [upd, h.rows]
  · rw [upd_same]
    dsimp only
    rw [upd_other _ _ (by simp), h.watches]
    apply List.ext_getElem?
    intro j
    rw [List.getElem?_set]
    simp only [List.length_map, List.length_range, List.getElem?_map]
    by_cases e : lost = j
    · subst e
      simp only [if_true, hm, List.getElem?_range hm, Option.map_some]
      rw [upd_other _ _ (by simp), upd_same]
    · rw [if_neg e]
      by_cases hj : j < s.m
      · simp only [List.getElem?_range hj, Option.map_some]
        rw [upd_other _ _ (by simp), upd_other _ _ (by simp; exact fun e' => e e'.symm)]
      · rw [List.getElem?_eq_none (by simp; omega)]; rfl
  · simp [upd, h.value]
  · simp [upd, h.trail]
  · rw [upd_other _ _ (by simp), upd_other _ _ (by simp), h.row]
  · rw [upd_other _ _ (by simp)]
    by_cases e : c = lost
    · subst e; rw [upd_same]; dsimp only; rw [updN_same]
    · rw [upd_other _ _ (by simpa using e), h.watch]; dsimp only; rw [updN_other _ _ e]
end

theorem FI.other {n : Nat} {on : Nat → Bool} {cls : Nat → List Int} {cl : List (List Int)} {fr : List Int} {row W W' : Nat → List Nat} {trail : List Nat} {head lost : Nat} {kept rest : List Nat}
    (h : FI n on cls cl fr row W trail head lost kept rest) (hw : ∀ c, c ≠ lost → W' c = W c) : FI n on cls cl fr row W' trail head lost kept rest := by
  have e : updN W' lost (kept ++ rest) = updN W lost (kept ++ rest) := by
    funext c
    by_cases e : c = lost
    · rw [e, updN_same, updN_same]
    · rw [updN_other _ _ e, updN_other _ _ e, hw c e]
  exact ⟨by rw [e]; exact h.si, h.pi, h.ti, h.dv, h.hl, h.hd, h.ro, h.on⟩

/-- what a call keeps of the prover -/
structure Same (s s' : PS) : Prop where
  n : s'.n = s.n
  m : s'.m = s.m
  on : s'.on = s.on
  short : s'.short = s.short
  len : ∀ i, (s'.row i).length = (s.row i).length
  ex : s'.extra = s.extra
theorem Same.refl (s : PS) : Same s s := ⟨rfl, rfl, rfl, rfl, fun _ => rfl, rfl⟩
theorem Same.trans {a b c : PS} (h : Same a b) (k : Same b c) : Same a c := ⟨k.n.trans h.n, k.m.trans h.m, k.on.trans h.on, k.short.trans h.short, fun i => (k.len i).trans (h.len i), k.ex.trans h.ex⟩
theorem updN_len {row : Nat → List Nat} {i : Nat} {r : List Nat} (h : r.length = (row i).length) (j : Nat) : (updN row i r j).length = (row j).length := by
  by_cases e : j = i
  · subst e; rw [updN_same, h]
  · rw [updN_other _ _ e]

structure PGood (s : PS) (cls : Nat → List Int) : Prop where
  si : SI s.n s.row s.W
  ro : ∀ i, i < s.n → RowOf (s.row i) (cls i)
  ti : TI s.trail
  hm : ∀ i, i < s.n → ∀ l, l ∈ cls i → lit l → code l < s.m
  sh : ∀ i, i ∈ s.short ↔ i < s.n ∧ (s.row i).length < 2
  hn : s.n ≤ 100000
theorem PGood.watchLen {s : PS} {cls : Nat → List Int} (h : PGood s cls) (c : Nat) : (s.W c).length ≤ 100000 :=
  Nat.le_trans (nodup_bound (h.si.nd c) fun x hx => (h.si.wat c x hx).1) h.hn
theorem rowLong {r : List Nat} {c : List Int} (h : RowOf r c) (hd : r.Nodup) : r.length ≤ 100000 :=
  Nat.le_trans (nodup_bound hd fun x hx => (h.rng hx).2) (by omega)

/-- the place in the midst: kept rows, and the rest from k on -/
def FRel (B bp : Nat) (lv : Value) (first nv : Nat) (s : PS) (cls : Nat → List Int) (cl : List (List Int)) (fr : List Int) (head lost gL capL N : Nat) (w : World) (q k : Nat) (wr : World) : Prop :=
  ∃ va st F kept, Mem wr B bp lv va first nv st F ∧ (F (.watch lost)).v = .slice (some ⟨gL, 0, none⟩) N capL ∧ (st.W lost).length = N ∧ kept.length = q ∧ (st.W lost).take q = kept ∧ q ≤ k ∧ Same s st ∧ (∀ x, x ∈ s.trail → x ∈ st.trail) ∧
    FI s.n s.on cls cl fr st.row st.W st.trail head lost kept ((st.W lost).drop k) ∧ Below B w wr
/-- a row, whose second code is the one that is followed -/
def FMid (B bp : Nat) (lv : Value) (first nv : Nat) (s : PS) (cls : Nat → List Int) (cl : List (List Int)) (fr : List Int) (head lost gL capL N : Nat) (w : World) (q k i gi capi L : Nat) (wr : World) : Prop :=
  ∃ va st F kept, Mem wr B bp lv va first nv st F ∧ (F (.watch lost)).v = .slice (some ⟨gL, 0, none⟩) N capL ∧ (st.W lost).length = N ∧ kept.length = q ∧ (st.W lost).take q = kept ∧ q ≤ k ∧ Same s st ∧ (∀ x, x ∈ s.trail → x ∈ st.trail) ∧
    FI s.n s.on cls cl fr st.row st.W st.trail head lost kept (i :: (st.W lost).drop (k + 1)) ∧ Below B w wr ∧ (F (.row i)).v = .slice (some ⟨gi, 0, none⟩) L capi ∧ (st.row i).length = L ∧ (st.row i).getD 1 0 = lost

theorem set_take {l : List Nat} {q i : Nat} (h : q < l.length) : (l.set q i).take (q + 1) = l.take q ++ [i] := by
  rw [List.take_succ_eq_append_getElem (by simpa using h), List.take_set_of_le (Nat.le_refl _)]; simp

section
variable {w wr wy : World} {B bp : Nat} {lv va : Value} {first nv : Nat} {s st : PS} {F : Ix → Ent} {cls : Nat → List Int} {cl : List (List Int)} {fr : List Int} {head lost gL capL N q k i : Nat} {kept : List Nat}
/-- a row is kept: memory -/
theorem keep_mem (hM : Mem wr B bp lv va first nv st F) (hv : (F (.watch lost)).v = .slice (some ⟨gL, 0, none⟩) N capL) (hb2 : Below wr.heap.size wr wy) (q i : Nat) :
    ∃ F', Mem (wy.setCell ⟨gL, q, none⟩ (.int .i64 i)) B bp lv va first nv { st with W := updN st.W lost ((st.W lost).set q i) } F' ∧ ∀ k, (F' k).v = (F k).v :=
  ⟨_, (hM.below hb2).setWatch hv q i, fun k => by
    by_cases e : k = .watch lost
    · subst e; rw [upd_same]
    · rw [upd_other _ _ e]⟩
/-- a row is kept -/
theorem rel_keep (hM : Mem wy B bp lv va first nv { st with W := updN st.W lost ((st.W lost).set q i) } F) (hv : (F (.watch lost)).v = .slice (some ⟨gL, 0, none⟩) N capL) (hN : (st.W lost).length = N) (hkl : kept.length = q) (htk : (st.W lost).take q = kept) (hqk : q ≤ k) (hkN : k < N)
    (hs : Same s st) (ht : ∀ x, x ∈ s.trail → x ∈ st.trail) (hF : FI s.n s.on cls cl fr st.row st.W st.trail head lost (kept ++ [i]) ((st.W lost).drop (k + 1))) (hb : Below B w wy) :
    FRel B bp lv first nv s cls cl fr head lost gL capL N w (q + 1) (k + 1) wy := by
  refine ⟨va, { st with W := updN st.W lost ((st.W lost).set q i) }, F, kept ++ [i], hM, hv, ?_, by simp [hkl], ?_, by omega, ⟨hs.n, hs.m, hs.on, hs.short, hs.len, hs.ex⟩, ht, ?_, hb⟩
  · dsimp only; rw [updN_same]; simpa using hN
  · dsimp only; rw [updN_same, set_take (by omega), htk]
  · dsimp only
    rw [updN_same, List.drop_set_of_lt (by omega)]
    exact FI.other hF (fun c hc => updN_other _ _ hc)
end
end Go.Proofs.YtojjjndhabjhdaaDoor.proofC
namespace Go.Proofs.YtojjjndhabjhdaaDoor.proofD
set_option linter.unusedSimpArgs false
set_option linter.unusedVariables false
open Go.ChangeShapes Go.WideShapes Go.ChangeAt Go.RowKit proofP proofQ owns proofA proofB proofC

def FollowP (B bp : Nat) (lv : Value) (first nv : Nat) (s : PS) (cls : Nat → List Int) (cl : List (List Int)) (fr : List Int) (head : Nat) (w : World) (e : Ending) (w' : World) : Prop :=
  ∃ s' va F', Mem w' B bp lv va first nv s' F' ∧ Below B w w' ∧ Same s s' ∧ PGood s' cls ∧ (∀ x, x ∈ s.trail → x ∈ s'.trail) ∧
    ((e = .returned (.bool true) ∧ PI s'.n s'.row s'.on s'.trail (head + 1) ∧ (∀ x, x ∈ s'.trail → D cl fr x) ∧ head + 1 ≤ s'.trail.length) ∨ (e = .returned (.bool false) ∧ Clash cl fr))

theorem start_FI {s : PS} {cls : Nat → List Int} {cl : List (List Int)} {fr : List Int} {head lost : Nat} (G : PGood s cls) (hh : head < s.trail.length) (hd : s.trail.getD head 0 = opp lost) (hP : PI s.n s.row s.on s.trail head) (hD : ∀ x, x ∈ s.trail → D cl fr x) (hon : ∀ i, i < s.n → s.on i = true → cls i ∈ cl) :
    FI s.n s.on cls cl fr s.row s.W s.trail head lost [] ((s.W lost).drop 0) := by
  have e : updN s.W lost ([] ++ (s.W lost).drop 0) = s.W := by
    funext c
    by_cases e : c = lost
    · rw [e, updN_same]; simp
    · rw [updN_other _ _ e]
  refine ⟨by rw [e]; exact G.si, fun i hi ho hl ht => ?_, G.ti, hD, hh, hd, G.ro, hon⟩
  rcases hP i hi ho hl ht with h1 | h1
  · exact .inl h1
  · refine .inr fun j hj => ⟨h1 j hj, fun e => ?_⟩
    have := G.si.has i hi hl ht
    rw [List.drop_zero, ← e]
    rcases (show j = 0 ∨ j = 1 by omega) with rfl | rfl
    · exact this.1
    · exact this.2
theorem good_of {s st : PS} {cls : Nat → List Int} {cl : List (List Int)} {fr : List Int} {head lost : Nat} {kept : List Nat} (G : PGood s cls) (hs : Same s st) (h : FI s.n s.on cls cl fr st.row st.W st.trail head lost kept []) : PGood { st with W := updN st.W lost kept } cls := by
  refine ⟨?_, ?_, h.ti, ?_, ?_, ?_⟩
  · have := h.si; rw [List.append_nil] at this; dsimp only; rw [hs.n]; exact this
  · dsimp only; rw [hs.n]; exact h.ro
  · dsimp only; rw [hs.n, hs.m]; exact G.hm
  · dsimp only; rw [hs.n, hs.short]; intro i; rw [hs.len]; exact G.sh i
  · dsimp only; rw [hs.n]; exact G.hn

section
variable {w wr w1 : World} {B bp : Nat} {lv va : Value} {first nv : Nat} {s st : PS} {F : Ix → Ent} {cls : Nat → List Int} {cl : List (List Int)} {fr : List Int} {head lost gL capL gW capW N q k i : Nat} {kept : List Nat}
theorem done_P (G : PGood s cls) (hM : Mem wr B bp lv va first nv st F) (hv : (F (.watch lost)).v = .slice (some ⟨gL, 0, none⟩) N capL) (hWv : (F .watches).v = .slice (some ⟨gW, 0, none⟩) st.m capW) (hm : lost < st.m) (hN : (st.W lost).length = N) (hkl : kept.length = q) (htk : (st.W lost).take q = kept) (hqN : q ≤ N)
    (hs : Same s st) (ht : ∀ x, x ∈ s.trail → x ∈ st.trail) (hF : FI s.n s.on cls cl fr st.row st.W st.trail head lost kept []) (hb : Below B w wr) :
    FollowP B bp lv first nv s cls cl fr head w (.returned (.bool true)) (wr.setCell ⟨gW, lost, none⟩ (.slice (some ⟨gL, 0, none⟩) q capL)) := by
  have hcut := hM.cutWatch hv hqN hN
  rw [htk] at hcut
  obtain ⟨F2, M2⟩ := hM.putWatch (w' := wr) (l := kept) hm hv ⟨rfl, rfl, rfl, Nat.le_refl _, fun _ _ _ => rfl⟩ (by rw [hkl]; exact hcut) hWv
  rw [hkl] at M2
  have hBg : B ≤ gW := ((hM.own.1 .watches).lt gW (by rw [hWv]; rfl)).1
  have hdone := hF.done
  refine ⟨_, va, F2, M2, hb.setCell hBg _, ⟨hs.n, hs.m, hs.on, hs.short, hs.len, hs.ex⟩, good_of G hs hF, ht, .inl ⟨rfl, ?_, hF.dv, hF.hl⟩⟩
  dsimp only
  rw [hs.n, hs.on]
  exact hdone
theorem mid_swap {gi capi L y1 : Nat} (hM : Mem wr B bp lv va first nv st F) (hv : (F (.watch lost)).v = .slice (some ⟨gL, 0, none⟩) N capL) (hN : (st.W lost).length = N) (hkl : kept.length = q) (htk : (st.W lost).take q = kept) (hqk : q ≤ k) (hs : Same s st) (ht : ∀ x, x ∈ s.trail → x ∈ st.trail)
    (hF : FI s.n s.on cls cl fr st.row st.W st.trail head lost kept (i :: (st.W lost).drop (k + 1))) (hb : Below B w wr) (hI : (F (.row i)).v = .slice (some ⟨gi, 0, none⟩) L capi) (hL : (st.row i).length = L) (h1 : (st.row i).getD 1 0 = y1) (h0 : (st.row i).getD 0 0 = lost) :
    FMid B bp lv first nv s cls cl fr head lost gL capL N w q k i gi capi L ((wr.setCell ⟨gi, 0, none⟩ (.int .i64 y1)).setCell ⟨gi, 1, none⟩ (.int .i64 lost)).drew := by
  have h2 := hF.at.2.1
  have hBi : B ≤ gi := ((hM.own.1 (.row i)).lt gi (by rw [hI]; rfl)).1
  refine ⟨va, _, _, kept, (hM.swapRow hI h1 h0).below (Below.refl _ _).drew, ?_, hN, hkl, htk, hqk, ⟨hs.n, hs.m, hs.on, hs.short, fun j => ?_, hs.ex⟩, ht, hF.swap, ((hb.setCell hBi _).setCell hBi _).drew, ?_, ?_, ?_⟩
  · rw [upd_other _ _ (by simp)]; exact hv
  · dsimp only; rw [updN_len (sw_len _ _ _)]; exact hs.len j
  · rw [upd_same]; exact hI
  · dsimp only; rw [updN_same, sw_len]; exact hL
  · dsimp only; rw [updN_same, sw_get _ 0 1 1 (by omega) (by omega), if_pos rfl]; exact h0
theorem mid_keep (hM : Mem wr B bp lv va first nv st F) (hv : (F (.watch lost)).v = .slice (some ⟨gL, 0, none⟩) N capL) (hN : (st.W lost).length = N) (hkl : kept.length = q) (htk : (st.W lost).take q = kept) (hqk : q ≤ k) (hkN : k < N) (hs : Same s st) (ht : ∀ x, x ∈ s.trail → x ∈ st.trail)
    (hF : FI s.n s.on cls cl fr st.row st.W st.trail head lost (kept ++ [i]) ((st.W lost).drop (k + 1))) (hb : Below B w wr) (hb2 : Below wr.heap.size wr w1) (o : Obj) :
    FRel B bp lv first nv s cls cl fr head lost gL capL N w (q + 1) (k + 1) ((w1.setCell ⟨gL, q, none⟩ (.int .i64 i)).alloc o) := by
  obtain ⟨F3, M3, hF3⟩ := keep_mem hM hv hb2 q i
  have hBL : B ≤ gL := ((hM.own.1 (.watch lost)).lt gL (by rw [hv]; rfl)).1
  have hBh : B ≤ wr.heap.size := Nat.le_trans hM.hB (Nat.le_of_lt hM.obj.lt)
  have hsz := hb2.size
  exact rel_keep (M3.below ((Below.refl _ _).alloc (Nat.le_refl _) o)) (by rw [hF3]; exact hv) hN hkl htk hqk hkN hs ht hF (((hb.trans (hb2.mono hBh)).setCell hBL _).alloc (by simp; omega) o)
theorem mid_move {k2 : Nat} {F3 : Ix → Ent} {va3 : Value} (hM : Mem w1 B bp lv va3 first nv (moved st i k2) F3) (hF3 : ∀ j, j ≠ .watch ((st.row i).getD k2 0) → (F3 j).v = (F j).v) (hv : (F (.watch lost)).v = .slice (some ⟨gL, 0, none⟩) N capL) (hN : (st.W lost).length = N) (hkl : kept.length = q) (htk : (st.W lost).take q = kept) (hqk : q ≤ k) (hs : Same s st) (ht : ∀ x, x ∈ s.trail → x ∈ st.trail)
    (hF : FI s.n s.on cls cl fr st.row st.W st.trail head lost kept (i :: (st.W lost).drop (k + 1))) (h1 : (st.row i).getD 1 0 = lost) (hk2 : 2 ≤ k2) (hk2l : k2 < (st.row i).length) (ho : opp ((st.row i).getD k2 0) ∉ st.trail) (hb : Below B w w1) :
    FRel B bp lv first nv s cls cl fr head lost gL capL N w q (k + 1) w1 := by
  have hne : lost ≠ (st.row i).getD k2 0 := by
    rw [← h1]; intro e
    have := nodup_get.1 (hF.si.rd i hF.at.1) 1 k2 (by omega) hk2l e
    omega
  have hW : (moved st i k2).W lost = st.W lost := by unfold moved; dsimp only; rw [updN_other _ _ hne]
  refine ⟨va3, moved st i k2, F3, kept, hM, ?_, by rw [hW]; exact hN, hkl, by rw [hW]; exact htk, by omega, ⟨hs.n, hs.m, hs.on, hs.short, fun j => ?_, hs.ex⟩, ht, ?_, hb⟩
  · rw [hF3 _ (by simpa using hne)]; exact hv
  · unfold moved; dsimp only; rw [updN_len (sw_len _ _ _)]; exact hs.len j
  · rw [hW]; exact hF.move h1 hk2 hk2l ho
theorem mid_push {F3 : Ix → Ent} {va3 : Value} {x0 : Nat} (hM : Mem w1 B bp lv va3 first nv { st with W := updN st.W lost ((st.W lost).set q i), trail := st.trail ++ [x0] } F3) (hv : (F3 (.watch lost)).v = .slice (some ⟨gL, 0, none⟩) N capL) (hN : (st.W lost).length = N) (hkl : kept.length = q) (htk : (st.W lost).take q = kept) (hqk : q ≤ k) (hkN : k < N) (hs : Same s st) (ht : ∀ x, x ∈ s.trail → x ∈ st.trail)
    (hF : FI s.n s.on cls cl fr st.row st.W (st.trail ++ [x0]) head lost (kept ++ [i]) ((st.W lost).drop (k + 1))) (hb : Below B w w1) :
    FRel B bp lv first nv s cls cl fr head lost gL capL N w (q + 1) (k + 1) w1 := by
  refine rel_keep (st := { st with trail := st.trail ++ [x0] }) hM hv hN hkl htk hqk hkN ⟨hs.n, hs.m, hs.on, hs.short, hs.len, hs.ex⟩ (fun x hx => ?_) hF hb
  dsimp only; rw [List.mem_append]; exact .inl (ht x hx)
theorem tail_cells (hM : Mem wr B bp lv va first nv { st with W := updN st.W lost ((st.W lost).set q i) } F) (hv : (F (.watch lost)).v = .slice (some ⟨gL, 0, none⟩) N capL) (hN : (st.W lost).length = N) (hkl : kept.length = q) (htk : (st.W lost).take q = kept) (hqk : q ≤ k) (hkN : k < N) :
    wr.ownsRow B 3 1 (.slice (some ⟨gL, 0, none⟩) (q + 1) capL) (q + 1) ((kept ++ [i]).map iv) ∧ (∀ j u, (((st.W lost).drop (k + 1)).map iv)[j]? = some u → wr.cell? ((⟨gL, k + 1, none⟩ : Addr).add j) = some u) ∧ (((st.W lost).drop (k + 1)).map iv).length = N - (k + 1) := by
  have hN' : (({ st with W := updN st.W lost ((st.W lost).set q i) } : PS).W lost).length = N := by dsimp only; rw [updN_same]; simpa using hN
  refine ⟨?_, fun j u hu => ?_, by simp; omega⟩
  · have := hM.cutWatch (q := q + 1) hv (by omega) hN'
    dsimp only at this
    rw [updN_same, set_take (by omega), htk] at this
    exact this
  · have hj : j < N - (k + 1) := by
      have := (List.getElem?_eq_some_iff.1 hu).1
      simp at this; omega
    have ea : (⟨gL, k + 1, none⟩ : Addr).add j = ⟨gL, k + 1 + j, none⟩ := by unfold Addr.add; split <;> simp_all
    rw [ea, hM.own.cell hv (k + 1 + j) (by rw [hM.watch, List.length_map, hN']; omega), hM.watch]
    dsimp only
    rw [updN_same, List.getElem?_map, List.getElem?_set_ne (by omega), ← hu, List.getElem?_map, List.getElem?_drop]
theorem watch_len {st : PS} {N : Nat} (G : PGood s cls) (hs : Same s st) (hN : (st.W lost).length = N) (hNl : N ≤ 100000) {rest : List Nat} (hF : FI s.n s.on cls cl fr st.row st.W st.trail head lost kept rest) : ∀ c, (st.W c).length ≤ 100000 := by
  intro c
  by_cases e : c = lost
  · rw [e, hN]; exact hNl
  · have h1 := hF.si.nd c
    have h2 := hF.si.wat c
    rw [updN_other _ _ e] at h1 h2
    exact Nat.le_trans (nodup_bound h1 fun x hx => (h2 x hx).1) G.hn
theorem row_rng (G : PGood s cls) (hnv : nv = 40002) (hs : Same s st) {rest : List Nat} (hF : FI s.n s.on cls cl fr st.row st.W st.trail head lost kept rest) (hi : i < s.n) : ∀ x, x ∈ st.row i → x < st.m ∧ x < nv := by
  intro x hx
  refine ⟨?_, by rw [hnv]; exact ((hF.ro i hi).rng hx).2⟩
  obtain ⟨l, hl, hlit, rfl⟩ := (hF.ro i hi x).1 hx
  rw [hs.m]; exact G.hm i hi l hl hlit
theorem fail_P (G : PGood s cls) (hM : Mem wr B bp lv va first nv st F) (hv : (F (.watch lost)).v = .slice (some ⟨gL, 0, none⟩) N capL) (hWv : (F .watches).v = .slice (some ⟨gW, 0, none⟩) st.m capW) (hm : lost < st.m)
    (hs : Same s st) (ht : ∀ x, x ∈ s.trail → x ∈ st.trail) {rest : List Nat} (hF : FI s.n s.on cls cl fr st.row st.W st.trail head lost kept rest) (hb : Below B w wr) (hC : Clash cl fr) (hg : wr.grownBy w1 (some gL)) {M : Nat}
    (hM' : (kept ++ rest).length = M) (hcut : w1.ownsRow B 3 1 (.slice (some ⟨gL, 0, none⟩) M capL) M ((kept ++ rest).map iv)) :
    FollowP B bp lv first nv s cls cl fr head w (.returned (.bool false)) (w1.setCell ⟨gW, lost, none⟩ (.slice (some ⟨gL, 0, none⟩) M capL)) := by
  subst hM'
  obtain ⟨F2, M2⟩ := hM.putWatch (w' := w1) (l := kept ++ rest) hm hv hg hcut hWv
  have hBg : B ≤ gW := ((hM.own.1 .watches).lt gW (by rw [hWv]; rfl)).1
  have hBL : B ≤ gL := ((hM.own.1 (.watch lost)).lt gL (by rw [hv]; rfl)).1
  have hBh : B ≤ wr.heap.size := Nat.le_trans hM.hB (Nat.le_of_lt hM.obj.lt)
  refine ⟨_, va, F2, M2, (hb.grown hg hBh (fun k hk => by cases hk; exact hBL)).setCell hBg _, ⟨hs.n, hs.m, hs.on, hs.short, hs.len, hs.ex⟩, ⟨?_, ?_, hF.ti, ?_, ?_, ?_⟩, ht, .inr ⟨rfl, hC⟩⟩
  · dsimp only; rw [hs.n]; exact hF.si
  · dsimp only; rw [hs.n]; exact hF.ro
  · dsimp only; rw [hs.n, hs.m]; exact G.hm
  · dsimp only; rw [hs.n, hs.short]; intro i; rw [hs.len]; exact G.sh i
  · dsimp only; rw [hs.n]; exact G.hn
end

set_option maxHeartbeats 4000000 in
set_option maxRecDepth 100000 in
theorem follow_some (B bp : Nat) (lv va : Value) (first nv : Nat) (s : PS) (F : Ix → Ent) (w : World) (cls : Nat → List Int) (cl : List (List Int)) (fr : List Int) (head lost : Nat) (h : Mem w B bp lv va first nv s F) (G : PGood s cls) (hnv : Hid (nv = 40002)) (hlm : lost < s.m) (hN0 : 0 < (s.W lost).length)
    (hh : head < s.trail.length) (hd : s.trail.getD head 0 = opp lost) (hP : PI s.n s.row s.on s.trail head) (hD : ∀ x, x ∈ s.trail → D cl fr x) (hon : ∀ i, i < s.n → s.on i = true → cls i ∈ cl) :
    Calls Tryd.prog 91 #[.pointer (some ⟨bp, 0, none⟩), .int .i64 lost] w (FollowP B bp lv first nv s cls cl fr head w) := by
  have hFI := start_FI (lost := lost) G hh hd hP hD hon
  have hNl := G.watchLen lost
  have hl0 : (F (.watch lost)).xs.length = (s.W lost).length := by rw [h.watch]; simp
  obtain ⟨gL, capL, hv, hgB, _, hNc, hcm⟩ := h.own.form (.watch lost) (by omega)
  rw [hl0] at hv hNc
  obtain ⟨gW, capW, hWv, hW1, hW2, hW3, hW4, hW5⟩ := h.watchesAt (by omega)
  have f6 := h.field.2.2.2.2.2.1
  rw [hWv] at f6
  have wl := hW1 lost hlm
  rw [hv] at wl
  have HG := Lib.hid G
  have HR0 : Hid (FRel B bp lv first nv s cls cl fr head lost gL capL (s.W lost).length w 0 0 w) := Lib.hid ⟨va, s, F, [], h, hv, rfl, rfl, rfl, Nat.le_refl _, Same.refl s, fun x hx => hx, hFI, Below.refl _ _⟩
  unfold maxLen at hcm
  clear h G hFI hl0 hv hWv hW1 hW2 hW5 hh hd hP hD hon
  generalize (s.W lost).length = N at *
  go_enter Tryd.func91, Tryd.ntmps91
  go_wp2
  go_loopw [6, 21] (fun kv it wr => ∃ q k : Nat, k ≤ N ∧ q ≤ k ∧ it = .int .i64 k ∧ kv = .slice (some ⟨gL, 0, none⟩) q capL ∧ FRel B bp lv first nv s cls cl fr head lost gL capL N w q k wr) (fun _ it _ => N - (intOf it).toNat)
  case atStart => exact ⟨0, 0, Nat.zero_le _, Nat.le_refl _, rfl, rfl, HR0.out⟩
  case round =>
    obtain ⟨q, k, hk, hqk, rfl, rfl, hrel⟩ := hrel
    clear f6 wl HR0
    have HR := Lib.hid hrel
    obtain ⟨va1, st, F1, kept, hM, hv, hN, hkl, htk, _, hs, ht, hF, hb⟩ := hrel
    have hms : st.m = s.m := hs.m
    obtain ⟨gW', capW', hWv, hW1, hW2, hW3', hW4', hW5⟩ := hM.watchesAt (by omega)
    by_cases hlt : k < N
    · have HM := Lib.hid hM
      have hdr : (st.W lost).drop k = (st.W lost).getD k 0 :: (st.W lost).drop (k + 1) := by
        rw [List.drop_eq_getElem_cons (by omega), List.getD_eq_getElem?_getD, List.getElem?_eq_getElem (by omega), Option.getD_some]
      rw [hdr] at hF
      have cL := hM.own.cell hv k (by rw [hM.watch]; simp; omega)
      rw [hM.watch, getD_iv (by omega)] at cL
      generalize (st.W lost).getD k 0 = i at *
      obtain ⟨hi, h2, hor⟩ := hF.at
      have hns : st.n = s.n := hs.n
      obtain ⟨gR, capR, hR, hR1⟩ := hM.rowsAt (by omega)
      obtain ⟨gi, capi, hI, hI1, hI2, hI3, hI4, hI5⟩ := hM.rowAt i (by omega)
      have f2 := hM.field.2.2.1
      rw [hR] at f2
      have r1 := hR1 i (by omega)
      rw [hI] at r1
      have c0 := hI1 0 (by omega)
      have c1 := hI1 1 (by omega)
      have z0 := hI5 0
      have z1 := hI5 1
      have HI := Lib.hid hI
      have HV := Lib.hid hv
      have HN := Lib.hid hN
      have HKL := Lib.hid hkl
      have HTK := Lib.hid htk
      have HS := Lib.hid hs
      have HT := Lib.hid ht
      have HF := Lib.hid hF
      have HB := Lib.hid hb
      have HOR := Lib.hid hor
      clear hM hdr hv hN hkl htk hs ht hF hb hor hR hR1 hI1 hI5 hI hWv hW1 hW2 hW5
      rw [hns] at f2
      generalize hL : (st.row i).length = L at *
      have HL := Lib.hid hL
      clear hL
      have h0L : 0 < L := by omega
      have h1L : 1 < L := by omega
      generalize hy0 : (st.row i).getD 0 0 = y0 at *
      generalize hy1 : (st.row i).getD 1 0 = y1 at *
      have HY0 := Lib.hid hy0
      have HY1 := Lib.hid hy1
      clear hy0 hy1
      go_upto_if 37 with (fail)
      go_cut [9] (fun cv wx => cv = .slice (some ⟨gi, 0, none⟩) L capi ∧ FMid B bp lv first nv s cls cl fr head lost gL capL N w q k i gi capi L wx)
      case first =>
        by_cases h0 : y0 = lost
        · subst h0
          have HMID := Lib.hid (mid_swap HM.out HV.out HN.out HKL.out HTK.out hqk HS.out HT.out HF.out HB.out HI.out HL.out HY1.out HY0.out)
          go_wp2
          go_region
          all_goals (go_wp2; go_meet; exact ⟨rfl, HMID.out⟩)
        · have b0 : ((y0 : Int) == (lost : Int)) = false := by rw [beq_eq_false_iff_ne]; omega
          have HMID : Hid (FMid B bp lv first nv s cls cl fr head lost gL capL N w q k i gi capi L wr) := Lib.hid ⟨va1, st, F1, kept, HM.out, HV.out, HN.out, HKL.out, HTK.out, hqk, HS.out, HT.out, HF.out, HB.out, HI.out, HL.out, HY1.out.trans (HOR.out.resolve_left h0)⟩
          clear h0
          go_wp2
          go_meet
          exact ⟨rfl, HMID.out⟩
      case rest =>
        obtain ⟨rfl, hmid⟩ := hcut
        clear HM HV HN HKL HTK HS HT HF HB HI HL HOR f2 r1 c0 c1 z0 z1 cL HY0 HY1
        obtain ⟨va2, s2, F2, kept2, hM, hv, hN, hkl, htk, _, hs, ht, hF, hb, hI, hL, h1⟩ := hmid
        have hns2 : s2.n = s.n := hs.n
        have hms2 : s2.m = s.m := hs.m
        have hrow := hF.ro i hi
        have hm0 : (s2.row i).getD 0 0 ∈ s2.row i := get_mem (by omega)
        have hx0 : (s2.row i).getD 0 0 < nv := by rw [hnv.out]; exact (hrow.rng hm0).2
        obtain ⟨gO, capO, hO, hO1⟩ := hM.onAt (by omega)
        obtain ⟨gV, capV, hV, hV1, hV2, hV3, hV4, hV5⟩ := hM.vals (by omega)
        obtain ⟨f0, f1, f2, f3, f5, f6, f7, f8⟩ := hM.field
        rw [hO, hns2] at f3
        rw [hV] at f7
        have o1 := hO1 i (by omega)
        rw [hs.on] at o1
        have v0 := hV4 _ hx0
        have c0 := hM.own.cell hI 0 (by rw [hM.row]; simp; omega)
        rw [hM.row, getD_iv (by omega)] at c0
        have cq := hM.own.cell hv q (by rw [hM.watch]; simp; omega)
        rw [hM.watch, getD_iv (by omega)] at cq
        have zq := hM.own.frozen hv q
        have HM := Lib.hid hM
        have HV := Lib.hid hv
        have HN := Lib.hid hN
        have HKL := Lib.hid hkl
        have HTK := Lib.hid htk
        have HS := Lib.hid hs
        have HT := Lib.hid ht
        have HF := Lib.hid hF
        have HB := Lib.hid hb
        have HI := Lib.hid hI
        have HL := Lib.hid hL
        have H1 := Lib.hid h1
        have HNS := Lib.hid hns2
        have HMS := Lib.hid hms2
        generalize hy0 : (s2.row i).getD 0 0 = x0 at *
        have HY0 := Lib.hid hy0
        generalize (s2.W lost).getD q 0 = old at *
        clear hM hv hN hkl htk hs ht hF hb hI hL h1 hrow hO hO1 hV hV4 hV5 f0 f1 f2 f5 f6 f8 hy0 hns2 hms2 hm0
        have hqc : q + 1 ≤ capL := by omega
        have hgL' : gL < wc.heap.size := by rw [show gL = (⟨gL, q, none⟩ : Addr).block from rfl]; exact World.block_lt_of_cell? wc _ cq
        cases hon : s.on i
        · rw [hon] at o1
          have HON := Lib.hid hon
          clear hon v0 f7 c0
          go_wp2_with fail
          go_quiet (fail)
          have hbd := Go.Joins.below_draws wc.heap.size wc nq
          generalize wc.drewN nq = wd at *
          have cq' : wd.cell? ⟨gL, q, none⟩ = some (.int .i64 old) := (hbd.cell hgL').trans cq
          have zq' : wd.frozen? ⟨gL, q, none⟩ = false := (hbd.frozen hgL').trans zq
          have HBD := Lib.hid hbd
          have hsz := hbd.size
          have hgL2 : gL < wd.heap.size := by omega
          have HREL := Lib.hid (fun o => mid_keep HM.out HV.out HN.out HKL.out HTK.out hqk hlt HS.out HT.out (HF.out.keep (.inl HON.out)) HB.out hbd o)
          clear hbd cq zq
          go_wp2
          go_roundw
          case rel => exact ⟨q + 1, k + 1, by omega, by omega, by go_num, rfl, HREL.out _⟩
          case measure => simp [intOf]; omega
        · rw [hon] at o1
          have HON := Lib.hid hon
          clear hon
          by_cases hx : x0 ∈ s2.trail
          · rw [val_pos hx] at v0
            have HX : Hid ((s2.row i).getD 0 0 ∈ s2.trail) := Lib.hid (by rw [HY0.out]; exact hx)
            clear hx
            go_wp2_with fail
            go_quiet (fail)
            have hbd := Go.Joins.below_draws wc.heap.size wc nq
            generalize wc.drewN nq = wd at *
            have cq' : wd.cell? ⟨gL, q, none⟩ = some (.int .i64 old) := (hbd.cell hgL').trans cq
            have zq' : wd.frozen? ⟨gL, q, none⟩ = false := (hbd.frozen hgL').trans zq
            have HBD := Lib.hid hbd
            have hsz := hbd.size
            have hgL2 : gL < wd.heap.size := by omega
            have HREL := Lib.hid (fun o => mid_keep HM.out HV.out HN.out HKL.out HTK.out hqk hlt HS.out HT.out (HF.out.keep (.inr HX.out)) HB.out hbd o)
            clear hbd cq zq o1 f3 v0 f7 c0
            go_wp2
            go_roundw
            case rel => exact ⟨q + 1, k + 1, by omega, by omega, by go_num, rfl, HREL.out _⟩
            case measure => simp [intOf]; omega
          · have hvn : val s2.trail x0 ≤ 0 := by
              by_cases ho : opp x0 ∈ s2.trail
              · rw [val_neg hx ho]; decide
              · rw [val_zero hx ho]; decide
            have HX := Lib.hid hx
            generalize hz : val s2.trail x0 = z at *
            clear hz hx
            go_wp2_with fail
            go_quiet (fail)
            have hbd := Go.Joins.below_draws wc.heap.size wc nq
            generalize wc.drewN nq = wd at *
            have HBD := Lib.hid hbd
            have hsz := hbd.size
            have HM2 := Lib.hid (HM.out.below hbd)
            clear hbd
            have HMV := Lib.hid (move_any B bp lv va2 first nv s2 F2 wd HM2.out HF.out.ti i (by rw [HNS.out]; exact hi) (by rw [HL.out]; omega) (row_rng HG.out hnv.out HS.out HF.out hi) (rowLong (HF.out.ro i hi) (HF.out.si.rd i hi)) (watch_len HG.out HS.out HN.out hNl HF.out))
            have hbw := Lib.hid (HB.out.trans (HBD.out.mono (show B ≤ wc.heap.size from Nat.le_trans HM.out.hB (Nat.le_of_lt HM.out.obj.lt))))
            have cq' : wd.cell? ⟨gL, q, none⟩ = some (.int .i64 old) := (HBD.out.cell hgL').trans cq
            have zq' : wd.frozen? ⟨gL, q, none⟩ = false := (HBD.out.frozen hgL').trans zq
            have c0' : wd.cell? ⟨gi, 0, none⟩ = some (.int .i64 x0) := (HBD.out.cell (by rw [show (⟨gi, 0, none⟩ : Addr).block = gi from rfl]; exact World.block_lt_of_cell? wc _ c0)).trans c0
            have hgi' : gi < wd.heap.size := World.block_lt_of_cell? wd _ c0'
            have hgL2 : gL < wd.heap.size := by omega
            have hne1 : gi ≠ gL := fun e => by have := HM.out.own.2 (.row i) (.watch lost) gL (by rw [HI.out, e]; rfl) (by rw [HV.out]; rfl); cases this
            have hne2 : gL ≠ gi := fun e => hne1 e.symm
            clear cq zq c0 f3 f7 v0 o1
            go_wp2_with fail
            refine HMV.out.mono ?_
            rintro e w3 (⟨k2, hk2, hk2l, hk2o, rfl, hbel, va3, F3, hM3, hF3⟩ | ⟨hall, rfl, rfl⟩)
            · have HREL := Lib.hid (mid_move hM3 hF3 HV.out HN.out HKL.out HTK.out hqk HS.out HT.out HF.out H1.out hk2 hk2l hk2o (hbw.out.trans hbel))
              clear hk2l hk2o hbel hM3 hF3 cq' zq' c0'
              go_wp2
              go_roundw
              case rel => exact ⟨q, k + 1, by omega, by omega, by go_num, rfl, HREL.out⟩
              case measure => simp [intOf]; omega
            · have HALL := Lib.hid hall
              clear hall HMV
              obtain ⟨F3, M3, hF3⟩ := keep_mem HM.out HV.out HBD.out q i
              have HM3 := Lib.hid (fun o => M3.below ((Below.refl _ _).alloc (Nat.le_refl _) o))
              have HF3 := Lib.hid hF3
              clear M3 hF3
              have HX2 : Hid ((s2.row i).getD 0 0 ∉ s2.trail) := Lib.hid (by rw [HY0.out]; exact HX.out)
              have hx2 : 2 ≤ x0 ∧ x0 < 40002 := by rw [← HY0.out]; exact (HF.out.ro i hi).rng (get_mem (by rw [HL.out]; exact h0L))
              have HX3 := Lib.hid hx2
              have HTL := Lib.hid HF.out.ti.len
              clear hx2
              by_cases ho : opp x0 ∈ s2.trail
              · have HCL := Lib.hid (HF.out.fail HON.out H1.out HALL.out (by rw [HY0.out]; exact ho))
                have HV4 : Hid (val s2.trail x0 = -1) := Lib.hid (val_neg HX.out ho)
                clear ho
                go_wp2_with fail
                refine (set_known B bp lv va2 first nv _ F3 _ (HM3.out _) x0 hx0 false (-1) HV4.out (.inr ⟨rfl, rfl⟩)).mono ?_
                rintro e w4 ⟨rfl, rfl⟩
                have hM4 := HM3.out (.cells #[.int .i64 i] 3)
                have hBW : Below B w ((wd.setCell ⟨gL, q, none⟩ (.int .i64 i)).alloc (.cells #[.int .i64 i] 3)) := (hbw.out.setCell hgB _).alloc (by simp; omega) _
                generalize World.alloc (wd.setCell ⟨gL, q, none⟩ (.int .i64 i)) (.cells #[.int .i64 i] 3) = W4 at *
                have hv4 : (F3 (.watch lost)).v = .slice (some ⟨gL, 0, none⟩) N capL := by rw [HF3.out]; exact HV.out
                obtain ⟨C1, C2, C3⟩ := tail_cells hM4 hv4 HN.out HKL.out HTK.out hqk hlt
                obtain ⟨gW3, capW3, hWv3, hW31, hW32, hW33, hW34, hW35⟩ := hM4.watchesAt (by have := HMS.out; dsimp only; omega)
                have HP := Lib.hid (fun (w5 : World) (hg : W4.grownBy w5 (some gL)) M hM' hcut => fail_P (M := M) HG.out hM4 hv4 hWv3 (by have := HMS.out; dsimp only; omega) ⟨HS.out.n, HS.out.m, HS.out.on, HS.out.short, HS.out.len, HS.out.ex⟩ HT.out (FI.other (W' := updN s2.W lost ((s2.W lost).set q i)) HF.out (fun c hc => updN_other _ _ hc)) hBW HCL.out hg hM' hcut)
                have HC1 := Lib.hid C1
                have HC2 := Lib.hid C2
                have HC3 := Lib.hid C3
                have f6 := hM4.field.2.2.2.2.2.1
                rw [hWv3] at f6
                have wl := hW31 lost (by have := HMS.out; dsimp only; omega)
                have zl := hW35 lost
                have hn3 : gW3 ≠ gL := fun e => by have := hM4.own.2 .watches (.watch lost) gL (by rw [hWv3, e]; rfl) (by rw [hv4]; rfl); cases this
                have hn4 : bp ≠ gL := fun e => hM4.ne (.watch lost) (by rw [hv4, e]; rfl)
                have F6 := Lib.hid f6
                have WL := Lib.hid wl
                have ZL := Lib.hid zl
                have hdl : (((s2.W lost).drop (k + 1)).map iv).length = N - (k + 1) := C3
                have HE : Hid ((kept2 ++ [i]).map iv ++ ((s2.W lost).drop (k + 1)).map iv = (kept2 ++ (i :: (s2.W lost).drop (k + 1))).map iv) := Lib.hid (by simp)
                have HEL : Hid ((kept2 ++ (i :: (s2.W lost).drop (k + 1))).length = q + 1 + (N - (k + 1))) := Lib.hid (by rw [List.length_map] at C3; simp only [List.length_append, List.length_cons, HKL.out, C3]; omega)
                generalize (F3 (.watch lost)).v = wlv at WL
                clear hM4 hBW hv4 C1 C2 C3 hWv3 hW31 hW35 f6 wl zl HM3 cq' zq' c0' hdl
                obtain ⟨i0, hi0, hz0, hz1, hz2⟩ := info_parts infoI
                by_cases hcap : capL = k + 1
                · subst hcap
                  obtain rfl : N = k + 1 := by omega
                  have hE0 : (s2.W lost).drop (k + 1) = [] := List.drop_eq_nil_of_le (by rw [HN.out]; exact Nat.le_refl _)
                  have hmk : IntKind.i64.wrap ((k : Int) + 1) = (k : Int) + 1 := IntWalk.i64_in _ (by omega)
                  rw [hE0] at HE HEL HP
                  clear hE0
                  have HEL : Hid ((kept2 ++ [i]).length = q + 1) := Lib.hid (by simp [HKL.out])
                  go_wp2_with (at_builtin; refine wpList_append_fits_any _ rfl _ _ 23 rfl B 3 i0 1 Tryd.underlying23 hi0 hz1 gL (q + 1) (k + 1) ((kept2 ++ [i]).map iv) rfl HC1.out (some ⟨gL, 0, none⟩) 0 0 [] rfl ?n ?no ?ce ?on ?fi ?_)
                  case n => rfl
                  case ce => intro ad _ j u hu; simp at hu
                  case on => intro u hu; simp at hu
                  case fi => omega
                  intro w5 hown5 hgrow5
                  have f6' := hgrow5.cell F6.out (by simpa using hn4)
                  have wl' := hgrow5.cell WL.out (by simpa using hn3)
                  have zl' : w5.frozen? ⟨gW3, lost, none⟩ = false := (World.frozen?_of_block (hgrow5.block gW3 hW34 (by simpa using hn3))).trans ZL.out
                  have hlm2 : lost < s2.m := by have := HMS.out; omega
                  have HPP := Lib.hid (HP.out w5 hgrow5 _ HEL.out (by simpa using hown5))
                  clear hown5 hgrow5
                  go_wp2
                  go_ret
                  exact HPP.out
                · have hcap' : k + 1 < capL := by omega
                  have hmk : IntKind.i64.wrap ((k : Int) + 1) = (k : Int) + 1 := IntWalk.i64_in _ (by omega)
                  clear hcap
                  go_wp2_with (at_builtin; refine wpList_append_fits_any _ rfl _ _ 23 rfl B 3 i0 1 Tryd.underlying23 hi0 hz1 gL (q + 1) capL ((kept2 ++ [i]).map iv) rfl HC1.out (some ⟨gL, k + 1, none⟩) (N - (k + 1)) (capL - (k + 1)) (((s2.W lost).drop (k + 1)).map iv) rfl ?n2 ?no2 ?ce2 ?on2 ?fi2 ?_)
                  case n2 => simpa using HC3.out
                  case no2 => intro h; cases h
                  case ce2 => intro ad had; cases had; exact HC2.out
                  case on2 => intro u hu; obtain ⟨x, _, rfl⟩ := List.mem_map.1 hu; rfl
                  case fi2 => omega
                  intro w5 hown5 hgrow5
                  have f6' := hgrow5.cell F6.out (by simpa using hn4)
                  have wl' := hgrow5.cell WL.out (by simpa using hn3)
                  have zl' : w5.frozen? ⟨gW3, lost, none⟩ = false := (World.frozen?_of_block (hgrow5.block gW3 hW34 (by simpa using hn3))).trans ZL.out
                  have hlm2 : lost < s2.m := by have := HMS.out; omega
                  have HPP := Lib.hid (HP.out w5 hgrow5 _ HEL.out (by rw [← HE.out]; simpa using hown5))
                  clear hown5 hgrow5
                  go_wp2
                  go_ret
                  exact HPP.out
              · have HO := Lib.hid ho
                clear ho
                go_wp2_with fail
                refine (set_open B bp lv va2 first nv _ F3 _ (HM3.out _) x0 hx0 (by rw [hnv.out]; exact (opp_rng x0 HX3.out.1 HX3.out.2).2) (by have := HX3.out; omega) (by have := HTL.out; dsimp only; omega) HX.out HO.out).mono ?_
                rintro e w4 ⟨rfl, hb4, va4, F4, hM4, hF4⟩
                have HREL := Lib.hid (mid_push (i := i) hM4 (by rw [hF4 _ (by simp), HF3.out]; exact HV.out) HN.out HKL.out HTK.out hqk hlt HS.out HT.out (by have := HF.out.push HON.out H1.out HALL.out HX2.out (by rw [HY0.out]; exact HO.out); rw [HY0.out] at this; exact this) (((hbw.out.setCell hgB _).alloc (by simp; omega) _).trans hb4))
                clear hb4 hM4 hF4 cq' zq' c0'
                go_wp2
                go_roundw
                case rel => exact ⟨q + 1, k + 1, by omega, by omega, by go_num, rfl, HREL.out⟩
                case measure => simp [intOf]; omega
    · obtain rfl : k = N := by omega
      have f6 := hM.field.2.2.2.2.2.1
      rw [hWv] at f6
      have wl := hW1 lost (by omega)
      have zl := hW5 lost
      have hml : lost < st.m := by omega
      rw [List.drop_eq_nil_of_le (by omega)] at hF
      have HP := Lib.hid (done_P HG.out hM hv hWv hml hN hkl htk hqk hs ht hF hb)
      clear hM hv hN hkl htk hs ht hF hb hWv hW1 hW5 hms
      generalize (F1 (.watch lost)).v = wlv at *
      go_wp2
      go_ret
      exact HP.out
end Go.Proofs.YtojjjndhabjhdaaDoor.proofD
