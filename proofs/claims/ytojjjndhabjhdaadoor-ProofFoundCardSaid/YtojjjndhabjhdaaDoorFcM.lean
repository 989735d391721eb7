/-
  Plain: numbers that are not negative, added, multiplied, divided; the queue's order.
  Contracts of the queue's functions: put, before, up, fade.
  Contract of the queue's down.
  Contracts of the queue's push and pop.
  Contracts of the queue's raise and fade.
-/
import Derived.Test.YtojjjndhabjhdaaDoorFaM
import Derived.Laws.FloatArith
import Derived.Test.YtojjjndhabjhdaaDoorFbM
import Derived.Deep.RegionLaw
import Derived.Deep.AppendLies
import Derived.Deep.DrawnRows
import Derived.Laws.Pointers
import Derived.Deep.DeepCutAuto
import Derived.BigQuiet
import Derived.Deep.QuietTactic
namespace Go.Proofs.YtojjjndhabjhdaaDoor.satF
set_option linter.unusedSimpArgs false
set_option linter.unusedVariables false
open proofP proofQ satP

def PN (d : Ieee.Datum) : Prop := (∃ m e, d = .number false m e) ∨ d = .infinity false
theorem read_pn (f : Ieee.Format) {b : Nat} (h : b ≤ f.infRung) : PN (f.read b) := by
  have h1 : b < f.signWeight := Nat.lt_of_le_of_lt h f.infRung_lt
  have h2 : (b / f.signWeight % 2 == 1) = false := by rw [Nat.div_eq_of_lt h1]; rfl
  have h3 : b % f.signWeight = b := Nat.mod_eq_of_lt h1
  unfold Ieee.Format.read
  rw [h2, h3]
  dsimp only
  by_cases c1 : b < f.binade
  · rw [if_pos c1]; exact .inl ⟨_, _, rfl⟩
  · rw [if_neg c1]
    by_cases c2 : b < f.infRung
    · rw [if_pos c2]; exact .inl ⟨_, _, rfl⟩
    · rw [if_neg c2, if_pos (by omega)]; exact .inr rfl
theorem write_pn (f : Ieee.Format) {d : Ieee.Datum} (h : PN d) : f.write d ≤ f.infRung := by
  rcases h with ⟨m, e, rfl⟩ | rfl
  · show f.nearest false m e ≤ _
    unfold Ieee.Format.nearest
    split
    · exact Nat.zero_le _
    · exact Nat.min_le_right _ _
  · exact Nat.le_refl _
theorem add_pn (f : Ieee.Format) {x y : Nat} (hx : x ≤ f.infRung) (hy : y ≤ f.infRung) : ∃ r, f.add x y = some r ∧ r ≤ f.infRung := by
  have key : ∀ a b : Ieee.Datum, PN a → PN b → ∃ d, a.sum b = some d ∧ PN d := by
    rintro a b (⟨m, e, rfl⟩ | rfl) (⟨n, f, rfl⟩ | rfl)
    · refine ⟨_, rfl, .inl ⟨(Ieee.signed false m (e - min e f).toNat + Ieee.signed false n (f - min e f).toNat).natAbs, min e f, ?_⟩⟩
      have h1 : ∀ m u, 0 ≤ Ieee.signed false m u := fun m u => by
        unfold Ieee.signed
        rw [if_neg (by simp)]
        exact Int.natCast_nonneg _
      have h2 := h1 m (e - min e f).toNat
      have h3 := h1 n (f - min e f).toNat
      generalize Ieee.signed false m (e - min e f).toNat = p at *
      generalize Ieee.signed false n (f - min e f).toNat = q at *
      congr 1
      split
      · rfl
      · simp; omega
    · exact ⟨_, rfl, .inr rfl⟩
    · exact ⟨_, rfl, .inr rfl⟩
    · exact ⟨_, rfl, .inr rfl⟩
  obtain ⟨d, h1, h2⟩ := key _ _ (read_pn f hx) (read_pn f hy)
  exact ⟨f.write d, by unfold Ieee.Format.add; rw [h1]; rfl, write_pn f h2⟩
theorem mul_pn (f : Ieee.Format) {x c m : Nat} {e : Int} (hx : x ≤ f.infRung) (hc : f.read c = .number false m e) (hm : m ≠ 0) : ∃ r, f.mul x c = some r ∧ r ≤ f.infRung := by
  have key : ∀ a : Ieee.Datum, PN a → ∃ d, a.product (.number false m e) = some d ∧ PN d := by
    rintro a (⟨n, f, rfl⟩ | rfl)
    · exact ⟨_, rfl, .inl ⟨_, _, rfl⟩⟩
    · refine ⟨.infinity false, ?_, .inr rfl⟩
      show (if m = 0 then none else _) = _
      rw [if_neg hm]; rfl
  obtain ⟨d, h1, h2⟩ := key _ (read_pn f hx)
  exact ⟨f.write d, by unfold Ieee.Format.mul; rw [hc, h1]; rfl, write_pn f h2⟩
theorem div_pn (f : Ieee.Format) {x c m : Nat} {e : Int} (hx : x ≤ f.infRung) (hc : f.read c = .number false m e) (hm : m ≠ 0) : ∃ r, f.div x c = some r ∧ r ≤ f.infRung := by
  have key : ∀ a : Ieee.Datum, PN a → ∃ d, a.quotient (f.fractionBits + 2) (.number false m e) = some d ∧ PN d := by
    rintro a (⟨n, g, rfl⟩ | rfl)
    · refine ⟨_, show (if m = 0 then _ else _) = _ from if_neg hm, .inl ⟨_, _, rfl⟩⟩
    · exact ⟨_, rfl, .inr rfl⟩
  obtain ⟨d, h1, h2⟩ := key _ (read_pn f hx)
  exact ⟨f.write d, by unfold Ieee.Format.div; rw [hc, h1]; rfl, write_pn f h2⟩
/-- the word of a number that is not negative, or of infinity -/
def FP (b : Nat) : Prop := b ≤ FloatKind.f64.format.infRung
def plainB (d : Ieee.Datum) : Bool := match d with
  | .number false m _ => m != 0
  | _ => false
theorem plainB_spec {d : Ieee.Datum} (h : plainB d = true) : ∃ m e, d = .number false m e ∧ m ≠ 0 := by
  unfold plainB at h
  split at h
  · exact ⟨_, _, rfl, by simpa using h⟩
  · cases h
theorem fp_add {x y : Nat} (hx : FP x) (hy : FP y) : ∃ r, floatBits .add .f64 x y = some r ∧ FP r := add_pn _ hx hy
theorem fp_mul {x : Nat} (hx : FP x) : ∃ r, floatBits .mul .f64 x 3110860544497550640 = some r ∧ FP r := by
  obtain ⟨m, e, h1, h2⟩ := plainB_spec (d := FloatKind.f64.format.read 3110860544497550640) (by decide +kernel)
  exact mul_pn _ hx h1 h2
theorem fp_div {x : Nat} (hx : FP x) : ∃ r, floatBits .quo .f64 x 4606732058837280358 = some r ∧ FP r := by
  obtain ⟨m, e, h1, h2⟩ := plainB_spec (d := FloatKind.f64.format.read 4606732058837280358) (by decide +kernel)
  exact div_pn _ hx h1 h2
/-- a weight, or the step -/
def IsFP (v : Value) : Prop := ∃ b, v = .float .f64 b ∧ FP b

/-- the queue's heap and its places; P: what is there -/
structure QI (V : Nat) (P : Nat → Prop) (heap : List Nat) (place : Nat → Int) : Prop where
  at' : ∀ i u, heap[i]? = some u → (1 ≤ u ∧ u ≤ V) ∧ place u = ((i : Nat) : Int)
  pl : ∀ u, 1 ≤ u → u ≤ V → (P u → ∃ i : Nat, place u = (i : Int) ∧ heap[i]? = some u) ∧ (¬ P u → place u = -1)
/-- .. where the variable v is to be put at the place a -/
structure Hole (V : Nat) (P : Nat → Prop) (heap : List Nat) (place : Nat → Int) (a v : Nat) : Prop where
  lt : a < heap.length
  vr : 1 ≤ v ∧ v ≤ V ∧ P v
  rng : ∀ u, u ∈ heap → 1 ≤ u ∧ u ≤ V
  at' : ∀ i u, i ≠ a → heap[i]? = some u → u ≠ v ∧ place u = ((i : Nat) : Int)
  pl : ∀ u, 1 ≤ u → u ≤ V → u ≠ v → (P u → ∃ i : Nat, i ≠ a ∧ place u = (i : Int) ∧ heap[i]? = some u) ∧ (¬ P u → place u = -1)
section
variable {V : Nat} {P : Nat → Prop} {heap : List Nat} {place : Nat → Int} {a v p u : Nat}
theorem QI.rng (h : QI V P heap place) {u : Nat} (hu : u ∈ heap) : 1 ≤ u ∧ u ≤ V := by
  obtain ⟨i, hi⟩ := mem_at.1 hu; exact (h.at' i u hi).1
theorem QI.inj (h : QI V P heap place) {i j u : Nat} (hi : heap[i]? = some u) (hj : heap[j]? = some u) : i = j := by
  have a := (h.at' i u hi).2
  have b := (h.at' j u hj).2
  omega
theorem QI.inP (h : QI V P heap place) {i u : Nat} (hi : heap[i]? = some u) : P u := by
  obtain ⟨⟨h1, h2⟩, h3⟩ := h.at' i u hi
  by_cases e : P u
  · exact e
  · have := (h.pl u h1 h2).2 e; omega
theorem QI.len (h : QI V P heap place) : heap.length ≤ V := by
  have hnd : heap.Nodup := by
    rw [List.Nodup, List.pairwise_iff_getElem]
    intro i j hi hj hij e
    have := h.inj (List.getElem?_eq_getElem hi) ((List.getElem?_eq_getElem hj).trans (congrArg some e.symm))
    omega
  have hn : (heap.map fun x => x - 1).Nodup := by
    rw [List.Nodup, List.pairwise_iff_getElem] at hnd ⊢
    intro i j hi hj hij e
    simp only [List.length_map] at hi hj
    simp only [List.getElem_map] at e
    have a := h.rng (List.getElem_mem hi)
    have b := h.rng (List.getElem_mem hj)
    exact hnd i j hi hj hij (by omega)
  have := nodup_bound hn (m := V) (fun x hx => by
    obtain ⟨y, hy, rfl⟩ := List.mem_map.1 hx
    have := h.rng hy; omega)
  simpa using this
theorem QI.hole (h : QI V P heap place) (hv : heap[a]? = some v) : Hole V P heap place a v := by
  refine ⟨at_lt hv, ⟨(h.at' a v hv).1.1, (h.at' a v hv).1.2, h.inP hv⟩, fun u hu => h.rng hu, fun i u hi hu => ⟨fun e => hi ?_, (h.at' i u hu).2⟩, fun u h1 h2 hne => ⟨fun hP => ?_, (h.pl u h1 h2).2⟩⟩
  · subst e; exact h.inj hu hv
  · obtain ⟨i, hi, hu⟩ := (h.pl u h1 h2).1 hP
    refine ⟨i, fun e => hne ?_, hi, hu⟩
    subst e; rw [hv] at hu; exact (Option.some.inj hu).symm
/-- another variable is put into the hole; its place is the new one -/
theorem Hole.move (h : Hole V P heap place a v) (hp : heap[p]? = some u) (hne : p ≠ a) : Hole V P (heap.set a u) (updN place u (a : Int)) p v := by
  have hpl := at_lt hp
  obtain ⟨huv, hpu⟩ := h.at' p u hne hp
  have hur := h.rng u (mem_at.2 ⟨p, hp⟩)
  have huP : P u := by
    by_cases e : P u
    · exact e
    · have := (h.pl u hur.1 hur.2 huv).2 e; omega
  refine ⟨by simpa using hpl, h.vr, fun x hx => ?_, fun i x hi hx => ?_, fun x h1 h2 hx => ?_⟩
  · rcases List.mem_or_eq_of_mem_set hx with hx | rfl
    · exact h.rng x hx
    · exact hur
  · rw [List.getElem?_set] at hx
    by_cases e : a = i
    · subst e
      rw [if_pos rfl, if_pos h.lt] at hx
      cases hx
      exact ⟨huv, by rw [updN_same]⟩
    · rw [if_neg e] at hx
      have h3 := h.at' i x (fun e' => e e'.symm) hx
      refine ⟨h3.1, ?_⟩
      rw [updN_other _ _ ?_]
      · exact h3.2
      · intro e2; subst e2
        have := h3.2; omega
  · by_cases e : x = u
    · subst e
      refine ⟨fun _ => ⟨a, fun e => hne e.symm, by rw [updN_same], by rw [List.getElem?_set, if_pos rfl, if_pos h.lt]⟩, fun hh => absurd huP hh⟩
    · rw [updN_other _ _ e]
      refine ⟨fun hP => ?_, (h.pl x h1 h2 hx).2⟩
      obtain ⟨i, hi, h3, h4⟩ := (h.pl x h1 h2 hx).1 hP
      refine ⟨i, fun e2 => ?_, h3, by rw [List.getElem?_set, if_neg (fun e3 => hi e3.symm)]; exact h4⟩
      subst e2
      rw [hp] at h4; exact e (Option.some.inj h4).symm
/-- the hole is filled -/
theorem Hole.fill (h : Hole V P heap place a v) : QI V P (heap.set a v) (updN place v (a : Int)) := by
  refine ⟨fun i x hx => ?_, fun x h1 h2 => ?_⟩
  · rw [List.getElem?_set] at hx
    by_cases e : a = i
    · subst e
      rw [if_pos rfl, if_pos h.lt] at hx
      cases hx
      exact ⟨⟨h.vr.1, h.vr.2.1⟩, by rw [updN_same]⟩
    · rw [if_neg e] at hx
      have h3 := h.at' i x (fun e' => e e'.symm) hx
      exact ⟨h.rng x (mem_at.2 ⟨i, hx⟩), by rw [updN_other _ _ h3.1]; exact h3.2⟩
  · by_cases e : x = v
    · subst e
      exact ⟨fun _ => ⟨a, by rw [updN_same], by rw [List.getElem?_set, if_pos rfl, if_pos h.lt]⟩, fun hh => absurd h.vr.2.2 hh⟩
    · rw [updN_other _ _ e]
      refine ⟨fun hP => ?_, (h.pl x h1 h2 e).2⟩
      obtain ⟨i, hi, h3, h4⟩ := (h.pl x h1 h2 e).1 hP
      exact ⟨i, h3, by rw [List.getElem?_set, if_neg (fun e3 => hi e3.symm)]; exact h4⟩
/-- a variable more, at the end -/
theorem QI.push (h : QI V P heap place) (hv : 1 ≤ v ∧ v ≤ V) (hP : ¬ P v) : QI V (fun u => P u ∨ u = v) (heap ++ [v]) (updN place v (heap.length : Int)) := by
  have hni : ∀ i, heap[i]? ≠ some v := fun i hi => hP (h.inP hi)
  refine ⟨fun i x hx => ?_, fun x h1 h2 => ?_⟩
  · rcases snoc_at.1 hx with hx' | ⟨rfl, rfl⟩
    · have h3 := h.at' i x hx'
      exact ⟨h3.1, by rw [updN_other _ _ (fun e => by rw [e] at hx'; exact hni i hx')]; exact h3.2⟩
    · exact ⟨hv, by rw [updN_same]⟩
  · by_cases e : x = v
    · subst e
      exact ⟨fun _ => ⟨heap.length, by rw [updN_same], by simp⟩, fun hh => absurd (.inr rfl) hh⟩
    · rw [updN_other _ _ e]
      refine ⟨fun hh => ?_, fun hh => (h.pl x h1 h2).2 (fun h3 => hh (.inl h3))⟩
      rcases hh with hh | hh
      · obtain ⟨i, h3, h4⟩ := (h.pl x h1 h2).1 hh
        exact ⟨i, h3, snoc_at.2 (.inl h4)⟩
      · exact absurd hh e
/-- the first one is taken away: where it stood the last one is to be put -/
theorem QI.pop (h : QI V P heap place) {first last : Nat} (hf : heap[0]? = some first) (hl : heap[heap.length - 1]? = some last) (h2 : 2 ≤ heap.length) : Hole V (fun u => P u ∧ u ≠ first) (heap.take (heap.length - 1)) (updN place first (-1)) 0 last := by
  have hne : last ≠ first := by
    intro e; subst e
    have := h.inj hf hl; omega
  refine ⟨by simp; omega, ⟨(h.at' _ _ hl).1.1, (h.at' _ _ hl).1.2, h.inP hl, hne⟩, fun u hu => h.rng (List.mem_of_mem_take hu), fun i u hi hu => ?_, fun u h3 h4 h5 => ?_⟩
  · obtain ⟨hlt, hu⟩ := take_at.1 hu
    refine ⟨fun e => ?_, ?_⟩
    · subst e; have := h.inj hu hl; omega
    · rw [updN_other _ _ (fun e => by subst e; exact hi (h.inj hu hf))]
      exact (h.at' i u hu).2
  · by_cases e : u = first
    · subst e; exact ⟨fun hh => absurd rfl hh.2, fun _ => by rw [updN_same]⟩
    · rw [updN_other _ _ e]
      refine ⟨fun hh => ?_, fun hh => (h.pl u h3 h4).2 (fun hp => hh ⟨hp, e⟩)⟩
      obtain ⟨i, h6, h7⟩ := (h.pl u h3 h4).1 hh.1
      have hil := at_lt h7
      refine ⟨i, fun e2 => ?_, h6, take_at.2 ⟨?_, h7⟩⟩
      · subst e2; rw [hf] at h7; exact e (Option.some.inj h7).symm
      · by_cases e3 : i = heap.length - 1
        · subst e3; rw [hl] at h7; exact absurd (Option.some.inj h7).symm h5
        · omega
theorem QI.popOne (h : QI V P heap place) {first : Nat} (hf : heap[0]? = some first) (h1 : heap.length = 1) : QI V (fun u => P u ∧ u ≠ first) (heap.take (heap.length - 1)) (updN place first (-1)) := by
  refine ⟨fun i x hx => ?_, fun u h3 h4 => ?_⟩
  · rw [h1] at hx; simp at hx
  · by_cases e : u = first
    · subst e; exact ⟨fun hh => absurd rfl hh.2, fun _ => by rw [updN_same]⟩
    · rw [updN_other _ _ e]
      refine ⟨fun hh => ?_, fun hh => (h.pl u h3 h4).2 (fun hp => hh ⟨hp, e⟩)⟩
      obtain ⟨i, h6, h7⟩ := (h.pl u h3 h4).1 hh.1
      have hil := at_lt h7
      obtain rfl : i = 0 := by omega
      rw [hf] at h7; exact absurd (Option.some.inj h7).symm e
theorem QI.alike {P' : Nat → Prop} (h : QI V P heap place) (he : ∀ u, 1 ≤ u → u ≤ V → (P u ↔ P' u)) : QI V P' heap place :=
  ⟨h.at', fun u h1 h2 => ⟨fun hp => (h.pl u h1 h2).1 ((he u h1 h2).2 hp), fun hp => (h.pl u h1 h2).2 (fun h' => hp ((he u h1 h2).1 h'))⟩⟩
end
end Go.Proofs.YtojjjndhabjhdaaDoor.satF
namespace Go.Proofs.YtojjjndhabjhdaaDoor.satB
set_option linter.unusedSimpArgs false
set_option linter.unusedVariables false
open Go.ChangeShapes Go.WideShapes Go.ChangeAt Go.RowKit proofP proofQ owns satP satA satF
attribute [local go_sem ↓] Go.wp_at_zero Go.wp_at_succ

theorem getD_iv {l : List Nat} {j : Nat} (hj : j < l.length) : (l.map iv)[j]? = some (.int .i64 (l.getD j 0 : Nat)) := by
  rw [List.getElem?_map, List.getElem?_eq_getElem hj, List.getD_eq_getElem?_getD, List.getElem?_eq_getElem hj]; rfl
theorem range_at {α : Type} {f : Nat → α} {n j : Nat} (hj : j < n) : ((List.range n).map f)[j]? = some (f j) := by simp [hj]
theorem range_set {α : Type} {f : Nat → α} {n j : Nat} (x : α) : ((List.range n).map f).set j x = (List.range n).map (fun i => if i = j then x else f i) := by
  apply List.ext_getElem?
  intro i
  rw [List.getElem?_set]
  simp only [List.length_map, List.length_range, List.getElem?_map]
  by_cases hi : i < n
  · rw [List.getElem?_range hi]
    simp only [Option.map_some]
    by_cases e : j = i
    · subst e; simp [hi]
    · rw [if_neg e, if_neg (fun e' => e e'.symm)]
  · rw [List.getElem?_eq_none (by simp; omega)]
    by_cases e : j = i
    · rw [if_pos e, if_neg (by omega)]; rfl
    · rw [if_neg e]; rfl
def _root_.Go.Proofs.YtojjjndhabjhdaaDoor.satA.SS.qu (s : SS) (hp : List Nat) (pl : Nat → Int) : SS := { s with heap := hp, place := pl }
section
variable {w w' : World} {B bp : Nat} {s : SS} {F : Ix → Ent}
/-- a cell of the heap, and of the places, is written -/
theorem _root_.Go.Proofs.YtojjjndhabjhdaaDoor.satA.Mem.setHeap (h : Mem w B bp s F) {g cap n : Nat} (hv : (F .heap).v = .slice (some ⟨g, 0, none⟩) n cap) (j v : Nat) :
    Mem (w.setCell ⟨g, j, none⟩ (.int .i64 v)) B bp (s.qu (s.heap.set j v) s.place) (upd F .heap ⟨(F .heap).e, (F .heap).v, (F .heap).xs.set j (.int .i64 v)⟩) :=
  (h.write hv j (.int .i64 v) (s' := { s with heap := s.heap.set j v }) (by simp [cont, List.map_set, iv]) (by intro i hi; cases i <;> first | rfl | exact absurd rfl hi) rfl rfl rfl rfl rfl).1
theorem _root_.Go.Proofs.YtojjjndhabjhdaaDoor.satA.Mem.setPlace (h : Mem w B bp s F) {g cap n : Nat} (hv : (F .place).v = .slice (some ⟨g, 0, none⟩) n cap) (j : Nat) (v : Int) :
    Mem (w.setCell ⟨g, j, none⟩ (.int .i64 v)) B bp (s.qu s.heap (updN s.place j v)) (upd F .place ⟨(F .place).e, (F .place).v, (F .place).xs.set j (.int .i64 v)⟩) :=
  (h.write hv j (.int .i64 v) (s' := { s with place := updN s.place j v }) (by
    unfold cont
    dsimp only
    rw [range_set]
    apply List.map_congr_left
    intro i _
    unfold updN
    split <;> rfl) (by intro i hi; cases i <;> first | rfl | exact absurd rfl hi) rfl rfl rfl rfl rfl).1

def PutP (B bp : Nat) (s : SS) (F : Ix → Ent) (v a : Nat) (w : World) (e : Ending) (w' : World) : Prop :=
  e = .returned (.tuple #[]) ∧ ∃ F', Mem w' B bp (s.qu (s.heap.set a v) (updN s.place v (a : Int))) F' ∧ fvs F' = fvs F ∧ Below B w w'
set_option maxRecDepth 100000 in
theorem put_any (h : Mem w B bp s F) (v a : Nat) (ha : a < s.heap.length) (hv : v ≤ s.V) (hV : s.V ≤ 20000) (hl : s.heap.length ≤ 20000) : Calls Tryd.prog 83 #[.pointer (some ⟨bp, 17, none⟩), .int .i64 v, .int .i64 a] w (PutP B bp s F v a w) := by
  obtain ⟨gH, cH, hH, qH, zH, nH, bH, lH, _, kH, _⟩ := h.at .heap (n := s.heap.length) (by simp [cont]) (by omega)
  obtain ⟨gP, cP, hP, qP, zP, nP, bP, lP, _, kP, _⟩ := h.at .place (n := s.V + 1) (by simp [cont]) (by omega)
  have n1 := h.two (by decide) hH hP
  have n2 : bp ≠ gH := fun e => nH e.symm
  have n3 : gP ≠ gH := fun e => n1 e.symm
  have f17 : w.cell? ⟨bp, 17, none⟩ = some (F .heap).v := h.fld 17
  have f18 : w.cell? ⟨bp, 18, none⟩ = some (F .place).v := h.fld 18
  rw [hH] at f17
  rw [hP] at f18
  have q1 := qH a ha
  have q2 := qP v (by omega)
  have z1 := zH a
  have z2 := zP v
  rw [show cont s (fvs F) .heap = s.heap.map iv from rfl, getD_iv ha] at q1
  rw [show cont s (fvs F) .place = (List.range (s.V + 1)).map fun v => zv (s.place v) from rfl, range_at (by omega)] at q2
  unfold zv at q2
  have M1 := h.setHeap hH a v
  have M2 := M1.setPlace (g := gP) (n := s.V + 1) (cap := cP) (by rw [upd_other _ _ (by decide)]; exact hP) v a
  have HF : Hid (PutP B bp s F v a w (.returned (.tuple #[])) ((w.setCell ⟨gH, a, none⟩ (.int .i64 v)).setCell ⟨gP, v, none⟩ (.int .i64 a))) := Lib.hid ⟨rfl, _, M2, by rw [fvs_set, fvs_set], ((Below.refl B w).setCell bH _).setCell bP _⟩
  clear h M1 M2 qH zH qP zP hH hP
  generalize s.heap.getD a 0 = old at *
  generalize s.place v = oldp at *
  go_enter Tryd.func83, Tryd.ntmps83
  go_wp2
  go_end0
  exact HF.out

/-- the weights -/
structure WF (s : SS) : Prop where
  len : s.weight.length = s.V + 1
  fp : ∀ v, v ∈ s.weight → IsFP v
  st : IsFP s.step
theorem WF.at (h : WF s) {v : Nat} (hv : v ≤ s.V) : ∃ b, s.weight[v]? = some (.float .f64 b) ∧ FP b := by
  have hl := h.len
  obtain ⟨b, h1, h2⟩ := h.fp _ (List.getElem_mem (show v < s.weight.length by omega))
  exact ⟨b, by rw [List.getElem?_eq_getElem (by omega), h1], h2⟩
/-- does one variable come ahead of another one? -/
def bef (s : SS) (a b : Nat) : Bool := match s.weight[a]?, s.weight[b]? with
  | some (.float _ x), some (.float _ y) => if (FloatKind.f64.format.order x y != some Ordering.eq) then (FloatKind.f64.format.order x y == some Ordering.gt) else decide (a < b)
  | _, _ => false
set_option maxRecDepth 100000 in
theorem before_any (h : Mem w B bp s F) (hW : WF s) (a b : Nat) (ha : a ≤ s.V) (hb : b ≤ s.V) (hV : s.V ≤ 20000) : Calls Tryd.prog 96 #[.pointer (some ⟨bp, 17, none⟩), .int .i64 a, .int .i64 b] w fun e w' => e = .returned (.bool (bef s a b)) ∧ ∃ m, w' = w.drewN m := by
  obtain ⟨g, c, hv, q, z, n1, b1, l1, _, k1, _⟩ := h.at .weight (n := s.V + 1) (by simp [cont, hW.len]) (by omega)
  have f19 : w.cell? ⟨bp, 19, none⟩ = some (F .weight).v := h.fld 19
  rw [hv] at f19
  obtain ⟨x, hx, _⟩ := hW.at ha
  obtain ⟨y, hy, _⟩ := hW.at hb
  have q1 := q a (by omega)
  have q2 := q b (by omega)
  rw [show cont s (fvs F) .weight = s.weight from rfl] at q1 q2
  rw [hx] at q1
  rw [hy] at q2
  have HB : Hid (bef s a b = if (FloatKind.f64.format.order x y != some Ordering.eq) then (FloatKind.f64.format.order x y == some Ordering.gt) else decide (a < b)) := Lib.hid (by unfold bef; rw [hx, hy])
  generalize bef s a b = r0 at *
  clear h hW q z hx hy hv
  go_enter Tryd.func96, Tryd.ntmps96
  go_wp2
  go_region
  generalize (FloatKind.f64.format.order x y != some Ordering.eq) = r at *
  cases r
  · go_wp2
    go_ret
    exact ⟨by rw [HB.out]; rfl, 1, rfl⟩
  · go_wp2
    go_region
    go_wp2
    go_ret
    exact ⟨by rw [HB.out]; rfl, 2, rfl⟩

/-- what the queue's functions leave: the heap, its places -/
def QuP (B bp : Nat) (s : SS) (F : Ix → Ent) (P : Nat → Prop) (w w' : World) : Prop :=
  ∃ hp pl F', Mem w' B bp (s.qu hp pl) F' ∧ fvs F' = fvs F ∧ Below B w w' ∧ QI s.V P hp pl ∧ hp.length = s.heap.length
set_option maxHeartbeats 1000000 in
set_option maxRecDepth 100000 in
theorem up_any (h : Mem w B bp s F) (hW : WF s) (hV : s.V ≤ 20000) (P : Nat → Prop) (hQ : QI s.V P s.heap s.place) (a : Nat) (ha : a < s.heap.length) : Calls Tryd.prog 92 #[.pointer (some ⟨bp, 17, none⟩), .int .i64 a] w fun e w' => e = .returned (.tuple #[]) ∧ QuP B bp s F P w w' := by
  obtain ⟨gH, cH, hH, qH, zH, nH, bH, lH, _, kH, _⟩ := h.at .heap (n := s.heap.length) (by simp [cont]) (by omega)
  have f17 : w.cell? ⟨bp, 17, none⟩ = some (F .heap).v := h.fld 17
  rw [hH] at f17
  have q1 := qH a ha
  rw [show cont s (fvs F) .heap = s.heap.map iv from rfl, getD_iv ha] at q1
  have hv : s.heap[a]? = some (s.heap.getD a 0) := by rw [List.getD_eq_getElem?_getD, List.getElem?_eq_getElem ha]; rfl
  have HO := Lib.hid (hQ.hole hv)
  have hlen := hQ.len
  have hB := h.hB
  have hbl := h.obj.lt
  generalize s.heap.getD a 0 = v at *
  have HM := Lib.hid h
  have HW := Lib.hid hW
  have HH := Lib.hid hH
  have hvv := HO.out.vr.2.1
  clear h hW hQ hH qH zH hv
  go_enter Tryd.func92, Tryd.ntmps92
  go_wp2
  go_loopw [1, 5] (fun x y wr => ∃ (p : Nat) (hp : List Nat) (pl : Nat → Int) (F' : Ix → Ent), x = .int .i64 p ∧ p < s.heap.length ∧ hp.length = s.heap.length ∧ Mem wr B bp (s.qu hp pl) F' ∧ fvs F' = fvs F ∧ Below B w wr ∧ Hole s.V P hp pl p v) (fun x _ _ => (intOf x).toNat)
  case atStart => exact ⟨a, s.heap, s.place, F, rfl, ha, rfl, HM.out, rfl, Below.refl _ _, HO.out⟩
  case round =>
    obtain ⟨p, hp, pl, F1, rfl, hpl, hlp, hM, hF, hb, hO⟩ := hrel
    have hB2 := hM.hB
    have hbl2 := hM.obj.lt
    obtain ⟨gI, cI, hI, qI, zI, nI, bI, lI, _, kI, _⟩ := hM.at .heap (n := s.heap.length) (by simp [cont, SS.qu, hlp]) (by omega)
    have f17' : wr.cell? ⟨bp, 17, none⟩ = some (F1 .heap).v := hM.fld 17
    rw [hI] at f17'
    have hM' := Lib.hid hM
    have hF' := Lib.hid hF
    have hb' := Lib.hid hb
    have hO' := Lib.hid hO
    by_cases h0 : 0 < p
    · have hpp : (p - 1) / 2 < s.heap.length := by omega
      have q2 := qI ((p - 1) / 2) hpp
      rw [show cont (s.qu hp pl) (fvs F1) .heap = hp.map iv from rfl, getD_iv (by omega)] at q2
      have hg : hp[(p - 1) / 2]? = some (hp.getD ((p - 1) / 2) 0) := by rw [List.getD_eq_getElem?_getD, List.getElem?_eq_getElem (by omega)]; rfl
      have hr := hO.rng _ (mem_at.2 ⟨_, hg⟩)
      have HG := Lib.hid hg
      generalize hp.getD ((p - 1) / 2) 0 = u at *
      clear hM hF hb hO qI zI hI f17 q1 hg
      have hd : Int.tdiv ((p : Int) - 1) 2 = (((p - 1) / 2 : Nat) : Int) := by rw [Int.tdiv_eq_ediv_of_nonneg (by omega)]; omega
      have hq0 : (p - 1) / 2 ≠ p := by omega
      have hq1 : (p - 1) / 2 < p := by omega
      generalize (p - 1) / 2 = q at *
      go_wp2_with fail
      refine (before_any hM'.out ⟨HW.out.len, HW.out.fp, HW.out.st⟩ v u (by exact hvv) (by exact hr.2) hV).mono ?_
      rintro e w2 ⟨rfl, m2, rfl⟩
      have hb2 := Go.Joins.below_draws wr.heap.size wr m2
      generalize bef (s.qu hp pl) v u = r at *
      generalize wr.drewN m2 = w2 at *
      have HM2 := Lib.hid (hM'.out.below hb2)
      have HB2 := Lib.hid (hb'.out.trans (hb2.mono (by omega)))
      have f17'' : w2.cell? ⟨bp, 17, none⟩ = some (.slice (some ⟨gI, 0, none⟩) s.heap.length cI) := (hb2.cell (by show bp < _; omega)).trans f17'
      have q2' : w2.cell? ⟨gI, q, none⟩ = some (.int .i64 u) := (hb2.cell (by show gI < _; omega)).trans q2
      clear f17' q2 hb2
      cases r
      · have HP := Lib.hid (put_any HM2.out v p (by show p < hp.length; omega) (by exact hvv) hV (by show hp.length ≤ _; omega))
        have HFI := Lib.hid hO'.out.fill
        go_wp2_with fail
        refine HP.out.mono ?_
        rintro e w3 ⟨rfl, F3, hM3, hF3, hb3⟩
        go_wp2
        go_end0
        exact ⟨rfl, _, _, F3, hM3, hF3.trans hF'.out, HB2.out.trans hb3, HFI.out, by show (hp.set p v).length = _; rw [List.length_set]; exact hlp⟩
      · have HP := Lib.hid (put_any HM2.out u p (by show p < hp.length; omega) (by exact hr.2) hV (by show hp.length ≤ _; omega))
        have HMV := Lib.hid (hO'.out.move HG.out hq0)
        go_wp2_with fail
        refine HP.out.mono ?_
        rintro e w3 ⟨rfl, F3, hM3, hF3, hb3⟩
        have HR : Hid (Mem w3 B bp (s.qu (hp.set p u) (updN pl u (p : Int))) F3 ∧ fvs F3 = fvs F ∧ Below B w w3 ∧ Hole s.V P (hp.set p u) (updN pl u (p : Int)) q v) := Lib.hid ⟨hM3, hF3.trans hF'.out, HB2.out.trans hb3, HMV.out⟩
        have hll : (hp.set p u).length = s.heap.length := by rw [List.length_set]; exact hlp
        clear hM3 hF3 hb3
        go_wp2
        go_roundw
        case rel => exact ⟨q, _, _, F3, rfl, hpp, hll, HR.out⟩
        case measure => simp [intOf]; omega
    · obtain rfl : p = 0 := by omega
      have HP := Lib.hid (put_any hM'.out v 0 (by show 0 < hp.length; omega) (by exact hvv) hV (by show hp.length ≤ _; omega))
      have HFI := Lib.hid hO'.out.fill
      clear hM hF hb hO qI zI hI f17 q1
      go_wp2_with fail
      refine HP.out.mono ?_
      rintro e w3 ⟨rfl, F3, hM3, hF3, hb3⟩
      go_wp2
      go_end0
      exact ⟨rfl, _, _, F3, hM3, hF3.trans hF'.out, hb'.out.trans hb3, HFI.out, by show (hp.set 0 v).length = _; rw [List.length_set]; exact hlp⟩
end
end Go.Proofs.YtojjjndhabjhdaaDoor.satB
namespace Go.Proofs.YtojjjndhabjhdaaDoor.satC
set_option linter.unusedSimpArgs false
set_option linter.unusedVariables false
open Go.ChangeShapes Go.WideShapes Go.ChangeAt Go.RowKit proofP proofQ owns satP satA satF satB
attribute [local go_sem ↓] Go.wp_at_zero Go.wp_at_succ

section
variable {w w' : World} {B bp : Nat} {s : SS} {F : Ix → Ent}
/-- while a variable sinks: its child k is chosen -/
def SinkP (B bp : Nat) (s : SS) (F : Ix → Ent) (P : Nat → Prop) (w : World) (p v : Nat) (wr : World) (hp : List Nat) (pl : Nat → Int) (F' : Ix → Ent) : Prop :=
  p < s.heap.length ∧ hp.length = s.heap.length ∧ Mem wr B bp (s.qu hp pl) F' ∧ fvs F' = fvs F ∧ Below B w wr ∧ Hole s.V P hp pl p v
set_option maxHeartbeats 2000000 in
set_option maxRecDepth 100000 in
theorem down_any (h : Mem w B bp s F) (hW : WF s) (hV : s.V ≤ 20000) (P : Nat → Prop) (hQ : QI s.V P s.heap s.place) (a : Nat) (ha : a < s.heap.length) : Calls Tryd.prog 84 #[.pointer (some ⟨bp, 17, none⟩), .int .i64 a] w fun e w' => e = .returned (.tuple #[]) ∧ QuP B bp s F P w w' := by
  obtain ⟨gH, cH, hH, qH, zH, nH, bH, lH, _, kH, _⟩ := h.at .heap (n := s.heap.length) (by simp [cont]) (by omega)
  have f17 : w.cell? ⟨bp, 17, none⟩ = some (F .heap).v := h.fld 17
  rw [hH] at f17
  have q1 := qH a ha
  rw [show cont s (fvs F) .heap = s.heap.map iv from rfl, getD_iv ha] at q1
  have hv : s.heap[a]? = some (s.heap.getD a 0) := by rw [List.getD_eq_getElem?_getD, List.getElem?_eq_getElem ha]; rfl
  have HO := Lib.hid (hQ.hole hv)
  have hlen := hQ.len
  have hB := h.hB
  have hbl := h.obj.lt
  generalize s.heap.getD a 0 = v at *
  have HM := Lib.hid h
  have HW := Lib.hid hW
  have hvv := HO.out.vr.2.1
  clear h hW hQ hH qH zH hv
  go_enter Tryd.func84, Tryd.ntmps84
  go_wp2
  go_loopw [1, 5] (fun x y wr => ∃ (p : Nat) (hp : List Nat) (pl : Nat → Int) (F' : Ix → Ent), x = .int .i64 p ∧ SinkP B bp s F P w p v wr hp pl F') (fun x _ _ => s.heap.length - (intOf x).toNat)
  case atStart => exact ⟨a, s.heap, s.place, F, rfl, ha, rfl, HM.out, rfl, Below.refl _ _, HO.out⟩
  case round =>
    obtain ⟨p, hp, pl, F1, rfl, hS⟩ := hrel
    obtain ⟨hpl, hlp, hM, hF, hb, hO⟩ := id hS
    have hB2 := hM.hB
    have hbl2 := hM.obj.lt
    obtain ⟨gI, cI, hI, qI, zI, nI, bI, lI, _, kI, _⟩ := hM.at .heap (n := s.heap.length) (by simp [cont, SS.qu, hlp]) (by omega)
    have f17' : wr.cell? ⟨bp, 17, none⟩ = some (F1 .heap).v := hM.fld 17
    rw [hI] at f17'
    have QI' : ∀ j, j < s.heap.length → wr.cell? ⟨gI, j, none⟩ = some (.int .i64 (hp.getD j 0 : Nat)) := by
      intro j hj
      rw [qI j hj, show cont (s.qu hp pl) (fvs F1) .heap = hp.map iv from rfl, getD_iv (by omega)]
    have HAT : ∀ j, j < s.heap.length → hp[j]? = some (hp.getD j 0) := by
      intro j hj; rw [List.getD_eq_getElem?_getD, List.getElem?_eq_getElem (by omega)]; rfl
    have HR : ∀ j, j < s.heap.length → hp.getD j 0 ≤ s.V := fun j hj => (hO.rng _ (mem_at.2 ⟨j, HAT j hj⟩)).2
    have hWF : WF (s.qu hp pl) := ⟨HW.out.len, HW.out.fp, HW.out.st⟩
    -- what is done once the child is chosen
    have hQI := Lib.hid QI'
    have hAT := Lib.hid HAT
    have hRR := Lib.hid HR
    have HS := Lib.hid hS
    have HWF := Lib.hid hWF
    have HMM := Lib.hid hM
    clear hM hF hb hO qI zI hI f17 q1 QI' HAT HR hS hWF
    by_cases h1 : 2 * p + 1 < s.heap.length
    · go_upto_region 3 with (fail)
      have hwr : IntKind.i64.wrap (2 * (p : Int) + 1 + 1) = 2 * (p : Int) + 2 := by rw [IntWalk.i64_in _ (by omega)]; omega
      go_cut [49] (fun c wx => ∃ r, c = .bool r ∧ (r = true → 2 * p + 2 < s.heap.length) ∧ Below wr.heap.size wr wx)
      case first =>
        by_cases h2 : 2 * p + 2 < s.heap.length
        · have h2i : 2 * (p : Int) + 2 < (s.heap.length : Int) := by omega
          have h1i : 2 * (p : Int) + 1 < (s.heap.length : Int) := by omega
          have c1 := hQI.out (2 * p + 1) h1
          have c2 := hQI.out (2 * p + 2) h2
          have HBE := Lib.hid (fun n => before_any (HMM.out.below (Go.Joins.below_draws wr.heap.size wr n)) HWF.out (hp.getD (2 * p + 2) 0) (hp.getD (2 * p + 1) 0) (hRR.out _ h2) (hRR.out _ h1) hV)
          generalize bef (s.qu hp pl) (hp.getD (2 * p + 2) 0) (hp.getD (2 * p + 1) 0) = r at *
          generalize hp.getD (2 * p + 1) 0 = u1 at *
          generalize hp.getD (2 * p + 2) 0 = u2 at *
          go_wp2_with fail
          go_quiet (first | (go_at_call 96; exact Calls.quiet_of (HBE.out _)))
          go_wp2
          go_meet
          case rel => exact ⟨r, rfl, fun _ => h2, Go.Joins.below_draws _ _ _⟩
        · have hd : decide (2 * (p : Int) + 2 < (s.heap.length : Int)) = false := by rw [decide_eq_false_iff_not]; omega
          go_wp2_with fail
          go_quiet (fail)
          go_wp2
          go_meet
          case rel => exact ⟨false, rfl, (by intro h; cases h), Go.Joins.below_draws _ _ _⟩
      case rest =>
        obtain ⟨r, rfl, hr, hb2⟩ := hcut
        have HM2 := Lib.hid (HMM.out.below hb2)
        have HB2 := Lib.hid (HS.out.2.2.2.2.1.trans (hb2.mono (by omega)))
        have hsz := hb2.size
        have HBX := Lib.hid hb2
        clear hb2
        go_upto_if 49 with (fail)
        go_cut [5] (fun c wx => ∃ k : Nat, c = .int .i64 k ∧ k < s.heap.length ∧ p < k ∧ wx = wc)
        case first =>
          cases r
          · go_wp2_with fail
            go_meet
            case rel => exact ⟨2 * p + 1, by go_num, h1, by omega, rfl⟩
          · have := hr rfl
            go_wp2_with fail
            go_meet
            case rel => exact ⟨2 * p + 2, by go_num, this, by omega, rfl⟩
        case rest =>
          obtain ⟨k, rfl, hk, hpk, rfl⟩ := hcut
          have f17c : wc.cell? ⟨bp, 17, none⟩ = some (.slice (some ⟨gI, 0, none⟩) s.heap.length cI) := (HBX.out.cell hbl2).trans f17'
          have qc : wc.cell? ⟨gI, k, none⟩ = some (.int .i64 (hp.getD k 0 : Nat)) := (HBX.out.cell lI).trans (hQI.out k hk)
          have hur := hRR.out k hk
          have HG := Lib.hid (hAT.out k hk)
          generalize hp.getD k 0 = u at *
          have HB := Lib.hid (before_any HM2.out HWF.out u v hur hvv hV)
          generalize bef (s.qu hp pl) u v = r2 at *
          clear hQI hAT hRR f17' hwr HBX
          go_wp2_with fail
          refine HB.out.mono ?_
          rintro e w3 ⟨rfl, m3, rfl⟩
          have hb3 := Go.Joins.below_draws wc.heap.size wc m3
          generalize wc.drewN m3 = w3 at *
          have HM3 := Lib.hid (HM2.out.below hb3)
          have HB3 := Lib.hid (HB2.out.trans (hb3.mono (by omega)))
          have f17d : w3.cell? ⟨bp, 17, none⟩ = some (.slice (some ⟨gI, 0, none⟩) s.heap.length cI) := (hb3.cell (by show bp < _; omega)).trans f17c
          have qd : w3.cell? ⟨gI, k, none⟩ = some (.int .i64 u) := (hb3.cell (by show gI < _; omega)).trans qc
          have hsz3 := hb3.size
          clear hb3 f17c qc HB
          cases r2
          · have hPut := Lib.hid (put_any HM3.out v p (by show p < hp.length; omega) (by exact hvv) hV (by show hp.length ≤ _; omega))
            go_wp2_with fail
            refine hPut.out.mono ?_
            rintro e w4 ⟨rfl, F4, hM4, hF4, hb4⟩
            go_wp2
            go_end0
            exact ⟨rfl, _, _, F4, hM4, hF4.trans HS.out.2.2.2.1, HB3.out.trans hb4, HS.out.2.2.2.2.2.fill, by show (hp.set p v).length = _; rw [List.length_set]; exact hlp⟩
          · have hPut := Lib.hid (put_any HM3.out u p (by show p < hp.length; omega) (by exact hur) hV (by show hp.length ≤ _; omega))
            have HMV := Lib.hid (HS.out.2.2.2.2.2.move HG.out (by omega))
            go_wp2_with fail
            refine hPut.out.mono ?_
            rintro e w4 ⟨rfl, F4, hM4, hF4, hb4⟩
            have HR : Hid (SinkP B bp s F P w k v w4 (hp.set p u) (updN pl u (p : Int)) F4) := Lib.hid ⟨hk, by rw [List.length_set]; exact hlp, hM4, hF4.trans HS.out.2.2.2.1, HB3.out.trans hb4, HMV.out⟩
            clear hM4 hF4 hb4
            go_wp2
            go_roundw
            case rel => exact ⟨k, _, _, F4, rfl, HR.out⟩
            case measure => simp [intOf]; omega
    · have hPut := Lib.hid (put_any HMM.out v p (by show p < hp.length; omega) (by exact hvv) hV (by show hp.length ≤ _; omega))
      go_wp2_with fail
      refine hPut.out.mono ?_
      rintro e w3 ⟨rfl, F3, hM3, hF3, hb3⟩
      go_wp2
      go_end0
      exact ⟨rfl, _, _, F3, hM3, hF3.trans HS.out.2.2.2.1, HS.out.2.2.2.2.1.trans hb3, HS.out.2.2.2.2.2.fill, by show (hp.set p v).length = _; rw [List.length_set]; exact hlp⟩
end
end Go.Proofs.YtojjjndhabjhdaaDoor.satC
namespace Go.Proofs.YtojjjndhabjhdaaDoor.satD
set_option linter.unusedSimpArgs false
set_option linter.unusedVariables false
open Go.ChangeShapes Go.WideShapes Go.ChangeAt Go.RowKit proofP proofQ owns satP satA satF satB satC
attribute [local go_sem ↓] Go.wp_at_zero Go.wp_at_succ

section
variable {w w' : World} {B bp : Nat} {s : SS} {F : Ix → Ent}
theorem infoI : (Tryd.prog.info? 3).map (fun i => (i.zero, i.size, i.bytes)) = some (some (.int .i64 0), 1, 8) := by kernel_rfl
theorem new_one (w : World) (x : Value) (t : TypeId) : ∀ j u, [x][j]? = some u → (w.alloc (.cells #[x] t)).cell? ((⟨w.heap.size, 0, none⟩ : Addr).add j) = some u := by
  intro j u h
  rcases j with _ | j
  · simp at h; subst h
    simp [Addr.add]
  · simp at h
theorem _root_.Go.Proofs.YtojjjndhabjhdaaDoor.satA.Mem.ownAt (h : Mem w B bp s F) (k : Ix) {xs : List Value} (hx : cont s (fvs F) k = xs) : w.ownsRow B (ty k) 1 (F k).v xs.length xs := by
  have := h.own.1 k
  rw [h.te, h.xs, hx] at this
  exact this
theorem _root_.Go.Proofs.YtojjjndhabjhdaaDoor.satF.QI.neg {V : Nat} {P : Nat → Prop} {hp : List Nat} {pl : Nat → Int} (h : QI V P hp pl) {v : Nat} (hv : 1 ≤ v ∧ v ≤ V) : (P v ∧ 0 ≤ pl v) ∨ (¬ P v ∧ pl v = -1) := by
  by_cases e : P v
  · obtain ⟨i, hi, _⟩ := (h.pl v hv.1 hv.2).1 e
    exact .inl ⟨e, by omega⟩
  · exact .inr ⟨e, (h.pl v hv.1 hv.2).2 e⟩
def PushP (B bp : Nat) (s : SS) (F : Ix → Ent) (P : Nat → Prop) (w w' : World) : Prop :=
  ∃ hp pl F', Mem w' B bp (s.qu hp pl) F' ∧ (∀ k, k ≠ .heap → (F' k).v = (F k).v) ∧ Below B w w' ∧ QI s.V P hp pl
set_option maxHeartbeats 1000000 in
set_option maxRecDepth 100000 in
theorem push_any (h : Mem w B bp s F) (hW : WF s) (hV : s.V ≤ 20000) (P : Nat → Prop) (hQ : QI s.V P s.heap s.place) (v : Nat) (hv : 1 ≤ v ∧ v ≤ s.V) : Calls Tryd.prog 78 #[.pointer (some ⟨bp, 17, none⟩), .int .i64 v] w fun e w' => e = .returned (.tuple #[]) ∧ PushP B bp s F (fun u => P u ∨ u = v) w w' := by
  obtain ⟨gP, cP, hP, qP, zP, nP, bP, lP, _, kP, _⟩ := h.at .place (n := s.V + 1) (by simp [cont]) (by omega)
  have f17 : w.cell? ⟨bp, 17, none⟩ = some (F .heap).v := h.fld 17
  have f18 : w.cell? ⟨bp, 18, none⟩ = some (F .place).v := h.fld 18
  rw [hP] at f18
  have q1 := qP v (by omega)
  rw [show cont s (fvs F) .place = (List.range (s.V + 1)).map fun v => zv (s.place v) from rfl, range_at (by omega)] at q1
  unfold zv at q1
  have hlen := hQ.len
  have hB := h.hB
  have hbl := h.obj.lt
  have z17 := h.obj.frozen 17
  rcases hQ.neg hv with ⟨hPv, hge⟩ | ⟨hPv, heq⟩
  · have HF : Hid (PushP B bp s F (fun u => P u ∨ u = v) w w) := Lib.hid ⟨s.heap, s.place, F, h, fun _ _ => rfl, Below.refl _ _, hQ.alike fun u _ _ => ⟨fun h => .inl h, fun h => h.elim id fun e => by rw [e]; exact hPv⟩⟩
    clear h hW hQ qP zP hP hPv
    generalize s.place v = z at *
    go_enter Tryd.func78, Tryd.ntmps78
    go_wp2
    refine bodyPost_ret (results_none rfl _ _ _) rfl ?_
    exact ⟨rfl, HF.out⟩
  · rw [heq] at q1
    have HM := Lib.hid h
    have HW := Lib.hid hW
    have HQ := Lib.hid (hQ.push hv hPv)
    have HO := Lib.hid (h.ownAt .heap rfl)
    have HP := Lib.hid hP
    have hxl : (cont s (fvs F) .heap).length = s.heap.length := by simp [cont]
    generalize htv : (F .heap).v = tv at *
    have HTV := Lib.hid htv
    have hgt : tv.ownBlock ≠ some bp := by rw [← htv]; exact h.ne .heap
    have hgt2 : tv.ownBlock ≠ some gP := by
      intro e
      have := h.own.2 .heap .place gP (by rw [htv]; exact e) (by rw [hP]; rfl)
      cases this
    clear h hW hQ qP hP hPv heq htv
    obtain ⟨i0, hi, hz0, hz1, hz2⟩ := info_parts infoI
    go_enter Tryd.func78, Tryd.ntmps78
    go_wp2_with (at_builtin; refine wpList_append_own_at _ rfl _ _ 23 rfl B 3 i0 (.int .i64 0) 1 8 Tryd.underlying23 hi hz0 hz1 hz2 rfl (by decide) tv s.heap.length (cont s (fvs F) .heap) rfl ?c0 ⟨w.heap.size, 0, none⟩ 1 1 [.int .i64 v] rfl rfl (new_one _ _ _) ?c2 ?c3 ?c4 ?c5 ?_)
    case c0 => have := HO.out.alloc (.cells #[.int .i64 v] 3); rw [hxl] at this; exact this
    case c2 => simp [Value.oneCell']
    case c3 => unfold maxLen; omega
    case c4 => omega
    case c5 => simp; omega
    intro v' w1 hown1 hgrow1 _ hat
    obtain ⟨g', cap', rfl, _, _, _, _⟩ := own_form hown1 (by omega)
    have M1 : Mem (w1.setCell ⟨bp, 17, none⟩ (.slice (some ⟨g', 0, none⟩) (s.heap.length + 1) cap')) B bp (s.qu (s.heap ++ [v]) s.place) (upd F .heap ⟨ty .heap, .slice (some ⟨g', 0, none⟩) (s.heap.length + 1) cap', cont s (fvs F) .heap ++ [.int .i64 v]⟩) :=
      (HM.out.below ((Below.refl _ _).alloc (Nat.le_refl _) (.cells #[.int .i64 v] 3))).put .heap (by rw [HTV.out]; exact hgrow1) (by rw [List.length_append, hxl]; exact hown1) (by
        rw [HTV.out]
        rcases hat with hat | hat
        · exact .inl hat
        · exact .inr (.inr ⟨_, hat, by simp⟩)) 17 (by simp) rfl (by simp [cont, SS.qu, iv]) (by intro i hi; cases i <;> first | rfl | exact absurd rfl hi) rfl rfl rfl rfl
    have HPv : (upd F .heap ⟨ty .heap, .slice (some ⟨g', 0, none⟩) (s.heap.length + 1) cap', cont s (fvs F) .heap ++ [.int .i64 v]⟩ .place).v = .slice (some ⟨gP, 0, none⟩) (s.V + 1) cP := by rw [upd_other _ _ (by decide)]; exact HP.out
    have M2 := (M1.setPlace HPv v (s.heap.length : Int)).below (Below.refl _ _).drew
    have hn1 : g' ≠ bp := fun e => M1.ne .heap (by rw [upd_same, e]; rfl)
    have n3 : bp ≠ gP := fun e => nP e.symm
    have hsz : w.heap.size + 1 ≤ w1.heap.size := by simpa using hgrow1.size
    have hA := (Below.refl w.heap.size w).alloc (Nat.le_refl _) (.cells #[.int .i64 v] 3)
    have f18' : w1.cell? ⟨bp, 18, none⟩ = some (.slice (some ⟨gP, 0, none⟩) (s.V + 1) cP) := hgrow1.cell ((hA.cell (by show bp < _; omega)).trans f18) (fun e => hgt e.symm)
    have q1' : w1.cell? ⟨gP, v, none⟩ = some (.int .i64 (-1)) := hgrow1.cell ((hA.cell (by show gP < _; omega)).trans q1) (fun e => hgt2 e.symm)
    have f17' : w1.cell? ⟨bp, 17, none⟩ = some tv := hgrow1.cell ((hA.cell (by show bp < _; omega)).trans f17) (fun e => hgt e.symm)
    have z17' : w1.frozen? ⟨bp, 17, none⟩ = false := (World.frozen?_of_block (hgrow1.block bp (by simp; omega) (fun e => hgt e.symm))).trans ((hA.frozen (by show bp < _; omega)).trans z17)
    have zP' : w1.frozen? ⟨gP, v, none⟩ = false := (World.frozen?_of_block (hgrow1.block gP (by simp; omega) (fun e => hgt2 e.symm))).trans ((hA.frozen (by show gP < _; omega)).trans (zP v))
    have HB1 : Hid (Below B w w1) := Lib.hid (((Below.refl B w).alloc (by omega) _).grown hgrow1 (by simp; omega) (fun k hk => ((HM.out.own.1 .heap).lt k (by rw [HTV.out]; exact hk)).1))
    have HUP := Lib.hid (up_any M2 ⟨HW.out.len, HW.out.fp, HW.out.st⟩ hV _ HQ.out s.heap.length (by show _ < (s.heap ++ [v]).length; simp))
    clear M1 M2 hown1 hgrow1 hat hA f17 f18 q1 z17
    go_wp2
    go_region
    go_wp2_with fail
    refine HUP.out.mono ?_
    rintro e w2 ⟨rfl, hp, pl, F2, hM2, hF2, hb2, hQ2, hl2⟩
    go_wp2
    go_end0
    refine ⟨rfl, hp, pl, F2, hM2, fun k hk => ?_, ((HB1.out.setCell hB _).setCell bP _).drew.trans hb2, hQ2⟩
    exact (congrFun (hF2.trans (fvs_set _ _ _)) k).trans (fvs_other _ _ hk)

/-- a list cut, where its value is cut -/
theorem own_cut {w : World} {B : Nat} {e : TypeId} {g cap n m : Nat} {xs : List Value} (h : w.ownsRow B e 1 (.slice (some ⟨g, 0, none⟩) n cap) n xs) (hm : m ≤ n) : w.ownsRow B e 1 (.slice (some ⟨g, 0, none⟩) m cap) m (xs.take m) := by
  have hl := h.1
  rcases h.2 with ⟨hv, _⟩ | ⟨g', cap', cur, hv, hb, hg, hn', hm', hc, ht⟩
  · cases hv
  · simp only [Value.slice.injEq, Option.some.injEq, Addr.mk.injEq, and_true] at hv
    obtain ⟨rfl, _, rfl⟩ := hv
    refine ⟨by simp; omega, .inr ⟨g, cap, cur, rfl, hb, hg, by omega, hm', hc, ?_⟩⟩
    rw [← ht, List.take_take]; congr 1; omega
theorem grown_self (w : World) (r : Option Nat) : w.grownBy w r := ⟨rfl, rfl, rfl, Nat.le_refl _, fun _ _ _ => rfl⟩

def PopP (B bp : Nat) (s : SS) (F : Ix → Ent) (P : Nat → Prop) (w : World) (e : Ending) (w' : World) : Prop :=
  ∃ v : Nat, e = .returned (.int .i64 v) ∧ ((v = 0 ∧ s.heap = [] ∧ w' = w) ∨ (1 ≤ v ∧ v ≤ s.V ∧ P v ∧ PushP B bp s F (fun u => P u ∧ u ≠ v) w w'))
set_option maxHeartbeats 2000000 in
set_option maxRecDepth 100000 in
theorem pop_any (h : Mem w B bp s F) (hW : WF s) (hV : s.V ≤ 20000) (P : Nat → Prop) (hQ : QI s.V P s.heap s.place) : Calls Tryd.prog 58 #[.pointer (some ⟨bp, 17, none⟩)] w (PopP B bp s F P w) := by
  have f17 : w.cell? ⟨bp, 17, none⟩ = some (F .heap).v := h.fld 17
  have hlen := hQ.len
  have hB := h.hB
  have hbl := h.obj.lt
  by_cases h0 : s.heap = []
  · obtain ⟨ao, cap, hvv⟩ := h.own.value .heap
    rw [h.xs, show (cont s (fvs F) .heap) = [] from by simp [cont, h0]] at hvv
    rw [hvv] at f17
    have HF : Hid (PopP B bp s F P w (.returned (.int .i64 0)) w) := Lib.hid ⟨0, rfl, .inl ⟨rfl, h0, rfl⟩⟩
    clear h hW hQ h0 hvv
    go_enter Tryd.func58, Tryd.ntmps58
    go_wp2
    go_ret
    exact HF.out
  · have hl0 : 0 < s.heap.length := List.length_pos_iff.2 h0
    obtain ⟨m, hm⟩ : ∃ m, s.heap.length = m + 1 := ⟨s.heap.length - 1, by omega⟩
    obtain ⟨gH, cH, hH, qH, zH, nH, bH, lH, _, kH, _⟩ := h.at .heap (n := m + 1) (by simp [cont, hm]) (by omega)
    obtain ⟨gP, cP, hP, qP, zP, nP, bP, lP, _, kP, _⟩ := h.at .place (n := s.V + 1) (by simp [cont]) (by omega)
    have f18 : w.cell? ⟨bp, 18, none⟩ = some (F .place).v := h.fld 18
    rw [hH] at f17
    rw [hP] at f18
    have hAT : ∀ j, j < m + 1 → s.heap[j]? = some (s.heap.getD j 0) := by
      intro j hj; rw [List.getD_eq_getElem?_getD, List.getElem?_eq_getElem (by omega)]; rfl
    have hf := hAT 0 (by omega)
    have hla := hAT m (by omega)
    have q0 := qH 0 (by omega)
    have q1 := qH m (by omega)
    rw [show cont s (fvs F) .heap = s.heap.map iv from rfl, getD_iv (by omega)] at q0
    rw [show cont s (fvs F) .heap = s.heap.map iv from rfl, getD_iv (by omega)] at q1
    generalize s.heap.getD 0 0 = first at *
    generalize s.heap.getD m 0 = last at *
    have hfr := hQ.rng (mem_at.2 ⟨0, hf⟩)
    have hlr := hQ.rng (mem_at.2 ⟨_, hla⟩)
    have hPf := hQ.inP hf
    have q2 := qP first (by omega)
    rw [show cont s (fvs F) .place = (List.range (s.V + 1)).map fun v => zv (s.place v) from rfl, range_at (by omega)] at q2
    unfold zv at q2
    generalize s.place first = pf at *
    have z17 := h.obj.frozen 17
    have zf := zP first
    have M1 : Mem (w.setCell ⟨bp, 17, none⟩ (.slice (some ⟨gH, 0, none⟩) m cH)) B bp (s.qu (s.heap.take m) s.place) (upd F .heap ⟨ty .heap, .slice (some ⟨gH, 0, none⟩) m cH, (cont s (fvs F) .heap).take m⟩) :=
      h.put .heap (grown_self _ _) (by
        have := h.ownAt .heap rfl
        rw [hH, show (cont s (fvs F) .heap).length = m + 1 from by simp [cont, hm]] at this
        have h2 := own_cut (m := m) this (by omega)
        have h3 : ((cont s (fvs F) .heap).take m).length = m := by simp [cont]; omega
        rw [h3]; exact h2) (.inl (by rw [hH]; rfl)) 17 (by simp) rfl (by simp [cont, SS.qu, iv]) (by intro i hi; cases i <;> first | rfl | exact absurd rfl hi) rfl rfl rfl rfl
    have HPv : (upd F .heap ⟨ty .heap, .slice (some ⟨gH, 0, none⟩) m cH, (cont s (fvs F) .heap).take m⟩ .place).v = .slice (some ⟨gP, 0, none⟩) (s.V + 1) cP := by rw [upd_other _ _ (by decide)]; exact hP
    have HM2 : Hid (∀ W, Below (w.setCell ⟨bp, 17, none⟩ (.slice (some ⟨gH, 0, none⟩) m cH)).heap.size (w.setCell ⟨bp, 17, none⟩ (.slice (some ⟨gH, 0, none⟩) m cH)) W → ∃ F2, Mem (W.setCell ⟨gP, first, none⟩ (.int .i64 (-1))) B bp (s.qu (s.heap.take m) (updN s.place first (-1))) F2 ∧ ∀ k, k ≠ .heap → (F2 k).v = (F k).v) :=
      Lib.hid (fun W hb => ⟨_, (M1.below hb).setPlace HPv first (-1), fun k hk => (congrFun (fvs_set _ _ _) k).trans (fvs_other _ _ hk)⟩)
    have n3 : bp ≠ gP := fun e => nP e.symm
    have n4 : bp ≠ gH := fun e => nH e.symm
    have htl : (s.heap.take m).length = m := by simp; omega
    have HQ := Lib.hid hQ
    have HW := Lib.hid hW
    have HPF := Lib.hid hPf
    by_cases hm0 : m = 0
    · subst hm0
      have HQ2 := Lib.hid (hQ.popOne hf (by omega))
      rw [show s.heap.length - 1 = 0 from by omega] at HQ2
      clear M1 HPv h hW hQ qH zH qP zP hf hla hPf hAT h0 hH hP hm hl0
      go_enter Tryd.func58, Tryd.ntmps58
      go_wp2_with fail
      go_quiet (fail)
      go_wp2_with fail
      go_region
      go_wp2_with fail
      go_ret
      obtain ⟨F2, M2, K2⟩ := HM2.out ((w.drewN (nq + 1)).setCell ⟨bp, 17, none⟩ (.slice (some ⟨gH, 0, none⟩) 0 cH)) (Go.Joins.below_draws _ (w.setCell ⟨bp, 17, none⟩ (.slice (some ⟨gH, 0, none⟩) 0 cH)) (nq + 1))
      exact ⟨first, rfl, .inr ⟨hfr.1, hfr.2, HPF.out, _, _, F2, M2, K2, ((Go.Joins.below_draws B w (nq + 1)).setCell hB _).setCell bP _, HQ2.out⟩⟩
    · have HQ2 := Lib.hid (hQ.pop hf (by rw [show s.heap.length - 1 = m from by omega]; exact hla) (by omega))
      rw [show s.heap.length - 1 = m from by omega] at HQ2
      have HTL : Hid ((s.heap.take m).length = m ∧ m ≤ 20000 ∧ 0 < m) := Lib.hid ⟨htl, by omega, by omega⟩
      clear htl
      have hm1 : (m : Int) < (m : Int) + 1 := by omega
      have hm2 : IntKind.i64.wrap (m : Int) = (m : Int) := IntWalk.i64_in _ (by omega)
      have hm3 : (0 : Int) < (m : Int) + 1 := by omega
      clear M1 HPv h hW hQ qH zH qP zP hf hla hPf hAT h0 hH hP hm hl0
      go_enter Tryd.func58, Tryd.ntmps58
      go_wp2_with fail
      go_quiet (fail)
      go_wp2_with fail
      go_region
      go_wp2_with fail
      obtain ⟨F2, M2, K2⟩ := HM2.out ((w.drewN (nq + 1)).setCell ⟨bp, 17, none⟩ (.slice (some ⟨gH, 0, none⟩) m cH)) (Go.Joins.below_draws _ (w.setCell ⟨bp, 17, none⟩ (.slice (some ⟨gH, 0, none⟩) m cH)) (nq + 1))
      have HB3 : Hid (Below B w (World.setCell ((w.drewN (nq + 1)).setCell ⟨bp, 17, none⟩ (.slice (some ⟨gH, 0, none⟩) m cH)) ⟨gP, first, none⟩ (.int .i64 (-1)))) := Lib.hid (((Go.Joins.below_draws B w (nq + 1)).setCell hB _).setCell bP _)
      have HP := Lib.hid (put_any M2 last 0 (by show 0 < (s.heap.take m).length; rw [HTL.out.1]; exact HTL.out.2.2) hlr.2 hV (by show (s.heap.take m).length ≤ _; rw [HTL.out.1]; exact HTL.out.2.1))
      have HK2 := Lib.hid K2
      clear M2 K2 HM2
      generalize World.setCell ((w.drewN (nq + 1)).setCell ⟨bp, 17, none⟩ (.slice (some ⟨gH, 0, none⟩) m cH)) ⟨gP, first, none⟩ (.int .i64 (-1)) = w3 at *
      go_wp2_with fail
      refine HP.out.mono ?_
      rintro e w4 ⟨rfl, F4, M4, K4, hb4⟩
      have HD := Lib.hid (down_any M4 ⟨HW.out.len, HW.out.fp, HW.out.st⟩ hV _ HQ2.out.fill 0 (by show 0 < ((s.heap.take m).set 0 last).length; rw [List.length_set, HTL.out.1]; exact HTL.out.2.2))
      have HK4 := Lib.hid K4
      have HB4 := Lib.hid (HB3.out.trans hb4)
      clear M4 K4 hb4
      go_wp2_with fail
      refine HD.out.mono ?_
      rintro e w5 ⟨rfl, hp, pl, F5, M5, K5, hb5, hQ5, hl5⟩
      have HF : Hid (PopP B bp s F P w (.returned (.int .i64 first)) w5) := Lib.hid ⟨first, rfl, .inr ⟨hfr.1, hfr.2, HPF.out, hp, pl, F5, M5, fun k hk => ((congrFun K5 k).trans (congrFun HK4.out k)).trans (HK2.out k hk), HB4.out.trans hb5, hQ5⟩⟩
      clear M5 K5 hb5 hQ5 hl5
      go_wp2
      go_ret
      exact HF.out
end
end Go.Proofs.YtojjjndhabjhdaaDoor.satD
namespace Go.Proofs.YtojjjndhabjhdaaDoor.satE
set_option linter.unusedSimpArgs false
set_option linter.unusedVariables false
open Go.ChangeShapes Go.WideShapes Go.ChangeAt Go.RowKit proofP proofQ owns satP satA satF satB satC satD
attribute [local go_sem ↓] Go.wp_at_zero Go.wp_at_succ

theorem run_store_float (P : Program) (w : World) (a : Addr) (m : Mode) (k : FloatKind) (b : Nat) : (store a (.float k b) m).run P w = stored P w a (.float k b) m := run_store P w a _ m rfl
attribute [local go_sem] run_store_float

def _root_.Go.Proofs.YtojjjndhabjhdaaDoor.satA.SS.qw (s : SS) (hp : List Nat) (pl : Nat → Int) (wt : List Value) (st : Value) : SS := { s with heap := hp, place := pl, weight := wt, step := st }
section
variable {w w' : World} {B bp : Nat} {s : SS} {F : Ix → Ent}
/-- what raise, fade leave -/
def RaiseP (B bp : Nat) (s : SS) (F : Ix → Ent) (P : Nat → Prop) (w w' : World) : Prop :=
  ∃ hp pl wt st F', Mem w' B bp (s.qw hp pl wt st) F' ∧ fvs F' = fvs F ∧ Below B w w' ∧ QI s.V P hp pl ∧ WF (s.qw hp pl wt st)
theorem _root_.Go.Proofs.YtojjjndhabjhdaaDoor.satA.Mem.setWeight (h : Mem w B bp s F) {g cap n : Nat} (hv : (F .weight).v = .slice (some ⟨g, 0, none⟩) n cap) (j : Nat) (x : Value) :
    Mem (w.setCell ⟨g, j, none⟩ x) B bp (s.qw s.heap s.place (s.weight.set j x) s.step) (upd F .weight ⟨(F .weight).e, (F .weight).v, (F .weight).xs.set j x⟩) :=
  (h.write hv j x (s' := s.qw s.heap s.place (s.weight.set j x) s.step) rfl (by intro i hi; cases i <;> first | rfl | exact absurd rfl hi) rfl rfl rfl rfl rfl).1
theorem _root_.Go.Proofs.YtojjjndhabjhdaaDoor.satA.Mem.setStep (h : Mem w B bp s F) (x : Value) : Mem (w.setCell ⟨bp, 20, none⟩ x) B bp (s.qw s.heap s.place s.weight x) F :=
  h.field 20 x rfl (by intro i; cases i <;> rfl) rfl rfl rfl rfl
theorem WF.set (h : WF s) {hp : List Nat} {pl : Nat → Int} {j : Nat} {x st : Value} (hx : IsFP x) (hst : IsFP st) : WF (s.qw hp pl (s.weight.set j x) st) := by
  refine ⟨by show (s.weight.set j x).length = _; rw [List.length_set]; exact h.len, fun v hv => ?_, hst⟩
  rcases List.mem_or_eq_of_mem_set hv with hv | rfl
  · exact h.fp v hv
  · exact hx
set_option maxRecDepth 100000 in
theorem fade_any (h : Mem w B bp s F) (hW : WF s) (P : Nat → Prop) (hQ : QI s.V P s.heap s.place) : Calls Tryd.prog 54 #[.pointer (some ⟨bp, 17, none⟩)] w fun e w' => e = .returned (.tuple #[]) ∧ RaiseP B bp s F P w w' := by
  obtain ⟨b, hb, hfp⟩ := hW.st
  obtain ⟨r, hr, hfr⟩ := fp_div hfp
  have f20 : w.cell? ⟨bp, 20, none⟩ = some s.step := h.fld 20
  rw [hb] at f20
  have z20 := h.obj.frozen 20
  have hrun := fun (t : TypeId) => run_float_arith (P := Tryd.prog) w .quo t .f64 b 4606732058837280358 r hr
  have HF : Hid (RaiseP B bp s F P w (w.setCell ⟨bp, 20, none⟩ (.float .f64 r))) := Lib.hid ⟨_, _, _, _, F, h.setStep _, rfl, (Below.refl _ _).setCell h.hB _, hQ, ⟨hW.len, hW.fp, ⟨r, rfl, hfr⟩⟩⟩
  clear h hW hQ hr
  go_enter Tryd.func54, Tryd.ntmps54
  go_wp2
  go_end0
  exact ⟨rfl, HF.out⟩

/-- the weights may be others -/
def RMid (B bp : Nat) (s : SS) (F : Ix → Ent) (w wx : World) : Prop := ∃ wt st F', Mem wx B bp (s.qw s.heap s.place wt st) F' ∧ fvs F' = fvs F ∧ Below B w wx ∧ WF (s.qw s.heap s.place wt st)
theorem RMid.facts (h : RMid B bp s F w w') {gP cP gW cW : Nat} (hP : (F .place).v = .slice (some ⟨gP, 0, none⟩) (s.V + 1) cP) (hW : (F .weight).v = .slice (some ⟨gW, 0, none⟩) (s.V + 1) cW) :
    w'.cell? ⟨bp, 18, none⟩ = some (.slice (some ⟨gP, 0, none⟩) (s.V + 1) cP) ∧ w'.cell? ⟨bp, 19, none⟩ = some (.slice (some ⟨gW, 0, none⟩) (s.V + 1) cW) ∧ (∀ v, v ≤ s.V → ∃ b, w'.cell? ⟨gW, v, none⟩ = some (.float .f64 b) ∧ FP b) ∧
      (∃ b, w'.cell? ⟨bp, 20, none⟩ = some (.float .f64 b) ∧ FP b) ∧ (∀ v, v ≤ s.V → w'.cell? ⟨gP, v, none⟩ = some (.int .i64 (s.place v))) ∧ w'.frozen? ⟨bp, 20, none⟩ = false ∧ ∀ v, w'.frozen? ⟨gW, v, none⟩ = false := by
  obtain ⟨wt, st, F', hM, hF, hb, hWF⟩ := h
  have e18 : (F' .place).v = .slice (some ⟨gP, 0, none⟩) (s.V + 1) cP := (congrFun hF .place).trans hP
  have e19 : (F' .weight).v = .slice (some ⟨gW, 0, none⟩) (s.V + 1) cW := (congrFun hF .weight).trans hW
  refine ⟨(hM.fld 18).trans (congrArg some e18), (hM.fld 19).trans (congrArg some e19), fun v hv => ?_, ?_, fun v hv => ?_, hM.obj.frozen 20, fun v => hM.own.frozen e19 v⟩
  · obtain ⟨b, hb1, hb2⟩ := hWF.at hv
    refine ⟨b, ?_, hb2⟩
    have hx : (F' .weight).xs = wt := hM.xs .weight
    have hl : wt.length = s.V + 1 := hWF.len
    rw [hM.own.cell e19 v (by rw [hx]; omega), hx]; exact hb1
  · obtain ⟨b, hb1, hb2⟩ := hWF.st
    exact ⟨b, (hM.fld 20).trans (congrArg some hb1), hb2⟩
  · have hx : (F' .place).xs = (List.range (s.V + 1)).map fun v => zv (s.place v) := hM.xs .place
    rw [hM.own.cell e18 v (by rw [hx]; simp; omega), hx, range_at (by omega)]; rfl
theorem RMid.set (h : RMid B bp s F w w') {gW cW : Nat} (hW : (F .weight).v = .slice (some ⟨gW, 0, none⟩) (s.V + 1) cW) (hBW : B ≤ gW) (j b : Nat) (hb : FP b) : RMid B bp s F w (w'.setCell ⟨gW, j, none⟩ (.float .f64 b)) := by
  obtain ⟨wt, st, F', hM, hF, hbl, hWF⟩ := h
  exact ⟨_, _, _, hM.setWeight ((congrFun hF .weight).trans hW) j _, (fvs_set _ _ _).trans hF, hbl.setCell hBW _, WF.set hWF ⟨b, rfl, hb⟩ hWF.st⟩
theorem RMid.step (h : RMid B bp s F w w') (b : Nat) (hb : FP b) : RMid B bp s F w (w'.setCell ⟨bp, 20, none⟩ (.float .f64 b)) := by
  obtain ⟨wt, st, F', hM, hF, hbl, hWF⟩ := h
  exact ⟨_, _, _, hM.setStep _, hF, hbl.setCell hM.hB _, ⟨hWF.len, hWF.fp, ⟨b, rfl, hb⟩⟩⟩
set_option maxHeartbeats 2000000 in
set_option maxRecDepth 100000 in
theorem raise_any (h : Mem w B bp s F) (hW : WF s) (hV : s.V ≤ 20000) (P : Nat → Prop) (hQ : QI s.V P s.heap s.place) (v : Nat) (hv : 1 ≤ v ∧ v ≤ s.V) : Calls Tryd.prog 76 #[.pointer (some ⟨bp, 17, none⟩), .int .i64 v] w fun e w' => e = .returned (.tuple #[]) ∧ RaiseP B bp s F P w w' := by
  obtain ⟨gP, cP, hP, qP, zP, nP, bP, lP, _, kP, _⟩ := h.at .place (n := s.V + 1) (by simp [cont]) (by omega)
  obtain ⟨gW, cW, hWv, qW, zW, nW, bW, lW, _, kW, _⟩ := h.at .weight (n := s.V + 1) (by simp [cont, hW.len]) (by omega)
  have f18 : w.cell? ⟨bp, 18, none⟩ = some (F .place).v := h.fld 18
  have f19 : w.cell? ⟨bp, 19, none⟩ = some (F .weight).v := h.fld 19
  have f20 : w.cell? ⟨bp, 20, none⟩ = some s.step := h.fld 20
  rw [hP] at f18
  rw [hWv] at f19
  obtain ⟨b, hb, hfp⟩ := hW.st
  obtain ⟨x, hx, hfx⟩ := hW.at hv.2
  obtain ⟨y, hy, hfy⟩ := fp_add hfx hfp
  rw [hb] at f20
  have q1 := qW v (by omega)
  rw [show cont s (fvs F) .weight = s.weight from rfl, hx] at q1
  have zv1 := zW v
  have hrun := fun (w : World) (t : TypeId) => run_float_arith (P := Tryd.prog) w .add t .f64 x b y hy
  have M1 := (h.setWeight hWv v (.float .f64 y)).below (Below.refl _ _).drew
  have W1 : WF (s.qw s.heap s.place (s.weight.set v (.float .f64 y)) s.step) := WF.set hW ⟨y, rfl, hfy⟩ hW.st
  have n1 := h.two (by decide) hP hWv
  have n2 : bp ≠ gW := fun e => nW e.symm
  have hB := h.hB
  have hbl := h.obj.lt
  have HR0 : Hid (RMid B bp s F w (w.setCell ⟨gW, v, none⟩ (.float .f64 y)).drew) := Lib.hid ⟨_, _, _, M1, fvs_set _ _ _, ((Below.refl B w).setCell bW _).drew, W1⟩
  have HQ := Lib.hid hQ
  have HP := Lib.hid hP
  have HW := Lib.hid hWv
  clear h hW hQ qP zP qW zW hP hWv M1 W1 hx hy hb
  go_enter Tryd.func76, Tryd.ntmps76
  go_wp2
  go_region
  generalize (w.setCell ⟨gW, v, none⟩ (.float .f64 y)).drew = w1 at *
  obtain ⟨f1, f2, f3, f4, f5⟩ := HR0.out.facts HP.out HW.out
  obtain ⟨wt1, hwt1, hfp1⟩ := f3 v hv.2
  clear hrun f18 f19 f20 q1 zv1
  go_upto_if 25 with (fail)
  go_cut [4] (fun c wx => RMid B bp s F w wx)
  case first =>
    go_wp2_with fail
    · go_loopw [4, 31] (fun c it wr => ∃ k : Nat, k ≤ s.V + 1 ∧ it = .int .i64 k ∧ RMid B bp s F w wr) (fun _ it _ => s.V + 1 - (intOf it).toNat)
      case atStart => exact ⟨0, Nat.zero_le _, rfl, HR0.out⟩
      case round =>
        obtain ⟨k, hk, rfl, hR⟩ := hrel
        obtain ⟨g1, g2, g3, ⟨st, g4, hfs⟩, g5, g6, g7⟩ := hR.facts HP.out HW.out
        have HRR := Lib.hid hR
        clear f1 f2 f3 f4 f5 hwt1 hR
        by_cases hlt : k < s.V + 1
        · obtain ⟨b2, hb2, hfp2⟩ := g3 k (by omega)
          obtain ⟨r2, hr2, hfr2⟩ := fp_mul hfp2
          have hrun := fun (w : World) (t : TypeId) => run_float_arith (P := Tryd.prog) w .mul t .f64 b2 3110860544497550640 r2 hr2
          have z2 := g7 k
          have HN := Lib.hid (HRR.out.set HW.out bW k r2 hfr2)
          clear g3 g5 g7 hr2
          go_wp2
          go_roundw
          case rel => exact ⟨k + 1, by omega, by go_num, HN.out⟩
          case measure => simp [intOf]; omega
        · obtain ⟨r2, hr2, hfr2⟩ := fp_mul hfs
          have hrun := fun (w : World) (t : TypeId) => run_float_arith (P := Tryd.prog) w .mul t .f64 st 3110860544497550640 r2 hr2
          have HN := Lib.hid (HRR.out.step r2 hfr2)
          clear g3 g5 g7 hr2
          go_wp2
          go_meet
          case rel => exact HN.out
    · go_meet
      case rel => exact HR0.out
  case rest =>
    have hR := hcut
    obtain ⟨g1, g2, g3, ⟨st, g4, hfs⟩, g5, g6, g7⟩ := hR.facts HP.out HW.out
    have q5 := g5 v hv.2
    obtain ⟨wt, st2, F2, hM, hF, hbw, hWF⟩ := hR
    have HM := Lib.hid hM
    have HF := Lib.hid hF
    have HB := Lib.hid hbw
    have HWF := Lib.hid hWF
    have hsz := hM.obj.lt
    clear f1 f2 f3 f4 f5 hwt1 g2 g3 g4 g5 g6 g7 hcut hM hF hbw hWF
    rcases HQ.out.neg hv with ⟨hPv, hge⟩ | ⟨hPv, heq⟩
    · obtain ⟨i, hi, hiv⟩ := (HQ.out.pl v hv.1 hv.2).1 hPv
      rw [hi] at q5
      have hil := at_lt hiv
      have HUP := Lib.hid (up_any HM.out HWF.out hV P (by exact HQ.out) i (by exact hil))
      clear hge hPv hi hiv
      go_wp2_with fail
      refine HUP.out.mono ?_
      rintro e w2 ⟨rfl, hp, pl, F3, hM3, hF3, hb3, hQ3, hl3⟩
      have HFIN : Hid (RaiseP B bp s F P w w2) := Lib.hid ⟨hp, pl, wt, st2, F3, hM3, hF3.trans HF.out, HB.out.trans hb3, hQ3, ⟨HWF.out.len, HWF.out.fp, HWF.out.st⟩⟩
      clear hM3 hF3 hb3 hQ3 hl3
      go_wp2
      go_end0
      exact ⟨rfl, HFIN.out⟩
    · rw [heq] at q5
      have HFIN : Hid (RaiseP B bp s F P w wc) := Lib.hid ⟨_, _, wt, st2, F2, HM.out, HF.out, HB.out, HQ.out, ⟨HWF.out.len, HWF.out.fp, HWF.out.st⟩⟩
      clear heq hPv
      go_wp2
      go_end0
      exact ⟨rfl, HFIN.out⟩
end
end Go.Proofs.YtojjjndhabjhdaaDoor.satE
