/-
  As Held, but what has to stay hangs on what is done. A statement whose order is open and whose last operation writes what the statement has loaded: what the loads read has to stay up to that last operation, no longer.
-/
import Derived.OrdersHeld
import Derived.Deep.RegionHeld
namespace Go.Proofs.YtjeckkkmoabjnaaDoor.held2
set_option linter.unusedSimpArgs false
set_option linter.unusedVariables false
open Go

section
variable {P : Program} {md : Region.Mode} {ops : Array Oper} {Q : Exit → Act → World → Prop} {S : Array Bool → World → Prop} {L : Nat}

/-- what an operation waits for -/
def needs (md : Region.Mode) (ops : Array Oper) (j : Nat) : List Nat := match ops[j]? with
  | some o => (o.after.toList.filter (Region.binds md)).map (·.on)
  | none => []
/-- .. and what those wait for, so many times -/
def ahead (md : Region.Mode) (ops : Array Oper) : Nat → List Nat → List Nat
  | 0, l => l
  | f + 1, l => l ++ ahead md ops f (l.flatMap (needs md ops))
/-- what is done waits for nothing that is not done -/
def Shutd (md : Region.Mode) (ops : Array Oper) (listed : Array Bool) : Prop := ∀ j, listed.getD j false = true → ∀ k ∈ needs md ops j, listed.getD k false = true
def shutB (md : Region.Mode) (ops : Array Oper) (listed : Array Bool) : Bool := (List.range listed.size).all fun j => !(listed.getD j false) || (needs md ops j).all fun k => listed.getD k false
theorem shutB_spec {listed : Array Bool} (h : shutB md ops listed = true) : Shutd md ops listed := by
  intro j hj k hk
  have hlt : j < listed.size := by
    by_cases h' : j < listed.size
    · exact h'
    · simp [Array.getElem?_eq_none (Nat.le_of_not_lt h')] at hj
  have h1 := List.all_eq_true.1 h j (List.mem_range.2 hlt)
  rw [hj] at h1
  simp only [Bool.not_true, Bool.false_or] at h1
  exact List.all_eq_true.1 h1 k hk
theorem ahead_done {listed : Array Bool} (hc : Shutd md ops listed) : ∀ (f : Nat) (l : List Nat), (∀ j ∈ l, listed.getD j false = true) → ∀ k ∈ ahead md ops f l, listed.getD k false = true := by
  intro f
  induction f with
  | zero => intro l h k hk; exact h k hk
  | succ f ih =>
    intro l h k hk
    rcases List.mem_append.1 hk with hk | hk
    · exact h k hk
    · refine ih _ (fun j hj => ?_) k hk
      obtain ⟨i, hi, hij⟩ := List.mem_flatMap.1 hj
      exact hc i (h i hi) j hij
theorem ready_needs {listed : Array Bool} {j : Nat} (h : j ∈ Region.ready md ops listed) : ∀ k ∈ needs md ops j, listed.getD k false = true := by
  obtain ⟨_, o, ho, hall⟩ := mem_ready.1 h
  intro k hk
  unfold needs at hk
  rw [ho] at hk
  obtain ⟨e, he, rfl⟩ := List.mem_map.1 hk
  rw [List.mem_filter] at he
  exact hall e (by simpa using he.1) he.2
theorem shut_set {listed : Array Bool} {j : Nat} (hc : Shutd md ops listed) (h : j ∈ Region.ready md ops listed) : Shutd md ops (listed.setIfInBounds j true) := by
  intro i hi k hk
  by_cases e : j = i
  · subst e; exact getD_set_true (ready_needs h k hk)
  · rw [getD_set_ne false e] at hi; exact getD_set_true (hc i hi k hk)
/-- the last one is not ready while one that it waits for is left -/
theorem last_not {listed : Array Bool} {i f : Nat} (hc : Shutd md ops listed) (hL : i ∈ ahead md ops f (needs md ops L)) (hi : listed.getD i true = false) : L ∉ Region.ready md ops listed := by
  intro h
  have h1 := ahead_done hc f _ (ready_needs h) i hL
  by_cases h' : i < listed.size
  · simp [h'] at hi h1; rw [hi] at h1; cases h1
  · simp [Array.getElem?_eq_none (Nat.le_of_not_lt h')] at h1

/-- one that waits for what is left is left itself -/
theorem left_of {listed : Array Bool} {i j f : Nat} (hc : Shutd md ops listed) (hj : (ahead md ops f (needs md ops j)).contains i = true) (hi : listed.getD i true = false) : listed.getD j false = false := by
  cases h : listed.getD j false with
  | false => rfl
  | true =>
    have h1 := ahead_done hc f _ (hc j h) i (by simpa using hj)
    by_cases h' : i < listed.size
    · simp [h'] at hi h1; rw [hi] at h1; cases h1
    · simp [Array.getElem?_eq_none (Nat.le_of_not_lt h')] at h1

/-- whatever comes up next; S holds behind each, of what is done -/
def wpLeft (P : Program) (md : Region.Mode) (ops : Array Oper) (Q : Exit → Act → World → Prop) (S : Array Bool → World → Prop) : Nat → Array Bool → Act → World → Prop
  | 0, listed, a, w => Region.ready md ops listed = [] ∧ Q .normal a w
  | fuel + 1, listed, a, w => (Region.ready md ops listed = [] → Q .normal a w) ∧
      ∀ i ∈ Region.ready md ops listed, wpOp P ops Q i (fun a' w' => S (listed.setIfInBounds i true) w' ∧ wpLeft P md ops Q S fuel (listed.setIfInBounds i true) a' w') a w

theorem wpLeft.any : ∀ (fuel : Nat) (listed : Array Bool) (a : Act) (w : World), wpLeft P md ops Q S fuel listed a w → wpAny P md ops Q fuel listed a w := by
  intro fuel
  induction fuel with
  | zero => intro _ _ _ h; exact h
  | succ fuel ih => intro listed a w h; exact ⟨h.1, fun i hi => wpOp_mono (fun a' w' h' => ih _ a' w' h'.2) (h.2 i hi)⟩

/-- what is ready, and reads only what S tells while it is left, may be done first -/
theorem wpLeft.first {i : Nat} {oi : Oper} {v : Value} (hi : ops[i]? = some oi) (hSi : ∀ l w, S (l.setIfInBounds i true) w ↔ S l w) (hsel : ∀ (j : Nat) (o : Oper) cs b, ops[j]? = some o → o.op ≠ .select cs b)
    (hQ : ∀ c a w, Q (.panic c) (a.put oi.dst v) w → Q (.panic c) a w) : ∀ (fuel : Nat) (listed : Array Bool) (a : Act) (w : World), Shutd md ops listed →
      (∀ j oj, ops[j]? = some oj → j ≠ i → listed.getD j true = false → (∀ e ∈ oj.after, Region.binds md e = true → e.on ≠ i) → oi.apart ops oj = true) →
      i ∈ Region.ready md ops listed → YieldsIf P ops (fun w => ∃ l, Shutd md ops l ∧ l.getD i true = false ∧ S l w) oi v a → S listed w → wpLeft P md ops Q S fuel (listed.setIfInBounds i true) (a.put oi.dst v) w → wpLeft P md ops Q S (fuel + 1) listed a w := by
  intro fuel
  induction fuel with
  | zero =>
    intro listed a w hc _ hr hy hS H
    constructor
    · intro h; rw [h] at hr; cases hr
    · intro j hj
      by_cases hji : j = i
      · subst hji; exact hy.wpOp hi ⟨listed, hc, (mem_ready.1 hr).1, hS⟩ ⟨(hSi _ _).2 hS, H⟩
      · have := ready_mono hj hji; rw [H.1] at this; cases this
  | succ fuel ih =>
    intro listed a w hc hfree hr hy hS H
    constructor
    · intro h; rw [h] at hr; cases hr
    · intro j hj
      by_cases hji : j = i
      · subst hji; exact hy.wpOp hi ⟨listed, hc, (mem_ready.1 hr).1, hS⟩ ⟨(hSi _ _).2 hS, H⟩
      · obtain ⟨hjun, oj, hoj, hall⟩ := mem_ready.1 hj
        have hnot : ∀ e ∈ oj.after, Region.binds md e = true → e.on ≠ i := by
          intro e he hb heq
          have h1 := hall e he hb
          have h0 := (mem_ready.1 hr).1
          rw [heq] at h1
          by_cases h' : i < listed.size
          · simp [h'] at h0 h1; rw [h0] at h1; cases h1
          · simp [Array.getElem?_eq_none (Nat.le_of_not_lt h')] at h1
        refine wpOp_mono ?_ (wpOp_putIf hoj (hfree j oj hoj hji hjun hnot) (fun cs b => hsel i oi cs b hi) (fun cs b => hsel j oj cs b hoj) hQ hy (H.2 j (ready_mono hj hji)))
        rintro a' w' ⟨hy', hS', H'⟩
        rw [Array.setIfInBounds_comm _ _ (Ne.symm hji), hSi] at hS'
        refine ⟨hS', ih _ a' w' (shut_set hc hj) ?_ (ready_mono hr (Ne.symm hji)) hy' hS' ?_⟩
        · intro k ok hk hki hun hno
          refine hfree k ok hk hki ?_ hno
          by_cases hjk : j = k
          · subst hjk; exact hjun
          · rw [getD_set_ne true hjk] at hun; exact hun
        · rw [Array.setIfInBounds_comm _ _ hji]; exact H'

/-- one is taken first -/
theorem wpLeft.take {i : Nat} {oi : Oper} {v : Value} {fuel : Nat} {listed : Array Bool} {a : Act} {w : World} (hi : ops[i]? = some oi) (hs : Region.noSelect ops = true) (hf : Region.free md ops listed i = true) (hr : (Region.ready md ops listed).contains i = true)
    (hc : shutB md ops listed = true) (hSi : ∀ l w, S (l.setIfInBounds i true) w ↔ S l w) (hQ : ∀ c a w, Q (.panic c) (a.put oi.dst v) w → Q (.panic c) a w) (hw : Region.wanted oi (yielded ops a.tmps) = true) (hy : ∀ w l, Shutd md ops l → l.getD i true = false → S l w → (execOp a.eval oi).run P w = .ok (.value v) w) (hS : S listed w)
    (h : wpLeft P md ops Q S fuel (listed.setIfInBounds i true) (a.put oi.dst v) w) : wpLeft P md ops Q S (fuel + 1) listed a w :=
  wpLeft.first hi hSi (Region.noSelect_spec hs) hQ fuel listed a w (shutB_spec hc) (Region.free_spec hi hf) (by simpa using hr) (.inl ⟨hw, fun w ⟨l, h1, h2, h3⟩ => hy w l h1 h2 h3⟩) hS h
/-- one that is not wanted is passed by first -/
theorem wpLeft.off {i : Nat} {oi : Oper} {fuel : Nat} {listed : Array Bool} {a : Act} {w : World} (hi : ops[i]? = some oi) (hs : Region.noSelect ops = true) (hf : Region.free md ops listed i = true) (hr : (Region.ready md ops listed).contains i = true)
    (hc : shutB md ops listed = true) (hSi : ∀ l w, S (l.setIfInBounds i true) w ↔ S l w) (hQ : ∀ c a w, Q (.panic c) (a.put oi.dst undef) w → Q (.panic c) a w) (hw : Region.wanted oi (yielded ops a.tmps) = false) (hS : S listed w)
    (h : wpLeft P md ops Q S fuel (listed.setIfInBounds i true) (a.put oi.dst undef) w) : wpLeft P md ops Q S (fuel + 1) listed a w :=
  wpLeft.first hi hSi (Region.noSelect_spec hs) hQ fuel listed a w (shutB_spec hc) (Region.free_spec hi hf) (by simpa using hr) (.inr ⟨hw, rfl⟩) hS h
/-- more may be asked to stay from here on -/
theorem weaken {S' : Array Bool → World → Prop} (hS : ∀ l w, S' l w → S l w) : ∀ (fuel : Nat) (listed : Array Bool) (a : Act) (w : World), wpLeft P md ops Q S' fuel listed a w → wpLeft P md ops Q S fuel listed a w := by
  intro fuel
  induction fuel with
  | zero => intro _ _ _ h; exact h
  | succ fuel ih => intro listed a w h; exact ⟨h.1, fun i hi => wpOp_mono (fun a' w' h' => ⟨hS _ _ h'.1, ih _ _ _ h'.2⟩) (h.2 i hi)⟩
/-- one alone comes up -/
theorem wpLeft.one {i : Nat} {o : Oper} {fuel : Nat} {listed : Array Bool} {a : Act} {w : World} (hr : Region.ready md ops listed = [i]) (ho : ops[i]? = some o)
    (h : ∀ K' : Act → World → Prop, Shut (∀ a w, S (listed.setIfInBounds i true) w → wpLeft P md ops Q S fuel (listed.setIfInBounds i true) a w → K' a w) → if Region.wanted o (yielded ops a.tmps) = true then Oper.wp P o a w K' Q else K' (a.put o.dst undef) w) :
    wpLeft P md ops Q S (fuel + 1) listed a w := by
  refine ⟨fun h0 => (by rw [hr] at h0; cases h0), fun j hj => ?_⟩
  rw [hr] at hj
  obtain rfl : j = i := by simpa using hj
  exact wpOp_step ho (fun K' hK => h K' (fun a w h1 h2 => hK a w ⟨h1, h2⟩))
/-- two come up -/
theorem wpLeft.two {i k : Nat} {o o' : Oper} {fuel : Nat} {listed : Array Bool} {a : Act} {w : World} (hr : Region.ready md ops listed = [i, k]) (ho : ops[i]? = some o) (ho' : ops[k]? = some o')
    (h : ∀ K' : Act → World → Prop, Shut (∀ a w, S (listed.setIfInBounds i true) w → wpLeft P md ops Q S fuel (listed.setIfInBounds i true) a w → K' a w) → if Region.wanted o (yielded ops a.tmps) = true then Oper.wp P o a w K' Q else K' (a.put o.dst undef) w)
    (h' : ∀ K' : Act → World → Prop, Shut (∀ a w, S (listed.setIfInBounds k true) w → wpLeft P md ops Q S fuel (listed.setIfInBounds k true) a w → K' a w) → if Region.wanted o' (yielded ops a.tmps) = true then Oper.wp P o' a w K' Q else K' (a.put o'.dst undef) w) :
    wpLeft P md ops Q S (fuel + 1) listed a w := by
  refine ⟨fun h0 => (by rw [hr] at h0; cases h0), fun j hj => ?_⟩
  rw [hr] at hj
  rcases List.mem_cons.1 hj with e | hj
  · subst e; exact wpOp_step ho (fun K' hK => h K' (fun a w h1 h2 => hK a w ⟨h1, h2⟩))
  · obtain rfl : j = k := by simpa using hj
    exact wpOp_step ho' (fun K' hK => h' K' (fun a w h1 h2 => hK a w ⟨h1, h2⟩))
theorem wpLeft.done {listed : Array Bool} {a : Act} {w : World} {fuel : Nat} (hr : Region.ready md ops listed = []) (h : Q .normal a w) : wpLeft P md ops Q S fuel listed a w := by
  cases fuel with
  | zero => exact ⟨hr, h⟩
  | succ n => exact ⟨fun _ => h, by rw [hr]; simp⟩
theorem region {id : Nat} {a : Act} {w : World} (S : Array Bool → World → Prop) (hm : P.follows .mixedOrders = true) (h : wpLeft P .any ops Q S ops.size (Array.replicate ops.size false) a w.drew) : (Code.region id ops true).wp P Q a w :=
  wp_region_any hm (wpLeft.any _ _ _ _ h)
end
end Go.Proofs.YtjeckkkmoabjnaaDoor.held2
