/-
  Plain law of reading JSON: a machine with a stack, and a reading value by value.
  Plain law of reading JSON: fuel is no matter; what is read is right; rests are shorter.
  Plain law of reading JSON: what is read is right, and how many values it has; depths and counts may be others.
  The reader's memory: a stack of frames, each with its keys, kids and the keys that were seen.
  The reader's memory: a frame is pushed, is popped; a key, a kid is added.
  The reader's memory: a kid, a key is added to the innermost frame.
-/
import Derived.Test.YtdbidkfjbhclcaaDoorNodM
import Derived.Test.YtdbidkfjbhclcaaDoorIntM
namespace Go.Proofs.YtdbidkfjbhclcaaDoor.jsonP
open Go.Proofs.YtdbidkfjbhclcaaDoor.nodeP Go.Proofs.YtdbidkfjbhclcaaDoor.nodeQ Go.Proofs.YtdbidkfjbhclcaaDoor.utfP Go.Proofs.YtdbidkfjbhclcaaDoor.utfQ Go.Proofs.YtdbidkfjbhclcaaDoor.utfR
set_option linter.unusedSimpArgs false
set_option linter.unusedVariables false

def isBl (c : UInt8) : Bool := c == 9 || c == 10 || c == 13 || c == 32
def bs (u : List UInt8) : List UInt8 := u.dropWhile isBl
/-- the byte at a place; 0 at the end -/
def hd (u : List UInt8) : Nat := (u.headD 0).toNat

/-- a string at the head of a text -/
noncomputable def stk (l : List UInt8) : Option (List UInt8 × Nat) := if bt l 0 = 34 then (quoteP.tk l.tail).map fun q => (q.1, q.2 + 1) else none

structure Fr where
  obj : Bool
  keys : List ByteArray
  kids : List Nd
def Fr.node (f : Fr) : Nd := .mk (if f.obj then 7 else 6) 0 ByteArray.empty f.keys f.kids
instance : Inhabited Fr := ⟨⟨false, [], []⟩⟩
def Fr.close (f : Fr) : Nat := if f.obj then 125 else 93

def inK (x : ByteArray) (l : List ByteArray) : Bool := l.any fun k => decide (k = x)
theorem inK_iff {x : ByteArray} {l : List ByteArray} : inK x l = true ↔ x ∈ l := by simp [inK, List.any_eq_true]

inductive Lab where
  | value | key | follow (x : Nd)
structure Cf where
  lab : Lab
  u : List UInt8
  count : Nat
  st : List Fr
inductive Res where
  | ok (x : Nd)
  | err (e : Nat)

def word (k : Int) : Nd := .mk k 0 ByteArray.empty [] []
def isNum (c : Nat) : Bool := c == 45 || (decide (48 ≤ c) && decide (c ≤ 57))
def wNull : List UInt8 := [110, 117, 108, 108]
def wFalse : List UInt8 := [102, 97, 108, 115, 101]
def wTrue : List UInt8 := [116, 114, 117, 101]
/-- a value without kids, and how long it is; or the error -/
noncomputable def scal (u : List UInt8) : Nd × Nat × Nat :=
  if hd u = 34 then (match stk u with
    | some (x, n) => (.mk 5 0 ⟨x.toArray⟩ [] [], n, 0)
    | none => (word 0, 0, 1))
  else if isNum (hd u) = true then (if (intsP.takeN u).2.2 = 0 then (.mk 4 (intsP.takeN u).1 ByteArray.empty [] [], (intsP.takeN u).2.1, 0) else (word 0, 0, (intsP.takeN u).2.2))
  else if Lib.hasPrefix u wNull = true then (word 1, 4, 0)
  else if Lib.hasPrefix u wFalse = true then (word 2, 5, 0)
  else if Lib.hasPrefix u wTrue = true then (word 3, 4, 0)
  else (word 0, 0, 1)

/-- one pass from a label to the next -/
noncomputable def step (c : Cf) : Cf ⊕ Res :=
  match c.lab with
  | .value =>
    if bs c.u = [] then .inr (.err 1)
    else if c.count = 20000 then .inr (.err 3)
    else if hd (bs c.u) = 91 ∨ hd (bs c.u) = 123 then
      if c.st.length = 32 then .inr (.err 2)
      else if bs (bs c.u).tail ≠ [] ∧ hd (bs (bs c.u).tail) = (Fr.mk (decide (hd (bs c.u) = 123)) [] []).close then .inl ⟨.follow (Fr.mk (decide (hd (bs c.u) = 123)) [] []).node, (bs (bs c.u).tail).tail, c.count + 1, c.st⟩
      else .inl ⟨if hd (bs c.u) = 123 then .key else .value, bs (bs c.u).tail, c.count + 1, ⟨decide (hd (bs c.u) = 123), [], []⟩ :: c.st⟩
    else if (scal (bs c.u)).2.2 ≠ 0 then .inr (.err (scal (bs c.u)).2.2)
    else .inl ⟨.follow (scal (bs c.u)).1, (bs c.u).drop (scal (bs c.u)).2.1, c.count + 1, c.st⟩
  | .key => match c.st with
    | [] => .inr (.err 0)
    | f :: st => match stk (bs c.u) with
      | none => .inr (.err 1)
      | some (x, n) =>
        if inK ⟨x.toArray⟩ f.keys = true then .inr (.err 5)
        else if bs ((bs c.u).drop n) = [] ∨ hd (bs ((bs c.u).drop n)) ≠ 58 then .inr (.err 1)
        else .inl ⟨.value, (bs ((bs c.u).drop n)).tail, c.count, ⟨f.obj, f.keys ++ [⟨x.toArray⟩], f.kids⟩ :: st⟩
  | .follow x => match c.st with
    | [] => if bs c.u = [] then .inr (.ok x) else .inr (.err 1)
    | f :: st =>
      if bs c.u = [] then .inr (.err 1)
      else if hd (bs c.u) = f.close then .inl ⟨.follow (Fr.mk f.obj f.keys (f.kids ++ [x])).node, (bs c.u).tail, c.count, st⟩
      else if hd (bs c.u) = 44 then .inl ⟨if f.obj then .key else .value, (bs c.u).tail, c.count, ⟨f.obj, f.keys, f.kids ++ [x]⟩ :: st⟩
      else .inr (.err 1)

inductive Runs : Cf → Res → Prop where
  | fin {c : Cf} {r : Res} : step c = .inr r → Runs c r
  | go {c c' : Cf} {r : Res} : step c = .inl c' → Runs c' r → Runs c r
theorem Runs.fin' {c : Cf} {r r' : Res} (h : Runs c r) (hs : step c = .inr r') : r = r' := by
  cases h with
  | fin h => rw [h] at hs; cases hs; rfl
  | go h _ => rw [h] at hs; cases hs
theorem Runs.next {c c' : Cf} {r : Res} (h : Runs c r) (hs : step c = .inl c') : Runs c' r := by
  cases h with
  | fin h => rw [h] at hs; cases hs
  | go h h' => rw [h] at hs; cases hs; exact h'

theorem bs_len (u : List UInt8) : (bs u).length ≤ u.length := (List.dropWhile_sublist _).length_le
theorem bs_bs (u : List UInt8) : bs (bs u) = bs u := by
  induction u with
  | nil => rfl
  | cons c u ih =>
    by_cases h : isBl c = true
    · simp only [bs, List.dropWhile_cons, h, if_true] at *; exact ih
    · have e : bs (c :: u) = c :: u := by unfold bs; rw [List.dropWhile_cons, if_neg h]
      rw [e, e]
theorem tail_len {u : List UInt8} (h : u ≠ []) : u.tail.length < u.length := by
  cases u with
  | nil => exact absurd rfl h
  | cons c u => simp

/-! ### value by value -/
inductive R3 where
  | ok (x : Nd) (u : List UInt8) (c : Nat)
  | err (e : Nat)
  | stuck
mutual
/-- a value at a depth, behind so many values -/
noncomputable def rdV : Nat → Nat → Nat → List UInt8 → R3
  | 0, _, _, _ => .stuck
  | f + 1, d, n, u =>
    if bs u = [] then .err 1
    else if n = 20000 then .err 3
    else if hd (bs u) = 91 ∨ hd (bs u) = 123 then
      if d = 32 then .err 2
      else if bs (bs u).tail ≠ [] ∧ hd (bs (bs u).tail) = (Fr.mk (decide (hd (bs u) = 123)) [] []).close then .ok (Fr.mk (decide (hd (bs u) = 123)) [] []).node (bs (bs u).tail).tail (n + 1)
      else rdK f d (n + 1) (bs (bs u).tail) ⟨decide (hd (bs u) = 123), [], []⟩
    else if (scal (bs u)).2.2 ≠ 0 then .err (scal (bs u)).2.2
    else .ok (scal (bs u)).1 ((bs u).drop (scal (bs u)).2.1) (n + 1)
/-- the rest of an Array or an Object, from a key or a value on -/
noncomputable def rdK : Nat → Nat → Nat → List UInt8 → Fr → R3
  | 0, _, _, _, _ => .stuck
  | f + 1, d, n, u, g =>
    if g.obj = true then
      match stk (bs u) with
      | none => .err 1
      | some (x, k) =>
        if inK ⟨x.toArray⟩ g.keys = true then .err 5
        else if bs ((bs u).drop k) = [] ∨ hd (bs ((bs u).drop k)) ≠ 58 then .err 1
        else match rdV f (d + 1) n (bs ((bs u).drop k)).tail with
          | .ok y v m =>
            if bs v = [] then .err 1
            else if hd (bs v) = g.close then .ok (Fr.mk g.obj (g.keys ++ [⟨x.toArray⟩]) (g.kids ++ [y])).node (bs v).tail m
            else if hd (bs v) = 44 then rdK f d m (bs v).tail ⟨g.obj, g.keys ++ [⟨x.toArray⟩], g.kids ++ [y]⟩
            else .err 1
          | r => r
    else match rdV f (d + 1) n u with
      | .ok y v m =>
        if bs v = [] then .err 1
        else if hd (bs v) = g.close then .ok (Fr.mk g.obj g.keys (g.kids ++ [y])).node (bs v).tail m
        else if hd (bs v) = 44 then rdK f d m (bs v).tail ⟨g.obj, g.keys, g.kids ++ [y]⟩
        else .err 1
      | r => r
end

/-- what a result leads to -/
def Leads (c : Cf) (st : List Fr) (r : R3) : Prop := match r with
  | .ok x u m => ∀ r, Runs ⟨.follow x, u, m, st⟩ r → Runs c r
  | .err e => Runs c (.err e)
  | .stuck => True

theorem leads (f : Nat) : (∀ d n u st, st.length = d → Leads ⟨.value, u, n, st⟩ st (rdV f d n u)) ∧ (∀ d n u g st, st.length = d → Leads ⟨if g.obj then .key else .value, u, n, g :: st⟩ st (rdK f d n u g)) := by
  induction f with
  | zero => exact ⟨fun d n u st _ => by unfold rdV; exact trivial, fun d n u g st _ => by unfold rdK; exact trivial⟩
  | succ f ih =>
    obtain ⟨ihV, ihK⟩ := ih
    have tail : ∀ (d n : Nat) (v : List UInt8) (g : Fr) (y : Nd) (m : Nat) (st : List Fr) (c : Cf), st.length = d → (∀ r, Runs ⟨.follow y, v, m, g :: st⟩ r → Runs c r) →
        Leads c st (if bs v = [] then .err 1 else if hd (bs v) = g.close then .ok (Fr.mk g.obj g.keys (g.kids ++ [y])).node (bs v).tail m else if hd (bs v) = 44 then rdK f d m (bs v).tail ⟨g.obj, g.keys, g.kids ++ [y]⟩ else .err 1) := by
      intro d n v g y m st c hd' h
      by_cases h1 : bs v = []
      · rw [if_pos h1]; exact h _ (.fin (by simp [step, h1]))
      · rw [if_neg h1]
        by_cases h2 : hd (bs v) = g.close
        · rw [if_pos h2]; intro r hr; exact h _ (.go (by simp only [step]; rw [if_neg h1, if_pos h2]) hr)
        · rw [if_neg h2]
          by_cases h3 : hd (bs v) = 44
          · rw [if_pos h3]
            have hk := ihK d m (bs v).tail ⟨g.obj, g.keys, g.kids ++ [y]⟩ st hd'
            have hgo : ∀ r, Runs ⟨if g.obj then .key else .value, (bs v).tail, m, ⟨g.obj, g.keys, g.kids ++ [y]⟩ :: st⟩ r → Runs c r := fun r hr => h _ (.go (by simp only [step]; rw [if_neg h1, if_neg h2, if_pos h3]) hr)
            cases hr : rdK f d m (bs v).tail ⟨g.obj, g.keys, g.kids ++ [y]⟩ with
            | ok x u k => rw [hr] at hk; exact fun r h' => hgo r (hk r h')
            | err e => rw [hr] at hk; exact hgo _ hk
            | stuck => exact trivial
          · rw [if_neg h3]; exact h _ (.fin (by simp only [step]; rw [if_neg h1, if_neg h2, if_neg h3]))
    refine ⟨fun d n u st hd' => ?_, fun d n u g st hd' => ?_⟩
    · unfold rdV
      by_cases h1 : bs u = []
      · rw [if_pos h1]; exact .fin (by simp [step, h1])
      rw [if_neg h1]
      by_cases h2 : n = 20000
      · rw [if_pos h2]; exact .fin (by simp [step, h1, h2])
      rw [if_neg h2]
      by_cases h3 : hd (bs u) = 91 ∨ hd (bs u) = 123
      · rw [if_pos h3]
        by_cases h4 : d = 32
        · rw [if_pos h4]; exact .fin (by simp only [step]; rw [if_neg h1, if_neg h2, if_pos h3, if_pos (by rw [hd', h4])])
        rw [if_neg h4]
        by_cases h5 : bs (bs u).tail ≠ [] ∧ hd (bs (bs u).tail) = (Fr.mk (decide (hd (bs u) = 123)) [] []).close
        · rw [if_pos h5]; intro r hr; exact .go (by simp only [step]; rw [if_neg h1, if_neg h2, if_pos h3, if_neg (by rw [hd']; exact h4), if_pos h5]) hr
        · rw [if_neg h5]
          have hk := ihK d (n + 1) (bs (bs u).tail) ⟨decide (hd (bs u) = 123), [], []⟩ st hd'
          have hgo : ∀ r, Runs ⟨if decide (hd (bs u) = 123) then .key else .value, bs (bs u).tail, n + 1, ⟨decide (hd (bs u) = 123), [], []⟩ :: st⟩ r → Runs ⟨.value, u, n, st⟩ r := fun r hr => .go (by
            simp only [step]; rw [if_neg h1, if_neg h2, if_pos h3, if_neg (by rw [hd']; exact h4), if_neg h5]) (by
            simpa using hr)
          cases hr : rdK f d (n + 1) (bs (bs u).tail) ⟨decide (hd (bs u) = 123), [], []⟩ with
          | ok x u k => rw [hr] at hk; exact fun r h' => hgo r (hk r h')
          | err e => rw [hr] at hk; exact hgo _ hk
          | stuck => exact trivial
      · rw [if_neg h3]
        by_cases h4 : (scal (bs u)).2.2 ≠ 0
        · rw [if_pos h4]; exact .fin (by simp only [step]; rw [if_neg h1, if_neg h2, if_neg h3, if_pos h4])
        · rw [if_neg h4]; intro r hr; exact .go (by simp only [step]; rw [if_neg h1, if_neg h2, if_neg h3, if_neg h4]) hr
    · unfold rdK
      by_cases ho : g.obj = true
      · rw [if_pos ho, if_pos ho]
        cases hs : stk (bs u) with
        | none => exact .fin (by simp only [step]; rw [hs])
        | some q =>
          obtain ⟨x, k⟩ := q
          dsimp only
          by_cases h1 : inK ⟨x.toArray⟩ g.keys = true
          · rw [if_pos h1]; exact .fin (by simp only [step]; rw [hs]; dsimp only; rw [if_pos h1])
          rw [if_neg h1]
          by_cases h2 : bs ((bs u).drop k) = [] ∨ hd (bs ((bs u).drop k)) ≠ 58
          · rw [if_pos h2]; exact .fin (by simp only [step]; rw [hs]; dsimp only; rw [if_neg h1, if_pos h2])
          rw [if_neg h2]
          have hv := ihV (d + 1) n (bs ((bs u).drop k)).tail (⟨g.obj, g.keys ++ [⟨x.toArray⟩], g.kids⟩ :: st) (by simp [hd'])
          have hgo : ∀ r, Runs ⟨.value, (bs ((bs u).drop k)).tail, n, ⟨g.obj, g.keys ++ [⟨x.toArray⟩], g.kids⟩ :: st⟩ r → Runs ⟨.key, u, n, g :: st⟩ r := fun r hr => .go (by
            simp only [step]; rw [hs]; dsimp only; rw [if_neg h1, if_neg h2]) hr
          cases hr : rdV f (d + 1) n (bs ((bs u).drop k)).tail with
          | ok y v m => rw [hr] at hv; exact tail d n v ⟨g.obj, g.keys ++ [⟨x.toArray⟩], g.kids⟩ y m st _ hd' (fun r h' => hgo r (hv r h'))
          | err e => rw [hr] at hv; exact hgo _ hv
          | stuck => exact trivial
      · rw [if_neg ho, if_neg ho]
        have hv := ihV (d + 1) n u (g :: st) (by simp [hd'])
        cases hr : rdV f (d + 1) n u with
        | ok y v m => rw [hr] at hv; exact tail d n v g y m st _ hd' (fun r h' => hv r h')
        | err e => rw [hr] at hv; exact hv
        | stuck => exact trivial
end Go.Proofs.YtdbidkfjbhclcaaDoor.jsonP
namespace Go.Proofs.YtdbidkfjbhclcaaDoor.jsonQ
open Go.Proofs.YtdbidkfjbhclcaaDoor.nodeP Go.Proofs.YtdbidkfjbhclcaaDoor.nodeQ Go.Proofs.YtdbidkfjbhclcaaDoor.utfP Go.Proofs.YtdbidkfjbhclcaaDoor.utfQ Go.Proofs.YtdbidkfjbhclcaaDoor.utfR Go.Proofs.YtdbidkfjbhclcaaDoor.jsonP
set_option linter.unusedSimpArgs false
set_option linter.unusedVariables false

theorem hd_bt (u : List UInt8) : hd u = bt u 0 := by cases u <;> rfl
theorem hd_ne {u : List UInt8} {n : Nat} (h : hd u = n) (hn : n ≠ 0) : u ≠ [] := by rintro rfl; exact hn h.symm
theorem tail_le (u : List UInt8) : u.tail.length ≤ u.length := by rw [List.length_tail]; omega
theorem stk_len {l x : List UInt8} {n : Nat} (h : stk l = some (x, n)) : 1 ≤ n ∧ n ≤ l.length ∧ x.length + 2 ≤ n ∧ (pts x).isSome = true := by
  unfold stk at h
  by_cases h34 : bt l 0 = 34
  · rw [if_pos h34] at h
    obtain ⟨q, hq, e⟩ := Option.map_eq_some_iff.1 h
    obtain ⟨y, m⟩ := q
    rw [Prod.mk.injEq] at e
    obtain ⟨rfl, rfl⟩ := e
    obtain ⟨i1, i2, i3, i4⟩ := quoteP.tk_len _ _ (Nat.le_refl _) y m hq
    have hne : l ≠ [] := by rintro rfl; cases h34
    have := tail_len hne
    exact ⟨by omega, by dsimp only; omega, by dsimp only; omega, i4⟩
  · rw [if_neg h34] at h; cases h
theorem takeN_len {l : List UInt8} (h : (intsP.takeN l).2.2 = 0) : 1 ≤ (intsP.takeN l).2.1 ∧ (intsP.takeN l).2.1 ≤ l.length ∧ In64 (intsP.takeN l).1 := by
  have hw := intsP.whole_le l
  unfold intsP.takeN at h ⊢
  by_cases h0 : intsP.whole l = 0
  · rw [if_pos h0] at h; cases h
  rw [if_neg h0] at h ⊢
  by_cases h1 : intsP.whole l < intsP.every l
  · rw [if_pos h1] at h; cases h
  rw [if_neg h1] at h ⊢
  cases hv : intsP.valO (l.take (intsP.whole l)) with
  | none => rw [hv] at h; cases h
  | some v =>
    dsimp only
    have := intsP.valO_bd hv
    exact ⟨by omega, hw, this.1, this.2⟩
theorem pre_iff {u t : List UInt8} : Lib.hasPrefix u t = true ↔ t <+: u := List.isPrefixOf_iff_prefix
theorem pre_len {u t : List UInt8} (h : Lib.hasPrefix u t = true) : t.length ≤ u.length := (pre_iff.1 h).length_le
/-- a value without kids -/
theorem scal_ok {u : List UInt8} (h : (scal u).2.2 = 0) (d : Nat) : 1 ≤ (scal u).2.1 ∧ (scal u).2.1 ≤ u.length ∧ okAt (scal u).1 d = true ∧ count (scal u).1 = 1 ∧ dp (scal u).1 = 0 := by
  unfold scal at h ⊢
  by_cases h1 : hd u = 34
  · rw [if_pos h1] at h ⊢
    cases hs : stk u with
    | none => rw [hs] at h; cases h
    | some q =>
      obtain ⟨x, n⟩ := q
      obtain ⟨i1, i2, i3, i4⟩ := stk_len hs
      have hv : vld ⟨x.toArray⟩ = true := by unfold vld; exact i4
      refine ⟨i1, i2, ?_, rfl, rfl⟩
      simp [okAt, one, oks, hv]
  rw [if_neg h1] at h ⊢
  by_cases h2 : isNum (hd u) = true
  · rw [if_pos h2] at h ⊢
    by_cases h3 : (intsP.takeN u).2.2 = 0
    · rw [if_pos h3] at h ⊢
      obtain ⟨i1, i2, i3⟩ := takeN_len h3
      refine ⟨i1, i2, ?_, rfl, rfl⟩
      simp [okAt, one, oks]
    · rw [if_neg h3] at h; exact absurd h h3
  rw [if_neg h2] at h ⊢
  have hw : ∀ k : Int, (k = 1 ∨ k = 2 ∨ k = 3) → okAt (word k) d = true ∧ count (word k) = 1 ∧ dp (word k) = 0 := by
    intro k hk
    refine ⟨?_, rfl, rfl⟩
    rcases hk with rfl | rfl | rfl <;> simp [okAt, one, oks, word]
  by_cases h3 : Lib.hasPrefix u wNull = true
  · rw [if_pos h3]; have := pre_len h3; exact ⟨by decide, this, hw 1 (by simp)⟩
  rw [if_neg h3] at h ⊢
  by_cases h4 : Lib.hasPrefix u wFalse = true
  · rw [if_pos h4]; have := pre_len h4; exact ⟨by decide, this, hw 2 (by simp)⟩
  rw [if_neg h4] at h ⊢
  by_cases h5 : Lib.hasPrefix u wTrue = true
  · rw [if_pos h5]; have := pre_len h5; exact ⟨by decide, this, hw 3 (by simp)⟩
  rw [if_neg h5] at h; cases h

/-- rests are shorter -/
theorem rd_len (f : Nat) : (∀ d n u x v m, rdV f d n u = .ok x v m → v.length < u.length) ∧ (∀ d n u g x v m, rdK f d n u g = .ok x v m → v.length < u.length) := by
  induction f with
  | zero => exact ⟨fun d n u x v m h => (by unfold rdV at h; cases h), fun d n u g x v m h => (by unfold rdK at h; cases h)⟩
  | succ f ih =>
    obtain ⟨ihV, ihK⟩ := ih
    have tail : ∀ (d : Nat) (v : List UInt8) (g : Fr) (y : Nd) (m : Nat) (x : Nd) (v' : List UInt8) (m' : Nat),
        (if bs v = [] then R3.err 1 else if hd (bs v) = g.close then .ok (Fr.mk g.obj g.keys (g.kids ++ [y])).node (bs v).tail m else if hd (bs v) = 44 then rdK f d m (bs v).tail ⟨g.obj, g.keys, g.kids ++ [y]⟩ else .err 1) = .ok x v' m' → v'.length < v.length := by
      intro d v g y m x v' m' h
      have hb := bs_len v
      by_cases h1 : bs v = []
      · rw [if_pos h1] at h; cases h
      have ht := tail_len h1
      rw [if_neg h1] at h
      by_cases h2 : hd (bs v) = g.close
      · rw [if_pos h2] at h; cases h; omega
      rw [if_neg h2] at h
      by_cases h3 : hd (bs v) = 44
      · rw [if_pos h3] at h
        have := ihK _ _ _ _ _ _ _ h; omega
      · rw [if_neg h3] at h; cases h
    refine ⟨fun d n u x v m h => ?_, fun d n u g x v m h => ?_⟩
    · unfold rdV at h
      have hb := bs_len u
      by_cases h1 : bs u = []
      · rw [if_pos h1] at h; cases h
      have ht := tail_len h1
      rw [if_neg h1] at h
      by_cases h2 : n = 20000
      · rw [if_pos h2] at h; cases h
      rw [if_neg h2] at h
      by_cases h3 : hd (bs u) = 91 ∨ hd (bs u) = 123
      · rw [if_pos h3] at h
        by_cases h4 : d = 32
        · rw [if_pos h4] at h; cases h
        rw [if_neg h4] at h
        by_cases h5 : bs (bs u).tail ≠ [] ∧ hd (bs (bs u).tail) = (Fr.mk (decide (hd (bs u) = 123)) [] []).close
        · rw [if_pos h5] at h; cases h
          have := bs_len (bs u).tail
          have := tail_le (bs (bs u).tail)
          omega
        · rw [if_neg h5] at h
          have := ihK _ _ _ _ _ _ _ h
          have := bs_len (bs u).tail
          omega
      · rw [if_neg h3] at h
        by_cases h4 : (scal (bs u)).2.2 ≠ 0
        · rw [if_pos h4] at h; cases h
        · rw [if_neg h4] at h; cases h
          obtain ⟨i1, i2, _⟩ := scal_ok (u := bs u) (by omega) 0
          rw [List.length_drop]; omega
    · unfold rdK at h
      by_cases ho : g.obj = true
      · rw [if_pos ho] at h
        cases hs : stk (bs u) with
        | none => rw [hs] at h; cases h
        | some q =>
          obtain ⟨k, kn⟩ := q
          rw [hs] at h
          dsimp only at h
          by_cases h1 : inK ⟨k.toArray⟩ g.keys = true
          · rw [if_pos h1] at h; cases h
          rw [if_neg h1] at h
          by_cases h2 : bs ((bs u).drop kn) = [] ∨ hd (bs ((bs u).drop kn)) ≠ 58
          · rw [if_pos h2] at h; cases h
          rw [if_neg h2] at h
          cases hr : rdV f (d + 1) n (bs ((bs u).drop kn)).tail with
          | ok y w m2 =>
            rw [hr] at h
            have h3 := ihV _ _ _ _ _ _ hr
            have h4 := tail d w ⟨g.obj, g.keys ++ [⟨k.toArray⟩], g.kids⟩ y m2 x v m h
            have := bs_len u
            have := bs_len ((bs u).drop kn)
            have := tail_le (bs ((bs u).drop kn))
            rw [List.length_drop] at *
            omega
          | err e => rw [hr] at h; cases h
          | stuck => rw [hr] at h; cases h
      · rw [if_neg ho] at h
        cases hr : rdV f (d + 1) n u with
        | ok y w m2 =>
          rw [hr] at h
          have h3 := ihV _ _ _ _ _ _ hr
          have h4 := tail d w g y m2 x v m h
          omega
        | err e => rw [hr] at h; cases h
        | stuck => rw [hr] at h; cases h

/-- so much fuel is enough -/
theorem rd_enough (f : Nat) : (∀ d n u, 2 * u.length + 1 ≤ f → rdV f d n u ≠ .stuck) ∧ (∀ d n u g, 2 * u.length + 2 ≤ f → rdK f d n u g ≠ .stuck) := by
  induction f with
  | zero => exact ⟨fun d n u h => by omega, fun d n u g h => by omega⟩
  | succ f ih =>
    obtain ⟨ihV, ihK⟩ := ih
    have tail : ∀ (d : Nat) (v : List UInt8) (g : Fr) (y : Nd) (m : Nat), 2 * v.length ≤ f →
        (if bs v = [] then R3.err 1 else if hd (bs v) = g.close then .ok (Fr.mk g.obj g.keys (g.kids ++ [y])).node (bs v).tail m else if hd (bs v) = 44 then rdK f d m (bs v).tail ⟨g.obj, g.keys, g.kids ++ [y]⟩ else .err 1) ≠ .stuck := by
      intro d v g y m hf h
      have hb := bs_len v
      by_cases h1 : bs v = []
      · rw [if_pos h1] at h; cases h
      have ht := tail_len h1
      rw [if_neg h1] at h
      by_cases h2 : hd (bs v) = g.close
      · rw [if_pos h2] at h; cases h
      rw [if_neg h2] at h
      by_cases h3 : hd (bs v) = 44
      · rw [if_pos h3] at h
        exact ihK _ _ _ _ (by omega) h
      · rw [if_neg h3] at h; cases h
    refine ⟨fun d n u hf h => ?_, fun d n u g hf h => ?_⟩
    · unfold rdV at h
      have hb := bs_len u
      by_cases h1 : bs u = []
      · rw [if_pos h1] at h; cases h
      have ht := tail_len h1
      rw [if_neg h1] at h
      by_cases h2 : n = 20000
      · rw [if_pos h2] at h; cases h
      rw [if_neg h2] at h
      by_cases h3 : hd (bs u) = 91 ∨ hd (bs u) = 123
      · rw [if_pos h3] at h
        by_cases h4 : d = 32
        · rw [if_pos h4] at h; cases h
        rw [if_neg h4] at h
        by_cases h5 : bs (bs u).tail ≠ [] ∧ hd (bs (bs u).tail) = (Fr.mk (decide (hd (bs u) = 123)) [] []).close
        · rw [if_pos h5] at h; cases h
        · rw [if_neg h5] at h
          have := bs_len (bs u).tail
          exact ihK _ _ _ _ (by omega) h
      · rw [if_neg h3] at h
        by_cases h4 : (scal (bs u)).2.2 ≠ 0
        · rw [if_pos h4] at h; cases h
        · rw [if_neg h4] at h; cases h
    · unfold rdK at h
      by_cases ho : g.obj = true
      · rw [if_pos ho] at h
        cases hs : stk (bs u) with
        | none => rw [hs] at h; cases h
        | some q =>
          obtain ⟨k, kn⟩ := q
          rw [hs] at h
          dsimp only at h
          by_cases h1 : inK ⟨k.toArray⟩ g.keys = true
          · rw [if_pos h1] at h; cases h
          rw [if_neg h1] at h
          by_cases h2 : bs ((bs u).drop kn) = [] ∨ hd (bs ((bs u).drop kn)) ≠ 58
          · rw [if_pos h2] at h; cases h
          rw [if_neg h2] at h
          have := bs_len u
          have := bs_len ((bs u).drop kn)
          have := tail_le (bs ((bs u).drop kn))
          rw [List.length_drop] at *
          cases hr : rdV f (d + 1) n (bs ((bs u).drop kn)).tail with
          | ok y w m2 =>
            rw [hr] at h
            have h3 := (rd_len f).1 _ _ _ _ _ _ hr
            exact tail d w ⟨g.obj, g.keys ++ [⟨k.toArray⟩], g.kids⟩ y m2 (by omega) h
          | err e => rw [hr] at h; cases h
          | stuck => exact ihV _ _ _ (by omega) hr
      · rw [if_neg ho] at h
        cases hr : rdV f (d + 1) n u with
        | ok y w m2 =>
          rw [hr] at h
          have h3 := (rd_len f).1 _ _ _ _ _ _ hr
          exact tail d w g y m2 (by omega) h
        | err e => rw [hr] at h; cases h
        | stuck => exact ihV _ _ _ (by omega) hr

/-- what is read with some fuel is read with more -/
theorem rd_more (f : Nat) : (∀ d n u, rdV f d n u ≠ .stuck → rdV (f + 1) d n u = rdV f d n u) ∧ (∀ d n u g, rdK f d n u g ≠ .stuck → rdK (f + 1) d n u g = rdK f d n u g) := by
  induction f with
  | zero => exact ⟨fun d n u h => by unfold rdV at h; exact absurd rfl h, fun d n u g h => by unfold rdK at h; exact absurd rfl h⟩
  | succ f ih =>
    obtain ⟨ihV, ihK⟩ := ih
    have tail : ∀ (d : Nat) (v : List UInt8) (g : Fr) (y : Nd) (m : Nat),
        (if bs v = [] then R3.err 1 else if hd (bs v) = g.close then .ok (Fr.mk g.obj g.keys (g.kids ++ [y])).node (bs v).tail m else if hd (bs v) = 44 then rdK f d m (bs v).tail ⟨g.obj, g.keys, g.kids ++ [y]⟩ else .err 1) ≠ .stuck →
        (if bs v = [] then R3.err 1 else if hd (bs v) = g.close then .ok (Fr.mk g.obj g.keys (g.kids ++ [y])).node (bs v).tail m else if hd (bs v) = 44 then rdK (f + 1) d m (bs v).tail ⟨g.obj, g.keys, g.kids ++ [y]⟩ else .err 1) =
        (if bs v = [] then R3.err 1 else if hd (bs v) = g.close then .ok (Fr.mk g.obj g.keys (g.kids ++ [y])).node (bs v).tail m else if hd (bs v) = 44 then rdK f d m (bs v).tail ⟨g.obj, g.keys, g.kids ++ [y]⟩ else .err 1) := by
      intro d v g y m h
      by_cases h1 : bs v = []
      · rw [if_pos h1, if_pos h1]
      rw [if_neg h1] at h ⊢
      rw [if_neg h1]
      by_cases h2 : hd (bs v) = g.close
      · rw [if_pos h2, if_pos h2]
      rw [if_neg h2] at h ⊢
      rw [if_neg h2]
      by_cases h3 : hd (bs v) = 44
      · rw [if_pos h3] at h ⊢
        rw [if_pos h3]
        exact ihK _ _ _ _ h
      · rw [if_neg h3, if_neg h3]
    refine ⟨fun d n u h => ?_, fun d n u g h => ?_⟩
    · rw [rdV.eq_2 d n u (f + 1), rdV.eq_2 d n u f] at *
      by_cases h1 : bs u = []
      · rw [if_pos h1, if_pos h1]
      rw [if_neg h1] at h ⊢
      rw [if_neg h1]
      by_cases h2 : n = 20000
      · rw [if_pos h2, if_pos h2]
      rw [if_neg h2] at h ⊢
      rw [if_neg h2]
      by_cases h3 : hd (bs u) = 91 ∨ hd (bs u) = 123
      · rw [if_pos h3] at h ⊢
        rw [if_pos h3]
        by_cases h4 : d = 32
        · rw [if_pos h4, if_pos h4]
        rw [if_neg h4] at h ⊢
        rw [if_neg h4]
        by_cases h5 : bs (bs u).tail ≠ [] ∧ hd (bs (bs u).tail) = (Fr.mk (decide (hd (bs u) = 123)) [] []).close
        · rw [if_pos h5, if_pos h5]
        · rw [if_neg h5] at h ⊢
          rw [if_neg h5]
          exact ihK _ _ _ _ h
      · rw [if_neg h3, if_neg h3]
    · rw [rdK.eq_2 d n u g (f + 1), rdK.eq_2 d n u g f] at *
      by_cases ho : g.obj = true
      · rw [if_pos ho] at h ⊢
        rw [if_pos ho]
        cases hs : stk (bs u) with
        | none => rfl
        | some q =>
          obtain ⟨k, kn⟩ := q
          rw [hs] at h
          dsimp only at h ⊢
          by_cases h1 : inK ⟨k.toArray⟩ g.keys = true
          · rw [if_pos h1, if_pos h1]
          rw [if_neg h1] at h ⊢
          rw [if_neg h1]
          by_cases h2 : bs ((bs u).drop kn) = [] ∨ hd (bs ((bs u).drop kn)) ≠ 58
          · rw [if_pos h2, if_pos h2]
          rw [if_neg h2] at h ⊢
          rw [if_neg h2]
          have hv := ihV (d + 1) n (bs ((bs u).drop kn)).tail (by intro e; rw [e] at h; exact h rfl)
          rw [hv]
          cases hr : rdV f (d + 1) n (bs ((bs u).drop kn)).tail with
          | ok y w m2 => rw [hr] at h; exact tail d w ⟨g.obj, g.keys ++ [⟨k.toArray⟩], g.kids⟩ y m2 h
          | err e => rfl
          | stuck => rfl
      · rw [if_neg ho] at h ⊢
        rw [if_neg ho]
        have hv := ihV (d + 1) n u (by intro e; rw [e] at h; exact h rfl)
        rw [hv]
        cases hr : rdV f (d + 1) n u with
        | ok y w m2 => rw [hr] at h; exact tail d w g y m2 h
        | err e => rfl
        | stuck => rfl
theorem rdV_more {f g : Nat} (hfg : f ≤ g) {d n : Nat} {u : List UInt8} (h : rdV f d n u ≠ .stuck) : rdV g d n u = rdV f d n u := by
  induction hfg with
  | refl => rfl
  | @step g _ ih => rw [← ih]; exact (rd_more g).1 d n u (by rw [ih]; exact h)
theorem rdK_more {f g : Nat} (hfg : f ≤ g) {d n : Nat} {u : List UInt8} {r : Fr} (h : rdK f d n u r ≠ .stuck) : rdK g d n u r = rdK f d n u r := by
  induction hfg with
  | refl => rfl
  | @step g _ ih => rw [← ih]; exact (rd_more g).2 d n u r (by rw [ih]; exact h)
/-- a value at a depth, without fuel -/
noncomputable def rv (d n : Nat) (u : List UInt8) : R3 := rdV (2 * u.length + 1) d n u
noncomputable def rr (d n : Nat) (u : List UInt8) (g : Fr) : R3 := rdK (2 * u.length + 2) d n u g
theorem rv_of {f d n : Nat} {u : List UInt8} (h : 2 * u.length + 1 ≤ f) : rdV f d n u = rv d n u := rdV_more h ((rd_enough _).1 d n u (Nat.le_refl _))
theorem rr_of {f d n : Nat} {u : List UInt8} {g : Fr} (h : 2 * u.length + 2 ≤ f) : rdK f d n u g = rr d n u g := rdK_more h ((rd_enough _).2 d n u g (Nat.le_refl _))
theorem rv_ne (d n : Nat) (u : List UInt8) : rv d n u ≠ .stuck := (rd_enough _).1 d n u (Nat.le_refl _)
theorem rr_ne (d n : Nat) (u : List UInt8) (g : Fr) : rr d n u g ≠ .stuck := (rd_enough _).2 d n u g (Nat.le_refl _)
theorem rv_len {d n : Nat} {u : List UInt8} {x : Nd} {v : List UInt8} {m : Nat} (h : rv d n u = .ok x v m) : v.length < u.length := (rd_len _).1 _ _ _ _ _ _ h

/-- behind a kid -/
noncomputable def rt (d m : Nat) (v : List UInt8) (g : Fr) : R3 :=
  if bs v = [] then .err 1 else if hd (bs v) = g.close then .ok g.node (bs v).tail m else if hd (bs v) = 44 then rr d m (bs v).tail g else .err 1
theorem rv_eq (d n : Nat) (u : List UInt8) : rv d n u =
    if bs u = [] then .err 1
    else if n = 20000 then .err 3
    else if hd (bs u) = 91 ∨ hd (bs u) = 123 then
      if d = 32 then .err 2
      else if bs (bs u).tail ≠ [] ∧ hd (bs (bs u).tail) = (Fr.mk (decide (hd (bs u) = 123)) [] []).close then .ok (Fr.mk (decide (hd (bs u) = 123)) [] []).node (bs (bs u).tail).tail (n + 1)
      else rr d (n + 1) (bs (bs u).tail) ⟨decide (hd (bs u) = 123), [], []⟩
    else if (scal (bs u)).2.2 ≠ 0 then .err (scal (bs u)).2.2
    else .ok (scal (bs u)).1 ((bs u).drop (scal (bs u)).2.1) (n + 1) := by
  unfold rv
  rw [rdV.eq_2]
  by_cases h1 : bs u = []
  · rw [if_pos h1, if_pos h1]
  rw [if_neg h1, if_neg h1]
  have hb := bs_len u
  have ht := tail_len h1
  have := bs_len (bs u).tail
  rw [rr_of (by omega)]
theorem rr_eq (d n : Nat) (u : List UInt8) (g : Fr) : rr d n u g =
    if g.obj = true then
      match stk (bs u) with
      | none => .err 1
      | some (x, k) =>
        if inK ⟨x.toArray⟩ g.keys = true then .err 5
        else if bs ((bs u).drop k) = [] ∨ hd (bs ((bs u).drop k)) ≠ 58 then .err 1
        else match rv (d + 1) n (bs ((bs u).drop k)).tail with
          | .ok y v m => rt d m v ⟨g.obj, g.keys ++ [⟨x.toArray⟩], g.kids ++ [y]⟩
          | r => r
    else match rv (d + 1) n u with
      | .ok y v m => rt d m v ⟨g.obj, g.keys, g.kids ++ [y]⟩
      | r => r := by
  unfold rr
  rw [rdK.eq_2]
  have tail : ∀ (v : List UInt8) (r : Fr) (m : Nat), v.length < u.length →
      (if bs v = [] then R3.err 1 else if hd (bs v) = r.close then .ok r.node (bs v).tail m else if hd (bs v) = 44 then rdK (2 * u.length + 1) d m (bs v).tail r else .err 1) = rt d m v r := by
    intro v r m hl
    unfold rt
    have hb := bs_len v
    by_cases h1 : bs v = []
    · rw [if_pos h1, if_pos h1]
    have ht := tail_len h1
    rw [if_neg h1, if_neg h1, rr_of (by omega)]
  by_cases ho : g.obj = true
  · rw [if_pos ho, if_pos ho]
    cases hs : stk (bs u) with
    | none => rfl
    | some q =>
      obtain ⟨k, kn⟩ := q
      dsimp only
      by_cases h1 : inK ⟨k.toArray⟩ g.keys = true
      · rw [if_pos h1, if_pos h1]
      rw [if_neg h1, if_neg h1]
      by_cases h2 : bs ((bs u).drop kn) = [] ∨ hd (bs ((bs u).drop kn)) ≠ 58
      · rw [if_pos h2, if_pos h2]
      rw [if_neg h2, if_neg h2]
      have := bs_len u
      have := bs_len ((bs u).drop kn)
      have := tail_le (bs ((bs u).drop kn))
      rw [List.length_drop] at *
      rw [rv_of (by omega)]
      cases hr : rv (d + 1) n (bs ((bs u).drop kn)).tail with
      | ok y w m2 =>
        have h3 := rv_len hr
        exact tail w ⟨g.obj, g.keys ++ [⟨k.toArray⟩], g.kids ++ [y]⟩ m2 (by omega)
      | err e => rfl
      | stuck => rfl
  · rw [if_neg ho, if_neg ho, rv_of (by omega)]
    cases hr : rv (d + 1) n u with
    | ok y w m2 =>
      have h3 := rv_len hr
      exact tail w ⟨g.obj, g.keys, g.kids ++ [y]⟩ m2 (by omega)
    | err e => rfl
    | stuck => rfl

/-- reading by induction: what holds of each value and of each rest of an Array or an Object -/
theorem rd_ind {MV : Nat → Nat → List UInt8 → R3 → Prop} {MK : Nat → Nat → List UInt8 → Fr → R3 → Prop} {MT : Nat → Nat → List UInt8 → Fr → R3 → Prop}
    (hV : ∀ d n u, bs u = [] → MV d n u (.err 1)) (hV2 : ∀ d u, bs u ≠ [] → MV d 20000 u (.err 3))
    (hV3 : ∀ n u, bs u ≠ [] → n ≠ 20000 → hd (bs u) = 91 ∨ hd (bs u) = 123 → MV 32 n u (.err 2))
    (hV4 : ∀ d n u, bs u ≠ [] → n ≠ 20000 → hd (bs u) = 91 ∨ hd (bs u) = 123 → d ≠ 32 → bs (bs u).tail ≠ [] → hd (bs (bs u).tail) = (Fr.mk (decide (hd (bs u) = 123)) [] []).close → MV d n u (.ok (Fr.mk (decide (hd (bs u) = 123)) [] []).node (bs (bs u).tail).tail (n + 1)))
    (hV5 : ∀ d n u r, bs u ≠ [] → n ≠ 20000 → hd (bs u) = 91 ∨ hd (bs u) = 123 → d ≠ 32 → ¬ (bs (bs u).tail ≠ [] ∧ hd (bs (bs u).tail) = (Fr.mk (decide (hd (bs u) = 123)) [] []).close) → MK d (n + 1) (bs (bs u).tail) ⟨decide (hd (bs u) = 123), [], []⟩ r → MV d n u r)
    (hV6 : ∀ d n u, bs u ≠ [] → n ≠ 20000 → ¬ (hd (bs u) = 91 ∨ hd (bs u) = 123) → (scal (bs u)).2.2 ≠ 0 → MV d n u (.err (scal (bs u)).2.2))
    (hV7 : ∀ d n u, bs u ≠ [] → n ≠ 20000 → ¬ (hd (bs u) = 91 ∨ hd (bs u) = 123) → (scal (bs u)).2.2 = 0 → MV d n u (.ok (scal (bs u)).1 ((bs u).drop (scal (bs u)).2.1) (n + 1)))
    (hK1 : ∀ d n u g, g.obj = true → stk (bs u) = none → MK d n u g (.err 1))
    (hK2 : ∀ d n u g x k, g.obj = true → stk (bs u) = some (x, k) → inK ⟨x.toArray⟩ g.keys = true → MK d n u g (.err 5))
    (hK3 : ∀ d n u g x k, g.obj = true → stk (bs u) = some (x, k) → inK ⟨x.toArray⟩ g.keys = false → bs ((bs u).drop k) = [] ∨ hd (bs ((bs u).drop k)) ≠ 58 → MK d n u g (.err 1))
    (hK4 : ∀ d n u g x k e, g.obj = true → stk (bs u) = some (x, k) → inK ⟨x.toArray⟩ g.keys = false → bs ((bs u).drop k) ≠ [] → hd (bs ((bs u).drop k)) = 58 → MV (d + 1) n (bs ((bs u).drop k)).tail (.err e) → MK d n u g (.err e))
    (hK5 : ∀ d n u g x k y v m r, g.obj = true → stk (bs u) = some (x, k) → inK ⟨x.toArray⟩ g.keys = false → bs ((bs u).drop k) ≠ [] → hd (bs ((bs u).drop k)) = 58 → MV (d + 1) n (bs ((bs u).drop k)).tail (.ok y v m) → MT d m v ⟨g.obj, g.keys ++ [⟨x.toArray⟩], g.kids ++ [y]⟩ r → MK d n u g r)
    (hK6 : ∀ d n u g e, g.obj = false → MV (d + 1) n u (.err e) → MK d n u g (.err e))
    (hK7 : ∀ d n u g y v m r, g.obj = false → MV (d + 1) n u (.ok y v m) → MT d m v ⟨g.obj, g.keys, g.kids ++ [y]⟩ r → MK d n u g r)
    (hT1 : ∀ d m v g, bs v = [] → MT d m v g (.err 1))
    (hT2 : ∀ d m v g, bs v ≠ [] → hd (bs v) = g.close → MT d m v g (.ok g.node (bs v).tail m))
    (hT3 : ∀ d m v g r, bs v ≠ [] → hd (bs v) ≠ g.close → hd (bs v) = 44 → MK d m (bs v).tail g r → MT d m v g r)
    (hT4 : ∀ d m v g, bs v ≠ [] → hd (bs v) ≠ g.close → hd (bs v) ≠ 44 → MT d m v g (.err 1)) :
    ∀ N, (∀ d n u, u.length ≤ N → MV d n u (rv d n u)) ∧ (∀ d n u g, u.length ≤ N → MK d n u g (rr d n u g)) ∧ (∀ d m v g, v.length ≤ N + 1 → MT d m v g (rt d m v g)) := by
  intro N
  induction N using Nat.strongRecOn with
  | ind N ih =>
    have T : ∀ d m v g, v.length ≤ N → MT d m v g (rt d m v g) := by
      intro d m v g hl
      unfold rt
      by_cases h1 : bs v = []
      · rw [if_pos h1]; exact hT1 d m v g h1
      have hb := bs_len v
      have ht := tail_len h1
      rw [if_neg h1]
      by_cases h2 : hd (bs v) = g.close
      · rw [if_pos h2]; exact hT2 d m v g h1 h2
      rw [if_neg h2]
      by_cases h3 : hd (bs v) = 44
      · rw [if_pos h3]; exact hT3 d m v g _ h1 h2 h3 ((ih (N - 1) (by omega)).2.1 d m _ g (by omega))
      · rw [if_neg h3]; exact hT4 d m v g h1 h2 h3
    have V : ∀ d n u, u.length ≤ N → MV d n u (rv d n u) := by
      intro d n u hl
      rw [rv_eq]
      by_cases h1 : bs u = []
      · rw [if_pos h1]; exact hV d n u h1
      have hb := bs_len u
      have ht := tail_len h1
      rw [if_neg h1]
      by_cases h2 : n = 20000
      · rw [if_pos h2, h2]; exact hV2 d u h1
      rw [if_neg h2]
      by_cases h3 : hd (bs u) = 91 ∨ hd (bs u) = 123
      · rw [if_pos h3]
        by_cases h4 : d = 32
        · rw [if_pos h4, h4]; exact hV3 n u h1 h2 h3
        rw [if_neg h4]
        by_cases h5 : bs (bs u).tail ≠ [] ∧ hd (bs (bs u).tail) = (Fr.mk (decide (hd (bs u) = 123)) [] []).close
        · rw [if_pos h5]; exact hV4 d n u h1 h2 h3 h4 h5.1 h5.2
        · rw [if_neg h5]
          have := bs_len (bs u).tail
          exact hV5 d n u _ h1 h2 h3 h4 h5 ((ih (N - 1) (by omega)).2.1 d (n + 1) _ _ (by omega))
      · rw [if_neg h3]
        by_cases h4 : (scal (bs u)).2.2 ≠ 0
        · rw [if_pos h4]; exact hV6 d n u h1 h2 h3 h4
        · rw [if_neg h4]; exact hV7 d n u h1 h2 h3 (by omega)
    have K : ∀ d n u g, u.length ≤ N → MK d n u g (rr d n u g) := by
      intro d n u g hl
      rw [rr_eq]
      by_cases ho : g.obj = true
      · rw [if_pos ho]
        cases hs : stk (bs u) with
        | none => exact hK1 d n u g ho hs
        | some q =>
          obtain ⟨x, k⟩ := q
          dsimp only
          by_cases h1 : inK ⟨x.toArray⟩ g.keys = true
          · rw [if_pos h1]; exact hK2 d n u g x k ho hs h1
          have h1' : inK ⟨x.toArray⟩ g.keys = false := by simpa using h1
          rw [if_neg h1]
          by_cases h2 : bs ((bs u).drop k) = [] ∨ hd (bs ((bs u).drop k)) ≠ 58
          · rw [if_pos h2]; exact hK3 d n u g x k ho hs h1' h2
          rw [if_neg h2]
          have e1 : bs ((bs u).drop k) ≠ [] := fun e => h2 (.inl e)
          have e2 : hd (bs ((bs u).drop k)) = 58 := Decidable.byContradiction fun e => h2 (.inr e)
          have := bs_len u
          have := bs_len ((bs u).drop k)
          have := tail_len e1
          rw [List.length_drop] at *
          have hv := V (d + 1) n (bs ((bs u).drop k)).tail (by omega)
          cases hr : rv (d + 1) n (bs ((bs u).drop k)).tail with
          | ok y w m =>
            rw [hr] at hv
            have := rv_len hr
            exact hK5 d n u g x k y w m _ ho hs h1' e1 e2 hv (T d m w _ (by omega))
          | err e => rw [hr] at hv; exact hK4 d n u g x k e ho hs h1' e1 e2 hv
          | stuck => exact absurd hr (rv_ne _ _ _)
      · have ho' : g.obj = false := by simpa using ho
        rw [if_neg ho]
        have hv := V (d + 1) n u hl
        cases hr : rv (d + 1) n u with
        | ok y w m =>
          rw [hr] at hv
          have := rv_len hr
          exact hK7 d n u g y w m _ ho' hv (T d m w _ (by omega))
        | err e => rw [hr] at hv; exact hK6 d n u g e ho' hv
        | stuck => exact absurd hr (rv_ne _ _ _)
    refine ⟨V, K, fun d m v g hl => ?_⟩
    by_cases hl' : v.length ≤ N
    · exact T d m v g hl'
    unfold rt
    by_cases h1 : bs v = []
    · rw [if_pos h1]; exact hT1 d m v g h1
    have hb := bs_len v
    have ht := tail_len h1
    rw [if_neg h1]
    by_cases h2 : hd (bs v) = g.close
    · rw [if_pos h2]; exact hT2 d m v g h1 h2
    rw [if_neg h2]
    by_cases h3 : hd (bs v) = 44
    · rw [if_pos h3]; exact hT3 d m v g _ h1 h2 h3 (K d m _ g (by omega))
    · rw [if_neg h3]; exact hT4 d m v g h1 h2 h3

/-- what a text is read as -/
noncomputable def parseJ (l : List UInt8) : Res := match rv 0 0 l with
  | .ok x v m => if bs v = [] then .ok x else .err 1
  | .err e => .err e
  | .stuck => .err 0
theorem runs (l : List UInt8) : Runs ⟨.value, l, 0, []⟩ (parseJ l) := by
  have h := (leads (2 * l.length + 1)).1 0 0 l [] rfl
  change Leads _ _ (rv 0 0 l) at h
  unfold parseJ
  cases hr : rv 0 0 l with
  | ok x v m =>
    rw [hr] at h
    dsimp only
    refine h _ (.fin ?_)
    by_cases h1 : bs v = [] <;> simp [jsonP.step, h1]
  | err e => rw [hr] at h; exact h
  | stuck => exact absurd hr (rv_ne _ _ _)
end Go.Proofs.YtdbidkfjbhclcaaDoor.jsonQ
namespace Go.Proofs.YtdbidkfjbhclcaaDoor.jsonR
open Go.Proofs.YtdbidkfjbhclcaaDoor.nodeP Go.Proofs.YtdbidkfjbhclcaaDoor.nodeQ Go.Proofs.YtdbidkfjbhclcaaDoor.utfP Go.Proofs.YtdbidkfjbhclcaaDoor.utfQ Go.Proofs.YtdbidkfjbhclcaaDoor.utfR Go.Proofs.YtdbidkfjbhclcaaDoor.jsonP Go.Proofs.YtdbidkfjbhclcaaDoor.jsonQ
set_option linter.unusedSimpArgs false
set_option linter.unusedVariables false

theorem oks_app (a b : List Nd) (d : Nat) : oks (a ++ b) d = (oks a d && oks b d) := by simp [oks_all]
theorem counts_app (a b : List Nd) : counts (a ++ b) = counts a + counts b := by
  induction a with
  | nil => simp [counts]
  | cons c a ih => simp [counts, ih]; omega
theorem dps_app (a b : List Nd) : dps (a ++ b) = max (dps a) (dps b) := by
  induction a with
  | nil => simp [dps]
  | cons c a ih => simp [dps, ih, Nat.max_assoc]
/-- a frame that is right at a depth -/
structure Gd (d : Nat) (g : Fr) : Prop where
  nd : g.keys.Nodup
  vl : g.keys.all vld = true
  ar : g.obj = false → g.keys = []
  ok : oks g.kids (d + 1) = true
  dp : dps g.kids + d ≤ 32
theorem Gd.kid {d : Nat} {g : Fr} (h : Gd d g) {y : Nd} (h1 : okAt y (d + 1) = true) (h2 : d + 1 + nodeQ.dp y ≤ 32) : Gd d ⟨g.obj, g.keys, g.kids ++ [y]⟩ :=
  ⟨h.nd, h.vl, h.ar, by rw [oks_app, h.ok]; simp [oks, h1], by rw [dps_app]; have := h.dp; simp [dps]; omega⟩
theorem Gd.key {d : Nat} {g : Fr} (h : Gd d g) (ho : g.obj = true) {x : ByteArray} (h1 : vld x = true) (h2 : inK x g.keys = false) : Gd d ⟨g.obj, g.keys ++ [x], g.kids⟩ :=
  ⟨List.nodup_append.2 ⟨h.nd, by simp, fun a ha b hb e => by simp at hb; subst hb; subst e; rw [inK_iff.2 ha] at h2; cases h2⟩, by rw [List.all_append, h.vl]; simp [h1], fun e => (by rw [ho] at e; cases e), h.ok, h.dp⟩
theorem Gd.node {d : Nat} {g : Fr} (h : Gd d g) (hd : d < 32) (he : g.obj = true → g.keys.length = g.kids.length) : okAt g.node d = true ∧ count g.node = 1 + counts g.kids ∧ d + nodeQ.dp g.node ≤ 32 := by
  refine ⟨?_, rfl, by have := h.dp; show d + dps g.kids ≤ 32; omega⟩
  unfold Fr.node
  simp only [okAt, one]
  rw [h.ok]
  cases ho : g.obj
  · rw [h.ar ho]; simp [nodeQ.rk, hd]
  · have h1 := h.vl
    have h2 := h.nd
    have h3 := he ho
    simp [nodeQ.rk, hd, h2, h3]
    simpa using h1

def RV (d n : Nat) (u : List UInt8) (r : R3) : Prop := d ≤ 32 → n ≤ 20000 → match r with
  | .ok x v m => okAt x d = true ∧ n + count x = m ∧ d + dp x ≤ 32 ∧ m ≤ 20000 ∧ ∃ k, v = u.drop k
  | .err e => 1 ≤ e ∧ e ≤ 13
  | .stuck => False
def RK (d n : Nat) (u : List UInt8) (g : Fr) (r : R3) : Prop := d < 32 → n ≤ 20000 → Gd d g → (g.obj = true → g.keys.length = g.kids.length) → match r with
  | .ok x v m => okAt x d = true ∧ n + count x = m + 1 + counts g.kids ∧ d + dp x ≤ 32 ∧ m ≤ 20000 ∧ ∃ k, v = u.drop k
  | .err e => 1 ≤ e ∧ e ≤ 13
  | .stuck => False
theorem takeN_err (l : List UInt8) : (intsP.takeN l).2.2 ≤ 13 := by
  unfold intsP.takeN
  by_cases h0 : intsP.whole l = 0
  · rw [if_pos h0]; decide
  rw [if_neg h0]
  by_cases h1 : intsP.whole l < intsP.every l
  · rw [if_pos h1]; decide
  rw [if_neg h1]
  cases intsP.valO (l.take (intsP.whole l)) <;> simp
theorem scal_err (u : List UInt8) : (scal u).2.2 ≤ 13 := by
  unfold scal
  by_cases h1 : hd u = 34
  · rw [if_pos h1]; cases stk u <;> simp
  rw [if_neg h1]
  by_cases h2 : isNum (hd u) = true
  · rw [if_pos h2]
    by_cases h3 : (intsP.takeN u).2.2 = 0
    · rw [if_pos h3]; exact Nat.zero_le _
    · rw [if_neg h3]; exact takeN_err u
  rw [if_neg h2]
  by_cases h3 : Lib.hasPrefix u wNull = true
  · rw [if_pos h3]; decide
  rw [if_neg h3]
  by_cases h4 : Lib.hasPrefix u wFalse = true
  · rw [if_pos h4]; decide
  rw [if_neg h4]
  by_cases h5 : Lib.hasPrefix u wTrue = true
  · rw [if_pos h5]; decide
  rw [if_neg h5]; decide
theorem bs_drop (u : List UInt8) : ∃ k, bs u = u.drop k := by
  induction u with
  | nil => exact ⟨0, rfl⟩
  | cons c u ih =>
    by_cases h : isBl c = true
    · obtain ⟨k, hk⟩ := ih
      exact ⟨k + 1, by unfold bs at hk ⊢; rw [List.dropWhile_cons, if_pos h]; exact hk⟩
    · exact ⟨0, by unfold bs; rw [List.dropWhile_cons, if_neg h]; rfl⟩
def Sfx (u v : List UInt8) : Prop := ∃ k, v = u.drop k
theorem Sfx.refl (u : List UInt8) : Sfx u u := ⟨0, rfl⟩
theorem Sfx.trans {u v w : List UInt8} (h : Sfx u v) (k : Sfx v w) : Sfx u w := by
  obtain ⟨a, rfl⟩ := h; obtain ⟨b, rfl⟩ := k; exact ⟨a + b, by rw [List.drop_drop]⟩
theorem Sfx.bs {u v : List UInt8} (h : Sfx u v) : Sfx u (bs v) := h.trans (bs_drop v)
theorem Sfx.tail {u v : List UInt8} (h : Sfx u v) : Sfx u v.tail := h.trans ⟨1, by simp⟩
theorem Sfx.drop {u v : List UInt8} (h : Sfx u v) (k : Nat) : Sfx u (v.drop k) := h.trans ⟨k, rfl⟩

theorem good (N : Nat) : (∀ d n u, u.length ≤ N → RV d n u (rv d n u)) ∧ (∀ d n u g, u.length ≤ N → RK d n u g (rr d n u g)) ∧ (∀ d m v g, v.length ≤ N + 1 → RK d m v g (rt d m v g)) := by
  refine rd_ind ?_ ?_ ?_ ?_ ?_ ?_ ?_ ?_ ?_ ?_ ?_ ?_ ?_ ?_ ?_ ?_ ?_ ?_ N
  · intro d n u _ _ _; exact ⟨by decide, by decide⟩
  · intro d u _ _ _; exact ⟨by decide, by decide⟩
  · intro n u _ _ _ _ _; exact ⟨by decide, by decide⟩
  · intro d n u h1 h2 h3 h4 h5 h6 hq hn
    have hg : Gd d ⟨decide (hd (bs u) = 123), [], []⟩ := ⟨by simp, rfl, fun _ => rfl, rfl, by simp [dps]; omega⟩
    obtain ⟨i1, i2, i3⟩ := hg.node (by omega) (fun _ => rfl)
    exact ⟨i1, by rw [i2]; simp [counts], i3, by omega, ((((Sfx.refl u).bs).tail).bs).tail⟩
  · intro d n u r h1 h2 h3 h4 h5 hr hq hn
    have := hr (by omega) (by omega) ⟨by simp, rfl, fun _ => rfl, rfl, by simp [dps]; omega⟩ (fun _ => rfl)
    cases r with
    | ok x v m =>
      obtain ⟨i1, i2, i3, i4, i5⟩ := this
      exact ⟨i1, by simp [counts] at i2; omega, i3, i4, (((Sfx.refl u).bs).tail).bs.trans i5⟩
    | err e => exact this
    | stuck => exact this
  · intro d n u h1 h2 h3 h4 _ _
    have := scal_err (bs u)
    exact ⟨by omega, this⟩
  · intro d n u h1 h2 h3 h4 hq hn
    obtain ⟨i1, i2, i3, i4, i5⟩ := scal_ok h4 d
    exact ⟨i3, by omega, by omega, by omega, ((Sfx.refl u).bs).drop _⟩
  · intro d n u g ho hs _ _ _ _; exact ⟨by decide, by decide⟩
  · intro d n u g x k ho hs hk _ _ _ _; exact ⟨by decide, by decide⟩
  · intro d n u g x k ho hs hk h _ _ _ _; exact ⟨by decide, by decide⟩
  · intro d n u g x k e ho hs hk h1 h2 hv hq hn hg he; exact hv (by omega) hn
  · intro d n u g x k y v m r ho hs hk h1 h2 hv ht hq hn hg he
    obtain ⟨j1, j2, j3, j4, j5⟩ := hv (by omega) hn
    obtain ⟨_, _, _, s4⟩ := stk_len hs
    have := ht hq j4 ((hg.key ho (by unfold vld; exact s4) hk).kid j1 j3) (fun _ => by have := he ho; simp; omega)
    cases r with
    | ok z w m2 =>
      obtain ⟨i1, i2, i3, i4, i5⟩ := this
      exact ⟨i1, by rw [counts_app] at i2; simp [counts] at i2; omega, i3, i4, ((((((Sfx.refl u).bs).drop k).bs).tail).trans j5).trans i5⟩
    | err e => exact this
    | stuck => exact this
  · intro d n u g e ho hv hq hn hg he; exact hv (by omega) hn
  · intro d n u g y v m r ho hv ht hq hn hg he
    obtain ⟨j1, j2, j3, j4, j5⟩ := hv (by omega) hn
    have := ht hq j4 (hg.kid j1 j3) (fun h => by rw [ho] at h; cases h)
    cases r with
    | ok z w m2 =>
      obtain ⟨i1, i2, i3, i4, i5⟩ := this
      exact ⟨i1, by rw [counts_app] at i2; simp [counts] at i2; omega, i3, i4, Sfx.trans j5 i5⟩
    | err e => exact this
    | stuck => exact this
  · intro d m v g _ _ _ _ _; exact ⟨by decide, by decide⟩
  · intro d m v g h1 h2 hq hm hg he
    obtain ⟨i1, i2, i3⟩ := hg.node hq he
    exact ⟨i1, by omega, i3, hm, ((Sfx.refl v).bs).tail⟩
  · intro d m v g r h1 h2 h3 hr hq hm hg he
    have := hr hq hm hg he
    cases r with
    | ok z w m2 =>
      obtain ⟨i1, i2, i3, i4, i5⟩ := this
      exact ⟨i1, i2, i3, i4, (((Sfx.refl v).bs).tail).trans i5⟩
    | err e => exact this
    | stuck => exact this
  · intro d m v g _ _ _ _ _ _ _; exact ⟨by decide, by decide⟩
theorem rv_good {d n : Nat} {u : List UInt8} (hd : d ≤ 32) (hn : n ≤ 20000) : RV d n u (rv d n u) := (good u.length).1 d n u (Nat.le_refl _)

/-- what is read at one depth, behind so many values, is read at another, if it is right there and they are not too many -/
def SV (d n : Nat) (u : List UInt8) (r : R3) : Prop := match r with
  | .ok x v m => n < m ∧ ∀ d' n', okAt x d' = true → n' + (m - n) ≤ 20000 → rv d' n' u = .ok x v (n' + (m - n))
  | _ => True
def SK (f : Nat → Nat → List UInt8 → Fr → R3) (d n : Nat) (u : List UInt8) (g : Fr) (r : R3) : Prop := match r with
  | .ok x v m => n ≤ m ∧ (∃ l, x.kids = g.kids ++ l) ∧ ¬ x.kind < 6 ∧ ∀ d' n', okAt x d' = true → n' + (m - n) ≤ 20000 → f d' n' u g = .ok x v (n' + (m - n))
  | _ => True
theorem ok_in {x : Nd} {d : Nat} (h : okAt x d = true) (hk : ¬ x.kind < 6) : d < 32 ∧ oks x.kids (d + 1) = true := by
  cases x with
  | mk k n t ks cs =>
    have hk' : ¬ k < 6 := hk
    simp only [okAt, one, Bool.and_eq_true] at h
    rw [if_neg hk'] at h
    simp only [Bool.and_eq_true, decide_eq_true_eq] at h
    exact ⟨h.1.2.1, h.2⟩
theorem oks_last {a l : List Nd} {y : Nd} {d : Nat} (h : oks (a ++ [y] ++ l) d = true) : okAt y d = true := by
  rw [oks_app, oks_app] at h
  simp only [Bool.and_eq_true, oks] at h
  exact h.1.2.1
theorem node_kind (g : Fr) : ¬ g.node.kind < 6 := by
  show ¬ (if g.obj then (7 : Int) else 6) < 6
  split <;> decide
theorem same (N : Nat) : (∀ d n u, u.length ≤ N → SV d n u (rv d n u)) ∧ (∀ d n u g, u.length ≤ N → SK rr d n u g (rr d n u g)) ∧ (∀ d m v g, v.length ≤ N + 1 → SK rt d m v g (rt d m v g)) := by
  refine rd_ind (MV := SV) (MK := SK rr) (MT := SK rt) ?_ ?_ ?_ ?_ ?_ ?_ ?_ ?_ ?_ ?_ ?_ ?_ ?_ ?_ ?_ ?_ ?_ ?_ N
  · intro d n u _; trivial
  · intro d u _; trivial
  · intro n u _ _ _; trivial
  · intro d n u h1 h2 h3 h4 h5 h6
    refine ⟨by omega, fun d' n' ho hn => ?_⟩
    have := ok_in ho (node_kind _)
    rw [rv_eq, if_neg h1, if_neg (by omega), if_pos h3, if_neg (by omega), if_pos ⟨h5, h6⟩]
    congr 1; omega
  · intro d n u r h1 h2 h3 h4 h5 hr
    cases r with
    | ok x v m =>
      obtain ⟨i1, i2, i3, i4⟩ := hr
      refine ⟨by omega, fun d' n' ho hn => ?_⟩
      have := ok_in ho i3
      rw [rv_eq, if_neg h1, if_neg (by omega), if_pos h3, if_neg (by omega), if_neg h5, i4 d' (n' + 1) ho (by omega)]
      congr 1; omega
    | err e => trivial
    | stuck => trivial
  · intro d n u h1 h2 h3 h4; trivial
  · intro d n u h1 h2 h3 h4
    refine ⟨by omega, fun d' n' ho hn => ?_⟩
    rw [rv_eq, if_neg h1, if_neg (by omega), if_neg h3, if_neg (by omega)]
    congr 1; omega
  · intro d n u g ho hs; trivial
  · intro d n u g x k ho hs hk; trivial
  · intro d n u g x k ho hs hk h; trivial
  · intro d n u g x k e ho hs hk h1 h2 hv; trivial
  · intro d n u g x k y v m r ho hs hk h1 h2 hv ht
    cases r with
    | ok z w m2 =>
      obtain ⟨j1, j2⟩ := hv
      obtain ⟨i1, ⟨l, i2⟩, i3, i4⟩ := ht
      refine ⟨by omega, ⟨y :: l, by rw [i2]; simp⟩, i3, fun d' n' hz hn => ?_⟩
      have hin := ok_in hz i3
      rw [i2] at hin
      rw [rr_eq, if_pos ho, hs]
      dsimp only
      rw [if_neg (by rw [hk]; simp), if_neg (by rintro (h | h); exact h1 h; exact h h2), j2 (d' + 1) n' (oks_last hin.2) (by omega)]
      dsimp only
      rw [i4 d' (n' + (m - n)) hz (by omega)]
      congr 1; omega
    | err e => trivial
    | stuck => trivial
  · intro d n u g e ho hv; trivial
  · intro d n u g y v m r ho hv ht
    cases r with
    | ok z w m2 =>
      obtain ⟨j1, j2⟩ := hv
      obtain ⟨i1, ⟨l, i2⟩, i3, i4⟩ := ht
      refine ⟨by omega, ⟨y :: l, by rw [i2]; simp⟩, i3, fun d' n' hz hn => ?_⟩
      have hin := ok_in hz i3
      rw [i2] at hin
      rw [rr_eq, if_neg (by rw [ho]; simp), j2 (d' + 1) n' (oks_last hin.2) (by omega)]
      dsimp only
      rw [i4 d' (n' + (m - n)) hz (by omega)]
      congr 1; omega
    | err e => trivial
    | stuck => trivial
  · intro d m v g _; trivial
  · intro d m v g h1 h2
    refine ⟨Nat.le_refl _, ⟨[], by simp [Fr.node, Nd.kids]⟩, node_kind g, fun d' n' ho hn => ?_⟩
    unfold rt
    rw [if_neg h1, if_pos h2]
    congr 1; omega
  · intro d m v g r h1 h2 h3 hr
    cases r with
    | ok z w m2 =>
      obtain ⟨i1, i2, i3, i4⟩ := hr
      refine ⟨i1, i2, i3, fun d' n' ho hn => ?_⟩
      unfold rt
      rw [if_neg h1, if_neg h2, if_pos h3, i4 d' n' ho hn]
    | err e => trivial
    | stuck => trivial
  · intro d m v g _ _ _; trivial
theorem rv_same {d n : Nat} {u : List UInt8} {x : Nd} {v : List UInt8} {m : Nat} (h : rv d n u = .ok x v m) : n < m ∧ ∀ d' n', okAt x d' = true → n' + (m - n) ≤ 20000 → rv d' n' u = .ok x v (n' + (m - n)) := by
  have := (same u.length).1 d n u (Nat.le_refl _)
  rw [h] at this
  exact this
end Go.Proofs.YtdbidkfjbhclcaaDoor.jsonR
namespace Go.Proofs.YtdbidkfjbhclcaaDoor.jsonM
open Go.ChangeShapes Go.WideShapes Go.ChangeAt Go.RowKit Go.WideMaps Go.Maps nodeP nodeQ nodeS ownI jsonP
set_option linter.unusedSimpArgs false
set_option linter.unusedVariables false

inductive Ix where
  | opn | keys (i : Nat) | kids (i : Nat) | seen (i : Nat)
deriving DecidableEq
instance : Inhabited Nd := ⟨word 0⟩
def updN {α : Type} (f : Nat → α) (i : Nat) (x : α) : Nat → α := fun j => if j = i then x else f j
theorem updN_same {α : Type} (f : Nat → α) (i : Nat) (x : α) : updN f i x i = x := by simp [updN]
theorem updN_other {α : Type} (f : Nat → α) {i j : Nat} (x : α) (h : j ≠ i) : updN f i x j = f j := by simp [updN, h]
def nilK : Thing := .row 9 1 (.slice none 0 0) 0 []
def nilC : Thing := .row 26 5 (.slice none 0 0) 0 []
def kindOf (f : Fr) : Int := if f.obj then 7 else 6
def fcells (fr : Nat → Fr) (F : Ix → Thing) (i : Nat) : List Value := [.int .i64 (kindOf (fr i)), .int .i64 0, .string ByteArray.empty, (F (.keys i)).val, (F (.kids i)).val, (F (.seen i)).val]
def ocells (fr : Nat → Fr) (F : Ix → Thing) (d : Nat) : List Value := (List.range d).flatMap (fcells fr F)
theorem ocells_succ (fr : Nat → Fr) (F : Ix → Thing) (d : Nat) : ocells fr F (d + 1) = ocells fr F d ++ fcells fr F d := by simp [ocells, List.range_succ]
theorem ocells_len (fr : Nat → Fr) (F : Ix → Thing) (d : Nat) : (ocells fr F d).length = d * 6 := by
  induction d with
  | zero => rfl
  | succ d ih => rw [ocells_succ, List.length_append, ih]; simp [fcells]; omega
theorem ocells_congr {fr fr' : Nat → Fr} {F F' : Ix → Thing} {d : Nat} (h : ∀ i, i < d → fcells fr F i = fcells fr' F' i) : ocells fr F d = ocells fr' F' d := by
  induction d with
  | zero => rfl
  | succ d ih => rw [ocells_succ, ocells_succ, ih (fun i hi => h i (by omega)), h d (by omega)]
theorem ocells_get (fr : Nat → Fr) (F : Ix → Thing) {d i j : Nat} (hi : i < d) (hj : j < 6) : (ocells fr F d)[i * 6 + j]? = (fcells fr F i)[j]? := by
  induction d with
  | zero => omega
  | succ d ih =>
    rw [ocells_succ]
    have hl := ocells_len fr F d
    by_cases e : i = d
    · subst e; rw [List.getElem?_append_right (by omega), hl]; congr 1; omega
    · rw [List.getElem?_append_left (by omega)]; exact ih (by omega)
theorem ocells_set (fr fr' : Nat → Fr) (F F' : Ix → Thing) {d i j : Nat} {x : Value} (hi : i < d) (hj : j < 6) (h : ∀ k, k < d → fcells fr' F' k = if k = i then (fcells fr F i).set j x else fcells fr F k) : (ocells fr F d).set (i * 6 + j) x = ocells fr' F' d := by
  induction d with
  | zero => omega
  | succ d ih =>
    rw [ocells_succ, ocells_succ, h d (by omega)]
    have hl := ocells_len fr F d
    by_cases e : i = d
    · subst e
      rw [List.set_append_right _ _ (by omega), hl, if_pos rfl, show i * 6 + j - i * 6 = j from by omega]
      congr 1
      exact ocells_congr (fun k hk => by rw [h k (by omega), if_neg (by omega)])
    · rw [List.set_append_left _ _ (by omega), if_neg (fun e' => e e'.symm), ih (by omega) (fun k hk => h k (by omega))]

structure RM (w : World) (B rb : Nat) (s : ByteArray) (p n d : Nat) (fr : Nat → Fr) (F : Ix → Thing) (P : Nat → Prop) : Prop where
  own : OwnsI w B F
  hB : rb < B ∧ B ≤ w.heap.size
  obj : Whole w rb 59 [.string s, .int .i64 p, .int .i64 n, (F .opn).val]
  opn : ∃ ov, F .opn = .row 109 6 ov d (ocells fr F d)
  kys : ∀ i, i < d → ∃ v, F (.keys i) = .row 9 1 v (fr i).keys.length ((fr i).keys.map Value.string)
  kds : ∀ i, i < d → ∃ v, ∃ ls : List (List Value), F (.kids i) = .row 26 5 v (fr i).kids.length ls.flatten ∧ ls.length = (fr i).kids.length ∧ ∀ j, j < (fr i).kids.length → NodeIn w P ((fr i).kids.getD j default) (ls.getD j [])
  sen : ∀ i, i < d → ((fr i).obj = true → ∃ b, F (.seen i) = .map b (fr i).keys.length (seenD (fr i).keys)) ∧ ((fr i).obj = false → F (.seen i) = .nomap)
  out : ∀ i, d ≤ i → F (.keys i) = nilK ∧ F (.kids i) = nilC ∧ F (.seen i) = .nomap
  sealed' : ∀ b, P b → B ≤ b ∧ b < w.heap.size ∧ ∀ k, (F k).blk ≠ some b
  sml : ∀ i, i < d → ∀ k ∈ (fr i).keys, k.size ≤ maxLen

section
variable {w w' : World} {B rb : Nat} {s : ByteArray} {p n d : Nat} {fr : Nat → Fr} {F : Ix → Thing} {P : Nat → Prop}
theorem RM.blkB (h : RM w B rb s p n d fr F P) (k : Ix) (b : Nat) (hb : (F k).blk = some b) : B ≤ b ∧ b < w.heap.size := (h.own.1 k).lt b hb
/-- what lies below the reader's memory is written, or new blocks are made -/
theorem RM.grown (h : RM w B rb s p n d fr F P) {row : Option Nat} (hg : w.grownBy w' row) (hr : ∀ c, row = some c → c < B ∧ c ≠ rb) : RM w' B rb s p n d fr F P := by
  have hs := hg.size
  have hPk : ∀ b, P b → w'.heap[b]? = w.heap[b]? := fun b hb => hg.block b (h.sealed' b hb).2.1 (fun e => by have := (hr b e.symm).1; have := (h.sealed' b hb).1; omega)
  refine ⟨h.own.apart hg (fun k b hk e => by have := (hr b e).1; have := (h.blkB k b hk).1; omega), ⟨h.hB.1, Nat.le_trans h.hB.2 hs⟩, h.obj.kept hg (fun e => (hr rb e).2 rfl), h.opn, h.kys, fun i hi => ?_, h.sen, h.out, fun b hb => ?_, h.sml⟩
  · obtain ⟨v, ls, e1, e2, e3⟩ := h.kds i hi
    exact ⟨v, ls, e1, e2, fun j hj => (e3 j hj).keep (fun _ h => h) hPk⟩
  · have := h.sealed' b hb
    exact ⟨this.1, Nat.lt_of_lt_of_le this.2.1 hs, this.2.2⟩
/-- a block that is none of the reader's is written -/
theorem RM.apart (h : RM w B rb s p n d fr F P) {row : Option Nat} (hg : w.grownBy w' row) (hr : ∀ c, row = some c → c ≠ rb ∧ ¬ P c ∧ ∀ k, (F k).blk ≠ some c) : RM w' B rb s p n d fr F P := by
  have hs := hg.size
  have hPk : ∀ b, P b → w'.heap[b]? = w.heap[b]? := fun b hb => hg.block b (h.sealed' b hb).2.1 (fun e => (hr b e.symm).2.1 hb)
  refine ⟨h.own.apart hg (fun k b hk e => (hr b e).2.2 k hk), ⟨h.hB.1, Nat.le_trans h.hB.2 hs⟩, h.obj.kept hg (fun e => (hr rb e).1 rfl), h.opn, h.kys, fun i hi => ?_, h.sen, h.out, fun b hb => ?_, h.sml⟩
  · obtain ⟨v, ls, e1, e2, e3⟩ := h.kds i hi
    exact ⟨v, ls, e1, e2, fun j hj => (e3 j hj).keep (fun _ h => h) hPk⟩
  · have := h.sealed' b hb
    exact ⟨this.1, Nat.lt_of_lt_of_le this.2.1 hs, this.2.2⟩
theorem RM.new (h : RM w B rb s p n d fr F P) (hb : Below w.heap.size w w') : RM w' B rb s p n d fr F P := h.grown (grown_below hb none) (fun c e => by cases e)
/-- the place, or the count, is written -/
theorem RM.setR (h : RM w B rb s p n d fr F P) (j : Nat) (x : Value) {p' n' : Nat} (he : [Value.string s, .int .i64 p, .int .i64 n, (F .opn).val].set j x = [Value.string s, .int .i64 p', .int .i64 n', (F .opn).val]) : RM (w.setCell ⟨rb, j, none⟩ x) B rb s p' n' d fr F P := by
  obtain ⟨hw, hg⟩ := h.obj.set j x
  have hPk : ∀ b, P b → (w.setCell ⟨rb, j, none⟩ x).heap[b]? = w.heap[b]? := fun b hb => hg.block b (h.sealed' b hb).2.1 (fun e => by cases e; have := (h.sealed' _ hb).1; have := h.hB.1; omega)
  refine ⟨h.own.apart hg (fun k b hk e => by cases e; have := (h.blkB k _ hk).1; have := h.hB.1; omega), ⟨h.hB.1, by simpa using h.hB.2⟩, he ▸ hw, h.opn, h.kys, fun i hi => ?_, h.sen, h.out, fun b hb => by simpa using h.sealed' b hb, h.sml⟩
  obtain ⟨v, ls, e1, e2, e3⟩ := h.kds i hi
  exact ⟨v, ls, e1, e2, fun j hj => (e3 j hj).keep (fun _ h => h) hPk⟩
theorem RM.setP (h : RM w B rb s p n d fr F P) (p' : Nat) : RM (w.setCell ⟨rb, 1, none⟩ (.int .i64 p')) B rb s p' n d fr F P := h.setR 1 _ rfl
theorem RM.setN (h : RM w B rb s p n d fr F P) (n' : Nat) : RM (w.setCell ⟨rb, 2, none⟩ (.int .i64 n')) B rb s p n' d fr F P := h.setR 2 _ rfl
theorem RM.field (h : RM w B rb s p n d fr F P) : w.cell? ⟨rb, 0, none⟩ = some (.string s) ∧ w.cell? ⟨rb, 1, none⟩ = some (.int .i64 p) ∧ w.cell? ⟨rb, 2, none⟩ = some (.int .i64 n) ∧ w.cell? ⟨rb, 3, none⟩ = some (F .opn).val ∧ ∀ j, w.frozen? ⟨rb, j, none⟩ = false :=
  ⟨h.obj.cell 0, h.obj.cell 1, h.obj.cell 2, h.obj.cell 3, h.obj.frozen⟩
/-- the innermost frame -/
theorem RM.top (h : RM w B rb s p n d fr F P) (hd : 0 < d) : ∃ g cap, (F .opn).val = .slice (some ⟨g, 0, none⟩) d cap ∧ B ≤ g ∧ g < w.heap.size ∧ d ≤ cap ∧ cap ≤ maxLen ∧ (∀ i j, i < d → j < 6 → w.cell? ⟨g, i * 6 + j, none⟩ = (fcells fr F i)[j]?) ∧ ∀ j, w.frozen? ⟨g, j, none⟩ = false := by
  obtain ⟨ov, ho⟩ := h.opn
  have hk := h.own.1 .opn
  rw [ho] at hk ⊢
  have hk' : w.ownsRow B 109 6 ov d (ocells fr F d) := hk
  rcases hk'.2 with ⟨_, h0⟩ | ⟨g, cap, cur, hv, hb, hg, hn', hm, _⟩
  · omega
  · subst hv
    refine ⟨g, cap, rfl, hb, (Array.getElem?_eq_some_iff.1 hg).1, hn', hm, fun i j hi hj => ?_, fun j => hk'.frozenAt j⟩
    rw [hk'.cellAt (i * 6 + j) (by omega), ocells_get fr F hi hj]
end
end Go.Proofs.YtdbidkfjbhclcaaDoor.jsonM
namespace Go.Proofs.YtdbidkfjbhclcaaDoor.jsonN
open Go.ChangeShapes Go.WideShapes Go.ChangeAt Go.RowKit Go.WideMaps Go.Maps nodeP nodeQ nodeS ownI jsonP jsonM
set_option linter.unusedSimpArgs false
set_option linter.unusedVariables false

section
variable {w wA w1 : World} {B rb : Nat} {s : ByteArray} {p n d : Nat} {fr : Nat → Fr} {F : Ix → Thing} {P : Nat → Prop}
theorem fcells_alike {fr fr' : Nat → Fr} {F F' : Ix → Thing} {i : Nat} (h0 : (fr i).obj = (fr' i).obj) (h1 : (F (.keys i)).val = (F' (.keys i)).val) (h2 : (F (.kids i)).val = (F' (.kids i)).val) (h3 : (F (.seen i)).val = (F' (.seen i)).val) : fcells fr F i = fcells fr' F' i := by
  unfold fcells kindOf; rw [h0, h1, h2, h3]

theorem RM.push (h : RM w B rb s p n d fr F P) (hbA : Below w.heap.size w wA) (o : Bool) (it : Thing) (hit : it.ok wA B) (hitb : it.blk = none ∨ ∃ b, it.blk = some b ∧ w.heap.size ≤ b) (hito : (o = true → ∃ b, it = .map b 0 (seenD [])) ∧ (o = false → it = .nomap))
    {v' : Value} (hown : w1.ownsRow B 109 6 v' (d + 1) (ocells fr F d ++ [.int .i64 (if o then 7 else 6), .int .i64 0, .string ByteArray.empty, .slice none 0 0, .slice none 0 0, it.val])) (hg : wA.grownBy w1 (F .opn).val.ownBlock) (hat : v'.ownBlock = (F .opn).val.ownBlock ∨ ∃ b, v'.ownBlock = some b ∧ wA.heap.size ≤ b) :
    ∃ F', RM (w1.setCell ⟨rb, 3, none⟩ v') B rb s p n (d + 1) (updN fr d ⟨o, [], []⟩) F' P := by
  have hsA := hbA.size
  have hs1 := hg.size
  obtain ⟨ov, hov⟩ := h.opn
  have hblk : (F .opn).blk = (F .opn).val.ownBlock := by rw [hov]; rfl
  obtain ⟨ok1, ok2, ok3⟩ := h.out d (Nat.le_refl _)
  have O1 := h.own.step (.seen d) it (grown_below hbA _) hit (.inr hitb)
  have hfc : fcells (updN fr d ⟨o, [], []⟩) (upd F (.seen d) it) d = [.int .i64 (if o then 7 else 6), .int .i64 0, .string ByteArray.empty, .slice none 0 0, .slice none 0 0, it.val] := by
    unfold fcells kindOf
    rw [updN_same, upd_same, upd_other _ _ (by simp), upd_other _ _ (by simp), ok1, ok2]; rfl
  have hfo : ∀ i, i < d → fcells fr F i = fcells (updN fr d ⟨o, [], []⟩) (upd F (.seen d) it) i := fun i hi => fcells_alike (by rw [updN_other _ _ (by omega)]) (by rw [upd_other _ _ (by simp)]) (by rw [upd_other _ _ (by simp)]) (by rw [upd_other _ _ (by simp; omega)])
  have hoc : ocells fr F d ++ [.int .i64 (if o then 7 else 6), .int .i64 0, .string ByteArray.empty, .slice none 0 0, .slice none 0 0, it.val] = ocells (updN fr d ⟨o, [], []⟩) (upd F (.seen d) it) (d + 1) := by
    rw [ocells_succ, hfc, ocells_congr hfo]
  rw [hoc] at hown
  have O2 := O1.step .opn (.row 109 6 v' (d + 1) (ocells (updN fr d ⟨o, [], []⟩) (upd F (.seen d) it) (d + 1))) (w' := w1) (by rw [upd_other _ _ (by simp), hblk]; exact hg) hown (by
    rw [upd_other _ _ (by simp), hblk]
    rcases hat with e | ⟨b, e, hle⟩
    · exact .inl e
    · exact .inr (.inr ⟨b, e, hle⟩))
  have hW1 : Whole w1 rb 59 [.string s, .int .i64 p, .int .i64 n, (F .opn).val] := (h.obj.below hbA (by have := h.hB; omega)).kept hg (fun e => by have := (h.blkB .opn rb (hblk.trans e)).1; have := h.hB.1; omega)
  obtain ⟨hW2, hg2⟩ := hW1.set 3 v'
  have hPk : ∀ b, P b → (w1.setCell ⟨rb, 3, none⟩ v').heap[b]? = w.heap[b]? := fun b hb => by
    obtain ⟨q1, q2, q3⟩ := h.sealed' b hb
    rw [hg2.block b (by omega) (fun e => by cases e; have := h.hB.1; omega), hg.block b (by omega) (fun e => q3 .opn (hblk.trans e.symm)), hbA.block b q2]
  refine ⟨_, O2.apart hg2 (fun k b hk e => ?_), ⟨h.hB.1, by have := h.hB.2; simp; omega⟩, by rw [upd_same]; exact hW2, ⟨v', ?_⟩, fun i hi => ?_, fun i hi => ?_, fun i hi => ?_, fun i hi => ?_, fun b hb => ?_, fun i hi => ?_⟩
  · cases e; have := ((O2.1 k).lt _ hk).1; have := h.hB.1; omega
  · rw [upd_same]
    congr 1
  · rw [upd_other _ _ (by simp), upd_other _ _ (by simp)]
    by_cases e : i = d
    · subst e; rw [updN_same, ok1]; exact ⟨_, rfl⟩
    · rw [updN_other _ _ e]; exact h.kys i (by omega)
  · rw [upd_other _ _ (by simp), upd_other _ _ (by simp)]
    by_cases e : i = d
    · subst e; rw [updN_same, ok2]; exact ⟨_, [], rfl, rfl, fun j hj => absurd hj (Nat.not_lt_zero _)⟩
    · rw [updN_other _ _ e]
      obtain ⟨v, ls, e1, e2, e3⟩ := h.kds i (by omega)
      exact ⟨v, ls, e1, e2, fun j hj => (e3 j hj).keep (fun _ h => h) hPk⟩
  · rw [upd_other _ _ (by simp)]
    by_cases e : i = d
    · subst e; rw [updN_same, upd_same]; exact hito
    · rw [updN_other _ _ e, upd_other _ _ (by simpa using e)]; exact h.sen i (by omega)
  · rw [upd_other _ _ (by simp), upd_other _ _ (by simp), upd_other _ _ (by simp), upd_other _ _ (by simp), upd_other _ _ (by simp), upd_other _ _ (by simp; omega)]; exact h.out i (by omega)
  · obtain ⟨q1, q2, q3⟩ := h.sealed' b hb
    refine ⟨q1, by simp; omega, fun k => ?_⟩
    by_cases e : k = .opn
    · subst e; rw [upd_same]
      rcases hat with e | ⟨b', e, hle⟩
      · show v'.ownBlock ≠ _; rw [e, ← hblk]; exact q3 .opn
      · show v'.ownBlock ≠ _; rw [e]; intro e'; cases e'; omega
    · rw [upd_other _ _ e]
      by_cases e2 : k = .seen d
      · subst e2; rw [upd_same]
        rcases hitb with e | ⟨b', e, hle⟩
        · rw [e]; simp
        · rw [e]; intro e'; cases e'; omega
      · rw [upd_other _ _ e2]; exact q3 k
  · by_cases e : i = d
    · subst e; rw [updN_same]; simp
    · rw [updN_other _ _ e]; exact h.sml i (by omega)

theorem flat_get {ls : List (List Value)} (h5 : ∀ j, j < ls.length → (ls.getD j []).length = 5) : ∀ {i j : Nat}, i < ls.length → j < 5 → ls.flatten[5 * i + j]? = (ls.getD i [])[j]? := by
  induction ls with
  | nil => intro i j hi _; simp at hi
  | cons a ls ih =>
    intro i j hi hj
    have ha : a.length = 5 := h5 0 (by simp)
    rw [List.flatten_cons]
    cases i with
    | zero => rw [List.getElem?_append_left (by omega)]; simp
    | succ i =>
      rw [List.getElem?_append_right (by omega), ha, show 5 * (i + 1) + j - 5 = 5 * i + j from by omega]
      have := ih (fun j hj => by have := h5 (j + 1) (by simp; omega); simpa using this) (i := i) (j := j) (by simp at hi; omega) hj
      rw [this]; simp
theorem flat_len {ls : List (List Value)} (h5 : ∀ j, j < ls.length → (ls.getD j []).length = 5) : ls.flatten.length = ls.length * 5 := by
  induction ls with
  | nil => rfl
  | cons a ls ih =>
    have ha : a.length = 5 := h5 0 (by simp)
    rw [List.flatten_cons, List.length_append, ha, ih (fun j hj => by have := h5 (j + 1) (by simp; omega); simpa using this)]
    simp; omega

theorem RM.pop (h : RM w B rb s p n (d + 1) fr F P) {g cap : Nat} (hv : (F .opn).val = .slice (some ⟨g, 0, none⟩) (d + 1) cap) (hsm : (fr d).keys.length ≤ maxLen ∧ (fr d).kids.length ≤ maxLen) :
    ∃ F' P', RM (w.setCell ⟨rb, 3, none⟩ (.slice (some ⟨g, 0, none⟩) d cap)) B rb s p n d fr F' P' ∧ NodeIn (w.setCell ⟨rb, 3, none⟩ (.slice (some ⟨g, 0, none⟩) d cap)) P' (fr d).node [.int .i64 (kindOf (fr d)), .int .i64 0, .string ByteArray.empty, (F (.keys d)).val, (F (.kids d)).val] ∧ (∀ b, P b → P' b) ∧ (∀ b, P' b → P b ∨ ∃ k, (F k).blk = some b) ∧ ∀ k b, (F' k).blk = some b → (F k).blk = some b := by
  obtain ⟨ov, hov⟩ := h.opn
  rw [hov] at hv
  have hv' : ov = .slice (some ⟨g, 0, none⟩) (d + 1) cap := hv
  subst hv'
  have hrow : w.ownsRow B 109 6 (.slice (some ⟨g, 0, none⟩) (d + 1) cap) (d + 1) (ocells fr F (d + 1)) := by have := h.own.1 .opn; rw [hov] at this; exact this
  have hcut : w.ownsRow B 109 6 (.slice (some ⟨g, 0, none⟩) d cap) d (ocells fr F d) := by
    refine ⟨ocells_len fr F d, .inr ?_⟩
    rcases hrow.2 with ⟨e, _⟩ | ⟨g', cap', cur, e, hb, hg, hn', hm, hc, ht⟩
    · cases e
    · simp only [Value.slice.injEq, Option.some.injEq, Addr.mk.injEq, and_true, true_and] at e
      obtain ⟨rfl, rfl⟩ := e
      refine ⟨g, cap, cur, rfl, hb, hg, by omega, hm, hc, ?_⟩
      have : cur.toList.take (d * 6) = (cur.toList.take ((d + 1) * 6)).take (d * 6) := by rw [List.take_take]; congr 1; omega
      rw [this, ht, ocells_succ, List.take_left' (ocells_len fr F d)]
  have hgB := hrow.lt g rfl
  obtain ⟨kv, hk⟩ := h.kys d (by omega)
  obtain ⟨cv, ls, hc1, hc2, hc3⟩ := h.kds d (by omega)
  have hkr : w.ownsRow B 9 1 kv (fr d).keys.length ((fr d).keys.map Value.string) := by have := h.own.1 (.keys d); rw [hk] at this; exact this
  have hcr : w.ownsRow B 26 5 cv (fr d).kids.length ls.flatten := by have := h.own.1 (.kids d); rw [hc1] at this; exact this
  have O1 := h.own.step .opn (.row 109 6 (.slice (some ⟨g, 0, none⟩) d cap) d (ocells fr F d)) (w' := w) ⟨rfl, rfl, rfl, Nat.le_refl _, fun _ _ _ => rfl⟩ hcut (.inl (by rw [hov]; rfl))
  have O2 := O1.drop (.keys d) nilK ⟨rfl, .inl ⟨rfl, rfl⟩⟩ rfl
  have O3 := O2.drop (.kids d) nilC ⟨rfl, .inl ⟨rfl, rfl⟩⟩ rfl
  have O4 := O3.drop (.seen d) .nomap trivial rfl
  obtain ⟨hW2, hg2⟩ := h.obj.set 3 (.slice (some ⟨g, 0, none⟩) d cap)
  have hkeep : ∀ b, B ≤ b → b < w.heap.size → (w.setCell ⟨rb, 3, none⟩ (.slice (some ⟨g, 0, none⟩) d cap)).heap[b]? = w.heap[b]? := fun b h1 h2 => hg2.block b h2 (fun e => by cases e; have := h.hB.1; omega)
  have hblkK : (F (.keys d)).blk = kv.ownBlock := by rw [hk]; rfl
  have hblkC : (F (.kids d)).blk = cv.ownBlock := by rw [hc1]; rfl
  have hPb : ∀ b, (P b ∨ (F (.keys d)).blk = some b ∨ (F (.kids d)).blk = some b) → B ≤ b ∧ b < w.heap.size := by
    rintro b (hb | hb | hb)
    · exact ⟨(h.sealed' b hb).1, (h.sealed' b hb).2.1⟩
    · exact h.blkB _ b hb
    · exact h.blkB _ b hb
  have hPk : ∀ b, P b → (w.setCell ⟨rb, 3, none⟩ (.slice (some ⟨g, 0, none⟩) d cap)).heap[b]? = w.heap[b]? := fun b hb => hkeep b (h.sealed' b hb).1 (h.sealed' b hb).2.1
  refine ⟨_, fun b => P b ∨ (F (.keys d)).blk = some b ∨ (F (.kids d)).blk = some b, ⟨O4.apart hg2 (fun k b hk e => ?_), ⟨h.hB.1, by simpa using h.hB.2⟩, ?_, ⟨.slice (some ⟨g, 0, none⟩) d cap, ?_⟩, fun i hi => ?_, fun i hi => ?_, fun i hi => ?_, fun i hi => ?_, fun b hb => ?_, fun i hi => h.sml i (by omega)⟩, ?_, fun b hb => .inl hb, fun b hb => ?_, fun k b hk => ?_⟩
  · cases e; have := ((O4.1 k).lt _ hk).1; have := h.hB.1; omega
  · rw [upd_other _ _ (by simp), upd_other _ _ (by simp), upd_other _ _ (by simp), upd_same]
    exact hW2
  · rw [upd_other _ _ (by simp), upd_other _ _ (by simp), upd_other _ _ (by simp), upd_same]
    congr 1
    exact ocells_congr fun i hi => fcells_alike rfl (by rw [upd_other _ _ (by simp), upd_other _ _ (by simp), upd_other _ _ (by simp; omega), upd_other _ _ (by simp)]) (by rw [upd_other _ _ (by simp), upd_other _ _ (by simp; omega), upd_other _ _ (by simp), upd_other _ _ (by simp)]) (by rw [upd_other _ _ (by simp; omega), upd_other _ _ (by simp), upd_other _ _ (by simp), upd_other _ _ (by simp)])
  · rw [upd_other _ _ (by simp), upd_other _ _ (by simp), upd_other _ _ (by simp; omega), upd_other _ _ (by simp)]; exact h.kys i (by omega)
  · rw [upd_other _ _ (by simp), upd_other _ _ (by simp; omega), upd_other _ _ (by simp), upd_other _ _ (by simp)]
    obtain ⟨v, l2, e1, e2, e3⟩ := h.kds i (by omega)
    exact ⟨v, l2, e1, e2, fun j hj => (e3 j hj).keep (fun _ h => .inl h) hPk⟩
  · rw [upd_other _ _ (by simp; omega), upd_other _ _ (by simp), upd_other _ _ (by simp), upd_other _ _ (by simp)]; exact h.sen i (by omega)
  · by_cases e : i = d
    · subst e
      refine ⟨?_, ?_, upd_same _ _ _⟩
      · rw [upd_other _ _ (by simp), upd_other _ _ (by simp), upd_same]
      · rw [upd_other _ _ (by simp), upd_same]
    · obtain ⟨q1, q2, q3⟩ := h.out i (by omega)
      refine ⟨?_, ?_, ?_⟩
      · rw [upd_other _ _ (by simp), upd_other _ _ (by simp), upd_other _ _ (by simpa using e), upd_other _ _ (by simp)]; exact q1
      · rw [upd_other _ _ (by simp), upd_other _ _ (by simpa using e), upd_other _ _ (by simp), upd_other _ _ (by simp)]; exact q2
      · rw [upd_other _ _ (by simpa using e), upd_other _ _ (by simp), upd_other _ _ (by simp), upd_other _ _ (by simp)]; exact q3
  · obtain ⟨q1, q2⟩ := hPb b hb
    refine ⟨q1, by simpa using q2, fun k => ?_⟩
    have hF : (F k).blk = some b → k = .keys d ∨ k = .kids d := by
      intro hk
      rcases hb with hb | hb | hb
      · exact absurd hk ((h.sealed' b hb).2.2 k)
      · exact .inl (h.own.2 k (.keys d) b hk hb)
      · exact .inr (h.own.2 k (.kids d) b hk hb)
    by_cases e4 : k = .seen d
    · subst e4; rw [upd_same]; simp [Thing.blk]
    rw [upd_other _ _ e4]
    by_cases e3 : k = .kids d
    · subst e3; rw [upd_same]; simp [Thing.blk, nilC, Value.ownBlock]
    rw [upd_other _ _ e3]
    by_cases e2 : k = .keys d
    · subst e2; rw [upd_same]; simp [Thing.blk, nilK, Value.ownBlock]
    rw [upd_other _ _ e2]
    by_cases e1 : k = .opn
    · subst e1
      rw [upd_same]
      intro hk
      rcases hF (by rw [hov]; exact hk) with e | e
      · cases e
      · cases e
    · rw [upd_other _ _ e1]
      intro hk
      rcases hF hk with e | e
      · exact e2 e
      · exact e3 e
  · have hvk : (F (.keys d)).val = kv := by rw [hk]; rfl
    have hvc : (F (.kids d)).val = cv := by rw [hc1]; rfl
    have hK : KeysIn (w.setCell ⟨rb, 3, none⟩ (.slice (some ⟨g, 0, none⟩) d cap)) (fun b => P b ∨ (F (.keys d)).blk = some b ∨ (F (.kids d)).blk = some b) kv (fr d).keys := by
      rcases hkr.2 with ⟨rfl, h0⟩ | ⟨g1, c1, cur, rfl, hb, hg, hn', hm, hc, ht⟩
      · have : (fr d).keys = [] := List.length_eq_zero_iff.1 h0
        rw [this]
        exact ⟨none, 0, 0, 0, rfl, ⟨Nat.zero_le _, Nat.zero_le _⟩, fun h => absurd rfl h, fun i hi => absurd hi (Nat.not_lt_zero _), by simp⟩
      · refine ⟨_, c1, g1, 0, rfl, ⟨hsm.1, by omega⟩, fun _ => ⟨rfl, .inr (.inl hblkK)⟩, fun i hi => ?_, h.sml d (by omega)⟩
        have := hkr.cellAt i (by omega)
        rw [Nat.zero_add, World.cell?_of_block (w := w) (hkeep g1 hb (Array.getElem?_eq_some_iff.1 hg).1), this, List.getElem?_map, List.getElem?_eq_getElem hi, List.getD_eq_getElem?_getD, List.getElem?_eq_getElem hi]; rfl
    have h5 : ∀ j, j < ls.length → (ls.getD j []).length = 5 := fun j hj => (hc3 j (by omega)).len
    have hkd : In64 (kindOf (fr d)) ∧ In64 0 ∧ ByteArray.empty.size ≤ maxLen := by
      refine ⟨?_, by constructor <;> omega, by simp [maxLen]⟩
      unfold kindOf; split <;> constructor <;> omega
    rw [hvk, hvc]
    have hno : (fr d).node = .mk (kindOf (fr d)) 0 ByteArray.empty (fr d).keys (fr d).kids := by unfold Fr.node kindOf; rfl
    rw [hno]
    rcases hcr.2 with ⟨rfl, h0⟩ | ⟨g1, c1, cur, rfl, hb, hg, hn', hm, hc, ht⟩
    · have he : (fr d).kids = [] := List.length_eq_zero_iff.1 h0
      rw [he]
      exact .mk _ _ _ _ [] _ none 0 0 0 (fun _ => []) hkd hK (Nat.zero_le _) (fun h => absurd rfl h) (fun i hi => absurd hi (Nat.not_lt_zero _)) (fun i hi => absurd hi (Nat.not_lt_zero _))
    · refine .mk _ _ _ _ (fr d).kids _ _ c1 g1 0 (fun i => ls.getD i []) hkd hK hsm.2 (fun _ => ⟨rfl, .inr (.inr hblkC)⟩) (fun i hi j hj => ?_) (fun i hi => ?_)
      · rw [World.cell?_of_block (w := w) (hkeep g1 hb (Array.getElem?_eq_some_iff.1 hg).1), show (0 + 5 * i + j) = 5 * i + j from by omega, hcr.cellAt (5 * i + j) (by omega)]
        exact flat_get h5 (by omega) hj
      · have := (hc3 i hi).keep (P' := fun b => P b ∨ (F (.keys d)).blk = some b ∨ (F (.kids d)).blk = some b) (fun _ h => .inl h) hPk
        rw [List.getD_eq_getElem?_getD, List.getElem?_eq_getElem hi] at this
        exact this
  · rcases hb with hb | hb | hb
    · exact .inl hb
    · exact .inr ⟨_, hb⟩
    · exact .inr ⟨_, hb⟩
  · by_cases e4 : k = .seen d
    · subst e4; rw [upd_same] at hk; cases hk
    rw [upd_other _ _ e4] at hk
    by_cases e3 : k = .kids d
    · subst e3; rw [upd_same] at hk; cases hk
    rw [upd_other _ _ e3] at hk
    by_cases e2 : k = .keys d
    · subst e2; rw [upd_same] at hk; cases hk
    rw [upd_other _ _ e2] at hk
    by_cases e1 : k = .opn
    · subst e1; rw [upd_same] at hk; rw [hov]; exact hk
    · rw [upd_other _ _ e1] at hk; exact hk
end
end Go.Proofs.YtdbidkfjbhclcaaDoor.jsonN
namespace Go.Proofs.YtdbidkfjbhclcaaDoor.jsonO
open Go.ChangeShapes Go.WideShapes Go.ChangeAt Go.RowKit Go.WideMaps Go.Maps nodeP nodeQ nodeS ownI jsonP jsonM jsonN
set_option linter.unusedSimpArgs false
set_option linter.unusedVariables false

theorem getD_left {α : Type} (l m : List α) (j : Nat) (d : α) (h : j < l.length) : (l ++ m).getD j d = l.getD j d := by
  rw [List.getD_eq_getElem?_getD, List.getElem?_append_left h, ← List.getD_eq_getElem?_getD]
theorem getD_last {α : Type} (l : List α) (x d : α) : (l ++ [x]).getD l.length d = x := by
  rw [List.getD_eq_getElem?_getD, List.getElem?_append_right (Nat.le_refl _), Nat.sub_self]; rfl
theorem grown_trans {a b c : World} {r : Option Nat} (h : Below a.heap.size a b) (k : b.grownBy c r) : a.grownBy c r :=
  ⟨k.os.trans h.os, k.tape.trans h.tape, k.output.trans h.output, Nat.le_trans h.size k.size, fun j hj hne => (k.block j (Nat.lt_of_lt_of_le hj h.size) hne).trans (h.block j hj)⟩

section
variable {w w0 wA w1 : World} {B rb : Nat} {s : ByteArray} {p n d : Nat} {fr : Nat → Fr} {F : Ix → Thing} {P : Nat → Prop}

theorem RM.addKid (h : RM w B rb s p n (d + 1) fr F P) (hbA : Below w.heap.size w wA) {g cap : Nat} (hv : (F .opn).val = .slice (some ⟨g, 0, none⟩) (d + 1) cap) {x : Nd} {cs : List Value} (hx : NodeIn w P x cs)
    {cv v' : Value} {ls : List (List Value)} (hc1 : F (.kids d) = .row 26 5 cv (fr d).kids.length ls.flatten) (hc2 : ls.length = (fr d).kids.length) (hc3 : ∀ j, j < (fr d).kids.length → NodeIn w P ((fr d).kids.getD j default) (ls.getD j []))
    (hown : w1.ownsRow B 26 5 v' ((fr d).kids.length + 1) (ls.flatten ++ cs)) (hg : wA.grownBy w1 cv.ownBlock) (hat : v'.ownBlock = cv.ownBlock ∨ ∃ b, v'.ownBlock = some b ∧ wA.heap.size ≤ b) :
    ∃ F', RM (w1.setCell ⟨g, d * 6 + 4, none⟩ v') B rb s p n (d + 1) (updN fr d ⟨(fr d).obj, (fr d).keys, (fr d).kids ++ [x]⟩) F' P := by
  have hsA := hbA.size
  have hs1 := hg.size
  have hgt := grown_trans hbA hg
  obtain ⟨ov, hov⟩ := h.opn
  rw [hov] at hv
  have hv' : ov = .slice (some ⟨g, 0, none⟩) (d + 1) cap := hv
  subst hv'
  have hblk : (F (.kids d)).blk = cv.ownBlock := by rw [hc1]; rfl
  have hblkO : (F .opn).blk = some g := by rw [hov]; rfl
  have hgB := h.blkB .opn g hblkO
  have O1 := h.own.step (.kids d) (.row 26 5 v' ((fr d).kids.length + 1) (ls.flatten ++ cs)) (by rw [hblk]; exact hgt) hown (by
    rw [hblk]
    rcases hat with e | ⟨b, e, hle⟩
    · exact .inl e
    · exact .inr (.inr ⟨b, e, by omega⟩))
  have hne : some g ≠ cv.ownBlock := fun e => by have := h.own.2 .opn (.kids d) g hblkO (hblk.trans e.symm); cases this
  have hrow : w1.ownsRow B 109 6 (.slice (some ⟨g, 0, none⟩) (d + 1) cap) (d + 1) (ocells fr F (d + 1)) := by
    have := O1.1 .opn; rw [upd_other _ _ (by simp), hov] at this; exact this
  obtain ⟨r1, r2⟩ := hrow.stored (d * 6 + 4) v'
  have hos : (ocells fr F (d + 1)).set (d * 6 + 4) v' = ocells (updN fr d ⟨(fr d).obj, (fr d).keys, (fr d).kids ++ [x]⟩) (upd F (.kids d) (.row 26 5 v' ((fr d).kids.length + 1) (ls.flatten ++ cs))) (d + 1) :=
    ocells_set fr _ F _ (by omega) (by omega) (fun k hk => by
      by_cases e : k = d
      · subst e; rw [if_pos rfl]; unfold fcells kindOf; rw [updN_same, upd_same, upd_other _ _ (by simp), upd_other _ _ (by simp)]; rfl
      · rw [if_neg e]; exact fcells_alike (by rw [updN_other _ _ e]) (by rw [upd_other _ _ (by simp)]) (by rw [upd_other _ _ (by simpa using e)]) (by rw [upd_other _ _ (by simp)]))
  rw [hos] at r1
  have O2 := O1.step .opn (.row 109 6 (.slice (some ⟨g, 0, none⟩) (d + 1) cap) (d + 1) (ocells (updN fr d ⟨(fr d).obj, (fr d).keys, (fr d).kids ++ [x]⟩) (upd F (.kids d) (.row 26 5 v' ((fr d).kids.length + 1) (ls.flatten ++ cs))) (d + 1))) (by rw [upd_other _ _ (by simp), hblkO]; exact r2) r1 (.inl (by rw [upd_other _ _ (by simp), hov]; rfl))
  have hW1 : Whole w1 rb 59 [.string s, .int .i64 p, .int .i64 n, (F .opn).val] := h.obj.kept hgt (fun e => by have := (h.blkB (.kids d) rb (hblk.trans e)).1; have := h.hB.1; omega)
  have hW2 := hW1.kept r2 (fun e => by cases e; have := h.hB.1; omega)
  have hPk : ∀ b, P b → (w1.setCell ⟨g, d * 6 + 4, none⟩ v').heap[b]? = w.heap[b]? := fun b hb => by
    obtain ⟨q1, q2, q3⟩ := h.sealed' b hb
    rw [r2.block b (by omega) (fun e => q3 .opn (hblkO.trans e.symm)), hgt.block b q2 (fun e => q3 (.kids d) (hblk.trans e.symm))]
  refine ⟨_, O2, ⟨h.hB.1, by have := h.hB.2; simp; omega⟩, ?_, ⟨.slice (some ⟨g, 0, none⟩) (d + 1) cap, ?_⟩, fun i hi => ?_, fun i hi => ?_, fun i hi => ?_, fun i hi => ?_, fun b hb => ?_, fun i hi => ?_⟩
  · rw [upd_same]; rw [hov] at hW2; exact hW2
  · rw [upd_same]
    congr 1
  · rw [upd_other _ _ (by simp), upd_other _ _ (by simp)]
    by_cases e : i = d
    · subst e; rw [updN_same]; exact h.kys i hi
    · rw [updN_other _ _ e]; exact h.kys i hi
  · rw [upd_other _ _ (by simp)]
    by_cases e : i = d
    · subst e
      rw [updN_same, upd_same]
      refine ⟨v', ls ++ [cs], by simp, by simp [hc2], fun j hj => ?_⟩
      dsimp only at hj ⊢
      rw [List.length_append] at hj
      by_cases ej : j < (fr i).kids.length
      · rw [getD_left _ _ _ _ ej, getD_left _ _ _ _ (by omega)]
        exact (hc3 j ej).keep (fun _ h => h) hPk
      · have e2 : j = (fr i).kids.length := by simp at hj; omega
        subst e2
        rw [getD_last, ← hc2, getD_last]
        exact hx.keep (fun _ h => h) hPk
    · rw [updN_other _ _ e, upd_other _ _ (by simpa using e)]
      obtain ⟨v, l2, e1, e2, e3⟩ := h.kds i hi
      exact ⟨v, l2, e1, e2, fun j hj => (e3 j hj).keep (fun _ h => h) hPk⟩
  · rw [upd_other _ _ (by simp), upd_other _ _ (by simp)]
    by_cases e : i = d
    · subst e; rw [updN_same]; exact h.sen i hi
    · rw [updN_other _ _ e]; exact h.sen i hi
  · rw [upd_other _ _ (by simp), upd_other _ _ (by simp), upd_other _ _ (by simp), upd_other _ _ (by simp; omega), upd_other _ _ (by simp), upd_other _ _ (by simp)]; exact h.out i hi
  · obtain ⟨q1, q2, q3⟩ := h.sealed' b hb
    refine ⟨q1, by simp; omega, fun k => ?_⟩
    by_cases e : k = .opn
    · subst e; rw [upd_same]; show some g ≠ some b; rw [← hblkO]; exact q3 .opn
    · rw [upd_other _ _ e]
      by_cases e2 : k = .kids d
      · subst e2; rw [upd_same]
        show v'.ownBlock ≠ _
        rcases hat with e | ⟨b', e, hle⟩
        · rw [e, ← hblk]; exact q3 _
        · rw [e]; intro e'; cases e'; omega
      · rw [upd_other _ _ e2]; exact q3 k
  · by_cases e : i = d
    · subst e; rw [updN_same]; exact h.sml i hi
    · rw [updN_other _ _ e]; exact h.sml i hi

theorem RM.addKey (h : RM w B rb s p n (d + 1) fr F P) (ho : (fr d).obj = true) {g cap : Nat} (hv : (F .opn).val = .slice (some ⟨g, 0, none⟩) (d + 1) cap) {x : ByteArray} (hx : x.size ≤ maxLen) {mb : Nat} (hm : F (.seen d) = .map mb (fr d).keys.length (seenD (fr d).keys))
    (hmap : w0.ownsMap Tryd.prog 9 (plainElem Tryd.prog 3) mb ((fr d).keys.length + 1) (seenD ((fr d).keys ++ [x]))) (hg0 : w.grownBy w0 (some mb)) (hbA : Below w0.heap.size w0 wA)
    {kv v' : Value} (hk : F (.keys d) = .row 9 1 kv (fr d).keys.length ((fr d).keys.map Value.string))
    (hown : w1.ownsRow B 9 1 v' ((fr d).keys.length + 1) ((fr d).keys.map Value.string ++ [Value.string x])) (hg : wA.grownBy w1 kv.ownBlock) (hat : v'.ownBlock = kv.ownBlock ∨ ∃ b, v'.ownBlock = some b ∧ wA.heap.size ≤ b) :
    ∃ F', RM (w1.setCell ⟨g, d * 6 + 3, none⟩ v') B rb s p n (d + 1) (updN fr d ⟨true, (fr d).keys ++ [x], (fr d).kids⟩) F' P := by
  have hs0 := hg0.size
  have hsA := hbA.size
  have hs1 := hg.size
  have hgt := grown_trans hbA hg
  obtain ⟨ov, hov⟩ := h.opn
  rw [hov] at hv
  have hv' : ov = .slice (some ⟨g, 0, none⟩) (d + 1) cap := hv
  subst hv'
  have hblk : (F (.keys d)).blk = kv.ownBlock := by rw [hk]; rfl
  have hblkO : (F .opn).blk = some g := by rw [hov]; rfl
  have hblkM : (F (.seen d)).blk = some mb := by rw [hm]; rfl
  have hgB := h.blkB .opn g hblkO
  have hmB := h.blkB (.seen d) mb hblkM
  have O0 := h.own.step (.seen d) (.map mb ((fr d).keys.length + 1) (seenD ((fr d).keys ++ [x]))) (w' := w0) (by rw [hblkM]; exact hg0) ⟨hmB.1, hmap⟩ (.inl (by rw [hblkM]; rfl))
  have O1 := O0.step (.keys d) (.row 9 1 v' ((fr d).keys.length + 1) ((fr d).keys.map Value.string ++ [Value.string x])) (w' := w1) (by rw [upd_other _ _ (by simp), hblk]; exact hgt) hown (by
    rw [upd_other _ _ (by simp), hblk]
    rcases hat with e | ⟨b, e, hle⟩
    · exact .inl e
    · exact .inr (.inr ⟨b, e, by omega⟩))
  have hrow : w1.ownsRow B 109 6 (.slice (some ⟨g, 0, none⟩) (d + 1) cap) (d + 1) (ocells fr F (d + 1)) := by
    have := O1.1 .opn; rw [upd_other _ _ (by simp), upd_other _ _ (by simp), hov] at this; exact this
  obtain ⟨r1, r2⟩ := hrow.stored (d * 6 + 3) v'
  have hos : (ocells fr F (d + 1)).set (d * 6 + 3) v' = ocells (updN fr d ⟨true, (fr d).keys ++ [x], (fr d).kids⟩) (upd (upd F (.seen d) (.map mb ((fr d).keys.length + 1) (seenD ((fr d).keys ++ [x])))) (.keys d) (.row 9 1 v' ((fr d).keys.length + 1) ((fr d).keys.map Value.string ++ [Value.string x]))) (d + 1) :=
    ocells_set fr _ F _ (by omega) (by omega) (fun k hk' => by
      by_cases e : k = d
      · subst e; rw [if_pos rfl]; unfold fcells kindOf; rw [updN_same, upd_same, upd_other _ _ (by simp), upd_other _ _ (by simp), upd_other _ _ (by simp), upd_same, hm, ho]; rfl
      · rw [if_neg e]; exact fcells_alike (by rw [updN_other _ _ e]) (by rw [upd_other _ _ (by simpa using e), upd_other _ _ (by simp)]) (by rw [upd_other _ _ (by simp), upd_other _ _ (by simp)]) (by rw [upd_other _ _ (by simp), upd_other _ _ (by simpa using e)]))
  rw [hos] at r1
  have O2 := O1.step .opn (.row 109 6 (.slice (some ⟨g, 0, none⟩) (d + 1) cap) (d + 1) (ocells (updN fr d ⟨true, (fr d).keys ++ [x], (fr d).kids⟩) (upd (upd F (.seen d) (.map mb ((fr d).keys.length + 1) (seenD ((fr d).keys ++ [x])))) (.keys d) (.row 9 1 v' ((fr d).keys.length + 1) ((fr d).keys.map Value.string ++ [Value.string x]))) (d + 1))) (by rw [upd_other _ _ (by simp), upd_other _ _ (by simp), hblkO]; exact r2) r1 (.inl (by rw [upd_other _ _ (by simp), upd_other _ _ (by simp), hov]; rfl))
  have hW0 : Whole w0 rb 59 [.string s, .int .i64 p, .int .i64 n, (F .opn).val] := h.obj.kept hg0 (fun e => by cases e; have := h.hB.1; omega)
  have hW1 := hW0.kept hgt (fun e => by have := (h.blkB (.keys d) rb (hblk.trans e)).1; have := h.hB.1; omega)
  have hW2 := hW1.kept r2 (fun e => by cases e; have := h.hB.1; omega)
  have hPk : ∀ b, P b → (w1.setCell ⟨g, d * 6 + 3, none⟩ v').heap[b]? = w.heap[b]? := fun b hb => by
    obtain ⟨q1, q2, q3⟩ := h.sealed' b hb
    rw [r2.block b (by omega) (fun e => q3 .opn (hblkO.trans e.symm)), hgt.block b (by omega) (fun e => q3 (.keys d) (hblk.trans e.symm)), hg0.block b q2 (fun e => q3 (.seen d) (hblkM.trans e.symm))]
  refine ⟨_, O2, ⟨h.hB.1, by have := h.hB.2; simp; omega⟩, ?_, ⟨.slice (some ⟨g, 0, none⟩) (d + 1) cap, ?_⟩, fun i hi => ?_, fun i hi => ?_, fun i hi => ?_, fun i hi => ?_, fun b hb => ?_, fun i hi => ?_⟩
  · rw [upd_same]; rw [hov] at hW2; exact hW2
  · rw [upd_same]
    congr 1
  · rw [upd_other _ _ (by simp)]
    by_cases e : i = d
    · subst e; rw [updN_same, upd_same]; exact ⟨v', by simp⟩
    · rw [updN_other _ _ e, upd_other _ _ (by simpa using e), upd_other _ _ (by simp)]; exact h.kys i hi
  · rw [upd_other _ _ (by simp), upd_other _ _ (by simp), upd_other _ _ (by simp)]
    obtain ⟨v, l2, e1, e2, e3⟩ := h.kds i hi
    by_cases e : i = d
    · subst e; rw [updN_same]; exact ⟨v, l2, e1, e2, fun j hj => (e3 j hj).keep (fun _ h => h) hPk⟩
    · rw [updN_other _ _ e]; exact ⟨v, l2, e1, e2, fun j hj => (e3 j hj).keep (fun _ h => h) hPk⟩
  · rw [upd_other _ _ (by simp), upd_other _ _ (by simp)]
    by_cases e : i = d
    · subst e; rw [updN_same, upd_same]; exact ⟨fun _ => ⟨mb, by simp⟩, fun e => by cases e⟩
    · rw [updN_other _ _ e, upd_other _ _ (by simpa using e)]; exact h.sen i hi
  · rw [upd_other _ _ (by simp), upd_other _ _ (by simp; omega), upd_other _ _ (by simp), upd_other _ _ (by simp), upd_other _ _ (by simp), upd_other _ _ (by simp), upd_other _ _ (by simp), upd_other _ _ (by simp), upd_other _ _ (by simp; omega)]; exact h.out i hi
  · obtain ⟨q1, q2, q3⟩ := h.sealed' b hb
    refine ⟨q1, by simp; omega, fun k => ?_⟩
    by_cases e : k = .opn
    · subst e; rw [upd_same]; show some g ≠ some b; rw [← hblkO]; exact q3 .opn
    · rw [upd_other _ _ e]
      by_cases e2 : k = .keys d
      · subst e2; rw [upd_same]
        show v'.ownBlock ≠ _
        rcases hat with e | ⟨b', e, hle⟩
        · rw [e, ← hblk]; exact q3 _
        · rw [e]; intro e'; cases e'; omega
      · rw [upd_other _ _ e2]
        by_cases e3 : k = .seen d
        · subst e3; rw [upd_same]; show some mb ≠ some b; rw [← hblkM]; exact q3 _
        · rw [upd_other _ _ e3]; exact q3 k
  · by_cases e : i = d
    · subst e; rw [updN_same]
      intro k hk'
      rcases List.mem_append.1 hk' with hk' | hk'
      · exact h.sml i hi k hk'
      · simp at hk'; rw [hk']; exact hx
    · rw [updN_other _ _ e]; exact h.sml i hi
end
end Go.Proofs.YtdbidkfjbhclcaaDoor.jsonO
