/-
  Plain law of reading JSON: a machine with a stack, and a reading value by value.
-/
import Derived.Test.YtjcaffpmcgfhaaaDoorNodeQ
import Derived.Test.YtjcaffpmcgfhaaaDoorIntsP
namespace Go.Proofs.YtjcaffpmcgfhaaaDoor.jsonP
open Go.Proofs.YtjcaffpmcgfhaaaDoor.nodeP Go.Proofs.YtjcaffpmcgfhaaaDoor.nodeQ Go.Proofs.YtjcaffpmcgfhaaaDoor.utfP Go.Proofs.YtjcaffpmcgfhaaaDoor.utfQ Go.Proofs.YtjcaffpmcgfhaaaDoor.utfR
set_option linter.unusedSimpArgs false
set_option linter.unusedVariables false

def isBl (c : UInt8) : Bool := c == 9 || c == 10 || c == 13 || c == 32
def bs (u : List UInt8) : List UInt8 := u.dropWhile isBl
/-- the byte at a place; 0 at the end -/
def hd (u : List UInt8) : Nat := (u.headD 0).toNat

/-- a string at the head of a text -/
noncomputable def stk (l : List UInt8) : Option (List UInt8 × Nat) := if bt l 0 = 34 then (quoteP.tk l.tail).map fun q => (q.1, q.2 + 1) else none

structure Fr where
  obj : Bool
  keys : List ByteArray
  kids : List Nd
def Fr.node (f : Fr) : Nd := .mk (if f.obj then 7 else 6) 0 ByteArray.empty f.keys f.kids
instance : Inhabited Fr := ⟨⟨false, [], []⟩⟩
def Fr.close (f : Fr) : Nat := if f.obj then 125 else 93

def inK (x : ByteArray) (l : List ByteArray) : Bool := l.any fun k => decide (k = x)
theorem inK_iff {x : ByteArray} {l : List ByteArray} : inK x l = true ↔ x ∈ l := by simp [inK, List.any_eq_true]

inductive Lab where
  | value | key | follow (x : Nd)
structure Cf where
  lab : Lab
  u : List UInt8
  count : Nat
  st : List Fr
inductive Res where
  | ok (x : Nd)
  | err (e : Nat)

def word (k : Int) : Nd := .mk k 0 ByteArray.empty [] []
def isNum (c : Nat) : Bool := c == 45 || (decide (48 ≤ c) && decide (c ≤ 57))
def wNull : List UInt8 := [110, 117, 108, 108]
def wFalse : List UInt8 := [102, 97, 108, 115, 101]
def wTrue : List UInt8 := [116, 114, 117, 101]
/-- a value without kids, and how long it is; or the error -/
noncomputable def scal (u : List UInt8) : Nd × Nat × Nat :=
  if hd u = 34 then (match stk u with
    | some (x, n) => (.mk 5 0 ⟨x.toArray⟩ [] [], n, 0)
    | none => (word 0, 0, 1))
  else if isNum (hd u) = true then (if (intsP.takeN u).2.2 = 0 then (.mk 4 (intsP.takeN u).1 ByteArray.empty [] [], (intsP.takeN u).2.1, 0) else (word 0, 0, (intsP.takeN u).2.2))
  else if Lib.hasPrefix u wNull = true then (word 1, 4, 0)
  else if Lib.hasPrefix u wFalse = true then (word 2, 5, 0)
  else if Lib.hasPrefix u wTrue = true then (word 3, 4, 0)
  else (word 0, 0, 1)

/-- one pass from a label to the next -/
noncomputable def step (c : Cf) : Cf ⊕ Res :=
  match c.lab with
  | .value =>
    if bs c.u = [] then .inr (.err 1)
    else if c.count = 20000 then .inr (.err 3)
    else if hd (bs c.u) = 91 ∨ hd (bs c.u) = 123 then
      if c.st.length = 32 then .inr (.err 2)
      else if bs (bs c.u).tail ≠ [] ∧ hd (bs (bs c.u).tail) = (Fr.mk (decide (hd (bs c.u) = 123)) [] []).close then .inl ⟨.follow (Fr.mk (decide (hd (bs c.u) = 123)) [] []).node, (bs (bs c.u).tail).tail, c.count + 1, c.st⟩
      else .inl ⟨if hd (bs c.u) = 123 then .key else .value, bs (bs c.u).tail, c.count + 1, ⟨decide (hd (bs c.u) = 123), [], []⟩ :: c.st⟩
    else if (scal (bs c.u)).2.2 ≠ 0 then .inr (.err (scal (bs c.u)).2.2)
    else .inl ⟨.follow (scal (bs c.u)).1, (bs c.u).drop (scal (bs c.u)).2.1, c.count + 1, c.st⟩
  | .key => match c.st with
    | [] => .inr (.err 0)
    | f :: st => match stk (bs c.u) with
      | none => .inr (.err 1)
      | some (x, n) =>
        if inK ⟨x.toArray⟩ f.keys = true then .inr (.err 5)
        else if bs ((bs c.u).drop n) = [] ∨ hd (bs ((bs c.u).drop n)) ≠ 58 then .inr (.err 1)
        else .inl ⟨.value, (bs ((bs c.u).drop n)).tail, c.count, ⟨f.obj, f.keys ++ [⟨x.toArray⟩], f.kids⟩ :: st⟩
  | .follow x => match c.st with
    | [] => if bs c.u = [] then .inr (.ok x) else .inr (.err 1)
    | f :: st =>
      if bs c.u = [] then .inr (.err 1)
      else if hd (bs c.u) = f.close then .inl ⟨.follow (Fr.mk f.obj f.keys (f.kids ++ [x])).node, (bs c.u).tail, c.count, st⟩
      else if hd (bs c.u) = 44 then .inl ⟨if f.obj then .key else .value, (bs c.u).tail, c.count, ⟨f.obj, f.keys, f.kids ++ [x]⟩ :: st⟩
      else .inr (.err 1)

inductive Runs : Cf → Res → Prop where
  | fin {c : Cf} {r : Res} : step c = .inr r → Runs c r
  | go {c c' : Cf} {r : Res} : step c = .inl c' → Runs c' r → Runs c r
theorem Runs.fin' {c : Cf} {r r' : Res} (h : Runs c r) (hs : step c = .inr r') : r = r' := by
  cases h with
  | fin h => rw [h] at hs; cases hs; rfl
  | go h _ => rw [h] at hs; cases hs
theorem Runs.next {c c' : Cf} {r : Res} (h : Runs c r) (hs : step c = .inl c') : Runs c' r := by
  cases h with
  | fin h => rw [h] at hs; cases hs
  | go h h' => rw [h] at hs; cases hs; exact h'

theorem bs_len (u : List UInt8) : (bs u).length ≤ u.length := (List.dropWhile_sublist _).length_le
theorem bs_bs (u : List UInt8) : bs (bs u) = bs u := by
  induction u with
  | nil => rfl
  | cons c u ih =>
    by_cases h : isBl c = true
    · simp only [bs, List.dropWhile_cons, h, if_true] at *; exact ih
    · have e : bs (c :: u) = c :: u := by unfold bs; rw [List.dropWhile_cons, if_neg h]
      rw [e, e]
theorem tail_len {u : List UInt8} (h : u ≠ []) : u.tail.length < u.length := by
  cases u with
  | nil => exact absurd rfl h
  | cons c u => simp

/-! ### value by value -/
inductive R3 where
  | ok (x : Nd) (u : List UInt8) (c : Nat)
  | err (e : Nat)
  | stuck
mutual
/-- a value at a depth, behind so many values -/
noncomputable def rdV : Nat → Nat → Nat → List UInt8 → R3
  | 0, _, _, _ => .stuck
  | f + 1, d, n, u =>
    if bs u = [] then .err 1
    else if n = 20000 then .err 3
    else if hd (bs u) = 91 ∨ hd (bs u) = 123 then
      if d = 32 then .err 2
      else if bs (bs u).tail ≠ [] ∧ hd (bs (bs u).tail) = (Fr.mk (decide (hd (bs u) = 123)) [] []).close then .ok (Fr.mk (decide (hd (bs u) = 123)) [] []).node (bs (bs u).tail).tail (n + 1)
      else rdK f d (n + 1) (bs (bs u).tail) ⟨decide (hd (bs u) = 123), [], []⟩
    else if (scal (bs u)).2.2 ≠ 0 then .err (scal (bs u)).2.2
    else .ok (scal (bs u)).1 ((bs u).drop (scal (bs u)).2.1) (n + 1)
/-- the rest of an Array or an Object, from a key or a value on -/
noncomputable def rdK : Nat → Nat → Nat → List UInt8 → Fr → R3
  | 0, _, _, _, _ => .stuck
  | f + 1, d, n, u, g =>
    if g.obj = true then
      match stk (bs u) with
      | none => .err 1
      | some (x, k) =>
        if inK ⟨x.toArray⟩ g.keys = true then .err 5
        else if bs ((bs u).drop k) = [] ∨ hd (bs ((bs u).drop k)) ≠ 58 then .err 1
        else match rdV f (d + 1) n (bs ((bs u).drop k)).tail with
          | .ok y v m =>
            if bs v = [] then .err 1
            else if hd (bs v) = g.close then .ok (Fr.mk g.obj (g.keys ++ [⟨x.toArray⟩]) (g.kids ++ [y])).node (bs v).tail m
            else if hd (bs v) = 44 then rdK f d m (bs v).tail ⟨g.obj, g.keys ++ [⟨x.toArray⟩], g.kids ++ [y]⟩
            else .err 1
          | r => r
    else match rdV f (d + 1) n u with
      | .ok y v m =>
        if bs v = [] then .err 1
        else if hd (bs v) = g.close then .ok (Fr.mk g.obj g.keys (g.kids ++ [y])).node (bs v).tail m
        else if hd (bs v) = 44 then rdK f d m (bs v).tail ⟨g.obj, g.keys, g.kids ++ [y]⟩
        else .err 1
      | r => r
end

/-- what a result leads to -/
def Leads (c : Cf) (st : List Fr) (r : R3) : Prop := match r with
  | .ok x u m => ∀ r, Runs ⟨.follow x, u, m, st⟩ r → Runs c r
  | .err e => Runs c (.err e)
  | .stuck => True

theorem leads (f : Nat) : (∀ d n u st, st.length = d → Leads ⟨.value, u, n, st⟩ st (rdV f d n u)) ∧ (∀ d n u g st, st.length = d → Leads ⟨if g.obj then .key else .value, u, n, g :: st⟩ st (rdK f d n u g)) := by
  induction f with
  | zero => exact ⟨fun d n u st _ => by unfold rdV; exact trivial, fun d n u g st _ => by unfold rdK; exact trivial⟩
  | succ f ih =>
    obtain ⟨ihV, ihK⟩ := ih
    have tail : ∀ (d n : Nat) (v : List UInt8) (g : Fr) (y : Nd) (m : Nat) (st : List Fr) (c : Cf), st.length = d → (∀ r, Runs ⟨.follow y, v, m, g :: st⟩ r → Runs c r) →
        Leads c st (if bs v = [] then .err 1 else if hd (bs v) = g.close then .ok (Fr.mk g.obj g.keys (g.kids ++ [y])).node (bs v).tail m else if hd (bs v) = 44 then rdK f d m (bs v).tail ⟨g.obj, g.keys, g.kids ++ [y]⟩ else .err 1) := by
      intro d n v g y m st c hd' h
      by_cases h1 : bs v = []
      · rw [if_pos h1]; exact h _ (.fin (by simp [step, h1]))
      · rw [if_neg h1]
        by_cases h2 : hd (bs v) = g.close
        · rw [if_pos h2]; intro r hr; exact h _ (.go (by simp only [step]; rw [if_neg h1, if_pos h2]) hr)
        · rw [if_neg h2]
          by_cases h3 : hd (bs v) = 44
          · rw [if_pos h3]
            have hk := ihK d m (bs v).tail ⟨g.obj, g.keys, g.kids ++ [y]⟩ st hd'
            have hgo : ∀ r, Runs ⟨if g.obj then .key else .value, (bs v).tail, m, ⟨g.obj, g.keys, g.kids ++ [y]⟩ :: st⟩ r → Runs c r := fun r hr => h _ (.go (by simp only [step]; rw [if_neg h1, if_neg h2, if_pos h3]) hr)
            cases hr : rdK f d m (bs v).tail ⟨g.obj, g.keys, g.kids ++ [y]⟩ with
            | ok x u k => rw [hr] at hk; exact fun r h' => hgo r (hk r h')
            | err e => rw [hr] at hk; exact hgo _ hk
            | stuck => exact trivial
          · rw [if_neg h3]; exact h _ (.fin (by simp only [step]; rw [if_neg h1, if_neg h2, if_neg h3]))
    refine ⟨fun d n u st hd' => ?_, fun d n u g st hd' => ?_⟩
    · unfold rdV
      by_cases h1 : bs u = []
      · rw [if_pos h1]; exact .fin (by simp [step, h1])
      rw [if_neg h1]
      by_cases h2 : n = 20000
      · rw [if_pos h2]; exact .fin (by simp [step, h1, h2])
      rw [if_neg h2]
      by_cases h3 : hd (bs u) = 91 ∨ hd (bs u) = 123
      · rw [if_pos h3]
        by_cases h4 : d = 32
        · rw [if_pos h4]; exact .fin (by simp only [step]; rw [if_neg h1, if_neg h2, if_pos h3, if_pos (by rw [hd', h4])])
        rw [if_neg h4]
        by_cases h5 : bs (bs u).tail ≠ [] ∧ hd (bs (bs u).tail) = (Fr.mk (decide (hd (bs u) = 123)) [] []).close
        · rw [if_pos h5]; intro r hr; exact .go (by simp only [step]; rw [if_neg h1, if_neg h2, if_pos h3, if_neg (by rw [hd']; exact h4), if_pos h5]) hr
        · rw [if_neg h5]
          have hk := ihK d (n + 1) (bs (bs u).tail) ⟨decide (hd (bs u) = 123), [], []⟩ st hd'
          have hgo : ∀ r, Runs ⟨if decide (hd (bs u) = 123) then .key else .value, bs (bs u).tail, n + 1, ⟨decide (hd (bs u) = 123), [], []⟩ :: st⟩ r → Runs ⟨.value, u, n, st⟩ r := fun r hr => .go (by
            simp only [step]; rw [if_neg h1, if_neg h2, if_pos h3, if_neg (by rw [hd']; exact h4), if_neg h5]) (by
            simpa using hr)
          cases hr : rdK f d (n + 1) (bs (bs u).tail) ⟨decide (hd (bs u) = 123), [], []⟩ with
          | ok x u k => rw [hr] at hk; exact fun r h' => hgo r (hk r h')
          | err e => rw [hr] at hk; exact hgo _ hk
          | stuck => exact trivial
      · rw [if_neg h3]
        by_cases h4 : (scal (bs u)).2.2 ≠ 0
        · rw [if_pos h4]; exact .fin (by simp only [step]; rw [if_neg h1, if_neg h2, if_neg h3, if_pos h4])
        · rw [if_neg h4]; intro r hr; exact .go (by simp only [step]; rw [if_neg h1, if_neg h2, if_neg h3, if_neg h4]) hr
    · unfold rdK
      by_cases ho : g.obj = true
      · rw [if_pos ho, if_pos ho]
        cases hs : stk (bs u) with
        | none => exact .fin (by simp only [step]; rw [hs])
        | some q =>
          obtain ⟨x, k⟩ := q
          dsimp only
          by_cases h1 : inK ⟨x.toArray⟩ g.keys = true
          · rw [if_pos h1]; exact .fin (by simp only [step]; rw [hs]; dsimp only; rw [if_pos h1])
          rw [if_neg h1]
          by_cases h2 : bs ((bs u).drop k) = [] ∨ hd (bs ((bs u).drop k)) ≠ 58
          · rw [if_pos h2]; exact .fin (by simp only [step]; rw [hs]; dsimp only; rw [if_neg h1, if_pos h2])
          rw [if_neg h2]
          have hv := ihV (d + 1) n (bs ((bs u).drop k)).tail (⟨g.obj, g.keys ++ [⟨x.toArray⟩], g.kids⟩ :: st) (by simp [hd'])
          have hgo : ∀ r, Runs ⟨.value, (bs ((bs u).drop k)).tail, n, ⟨g.obj, g.keys ++ [⟨x.toArray⟩], g.kids⟩ :: st⟩ r → Runs ⟨.key, u, n, g :: st⟩ r := fun r hr => .go (by
            simp only [step]; rw [hs]; dsimp only; rw [if_neg h1, if_neg h2]) hr
          cases hr : rdV f (d + 1) n (bs ((bs u).drop k)).tail with
          | ok y v m => rw [hr] at hv; exact tail d n v ⟨g.obj, g.keys ++ [⟨x.toArray⟩], g.kids⟩ y m st _ hd' (fun r h' => hgo r (hv r h'))
          | err e => rw [hr] at hv; exact hgo _ hv
          | stuck => exact trivial
      · rw [if_neg ho, if_neg ho]
        have hv := ihV (d + 1) n u (g :: st) (by simp [hd'])
        cases hr : rdV f (d + 1) n u with
        | ok y v m => rw [hr] at hv; exact tail d n v g y m st _ hd' (fun r h' => hv r h')
        | err e => rw [hr] at hv; exact hv
        | stuck => exact trivial
end Go.Proofs.YtjcaffpmcgfhaaaDoor.jsonP
