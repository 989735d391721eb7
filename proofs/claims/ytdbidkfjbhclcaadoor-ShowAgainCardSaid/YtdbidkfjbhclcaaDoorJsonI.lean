/-
  A law on scopes with three labels; the state of (*reader).read at its labels.
-/
import Derived.ScopeJumps
import Derived.Tactics
import Derived.Test.YtdbidkfjbhclcaaDoorJsonH
import Derived.Test.YtdbidkfjbhclcaaDoorJsonS
namespace Go.Proofs.YtdbidkfjbhclcaaDoor.labels
open Go

/-- by a goto to a label: J; else as Q -/
def jumps (J : Nat → Act → World → Prop) (Q : Exit → Act → World → Prop) : Exit → Act → World → Prop
  | .goto l, a, w => l < 3 ∧ J l a w
  | e, a, w => Q e a w
theorem jumps_ret {J : Nat → Act → World → Prop} {Q : Exit → Act → World → Prop} {a : Act} {w : World} : jumps J Q .ret a w = Q .ret a w := rfl
theorem jumps_goto {J : Nat → Act → World → Prop} {Q : Exit → Act → World → Prop} {a : Act} {w : World} {l : Nat} : jumps J Q (.goto l) a w = (l < 3 ∧ J l a w) := rfl
theorem jumps_mono {J K : Nat → Act → World → Prop} {Q : Exit → Act → World → Prop} (h : ∀ l a w, J l a w → K l a w) : ∀ e a w, jumps J Q e a w → jumps K Q e a w := by
  intro e a w hq
  cases e with
  | goto l => exact ⟨hq.1, h _ _ _ hq.2⟩
  | normal => exact hq
  | exit id => exact hq
  | ret => exact hq
  | panic ch => exact hq
  | outgrown => exact hq

section
variable {P : Program} {a : Act} {w : World} {Q : Exit → Act → World → Prop}
theorem wp_scope_labels {c : Code} (R : Nat → Code) (J : Nat → Act → World → Prop) (μ : Act → World → Nat) (hf : ∀ l, l < 3 → findLabel c l = some (R l))
    (pass : ∀ l, l < 3 → ∀ a w, J l a w → (R l).wp P (jumps (fun l' a' w' => J l' a' w' ∧ μ a' w' < μ a w) Q) a w)
    (first : c.wp P (jumps J Q) a w) : (Code.scope c).wp P Q a w := by
  intro b k cs
  have hg : ∀ l, l < 3 → gotoIn l (.inScope c :: k) = some (.code (R l) :: .inScope c :: k) := fun l hl => by simp [gotoIn, hf l hl]
  have key : ∀ n l a w, l < 3 → μ a w = n → J l a w → ∃ e a' w', Q e a' w' ∧ Arrives P (lone (b.at a (.code (R l) :: .inScope c :: k)) cs w) b k cs e a' w' := by
    intro n
    induction n using Nat.strongRecOn with
    | _ n ih =>
      intro l a w hl hn hJ
      obtain ⟨e, a₁, w₁, hq, harr⟩ := pass l hl a w hJ b (.inScope c :: k) cs
      cases e with
      | normal => exact ⟨.normal, a₁, w₁, hq, Steps.trans harr (.one step_inScope)⟩
      | exit id => exact ⟨.exit id, a₁, w₁, hq, fun k' hk => harr k' (by simp [exitTo, hk])⟩
      | goto l' =>
        obtain ⟨hl', hJ', hlt⟩ := hq
        obtain ⟨e₂, a₂, w₂, hq₂, harr₂⟩ := ih _ (by omega) l' a₁ w₁ hl' rfl hJ'
        exact ⟨e₂, a₂, w₂, hq₂, .of_steps (harr _ (hg l' hl')) harr₂⟩
      | ret => exact ⟨_, a₁, w₁, hq, harr⟩
      | panic ch => exact ⟨_, a₁, w₁, hq, harr⟩
      | outgrown => exact ⟨_, a₁, w₁, hq, harr⟩
  obtain ⟨e, a₁, w₁, hq, harr⟩ := first b (.inScope c :: k) cs
  cases e with
  | normal => exact ⟨.normal, a₁, w₁, hq, .head step_scope (Steps.trans harr (.one step_inScope))⟩
  | exit id => exact ⟨.exit id, a₁, w₁, hq, fun k' hk => .head step_scope (harr k' (by simp [exitTo, hk]))⟩
  | goto l' =>
    obtain ⟨hl', hJ'⟩ := hq
    obtain ⟨e₂, a₂, w₂, hq₂, harr₂⟩ := key _ l' a₁ w₁ hl' rfl hJ'
    exact ⟨e₂, a₂, w₂, hq₂, .of_steps (.head step_scope (harr _ (hg l' hl'))) harr₂⟩
  | ret => exact ⟨_, a₁, w₁, hq, .of_steps (.one step_scope) harr⟩
  | panic ch => exact ⟨_, a₁, w₁, hq, .of_steps (.one step_scope) harr⟩
  | outgrown => exact ⟨_, a₁, w₁, hq, .of_steps (.one step_scope) harr⟩

/-- three labels; the code of the first one runs into that of the label 2 -/
theorem wp_scope_three {c b0 b1 b2 : Code} (J : Nat → Act → World → Prop) (μ : Act → World → Nat) (h0 : findLabel c 0 = some (Code.skip.seq b0)) (h1 : findLabel c 1 = some (Code.skip.seq b1)) (h2 : findLabel c 2 = some (Code.skip.seq b2))
    (pass2 : ∀ a w, J 2 a w → b2.wp P (jumps (fun l' a' w' => J l' a' w' ∧ μ a' w' < μ a w) Q) a w)
    (pass1 : ∀ a w, J 1 a w → b1.wp P (jumps (fun l' a' w' => J l' a' w' ∧ μ a' w' < μ a w) Q) a w)
    (pass0 : ∀ a w, J 0 a w → (∀ a' w', J 2 a' w' → μ a' w' < μ a w → b2.wp P (jumps (fun l'' a'' w'' => J l'' a'' w'' ∧ μ a'' w'' < μ a w) Q) a' w') → b0.wp P (jumps (fun l' a' w' => J l' a' w' ∧ μ a' w' < μ a w) Q) a w)
    (first : (∀ a w, J 0 a w → b0.wp P (jumps J Q) a w) → c.wp P (jumps J Q) a w) : (Code.scope c).wp P Q a w := by
  have p0 : ∀ a w, J 0 a w → b0.wp P (jumps (fun l' a' w' => J l' a' w' ∧ μ a' w' < μ a w) Q) a w := fun a w hJ =>
    pass0 a w hJ (fun a' w' hJ' hlt => Code.wp_mono (jumps_mono (fun l a'' w'' h => ⟨h.1, Nat.lt_trans h.2 hlt⟩)) (pass2 a' w' hJ'))
  refine wp_scope_labels (fun l => if l = 0 then Code.skip.seq b0 else if l = 1 then Code.skip.seq b1 else Code.skip.seq b2) J μ ?_ ?_ (first (fun a w hJ => Code.wp_mono (jumps_mono (fun _ _ _ h => h.1)) (p0 a w hJ)))
  · intro l hl
    rcases (show l = 0 ∨ l = 1 ∨ l = 2 by omega) with rfl | rfl | rfl
    · exact h0
    · exact h1
    · exact h2
  · intro l hl a w hJ
    rcases (show l = 0 ∨ l = 1 ∨ l = 2 by omega) with rfl | rfl | rfl
    · exact wp_seq (wp_skip (p0 a w hJ))
    · exact wp_seq (wp_skip (pass1 a w hJ))
    · exact wp_seq (wp_skip (pass2 a w hJ))
end
end Go.Proofs.YtdbidkfjbhclcaaDoor.labels

namespace Go.Proofs.YtdbidkfjbhclcaaDoor.jsonI
open Go.ChangeShapes Go.WideShapes Go.ChangeAt Go.RowKit Go.WideMaps Go.Maps nodeP nodeQ nodeS ownI jsonP jsonM jsonN jsonO jsonA jsonB errs errIs runesE quoteB jsonF jsonG
set_option linter.unusedSimpArgs false
set_option linter.unusedVariables false

def stk (fr : Nat → Fr) : Nat → List Fr
  | 0 => []
  | d + 1 => fr d :: stk fr d
theorem stk_len (fr : Nat → Fr) (d : Nat) : (stk fr d).length = d := by
  induction d with
  | zero => rfl
  | succ d ih => simp [stk, ih]
theorem stk_upd (fr : Nat → Fr) (x : Fr) (i : Nat) : ∀ d, d ≤ i → stk (updN fr i x) d = stk fr d := by
  intro d
  induction d with
  | zero => intro _; rfl
  | succ d ih => intro h; simp only [stk]; rw [ih (by omega), updN_other _ _ (by omega)]
theorem stk_top (fr : Nat → Fr) (x : Fr) (d : Nat) : stk (updN fr d x) (d + 1) = x :: stk fr d := by
  simp only [stk]; rw [updN_same, stk_upd _ _ _ _ (Nat.le_refl _)]

theorem step_key {u : List UInt8} {n : Nat} {f : Fr} {st : List Fr} {q : Nat × ByteArray × List UInt8} (h : keyR u f.keys = q) : (q.1 ≠ 0 → jsonP.step ⟨.key, u, n, f :: st⟩ = .inr (.err q.1)) ∧ (q.1 = 0 → jsonP.step ⟨.key, u, n, f :: st⟩ = .inl ⟨.value, q.2.2, n, ⟨f.obj, f.keys ++ [q.2.1], f.kids⟩ :: st⟩) := by
  unfold keyR at h
  unfold jsonP.step
  dsimp only
  cases hs : jsonP.stk (bs u) with
  | none => rw [hs] at h; subst h; exact ⟨fun _ => rfl, fun e => by cases e⟩
  | some q =>
    obtain ⟨x, k⟩ := q
    rw [hs] at h
    dsimp only at h ⊢
    by_cases h1 : inK ⟨x.toArray⟩ f.keys = true
    · rw [if_pos h1] at h ⊢; subst h; exact ⟨fun _ => rfl, fun e => by cases e⟩
    rw [if_neg h1] at h ⊢
    by_cases h2 : bs ((bs u).drop k) = [] ∨ hd (bs ((bs u).drop k)) ≠ 58
    · rw [if_pos h2] at h ⊢; subst h; exact ⟨fun _ => rfl, fun e => by cases e⟩
    rw [if_neg h2] at h ⊢; subst h; exact ⟨fun e => absurd rfl e, fun _ => rfl⟩
theorem keyR_len {u : List UInt8} {ks : List ByteArray} (h : (keyR u ks).1 = 0) : (keyR u ks).2.2.length < u.length := by
  unfold keyR at h ⊢
  cases hs : jsonP.stk (bs u) with
  | none => rw [hs] at h; cases h
  | some q =>
    obtain ⟨x, k⟩ := q
    rw [hs] at h
    dsimp only at h ⊢
    by_cases h1 : inK ⟨x.toArray⟩ ks = true
    · rw [if_pos h1] at h; cases h
    rw [if_neg h1] at h ⊢
    by_cases h2 : bs ((bs u).drop k) = [] ∨ hd (bs ((bs u).drop k)) ≠ 58
    · rw [if_pos h2] at h; cases h
    rw [if_neg h2] at h ⊢
    have e1 : bs ((bs u).drop k) ≠ [] := fun e => h2 (.inl e)
    have a1 := bs_len u
    have a2 := bs_len ((bs u).drop k)
    have a3 := tail_len e1
    have a4 := jsonQ.stk_len hs
    rw [List.length_drop] at a2
    dsimp only
    omega

/-- what stays the same through read -/
structure Cx where
  w0 : World
  wC : World
  Bc : Nat
  B : Nat
  rb : Nat
  b0 : Nat
  b1 : Nat
  ad : Nat → Addr
  s : ByteArray
  r0 : Res
structure Cx.Ok (c : Cx) : Prop where
  glb : Glb c.w0 c.wC c.ad c.rb
  rbc : c.rb < c.Bc
  h0 : c.Bc ≤ c.b0 ∧ c.b0 < c.B
  h1 : c.Bc ≤ c.b1 ∧ c.b1 < c.B
  ne : c.b0 ≠ c.b1
  hs : c.s.size ≤ 1000000
  low : ∀ k, k < 5 → gl.getD k 0 < c.Bc

/-- a Node's cells -/
structure Nv where
  k : Int
  m : Int
  t : ByteArray
  a1 : Option Addr
  n1 : Nat
  c1 : Nat
  a2 : Option Addr
  n2 : Nat
  c2 : Nat
def Nv.l (v : Nv) : List Value := [.int .i64 v.k, .int .i64 v.m, .string v.t, .slice v.a1 v.n1 v.c1, .slice v.a2 v.n2 v.c2]
def zN : Nv := ⟨0, 0, ⟨#[]⟩, none, 0, 0, none, 0, 0⟩

structure RI (c : Cx) (lab : Lab) (p n d : Nat) (fr : Nat → Fr) (F : Ix → Thing) (P : Nat → Prop) (v : Nv) (w : World) : Prop where
  mem : RM w c.B c.rb c.s p n d fr F P
  near : Near c.Bc c.rb c.wC w
  res : Whole w c.b0 26 [.int .i64 0, .int .i64 0, .string ⟨#[]⟩, .slice none 0 0, .slice none 0 0]
  don : Whole w c.b1 26 [.int .i64 v.k, .int .i64 v.m, .string v.t, .slice v.a1 v.n1 v.c1, .slice v.a2 v.n2 v.c2]
  pb : p ≤ c.s.size
  db : d ≤ 32
  nb : n ≤ 20000
  kb : ∀ i, i < d → (fr i).keys.length ≤ p ∧ (fr i).kids.length ≤ p
  run : Runs ⟨lab, c.s.data.toList.drop p, n, stk fr d⟩ c.r0

/-- the frame -/
def Fm (c : Cx) (a : Act) : Prop := a.tmps.size = 127 ∧ a.defers = [] ∧ a.tmps.getD 0 undef = .pointer (some ⟨c.rb, 0, none⟩) ∧ a.tmps.getD 2 undef = .pointer (some ⟨c.b0, 0, none⟩) ∧ a.tmps.getD 3 undef = .nilIface ∧ a.tmps.getD 4 undef = .pointer (some ⟨c.b1, 0, none⟩)
theorem arr_range (t : Array Value) (n : Nat) (h : t.size = n) : t = ((List.range n).map (fun i => t.getD i undef)).toArray := by
  apply Array.ext
  · simp [h]
  · intro i h1 h2
    simp [Array.getD, h1]
def lit (c : Cx) (f : Nat → Value) : Array Value := #[.pointer (some ⟨c.rb, 0, none⟩), f 1, .pointer (some ⟨c.b0, 0, none⟩), .nilIface, .pointer (some ⟨c.b1, 0, none⟩), f 5, f 6, f 7, f 8, f 9, f 10, f 11, f 12, f 13, f 14, f 15, f 16, f 17, f 18, f 19, f 20, f 21, f 22, f 23, f 24, f 25, f 26, f 27, f 28, f 29, f 30, f 31, f 32, f 33, f 34, f 35, f 36, f 37, f 38, f 39, f 40, f 41, f 42, f 43, f 44, f 45, f 46, f 47, f 48, f 49, f 50, f 51, f 52, f 53, f 54, f 55, f 56, f 57, f 58, f 59, f 60, f 61, f 62, f 63, f 64, f 65, f 66, f 67, f 68, f 69, f 70, f 71, f 72, f 73, f 74, f 75, f 76, f 77, f 78, f 79, f 80, f 81, f 82, f 83, f 84, f 85, f 86, f 87, f 88, f 89, f 90, f 91, f 92, f 93, f 94, f 95, f 96, f 97, f 98, f 99, f 100, f 101, f 102, f 103, f 104, f 105, f 106, f 107, f 108, f 109, f 110, f 111, f 112, f 113, f 114, f 115, f 116, f 117, f 118, f 119, f 120, f 121, f 122, f 123, f 124, f 125, f 126]
theorem lit_of {c : Cx} {t : Array Value} (h : t.size = 127) (h0 : t.getD 0 undef = .pointer (some ⟨c.rb, 0, none⟩)) (h2 : t.getD 2 undef = .pointer (some ⟨c.b0, 0, none⟩)) (h3 : t.getD 3 undef = .nilIface) (h4 : t.getD 4 undef = .pointer (some ⟨c.b1, 0, none⟩)) : ∃ f, t = lit c f := by
  have e := arr_range t 127 h
  refine ⟨fun i => t.getD i undef, ?_⟩
  unfold lit
  dsimp only
  rw [← h0, ← h2, ← h3, ← h4]
  exact e
theorem Fm_elim {c : Cx} {a : Act} {w : World} {K : Act → World → Prop} (h : Fm c a) (H : ∀ f : Nat → Value, K { tmps := #[.pointer (some ⟨c.rb, 0, none⟩), f 1, .pointer (some ⟨c.b0, 0, none⟩), .nilIface, .pointer (some ⟨c.b1, 0, none⟩), f 5, f 6, f 7, f 8, f 9, f 10, f 11, f 12, f 13, f 14, f 15, f 16, f 17, f 18, f 19, f 20, f 21, f 22, f 23, f 24, f 25, f 26, f 27, f 28, f 29, f 30, f 31, f 32, f 33, f 34, f 35, f 36, f 37, f 38, f 39, f 40, f 41, f 42, f 43, f 44, f 45, f 46, f 47, f 48, f 49, f 50, f 51, f 52, f 53, f 54, f 55, f 56, f 57, f 58, f 59, f 60, f 61, f 62, f 63, f 64, f 65, f 66, f 67, f 68, f 69, f 70, f 71, f 72, f 73, f 74, f 75, f 76, f 77, f 78, f 79, f 80, f 81, f 82, f 83, f 84, f 85, f 86, f 87, f 88, f 89, f 90, f 91, f 92, f 93, f 94, f 95, f 96, f 97, f 98, f 99, f 100, f 101, f 102, f 103, f 104, f 105, f 106, f 107, f 108, f 109, f 110, f 111, f 112, f 113, f 114, f 115, f 116, f 117, f 118, f 119, f 120, f 121, f 122, f 123, f 124, f 125, f 126], defers := [] } w) : K a w := by
  obtain ⟨t, df⟩ := a
  obtain ⟨h1, h2, h3, h4, h5, h6⟩ := h
  obtain ⟨f, rfl⟩ := lit_of h1 h3 h4 h5 h6
  have : df = [] := h2
  subst this
  exact H f
def J0 (c : Cx) (a : Act) (w : World) : Prop := Fm c a ∧ ∃ p n d fr F P v, RI c .value p n d fr F P v w
def J1 (c : Cx) (a : Act) (w : World) : Prop := Fm c a ∧ ∃ x p n d fr F P v, RI c (.follow x) p n d fr F P v w ∧ NodeIn w P x v.l ∧ ∀ i, i < d → (fr i).kids.length + 1 ≤ p
def J2 (c : Cx) (a : Act) (w : World) : Prop := Fm c a ∧ ∃ p n d fr F P v, RI c .key p n (d + 1) fr F P v w ∧ (fr d).obj = true
def JJ (c : Cx) : Nat → Act → World → Prop
  | 0 => J0 c
  | 1 => J1 c
  | _ => J2 c
def mu (c : Cx) (_a : Act) (w : World) : Nat := c.s.size - (intOf ((w.cell? ⟨c.rb, 1, none⟩).getD (.int .i64 0))).toNat
theorem mu_of {c : Cx} {w : World} {p n d : Nat} {fr : Nat → Fr} {F : Ix → Thing} {P : Nat → Prop} (h : RM w c.B c.rb c.s p n d fr F P) (a : Act) : mu c a w = c.s.size - p := by
  unfold mu
  rw [h.field.2.1]
  simp [intOf]
theorem mu_lt {c : Cx} {w w' : World} {p n d p' n' d' : Nat} {fr fr' : Nat → Fr} {F F' : Ix → Thing} {P P' : Nat → Prop} (h : RM w c.B c.rb c.s p n d fr F P) (h' : RM w' c.B c.rb c.s p' n' d' fr' F' P') (hp : p < p') (hl : p' ≤ c.s.size) (a a' : Act) : mu c a' w' < mu c a w := by
  rw [mu_of h, mu_of h']; omega

/-- what read leaves -/
def ReP (c : Cx) (e : Ending) (w' : World) : Prop := ∃ (v : Nv) (er : Nat), e = .returned (.tuple #[.agg #[.int .i64 v.k, .int .i64 v.m, .string v.t, .slice v.a1 v.n1 v.c1, .slice v.a2 v.n2 v.c2], intsC.errV c.ad er]) ∧ Near c.Bc c.rb c.wC w' ∧ match c.r0 with
  | .ok x => er = 0 ∧ ∃ P : Nat → Prop, (∀ b, P b → c.Bc ≤ b ∧ b < w'.heap.size) ∧ NodeIn w' P x v.l
  | .err k => er = k

section
variable {c : Cx} {lab : Lab} {p n d : Nat} {fr : Nat → Fr} {F : Ix → Thing} {P : Nat → Prop} {v : Nv} {w w' : World}
theorem near_sub {B B' rb : Nat} {w w' : World} (h : Near B rb w w') (hB : B' ≤ B) : Near B' rb w w' := ⟨h.os, h.tape, h.output, h.size, fun b h1 h2 => h.block b (by omega) h2⟩
theorem near_whole {B rb b : Nat} {t : TypeId} {l : List Value} (h : Near B rb w w') (hW : Whole w b t l) (hb : b < B) (hne : b ≠ rb) : Whole w' b t l := (h.block b hb hne).trans hW
theorem Cx.Ok.b0n (hc : c.Ok) : c.b0 ≠ c.rb := by have := hc.h0; have := hc.rbc; omega
theorem Cx.Ok.b1n (hc : c.Ok) : c.b1 ≠ c.rb := by have := hc.h1; have := hc.rbc; omega
theorem Cx.Ok.bcb (hc : c.Ok) : c.Bc ≤ c.B := by have := hc.h0; omega
theorem RI.g (h : RI c lab p n d fr F P v w) (hc : c.Ok) : Glb c.w0 w c.ad c.rb := hc.glb.near h.near hc.rbc
/-- the end of a call: what a result was written to -/
theorem fin_near (hc : c.Ok) (hN : Near c.Bc c.rb c.wC w) (x0 x1 x2 x3 x4 : Value) : Near c.Bc c.rb c.wC (((((w.setCell ⟨c.b0, 0, none⟩ x0).setCell ⟨c.b0, 1, none⟩ x1).setCell ⟨c.b0, 2, none⟩ x2).setCell ⟨c.b0, 3, none⟩ x3).setCell ⟨c.b0, 4, none⟩ x4) :=
  ((((hN.setB hc.h0.1 0 x0).setB hc.h0.1 1 x1).setB hc.h0.1 2 x2).setB hc.h0.1 3 x3).setB hc.h0.1 4 x4
/-- 'done' is written -/
theorem put_done {n1 d1 p1 : Nat} {T : TypeId} {l : List Value} {a0 a1 a2 a3 a4 : Value} (hc : c.Ok) (hM : RM w c.B c.rb c.s p1 n1 d1 fr F P) (hN : Near c.Bc c.rb c.wC w) (hR : Whole w c.b0 T l) (hD : Whole w c.b1 T [a0, a1, a2, a3, a4]) (x0 x1 x2 x3 x4 : Value) :
    RM (((((w.setCell ⟨c.b1, 0, none⟩ x0).setCell ⟨c.b1, 1, none⟩ x1).setCell ⟨c.b1, 2, none⟩ x2).setCell ⟨c.b1, 3, none⟩ x3).setCell ⟨c.b1, 4, none⟩ x4) c.B c.rb c.s p1 n1 d1 fr F P ∧
    Near c.Bc c.rb c.wC (((((w.setCell ⟨c.b1, 0, none⟩ x0).setCell ⟨c.b1, 1, none⟩ x1).setCell ⟨c.b1, 2, none⟩ x2).setCell ⟨c.b1, 3, none⟩ x3).setCell ⟨c.b1, 4, none⟩ x4) ∧
    Whole (((((w.setCell ⟨c.b1, 0, none⟩ x0).setCell ⟨c.b1, 1, none⟩ x1).setCell ⟨c.b1, 2, none⟩ x2).setCell ⟨c.b1, 3, none⟩ x3).setCell ⟨c.b1, 4, none⟩ x4) c.b0 T l ∧
    Whole (((((w.setCell ⟨c.b1, 0, none⟩ x0).setCell ⟨c.b1, 1, none⟩ x1).setCell ⟨c.b1, 2, none⟩ x2).setCell ⟨c.b1, 3, none⟩ x3).setCell ⟨c.b1, 4, none⟩ x4) c.b1 T [x0, x1, x2, x3, x4] ∧
    ∀ x cs, NodeIn w P x cs → NodeIn (((((w.setCell ⟨c.b1, 0, none⟩ x0).setCell ⟨c.b1, 1, none⟩ x1).setCell ⟨c.b1, 2, none⟩ x2).setCell ⟨c.b1, 3, none⟩ x3).setCell ⟨c.b1, 4, none⟩ x4) P x cs := by
  have hG := set5_grown w c.b1 x0 x1 x2 x3 x4
  have hb := hc.h1
  have hn := hc.b1n
  exact ⟨hM.grown hG (fun b e => by have := Option.some.inj e; exact ⟨by omega, by omega⟩), ((((hN.setB hb.1 0 x0).setB hb.1 1 x1).setB hb.1 2 x2).setB hb.1 3 x3).setB hb.1 4 x4, hR.kept hG (fun e => hc.ne (Option.some.inj e).symm), set5_whole hD x0 x1 x2 x3 x4,
    fun x cs hx => hx.keep (fun _ h => h) (fun b hP => hG.block b (hM.sealed' b hP).2.1 (fun e => by have := (hM.sealed' b hP).1; have := Option.some.inj e; omega))⟩
theorem drew_whole {b : Nat} {t : TypeId} {l : List Value} (h : Whole w b t l) : Whole w.drew b t l := h.below (Below.refl _ _).drew h.lt
theorem drew_near {B rb : Nat} {w0 : World} (h : Near B rb w0 w) (hB : B ≤ w.heap.size) : Near B rb w0 w.drew := h.trans (Near.below ((Below.refl _ _).drew))
end
end Go.Proofs.YtdbidkfjbhclcaaDoor.jsonI

