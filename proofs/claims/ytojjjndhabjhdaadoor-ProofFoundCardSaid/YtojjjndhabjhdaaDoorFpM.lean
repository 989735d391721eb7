/-
  Slices of integers and of clauses among the arguments.
  Slices that may be appended to; contracts of the reference's abs, Less, In, SameInts.
  Contracts of the reference's Put, Norm, Right.
  Clauses that are appended; the law ProofMore.
-/
import Derived.Test.YtojjjndhabjhdaaDoorFdM
import Derived.Test.YtojjjndhabjhdaaDoorProg
import Derived.ChangeSlices
import Derived.Test.YtojjjndhabjhdaaDoorFoM
import Derived.Test.YtojjjndhabjhdaaDoorFlM
namespace Go.Proofs.YtojjjndhabjhdaaDoor.clsArg
open Go.ChangeShapes Go.WideShapes Go.ChangeAt Go.RowKit cls
set_option linter.unusedSimpArgs false
set_option linter.unusedVariables false

theorem in64_of {z : Int} (h : (Lit.int .i64 z).wf = true) : In64 z := by
  have h1 : IntKind.i64.min = -9223372036854775808 := by decide
  have h2 : IntKind.i64.max = 9223372036854775807 := by decide
  simp [Lit.wf] at h
  unfold In64
  omega
theorem cell_lt {w : World} {a : Addr} {v : Value} (h : w.cell? a = some v) : a.block < w.heap.size := by
  unfold World.cell? at h
  by_cases hb : a.block < w.heap.size
  · exact hb
  · rw [Array.getElem?_eq_none (by omega)] at h; simp at h
theorem add1 (b o n : Nat) : (⟨b, o, none⟩ : Addr).add n = ⟨b, o + n, none⟩ := by unfold Addr.add; split <;> simp_all

theorem ints_of {H : Type} {enc : TypeId × Value → H} {w : World} {fuel : Nat} {t : TypeId} (ht : Tryd.prog.underlying t = some (.slice 3)) {v : Value} {x : DataW H × List MemPlace} (hf : DataW.trod enc Tryd.prog w 0 (fun _ => true) true fuel t [v] = some x) : ∃ l, IntsAt w w.heap.size v l := by
  rcases open_ints ht Tryd.underlying3 (by kernel_rfl) hf with ⟨hcs, hx⟩ | ⟨a, len', cap', zs, hcs, _, hl, hm, hz, hx, hcell, hws⟩
  · simp at hcs
    subst hcs
    exact ⟨[], none, 0, 0, 0, rfl, Nat.zero_le _, fun h => absurd rfl h, fun i hi => absurd hi (Nat.not_lt_zero _), by simp⟩
  · simp at hcs
    subst hcs
    simp only [if_true] at hz
    have hl' : (zs.take len').length = len' := by rw [List.length_take]; omega
    by_cases h0 : len' = 0
    · subst h0
      exact ⟨[], some a, cap', 0, 0, rfl, Nat.zero_le _, fun h => absurd rfl h, fun i hi => absurd hi (Nat.not_lt_zero _), by simp⟩
    · obtain ⟨b, off, spot⟩ := a
      have hspot : spot = none := by simpa [Addr.add] using World.cell?_spot (hcell 0 (by omega))
      subst hspot
      have hcell' : ∀ i, i < len' → w.cell? ⟨b, off + i, none⟩ = some (.int .i64 ((zs.take len').getD i 0)) := by
        intro i hi
        have := hcell i (by omega)
        rw [add1] at this
        rw [this]
        simp [List.getD, hi]
      refine ⟨zs.take len', some ⟨b, off, none⟩, cap', b, off, by rw [hl'], by rw [hl']; omega, fun _ => ⟨rfl, cell_lt (hcell' 0 (by omega))⟩, fun i hi => hcell' i (by omega), fun s hs => in64_of (hws s (List.mem_of_mem_take hs))⟩

theorem choose_list {α β : Type} [Inhabited α] [Inhabited β] (n : Nat) (p : Nat → α → β → Prop) (h : ∀ i, i < n → ∃ a b, p i a b) : ∃ (l : List α) (f : Nat → β), l.length = n ∧ ∀ i (hi : i < l.length), p i l[i] (f i) := by
  induction n with
  | zero => exact ⟨[], fun _ => default, rfl, fun i hi => absurd hi (Nat.not_lt_zero _)⟩
  | succ n ih =>
    obtain ⟨l, f, hl, hp⟩ := ih (fun i hi => h i (by omega))
    obtain ⟨a, b, hab⟩ := h n (by omega)
    refine ⟨l ++ [a], fun i => if i = n then b else f i, by simp [hl], fun i hi => ?_⟩
    by_cases e : i = n
    · subst e; simpa [hl, List.getElem_append] using hab
    · have hi' : i < l.length := by simp at hi; omega
      simp only [if_neg e, List.getElem_append_left hi']
      exact hp i hi'
instance : Inhabited Value := ⟨undef⟩
theorem cells_one {w : World} {a : Addr} {l : List Value} (h : w.cells? 0 a 1 = some l) : ∃ u, l = [u] ∧ w.cell? a = some u := by
  unfold World.cells? at h
  rw [if_pos (Nat.zero_le _)] at h
  have hl : l.length = 1 := by simpa using mapM_some_length h
  obtain ⟨u, rfl⟩ := List.length_eq_one_iff.1 hl
  refine ⟨u, rfl, ?_⟩
  have := mapM_some_get h 0 0 (by simp)
  have e : a.add 0 = a := by cases a; unfold Addr.add; split <;> simp_all
  rw [e] at this; simpa using this

theorem cls_of {H : Type} {enc : TypeId × Value → H} {w : World} {fuel : Nat} {v : Value} {x : DataW H × List MemPlace}
    (hf : DataW.trod enc Tryd.prog w 0 (fun _ => true) true fuel 22 [v] = some x) : ∃ cs, ClsAt w w.heap.size v cs := by
  rcases DataW.trod_slice Tryd.underlying22 hf with ⟨hcs, _⟩ | ⟨a, len, cap, elems, rest, n, rfl, hcs, _, _, hl, hm, hel, hg, _⟩
  · simp at hcs
    subst hcs
    exact ⟨[], none, 0, 0, 0, fun _ => undef, rfl, Nat.zero_le _, fun h => absurd rfl h, fun i hi => absurd hi (Nat.not_lt_zero _), fun i hi => absurd hi (Nat.not_lt_zero _)⟩
  · simp at hcs
    subst hcs
    by_cases h0 : len = 0
    · subst h0
      exact ⟨[], some a, cap, 0, 0, fun _ => undef, rfl, Nat.zero_le _, fun h => absurd rfl h, fun i hi => absurd hi (Nat.not_lt_zero _), fun i hi => absurd hi (Nat.not_lt_zero _)⟩
    · rw [show Tryd.prog.cellsOf 41 = 1 from by kernel_rfl] at hg
      have hall : ∀ i, i < len → ∃ (c : List Int) (u : Value), w.cell? (a.add (i * 1)) = some u ∧ IntsAt w w.heap.size u c := by
        intro i hi
        have h1 := hg i hi
        rw [List.getElem?_eq_getElem (by omega)] at h1
        obtain ⟨l, h2, h3⟩ := Option.bind_eq_some_iff.1 h1
        obtain ⟨u, rfl, hu⟩ := cells_one h2
        obtain ⟨c, hc⟩ := ints_of Tryd.underlying41 h3
        exact ⟨c, u, hu, hc⟩
      obtain ⟨cs, vs, hcl, hp⟩ := choose_list len (fun i (c : List Int) (u : Value) => w.cell? (a.add (i * 1)) = some u ∧ IntsAt w w.heap.size u c) hall
      obtain ⟨b, off, spot⟩ := a
      have hspot : spot = none := by simpa [Addr.add] using World.cell?_spot (hp 0 (by omega)).1
      subst hspot
      have hcell : ∀ i, i < len → w.cell? ⟨b, off + i, none⟩ = some (vs i) := fun i hi => by
        have := (hp i (by omega)).1
        rw [add1, Nat.mul_one] at this; exact this
      refine ⟨cs, some ⟨b, off, none⟩, cap, b, off, vs, by rw [hcl], by omega, fun _ => ⟨rfl, cell_lt (hcell 0 (by omega))⟩, fun i hi => hcell i (by omega), fun i hi => ?_⟩
      have := (hp i hi).2
      rw [List.getD_eq_getElem?_getD, List.getElem?_eq_getElem hi]; exact this

end Go.Proofs.YtojjjndhabjhdaaDoor.clsArg
namespace Go.Proofs.YtojjjndhabjhdaaDoor.proofS
open Go.ChangeShapes Go.WideShapes Go.ChangeAt Go.RowKit proofP proofQ proofR owns proofA proofM proofN proofO cls
set_option linter.unusedSimpArgs false
set_option linter.unusedVariables false

theorem infoIS : (Tryd.prog.info? 3).map (fun i => (i.zero, i.size, i.bytes)) = some (some (.int .i64 0), 1, 8) := by kernel_rfl
/-- a slice whose room is known to be enough -/
def Cap (v : Value) (n : Nat) : Prop := ∃ ao cap, v = .slice ao n cap ∧ n ≤ cap ∧ cap ≤ maxLen ∧ (ao = none → n = 0 ∧ cap = 0)
theorem _root_.Go.Proofs.YtojjjndhabjhdaaDoor.proofT.clsadd (b o n : Nat) : (⟨b, o, none⟩ : Addr).add n = ⟨b, o + n, none⟩ := by unfold Addr.add; split <;> simp_all
theorem cap_row {w : World} {B : Nat} {e : TypeId} {v : Value} {n : Nat} {xs : List Value} (h : w.ownsRow B e 1 v n xs) : Cap v n := by
  rcases h.2 with ⟨hv, h0⟩ | ⟨g, cap, cur, hv, hb, hg, hn', hm, _⟩
  · exact ⟨none, 0, by rw [hv, h0], by omega, by simp [maxLen], fun _ => ⟨h0, rfl⟩⟩
  · exact ⟨_, cap, hv, hn', hm, fun h => by cases h⟩

section
variable {P : Program} (w : World)
/-- append of a slice that may be nil -/
theorem wpList_append_opt {ops : Array Oper} {rest : List Oper} {o : Oper} {a : Act} {Q : Exit → Act → World → Prop} (hgd : o.guard = none) (s x : Operand) (t : TypeId)
    (ho : o.op = .call { callee := .builtin .append, args := #[s, x], argTypes := #[t, t] })
    (base : Nat) (e : TypeId) (i : TypeInfo) (z : Value) (bytes : Nat) (ht : P.underlying t = some (.slice e)) (hi : P.info? e = some i) (hz : i.zero = some z)
    (hsize : i.size = 1) (hby : i.bytes = bytes) (hzs : z.cells.size = 1)
    (v : Value) (n : Nat) (xs : List Value) (hs : a.eval s = v) (hown : w.ownsRow base e 1 v n xs)
    (ao : Option Addr) (m c : Nat) (news : List Value) (hx : a.eval x = .slice ao m c) (hnone : ao = none → m = 0 ∧ c = 0) (hl : news.length = m) (hnews : ∀ ad, ao = some ad → ∀ j u, news[j]? = some u → w.cell? (ad.add j) = some u) (h1 : ∀ u ∈ news, u.oneCell' = true)
    (h63 : n + m ≤ maxLen) (hbytes : (n + m) * bytes ≤ 140737488355328) (hbase : base ≤ w.heap.size)
    (h : ∀ v' w', w'.ownsRow base e 1 v' (n + m) (xs ++ news) → w.grownBy w' v.ownBlock → (v'.ownBlock = v.ownBlock ∨ v'.ownBlock = some w.heap.size) → wpList P ops Q rest (a.put o.dst v') w') :
    wpList P ops Q (o :: rest) a w := by
  cases ao with
  | some ad => exact wpList_append_own_at w hgd s x t ho base e i z 1 bytes ht hi hz hsize hby hzs (by omega) v n xs hs hown ad m c news hx (by omega) (hnews ad rfl) h1 h63 hbytes hbase (fun v' w' a1 a2 _ a3 => h v' w' a1 a2 a3)
  | none =>
    obtain ⟨rfl, rfl⟩ := hnone rfl
    obtain rfl : news = [] := List.length_eq_zero_iff.1 hl
    refine wpList_plain hgd fun K hK' => ?_
    have hrun := run_append_owned_none (P := P) w base t o.type e i 1 ht hi v n xs hown
    unfold Oper.wp
    simp [execOp, ho, resolve, invoke, builtin, hs, hx, hrun, Result.andThen]
    exact hK' _ _ (h v w (by simpa using hown) ⟨rfl, rfl, rfl, Nat.le_refl _, fun _ _ _ => rfl⟩ (.inl rfl))
end

/-- a nil slice has no room -/
def Nilv (v : Value) : Prop := ∀ n c, v = .slice none n c → n = 0 ∧ c = 0
theorem Nilv.some (ad : Addr) (n c : Nat) : Nilv (.slice (some ad) n c) := fun _ _ h => by cases h
/-- a row of integers of the call's own -/
def IntsR (w : World) (base : Nat) (v : Value) (l : List Int) : Prop := w.ownsRow base 3 1 v l.length (l.map (Value.int .i64))
theorem IntsR.alloc {w : World} {base : Nat} {v : Value} {l : List Int} (h : IntsR w base v l) (o : Obj) : IntsR (w.alloc o) base v l := World.ownsRow.alloc h o
theorem IntsR.at {w : World} {base : Nat} {v : Value} {l : List Int} (h : IntsR w base v l) (hs : ∀ x ∈ l, In64 x) : IntsAt w w.heap.size v l := IntsAt.ofRow h hs
theorem IntsR.empty (w : World) : IntsR (w.alloc (.cells #[] 3)) w.heap.size (.slice (some ⟨w.heap.size, 0, none⟩) 0 0) [] :=
  ⟨rfl, .inr ⟨w.heap.size, 0, #[], rfl, Nat.le_refl _, heap_alloc_new w _, Nat.le_refl _, by simp [maxLen], rfl, rfl⟩⟩
theorem ints_new (w : World) (x : Int) (hx : In64 x) : IntsAt (w.alloc (.cells #[.int .i64 x] 3)) (w.alloc (.cells #[.int .i64 x] 3)).heap.size (.slice (some ⟨w.heap.size, 0, none⟩) 1 1) [x] :=
  ints_block (l := [x]) (Whole.new w 3 ([x].map (Value.int .i64))) (by simp) (by unfold maxLen; simp) (by intro y hy; simp at hy; rw [hy]; exact hx) 1
section
variable (w : World)
theorem wpList_append_ints {ops : Array Oper} {rest : List Oper} {o : Oper} {a : Act} {Q : Exit → Act → World → Prop} (hgd : o.guard = none) (s x : Operand) (t : TypeId)
    (ho : o.op = .call { callee := .builtin .append, args := #[s, x], argTypes := #[t, t] }) (ht : Tryd.prog.underlying t = some (.slice 3))
    (base : Nat) (v xv : Value) (l m : List Int) (hs : a.eval s = v) (hr : IntsR w base v l) (hx : a.eval x = xv) (hxv : IntsAt w w.heap.size xv m) (hnil : Nilv xv)
    (h1 : l.length ≤ 1000000) (h2 : m.length ≤ 1000000) (hbase : base ≤ w.heap.size)
    (h : ∀ ao N c w', IntsR w' base (.slice ao N c) (l ++ m) → Below base w w' → N ≤ 2000000 → wpList Tryd.prog ops Q rest (a.put o.dst (.slice ao N c)) w') :
    wpList Tryd.prog ops Q (o :: rest) a w := by
  obtain ⟨i0, hi0, hz0, hz1, hz2⟩ := info_parts infoIS
  obtain ⟨ao, cap, b, off, rfl, _, ha, hc, hn⟩ := hxv
  have hr' : w.ownsRow base 3 1 v l.length (l.map (Value.int .i64)) := hr
  refine wpList_append_opt w hgd s x t ho base 3 i0 (.int .i64 0) 8 ht hi0 hz0 hz1 hz2 rfl v l.length (l.map (Value.int .i64)) hs hr' ao m.length cap (m.map (Value.int .i64)) hx (fun h0 => ?_) (by simp) ?_ ?_ (by unfold maxLen; omega) (by omega) hbase ?_
  · subst h0; exact hnil _ _ rfl
  · intro ad had j u hu
    rw [List.getElem?_map] at hu
    obtain ⟨z, hz, rfl⟩ := Option.map_eq_some_iff.1 hu
    have hj := (List.getElem?_eq_some_iff.1 hz).1
    obtain ⟨rfl, _⟩ := ha (by intro h0; rw [h0] at hj; simp at hj)
    cases had
    rw [proofT.clsadd, hc j hj, List.getD_eq_getElem?_getD, hz]; rfl
  · intro u hu
    obtain ⟨j, hj, rfl⟩ := List.mem_map.1 hu
    rfl
  · intro v' w' ho' hg' _
    have hb : Below base w w' := (Below.refl base w).grown hg' hbase (fun j hj => (hr'.lt j hj).1)
    obtain ⟨a3, c3, hv3, _, _, _⟩ := cap_row ho'
    subst hv3
    refine h a3 _ c3 w' ?_ hb (by omega)
    unfold IntsR
    rw [List.length_append, List.map_append]
    exact ho'
end

end Go.Proofs.YtojjjndhabjhdaaDoor.proofS
namespace Go.Proofs.YtojjjndhabjhdaaDoor.proofT
open Go.ChangeShapes Go.WideShapes Go.ChangeAt Go.RowKit proofP proofQ proofR owns proofA proofI proofM proofN proofO proofS cls
set_option linter.unusedSimpArgs false
set_option linter.unusedVariables false

/-- literals, in a slice that is not nil and may be cut and appended -/
def IntsC (w : World) (B : Nat) (v : Value) (l : List Int) : Prop := ∃ b off cap, v = .slice (some ⟨b, off, none⟩) l.length cap ∧ l.length ≤ cap ∧ cap ≤ maxLen ∧ b < B ∧ (∀ i, i < l.length → w.cell? ⟨b, off + i, none⟩ = some (.int .i64 (l.getD i 0))) ∧ (l = [] → cap = 0) ∧ ∀ y ∈ l, lit y
theorem IntsC.keep {w w' : World} {B : Nat} {v : Value} {l : List Int} (h : IntsC w B v l) (hb : Below B w w') : IntsC w' B v l := by
  obtain ⟨b, off, cap, rfl, h1, h2, h3, h4, h5, h6⟩ := h
  exact ⟨b, off, cap, rfl, h1, h2, h3, fun i hi => by rw [hb.cell (show (⟨b, off + i, none⟩ : Addr).block < B from h3)]; exact h4 i hi, h5, h6⟩
theorem IntsC.mono {w : World} {B B' : Nat} (hB : B ≤ B') {v : Value} {l : List Int} (h : IntsC w B v l) : IntsC w B' v l := by
  obtain ⟨b, off, cap, rfl, h1, h2, h3, h4, h5, h6⟩ := h
  exact ⟨b, off, cap, rfl, h1, h2, by omega, h4, h5, h6⟩
theorem lit64 {x : Int} (h : lit x) : In64 x := by unfold lit at h; unfold In64; omega
theorem IntsC.at {w : World} {B : Nat} {v : Value} {l : List Int} (h : IntsC w B v l) : IntsAt w B v l := by
  obtain ⟨b, off, cap, rfl, h1, h2, h3, h4, h5, h6⟩ := h
  exact ⟨_, cap, b, off, rfl, by omega, fun _ => ⟨rfl, h3⟩, h4, fun y hy => lit64 (h6 y hy)⟩
theorem IntsC.ofRow {w : World} {B : Nat} {e : TypeId} {v : Value} {l : List Int} (h : w.ownsRow B e 1 v l.length (l.map (Value.int .i64))) (hn : l ≠ []) (hs : ∀ x ∈ l, lit x) : IntsC w w.heap.size v l := by
  have hpos : 0 < l.length := List.length_pos_iff.2 hn
  obtain ⟨g, cap, rfl, h1, h2, h3, h4⟩ := own_form h hpos
  refine ⟨g, 0, cap, rfl, h3, h4, h2, fun i hi => ?_, fun h => absurd h hn, hs⟩
  rw [Nat.zero_add, World.ownsRow.cellAt h i (by omega), List.getElem?_map, List.getElem?_eq_getElem hi, List.getD_eq_getElem?_getD, List.getElem?_eq_getElem hi]; rfl
theorem IntsC.empty (w : World) (t : TypeId) : IntsC (w.alloc (.cells #[] t)) (w.heap.size + 1) (.slice (some ⟨w.heap.size, 0, none⟩) 0 0) [] :=
  ⟨w.heap.size, 0, 0, rfl, Nat.le_refl _, by simp [maxLen], by omega, fun i hi => absurd hi (Nat.not_lt_zero _), fun _ => rfl, by simp⟩
theorem own_empty (w : World) (t : TypeId) : (w.alloc (.cells #[] t)).ownsRow w.heap.size t 1 (.slice (some ⟨w.heap.size, 0, none⟩) 0 0) 0 [] :=
  ⟨rfl, .inr ⟨w.heap.size, 0, #[], rfl, Nat.le_refl _, heap_alloc_new w _, Nat.le_refl _, by simp [maxLen], rfl, rfl⟩⟩

def PutP (l : List Int) (x : Int) (w : World) (e : Ending) (w' : World) : Prop := ∃ v, e = .returned v ∧ IntsC w' w'.heap.size v (put l x) ∧ Below w.heap.size w w'
def normL (c : List Int) : List Int := c.foldl put []
def NormP (c : List Int) (w : World) (e : Ending) (w' : World) : Prop :=
  ((∀ x ∈ c, lit x) ∧ ∃ v, e = .returned (.tuple #[v, .bool true]) ∧ IntsC w' w'.heap.size v (normL c) ∧ Below w.heap.size w w') ∨ ((∃ x ∈ c, ¬ lit x) ∧ e = .returned (.tuple #[.slice none 0 0, .bool false]) ∧ Below w.heap.size w w')
def BoolP (w : World) (e : Ending) (w' : World) : Prop := ∃ b : Bool, e = .returned (.bool b) ∧ Below w.heap.size w w'
end Go.Proofs.YtojjjndhabjhdaaDoor.proofT
namespace Go.Proofs.YtojjjndhabjhdaaDoor.proofU
open Go.ChangeShapes Go.WideShapes Go.ChangeAt Go.RowKit proofP proofQ proofR owns proofA proofI proofM proofN proofO proofS proofT cls
set_option linter.unusedSimpArgs false
set_option linter.unusedVariables false

theorem infoC : (Tryd.prog.info? 41).map (fun i => (i.zero, i.size, i.bytes)) = some (some (.slice none 0 0), 1, 24) := by kernel_rfl
def valsOf (vs : Nat → Value) (m : Nat) : List Value := (List.range m).map vs
/-- a row of clauses of the call's own, whose clauses lie elsewhere -/
def ClsR (w : World) (B0 base : Nat) (v : Value) (cl : List (List Int)) : Prop := ∃ vl, w.ownsRow base 41 1 v cl.length vl ∧ ∀ i, i < cl.length → IntsAt w B0 (vl.getD i undef) (cl.getD i [])
theorem ClsR.at {w : World} {B0 base : Nat} {v : Value} {cl : List (List Int)} (h : ClsR w B0 base v cl) (hB : B0 ≤ w.heap.size) : ClsAt w w.heap.size v cl := by
  obtain ⟨vl, h1, h2⟩ := h
  exact ClsAt.ofRow h1 (fun i hi => (h2 i hi).mono hB)
theorem ClsR.empty (w : World) (B0 : Nat) : ClsR (w.alloc (.cells #[] 41)) B0 w.heap.size (.slice (some ⟨w.heap.size, 0, none⟩) 0 0) [] := ⟨[], own_empty w _, fun i hi => absurd hi (Nat.not_lt_zero _)⟩
theorem ClsR.alloc {w : World} {B0 base : Nat} {v : Value} {cl : List (List Int)} (h : ClsR w B0 base v cl) (hB : B0 ≤ w.heap.size) (o : Obj) : ClsR (w.alloc o) B0 base v cl := by
  obtain ⟨vl, h1, h2⟩ := h
  exact ⟨vl, h1.alloc o, fun i hi => (h2 i hi).keep ((Below.refl _ _).alloc hB o)⟩
theorem ints_one {w : World} {B : Nat} {v : Value} {l : List Int} (h : IntsAt w B v l) : v.oneCell' = true := by
  obtain ⟨ao, cap, b, off, rfl, _⟩ := h; rfl

section
variable (w : World)
end

end Go.Proofs.YtojjjndhabjhdaaDoor.proofU
