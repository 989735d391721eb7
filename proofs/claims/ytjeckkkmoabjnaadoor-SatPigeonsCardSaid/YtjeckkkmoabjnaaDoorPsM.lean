/-
  Slices that may be appended to; contracts of the reference's abs, Less, In, SameInts.
  Contracts of the reference's Put, Norm, Right.
  Clauses that are appended; the law ProofMore.
-/
import Derived.Test.YtjeckkkmoabjnaaDoorPrM
import Derived.ChangeSlices
namespace Go.Proofs.YtjeckkkmoabjnaaDoor.proofS
open Go.ChangeShapes Go.WideShapes Go.ChangeAt Go.RowKit proofP proofQ proofR owns proofN proofO cls
set_option linter.unusedSimpArgs false
set_option linter.unusedVariables false

theorem ret_int {k : IntKind} {a b : Int} (h : a = b) : Ending.returned (.int k a) = .returned (.int k b) := by rw [h]
theorem infoIS : (Tryd.prog.info? 3).map (fun i => (i.zero, i.size, i.bytes)) = some (some (.int .i64 0), 1, 8) := by kernel_rfl
/-- a slice whose room is known to be enough -/
def Cap (v : Value) (n : Nat) : Prop := ∃ ao cap, v = .slice ao n cap ∧ n ≤ cap ∧ cap ≤ maxLen ∧ (ao = none → n = 0 ∧ cap = 0)
theorem _root_.Go.Proofs.YtjeckkkmoabjnaaDoor.proofT.clsadd (b o n : Nat) : (⟨b, o, none⟩ : Addr).add n = ⟨b, o + n, none⟩ := by unfold Addr.add; split <;> simp_all
theorem cap_row {w : World} {B : Nat} {e : TypeId} {v : Value} {n : Nat} {xs : List Value} (h : w.ownsRow B e 1 v n xs) : Cap v n := by
  rcases h.2 with ⟨hv, h0⟩ | ⟨g, cap, cur, hv, hb, hg, hn', hm, _⟩
  · exact ⟨none, 0, by rw [hv, h0], by omega, by simp [maxLen], fun _ => ⟨h0, rfl⟩⟩
  · exact ⟨_, cap, hv, hn', hm, fun h => by cases h⟩

section
variable {P : Program} (w : World)
/-- append of a slice that may be nil -/
theorem wpList_append_opt {ops : Array Oper} {rest : List Oper} {o : Oper} {a : Act} {Q : Exit → Act → World → Prop} (hgd : o.guard = none) (s x : Operand) (t : TypeId)
    (ho : o.op = .call { callee := .builtin .append, args := #[s, x], argTypes := #[t, t] })
    (base : Nat) (e : TypeId) (i : TypeInfo) (z : Value) (bytes : Nat) (ht : P.underlying t = some (.slice e)) (hi : P.info? e = some i) (hz : i.zero = some z)
    (hsize : i.size = 1) (hby : i.bytes = bytes) (hzs : z.cells.size = 1)
    (v : Value) (n : Nat) (xs : List Value) (hs : a.eval s = v) (hown : w.ownsRow base e 1 v n xs)
    (ao : Option Addr) (m c : Nat) (news : List Value) (hx : a.eval x = .slice ao m c) (hnone : ao = none → m = 0 ∧ c = 0) (hl : news.length = m) (hnews : ∀ ad, ao = some ad → ∀ j u, news[j]? = some u → w.cell? (ad.add j) = some u) (h1 : ∀ u ∈ news, u.oneCell' = true)
    (h63 : n + m ≤ maxLen) (hbytes : (n + m) * bytes ≤ 140737488355328) (hbase : base ≤ w.heap.size)
    (h : ∀ v' w', w'.ownsRow base e 1 v' (n + m) (xs ++ news) → w.grownBy w' v.ownBlock → (v'.ownBlock = v.ownBlock ∨ v'.ownBlock = some w.heap.size) → wpList P ops Q rest (a.put o.dst v') w') :
    wpList P ops Q (o :: rest) a w := by
  cases ao with
  | some ad => exact wpList_append_own_at w hgd s x t ho base e i z 1 bytes ht hi hz hsize hby hzs (by omega) v n xs hs hown ad m c news hx (by omega) (hnews ad rfl) h1 h63 hbytes hbase (fun v' w' a1 a2 _ a3 => h v' w' a1 a2 a3)
  | none =>
    obtain ⟨rfl, rfl⟩ := hnone rfl
    obtain rfl : news = [] := List.length_eq_zero_iff.1 hl
    refine wpList_plain hgd fun K hK' => ?_
    have hrun := run_append_owned_none (P := P) w base t o.type e i 1 ht hi v n xs hown
    unfold Oper.wp
    simp [execOp, ho, resolve, invoke, builtin, hs, hx, hrun, Result.andThen]
    exact hK' _ _ (h v w (by simpa using hown) ⟨rfl, rfl, rfl, Nat.le_refl _, fun _ _ _ => rfl⟩ (.inl rfl))
end

/-- a nil slice has no room -/
def Nilv (v : Value) : Prop := ∀ n c, v = .slice none n c → n = 0 ∧ c = 0
theorem Nilv.some (ad : Addr) (n c : Nat) : Nilv (.slice (some ad) n c) := fun _ _ h => by cases h
/-- a row of integers of the call's own -/
def IntsR (w : World) (base : Nat) (v : Value) (l : List Int) : Prop := w.ownsRow base 3 1 v l.length (l.map (Value.int .i64))
theorem IntsR.alloc {w : World} {base : Nat} {v : Value} {l : List Int} (h : IntsR w base v l) (o : Obj) : IntsR (w.alloc o) base v l := World.ownsRow.alloc h o
theorem IntsR.at {w : World} {base : Nat} {v : Value} {l : List Int} (h : IntsR w base v l) (hs : ∀ x ∈ l, In64 x) : IntsAt w w.heap.size v l := IntsAt.ofRow h hs
theorem IntsR.empty (w : World) : IntsR (w.alloc (.cells #[] 3)) w.heap.size (.slice (some ⟨w.heap.size, 0, none⟩) 0 0) [] :=
  ⟨rfl, .inr ⟨w.heap.size, 0, #[], rfl, Nat.le_refl _, heap_alloc_new w _, Nat.le_refl _, by simp [maxLen], rfl, rfl⟩⟩
theorem ints_new (w : World) (x : Int) (hx : In64 x) : IntsAt (w.alloc (.cells #[.int .i64 x] 3)) (w.alloc (.cells #[.int .i64 x] 3)).heap.size (.slice (some ⟨w.heap.size, 0, none⟩) 1 1) [x] :=
  ints_block (l := [x]) (Whole.new w 3 ([x].map (Value.int .i64))) (by simp) (by unfold maxLen; simp) (by intro y hy; simp at hy; rw [hy]; exact hx) 1
theorem ints_take {w : World} {B b off n cap : Nat} {l : List Int} (h : IntsAt w B (.slice (some ⟨b, off, none⟩) n cap) l) (k : Nat) (hk : k ≤ l.length) (cap' : Nat) : IntsAt w B (.slice (some ⟨b, off, none⟩) k cap') (l.take k) := by
  obtain ⟨ao, cap, b', off', hv, hm, ha, hc, hs⟩ := h
  have hl : (l.take k).length = k := by rw [List.length_take]; omega
  refine ⟨_, cap', b, off, by rw [hl], by rw [hl]; omega, fun hne => ⟨rfl, ?_⟩, fun i hi => ?_, fun x hx => hs x (List.mem_of_mem_take hx)⟩
  · have := ha (by intro h0; rw [h0] at hne; simp at hne)
    cases hv; cases this.1; exact this.2
  · rw [hl] at hi
    have := ha (by intro h0; rw [h0] at hk; simp at hk; omega)
    cases hv; cases this.1
    rw [hc i (by omega), List.getD_eq_getElem?_getD, List.getD_eq_getElem?_getD, List.getElem?_take, if_pos hi]
theorem ints_drop {w : World} {B b off n cap : Nat} {l : List Int} (h : IntsAt w B (.slice (some ⟨b, off, none⟩) n cap) l) (k : Nat) (hk : k ≤ l.length) (n' cap' : Nat) (hn : n' = l.length - k) : IntsAt w B (.slice (some ⟨b, off + k, none⟩) n' cap') (l.drop k) := by
  subst hn
  obtain ⟨ao, cap, b', off', hv, hm, ha, hc, hs⟩ := h
  have hl : (l.drop k).length = l.length - k := by rw [List.length_drop]
  refine ⟨_, cap', b, off + k, by rw [hl], by rw [hl]; omega, fun hne => ⟨rfl, ?_⟩, fun i hi => ?_, fun x hx => hs x (List.mem_of_mem_drop hx)⟩
  · have := ha (by intro h0; rw [h0] at hne; simp at hne)
    cases hv; cases this.1; exact this.2
  · rw [hl] at hi
    have := ha (by intro h0; rw [h0] at hi; simp at hi)
    cases hv; cases this.1
    rw [Nat.add_assoc, hc (k + i) (by omega), List.getD_eq_getElem?_getD, List.getD_eq_getElem?_getD, List.getElem?_drop]
theorem ints_nil (w : World) (B : Nat) (ad : Addr) (c : Nat) : IntsAt w B (.slice (some ad) 0 c) [] := ⟨_, c, 0, 0, rfl, Nat.zero_le _, fun h => absurd rfl h, fun i hi => absurd hi (Nat.not_lt_zero _), by simp⟩

section
variable (w : World)
theorem wpList_append_ints {ops : Array Oper} {rest : List Oper} {o : Oper} {a : Act} {Q : Exit → Act → World → Prop} (hgd : o.guard = none) (s x : Operand) (t : TypeId)
    (ho : o.op = .call { callee := .builtin .append, args := #[s, x], argTypes := #[t, t] }) (ht : Tryd.prog.underlying t = some (.slice 3))
    (base : Nat) (v xv : Value) (l m : List Int) (hs : a.eval s = v) (hr : IntsR w base v l) (hx : a.eval x = xv) (hxv : IntsAt w w.heap.size xv m) (hnil : Nilv xv)
    (h1 : l.length ≤ 1000000) (h2 : m.length ≤ 1000000) (hbase : base ≤ w.heap.size)
    (h : ∀ ao N c w', IntsR w' base (.slice ao N c) (l ++ m) → Below base w w' → N ≤ 2000000 → wpList Tryd.prog ops Q rest (a.put o.dst (.slice ao N c)) w') :
    wpList Tryd.prog ops Q (o :: rest) a w := by
  obtain ⟨i0, hi0, hz0, hz1, hz2⟩ := info_parts infoIS
  obtain ⟨ao, cap, b, off, rfl, _, ha, hc, hn⟩ := hxv
  have hr' : w.ownsRow base 3 1 v l.length (l.map (Value.int .i64)) := hr
  refine wpList_append_opt w hgd s x t ho base 3 i0 (.int .i64 0) 8 ht hi0 hz0 hz1 hz2 rfl v l.length (l.map (Value.int .i64)) hs hr' ao m.length cap (m.map (Value.int .i64)) hx (fun h0 => ?_) (by simp) ?_ ?_ (by unfold maxLen; omega) (by omega) hbase ?_
  · subst h0; exact hnil _ _ rfl
  · intro ad had j u hu
    rw [List.getElem?_map] at hu
    obtain ⟨z, hz, rfl⟩ := Option.map_eq_some_iff.1 hu
    have hj := (List.getElem?_eq_some_iff.1 hz).1
    obtain ⟨rfl, _⟩ := ha (by intro h0; rw [h0] at hj; simp at hj)
    cases had
    rw [proofT.clsadd, hc j hj, List.getD_eq_getElem?_getD, hz]; rfl
  · intro u hu
    obtain ⟨j, hj, rfl⟩ := List.mem_map.1 hu
    rfl
  · intro v' w' ho' hg' _
    have hb : Below base w w' := (Below.refl base w).grown hg' hbase (fun j hj => (hr'.lt j hj).1)
    obtain ⟨a3, c3, hv3, _, _, _⟩ := cap_row ho'
    subst hv3
    refine h a3 _ c3 w' ?_ hb (by omega)
    unfold IntsR
    rw [List.length_append, List.map_append]
    exact ho'
end

theorem abs_any (l : Int) (w : World) (hl : lit l) : Calls Tryd.prog 91 #[.int .i64 l] w fun e w' => e = .returned (.int .i64 (l.natAbs : Nat)) ∧ w = w' := by
  have h1 : -20000 ≤ l := hl.2.1
  have h2 : l ≤ 20000 := hl.2.2
  clear hl
  by_cases h : l < 0
  · have HC : Hid (((l.natAbs : Nat) : Int) = -l) := Lib.hid (by omega)
    go_enter Tryd.func91, Tryd.ntmps91
    go_wp2
    go_ret
    exact ⟨ret_int (by rw [HC.out]), rfl⟩
  · have HC : Hid (((l.natAbs : Nat) : Int) = l) := Lib.hid (by omega)
    go_enter Tryd.func91, Tryd.ntmps91
    go_wp2
    go_ret
    exact ⟨ret_int (by rw [HC.out]), rfl⟩
set_option maxHeartbeats 1000000 in
set_option maxRecDepth 100000 in
theorem Less_any (a b : Int) (w : World) (ha : lit a) (hb : lit b) : Calls Tryd.prog 68 #[.int .i64 a, .int .i64 b] w fun e w' => e = .returned (.bool (less a b)) ∧ w = w' := by
  have HA := Lib.hid ha
  have HB := Lib.hid hb
  have HE : Hid (less a b = (decide (a.natAbs < b.natAbs) || (decide (a.natAbs = b.natAbs) && decide (a < b)))) := Lib.hid rfl
  clear ha hb
  generalize hx : a.natAbs = x at *
  generalize hy : b.natAbs = y at *
  have HX := Lib.hid hx
  have HY := Lib.hid hy
  clear hx hy
  by_cases h1 : x < y
  · have HE2 : Hid (less a b = true) := Lib.hid (by rw [HE.out]; simp [h1])
    go_enter Tryd.func68, Tryd.ntmps68
    go_wp2_with (first | (go_at_call 91; refine (abs_any a _ HA.out).mono ?_; rintro e w' ⟨rfl, rfl⟩; rw [HX.out]) | (go_at_call 91; refine (abs_any b _ HB.out).mono ?_; rintro e w' ⟨rfl, rfl⟩; rw [HY.out]))
    go_ret
    exact ⟨by rw [HE2.out]; rfl, rfl⟩
  · by_cases h2 : x = y
    · subst h2
      have HE2 : Hid (less a b = decide (a < b)) := Lib.hid (by rw [HE.out]; simp)
      clear HE
      go_enter Tryd.func68, Tryd.ntmps68
      go_wp2_with (first | (go_at_call 91; refine (abs_any a _ HA.out).mono ?_; rintro e w' ⟨rfl, rfl⟩; rw [HX.out]) | (go_at_call 91; refine (abs_any b _ HB.out).mono ?_; rintro e w' ⟨rfl, rfl⟩; rw [HY.out]))
      go_ret
      exact ⟨by rw [HE2.out]; rfl, rfl⟩
    · have HE2 : Hid (less a b = false) := Lib.hid (by rw [HE.out]; simp [h1, h2])
      have h2I : ((x : Int) == (y : Int)) = false := by rw [beq_eq_false_iff_ne]; omega
      have h2J : decide (x < y) = false := decide_eq_false h1
      clear HE h2
      go_enter Tryd.func68, Tryd.ntmps68
      go_wp2_with (first | (go_at_call 91; refine (abs_any a _ HA.out).mono ?_; rintro e w' ⟨rfl, rfl⟩; rw [HX.out]) | (go_at_call 91; refine (abs_any b _ HB.out).mono ?_; rintro e w' ⟨rfl, rfl⟩; rw [HY.out]))
      go_ret
      exact ⟨by rw [HE2.out]; rfl, rfl⟩

set_option maxHeartbeats 1000000 in
theorem In_any (cv : Value) (c : List Int) (x : Int) (w : World) (B : Nat) (hc : IntsAt w B cv c) :
    Calls Tryd.prog 30 #[cv, .int .i64 x] w fun e w' => e = .returned (.bool (decide (x ∈ c))) ∧ w = w' := by
  obtain ⟨ao, cap, b, off, rfl, hcm, ha, hcell, h64⟩ := hc
  have HA := Lib.hid ha
  have HC := Lib.hid hcell
  unfold maxLen at hcm
  clear ha hcell h64
  go_enter Tryd.func30, Tryd.ntmps30
  go_wp2
  go_loop [9] (fun it => ∃ k : Nat, k ≤ c.length ∧ it = .int .i64 k ∧ Hid (∀ j, j < k → c.getD j 0 ≠ x)) (fun it => c.length - (intOf it).toNat)
  case atStart => exact ⟨0, Nat.zero_le _, rfl, Lib.hid (fun j hj => absurd hj (Nat.not_lt_zero _))⟩
  case round =>
    obtain ⟨k, hk, rfl, hg⟩ := hrel
    by_cases hlt : k < c.length
    · obtain ⟨rfl, hbB⟩ := HA.out (by intro h0; rw [h0] at hlt; simp at hlt)
      have q := HC.out k hlt
      by_cases he : c.getD k 0 = x
      · have HE : Hid (decide (x ∈ c) = true) := Lib.hid (decide_eq_true (by rw [← he]; exact getD_mem hlt))
        rw [he] at q
        clear he hg
        go_wp2
        go_ret
        exact ⟨by rw [HE.out]; rfl, rfl⟩
      · have HF : Hid (∀ j, j < k + 1 → c.getD j 0 ≠ x) := Lib.hid (fun j hj => by
          by_cases e : j = k
          · rw [e]; exact he
          · exact hg.out j (by omega))
        generalize c.getD k 0 = l at *
        have he' : (l == x) = false := by simpa using he
        clear he hg
        go_wp2
        go_round
        case rel => exact ⟨k + 1, by omega, by go_num, HF⟩
        case measure => simp [intOf]; omega
    · obtain rfl : k = c.length := by omega
      have HE : Hid (decide (x ∈ c) = false) := Lib.hid (decide_eq_false (fun hl => by
        obtain ⟨j, hj, he⟩ := List.mem_iff_getElem.1 hl
        have := hg.out j hj
        rw [List.getD_eq_getElem?_getD, List.getElem?_eq_getElem hj] at this
        exact this (by simpa using he)))
      clear hg
      go_wp2
      go_ret
      exact ⟨by rw [HE.out]; rfl, rfl⟩

set_option maxHeartbeats 1000000 in
theorem Same_any (av bv : Value) (a b : List Int) (w : World) (B : Nat) (ha : IntsAt w B av a) (hb : IntsAt w B bv b) :
    Calls Tryd.prog 28 #[av, bv] w fun e w' => e = .returned (.bool (decide (a = b))) ∧ Below w.heap.size w w' := by
  obtain ⟨aa, capa, ba, offa, rfl, ham, haa, hac, _⟩ := ha
  obtain ⟨ab, capb, bb, offb, rfl, hbm, hab, hbc, _⟩ := hb
  have HA := Lib.hid haa
  have HAC := Lib.hid hac
  have HB := Lib.hid hab
  have HBC := Lib.hid hbc
  unfold maxLen at ham hbm
  clear haa hac hab hbc
  by_cases hl : a.length = b.length
  · have HLL := Lib.hid hl
    generalize hal : a.length = n at *
    generalize hbl : b.length = n' at *
    subst hl
    have HAL := Lib.hid hal
    have HBL := Lib.hid hbl
    clear hal hbl
    go_enter Tryd.func28, Tryd.ntmps28
    go_wp2
    go_loopw [13] (fun it wr => ∃ k : Nat, k ≤ n ∧ it = .int .i64 k ∧ Below w.heap.size w wr ∧ (∀ a, wr.cell? a = w.cell? a) ∧ Hid (∀ j, j < k → a.getD j 0 = b.getD j 0)) (fun it _ => n - (intOf it).toNat)
    case atStart => exact ⟨0, Nat.zero_le _, rfl, Below.refl _ _, fun _ => rfl, Lib.hid (fun j hj => absurd hj (Nat.not_lt_zero _))⟩
    case round =>
      obtain ⟨k, hk, rfl, hbel, hsame, hg⟩ := hrel
      by_cases hlt : k < n
      · obtain ⟨rfl, _⟩ := HA.out (by intro h0; rw [h0] at HAL; have := HAL.out; simp at this; omega)
        obtain ⟨rfl, _⟩ := HB.out (by intro h0; rw [h0] at HBL; have := HBL.out; simp at this; omega)
        have q1 : wr.cell? ⟨ba, offa + k, none⟩ = some (.int .i64 (a.getD k 0)) := (hsame _).trans (HAC.out k hlt)
        have q2 : wr.cell? ⟨bb, offb + k, none⟩ = some (.int .i64 (b.getD k 0)) := (hsame _).trans (HBC.out k hlt)
        have HBE := Lib.hid hbel
        have HSA := Lib.hid hsame
        have hkI : (0 : Int) ≤ (k : Int) := Int.natCast_nonneg _
        have hkJ : (k : Int) < (n : Int) := by omega
        by_cases he : a.getD k 0 = b.getD k 0
        · have HF : Hid (∀ j, j < k + 1 → a.getD j 0 = b.getD j 0) := Lib.hid (fun j hj => by
            by_cases e : j = k
            · rw [e]; exact he
            · exact hg.out j (by omega))
          rw [he] at q1
          generalize b.getD k 0 = y at *
          clear he hg hbel hsame
          go_wp2
          go_quiet (fail)
          go_wp2
          go_roundw
          case rel => exact ⟨k + 1, by omega, by go_num, HBE.out.trans (Go.Joins.below_draws _ _ _), fun a => HSA.out a, HF⟩
          case measure => simp [intOf]; omega
        · have HE : Hid (decide (a = b) = false) := Lib.hid (decide_eq_false (fun e => he (by rw [e])))
          generalize a.getD k 0 = x at *
          generalize b.getD k 0 = y at *
          have he' : (x != y) = true := by simpa using he
          clear he hg hbel hsame
          go_wp2
          go_quiet (fail)
          go_wp2
          go_ret
          exact ⟨by rw [HE.out]; rfl, HBE.out.trans (Go.Joins.below_draws _ _ _)⟩
      · obtain rfl : k = n := by omega
        have HE : Hid (decide (a = b) = true) := Lib.hid (decide_eq_true (by
          apply List.ext_getElem (HAL.out.trans HBL.out.symm)
          intro j h1 h2
          have := hg.out j (by rw [← HAL.out]; exact h1)
          rw [List.getD_eq_getElem?_getD, List.getElem?_eq_getElem h1, List.getD_eq_getElem?_getD, List.getElem?_eq_getElem h2] at this
          simpa using this))
        have HBE := Lib.hid hbel
        clear hbel hsame hg
        go_wp2
        go_ret
        exact ⟨by rw [HE.out]; rfl, HBE.out⟩
  · have HE : Hid (decide (a = b) = false) := Lib.hid (decide_eq_false (fun e => hl (by rw [e])))
    have hlI : ((a.length : Int) != (b.length : Int)) = true := by rw [bne_iff_ne]; omega
    clear hl
    go_enter Tryd.func28, Tryd.ntmps28
    go_wp2
    go_ret
    exact ⟨by rw [HE.out]; rfl, Below.refl _ _⟩
end Go.Proofs.YtjeckkkmoabjnaaDoor.proofS
namespace Go.Proofs.YtjeckkkmoabjnaaDoor.proofT
open Go.ChangeShapes Go.WideShapes Go.ChangeAt Go.RowKit proofP proofQ proofR owns proofN proofO proofS cls
set_option linter.unusedSimpArgs false
set_option linter.unusedVariables false

/-- literals, in a slice that is not nil and may be cut and appended -/
def IntsC (w : World) (B : Nat) (v : Value) (l : List Int) : Prop := ∃ b off cap, v = .slice (some ⟨b, off, none⟩) l.length cap ∧ l.length ≤ cap ∧ cap ≤ maxLen ∧ b < B ∧ (∀ i, i < l.length → w.cell? ⟨b, off + i, none⟩ = some (.int .i64 (l.getD i 0))) ∧ (l = [] → cap = 0) ∧ ∀ y ∈ l, lit y
theorem IntsC.keep {w w' : World} {B : Nat} {v : Value} {l : List Int} (h : IntsC w B v l) (hb : Below B w w') : IntsC w' B v l := by
  obtain ⟨b, off, cap, rfl, h1, h2, h3, h4, h5, h6⟩ := h
  exact ⟨b, off, cap, rfl, h1, h2, h3, fun i hi => by rw [hb.cell (show (⟨b, off + i, none⟩ : Addr).block < B from h3)]; exact h4 i hi, h5, h6⟩
theorem IntsC.mono {w : World} {B B' : Nat} (hB : B ≤ B') {v : Value} {l : List Int} (h : IntsC w B v l) : IntsC w B' v l := by
  obtain ⟨b, off, cap, rfl, h1, h2, h3, h4, h5, h6⟩ := h
  exact ⟨b, off, cap, rfl, h1, h2, by omega, h4, h5, h6⟩
theorem lit64 {x : Int} (h : lit x) : In64 x := by unfold lit at h; unfold In64; omega
theorem IntsC.at {w : World} {B : Nat} {v : Value} {l : List Int} (h : IntsC w B v l) : IntsAt w B v l := by
  obtain ⟨b, off, cap, rfl, h1, h2, h3, h4, h5, h6⟩ := h
  exact ⟨_, cap, b, off, rfl, by omega, fun _ => ⟨rfl, h3⟩, h4, fun y hy => lit64 (h6 y hy)⟩
theorem IntsC.ofRow {w : World} {B : Nat} {e : TypeId} {v : Value} {l : List Int} (h : w.ownsRow B e 1 v l.length (l.map (Value.int .i64))) (hn : l ≠ []) (hs : ∀ x ∈ l, lit x) : IntsC w w.heap.size v l := by
  have hpos : 0 < l.length := List.length_pos_iff.2 hn
  obtain ⟨g, cap, rfl, h1, h2, h3, h4⟩ := own_form h hpos
  refine ⟨g, 0, cap, rfl, h3, h4, h2, fun i hi => ?_, fun h => absurd h hn, hs⟩
  rw [Nat.zero_add, World.ownsRow.cellAt h i (by omega), List.getElem?_map, List.getElem?_eq_getElem hi, List.getD_eq_getElem?_getD, List.getElem?_eq_getElem hi]; rfl
theorem IntsC.empty (w : World) (t : TypeId) : IntsC (w.alloc (.cells #[] t)) (w.heap.size + 1) (.slice (some ⟨w.heap.size, 0, none⟩) 0 0) [] :=
  ⟨w.heap.size, 0, 0, rfl, Nat.le_refl _, by simp [maxLen], by omega, fun i hi => absurd hi (Nat.not_lt_zero _), fun _ => rfl, by simp⟩
theorem own_empty (w : World) (t : TypeId) : (w.alloc (.cells #[] t)).ownsRow w.heap.size t 1 (.slice (some ⟨w.heap.size, 0, none⟩) 0 0) 0 [] :=
  ⟨rfl, .inr ⟨w.heap.size, 0, #[], rfl, Nat.le_refl _, heap_alloc_new w _, Nat.le_refl _, by simp [maxLen], rfl, rfl⟩⟩

def PutP (l : List Int) (x : Int) (w : World) (e : Ending) (w' : World) : Prop := ∃ v, e = .returned v ∧ IntsC w' w'.heap.size v (put l x) ∧ Below w.heap.size w w'
theorem put_ne (l : List Int) (x : Int) : put l x ≠ [] := fun h => by have := (mem_put l x x).2 (.inr rfl); rw [h] at this; simp at this
theorem put_fin {w w3 : World} {l : List Int} {x : Int} {k : Nat} {v : Value} (hk : k ≤ l.length) (hp : put l x = l.take k ++ [x] ++ l.drop k) (hl : ∀ y ∈ l, lit y) (hx : lit x) (hb : Below w.heap.size w w3)
    (ho : IntsR w3 w.heap.size v ([] ++ l.take k ++ [x] ++ l.drop k)) : PutP l x w (.returned v) w3 := by
  rw [List.nil_append, ← hp] at ho
  refine ⟨v, rfl, IntsC.ofRow ho (put_ne _ _) (fun y hy => ?_), hb⟩
  rcases (mem_put _ _ _).1 hy with hy | rfl
  · exact hl y hy
  · exact hx
theorem put_end' {w w3 : World} {l : List Int} {x : Int} {v : Value} (hp : put l x = l ++ [x]) (hl : ∀ y ∈ l, lit y) (hx : lit x) (hb : Below w.heap.size w w3)
    (ho : IntsR w3 w.heap.size v ([] ++ l ++ [x] ++ [])) : PutP l x w (.returned v) w3 := by
  rw [List.nil_append, List.append_nil, ← hp] at ho
  refine ⟨v, rfl, IntsC.ofRow ho (put_ne _ _) (fun y hy => ?_), hb⟩
  rcases (mem_put _ _ _).1 hy with hy | rfl
  · exact hl y hy
  · exact hx

set_option maxRecDepth 100000 in
set_option maxHeartbeats 4000000 in
theorem Put_some (w : World) (B b off cap : Nat) (l : List Int) (x : Int) (hB : B ≤ w.heap.size) (hbB : b < B) (hcap : l.length ≤ cap) (hcm : cap ≤ maxLen) (hc : ∀ i, i < l.length → w.cell? ⟨b, off + i, none⟩ = some (.int .i64 (l.getD i 0))) (hn : l ≠ []) (hl : ∀ y ∈ l, lit y) (hx : lit x) (hlen : l.length ≤ 50000) :
    Calls Tryd.prog 52 #[.slice (some ⟨b, off, none⟩) l.length cap, .int .i64 x] w (PutP l x w) := by
  have HC := Lib.hid hc
  have HL := Lib.hid hl
  have HX := Lib.hid hx
  have hpos : 0 < l.length := List.length_pos_iff.2 hn
  unfold maxLen at hcm
  have hIA : IntsC w B (.slice (some ⟨b, off, none⟩) l.length cap) l := ⟨b, off, cap, rfl, hcap, by unfold maxLen; omega, hbB, hc, fun h => absurd h hn, hl⟩
  have HIA := Lib.hid hIA
  clear hc hl hx hn hIA
  go_enter Tryd.func52, Tryd.ntmps52
  go_wp2
  go_loop [5] (fun it => ∃ k : Nat, k ≤ l.length ∧ it = .int .i64 k ∧ Hid (∀ j, j < k → less (l.getD j 0) x = true)) (fun it => l.length - (intOf it).toNat)
  case atStart => exact ⟨0, Nat.zero_le _, rfl, Lib.hid (fun j hj => absurd hj (Nat.not_lt_zero _))⟩
  case round =>
    obtain ⟨k, hk, rfl, hg⟩ := hrel
    by_cases hlt : k < l.length
    · have q := HC.out k hlt
      have hlk := HL.out _ (getD_mem (d := 0) hlt)
      have HLE := Lib.hid (fun w' => Less_any (l.getD k 0) x w' hlk HX.out)
      cases hls : less (l.getD k 0) x
      · rw [hls] at HLE
        by_cases he : l.getD k 0 = x
        · have HE : Hid (put l x = l) := Lib.hid (put_same k hlt hg.out he)
          rw [he] at q HLE
          have HF : Hid (PutP l x w (.returned (.slice (some ⟨b, off, none⟩) l.length cap)) w) := Lib.hid ⟨_, rfl, by rw [HE.out]; exact HIA.out.mono hB, Below.refl _ _⟩
          clear hg hlk hls he
          go_wp2_with (go_at_call 68; refine (HLE.out _).mono ?_; rintro e w' ⟨rfl, rfl⟩)
          go_ret
          exact HF.out
        · have HP := Lib.hid (put_mid k hlt hg.out hls he)
          generalize l.getD k 0 = y at *
          have he' : (y == x) = false := by simpa using he
          have hkc : k < cap := by omega
          have HFI := Lib.hid (fun w3 v hb ho => put_fin (w := w) (w3 := w3) (v := v) hk HP.out HL.out HX.out hb ho)
          clear hg hlk hls he HP
          have HZ : Hid (([] : List Int).length ≤ 1000000) := Lib.hid (by simp)
          have HSZ : Hid (w.heap.size ≤ (w.alloc (.cells #[] 3)).heap.size) := Lib.hid (by simp)
          have HBA : Hid (Below w.heap.size w (w.alloc (.cells #[] 3))) := Lib.hid ((Below.refl _ _).alloc (Nat.le_refl _) _)
          have HI1 : Hid (IntsAt w w.heap.size (.slice (some ⟨b, off, none⟩) k cap) ((l.take k))) := Lib.hid (ints_take (HIA.out.at.mono hB) k hk _)
          have HA1 := Lib.hid ((HI1.out.keep HBA.out).mono HSZ.out)
          have HI3 : Hid (IntsAt w w.heap.size (.slice (some ⟨b, off + k, none⟩) (l.length - k) (cap - k)) ((l.drop k))) := Lib.hid (ints_drop (HIA.out.at.mono hB) k hk _ _ rfl)
          have HM1 : Hid (((l.take k)).length ≤ 1000000) := Lib.hid (by rw [List.length_take]; omega)
          have HM3 : Hid (((l.drop k)).length ≤ 1000000) := Lib.hid (by rw [List.length_drop]; omega)
          have HM2 : Hid (([] ++ (l.take k)).length ≤ 1000000 ∧ ([] ++ (l.take k) ++ [x]).length ≤ 1000000) := Lib.hid (by simp; omega)
          go_wp2_with (first | (go_at_call 68; refine (HLE.out _).mono ?_; rintro e w' ⟨rfl, rfl⟩) | (at_builtin; refine wpList_append_ints _ rfl (.tmp 34) (.tmp 37) 23 rfl Tryd.underlying23 w.heap.size (.slice (some ⟨w.heap.size, 0, none⟩) 0 0) (.slice (some ⟨b, off, none⟩) k cap) [] (l.take k) rfl (IntsR.empty w) rfl HA1.out (Nilv.some _ _ _) HZ.out HM1.out HSZ.out ?_))
          intro a1 n1 c1 w1 ho1 hb1 hn1
          have HO1 := Lib.hid ho1
          have HB1 := Lib.hid (HBA.out.trans hb1)
          have hs1 := HB1.out.size
          have HXN := Lib.hid (ints_new w1 x (lit64 HX.out))
          have HS2 : Hid (w.heap.size ≤ (w1.alloc (.cells #[.int .i64 x] 3)).heap.size) := Lib.hid (by simp; omega)
          have HO1A := Lib.hid (HO1.out.alloc (.cells #[.int .i64 x] 3))
          have HL1 : Hid ([x].length ≤ 1000000) := Lib.hid (by simp)
          clear ho1 hb1 HO1
          go_wp2_with (at_builtin; refine wpList_append_ints _ rfl (.tmp 39) (.tmp 41) 23 rfl Tryd.underlying23 w.heap.size (.slice a1 n1 c1) (.slice (some ⟨w1.heap.size, 0, none⟩) 1 1) ([] ++ (l.take k)) [x] rfl HO1A.out rfl HXN.out (Nilv.some _ _ _) HM2.out.1 HL1.out HS2.out ?_)
          intro a2 n2 c2 w2 ho2 hb2 hn2
          have HO2 := Lib.hid ho2
          have HB2 := Lib.hid ((HB1.out.alloc hs1 _).trans hb2)
          have hs2 := HB2.out.size
          have HA3 := Lib.hid ((HI3.out.keep HB2.out).mono hs2)
          clear ho2 hb2 HXN HO1A
          go_wp2_with (at_builtin; refine wpList_append_ints _ rfl (.tmp 43) (.tmp 46) 23 rfl Tryd.underlying23 w.heap.size (.slice a2 n2 c2) (.slice (some ⟨b, off + k, none⟩) (l.length - k) (cap - k)) ([] ++ (l.take k) ++ [x]) (l.drop k) rfl HO2.out rfl HA3.out (Nilv.some _ _ _) HM2.out.2 HM3.out hs2 ?_)
          intro a3 n3 c3 w3 ho3 hb3 hn3
          have HF := Lib.hid (HFI.out w3 (.slice a3 n3 c3) (HB2.out.trans hb3) (by simpa using ho3))
          clear ho3 hb3 HO2
          go_wp2
          go_ret
          exact HF.out
      · rw [hls] at HLE
        have HF : Hid (∀ j, j < k + 1 → less (l.getD j 0) x = true) := Lib.hid (fun j hj => by
          by_cases e : j = k
          · rw [e]; exact hls
          · exact hg.out j (by omega))
        generalize l.getD k 0 = y at *
        clear hg hlk hls
        go_wp2_with (go_at_call 68; refine (HLE.out _).mono ?_; rintro e w' ⟨rfl, rfl⟩)
        go_round
        case rel => exact ⟨k + 1, by omega, by go_num, HF⟩
        case measure => simp [intOf]; omega
    · obtain rfl : k = l.length := by omega
      have HFI := Lib.hid (fun w3 v hb ho => put_end' (w := w) (w3 := w3) (v := v) (put_end hg.out) HL.out HX.out hb ho)
      have hnk : ¬ ((l.length : Int) < (l.length : Int)) := by omega
      clear hg
      by_cases hce : cap = l.length
      · subst hce
        have HZ : Hid (([] : List Int).length ≤ 1000000) := Lib.hid (by simp)
        have HSZ : Hid (w.heap.size ≤ (w.alloc (.cells #[] 3)).heap.size) := Lib.hid (by simp)
        have HBA : Hid (Below w.heap.size w (w.alloc (.cells #[] 3))) := Lib.hid ((Below.refl _ _).alloc (Nat.le_refl _) _)
        have HI1 : Hid (IntsAt w w.heap.size (.slice (some ⟨b, off, none⟩) l.length l.length) (l)) := Lib.hid (HIA.out.at.mono hB)
        have HA1 := Lib.hid ((HI1.out.keep HBA.out).mono HSZ.out)
        have HI3 : Hid (IntsAt w w.heap.size (.slice (some ⟨b, off, none⟩) 0 0) (([] : List Int))) := Lib.hid (ints_nil _ _ _ _)
        have HM1 : Hid ((l).length ≤ 1000000) := Lib.hid (by omega)
        have HM3 : Hid ((([] : List Int)).length ≤ 1000000) := Lib.hid (by simp)
        have HM2 : Hid (([] ++ l).length ≤ 1000000 ∧ ([] ++ l ++ [x]).length ≤ 1000000) := Lib.hid (by simp; omega)
        go_wp2_with (at_builtin; refine wpList_append_ints _ rfl (.tmp 34) (.tmp 37) 23 rfl Tryd.underlying23 w.heap.size (.slice (some ⟨w.heap.size, 0, none⟩) 0 0) (.slice (some ⟨b, off, none⟩) l.length l.length) [] l rfl (IntsR.empty w) rfl HA1.out (Nilv.some _ _ _) HZ.out HM1.out HSZ.out ?_)
        intro a1 n1 c1 w1 ho1 hb1 hn1
        have HO1 := Lib.hid ho1
        have HB1 := Lib.hid (HBA.out.trans hb1)
        have hs1 := HB1.out.size
        have HXN := Lib.hid (ints_new w1 x (lit64 HX.out))
        have HS2 : Hid (w.heap.size ≤ (w1.alloc (.cells #[.int .i64 x] 3)).heap.size) := Lib.hid (by simp; omega)
        have HO1A := Lib.hid (HO1.out.alloc (.cells #[.int .i64 x] 3))
        have HL1 : Hid ([x].length ≤ 1000000) := Lib.hid (by simp)
        clear ho1 hb1 HO1
        go_wp2_with (at_builtin; refine wpList_append_ints _ rfl (.tmp 39) (.tmp 41) 23 rfl Tryd.underlying23 w.heap.size (.slice a1 n1 c1) (.slice (some ⟨w1.heap.size, 0, none⟩) 1 1) ([] ++ l) [x] rfl HO1A.out rfl HXN.out (Nilv.some _ _ _) HM2.out.1 HL1.out HS2.out ?_)
        intro a2 n2 c2 w2 ho2 hb2 hn2
        have HO2 := Lib.hid ho2
        have HB2 := Lib.hid ((HB1.out.alloc hs1 _).trans hb2)
        have hs2 := HB2.out.size
        have HA3 := Lib.hid ((HI3.out.keep HB2.out).mono hs2)
        clear ho2 hb2 HXN HO1A
        go_wp2_with (at_builtin; refine wpList_append_ints _ rfl (.tmp 43) (.tmp 46) 23 rfl Tryd.underlying23 w.heap.size (.slice a2 n2 c2) (.slice (some ⟨b, off, none⟩) 0 0) ([] ++ l ++ [x]) ([] : List Int) rfl HO2.out rfl HA3.out (Nilv.some _ _ _) HM2.out.2 HM3.out hs2 ?_)
        intro a3 n3 c3 w3 ho3 hb3 hn3
        have HF := Lib.hid (HFI.out w3 (.slice a3 n3 c3) (HB2.out.trans hb3) (by simpa using ho3))
        clear ho3 hb3 HO2
        go_wp2
        go_ret
        exact HF.out
      · have hkc : l.length < cap := by omega
        clear hce
        have HZ : Hid (([] : List Int).length ≤ 1000000) := Lib.hid (by simp)
        have HSZ : Hid (w.heap.size ≤ (w.alloc (.cells #[] 3)).heap.size) := Lib.hid (by simp)
        have HBA : Hid (Below w.heap.size w (w.alloc (.cells #[] 3))) := Lib.hid ((Below.refl _ _).alloc (Nat.le_refl _) _)
        have HI1 : Hid (IntsAt w w.heap.size (.slice (some ⟨b, off, none⟩) l.length cap) (l)) := Lib.hid (HIA.out.at.mono hB)
        have HA1 := Lib.hid ((HI1.out.keep HBA.out).mono HSZ.out)
        have HI3 : Hid (IntsAt w w.heap.size (.slice (some ⟨b, off + l.length, none⟩) 0 (cap - l.length)) (([] : List Int))) := Lib.hid (ints_nil _ _ _ _)
        have HM1 : Hid ((l).length ≤ 1000000) := Lib.hid (by omega)
        have HM3 : Hid ((([] : List Int)).length ≤ 1000000) := Lib.hid (by simp)
        have HM2 : Hid (([] ++ l).length ≤ 1000000 ∧ ([] ++ l ++ [x]).length ≤ 1000000) := Lib.hid (by simp; omega)
        go_wp2_with (at_builtin; refine wpList_append_ints _ rfl (.tmp 34) (.tmp 37) 23 rfl Tryd.underlying23 w.heap.size (.slice (some ⟨w.heap.size, 0, none⟩) 0 0) (.slice (some ⟨b, off, none⟩) l.length cap) [] l rfl (IntsR.empty w) rfl HA1.out (Nilv.some _ _ _) HZ.out HM1.out HSZ.out ?_)
        intro a1 n1 c1 w1 ho1 hb1 hn1
        have HO1 := Lib.hid ho1
        have HB1 := Lib.hid (HBA.out.trans hb1)
        have hs1 := HB1.out.size
        have HXN := Lib.hid (ints_new w1 x (lit64 HX.out))
        have HS2 : Hid (w.heap.size ≤ (w1.alloc (.cells #[.int .i64 x] 3)).heap.size) := Lib.hid (by simp; omega)
        have HO1A := Lib.hid (HO1.out.alloc (.cells #[.int .i64 x] 3))
        have HL1 : Hid ([x].length ≤ 1000000) := Lib.hid (by simp)
        clear ho1 hb1 HO1
        go_wp2_with (at_builtin; refine wpList_append_ints _ rfl (.tmp 39) (.tmp 41) 23 rfl Tryd.underlying23 w.heap.size (.slice a1 n1 c1) (.slice (some ⟨w1.heap.size, 0, none⟩) 1 1) ([] ++ l) [x] rfl HO1A.out rfl HXN.out (Nilv.some _ _ _) HM2.out.1 HL1.out HS2.out ?_)
        intro a2 n2 c2 w2 ho2 hb2 hn2
        have HO2 := Lib.hid ho2
        have HB2 := Lib.hid ((HB1.out.alloc hs1 _).trans hb2)
        have hs2 := HB2.out.size
        have HA3 := Lib.hid ((HI3.out.keep HB2.out).mono hs2)
        clear ho2 hb2 HXN HO1A
        go_wp2_with (at_builtin; refine wpList_append_ints _ rfl (.tmp 43) (.tmp 46) 23 rfl Tryd.underlying23 w.heap.size (.slice a2 n2 c2) (.slice (some ⟨b, off + l.length, none⟩) 0 (cap - l.length)) ([] ++ l ++ [x]) ([] : List Int) rfl HO2.out rfl HA3.out (Nilv.some _ _ _) HM2.out.2 HM3.out hs2 ?_)
        intro a3 n3 c3 w3 ho3 hb3 hn3
        have HF := Lib.hid (HFI.out w3 (.slice a3 n3 c3) (HB2.out.trans hb3) (by simpa using ho3))
        clear ho3 hb3 HO2
        go_wp2
        go_ret
        exact HF.out

set_option maxRecDepth 100000 in
set_option maxHeartbeats 4000000 in
theorem Put_none (w : World) (b off : Nat) (x : Int) (hx : lit x) :
    Calls Tryd.prog 52 #[.slice (some ⟨b, off, none⟩) 0 0, .int .i64 x] w (PutP [] x w) := by
  have HFI := Lib.hid (fun w3 v hb ho => put_end' (w := w) (w3 := w3) (v := v) (l := []) rfl (by simp) hx hb ho)
  have HX := Lib.hid hx
  clear hx
  go_enter Tryd.func52, Tryd.ntmps52
  go_wp2
  go_loop [5] (fun it => it = .int .i64 0) (fun _ => 0)
  case atStart => rfl
  case round =>
  subst hrel
  have HZ : Hid (([] : List Int).length ≤ 1000000) := Lib.hid (by simp)
  have HSZ : Hid (w.heap.size ≤ (w.alloc (.cells #[] 3)).heap.size) := Lib.hid (by simp)
  have HBA : Hid (Below w.heap.size w (w.alloc (.cells #[] 3))) := Lib.hid ((Below.refl _ _).alloc (Nat.le_refl _) _)
  have HI1 : Hid (IntsAt w w.heap.size (.slice (some ⟨b, off, none⟩) 0 0) (([] : List Int))) := Lib.hid (ints_nil _ _ _ _)
  have HA1 := Lib.hid ((HI1.out.keep HBA.out).mono HSZ.out)
  have HI3 : Hid (IntsAt w w.heap.size (.slice (some ⟨b, off, none⟩) 0 0) (([] : List Int))) := Lib.hid (ints_nil _ _ _ _)
  have HM1 : Hid ((([] : List Int)).length ≤ 1000000) := Lib.hid (by simp)
  have HM3 : Hid ((([] : List Int)).length ≤ 1000000) := Lib.hid (by simp)
  have HM2 : Hid (([] ++ ([] : List Int)).length ≤ 1000000 ∧ ([] ++ ([] : List Int) ++ [x]).length ≤ 1000000) := Lib.hid (by simp)
  go_wp2_with (at_builtin; refine wpList_append_ints _ rfl (.tmp 34) (.tmp 37) 23 rfl Tryd.underlying23 w.heap.size (.slice (some ⟨w.heap.size, 0, none⟩) 0 0) (.slice (some ⟨b, off, none⟩) 0 0) [] ([] : List Int) rfl (IntsR.empty w) rfl HA1.out (Nilv.some _ _ _) HZ.out HM1.out HSZ.out ?_)
  intro a1 n1 c1 w1 ho1 hb1 hn1
  have HO1 := Lib.hid ho1
  have HB1 := Lib.hid (HBA.out.trans hb1)
  have hs1 := HB1.out.size
  have HXN := Lib.hid (ints_new w1 x (lit64 HX.out))
  have HS2 : Hid (w.heap.size ≤ (w1.alloc (.cells #[.int .i64 x] 3)).heap.size) := Lib.hid (by simp; omega)
  have HO1A := Lib.hid (HO1.out.alloc (.cells #[.int .i64 x] 3))
  have HL1 : Hid ([x].length ≤ 1000000) := Lib.hid (by simp)
  clear ho1 hb1 HO1
  go_wp2_with (at_builtin; refine wpList_append_ints _ rfl (.tmp 39) (.tmp 41) 23 rfl Tryd.underlying23 w.heap.size (.slice a1 n1 c1) (.slice (some ⟨w1.heap.size, 0, none⟩) 1 1) ([] ++ ([] : List Int)) [x] rfl HO1A.out rfl HXN.out (Nilv.some _ _ _) HM2.out.1 HL1.out HS2.out ?_)
  intro a2 n2 c2 w2 ho2 hb2 hn2
  have HO2 := Lib.hid ho2
  have HB2 := Lib.hid ((HB1.out.alloc hs1 _).trans hb2)
  have hs2 := HB2.out.size
  have HA3 := Lib.hid ((HI3.out.keep HB2.out).mono hs2)
  clear ho2 hb2 HXN HO1A
  go_wp2_with (at_builtin; refine wpList_append_ints _ rfl (.tmp 43) (.tmp 46) 23 rfl Tryd.underlying23 w.heap.size (.slice a2 n2 c2) (.slice (some ⟨b, off, none⟩) 0 0) ([] ++ ([] : List Int) ++ [x]) ([] : List Int) rfl HO2.out rfl HA3.out (Nilv.some _ _ _) HM2.out.2 HM3.out hs2 ?_)
  intro a3 n3 c3 w3 ho3 hb3 hn3
  have HF := Lib.hid (HFI.out w3 (.slice a3 n3 c3) (HB2.out.trans hb3) (by simpa using ho3))
  clear ho3 hb3 HO2
  go_wp2
  go_ret
  exact HF.out

theorem Put_any (w : World) (B : Nat) (v : Value) (l : List Int) (x : Int) (hv : IntsC w B v l) (hB : B ≤ w.heap.size) (hx : lit x) (hlen : l.length ≤ 50000) :
    Calls Tryd.prog 52 #[v, .int .i64 x] w (PutP l x w) := by
  obtain ⟨b, off, cap, rfl, h1, h2, h3, h4, h5, h6⟩ := hv
  by_cases hn : l = []
  · subst hn
    obtain rfl := h5 rfl
    exact Put_none w b off x hx
  · exact Put_some w B b off cap l x hB h3 h1 h2 h4 hn h6 hx hlen

def normL (c : List Int) : List Int := c.foldl put []
theorem normL_snoc (c : List Int) (x : Int) : normL (c ++ [x]) = put (normL c) x := by simp [normL]
theorem normL_len (c : List Int) : (normL c).length ≤ c.length := by
  suffices h : ∀ (c acc : List Int), (c.foldl put acc).length ≤ acc.length + c.length from by simpa [normL] using h c []
  intro c
  induction c with
  | nil => intro acc; simp
  | cons y c ih => intro acc; rw [List.foldl_cons]; have := ih (put acc y); have := put_le acc y; simp; omega

def NormP (c : List Int) (w : World) (e : Ending) (w' : World) : Prop :=
  ((∀ x ∈ c, lit x) ∧ ∃ v, e = .returned (.tuple #[v, .bool true]) ∧ IntsC w' w'.heap.size v (normL c) ∧ Below w.heap.size w w') ∨ ((∃ x ∈ c, ¬ lit x) ∧ e = .returned (.tuple #[.slice none 0 0, .bool false]) ∧ Below w.heap.size w w')
set_option maxRecDepth 100000 in
set_option maxHeartbeats 2000000 in
theorem Norm_any (w : World) (B : Nat) (cv : Value) (c : List Int) (hc : IntsAt w B cv c) (hB : B ≤ w.heap.size) (hlen : c.length ≤ 50000) :
    Calls Tryd.prog 27 #[cv] w (NormP c w) := by
  obtain ⟨ao, cap, b, off, rfl, hcm, ha, hcell, h64⟩ := hc
  have HA := Lib.hid ha
  have HC := Lib.hid hcell
  clear ha hcell h64 hcm
  have HE0 := Lib.hid (IntsC.empty w 3)
  go_enter Tryd.func27, Tryd.ntmps27
  go_wp2
  go_loopw [4, 10] (fun v it wr => ∃ (k n cp : Nat) (ad : Addr), k ≤ c.length ∧ it = .int .i64 k ∧ v = .slice (some ad) n cp ∧ IntsC wr wr.heap.size v (normL (c.take k)) ∧ Below w.heap.size w wr ∧ Hid (∀ x ∈ c.take k, lit x)) (fun _ it _ => c.length - (intOf it).toNat)
  case atStart => exact ⟨0, 0, 0, _, Nat.zero_le _, rfl, rfl, by have := HE0.out; simpa [normL] using this, (Below.refl _ _).alloc (Nat.le_refl _) _, Lib.hid (by simp)⟩
  case round =>
    clear HE0
    obtain ⟨k, n, cp, ad, hk, rfl, rfl, hv, hb, hg⟩ := hrel
    have HV := Lib.hid hv
    have HB := Lib.hid hb
    by_cases hlt : k < c.length
    · obtain ⟨rfl, hbB⟩ := HA.out (by intro h0; rw [h0] at hlt; simp at hlt)
      have q : wr.cell? ⟨b, off + k, none⟩ = some (.int .i64 (c.getD k 0)) := by rw [hb.cell (show (⟨b, off + k, none⟩ : Addr).block < w.heap.size from by show b < _; omega)]; exact HC.out k hlt
      have hst : c.take (k + 1) = c.take k ++ [c.getD k 0] := by rw [List.take_succ_eq_append_getElem hlt, List.getD_eq_getElem?_getD, List.getElem?_eq_getElem hlt]; rfl
      have HST := Lib.hid hst
      have HMM := Lib.hid (getD_mem (d := 0) hlt)
      have hnl := normL_len (c.take k)
      have htl : (c.take k).length ≤ k := List.length_take_le _ _
      have hws := hb.size
      generalize c.getD k 0 = x at *
      clear hv hb hst
      by_cases hx : lit x
      · have HX := Lib.hid hx
        have HPU := Lib.hid (Put_any wr wr.heap.size _ (normL (c.take k)) x HV.out (Nat.le_refl _) hx (by omega))
        have HG : Hid (∀ y ∈ c.take (k + 1), lit y) := Lib.hid (fun y hy => by
          rw [HST.out] at hy
          rcases List.mem_append.1 hy with hy | hy
          · exact hg.out y hy
          · simp at hy; rw [hy]; exact HX.out)
        clear hx hg
        go_wp2_with (go_at_call 50; refine (Is_yes _ _ HX.out).mono ?_; rintro e w' ⟨rfl, rfl⟩)
        refine HPU.out.mono ?_
        rintro e w2 ⟨v2, rfl, hv2, hb2⟩
        have HB2 := Lib.hid (HB.out.trans (hb2.mono hws))
        have HV2 : Hid (IntsC w2 w2.heap.size v2 (normL (c.take (k + 1)))) := Lib.hid (by rw [HST.out, normL_snoc]; exact hv2)
        obtain ⟨b2, off2, cap2, hvv, _⟩ := hv2
        subst hvv
        clear hb2
        go_wp2
        go_roundw
        case rel => exact ⟨k + 1, _, _, _, by omega, by go_num, rfl, HV2.out, HB2.out, HG⟩
        case measure => simp [intOf]; omega
      · have HX := Lib.hid hx
        have HF : Hid (NormP c w (.returned (.tuple #[.slice none 0 0, .bool false])) wr) := Lib.hid (.inr ⟨⟨x, HMM.out, hx⟩, rfl, HB.out⟩)
        clear hx hg
        go_wp2_with (go_at_call 50; refine (Is_no _ _ HX.out).mono ?_; rintro e w' ⟨rfl, rfl⟩)
        go_ret2
        exact HF.out
    · obtain rfl : k = c.length := by omega
      rw [List.take_length] at HV hg
      have HF : Hid (NormP c w (.returned (.tuple #[.slice (some ad) n cp, .bool true])) wr) := Lib.hid (.inl ⟨hg.out, _, rfl, HV.out, HB.out⟩)
      clear hv hb hg
      go_wp2
      go_ret2
      exact HF.out

def BoolP (w : World) (e : Ending) (w' : World) : Prop := ∃ b : Bool, e = .returned (.bool b) ∧ Below w.heap.size w w'
theorem Right14_some (w : World) (B : Nat) (cv : Value) (c : List Int) (hc : IntsAt w B cv c) (hB : B ≤ w.heap.size) (hlen : c.length ≤ 50000) :
    Calls Tryd.prog 11 #[cv] w (BoolP w) := by
  have HN := Lib.hid (Norm_any w B cv c hc hB hlen)
  have HC := Lib.hid hc
  obtain ⟨ao, cap, b, off, rfl, hcm, ha, hcell, h64⟩ := hc
  clear ha hcell h64 hcm
  go_enter Tryd.func11, Tryd.ntmps11
  go_wp2_with fail
  refine HN.out.mono ?_
  rintro e w1 (⟨_, v, rfl, hv, hb⟩ | ⟨_, rfl, hb⟩)
  · have HS := Lib.hid (Same_any v _ (normL c) c w1 w1.heap.size hv.at ((HC.out.keep (hb.mono hB)).mono (Nat.le_trans hB hb.size)))
    have HB := Lib.hid hb
    have hbs := hb.size
    obtain ⟨b2, off2, cap2, hvv, _⟩ := hv
    subst hvv
    clear hb HN
    go_wp2_with fail
    refine HS.out.mono ?_
    rintro e w2 ⟨rfl, hb2⟩
    have HB2 := Lib.hid (HB.out.trans (hb2.mono hbs))
    generalize decide (normL c = c) = r at *
    clear hb2
    go_wp2
    go_ret
    exact ⟨r, rfl, HB2.out⟩
  · have HB := Lib.hid hb
    clear hb HN
    go_wp2
    go_ret
    exact ⟨false, rfl, HB.out⟩
end Go.Proofs.YtjeckkkmoabjnaaDoor.proofT
namespace Go.Proofs.YtjeckkkmoabjnaaDoor.proofU
open Go.ChangeShapes Go.WideShapes Go.ChangeAt Go.RowKit proofP proofQ proofR owns proofN proofO proofS proofT cls
set_option linter.unusedSimpArgs false
set_option linter.unusedVariables false

set_option maxRecDepth 100000 in
theorem arg_nilv {H : Type} {enc : TypeId × Value → H} {W : World} {base : Nat} {t e : TypeId} (ht : Tryd.prog.underlying t = some (.slice e)) {v : Value} {d : DataW H} {ps : List MemPlace} (ok : Value.okWide Tryd.prog W .any base t v)
    (h : DataW.Trod enc Tryd.prog W 0 (fun _ => true) true t v d ps) : Nilv v := by
  obtain ⟨a0, len, cap, rfl⟩ := okWide_slice ht ok
  obtain ⟨fuel, hf⟩ := h
  rcases DataW.trod_slice ht hf with ⟨hcs, _⟩ | ⟨a, len', cap', elems, rest, n, rfl, hcs, _⟩
  · intro n c e
    rw [e] at hcs
    have := (List.cons.inj hcs).1
    cases this; exact ⟨rfl, rfl⟩
  · intro n c e
    rw [e] at hcs
    have := (List.cons.inj hcs).1
    cases this

theorem infoC : (Tryd.prog.info? 38).map (fun i => (i.zero, i.size, i.bytes)) = some (some (.slice none 0 0), 1, 24) := by kernel_rfl
def valsOf (vs : Nat → Value) (m : Nat) : List Value := (List.range m).map vs
theorem valsOf_len (vs : Nat → Value) (m : Nat) : (valsOf vs m).length = m := by simp [valsOf]
theorem valsOf_at {vs : Nat → Value} {m i : Nat} (h : i < m) : (valsOf vs m)[i]? = some (vs i) := by simp [valsOf, h]

/-- a row of clauses of the call's own, whose clauses lie elsewhere -/
def ClsR (w : World) (B0 base : Nat) (v : Value) (cl : List (List Int)) : Prop := ∃ vl, w.ownsRow base 38 1 v cl.length vl ∧ ∀ i, i < cl.length → IntsAt w B0 (vl.getD i undef) (cl.getD i [])
theorem ClsR.at {w : World} {B0 base : Nat} {v : Value} {cl : List (List Int)} (h : ClsR w B0 base v cl) (hB : B0 ≤ w.heap.size) : ClsAt w w.heap.size v cl := by
  obtain ⟨vl, h1, h2⟩ := h
  exact ClsAt.ofRow h1 (fun i hi => (h2 i hi).mono hB)
theorem ClsR.empty (w : World) (B0 : Nat) : ClsR (w.alloc (.cells #[] 38)) B0 w.heap.size (.slice (some ⟨w.heap.size, 0, none⟩) 0 0) [] := ⟨[], own_empty w _, fun i hi => absurd hi (Nat.not_lt_zero _)⟩
theorem ClsR.alloc {w : World} {B0 base : Nat} {v : Value} {cl : List (List Int)} (h : ClsR w B0 base v cl) (hB : B0 ≤ w.heap.size) (o : Obj) : ClsR (w.alloc o) B0 base v cl := by
  obtain ⟨vl, h1, h2⟩ := h
  exact ⟨vl, h1.alloc o, fun i hi => (h2 i hi).keep ((Below.refl _ _).alloc hB o)⟩
theorem ints_one {w : World} {B : Nat} {v : Value} {l : List Int} (h : IntsAt w B v l) : v.oneCell' = true := by
  obtain ⟨ao, cap, b, off, rfl, _⟩ := h; rfl

section
variable (w : World)
theorem wpList_append_cls {ops : Array Oper} {rest : List Oper} {o : Oper} {a : Act} {Q : Exit → Act → World → Prop} (hgd : o.guard = none) (s x : Operand)
    (ho : o.op = .call { callee := .builtin .append, args := #[s, x], argTypes := #[22, 22] })
    (B0 base : Nat) (v xv : Value) (cl log : List (List Int)) (hs : a.eval s = v) (hr : ClsR w B0 base v cl) (hx : a.eval x = xv) (hxv : ClsAt w B0 xv log) (hnil : Nilv xv)
    (h1 : cl.length ≤ 100000) (h2 : log.length ≤ 100000) (hbase : base ≤ w.heap.size) (hB : B0 ≤ base)
    (h : ∀ ao N c w', ClsR w' B0 base (.slice ao N c) (cl ++ log) → Below base w w' → N ≤ 200000 → wpList Tryd.prog ops Q rest (a.put o.dst (.slice ao N c)) w') :
    wpList Tryd.prog ops Q (o :: rest) a w := by
  obtain ⟨i0, hi0, hz0, hz1, hz2⟩ := info_parts infoC
  obtain ⟨vl, ho1, hin⟩ := hr
  obtain ⟨ao, cap, b, off, vs, rfl, _, ha, hc, hn⟩ := hxv
  have hlen : vl.length = cl.length := by have := ho1.1; omega
  refine wpList_append_opt w hgd s x _ ho base 38 i0 (.slice none 0 0) 24 Tryd.underlying22 hi0 hz0 hz1 hz2 rfl v cl.length vl hs ho1 ao log.length cap (valsOf vs log.length) hx (fun h0 => ?_) (valsOf_len _ _) ?_ ?_ (by unfold maxLen; omega) (by omega) hbase ?_
  · subst h0; exact hnil _ _ rfl
  · intro ad had j u hu
    have hj : j < log.length := by have := (List.getElem?_eq_some_iff.1 hu).1; rwa [valsOf_len] at this
    rw [valsOf_at hj] at hu
    obtain ⟨rfl, _⟩ := ha (by intro h0; rw [h0] at hj; simp at hj)
    cases had; cases hu
    rw [proofT.clsadd]; exact hc j hj
  · intro u hu
    obtain ⟨j, hj, rfl⟩ := List.mem_map.1 hu
    exact ints_one (hn j (by simpa using hj))
  · intro v' w' ho' hg' _
    have hb : Below base w w' := (Below.refl base w).grown hg' hbase (fun j hj => (ho1.lt j hj).1)
    obtain ⟨a3, c3, hv3, _, _, _⟩ := cap_row ho'
    subst hv3
    refine h a3 _ c3 w' ⟨vl ++ valsOf vs log.length, by rw [List.length_append]; exact ho', fun i hi => ?_⟩ hb (by omega)
    rw [List.length_append] at hi
    by_cases hlt : i < cl.length
    · rw [List.getD_eq_getElem?_getD, List.getElem?_append_left (by omega), List.getD_eq_getElem?_getD, List.getElem?_append_left hlt, ← List.getD_eq_getElem?_getD, ← List.getD_eq_getElem?_getD]
      exact (hin i hlt).keep (hb.mono hB)
    · rw [List.getD_eq_getElem?_getD, List.getElem?_append_right (by omega), List.getD_eq_getElem?_getD, List.getElem?_append_right (by omega), hlen, valsOf_at (by omega), ← List.getD_eq_getElem?_getD]
      exact (hn (i - cl.length) (by omega)).keep (hb.mono hB)
end

theorem app_self (cl log : List (List Int)) : bad (cl ++ log) cl = -1 := bad_none fun j hj => pl_self (by
  apply List.mem_append_left; apply List.mem_append_left
  rw [List.getD_eq_getElem?_getD, List.getElem?_eq_getElem hj]; exact List.getElem_mem hj)

end Go.Proofs.YtjeckkkmoabjnaaDoor.proofU
