/-
  Slices that may be appended to; contracts of the reference's abs, Less, In, SameInts.
-/
import Derived.Test.YtojjjndhabjhdaaProofO
import Derived.Test.YtojjjndhabjhdaaProofR
namespace Go.Proofs.Ytojjjndhabjhdaa.proofS
open Go.ChangeShapes Go.WideShapes Go.ChangeAt Go.RowKit proofP proofQ proofR owns proofA proofM proofN proofO cls
set_option linter.unusedSimpArgs false
set_option linter.unusedVariables false

/-- a slice whose room is known to be enough -/
def Cap (v : Value) (n : Nat) : Prop := ∃ ao cap, v = .slice ao n cap ∧ n ≤ cap ∧ cap ≤ maxLen ∧ (ao = none → n = 0 ∧ cap = 0)
theorem _root_.Go.Proofs.Ytojjjndhabjhdaa.proofT.clsadd (b o n : Nat) : (⟨b, o, none⟩ : Addr).add n = ⟨b, o + n, none⟩ := by unfold Addr.add; split <;> simp_all
theorem cap_row {w : World} {B : Nat} {e : TypeId} {v : Value} {n : Nat} {xs : List Value} (h : w.ownsRow B e 1 v n xs) : Cap v n := by
  rcases h.2 with ⟨hv, h0⟩ | ⟨g, cap, cur, hv, hb, hg, hn', hm, _⟩
  · exact ⟨none, 0, by rw [hv, h0], by omega, by simp [maxLen], fun _ => ⟨h0, rfl⟩⟩
  · exact ⟨_, cap, hv, hn', hm, fun h => by cases h⟩

section
variable {P : Program} (w : World)
/-- append of a slice that may be nil -/
theorem wpList_append_opt {ops : Array Oper} {rest : List Oper} {o : Oper} {a : Act} {Q : Exit → Act → World → Prop} (hgd : o.guard = none) (s x : Operand) (t : TypeId)
    (ho : o.op = .call { callee := .builtin .append, args := #[s, x], argTypes := #[t, t] })
    (base : Nat) (e : TypeId) (i : TypeInfo) (z : Value) (bytes : Nat) (ht : P.underlying t = some (.slice e)) (hi : P.info? e = some i) (hz : i.zero = some z)
    (hsize : i.size = 1) (hby : i.bytes = bytes) (hzs : z.cells.size = 1)
    (v : Value) (n : Nat) (xs : List Value) (hs : a.eval s = v) (hown : w.ownsRow base e 1 v n xs)
    (ao : Option Addr) (m c : Nat) (news : List Value) (hx : a.eval x = .slice ao m c) (hnone : ao = none → m = 0 ∧ c = 0) (hl : news.length = m) (hnews : ∀ ad, ao = some ad → ∀ j u, news[j]? = some u → w.cell? (ad.add j) = some u) (h1 : ∀ u ∈ news, u.oneCell' = true)
    (h63 : n + m ≤ maxLen) (hbytes : (n + m) * bytes ≤ 140737488355328) (hbase : base ≤ w.heap.size)
    (h : ∀ v' w', w'.ownsRow base e 1 v' (n + m) (xs ++ news) → w.grownBy w' v.ownBlock → (v'.ownBlock = v.ownBlock ∨ v'.ownBlock = some w.heap.size) → wpList P ops Q rest (a.put o.dst v') w') :
    wpList P ops Q (o :: rest) a w := by
  cases ao with
  | some ad => exact wpList_append_own_at w hgd s x t ho base e i z 1 bytes ht hi hz hsize hby hzs (by omega) v n xs hs hown ad m c news hx (by omega) (hnews ad rfl) h1 h63 hbytes hbase (fun v' w' a1 a2 _ a3 => h v' w' a1 a2 a3)
  | none =>
    obtain ⟨rfl, rfl⟩ := hnone rfl
    obtain rfl : news = [] := List.length_eq_zero_iff.1 hl
    refine wpList_plain hgd fun K hK' => ?_
    have hrun := run_append_owned_none (P := P) w base t o.type e i 1 ht hi v n xs hown
    unfold Oper.wp
    simp [execOp, ho, resolve, invoke, builtin, hs, hx, hrun, Result.andThen]
    exact hK' _ _ (h v w (by simpa using hown) ⟨rfl, rfl, rfl, Nat.le_refl _, fun _ _ _ => rfl⟩ (.inl rfl))
end

/-- a nil slice has no room -/
def Nilv (v : Value) : Prop := ∀ n c, v = .slice none n c → n = 0 ∧ c = 0
theorem Nilv.some (ad : Addr) (n c : Nat) : Nilv (.slice (some ad) n c) := fun _ _ h => by cases h
/-- a row of integers of the call's own -/
def IntsR (w : World) (base : Nat) (v : Value) (l : List Int) : Prop := w.ownsRow base 3 1 v l.length (l.map (Value.int .i64))
theorem IntsR.alloc {w : World} {base : Nat} {v : Value} {l : List Int} (h : IntsR w base v l) (o : Obj) : IntsR (w.alloc o) base v l := World.ownsRow.alloc h o
theorem IntsR.at {w : World} {base : Nat} {v : Value} {l : List Int} (h : IntsR w base v l) (hs : ∀ x ∈ l, In64 x) : IntsAt w w.heap.size v l := IntsAt.ofRow h hs
theorem IntsR.empty (w : World) : IntsR (w.alloc (.cells #[] 3)) w.heap.size (.slice (some ⟨w.heap.size, 0, none⟩) 0 0) [] :=
  ⟨rfl, .inr ⟨w.heap.size, 0, #[], rfl, Nat.le_refl _, heap_alloc_new w _, Nat.le_refl _, by simp [maxLen], rfl, rfl⟩⟩
theorem ints_new (w : World) (x : Int) (hx : In64 x) : IntsAt (w.alloc (.cells #[.int .i64 x] 3)) (w.alloc (.cells #[.int .i64 x] 3)).heap.size (.slice (some ⟨w.heap.size, 0, none⟩) 1 1) [x] :=
  ints_block (l := [x]) (Whole.new w 3 ([x].map (Value.int .i64))) (by simp) (by unfold maxLen; simp) (by intro y hy; simp at hy; rw [hy]; exact hx) 1
theorem ints_take {w : World} {B b off n cap : Nat} {l : List Int} (h : IntsAt w B (.slice (some ⟨b, off, none⟩) n cap) l) (k : Nat) (hk : k ≤ l.length) (cap' : Nat) : IntsAt w B (.slice (some ⟨b, off, none⟩) k cap') (l.take k) := by
  obtain ⟨ao, cap, b', off', hv, hm, ha, hc, hs⟩ := h
  have hl : (l.take k).length = k := by rw [List.length_take]; omega
  refine ⟨_, cap', b, off, by rw [hl], by rw [hl]; omega, fun hne => ⟨rfl, ?_⟩, fun i hi => ?_, fun x hx => hs x (List.mem_of_mem_take hx)⟩
  · have := ha (by intro h0; rw [h0] at hne; simp at hne)
    cases hv; cases this.1; exact this.2
  · rw [hl] at hi
    have := ha (by intro h0; rw [h0] at hk; simp at hk; omega)
    cases hv; cases this.1
    rw [hc i (by omega), List.getD_eq_getElem?_getD, List.getD_eq_getElem?_getD, List.getElem?_take, if_pos hi]
theorem ints_drop {w : World} {B b off n cap : Nat} {l : List Int} (h : IntsAt w B (.slice (some ⟨b, off, none⟩) n cap) l) (k : Nat) (hk : k ≤ l.length) (n' cap' : Nat) (hn : n' = l.length - k) : IntsAt w B (.slice (some ⟨b, off + k, none⟩) n' cap') (l.drop k) := by
  subst hn
  obtain ⟨ao, cap, b', off', hv, hm, ha, hc, hs⟩ := h
  have hl : (l.drop k).length = l.length - k := by rw [List.length_drop]
  refine ⟨_, cap', b, off + k, by rw [hl], by rw [hl]; omega, fun hne => ⟨rfl, ?_⟩, fun i hi => ?_, fun x hx => hs x (List.mem_of_mem_drop hx)⟩
  · have := ha (by intro h0; rw [h0] at hne; simp at hne)
    cases hv; cases this.1; exact this.2
  · rw [hl] at hi
    have := ha (by intro h0; rw [h0] at hi; simp at hi)
    cases hv; cases this.1
    rw [Nat.add_assoc, hc (k + i) (by omega), List.getD_eq_getElem?_getD, List.getD_eq_getElem?_getD, List.getElem?_drop]
theorem ints_nil (w : World) (B : Nat) (ad : Addr) (c : Nat) : IntsAt w B (.slice (some ad) 0 c) [] := ⟨_, c, 0, 0, rfl, Nat.zero_le _, fun h => absurd rfl h, fun i hi => absurd hi (Nat.not_lt_zero _), by simp⟩

section
variable (w : World)
theorem wpList_append_ints {ops : Array Oper} {rest : List Oper} {o : Oper} {a : Act} {Q : Exit → Act → World → Prop} (hgd : o.guard = none) (s x : Operand) (t : TypeId)
    (ho : o.op = .call { callee := .builtin .append, args := #[s, x], argTypes := #[t, t] }) (ht : Try.prog.underlying t = some (.slice 3))
    (base : Nat) (v xv : Value) (l m : List Int) (hs : a.eval s = v) (hr : IntsR w base v l) (hx : a.eval x = xv) (hxv : IntsAt w w.heap.size xv m) (hnil : Nilv xv)
    (h1 : l.length ≤ 1000000) (h2 : m.length ≤ 1000000) (hbase : base ≤ w.heap.size)
    (h : ∀ ao N c w', IntsR w' base (.slice ao N c) (l ++ m) → Below base w w' → N ≤ 2000000 → wpList Try.prog ops Q rest (a.put o.dst (.slice ao N c)) w') :
    wpList Try.prog ops Q (o :: rest) a w := by
  obtain ⟨i0, hi0, hz0, hz1, hz2⟩ := info_parts proofA.infoI
  obtain ⟨ao, cap, b, off, rfl, _, ha, hc, hn⟩ := hxv
  have hr' : w.ownsRow base 3 1 v l.length (l.map (Value.int .i64)) := hr
  refine wpList_append_opt w hgd s x t ho base 3 i0 (.int .i64 0) 8 ht hi0 hz0 hz1 hz2 rfl v l.length (l.map (Value.int .i64)) hs hr' ao m.length cap (m.map (Value.int .i64)) hx (fun h0 => ?_) (by simp) ?_ ?_ (by unfold maxLen; omega) (by omega) hbase ?_
  · subst h0; exact hnil _ _ rfl
  · intro ad had j u hu
    rw [List.getElem?_map] at hu
    obtain ⟨z, hz, rfl⟩ := Option.map_eq_some_iff.1 hu
    have hj := (List.getElem?_eq_some_iff.1 hz).1
    obtain ⟨rfl, _⟩ := ha (by intro h0; rw [h0] at hj; simp at hj)
    cases had
    rw [proofT.clsadd, hc j hj, List.getD_eq_getElem?_getD, hz]; rfl
  · intro u hu
    obtain ⟨j, hj, rfl⟩ := List.mem_map.1 hu
    rfl
  · intro v' w' ho' hg' _
    have hb : Below base w w' := (Below.refl base w).grown hg' hbase (fun j hj => (hr'.lt j hj).1)
    obtain ⟨a3, c3, hv3, _, _, _⟩ := cap_row ho'
    subst hv3
    refine h a3 _ c3 w' ?_ hb (by omega)
    unfold IntsR
    rw [List.length_append, List.map_append]
    exact ho'
end

theorem abs_any (l : Int) (w : World) (hl : lit l) : Calls Try.prog 69 #[.int .i64 l] w fun e w' => e = .returned (.int .i64 (l.natAbs : Nat)) ∧ w = w' := by
  have h1 : -20000 ≤ l := hl.2.1
  have h2 : l ≤ 20000 := hl.2.2
  clear hl
  by_cases h : l < 0
  · have HC : Hid (((l.natAbs : Nat) : Int) = -l) := Lib.hid (by omega)
    go_enter Try.func69, Try.ntmps69
    go_wp2
    go_ret
    exact ⟨ret_int (by rw [HC.out]), rfl⟩
  · have HC : Hid (((l.natAbs : Nat) : Int) = l) := Lib.hid (by omega)
    go_enter Try.func69, Try.ntmps69
    go_wp2
    go_ret
    exact ⟨ret_int (by rw [HC.out]), rfl⟩
set_option maxHeartbeats 1000000 in
theorem Less_any (a b : Int) (w : World) (ha : lit a) (hb : lit b) : Calls Try.prog 55 #[.int .i64 a, .int .i64 b] w fun e w' => e = .returned (.bool (less a b)) ∧ w = w' := by
  have HA := Lib.hid ha
  have HB := Lib.hid hb
  have HE : Hid (less a b = (decide (a.natAbs < b.natAbs) || (decide (a.natAbs = b.natAbs) && decide (a < b)))) := Lib.hid rfl
  clear ha hb
  generalize hx : a.natAbs = x at *
  generalize hy : b.natAbs = y at *
  have HX := Lib.hid hx
  have HY := Lib.hid hy
  clear hx hy
  by_cases h1 : x < y
  · have HE2 : Hid (less a b = true) := Lib.hid (by rw [HE.out]; simp [h1])
    go_enter Try.func55, Try.ntmps55
    go_wp2_with (first | (go_at_call 69; refine (abs_any a _ HA.out).mono ?_; rintro e w' ⟨rfl, rfl⟩; rw [HX.out]) | (go_at_call 69; refine (abs_any b _ HB.out).mono ?_; rintro e w' ⟨rfl, rfl⟩; rw [HY.out]))
    go_ret
    exact ⟨by rw [HE2.out]; rfl, rfl⟩
  · by_cases h2 : x = y
    · subst h2
      have HE2 : Hid (less a b = decide (a < b)) := Lib.hid (by rw [HE.out]; simp)
      clear HE
      go_enter Try.func55, Try.ntmps55
      go_wp2_with (first | (go_at_call 69; refine (abs_any a _ HA.out).mono ?_; rintro e w' ⟨rfl, rfl⟩; rw [HX.out]) | (go_at_call 69; refine (abs_any b _ HB.out).mono ?_; rintro e w' ⟨rfl, rfl⟩; rw [HY.out]))
      go_ret
      exact ⟨by rw [HE2.out]; rfl, rfl⟩
    · have HE2 : Hid (less a b = false) := Lib.hid (by rw [HE.out]; simp [h1, h2])
      have h2I : ((x : Int) == (y : Int)) = false := by rw [beq_eq_false_iff_ne]; omega
      have h2J : decide (x < y) = false := decide_eq_false h1
      clear HE h2
      go_enter Try.func55, Try.ntmps55
      go_wp2_with (first | (go_at_call 69; refine (abs_any a _ HA.out).mono ?_; rintro e w' ⟨rfl, rfl⟩; rw [HX.out]) | (go_at_call 69; refine (abs_any b _ HB.out).mono ?_; rintro e w' ⟨rfl, rfl⟩; rw [HY.out]))
      go_ret
      exact ⟨by rw [HE2.out]; rfl, rfl⟩

set_option maxHeartbeats 1000000 in
theorem In_any (cv : Value) (c : List Int) (x : Int) (w : World) (B : Nat) (hc : IntsAt w B cv c) :
    Calls Try.prog 23 #[cv, .int .i64 x] w fun e w' => e = .returned (.bool (decide (x ∈ c))) ∧ w = w' := by
  obtain ⟨ao, cap, b, off, rfl, hcm, ha, hcell, h64⟩ := hc
  have HA := Lib.hid ha
  have HC := Lib.hid hcell
  unfold maxLen at hcm
  clear ha hcell h64
  go_enter Try.func23, Try.ntmps23
  go_wp2
  go_loop [9] (fun it => ∃ k : Nat, k ≤ c.length ∧ it = .int .i64 k ∧ Hid (∀ j, j < k → c.getD j 0 ≠ x)) (fun it => c.length - (intOf it).toNat)
  case atStart => exact ⟨0, Nat.zero_le _, rfl, Lib.hid (fun j hj => absurd hj (Nat.not_lt_zero _))⟩
  case round =>
    obtain ⟨k, hk, rfl, hg⟩ := hrel
    by_cases hlt : k < c.length
    · obtain ⟨rfl, hbB⟩ := HA.out (by intro h0; rw [h0] at hlt; simp at hlt)
      have q := HC.out k hlt
      by_cases he : c.getD k 0 = x
      · have HE : Hid (decide (x ∈ c) = true) := Lib.hid (decide_eq_true (by rw [← he]; exact getD_mem hlt))
        rw [he] at q
        clear he hg
        go_wp2
        go_ret
        exact ⟨by rw [HE.out]; rfl, rfl⟩
      · have HF : Hid (∀ j, j < k + 1 → c.getD j 0 ≠ x) := Lib.hid (fun j hj => by
          by_cases e : j = k
          · rw [e]; exact he
          · exact hg.out j (by omega))
        generalize c.getD k 0 = l at *
        have he' : (l == x) = false := by simpa using he
        clear he hg
        go_wp2
        go_round
        case rel => exact ⟨k + 1, by omega, by go_num, HF⟩
        case measure => simp [intOf]; omega
    · obtain rfl : k = c.length := by omega
      have HE : Hid (decide (x ∈ c) = false) := Lib.hid (decide_eq_false (fun hl => by
        obtain ⟨j, hj, he⟩ := List.mem_iff_getElem.1 hl
        have := hg.out j hj
        rw [List.getD_eq_getElem?_getD, List.getElem?_eq_getElem hj] at this
        exact this (by simpa using he)))
      clear hg
      go_wp2
      go_ret
      exact ⟨by rw [HE.out]; rfl, rfl⟩

set_option maxHeartbeats 1000000 in
theorem Same_any (av bv : Value) (a b : List Int) (w : World) (B : Nat) (ha : IntsAt w B av a) (hb : IntsAt w B bv b) :
    Calls Try.prog 20 #[av, bv] w fun e w' => e = .returned (.bool (decide (a = b))) ∧ Below w.heap.size w w' := by
  obtain ⟨aa, capa, ba, offa, rfl, ham, haa, hac, _⟩ := ha
  obtain ⟨ab, capb, bb, offb, rfl, hbm, hab, hbc, _⟩ := hb
  have HA := Lib.hid haa
  have HAC := Lib.hid hac
  have HB := Lib.hid hab
  have HBC := Lib.hid hbc
  unfold maxLen at ham hbm
  clear haa hac hab hbc
  by_cases hl : a.length = b.length
  · have HLL := Lib.hid hl
    generalize hal : a.length = n at *
    generalize hbl : b.length = n' at *
    subst hl
    have HAL := Lib.hid hal
    have HBL := Lib.hid hbl
    clear hal hbl
    go_enter Try.func20, Try.ntmps20
    go_wp2
    go_loopw [13] (fun it wr => ∃ k : Nat, k ≤ n ∧ it = .int .i64 k ∧ Below w.heap.size w wr ∧ (∀ a, wr.cell? a = w.cell? a) ∧ Hid (∀ j, j < k → a.getD j 0 = b.getD j 0)) (fun it _ => n - (intOf it).toNat)
    case atStart => exact ⟨0, Nat.zero_le _, rfl, Below.refl _ _, fun _ => rfl, Lib.hid (fun j hj => absurd hj (Nat.not_lt_zero _))⟩
    case round =>
      obtain ⟨k, hk, rfl, hbel, hsame, hg⟩ := hrel
      by_cases hlt : k < n
      · obtain ⟨rfl, _⟩ := HA.out (by intro h0; rw [h0] at HAL; have := HAL.out; simp at this; omega)
        obtain ⟨rfl, _⟩ := HB.out (by intro h0; rw [h0] at HBL; have := HBL.out; simp at this; omega)
        have q1 : wr.cell? ⟨ba, offa + k, none⟩ = some (.int .i64 (a.getD k 0)) := (hsame _).trans (HAC.out k hlt)
        have q2 : wr.cell? ⟨bb, offb + k, none⟩ = some (.int .i64 (b.getD k 0)) := (hsame _).trans (HBC.out k hlt)
        have HBE := Lib.hid hbel
        have HSA := Lib.hid hsame
        have hkI : (0 : Int) ≤ (k : Int) := Int.natCast_nonneg _
        have hkJ : (k : Int) < (n : Int) := by omega
        by_cases he : a.getD k 0 = b.getD k 0
        · have HF : Hid (∀ j, j < k + 1 → a.getD j 0 = b.getD j 0) := Lib.hid (fun j hj => by
            by_cases e : j = k
            · rw [e]; exact he
            · exact hg.out j (by omega))
          rw [he] at q1
          generalize b.getD k 0 = y at *
          clear he hg hbel hsame
          go_wp2
          go_quiet (fail)
          go_wp2
          go_roundw
          case rel => exact ⟨k + 1, by omega, by go_num, HBE.out.trans (Go.Joins.below_draws _ _ _), fun a => HSA.out a, HF⟩
          case measure => simp [intOf]; omega
        · have HE : Hid (decide (a = b) = false) := Lib.hid (decide_eq_false (fun e => he (by rw [e])))
          generalize a.getD k 0 = x at *
          generalize b.getD k 0 = y at *
          have he' : (x != y) = true := by simpa using he
          clear he hg hbel hsame
          go_wp2
          go_quiet (fail)
          go_wp2
          go_ret
          exact ⟨by rw [HE.out]; rfl, HBE.out.trans (Go.Joins.below_draws _ _ _)⟩
      · obtain rfl : k = n := by omega
        have HE : Hid (decide (a = b) = true) := Lib.hid (decide_eq_true (by
          apply List.ext_getElem (HAL.out.trans HBL.out.symm)
          intro j h1 h2
          have := hg.out j (by rw [← HAL.out]; exact h1)
          rw [List.getD_eq_getElem?_getD, List.getElem?_eq_getElem h1, List.getD_eq_getElem?_getD, List.getElem?_eq_getElem h2] at this
          simpa using this))
        have HBE := Lib.hid hbel
        clear hbel hsame hg
        go_wp2
        go_ret
        exact ⟨by rw [HE.out]; rfl, HBE.out⟩
  · have HE : Hid (decide (a = b) = false) := Lib.hid (decide_eq_false (fun e => hl (by rw [e])))
    have hlI : ((a.length : Int) != (b.length : Int)) = true := by rw [bne_iff_ne]; omega
    clear hl
    go_enter Try.func20, Try.ntmps20
    go_wp2
    go_ret
    exact ⟨by rw [HE.out]; rfl, Below.refl _ _⟩
end Go.Proofs.Ytojjjndhabjhdaa.proofS
