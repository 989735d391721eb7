/-
  The reference's Match: its table row by row.
-/
import Derived.Test.YtlmfcacmfaihgaaGlobE
import Derived.Deep.LoopGhost
import Derived.StillTailTactics
namespace Go.Proofs.Ytlmfcacmfaihgaa.globM
open Go.ChangeShapes Go.WideShapes Go.ChangeAt Go.RowKit globP globQ globA globB globC globD globE

theorem infoB : (Try.prog.info? 4).map (fun i => (i.zero, i.size, i.bytes)) = some (some (.bool false), 1, 1) := by kernel_rfl

def canRow (P S : List UInt8) (n k : Nat) : List Bool := (List.range n).map fun j => gm (P.take k) (S.take j)
def nextRow (P S : List UInt8) (n k i : Nat) : List Bool := (List.range n).map fun j => if j < i then gm (P.take (k + 1)) (S.take j) else false

theorem can_at {P S : List UInt8} {n k j : Nat} (h : j < n) : ((canRow P S n k).map Value.bool)[j]? = some (.bool (gm (P.take k) (S.take j))) := by
  simp [canRow, h]
theorem next_at {P S : List UInt8} {n k i j : Nat} (h : j < n) (hi : j < i) : ((nextRow P S n k i).map Value.bool)[j]? = some (.bool (gm (P.take (k + 1)) (S.take j))) := by
  simp [nextRow, h, hi]
theorem next_at' {P S : List UInt8} {n k i j : Nat} (h : j < n) : ((nextRow P S n k i).map Value.bool)[j]? = some (.bool (if j < i then gm (P.take (k + 1)) (S.take j) else false)) := by
  simp [nextRow, h]
theorem next_set {P S : List UInt8} {n k i : Nat} {b : Bool} (hb : b = gm (P.take (k + 1)) (S.take i)) : ((nextRow P S n k i).map Value.bool).set i (.bool b) = (nextRow P S n k (i + 1)).map Value.bool := by
  apply List.ext_getElem?
  intro j
  rw [List.getElem?_set]
  by_cases hj : j < n
  · by_cases e : i = j
    · subst e
      rw [if_pos rfl, next_at' hj, if_pos (by simp [nextRow]; exact hj), if_pos (Nat.lt_succ_self _), hb]
    · rw [if_neg e, next_at' hj, next_at' hj]
      have : (j < i) = (j < i + 1) := by apply propext; omega
      simp [this]
  · have h1 : ∀ i, ((nextRow P S n k i).map Value.bool)[j]? = none := by intro i; simp [nextRow]; omega
    rw [h1, h1]
    split
    · rw [if_neg (by simp [nextRow]; omega)]
    · rfl
theorem next_done {P S : List UInt8} {n k : Nat} : nextRow P S n k n = canRow P S n (k + 1) := by
  unfold nextRow canRow
  apply List.map_congr_left
  intro j hj
  rw [if_pos (List.mem_range.1 hj)]
theorem next_start {P S : List UInt8} {n k : Nat} : (nextRow P S n k 0).map Value.bool = List.replicate n (.bool false) := by
  apply List.ext_getElem?
  intro j
  simp [nextRow, List.getElem?_replicate]
  split <;> simp_all
theorem made_is (n : Nat) : (madeCells #[Value.bool false] n).toList = List.replicate n (.bool false) := by
  apply List.ext_getElem?
  intro j
  by_cases h : j < n
  · simp [madeCells, h, Nat.mod_one]
  · simp [madeCells, h]
theorem can_start {P S : List UInt8} {n : Nat} (hn : n = S.length + 1) : (List.replicate n (Value.bool false)).set 0 (.bool true) = (canRow P S n 0).map Value.bool := by
  subst hn
  apply List.ext_getElem?
  intro j
  rw [List.getElem?_set]
  by_cases hj : j < S.length + 1
  · rw [can_at hj, List.take_zero, gm_nil]
    by_cases e : 0 = j
    · subst e; simp
    · rw [if_neg e, List.getElem?_replicate, if_pos hj]
      have : (S.take j).isEmpty = false := by
        rw [List.isEmpty_eq_false_iff, ← List.length_pos_iff, List.length_take]; omega
      rw [this]
  · have h1 : ((canRow P S (S.length + 1) 0).map Value.bool)[j]? = none := by simp [canRow]; omega
    rw [h1, if_neg (by omega), List.getElem?_replicate, if_neg hj]

/-- the four ways of a round -/
theorem pred_take {S : List UInt8} {i : Nat} (hi : 0 < i) : S.take i = S.take (i - 1 + 1) := by rw [Nat.sub_add_cancel hi]
theorem star_step {P S : List UInt8} {k i : Nat} (hk : P[k]? = some star) (hi : i + 1 ≤ S.length) : gm (P.take (k + 1)) (S.take (i + 1)) = (gm (P.take k) (S.take (i + 1)) || gm (P.take (k + 1)) (S.take i)) := by
  obtain ⟨h1, h2⟩ := List.getElem?_eq_some_iff.1 hk
  rw [List.take_succ_eq_append_getElem h1, h2, List.take_succ_eq_append_getElem (show i < S.length by omega), gm_snoc_star]
theorem star_zero {P S : List UInt8} {k : Nat} (hk : P[k]? = some star) : gm (P.take (k + 1)) (S.take 0) = gm (P.take k) (S.take 0) := by
  obtain ⟨h1, h2⟩ := List.getElem?_eq_some_iff.1 hk
  rw [List.take_succ_eq_append_getElem h1, h2, List.take_zero, gm_snoc_star_nil]
theorem lit_step {P S : List UInt8} {k i : Nat} {c d : UInt8} (hk : P[k]? = some c) (hc : c ≠ star) (hi : S[i]? = some d) : gm (P.take (k + 1)) (S.take (i + 1)) = (gm (P.take k) (S.take i) && d == c) := by
  obtain ⟨h1, h2⟩ := List.getElem?_eq_some_iff.1 hk
  obtain ⟨h3, h4⟩ := List.getElem?_eq_some_iff.1 hi
  rw [List.take_succ_eq_append_getElem h1, h2, List.take_succ_eq_append_getElem h3, h4, gm_snoc_lit _ _ _ _ hc]
theorem star_pred {P S : List UInt8} {k i : Nat} {b1 b2 : Bool} (hk : P[k]? = some star) (h0 : 0 < i) (hi : i ≤ S.length) (e1 : gm (P.take k) (S.take i) = b1) (e2 : gm (P.take (k + 1)) (S.take (i - 1)) = b2) : gm (P.take (k + 1)) (S.take i) = (b1 || b2) := by
  rw [pred_take h0, star_step hk (by omega), ← pred_take h0, e1, e2]
theorem lit_pred {P S : List UInt8} {k i : Nat} {c d : UInt8} {b1 : Bool} (hk : P[k]? = some c) (hc : c ≠ star) (h0 : 0 < i) (hi : S[i - 1]? = some d) (e1 : gm (P.take k) (S.take (i - 1)) = b1) : gm (P.take (k + 1)) (S.take i) = (b1 && d == c) := by
  rw [pred_take h0, lit_step hk hc hi, e1]
theorem lit_zero {P S : List UInt8} {k : Nat} {c : UInt8} (hk : P[k]? = some c) (hc : c ≠ star) : gm (P.take (k + 1)) (S.take 0) = false := by
  obtain ⟨h1, h2⟩ := List.getElem?_eq_some_iff.1 hk
  rw [List.take_succ_eq_append_getElem h1, h2, List.take_zero, gm_snoc_lit_nil _ _ hc]

def Own (w : World) (B g n : Nat) (l : List Bool) : Prop := w.ownsRow B 4 1 (.slice (some ⟨g, 0, none⟩) n n) n (l.map Value.bool)

theorem rel_store {w wi : World} {g g' n k i : Nat} {P S : List UInt8} {b : Bool} (hO : Own wi w.heap.size g' n (nextRow P S n k i)) (hC : Own wi w.heap.size g n (canRow P S n k)) (hB : Below w.heap.size w wi) (hne : ¬ g = g') (hb : b = gm (P.take (k + 1)) (S.take i)) :
    Own (wi.setCell ⟨g', i, none⟩ (.bool b)) w.heap.size g' n (nextRow P S n k (i + 1)) ∧ Own (wi.setCell ⟨g', i, none⟩ (.bool b)) w.heap.size g n (canRow P S n k) ∧ Below w.heap.size w (wi.setCell ⟨g', i, none⟩ (.bool b)) := by
  have hlt := hO.lt g' rfl
  obtain ⟨h1, h2⟩ := World.ownsRow.stored hO i (.bool b)
  refine ⟨?_, World.ownsRow.kept hC h2 (Or.inr (by simp [Value.ownBlock]; exact hne)), hB.setCell hlt.1 _⟩
  unfold Own
  rw [← next_set hb]; exact h1
theorem rel_store_drew {w wi : World} {g g' n k i : Nat} {P S : List UInt8} {b : Bool} (hO : Own wi w.heap.size g' n (nextRow P S n k i)) (hC : Own wi w.heap.size g n (canRow P S n k)) (hB : Below w.heap.size w wi) (hne : ¬ g = g') (hb : b = gm (P.take (k + 1)) (S.take i)) :
    Own (wi.setCell ⟨g', i, none⟩ (.bool b)).drew w.heap.size g' n (nextRow P S n k (i + 1)) ∧ Own (wi.setCell ⟨g', i, none⟩ (.bool b)).drew w.heap.size g n (canRow P S n k) ∧ Below w.heap.size w (wi.setCell ⟨g', i, none⟩ (.bool b)).drew := by
  obtain ⟨h1, h2, h3⟩ := rel_store hO hC hB hne hb
  exact ⟨World.ownsRow.drew h1, World.ownsRow.drew h2, h3.drew⟩

set_option maxRecDepth 100000 in
set_option maxHeartbeats 2000000 in
theorem ref_match (P S : ByteArray) (w : World) (hp : P.size ≤ 200) (hs : S.size ≤ 200) :
    Calls Try.prog 9 #[.string P, .string S] w fun e w' => e = .returned (.bool (gm P.data.toList S.data.toList)) ∧ Below w.heap.size w w' := by
  obtain ⟨i0, hi, hz0, hz1, hz2⟩ := info_parts infoB
  go_enter Try.func9, Try.ntmps9
  go_wp2_with (at_make; refine wpList_make_full _ rfl _ _ 26 rfl w.heap.size 4 i0 (.bool false) 1 Try.underlying26 hi hz0 hz1 .i64 .i64 _ _ (S.size + 1) rfl rfl ?c1 ?c2 ?c3 ?c4 ?c5 ?_)
  case c1 => omega
  case c2 => omega
  case c3 => rw [hz2]; omega
  case c4 => unfold maxLen; omega
  case c5 => omega
  intro w1 hown hgr
  rw [made_is] at hown
  have hc0 := (hown.cellAt 0 (by omega)).trans (by simp : (List.replicate (S.size + 1) (Value.bool false))[0]? = some (.bool false))
  have hf0 := hown.frozenAt 0
  obtain ⟨hown2, hgr2⟩ := hown.stored 0 (.bool true)
  rw [can_start (P := P.data.toList) (S := S.data.toList) (by simp)] at hown2
  have hb1 : Below w.heap.size w (w1.setCell ⟨w.heap.size, 0, none⟩ (.bool true)) := ((Below.refl _ _).grown hgr (Nat.le_refl _) (by intro k hk; cases hk)).setCell (Nat.le_refl _) _
  have Hown2 := Lib.hid hown2
  have Hgr := Lib.hid hb1
  clear hown hgr hgr2 hown2 hb1
  go_wp2
  go_loopw [5, 6] (fun v kk wr => ∃ (k g : Nat), k ≤ P.size ∧ v = .slice (some ⟨g, 0, none⟩) (S.size + 1) (S.size + 1) ∧ kk = .int .i64 k ∧ Own wr w.heap.size g (S.size + 1) (canRow P.data.toList S.data.toList (S.size + 1) k) ∧ Below w.heap.size w wr)
    (fun _ kk _ => P.size - (intOf kk).toNat)
  case atStart => exact ⟨0, w.heap.size, Nat.zero_le _, rfl, rfl, Hown2.out, Hgr.out⟩
  case round =>
    obtain ⟨k, g, hk, rfl, rfl, hown, hb⟩ := hrel
    clear hc0 hf0 Hown2 Hgr
    by_cases hlt : k < P.size
    · have hg := World.ownsRow.lt hown g rfl
      have HO := Lib.hid hown
      have HB := Lib.hid hb
      have hsz := hb.size
      clear hown hb
      go_wp2_with (at_make; refine wpList_make_full _ rfl _ _ 26 rfl w.heap.size 4 i0 (.bool false) 1 Try.underlying26 hi hz0 hz1 .i64 .i64 _ _ (S.size + 1) rfl rfl ?c1 ?c2 ?c3 ?c4 ?c5 ?_)
      case c1 => omega
      case c2 => omega
      case c3 => rw [hz2]; omega
      case c4 => unfold maxLen; omega
      case c5 => omega
      intro w2 hown2 hgr2
      rw [made_is, ← next_start (P := P.data.toList) (S := S.data.toList) (k := k)] at hown2
      have HO2 : Hid (Own w2 w.heap.size wr.heap.size (S.size + 1) _) := Lib.hid hown2
      have HB2 := Lib.hid (HB.out.grown hgr2 hsz (by intro k hk; cases hk))
      have HC2 : Hid (Own w2 w.heap.size g (S.size + 1) _) := Lib.hid (World.ownsRow.kept HO.out hgr2 (Or.inr (by simp [Value.ownBlock])))
      clear hown2 hgr2 HO HB
      have hne : ¬ g = wr.heap.size := by omega
      generalize wr.heap.size = g' at *
      go_wp2
      go_loopw [8] (fun ii wi => ∃ (i : Nat), i ≤ S.size + 1 ∧ ii = .int .i64 i ∧ Own wi w.heap.size g' (S.size + 1) (nextRow P.data.toList S.data.toList (S.size + 1) k i) ∧ Own wi w.heap.size g (S.size + 1) (canRow P.data.toList S.data.toList (S.size + 1) k) ∧ Below w.heap.size w wi)
        (fun ii _ => S.size + 1 - (intOf ii).toNat)
      case atStart => exact ⟨0, Nat.zero_le _, rfl, HO2.out, HC2.out, HB2.out⟩
      case round =>
        clear HO2 HB2 HC2
        obtain ⟨i, hi2, rfl, hO, hC, hB⟩ := hrel
        by_cases hil : i < S.size + 1
        · have hcO := (World.ownsRow.cellAt hO i (by omega)).trans (next_at' hil)
          have hfO := World.ownsRow.frozenAt hO i
          have hcC := (World.ownsRow.cellAt hC i (by omega)).trans (can_at hil)
          have HO := Lib.hid hO
          have HC := Lib.hid hC
          have HB := Lib.hid hB
          by_cases h2 : P[k] = star
          · have hv : ((P[k].toNat : Int) == 42) = true := by rw [h2]; rfl
            have hat : P.data.toList[k]? = some star := by rw [bat P k hlt, h2]
            have Hat := Lib.hid hat
            clear h2 hat hO hC hB
            generalize hb1 : gm (P.data.toList.take k) (S.data.toList.take i) = b1 at *
            by_cases hi0 : 0 < i
            · have hcN := (World.ownsRow.cellAt HO.out (i - 1) (by omega)).trans (next_at (show i - 1 < S.size + 1 by omega) (show i - 1 < i by omega))
              generalize hb2 : gm (P.data.toList.take (k + 1)) (S.data.toList.take (i - 1)) = b2 at *
              have hv2 := Lib.hid (star_pred Hat.out hi0 (by simp; omega) hb1 hb2)
              clear hb1 hb2
              cases b1
              · go_wp2
                have hr := rel_store HO.out HC.out HB.out hne hv2.out.symm
                go_roundw
                case rel => exact ⟨i + 1, by omega, by go_num, hr.1, hr.2.1, hr.2.2⟩
                case measure => simp [intOf]; omega
              · go_wp2
                have hr := rel_store HO.out HC.out HB.out hne hv2.out.symm
                go_roundw
                case rel => exact ⟨i + 1, by omega, by go_num, hr.1, hr.2.1, hr.2.2⟩
                case measure => simp [intOf]; omega
            · obtain rfl : i = 0 := by omega
              have hv2 := Lib.hid ((star_zero (S := S.data.toList) Hat.out).trans hb1)
              clear hb1
              cases b1
              · go_wp2
                have hr := rel_store HO.out HC.out HB.out hne hv2.out.symm
                go_roundw
                case rel => exact ⟨0 + 1, by omega, by go_num, hr.1, hr.2.1, hr.2.2⟩
                case measure => simp [intOf]
              · go_wp2
                have hr := rel_store HO.out HC.out HB.out hne hv2.out.symm
                go_roundw
                case rel => exact ⟨0 + 1, by omega, by go_num, hr.1, hr.2.1, hr.2.2⟩
                case measure => simp [intOf]
          · have hv : ((P[k].toNat : Int) == 42) = false := by
              rw [beq_eq_false_iff_ne]; intro h; apply h2; exact UInt8.toNat_inj.1 (show P[k].toNat = 42 by omega)
            have H2 := Lib.hid h2
            clear h2 hO hC hB hcC
            by_cases hi0 : 0 < i
            · have hcN := (World.ownsRow.cellAt HC.out (i - 1) (by omega)).trans (can_at (show i - 1 < S.size + 1 by omega))
              generalize hb1 : gm (P.data.toList.take k) (S.data.toList.take (i - 1)) = b1 at *
              have hil2 : i - 1 < S.size := by omega
              have hv2 := Lib.hid (lit_pred (bat P k hlt) H2.out hi0 (bat S (i - 1) hil2) hb1)
              clear hb1
              cases b1
              · have hv4 : Hid (gm (P.data.toList.take (k + 1)) (S.data.toList.take i) = false) := Lib.hid hv2.out
                clear hv2
                go_wp2
                go_region
                go_wp2
                have hr := rel_store_drew HO.out HC.out HB.out hne hv4.out.symm
                go_roundw
                case rel => exact ⟨i + 1, by omega, by go_num, hr.1, hr.2.1, hr.2.2⟩
                case measure => simp [intOf]; omega
              · by_cases he : S[i - 1] = P[k]
                · have hv3 : ((S[i - 1].toNat : Int) == (P[k].toNat : Int)) = true := by rw [he]; simp
                  have hv4 : Hid (gm (P.data.toList.take (k + 1)) (S.data.toList.take i) = true) := Lib.hid (by rw [hv2.out, he]; simp)
                  clear he hv2
                  have q0 : 0 < (i : Int) := by omega
                  have q2 : (1 : Int) ≤ i := by omega
                  have q5 : (i : Int) - 1 < (S.size : Int) := by omega
                  have q6 : (i : Int) - 1 < (S.size : Int) + 1 := by omega
                  have q7 : (i : Int) < (S.size : Int) + 1 := by omega
                  have q8 : (k : Int) < (P.size : Int) := by omega
                  have q4 : i - 1 < S.size + 1 := by omega
                  go_wp2
                  have q1 : IntKind.i64.wrap ((i : Int) - 1) = (i : Int) - 1 := IntWalk.i64_in _ (by omega)
                  have q3 : ((i : Int) - 1).toNat = i - 1 := by omega
                  go_still_tail 22, (by kernel_rfl)
                  clear q1
                  change wpList _ _ _ _ _ wr.drew
                  go_wp2
                  have hr := rel_store_drew HO.out HC.out HB.out hne hv4.out.symm
                  go_roundw
                  case rel => exact ⟨i + 1, by omega, by go_num, hr.1, hr.2.1, hr.2.2⟩
                  case measure => simp [intOf]; omega
                · have hv3 : ((S[i - 1].toNat : Int) == (P[k].toNat : Int)) = false := by
                    rw [beq_eq_false_iff_ne]; intro h; apply he; exact UInt8.toNat_inj.1 (by omega)
                  have hv4 : Hid (gm (P.data.toList.take (k + 1)) (S.data.toList.take i) = false) := Lib.hid (by rw [hv2.out]; simp [he])
                  clear he hv2
                  have q0 : 0 < (i : Int) := by omega
                  have q2 : (1 : Int) ≤ i := by omega
                  have q5 : (i : Int) - 1 < (S.size : Int) := by omega
                  have q6 : (i : Int) - 1 < (S.size : Int) + 1 := by omega
                  have q7 : (i : Int) < (S.size : Int) + 1 := by omega
                  have q8 : (k : Int) < (P.size : Int) := by omega
                  have q4 : i - 1 < S.size + 1 := by omega
                  go_wp2
                  have q1 : IntKind.i64.wrap ((i : Int) - 1) = (i : Int) - 1 := IntWalk.i64_in _ (by omega)
                  have q3 : ((i : Int) - 1).toNat = i - 1 := by omega
                  go_still_tail 22, (by kernel_rfl)
                  clear q1
                  change wpList _ _ _ _ _ wr.drew
                  go_wp2
                  have hr := rel_store_drew HO.out HC.out HB.out hne hv4.out.symm
                  go_roundw
                  case rel => exact ⟨i + 1, by omega, by go_num, hr.1, hr.2.1, hr.2.2⟩
                  case measure => simp [intOf]; omega
            · obtain rfl : i = 0 := by omega
              have hv2 := Lib.hid (lit_zero (S := S.data.toList) (bat P k hlt) H2.out)
              go_wp2
              go_region
              go_wp2
              have hr := rel_store_drew HO.out HC.out HB.out hne hv2.out.symm
              go_roundw
              case rel => exact ⟨0 + 1, by omega, by go_num, hr.1, hr.2.1, hr.2.2⟩
              case measure => simp [intOf]
        · obtain rfl : i = S.size + 1 := by omega
          rw [next_done] at hO
          have HO := Lib.hid hO
          have HB := Lib.hid hB
          clear hO hC hB
          go_wp2
          go_roundw
          case rel => exact ⟨k + 1, g', by omega, rfl, by go_num, HO.out, HB.out⟩
          case measure => simp [intOf]; omega
    · obtain rfl : k = P.size := by omega
      have hcC := (World.ownsRow.cellAt hown S.size (by omega)).trans (can_at (show S.size < S.size + 1 by omega))
      have hr : Hid (gm (P.data.toList.take P.size) (S.data.toList.take S.size) = gm P.data.toList S.data.toList) := Lib.hid (by
        rw [List.take_of_length_le (by simp), List.take_of_length_le (by simp)])
      have HB := Lib.hid hb
      clear hown hb
      go_wp2
      go_ret
      exact ⟨ret_bool hr.out, HB.out⟩

theorem below_drewN' (w : World) (n : Nat) : Below w.heap.size w (w.drewN n) := by
  induction n with
  | zero => exact Below.refl _ _
  | succ n ih => exact ih.drew

theorem law_matches (P S : ByteArray) (w : World) :
    Calls Try.prog 3 #[.string P, .string S] w fun e w' => e = .returned (.bool true) ∧ Below w.heap.size w w' := by
  by_cases h1 : 200 < P.size
  · go_enter Try.func3, Try.ntmps3
    go_wp2_with fail
    refine (globD.alive _).mono ?_
    rintro e w' ⟨rfl, n1', rfl⟩
    go_wp2
    go_ret
    exact ⟨rfl, (below_drewN' _ _)⟩
  by_cases h2 : 200 < S.size
  · go_enter Try.func3, Try.ntmps3
    go_wp2_with fail
    refine (globD.alive _).mono ?_
    rintro e w' ⟨rfl, n1', rfl⟩
    go_wp2
    go_ret
    exact ⟨rfl, (below_drewN' _ _)⟩
  go_enter Try.func3, Try.ntmps3
  go_wp2_with fail
  refine (globD.alive _).mono ?_
  rintro e w' ⟨rfl, n1', rfl⟩
  go_wp2_with fail
  refine (match_any _ _ _ (by unfold maxLen; omega) (by unfold maxLen; omega)).mono ?_
  rintro e w' ⟨rfl, n2', rfl⟩
  go_wp2_with fail
  refine (ref_match _ _ _ (by omega) (by omega)).mono ?_
  rintro e w' ⟨rfl, hb⟩
  go_wp2
  go_ret
  exact ⟨ret_bool (by simp), (below_drewN' _ _).trans hb⟩

end Go.Proofs.Ytlmfcacmfaihgaa.globM
