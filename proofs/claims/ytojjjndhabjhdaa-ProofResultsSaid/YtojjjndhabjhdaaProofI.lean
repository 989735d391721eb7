/-
  Contract of proof.codesOf.
-/
import Derived.Test.YtojjjndhabjhdaaProofH
import Derived.Test.YtojjjndhabjhdaaShelf
import Derived.Sort.OwnSortedInts
import Derived.Lib.RowBridge
namespace Go.Proofs.Ytojjjndhabjhdaa.proofI
set_option linter.unusedSimpArgs false
set_option linter.unusedVariables false
open Go.ChangeShapes Go.WideShapes Go.ChangeAt Go.RowKit proofP proofQ owns proofA proofB proofC proofD proofE proofF proofG proofH cls

/-- what is left of numbers in order -/
def norm (zs : List Int) : List Int := Lib.compact (zs.mergeSort fun x y => decide (x ≤ y))
theorem sorted_ms (zs : List Int) : (zs.mergeSort fun x y => decide (x ≤ y)).Pairwise (· ≤ ·) := by
  have := List.pairwise_mergeSort (le := fun x y : Int => decide (x ≤ y)) (fun a b c h1 h2 => by simp at *; omega) (fun a b => by simp; omega) zs
  exact this.imp (by intro a b h; simpa using h)
theorem get_bang {zs : List Int} {j : Nat} (h : j < zs.length) : zs.toArray[j]! = zs[j] := by simp [getElem!_pos, h]
theorem compact_mem {zs : List Int} (x : Int) : x ∈ Lib.compact zs ↔ x ∈ zs := by
  unfold Lib.compact Lib.compactUpTo
  rw [List.mem_map]
  constructor
  · rintro ⟨j, hj, rfl⟩
    rw [List.mem_filter, List.mem_range] at hj
    rw [get_bang hj.1]; exact List.getElem_mem _
  · intro hx
    obtain ⟨j, hj, hjx⟩ := List.mem_iff_getElem.1 hx
    -- the least place of x
    have : ∃ j, (∃ h : j < zs.length, zs[j] = x) ∧ ∀ i, i < j → ∀ h : i < zs.length, zs[i] ≠ x := by
      have key : ∀ n, n < zs.length → (∃ h : n < zs.length, zs[n] = x) → ∃ j, (∃ h : j < zs.length, zs[j] = x) ∧ ∀ i, i < j → ∀ h : i < zs.length, zs[i] ≠ x := by
        intro n
        induction n using Nat.strongRecOn with
        | ind n ih =>
          intro hn hx
          by_cases h : ∃ i, i < n ∧ ∃ h : i < zs.length, zs[i] = x
          · obtain ⟨i, hi, h1, h2⟩ := h
            exact ih i hi h1 ⟨h1, h2⟩
          · exact ⟨n, hx, fun i hi h1 h2 => h ⟨i, hi, h1, h2⟩⟩
      exact key j hj ⟨hj, hjx⟩
    obtain ⟨j, ⟨hj, hjx⟩, hmin⟩ := this
    refine ⟨j, ?_, by rw [get_bang hj]; exact hjx⟩
    rw [List.mem_filter, List.mem_range]
    refine ⟨hj, ?_⟩
    by_cases h0 : j = 0
    · simp [Lib.keeps, h0]
    · refine Lib.keeps_pos ?_
      rw [get_bang hj, get_bang (show j - 1 < zs.length by omega), hjx]
      exact fun e => hmin (j - 1) (by omega) (by omega) e.symm
theorem compact_sorted {zs : List Int} (h : zs.Pairwise (· ≤ ·)) : (Lib.compact zs).Pairwise (· < ·) := by
  unfold Lib.compact Lib.compactUpTo
  rw [List.pairwise_map]
  have hr : ((List.range zs.length).filter (Lib.keeps zs.toArray)).Pairwise (· < ·) := List.Pairwise.filter _ List.pairwise_lt_range
  refine List.Pairwise.imp_of_mem ?_ hr
  intro a b ha hb hab
  rw [List.mem_filter, List.mem_range] at ha hb
  rw [get_bang ha.1, get_bang hb.1]
  have hk := hb.2
  simp only [Lib.keeps, decide_eq_true_eq] at hk
  have hne := hk.resolve_left (by omega)
  rw [get_bang hb.1, get_bang (show b - 1 < zs.length by omega)] at hne
  have hp := List.pairwise_iff_getElem.1 h
  have h1 : zs[b - 1] ≤ zs[b] := hp (b - 1) b (by omega) hb.1 (by omega)
  have h2 : zs[a] ≤ zs[b - 1] := by
    by_cases e : a = b - 1
    · subst e; exact Int.le_refl _
    · exact hp a (b - 1) ha.1 (by omega) (by omega)
  have : zs[b] ≠ zs[b - 1] := hne
  omega
theorem norm_mem {zs : List Int} (x : Int) : x ∈ norm zs ↔ x ∈ zs := by
  unfold norm; rw [compact_mem]; exact (List.mergeSort_perm zs _).mem_iff
theorem norm_sorted (zs : List Int) : (norm zs).Pairwise (· < ·) := compact_sorted (sorted_ms zs)

/-- a clause's codes, in order -/
def cods (c : List Int) : List Int := (c.filter fun l => decide (lit l)).map fun l => ((code l : Nat) : Int)
def rowOf (c : List Int) : List Nat := (norm (cods c)).map Int.toNat
theorem cods_snoc_yes (c : List Int) {l : Int} (h : lit l) : cods (c ++ [l]) = cods c ++ [((code l : Nat) : Int)] := by simp [cods, h]
theorem cods_snoc_no (c : List Int) {l : Int} (h : ¬ lit l) : cods (c ++ [l]) = cods c := by simp [cods, h]
theorem mem_cods {c : List Int} {x : Int} : x ∈ cods c ↔ ∃ l, l ∈ c ∧ lit l ∧ ((code l : Nat) : Int) = x := by simp [cods, and_assoc]
theorem row_back (c : List Int) : (rowOf c).map (fun x : Nat => (x : Int)) = norm (cods c) := by
  unfold rowOf
  rw [List.map_map]
  conv => rhs; rw [← List.map_id (norm (cods c))]
  apply List.map_congr_left
  intro x hx
  obtain ⟨l, _, _, rfl⟩ := mem_cods.1 ((norm_mem x).1 hx)
  simp
theorem row_is (c : List Int) : RowOf (rowOf c) c := by
  intro x
  have : x ∈ rowOf c ↔ (x : Int) ∈ norm (cods c) := by
    rw [← row_back]
    constructor
    · intro h; exact List.mem_map.2 ⟨x, h, rfl⟩
    · intro h
      obtain ⟨y, hy, e⟩ := List.mem_map.1 h
      have e' : y = x := by omega
      rw [← e']; exact hy
  rw [this, norm_mem, mem_cods]
  constructor
  · rintro ⟨l, h1, h2, h3⟩; exact ⟨l, h1, h2, by omega⟩
  · rintro ⟨l, h1, h2, h3⟩; exact ⟨l, h1, h2, by omega⟩
theorem row_sorted (c : List Int) : (rowOf c).Pairwise (· < ·) := by
  have := norm_sorted (cods c)
  rw [← row_back, List.pairwise_map] at this
  exact this.imp (by intro a b h; omega)
theorem row_nodup (c : List Int) : (rowOf c).Nodup := (row_sorted c).imp (by intro a b h e; omega)
theorem row_iv (c : List Int) : (rowOf c).map iv = (norm (cods c)).map (Value.int .i64) := by rw [← row_back, List.map_map]; rfl
theorem row_len (c : List Int) : (rowOf c).length = (norm (cods c)).length := by unfold rowOf; simp
theorem cods_len (c : List Int) : (cods c).length ≤ c.length := by unfold cods; simp only [List.length_map]; exact List.length_filter_le _ _

theorem own_cut {w : World} {B : Nat} {e : TypeId} {g cap n m : Nat} {xs : List Value} (h : w.ownsRow B e 1 (.slice (some ⟨g, 0, none⟩) n cap) n xs) (hm : m ≤ n) : w.ownsRow B e 1 (.slice (some ⟨g, 0, none⟩) m cap) m (xs.take m) := by
  have hl := h.1
  rcases h.2 with ⟨hv, _⟩ | ⟨g', cap', cur, hv, hb, hg, hn', hm', hc, ht⟩
  · cases hv
  · simp only [Value.slice.injEq, Option.some.injEq, Addr.mk.injEq, and_true] at hv
    obtain ⟨rfl, _, rfl⟩ := hv
    refine ⟨by simp; omega, .inr ⟨g, cap, cur, rfl, hb, hg, by omega, hm', hc, ?_⟩⟩
    rw [← ht, List.take_take]; congr 1; omega

open Go.Sort in
theorem own_holds {w : World} {B : Nat} {e : TypeId} {g cap : Nat} {zs : List Int} (h : w.ownsRow B e 1 (.slice (some ⟨g, 0, none⟩) zs.length cap) zs.length (zs.map (Value.int .i64))) : Holds (Value.int .i64) w g 0 zs.toArray ∧ g < w.heap.size ∧ zs.length ≤ cap := by
  rcases h.2 with ⟨hv, _⟩ | ⟨g', cap', cur, hv, hb, hg, hn', hm', hc, ht⟩
  · cases hv
  · simp only [Value.slice.injEq, Option.some.injEq, Addr.mk.injEq, and_true, true_and] at hv
    obtain ⟨rfl, rfl⟩ := hv
    exact ⟨holds_of_blockI hg (by rw [← ht]; congr 1; omega), (Array.getElem?_eq_some_iff.1 hg).1, hn'⟩
open Go.Sort in
theorem own_put {w : World} {B : Nat} {e : TypeId} {g cap : Nat} {zs ts : List Int} (h : w.ownsRow B e 1 (.slice (some ⟨g, 0, none⟩) zs.length cap) zs.length (zs.map (Value.int .i64))) (hl : ts.length = zs.length) (n : Nat) (os : Array Obj) :
    (grow (putRow (Value.int .i64) (Sort.ahead w n) g 0 ts.toArray) os).ownsRow B e 1 (.slice (some ⟨g, 0, none⟩) zs.length cap) zs.length (ts.map (Value.int .i64)) ∧ w.grownBy (grow (putRow (Value.int .i64) (Sort.ahead w n) g 0 ts.toArray) os) (some g) := by
  rcases h.2 with ⟨hv, _⟩ | ⟨g', cap', cur, hv, hb, hg, hn', hm', hc, ht⟩
  · cases hv
  · simp only [Value.slice.injEq, Option.some.injEq, Addr.mk.injEq, and_true, true_and] at hv
    obtain ⟨rfl, rfl⟩ := hv
    exact ⟨ownsRow_sortedI hl hb hg hn' hm' hc, grownBy_sortedI _⟩

set_option maxHeartbeats 2000000 in
set_option maxRecDepth 100000 in
theorem codesOf_any (w : World) (B : Nat) (cv : Value) (c : List Int) (hc : IntsAt w B cv c) (hB : B ≤ w.heap.size) (hcl : c.length ≤ 100000) :
    Calls Try.prog 42 #[cv] w fun e w' => ∃ v, e = .returned v ∧ w'.ownsRow w.heap.size 3 1 v (rowOf c).length ((rowOf c).map iv) ∧ Below w.heap.size w w' := by
  obtain ⟨ao, cap, b, off, rfl, hm, ha, hcell, h64⟩ := hc
  have HA := Lib.hid ha
  have HC := Lib.hid hcell
  clear ha hcell h64 hm
  obtain ⟨i0, hi, hz0, hz1, hz2⟩ := info_parts infoI
  go_enter Try.func42, Try.ntmps42
  go_wp2_with (at_make; refine wpList_make_own _ rfl _ _ 29 rfl w.heap.size 3 i0 (.int .i64 0) 1 Try.underlying29 hi hz0 hz1 .i64 .i64 _ c.length rfl rfl rfl ?c1 ?c2 ?c3 ?_)
  case c1 => rw [hz2]; omega
  case c2 => unfold maxLen; omega
  case c3 => exact Nat.le_refl _
  intro w1 hown hgrow
  have HOW : Hid (w1.ownsRow w.heap.size 3 1 (.slice (some ⟨w.heap.size, 0, none⟩) 0 c.length) (cods (c.take 0)).length ((cods (c.take 0)).map (Value.int .i64))) := Lib.hid (by simpa [cods] using hown)
  have HB1 := Lib.hid (below_grown hgrow (Nat.le_refl w.heap.size) (by intro k hk; cases hk))
  clear hown hgrow
  go_wp2
  go_loopw [3, 11] (fun v it wr => ∃ k : Nat, k ≤ c.length ∧ it = .int .i64 k ∧ wr.ownsRow w.heap.size 3 1 v (cods (c.take k)).length ((cods (c.take k)).map (Value.int .i64)) ∧ Below w.heap.size w wr ∧ (∃ ao n cap, v = .slice ao n cap)) (fun _ it _ => c.length - (intOf it).toNat)
  case atStart => exact ⟨0, Nat.zero_le _, rfl, HOW.out, HB1.out, _, _, _, rfl⟩
  case round =>
    obtain ⟨k, hk, rfl, hown, hb, av, nv, cpv, rfl⟩ := hrel
    clear HOW HB1
    have HB := Lib.hid hb
    have HO := Lib.hid hown
    by_cases hlt : k < c.length
    · obtain ⟨rfl, hbB⟩ := HA.out (by intro h0; rw [h0] at hlt; simp at hlt)
      have q : wr.cell? ⟨b, off + k, none⟩ = some (.int .i64 (c.getD k 0)) := by rw [hb.cell (show (⟨b, off + k, none⟩ : Addr).block < w.heap.size from by show b < _; omega)]; exact HC.out k hlt
      have hst : c.take (k + 1) = c.take k ++ [c.getD k 0] := by
        rw [List.take_succ_eq_append_getElem hlt, List.getD_eq_getElem?_getD, List.getElem?_eq_getElem hlt]; rfl
      have HST := Lib.hid hst
      generalize c.getD k 0 = l at *
      have hlen := cods_len (c.take k)
      have hlt2 : (c.take k).length ≤ k := List.length_take_le _ _
      have hsz := hb.size
      clear hb hown hst
      by_cases hlit : lit l
      · have HL := Lib.hid hlit
        have HE : Hid (cods (c.take (k + 1)) = cods (c.take k) ++ [((code l : Nat) : Int)]) := Lib.hid (by rw [HST.out, cods_snoc_yes _ hlit])
        have hcr := code_rng l hlit
        clear hlit
        go_wp2_with (first | (go_at_call 52; refine (isLit_yes _ _ HL.out).mono ?_; rintro e w' ⟨rfl, rfl⟩) | (go_at_call 53; refine (codeOf_lit _ _ HL.out).mono ?_; rintro e w' ⟨rfl, rfl⟩) | (at_builtin; refine wpList_append_own_at _ rfl (.tmp 17) (.tmp 20) 29 rfl w.heap.size 3 i0 (.int .i64 0) 1 8 Try.underlying29 hi hz0 hz1 hz2 rfl (by decide) _ (cods (c.take k)).length ((cods (c.take k)).map (Value.int .i64)) rfl (HO.out.alloc _) ⟨wr.heap.size, 0, none⟩ 1 1 [.int .i64 (code l : Nat)] rfl rfl (new_one _ _ _) ?d2 ?d3 ?d4 ?d5 ?_))
        case d2 => simp [Value.oneCell']
        case d3 => unfold maxLen; omega
        case d4 => omega
        case d5 => simp; omega
        intro v' w2 hown2 hgrow2 _ _
        obtain ⟨g2, cap2, rfl, _, _, _, _⟩ := own_form hown2 (by omega)
        have R1 : Hid (w2.ownsRow w.heap.size 3 1 (.slice (some ⟨g2, 0, none⟩) ((cods (c.take k)).length + 1) cap2) (cods (c.take (k + 1))).length ((cods (c.take (k + 1))).map (Value.int .i64))) := Lib.hid (by rw [HE.out]; simpa using hown2)
        have R2 := Lib.hid ((HB.out.alloc (by omega) _).grown hgrow2 (by simp; omega) (fun j hj => (HO.out.lt j hj).1))
        clear hown2 hgrow2 hcr
        go_wp2
        go_roundw
        case rel => exact ⟨k + 1, by omega, by go_num, R1.out, R2.out, _, _, _, rfl⟩
        case measure => simp [intOf]; omega
      · have HL := Lib.hid hlit
        have HE : Hid (cods (c.take (k + 1)) = cods (c.take k)) := Lib.hid (by rw [HST.out, cods_snoc_no _ hlit])
        clear hlit
        go_wp2_with (go_at_call 52; refine (isLit_no _ _ HL.out).mono ?_; rintro e w' ⟨rfl, rfl⟩)
        go_roundw
        case rel => exact ⟨k + 1, by omega, by go_num, by rw [HE.out]; exact HO.out, HB.out, _, _, _, rfl⟩
        case measure => simp [intOf]; omega
    · obtain rfl : k = c.length := by omega
      rw [List.take_length] at hown HO
      have hlen := cods_len c
      have hsz := hb.size
      clear hb
      have HE0 := Lib.hid (row_len c)
      have HEV := Lib.hid (row_iv c)
      by_cases h0 : (cods c).length = 0
      · have hc0 : cods c = [] := List.length_eq_zero_iff.1 h0
        have hn0 : nv = 0 := by
          rcases hown.2 with ⟨hv, _⟩ | ⟨_, _, _, hv, _⟩
          · cases hv; rfl
          · simp only [Value.slice.injEq] at hv; omega
        subst hn0
        have hnorm : norm (cods c) = [] := List.eq_nil_iff_forall_not_mem.2 (fun x hx => by rw [norm_mem, hc0] at hx; simp at hx)
        have HF : Hid (∀ v', wr.ownsRow w.heap.size 3 1 v' 0 [] → wr.ownsRow w.heap.size 3 1 v' (rowOf c).length ((rowOf c).map iv)) := Lib.hid (fun v' h => by rw [HE0.out, HEV.out, hnorm]; exact h)
        have HO' : Hid (wr.ownsRow w.heap.size 3 1 (.slice av 0 cpv) 0 []) := Lib.hid (by have := HO.out; rw [hc0] at this; exact this)
        clear hown hc0 hnorm
        go_wp2_with (first | (go_at_call 40; refine (Try.slices_Sort_int_none _ _ _).mono ?_; rintro e w' ⟨rfl, rfl⟩) | (go_at_call 54; refine (Try.slices_Compact_int_empty _ _ _).mono ?_; rintro e w' ⟨rfl, rfl⟩))
        go_ret
        exact ⟨_, rfl, HF.out _ HO'.out, HB.out⟩
      · obtain ⟨g, cap3, hv, hg1, hg2, hg3, hg4⟩ := own_form hown (by omega)
        simp only [Value.slice.injEq] at hv
        obtain ⟨rfl, rfl, rfl⟩ := hv
        obtain ⟨hH, hgl, hcp⟩ := own_holds hown
        have HS := Lib.hid (Try.slices_Sort_int g 0 cpv (cods c) wr hH hgl (by omega))
        have HL1 : Hid (((cods c).mergeSort fun x y => decide (x ≤ y)).length = (cods c).length) := Lib.hid (List.length_mergeSort _)
        have HN : Hid (norm (cods c) = Lib.compact ((cods c).mergeSort fun x y => decide (x ≤ y))) := Lib.hid rfl
        generalize ((cods c).mergeSort fun x y => decide (x ≤ y)) = ts at *
        clear hown hH h0
        go_wp2_with fail
        refine HS.out.mono ?_
        rintro e w2 ⟨rfl, n2, os2, hw2⟩
        obtain ⟨o2, g2⟩ := own_put HO.out HL1.out n2 os2
        rw [← hw2] at o2 g2
        clear hw2
        have o2' : w2.ownsRow w.heap.size 3 1 (.slice (some ⟨g, 0, none⟩) ts.length cpv) ts.length (ts.map (Value.int .i64)) := by rw [HL1.out]; exact o2
        obtain ⟨hH2, _, hcp2⟩ := own_holds o2'
        have HC2 := Lib.hid (Try.slices_Compact_int g 0 cpv ts w2 hH2 (by have := HL1.out; omega) hcp2)
        rw [HL1.out] at HC2
        have HO2 := Lib.hid o2'
        have HB2 := Lib.hid (HB.out.grown g2 hsz (fun k hk => by cases hk; exact hg1))
        have hsz2 := g2.size
        clear o2 g2 o2' hH2
        go_wp2_with fail
        refine HC2.out.mono ?_
        rintro e w3 ⟨rfl, q3, hw3⟩
        have hcl := Lib.compact_length_le ts
        have hzl : (Lib.compact ts ++ List.replicate ((cods c).length - (Lib.compact ts).length) 0).length = ts.length := by rw [List.length_append, List.length_replicate, HL1.out]; have := HL1.out; omega
        obtain ⟨o3, g3⟩ := own_put HO2.out hzl q3 #[]
        rw [Go.Sort.grow_empty, ← hw3] at o3 g3
        have o4 := own_cut (m := (Lib.compact ts).length) o3 hcl
        rw [← List.map_take, List.take_left'  rfl] at o4
        have HF : Hid (w3.ownsRow w.heap.size 3 1 (.slice (some ⟨g, 0, none⟩) (Lib.compact ts).length cpv) (rowOf c).length ((rowOf c).map iv)) := Lib.hid (by rw [HE0.out, HEV.out, HN.out]; exact o4)
        have HB3 := Lib.hid (HB2.out.grown g3 (by omega) (fun k hk => by cases hk; exact hg1))
        clear hw3 o3 g3 o4 hzl hcl
        go_wp2
        go_ret
        exact ⟨_, rfl, HF.out, HB3.out⟩
end Go.Proofs.Ytojjjndhabjhdaa.proofI
