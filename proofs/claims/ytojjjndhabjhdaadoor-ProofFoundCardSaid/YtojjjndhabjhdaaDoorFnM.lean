/-
  Contract of proof.codesOf.
  proof.newProver: its memory while rows are collected, and while watches are laid.
  proof.newProver: while watches are laid.
-/
import Derived.Test.YtojjjndhabjhdaaDoorFmM
import Derived.Test.YtojjjndhabjhdaaDoorShelf
import Derived.Sort.OwnSortedInts
import Derived.Lib.RowBridge
namespace Go.Proofs.YtojjjndhabjhdaaDoor.proofI
set_option linter.unusedSimpArgs false
set_option linter.unusedVariables false
open Go.ChangeShapes Go.WideShapes Go.ChangeAt Go.RowKit proofP proofQ owns proofA proofB proofC proofD proofE proofF proofG proofH cls

/-- what is left of numbers in order -/
def norm (zs : List Int) : List Int := Lib.compact (zs.mergeSort fun x y => decide (x ≤ y))
theorem sorted_ms (zs : List Int) : (zs.mergeSort fun x y => decide (x ≤ y)).Pairwise (· ≤ ·) := by
  have := List.pairwise_mergeSort (le := fun x y : Int => decide (x ≤ y)) (fun a b c h1 h2 => by simp at *; omega) (fun a b => by simp; omega) zs
  exact this.imp (by intro a b h; simpa using h)
theorem get_bang {zs : List Int} {j : Nat} (h : j < zs.length) : zs.toArray[j]! = zs[j] := by simp [getElem!_pos, h]
theorem compact_mem {zs : List Int} (x : Int) : x ∈ Lib.compact zs ↔ x ∈ zs := by
  unfold Lib.compact Lib.compactUpTo
  rw [List.mem_map]
  constructor
  · rintro ⟨j, hj, rfl⟩
    rw [List.mem_filter, List.mem_range] at hj
    rw [get_bang hj.1]; exact List.getElem_mem _
  · intro hx
    obtain ⟨j, hj, hjx⟩ := List.mem_iff_getElem.1 hx
    -- the least place of x
    have : ∃ j, (∃ h : j < zs.length, zs[j] = x) ∧ ∀ i, i < j → ∀ h : i < zs.length, zs[i] ≠ x := by
      have key : ∀ n, n < zs.length → (∃ h : n < zs.length, zs[n] = x) → ∃ j, (∃ h : j < zs.length, zs[j] = x) ∧ ∀ i, i < j → ∀ h : i < zs.length, zs[i] ≠ x := by
        intro n
        induction n using Nat.strongRecOn with
        | ind n ih =>
          intro hn hx
          by_cases h : ∃ i, i < n ∧ ∃ h : i < zs.length, zs[i] = x
          · obtain ⟨i, hi, h1, h2⟩ := h
            exact ih i hi h1 ⟨h1, h2⟩
          · exact ⟨n, hx, fun i hi h1 h2 => h ⟨i, hi, h1, h2⟩⟩
      exact key j hj ⟨hj, hjx⟩
    obtain ⟨j, ⟨hj, hjx⟩, hmin⟩ := this
    refine ⟨j, ?_, by rw [get_bang hj]; exact hjx⟩
    rw [List.mem_filter, List.mem_range]
    refine ⟨hj, ?_⟩
    by_cases h0 : j = 0
    · simp [Lib.keeps, h0]
    · refine Lib.keeps_pos ?_
      rw [get_bang hj, get_bang (show j - 1 < zs.length by omega), hjx]
      exact fun e => hmin (j - 1) (by omega) (by omega) e.symm
theorem compact_sorted {zs : List Int} (h : zs.Pairwise (· ≤ ·)) : (Lib.compact zs).Pairwise (· < ·) := by
  unfold Lib.compact Lib.compactUpTo
  rw [List.pairwise_map]
  have hr : ((List.range zs.length).filter (Lib.keeps zs.toArray)).Pairwise (· < ·) := List.Pairwise.filter _ List.pairwise_lt_range
  refine List.Pairwise.imp_of_mem ?_ hr
  intro a b ha hb hab
  rw [List.mem_filter, List.mem_range] at ha hb
  rw [get_bang ha.1, get_bang hb.1]
  have hk := hb.2
  simp only [Lib.keeps, decide_eq_true_eq] at hk
  have hne := hk.resolve_left (by omega)
  rw [get_bang hb.1, get_bang (show b - 1 < zs.length by omega)] at hne
  have hp := List.pairwise_iff_getElem.1 h
  have h1 : zs[b - 1] ≤ zs[b] := hp (b - 1) b (by omega) hb.1 (by omega)
  have h2 : zs[a] ≤ zs[b - 1] := by
    by_cases e : a = b - 1
    · subst e; exact Int.le_refl _
    · exact hp a (b - 1) ha.1 (by omega) (by omega)
  have : zs[b] ≠ zs[b - 1] := hne
  omega
theorem norm_mem {zs : List Int} (x : Int) : x ∈ norm zs ↔ x ∈ zs := by
  unfold norm; rw [compact_mem]; exact (List.mergeSort_perm zs _).mem_iff
theorem norm_sorted (zs : List Int) : (norm zs).Pairwise (· < ·) := compact_sorted (sorted_ms zs)

/-- a clause's codes, in order -/
def cods (c : List Int) : List Int := (c.filter fun l => decide (lit l)).map fun l => ((code l : Nat) : Int)
def rowOf (c : List Int) : List Nat := (norm (cods c)).map Int.toNat
theorem cods_snoc_yes (c : List Int) {l : Int} (h : lit l) : cods (c ++ [l]) = cods c ++ [((code l : Nat) : Int)] := by simp [cods, h]
theorem cods_snoc_no (c : List Int) {l : Int} (h : ¬ lit l) : cods (c ++ [l]) = cods c := by simp [cods, h]
theorem mem_cods {c : List Int} {x : Int} : x ∈ cods c ↔ ∃ l, l ∈ c ∧ lit l ∧ ((code l : Nat) : Int) = x := by simp [cods, and_assoc]
theorem row_back (c : List Int) : (rowOf c).map (fun x : Nat => (x : Int)) = norm (cods c) := by
  unfold rowOf
  rw [List.map_map]
  conv => rhs; rw [← List.map_id (norm (cods c))]
  apply List.map_congr_left
  intro x hx
  obtain ⟨l, _, _, rfl⟩ := mem_cods.1 ((norm_mem x).1 hx)
  simp
theorem row_is (c : List Int) : RowOf (rowOf c) c := by
  intro x
  have : x ∈ rowOf c ↔ (x : Int) ∈ norm (cods c) := by
    rw [← row_back]
    constructor
    · intro h; exact List.mem_map.2 ⟨x, h, rfl⟩
    · intro h
      obtain ⟨y, hy, e⟩ := List.mem_map.1 h
      have e' : y = x := by omega
      rw [← e']; exact hy
  rw [this, norm_mem, mem_cods]
  constructor
  · rintro ⟨l, h1, h2, h3⟩; exact ⟨l, h1, h2, by omega⟩
  · rintro ⟨l, h1, h2, h3⟩; exact ⟨l, h1, h2, by omega⟩
theorem row_sorted (c : List Int) : (rowOf c).Pairwise (· < ·) := by
  have := norm_sorted (cods c)
  rw [← row_back, List.pairwise_map] at this
  exact this.imp (by intro a b h; omega)
theorem row_nodup (c : List Int) : (rowOf c).Nodup := (row_sorted c).imp (by intro a b h e; omega)
theorem row_iv (c : List Int) : (rowOf c).map iv = (norm (cods c)).map (Value.int .i64) := by rw [← row_back, List.map_map]; rfl
theorem row_len (c : List Int) : (rowOf c).length = (norm (cods c)).length := by unfold rowOf; simp
theorem cods_len (c : List Int) : (cods c).length ≤ c.length := by unfold cods; simp only [List.length_map]; exact List.length_filter_le _ _

theorem own_cut {w : World} {B : Nat} {e : TypeId} {g cap n m : Nat} {xs : List Value} (h : w.ownsRow B e 1 (.slice (some ⟨g, 0, none⟩) n cap) n xs) (hm : m ≤ n) : w.ownsRow B e 1 (.slice (some ⟨g, 0, none⟩) m cap) m (xs.take m) := by
  have hl := h.1
  rcases h.2 with ⟨hv, _⟩ | ⟨g', cap', cur, hv, hb, hg, hn', hm', hc, ht⟩
  · cases hv
  · simp only [Value.slice.injEq, Option.some.injEq, Addr.mk.injEq, and_true] at hv
    obtain ⟨rfl, _, rfl⟩ := hv
    refine ⟨by simp; omega, .inr ⟨g, cap, cur, rfl, hb, hg, by omega, hm', hc, ?_⟩⟩
    rw [← ht, List.take_take]; congr 1; omega

open Go.Sort in
theorem own_holds {w : World} {B : Nat} {e : TypeId} {g cap : Nat} {zs : List Int} (h : w.ownsRow B e 1 (.slice (some ⟨g, 0, none⟩) zs.length cap) zs.length (zs.map (Value.int .i64))) : Holds (Value.int .i64) w g 0 zs.toArray ∧ g < w.heap.size ∧ zs.length ≤ cap := by
  rcases h.2 with ⟨hv, _⟩ | ⟨g', cap', cur, hv, hb, hg, hn', hm', hc, ht⟩
  · cases hv
  · simp only [Value.slice.injEq, Option.some.injEq, Addr.mk.injEq, and_true, true_and] at hv
    obtain ⟨rfl, rfl⟩ := hv
    exact ⟨holds_of_blockI hg (by rw [← ht]; congr 1; omega), (Array.getElem?_eq_some_iff.1 hg).1, hn'⟩
open Go.Sort in
theorem own_put {w : World} {B : Nat} {e : TypeId} {g cap : Nat} {zs ts : List Int} (h : w.ownsRow B e 1 (.slice (some ⟨g, 0, none⟩) zs.length cap) zs.length (zs.map (Value.int .i64))) (hl : ts.length = zs.length) (n : Nat) (os : Array Obj) :
    (grow (putRow (Value.int .i64) (Sort.ahead w n) g 0 ts.toArray) os).ownsRow B e 1 (.slice (some ⟨g, 0, none⟩) zs.length cap) zs.length (ts.map (Value.int .i64)) ∧ w.grownBy (grow (putRow (Value.int .i64) (Sort.ahead w n) g 0 ts.toArray) os) (some g) := by
  rcases h.2 with ⟨hv, _⟩ | ⟨g', cap', cur, hv, hb, hg, hn', hm', hc, ht⟩
  · cases hv
  · simp only [Value.slice.injEq, Option.some.injEq, Addr.mk.injEq, and_true, true_and] at hv
    obtain ⟨rfl, rfl⟩ := hv
    exact ⟨ownsRow_sortedI hl hb hg hn' hm' hc, grownBy_sortedI _⟩

set_option maxHeartbeats 2000000 in
set_option maxRecDepth 100000 in
theorem codesOf_any (w : World) (B : Nat) (cv : Value) (c : List Int) (hc : IntsAt w B cv c) (hB : B ≤ w.heap.size) (hcl : c.length ≤ 100000) :
    Calls Tryd.prog 47 #[cv] w fun e w' => ∃ v, e = .returned v ∧ w'.ownsRow w.heap.size 3 1 v (rowOf c).length ((rowOf c).map iv) ∧ Below w.heap.size w w' := by
  obtain ⟨ao, cap, b, off, rfl, hm, ha, hcell, h64⟩ := hc
  have HA := Lib.hid ha
  have HC := Lib.hid hcell
  clear ha hcell h64 hm
  obtain ⟨i0, hi, hz0, hz1, hz2⟩ := info_parts infoI
  go_enter Tryd.func47, Tryd.ntmps47
  go_wp2_with (at_make; refine wpList_make_own _ rfl _ _ 23 rfl w.heap.size 3 i0 (.int .i64 0) 1 Tryd.underlying23 hi hz0 hz1 .i64 .i64 _ c.length rfl rfl rfl ?c1 ?c2 ?c3 ?_)
  case c1 => rw [hz2]; omega
  case c2 => unfold maxLen; omega
  case c3 => exact Nat.le_refl _
  intro w1 hown hgrow
  have HOW : Hid (w1.ownsRow w.heap.size 3 1 (.slice (some ⟨w.heap.size, 0, none⟩) 0 c.length) (cods (c.take 0)).length ((cods (c.take 0)).map (Value.int .i64))) := Lib.hid (by simpa [cods] using hown)
  have HB1 := Lib.hid (below_grown hgrow (Nat.le_refl w.heap.size) (by intro k hk; cases hk))
  clear hown hgrow
  go_wp2
  go_loopw [3, 11] (fun v it wr => ∃ k : Nat, k ≤ c.length ∧ it = .int .i64 k ∧ wr.ownsRow w.heap.size 3 1 v (cods (c.take k)).length ((cods (c.take k)).map (Value.int .i64)) ∧ Below w.heap.size w wr ∧ (∃ ao n cap, v = .slice ao n cap)) (fun _ it _ => c.length - (intOf it).toNat)
  case atStart => exact ⟨0, Nat.zero_le _, rfl, HOW.out, HB1.out, _, _, _, rfl⟩
  case round =>
    obtain ⟨k, hk, rfl, hown, hb, av, nv, cpv, rfl⟩ := hrel
    clear HOW HB1
    have HB := Lib.hid hb
    have HO := Lib.hid hown
    by_cases hlt : k < c.length
    · obtain ⟨rfl, hbB⟩ := HA.out (by intro h0; rw [h0] at hlt; simp at hlt)
      have q : wr.cell? ⟨b, off + k, none⟩ = some (.int .i64 (c.getD k 0)) := by rw [hb.cell (show (⟨b, off + k, none⟩ : Addr).block < w.heap.size from by show b < _; omega)]; exact HC.out k hlt
      have hst : c.take (k + 1) = c.take k ++ [c.getD k 0] := by
        rw [List.take_succ_eq_append_getElem hlt, List.getD_eq_getElem?_getD, List.getElem?_eq_getElem hlt]; rfl
      have HST := Lib.hid hst
      generalize c.getD k 0 = l at *
      have hlen := cods_len (c.take k)
      have hlt2 : (c.take k).length ≤ k := List.length_take_le _ _
      have hsz := hb.size
      clear hb hown hst
      by_cases hlit : lit l
      · have HL := Lib.hid hlit
        have HE : Hid (cods (c.take (k + 1)) = cods (c.take k) ++ [((code l : Nat) : Int)]) := Lib.hid (by rw [HST.out, cods_snoc_yes _ hlit])
        have hcr := code_rng l hlit
        clear hlit
        go_wp2_with (first | (go_at_call 73; refine (isLit_yes _ _ HL.out).mono ?_; rintro e w' ⟨rfl, rfl⟩) | (go_at_call 74; refine (codeOf_lit _ _ HL.out).mono ?_; rintro e w' ⟨rfl, rfl⟩) | (at_builtin; refine wpList_append_own_at _ rfl (.tmp 17) (.tmp 20) 23 rfl w.heap.size 3 i0 (.int .i64 0) 1 8 Tryd.underlying23 hi hz0 hz1 hz2 rfl (by decide) _ (cods (c.take k)).length ((cods (c.take k)).map (Value.int .i64)) rfl (HO.out.alloc _) ⟨wr.heap.size, 0, none⟩ 1 1 [.int .i64 (code l : Nat)] rfl rfl (new_one _ _ _) ?d2 ?d3 ?d4 ?d5 ?_))
        case d2 => simp [Value.oneCell']
        case d3 => unfold maxLen; omega
        case d4 => omega
        case d5 => simp; omega
        intro v' w2 hown2 hgrow2 _ _
        obtain ⟨g2, cap2, rfl, _, _, _, _⟩ := own_form hown2 (by omega)
        have R1 : Hid (w2.ownsRow w.heap.size 3 1 (.slice (some ⟨g2, 0, none⟩) ((cods (c.take k)).length + 1) cap2) (cods (c.take (k + 1))).length ((cods (c.take (k + 1))).map (Value.int .i64))) := Lib.hid (by rw [HE.out]; simpa using hown2)
        have R2 := Lib.hid ((HB.out.alloc (by omega) _).grown hgrow2 (by simp; omega) (fun j hj => (HO.out.lt j hj).1))
        clear hown2 hgrow2 hcr
        go_wp2
        go_roundw
        case rel => exact ⟨k + 1, by omega, by go_num, R1.out, R2.out, _, _, _, rfl⟩
        case measure => simp [intOf]; omega
      · have HL := Lib.hid hlit
        have HE : Hid (cods (c.take (k + 1)) = cods (c.take k)) := Lib.hid (by rw [HST.out, cods_snoc_no _ hlit])
        clear hlit
        go_wp2_with (go_at_call 73; refine (isLit_no _ _ HL.out).mono ?_; rintro e w' ⟨rfl, rfl⟩)
        go_roundw
        case rel => exact ⟨k + 1, by omega, by go_num, by rw [HE.out]; exact HO.out, HB.out, _, _, _, rfl⟩
        case measure => simp [intOf]; omega
    · obtain rfl : k = c.length := by omega
      rw [List.take_length] at hown HO
      have hlen := cods_len c
      have hsz := hb.size
      clear hb
      have HE0 := Lib.hid (row_len c)
      have HEV := Lib.hid (row_iv c)
      by_cases h0 : (cods c).length = 0
      · have hc0 : cods c = [] := List.length_eq_zero_iff.1 h0
        have hn0 : nv = 0 := by
          rcases hown.2 with ⟨hv, _⟩ | ⟨_, _, _, hv, _⟩
          · cases hv; rfl
          · simp only [Value.slice.injEq] at hv; omega
        subst hn0
        have hnorm : norm (cods c) = [] := List.eq_nil_iff_forall_not_mem.2 (fun x hx => by rw [norm_mem, hc0] at hx; simp at hx)
        have HF : Hid (∀ v', wr.ownsRow w.heap.size 3 1 v' 0 [] → wr.ownsRow w.heap.size 3 1 v' (rowOf c).length ((rowOf c).map iv)) := Lib.hid (fun v' h => by rw [HE0.out, HEV.out, hnorm]; exact h)
        have HO' : Hid (wr.ownsRow w.heap.size 3 1 (.slice av 0 cpv) 0 []) := Lib.hid (by have := HO.out; rw [hc0] at this; exact this)
        clear hown hc0 hnorm
        go_wp2_with (first | (go_at_call 17; refine (Tryd.slices_Sort_int_none _ _ _).mono ?_; rintro e w' ⟨rfl, rfl⟩) | (go_at_call 28; refine (Tryd.slices_Compact_int_empty _ _ _).mono ?_; rintro e w' ⟨rfl, rfl⟩))
        go_ret
        exact ⟨_, rfl, HF.out _ HO'.out, HB.out⟩
      · obtain ⟨g, cap3, hv, hg1, hg2, hg3, hg4⟩ := own_form hown (by omega)
        simp only [Value.slice.injEq] at hv
        obtain ⟨rfl, rfl, rfl⟩ := hv
        obtain ⟨hH, hgl, hcp⟩ := own_holds hown
        have HS := Lib.hid (Tryd.slices_Sort_int g 0 cpv (cods c) wr hH hgl (by omega))
        have HL1 : Hid (((cods c).mergeSort fun x y => decide (x ≤ y)).length = (cods c).length) := Lib.hid (List.length_mergeSort _)
        have HN : Hid (norm (cods c) = Lib.compact ((cods c).mergeSort fun x y => decide (x ≤ y))) := Lib.hid rfl
        generalize ((cods c).mergeSort fun x y => decide (x ≤ y)) = ts at *
        clear hown hH h0
        go_wp2_with fail
        refine HS.out.mono ?_
        rintro e w2 ⟨rfl, n2, os2, hw2⟩
        obtain ⟨o2, g2⟩ := own_put HO.out HL1.out n2 os2
        rw [← hw2] at o2 g2
        clear hw2
        have o2' : w2.ownsRow w.heap.size 3 1 (.slice (some ⟨g, 0, none⟩) ts.length cpv) ts.length (ts.map (Value.int .i64)) := by rw [HL1.out]; exact o2
        obtain ⟨hH2, _, hcp2⟩ := own_holds o2'
        have HC2 := Lib.hid (Tryd.slices_Compact_int g 0 cpv ts w2 hH2 (by have := HL1.out; omega) hcp2)
        rw [HL1.out] at HC2
        have HO2 := Lib.hid o2'
        have HB2 := Lib.hid (HB.out.grown g2 hsz (fun k hk => by cases hk; exact hg1))
        have hsz2 := g2.size
        clear o2 g2 o2' hH2
        go_wp2_with fail
        refine HC2.out.mono ?_
        rintro e w3 ⟨rfl, q3, hw3⟩
        have hcl := Lib.compact_length_le ts
        have hzl : (Lib.compact ts ++ List.replicate ((cods c).length - (Lib.compact ts).length) 0).length = ts.length := by rw [List.length_append, List.length_replicate, HL1.out]; have := HL1.out; omega
        obtain ⟨o3, g3⟩ := own_put HO2.out hzl q3 #[]
        rw [Go.Sort.grow_empty, ← hw3] at o3 g3
        have o4 := own_cut (m := (Lib.compact ts).length) o3 hcl
        rw [← List.map_take, List.take_left'  rfl] at o4
        have HF : Hid (w3.ownsRow w.heap.size 3 1 (.slice (some ⟨g, 0, none⟩) (Lib.compact ts).length cpv) (rowOf c).length ((rowOf c).map iv)) := Lib.hid (by rw [HE0.out, HEV.out, HN.out]; exact o4)
        have HB3 := Lib.hid (HB2.out.grown g3 (by omega) (fun k hk => by cases hk; exact hg1))
        clear hw3 o3 g3 o4 hzl hcl
        go_wp2
        go_ret
        exact ⟨_, rfl, HF.out, HB3.out⟩
end Go.Proofs.YtojjjndhabjhdaaDoor.proofI
namespace Go.Proofs.YtojjjndhabjhdaaDoor.proofJ
set_option linter.unusedSimpArgs false
set_option linter.unusedVariables false
open Go.ChangeShapes Go.WideShapes Go.ChangeAt Go.RowKit proofP proofQ owns proofA proofB proofC proofD proofE proofF proofG proofH proofI cls

def nl : Value := .slice none 0 0
theorem infoS : (Tryd.prog.info? 23).map (fun i => (i.zero, i.size, i.bytes)) = some (some (.slice none 0 0), 1, 24) := by kernel_rfl
theorem info8 : (Tryd.prog.info? 70).map (fun i => (i.zero, i.size, i.bytes)) = some (some (.int .i8 0), 1, 1) := by kernel_rfl
theorem infoB : (Tryd.prog.info? 4).map (fun i => (i.zero, i.size, i.bytes)) = some (some (.bool false), 1, 1) := by kernel_rfl

structure BM (w : World) (B bp : Nat) (lv : Value) (first nv : Nat) (done : List (List Int)) (F : Ix → Ent) : Prop where
  own : Owns w B F
  obj : Whole w bp 89 [lv, iv first, (F .rows).v, nl, nl, nl, nl, (F .value).v, nl]
  hB : B ≤ bp
  ne : ∀ k, (F k).v.ownBlock ≠ some bp
  te : ∀ k, (F k).e = ty k
  rows : (F .rows).xs = (List.range done.length).map fun i => (F (.row i)).v
  row : ∀ i, i < done.length → (F (.row i)).xs = (rowOf (done.getD i [])).map iv
  nil : ∀ k, k ≠ .rows → k ≠ .value → (∀ i, i < done.length → k ≠ .row i) → (F k).v = nl ∧ (F k).xs = []
  value : (F .value).xs = (List.range nv).map fun c => .int .i8 (val [] c)

theorem own_mono {w : World} {B B' : Nat} {e : TypeId} {v : Value} {n : Nat} {xs : List Value} (h : w.ownsRow B e 1 v n xs) (hB : B' ≤ B) : w.ownsRow B' e 1 v n xs := by
  refine ⟨h.1, ?_⟩
  rcases h.2 with h1 | ⟨g, cap, cur, hv, hb, r⟩
  · exact .inl h1
  · exact .inr ⟨g, cap, cur, hv, by omega, r⟩

theorem BM.below {w w' : World} {B bp : Nat} {lv : Value} {first nv : Nat} {done : List (List Int)} {F : Ix → Ent} (h : BM w B bp lv first nv done F) (hb : Below w.heap.size w w') : BM w' B bp lv first nv done F :=
  ⟨h.own.below hb, h.obj.below hb h.obj.lt, h.hB, h.ne, h.te, h.rows, h.row, h.nil, h.value⟩

theorem snoc_get {α : Type} {l : List α} {x d : α} {i : Nat} (h : i < l.length) : (l ++ [x]).getD i d = l.getD i d := by
  rw [List.getD_eq_getElem?_getD, List.getD_eq_getElem?_getD, List.getElem?_append_left h]
theorem snoc_last {α : Type} (l : List α) (x d : α) : (l ++ [x]).getD l.length d = x := by simp

/-- a row is added -/
theorem BM.push {w w1 w2 : World} {B bp : Nat} {lv v v' : Value} {first nv : Nat} {done : List (List Int)} {F : Ix → Ent} {c : List Int} {o : Obj} (h : BM w B bp lv first nv done F) (hb : Below w.heap.size w w1) (hr : w1.ownsRow w.heap.size 3 1 v (rowOf c).length ((rowOf c).map iv))
    (hown : w2.ownsRow B 23 1 v' (done.length + 1) ((F .rows).xs ++ [v])) (hg : (w1.alloc o).grownBy w2 (F .rows).v.ownBlock) (hat : v'.ownBlock = (F .rows).v.ownBlock ∨ v'.ownBlock = some (w1.alloc o).heap.size) :
    ∃ F', BM (w2.setCell ⟨bp, 2, none⟩ v') B bp lv first nv (done ++ [c]) F' ∧ ∀ b, b < w.heap.size → b ≠ bp → (∀ k, (F k).v.ownBlock ≠ some b) → (w2.setCell ⟨bp, 2, none⟩ v').heap[b]? = w.heap[b]? ∧ ∀ k, (F' k).v.ownBlock ≠ some b := by
  have hBw : B ≤ w.heap.size := Nat.le_trans h.hB (Nat.le_of_lt h.obj.lt)
  have hn := (h.nil (.row done.length) (by simp) (by simp) (fun i hi => by simp; omega))
  have hfresh : ∀ b, v.ownBlock = some b → w.heap.size ≤ b := fun b hb => (hr.lt b hb).1
  have O1 : Owns w1 B (upd F (.row done.length) ⟨3, v, (rowOf c).map iv⟩) := h.own.step _ _ (grown_below hb _) (by simpa using own_mono hr hBw) (by
    cases hv : v.ownBlock with
    | none => exact .inr (.inl rfl)
    | some b => exact .inr (.inr ⟨b, rfl, hfresh b hv⟩))
  have hro : (upd F (.row done.length) ⟨3, v, (rowOf c).map iv⟩ .rows) = F .rows := upd_other _ _ (by simp)
  have O2 : Owns w2 B (upd (upd F (.row done.length) ⟨3, v, (rowOf c).map iv⟩) .rows ⟨23, v', (F .rows).xs ++ [v]⟩) := (O1.alloc o).step _ _ (by rw [hro]; exact hg) (by
      dsimp only
      have hl : ((F .rows).xs ++ [v]).length = done.length + 1 := by rw [h.rows]; simp
      rw [hl]; exact hown) (by
    rw [hro]
    rcases hat with hat | hat
    · exact .inl hat
    · exact .inr (.inr ⟨_, hat, Nat.le_refl _⟩))
  have hbl := h.obj.lt
  have hob2 : Whole w2 bp 89 [lv, iv first, (F .rows).v, nl, nl, nl, nl, (F .value).v, nl] :=
    ((h.obj.below hb h.obj.lt).below ((Below.refl _ _).alloc (Nat.le_refl _) o) (by have := hb.size; omega)).kept hg (h.ne .rows)
  obtain ⟨hob3, G3⟩ := hob2.set 2 v'
  have hvn : v.ownBlock ≠ some bp := fun e => by have := hfresh bp e; omega
  have hv'n : v'.ownBlock ≠ some bp := by
    rcases hat with hat | hat
    · rw [hat]; exact h.ne .rows
    · rw [hat]; intro e; have := hb.size; simp at e; omega
  have hnk : ∀ k, (upd (upd F (.row done.length) ⟨3, v, (rowOf c).map iv⟩) .rows ⟨23, v', (F .rows).xs ++ [v]⟩ k).v.ownBlock ≠ some bp := by
    intro k
    by_cases e1 : k = .rows
    · subst e1; rw [upd_same]; exact hv'n
    · rw [upd_other _ _ e1]
      by_cases e2 : k = .row done.length
      · subst e2; rw [upd_same]; exact hvn
      · rw [upd_other _ _ e2]; exact h.ne k
  refine ⟨_, ⟨O2.apart G3 (fun k b hk e => hnk k (by rw [hk]; exact e.symm)), ?_, h.hB, hnk, fun k => ?_, ?_, fun i hi => ?_, fun k h1 h2 h3 => ?_, ?_⟩, fun b hlt hbb hk => ⟨?_, fun k => ?_⟩⟩
  rotate_right
  rotate_right
  · have hs1 := hb.size
    rw [G3.block b (by have := hg.size; simp at this; omega) (by simpa using hbb), hg.block b (by simp; omega) (fun e => hk .rows e.symm), Below.heap_alloc _ _ _ (by omega)]
    exact hb.block b hlt
  · by_cases e1 : k = .rows
    · subst e1; rw [upd_same]
      rcases hat with hat | hat
      · dsimp only; rw [hat]; exact hk .rows
      · dsimp only; rw [hat]; intro e; have := hb.size; simp at e; omega
    · rw [upd_other _ _ e1]
      by_cases e2 : k = .row done.length
      · subst e2; rw [upd_same]; intro e; have := hfresh b e; omega
      · rw [upd_other _ _ e2]; exact hk k
  · simpa [upd] using hob3
  · by_cases e1 : k = .rows
    · subst e1; rw [upd_same]; rfl
    · rw [upd_other _ _ e1]
      by_cases e2 : k = .row done.length
      · subst e2; rw [upd_same]; rfl
      · rw [upd_other _ _ e2]; exact h.te k
  · rw [upd_same]
    dsimp only
    rw [h.rows, List.length_append, List.length_singleton, List.range_succ, List.map_append]
    congr 1
    · apply List.map_congr_left
      intro i hi
      rw [List.mem_range] at hi
      rw [upd_other _ _ (by simp), upd_other _ _ (by simp; omega)]
    · simp only [List.map_cons, List.map_nil]
      rw [upd_other _ _ (by simp), upd_same]
  · rw [upd_other _ _ (by simp)]
    by_cases e : i = done.length
    · subst e; rw [upd_same, snoc_last]
    · rw [upd_other _ _ (by simpa using e), snoc_get (by simp at hi; omega)]
      exact h.row i (by simp at hi; omega)
  · rw [upd_other _ _ h1, upd_other _ _ (h3 done.length (by simp))]
    exact h.nil k h1 h2 (fun i hi => h3 i (by simp; omega))
  · rw [upd_other _ _ (by simp), upd_other _ _ (by simp)]; exact h.value

/-- the first object -/
theorem BM.start {w w1 : World} {nv : Nat} {lv : Value} {first : Nat} {gv : Value} (hown : w1.ownsRow w.heap.size 70 1 gv nv (List.replicate nv (.int .i8 0))) (hb : Below w.heap.size w w1) :
    ∃ F, BM (w1.alloc (.cells #[lv, .int .i64 first, nl, nl, nl, nl, nl, gv, nl] 89)) w.heap.size w1.heap.size lv first nv [] F := by
  refine ⟨fun k => if k = .value then ⟨70, gv, List.replicate nv (.int .i8 0)⟩ else ⟨ty k, nl, []⟩, ⟨fun k => ?_, fun j k b hj hk => ?_⟩, ?_, hb.size, fun k => ?_, fun k => ?_, rfl, fun i hi => absurd hi (Nat.not_lt_zero _), fun k h1 h2 h3 => by simp [h2], ?_⟩
  · by_cases e : k = .value
    · simp only [e, if_true]; have := hown.alloc (.cells #[lv, .int .i64 first, nl, nl, nl, nl, nl, gv, nl] 89); simpa using this
    · simp only [e, if_false]; exact World.ownsRow_nil _ _ _ _
  · by_cases e1 : j = .value <;> by_cases e2 : k = .value
    · rw [e1, e2]
    · simp [e2, nl, Value.ownBlock] at hk
    · simp [e1, nl, Value.ownBlock] at hj
    · simp [e1, nl, Value.ownBlock] at hj
  · exact Whole.new w1 _ [lv, .int .i64 first, nl, nl, nl, nl, nl, gv, nl]
  · by_cases e : k = .value
    · simp only [e, if_true]
      intro hh
      have := (hown.lt _ hh).2
      omega
    · simp [e, nl, Value.ownBlock]
  · by_cases e : k = .value
    · simp only [e, if_true]; rfl
    · simp only [e, if_false]
  · simp only [if_true]
    apply List.ext_getElem?
    intro j
    by_cases hj : j < nv
    · simp [hj, val]
    · simp [hj]

/-- rows of the call's own, and the object; no more is said -/
structure OB (w : World) (B bp : Nat) (cs : List Value) (F : Ix → Ent) : Prop where
  own : Owns w B F
  obj : Whole w bp 89 cs
  hB : B ≤ bp
  ne : ∀ k, (F k).v.ownBlock ≠ some bp
theorem OB.add {w w1 : World} {B bp : Nat} {cs : List Value} {F : Ix → Ent} (h : OB w B bp cs F) {k : Ix} {e : TypeId} {g n cap : Nat} {xs : List Value} (f : Nat) (hk : (F k).v = nl) (hgr : w.grownBy w1 none) (hx : xs.length = n) (ho : w1.ownsRow B e 1 (.slice (some ⟨g, 0, none⟩) n cap) n xs) (hg : w.heap.size ≤ g) :
    OB (w1.setCell ⟨bp, f, none⟩ (.slice (some ⟨g, 0, none⟩) n cap)) B bp (cs.set f (.slice (some ⟨g, 0, none⟩) n cap)) (upd F k ⟨e, .slice (some ⟨g, 0, none⟩) n cap, xs⟩) := by
  have hlt := h.obj.lt
  have O1 := h.own.step k ⟨e, .slice (some ⟨g, 0, none⟩) n cap, xs⟩ (w' := w1) (by rw [hk]; exact hgr) (by dsimp only; rw [hx]; exact ho) (.inr (.inr ⟨g, rfl, hg⟩))
  obtain ⟨W2, G2⟩ := (h.obj.kept hgr (by simp)).set f (.slice (some ⟨g, 0, none⟩) n cap)
  have hnk : ∀ j, (upd F k ⟨e, .slice (some ⟨g, 0, none⟩) n cap, xs⟩ j).v.ownBlock ≠ some bp := by
    intro j
    by_cases e1 : j = k
    · subst e1; rw [upd_same]; intro e; have e' : g = bp := by simpa [Value.ownBlock] using e
      omega
    · rw [upd_other _ _ e1]; exact h.ne j
  exact ⟨O1.apart G2 (fun k b hk e => hnk k (by rw [hk]; exact e.symm)), W2, h.hB, hnk⟩
theorem BM.ob {w : World} {B bp : Nat} {lv : Value} {first nv : Nat} {done : List (List Int)} {F : Ix → Ent} (h : BM w B bp lv first nv done F) : OB w B bp [lv, iv first, (F .rows).v, nl, nl, nl, nl, (F .value).v, nl] F := ⟨h.own, h.obj, h.hB, h.ne⟩

/-- codes of rows are below a number -/
def Gr (done : List (List Int)) (g : Nat) : Prop := g < 40002 ∧ ∀ c, c ∈ done → ∀ x, x ∈ rowOf c → x ≤ g
theorem Gr.start : Gr [] 0 := ⟨by omega, by simp⟩
theorem last_max {r : List Nat} (h : r.Pairwise (· < ·)) {x : Nat} (hx : x ∈ r) : x ≤ r.getD (r.length - 1) 0 := by
  obtain ⟨i, hi, rfl⟩ := mem_get.1 hx
  by_cases e : i = r.length - 1
  · rw [e]; exact Nat.le_refl _
  · have := List.pairwise_iff_getElem.1 h i (r.length - 1) hi (by omega) (by omega)
    rw [List.getD_eq_getElem?_getD, List.getElem?_eq_getElem hi, List.getD_eq_getElem?_getD, List.getElem?_eq_getElem (by omega)]
    simp only [Option.getD_some]; omega
theorem Gr.push {done : List (List Int)} {g : Nat} {c : List Int} (h : Gr done g) (h0 : 0 < (rowOf c).length) : Gr (done ++ [c]) (max g ((rowOf c).getD ((rowOf c).length - 1) 0)) := by
  have hr := ((row_is c).rng (get_mem (r := rowOf c) (i := (rowOf c).length - 1) (by omega))).2
  refine ⟨by have := h.1; omega, fun d hd x hx => ?_⟩
  rcases List.mem_append.1 hd with hd | hd
  · have := h.2 d hd x hx; omega
  · simp only [List.mem_singleton] at hd
    rw [hd] at hx
    have := last_max (row_sorted c) hx; omega
theorem Gr.skip {done : List (List Int)} {g : Nat} {c : List Int} (h : Gr done g) (h0 : (rowOf c).length = 0) : Gr (done ++ [c]) g := by
  refine ⟨h.1, fun d hd x hx => ?_⟩
  rcases List.mem_append.1 hd with hd | hd
  · exact h.2 d hd x hx
  · simp only [List.mem_singleton] at hd
    rw [hd, List.length_eq_zero_iff.1 h0] at hx; simp at hx
end Go.Proofs.YtojjjndhabjhdaaDoor.proofJ
namespace Go.Proofs.YtojjjndhabjhdaaDoor.proofK
set_option linter.unusedSimpArgs false
set_option linter.unusedVariables false
open Go.ChangeShapes Go.WideShapes Go.ChangeAt Go.RowKit proofP proofQ owns proofA proofB proofC proofD proofE proofF proofG proofH proofI proofJ cls

def tautB (r : List Nat) : Bool := r.any fun x => r.contains (opp x)
theorem tautB_iff {r : List Nat} : tautB r = true ↔ taut r := by simp [tautB, taut]
/-- two neighbours that are opposites, among so many first places -/
def adj (r : List Nat) : Nat → Bool
  | 0 => false
  | q + 1 => adj r q || (decide (1 ≤ q) && decide (r.getD q 0 = opp (r.getD (q - 1) 0)))
theorem adj_iff (r : List Nat) (q : Nat) : adj r q = true ↔ ∃ t, 1 ≤ t ∧ t < q ∧ r.getD t 0 = opp (r.getD (t - 1) 0) := by
  induction q with
  | zero => simp [adj]
  | succ q ih =>
    simp only [adj, Bool.or_eq_true, ih, Bool.and_eq_true, decide_eq_true_eq]
    constructor
    · rintro (⟨t, h1, h2, h3⟩ | ⟨h1, h2⟩)
      · exact ⟨t, h1, by omega, h3⟩
      · exact ⟨q, h1, by omega, h2⟩
    · rintro ⟨t, h1, h2, h3⟩
      by_cases e : t = q
      · subst e; exact .inr ⟨h1, h3⟩
      · exact .inl ⟨t, h1, by omega, h3⟩
theorem adj_taut {r : List Nat} (h : r.Pairwise (· < ·)) : adj r r.length = tautB r := by
  rw [Bool.eq_iff_iff, tautB_iff, adj_iff]
  have hp : ∀ a b, a < b → b < r.length → r.getD a 0 < r.getD b 0 := by
    intro a b hab hb
    have := List.pairwise_iff_getElem.1 h a b (by omega) hb hab
    rw [List.getD_eq_getElem?_getD, List.getElem?_eq_getElem (by omega), List.getD_eq_getElem?_getD, List.getElem?_eq_getElem hb]; exact this
  constructor
  · rintro ⟨t, h1, h2, h3⟩
    exact ⟨r.getD (t - 1) 0, get_mem (by omega), by rw [← h3]; exact get_mem h2⟩
  · rintro ⟨x, hx, hx'⟩
    have key : ∀ y, y % 2 = 0 → y ∈ r → y + 1 ∈ r → ∃ t, 1 ≤ t ∧ t < r.length ∧ r.getD t 0 = opp (r.getD (t - 1) 0) := by
      intro y hy h1 h2
      obtain ⟨a, ha, ea⟩ := mem_get.1 h1
      obtain ⟨b, hb, eb⟩ := mem_get.1 h2
      have hab : a < b := by
        rcases Nat.lt_trichotomy a b with h' | h' | h'
        · exact h'
        · subst h'; omega
        · have := hp b a h' ha; omega
      have hb1 : b = a + 1 := by
        by_cases e : b = a + 1
        · exact e
        · have h1 := hp a (a + 1) (by omega) (by omega)
          have h2 := hp (a + 1) b (by omega) hb
          omega
      refine ⟨b, by omega, hb, ?_⟩
      rw [hb1, Nat.add_sub_cancel, ea, ← hb1, eb]
      unfold opp; rw [if_pos hy]
    by_cases hx2 : x % 2 = 0
    · exact key x hx2 hx (by have : opp x = x + 1 := by unfold opp; rw [if_pos hx2]
                             rw [← this]; exact hx')
    · have e : opp x = x - 1 := by unfold opp; rw [if_neg hx2]
      rw [e] at hx'
      exact key (x - 1) (by omega) hx' (by rw [Nat.sub_add_cancel (by omega)]; exact hx)

/-- memory, with what is known of 'always' -/
structure MB (w : World) (B bp : Nat) (lv : Value) (first nv : Nat) (A : Nat → Bool) (s : PS) (F : Ix → Ent) : Prop where
  mem : Mem w B bp lv (F .always).v first nv s F
  al : (F .always).xs = (List.range s.n).map fun j => .bool (A j)

theorem map_set_upd {n k : Nat} (hk : k < n) (f : Nat → Bool) (b : Bool) : ((List.range n).map fun j => Value.bool (f j)).set k (.bool b) = (List.range n).map fun j => .bool (updN f k b j) := by
  apply List.ext_getElem?
  intro j
  rw [List.getElem?_set]
  simp only [List.length_map, List.length_range, List.getElem?_map]
  by_cases e : k = j
  · subst e; simp [hk, updN]
  · rw [if_neg e]
    by_cases hj : j < n
    · simp only [List.getElem?_range hj, Option.map_some]; rw [updN_other _ _ (fun e' => e e'.symm)]
    · rw [List.getElem?_eq_none (by simp; omega)]; rfl

section
variable {w : World} {B bp : Nat} {lv : Value} {first nv : Nat} {A : Nat → Bool} {s : PS} {F : Ix → Ent}
theorem MB.below {w' : World} (h : MB w B bp lv first nv A s F) (hb : Below w.heap.size w w') : MB w' B bp lv first nv A s F := ⟨h.mem.below hb, h.al⟩
theorem MB.setOn (h : MB w B bp lv first nv A s F) {g cap k : Nat} (hv : (F .on).v = .slice (some ⟨g, 0, none⟩) s.n cap) (hk : k < s.n) (b : Bool) :
    ∃ F', MB (w.setCell ⟨g, k, none⟩ (.bool b)) B bp lv first nv A { s with on := updN s.on k b } F' ∧ ∀ j, (F' j).v = (F j).v := by
  obtain ⟨O1, G1⟩ := h.mem.own.set hv k (.bool b)
  have hg : g ≠ bp := fun e => h.mem.ne .on (by rw [hv, e]; rfl)
  refine ⟨_, ⟨⟨O1, ?_, h.mem.hx, fun j => ?_, fun j => ?_, ?_, ?_, ?_, ?_, ?_, ?_, fun i => ?_, fun i => ?_⟩, ?_⟩, fun j => ?_⟩
  · have := h.mem.obj.kept G1 (by intro e; cases e; exact hg rfl)
    simpa [upd] using this
  · by_cases e : j = .on
    · subst e; rw [upd_same]; exact h.mem.ne _
    · rw [upd_other _ _ e]; exact h.mem.ne j
  · by_cases e : j = .on
    · subst e; rw [upd_same]; exact h.mem.te _
    · rw [upd_other _ _ e]; exact h.mem.te j
  · rw [upd_same]; dsimp only; rw [h.mem.on]; exact map_set_upd hk _ _
  · simp [upd, h.mem.short]
  · simp [upd, h.mem.rows]
  · simp [upd, h.mem.watches]
  · simp [upd, h.mem.value]
  · simp [upd, h.mem.trail]
  · simp [upd, h.mem.row]
  · simp [upd, h.mem.watch]
  · simp [upd, h.al]
  · by_cases e : j = .on
    · subst e; rw [upd_same]
    · rw [upd_other _ _ e]
theorem MB.setAl (h : MB w B bp lv first nv A s F) {g cap k : Nat} (hv : (F .always).v = .slice (some ⟨g, 0, none⟩) s.n cap) (hk : k < s.n) (b : Bool) :
    ∃ F', MB (w.setCell ⟨g, k, none⟩ (.bool b)) B bp lv first nv (updN A k b) s F' ∧ ∀ j, (F' j).v = (F j).v := by
  obtain ⟨O1, G1⟩ := h.mem.own.set hv k (.bool b)
  have hg : g ≠ bp := fun e => h.mem.ne .always (by rw [hv, e]; rfl)
  refine ⟨_, ⟨⟨O1, ?_, h.mem.hx, fun j => ?_, fun j => ?_, ?_, ?_, ?_, ?_, ?_, ?_, fun i => ?_, fun i => ?_⟩, ?_⟩, fun j => ?_⟩
  · have := h.mem.obj.kept G1 (by intro e; cases e; exact hg rfl)
    simpa [upd] using this
  · by_cases e : j = .always
    · subst e; rw [upd_same]; exact h.mem.ne _
    · rw [upd_other _ _ e]; exact h.mem.ne j
  · by_cases e : j = .always
    · subst e; rw [upd_same]; exact h.mem.te _
    · rw [upd_other _ _ e]; exact h.mem.te j
  · simp [upd, h.mem.on]
  · simp [upd, h.mem.short]
  · simp [upd, h.mem.rows]
  · simp [upd, h.mem.watches]
  · simp [upd, h.mem.value]
  · simp [upd, h.mem.trail]
  · simp [upd, h.mem.row]
  · simp [upd, h.mem.watch]
  · rw [upd_same]; dsimp only; rw [h.al]; exact map_set_upd hk _ _
  · by_cases e : j = .always
    · subst e; rw [upd_same]
    · rw [upd_other _ _ e]
theorem MB.alAt (h : MB w B bp lv first nv A s F) (hn : 0 < s.n) : ∃ g cap, (F .always).v = .slice (some ⟨g, 0, none⟩) s.n cap ∧ (∀ i, i < s.n → w.cell? ⟨g, i, none⟩ = some (.bool (A i))) ∧ B ≤ g ∧ ∀ i, w.frozen? ⟨g, i, none⟩ = false := by
  have hl : (F .always).xs.length = s.n := by rw [h.al]; simp
  obtain ⟨g, cap, hv, h1, h2, _, _⟩ := h.mem.own.form .always (by omega)
  rw [hl] at hv
  exact ⟨g, cap, hv, fun i hi => by rw [h.mem.own.cell hv i (by omega), h.al]; simp [hi], h1, fun i => h.mem.own.frozen hv i⟩
/-- a short row is told -/
theorem MB.pushShort (h : MB w B bp lv first nv A s F) {w1 : World} {v' : Value} {i : Nat} (o : Obj) (hown : w1.ownsRow B 3 1 v' (s.short.length + 1) (s.short.map iv ++ [.int .i64 i])) (hg : (w.alloc o).grownBy w1 (F .short).v.ownBlock)
    (hat : v'.ownBlock = (F .short).v.ownBlock ∨ v'.ownBlock = some (w.alloc o).heap.size) :
    ∃ F', MB (w1.setCell ⟨bp, 5, none⟩ v') B bp lv first nv A { s with short := s.short ++ [i] } F' ∧ ∀ j, j ≠ .short → (F' j).v = (F j).v := by
  have O1 := (h.mem.own.alloc o).step .short ⟨3, v', s.short.map iv ++ [.int .i64 i]⟩ hg (by simpa using hown) (by
    rcases hat with hat | hat
    · exact .inl hat
    · exact .inr (.inr ⟨_, hat, Nat.le_refl _⟩))
  have hob := (h.mem.obj.below ((Below.refl _ _).alloc (Nat.le_refl _) o) h.mem.obj.lt).kept hg (h.mem.ne .short)
  obtain ⟨hob2, G2⟩ := hob.set 5 v'
  have hlt := h.mem.obj.lt
  have hv'n : v'.ownBlock ≠ some bp := by
    rcases hat with hat | hat
    · rw [hat]; exact h.mem.ne .short
    · rw [hat]; intro e; simp at e; omega
  have hnk : ∀ k, (upd F .short ⟨3, v', s.short.map iv ++ [.int .i64 i]⟩ k).v.ownBlock ≠ some bp := by
    intro k
    by_cases e1 : k = .short
    · subst e1; rw [upd_same]; exact hv'n
    · rw [upd_other _ _ e1]; exact h.mem.ne k
  refine ⟨_, ⟨⟨O1.apart G2 (fun k b hk e => hnk k (by rw [hk]; exact e.symm)), ?_, h.mem.hx, hnk, fun j => ?_, ?_, ?_, ?_, ?_, ?_, ?_, fun i => ?_, fun i => ?_⟩, ?_⟩, fun j hj => ?_⟩
  · simpa [upd] using hob2
  · by_cases e : j = .short
    · subst e; rw [upd_same]; rfl
    · rw [upd_other _ _ e]; exact h.mem.te j
  · simp [upd, h.mem.on]
  · rw [upd_same]; dsimp only; rw [List.map_append]; rfl
  · simp [upd, h.mem.rows]
  · simp [upd, h.mem.watches]
  · simp [upd, h.mem.value]
  · simp [upd, h.mem.trail]
  · simp [upd, h.mem.row]
  · simp [upd, h.mem.watch]
  · simp [upd, h.al]
  · rw [upd_other _ _ hj]
end

/-- so many rows are done -/
structure P2 (done : List (List Int)) (first m k : Nat) (A : Nat → Bool) (s : PS) : Prop where
  n : s.n = done.length
  m : s.m = m
  row : ∀ i, s.row i = rowOf (done.getD i [])
  trail : s.trail = []
  on : ∀ j, j < k → s.on j = decide (j < first)
  al : ∀ j, k ≤ j → A j = false
  short : ∀ i, i ∈ s.short ↔ i < k ∧ (s.row i).length < 2
  shl : s.short.length ≤ k
  nd : ∀ c, (s.W c).Nodup
  wat : ∀ c i, i ∈ s.W c → i < k ∧ 2 ≤ (s.row i).length ∧ ((s.row i).getD 0 0 = c ∨ (s.row i).getD 1 0 = c)
  has : ∀ i, i < k → 2 ≤ (s.row i).length → ¬ taut (s.row i) → i ∈ s.W ((s.row i).getD 0 0) ∧ i ∈ s.W ((s.row i).getD 1 0)

section
variable {done : List (List Int)} {first m k : Nat} {A : Nat → Bool} {s : PS}
theorem P2.short1 (h : P2 done first m k A s) (hs : (s.row k).length < 2) : P2 done first m (k + 1) (updN A k (tautB (s.row k))) { s with on := updN s.on k (decide (k < first)), short := s.short ++ [k] } := by
  refine ⟨h.n, h.m, h.row, h.trail, fun j hj => ?_, fun j hj => ?_, fun i => ?_, by simp; exact h.shl, h.nd, fun c i hi => ?_, fun i hi hl ht => ?_⟩
  · by_cases e : j = k
    · subst e; dsimp only; rw [updN_same]
    · dsimp only; rw [updN_other _ _ e]; exact h.on j (by omega)
  · rw [updN_other _ _ (by omega)]; exact h.al j (by omega)
  · dsimp only
    rw [List.mem_append, h.short, List.mem_singleton]
    constructor
    · rintro (⟨h1, h2⟩ | rfl)
      · exact ⟨by omega, h2⟩
      · exact ⟨by omega, hs⟩
    · rintro ⟨h1, h2⟩
      by_cases e : i = k
      · exact .inr e
      · exact .inl ⟨by omega, h2⟩
  · obtain ⟨a, b⟩ := h.wat c i hi; exact ⟨by omega, b⟩
  · dsimp only at hl ht ⊢
    by_cases e : i = k
    · subst e; omega
    · exact h.has i (by omega) hl ht
theorem P2.taut1 (h : P2 done first m k A s) (hs : 2 ≤ (s.row k).length) (ht : tautB (s.row k) = true) : P2 done first m (k + 1) (updN A k (tautB (s.row k))) { s with on := updN s.on k (decide (k < first)) } := by
  refine ⟨h.n, h.m, h.row, h.trail, fun j hj => ?_, fun j hj => ?_, fun i => ?_, by have := h.shl; dsimp only; omega, h.nd, fun c i hi => ?_, fun i hi hl hnt => ?_⟩
  · by_cases e : j = k
    · subst e; dsimp only; rw [updN_same]
    · dsimp only; rw [updN_other _ _ e]; exact h.on j (by omega)
  · rw [updN_other _ _ (by omega)]; exact h.al j (by omega)
  · dsimp only
    rw [h.short]
    constructor
    · rintro ⟨h1, h2⟩; exact ⟨by omega, h2⟩
    · rintro ⟨h1, h2⟩
      by_cases e : i = k
      · subst e; omega
      · exact ⟨by omega, h2⟩
  · obtain ⟨a, b⟩ := h.wat c i hi; exact ⟨by omega, b⟩
  · dsimp only at hl hnt ⊢
    by_cases e : i = k
    · subst e; exact absurd (tautB_iff.1 ht) hnt
    · exact h.has i (by omega) hl hnt
theorem P2.watch1 (h : P2 done first m k A s) (hs : 2 ≤ (s.row k).length) (hd : (s.row k).Nodup) {x y : Nat} (hx : (s.row k).getD 0 0 = x) (hy : (s.row k).getD 1 0 = y) {W' : Nat → List Nat} (hW : W' = updN (updN s.W x (s.W x ++ [k])) y (s.W y ++ [k])) :
    P2 done first m (k + 1) (updN A k (tautB (s.row k))) { s with on := updN s.on k (decide (k < first)), W := W' } := by
  have hxy : x ≠ y := by
    intro e
    have := nodup_get.1 hd 0 1 (by omega) (by omega) (by rw [hx, hy, e])
    omega
  have nk : ∀ c, k ∉ s.W c := fun c hc => by have := (h.wat c k hc).1; omega
  have hWx : W' x = s.W x ++ [k] := by rw [hW, updN_other _ _ hxy, updN_same]
  have hWy : W' y = s.W y ++ [k] := by rw [hW, updN_same]
  have hWo : ∀ c, c ≠ x → c ≠ y → W' c = s.W c := fun c h1 h2 => by rw [hW, updN_other _ _ h2, updN_other _ _ h1]
  have snd : ∀ c, (s.W c ++ [k]).Nodup := by
    intro c
    rw [List.nodup_append]
    refine ⟨h.nd c, by simp, ?_⟩
    intro a ha b hb e
    simp at hb; subst hb; subst e; exact nk c ha
  refine ⟨h.n, h.m, h.row, h.trail, fun j hj => ?_, fun j hj => ?_, fun i => ?_, by have := h.shl; dsimp only; omega, fun c => ?_, fun c i hi => ?_, fun i hi hl hnt => ?_⟩
  · by_cases e : j = k
    · subst e; dsimp only; rw [updN_same]
    · dsimp only; rw [updN_other _ _ e]; exact h.on j (by omega)
  · rw [updN_other _ _ (by omega)]; exact h.al j (by omega)
  · dsimp only
    rw [h.short]
    constructor
    · rintro ⟨h1, h2⟩; exact ⟨by omega, h2⟩
    · rintro ⟨h1, h2⟩
      by_cases e : i = k
      · subst e; omega
      · exact ⟨by omega, h2⟩
  · dsimp only
    by_cases e1 : c = x
    · rw [e1, hWx]; exact snd x
    · by_cases e2 : c = y
      · rw [e2, hWy]; exact snd y
      · rw [hWo c e1 e2]; exact h.nd c
  · dsimp only at hi ⊢
    by_cases e1 : c = x
    · rw [e1, hWx, List.mem_append, List.mem_singleton] at hi
      rcases hi with hi | rfl
      · obtain ⟨a, b⟩ := h.wat x i hi; exact ⟨by omega, by rw [e1]; exact b⟩
      · exact ⟨by omega, hs, .inl (by rw [hx, e1])⟩
    · by_cases e2 : c = y
      · rw [e2, hWy, List.mem_append, List.mem_singleton] at hi
        rcases hi with hi | rfl
        · obtain ⟨a, b⟩ := h.wat y i hi; exact ⟨by omega, by rw [e2]; exact b⟩
        · exact ⟨by omega, hs, .inr (by rw [hy, e2])⟩
      · rw [hWo c e1 e2] at hi
        obtain ⟨a, b⟩ := h.wat c i hi; exact ⟨by omega, b⟩
  · dsimp only at hl hnt ⊢
    have sub : ∀ c i, i ∈ s.W c → i ∈ W' c := by
      intro c i hi
      by_cases e1 : c = x
      · rw [e1] at hi ⊢; rw [hWx]; simp [hi]
      · by_cases e2 : c = y
        · rw [e2] at hi ⊢; rw [hWy]; simp [hi]
        · rw [hWo c e1 e2]; exact hi
    by_cases e : i = k
    · subst e; rw [hx, hy, hWx, hWy]; simp
    · obtain ⟨a, b⟩ := h.has i (by omega) hl hnt
      exact ⟨sub _ _ a, sub _ _ b⟩
theorem P2.good (h : P2 done first m done.length A s) (hm : ∀ c, c ∈ done → ∀ x, x ∈ rowOf c → x < m) (hn : done.length ≤ 100000) : PGood s (fun i => done.getD i []) := by
  have hmem : ∀ i, i < done.length → done.getD i [] ∈ done := fun i hi => by rw [List.getD_eq_getElem?_getD, List.getElem?_eq_getElem hi]; exact List.getElem_mem hi
  refine ⟨⟨h.nd, fun i hi => by rw [h.row]; exact row_nodup _, fun c i hi => by rw [h.n]; exact h.wat c i hi, fun i hi => by rw [h.n] at hi; exact h.has i hi⟩, fun i hi => by rw [h.row]; exact row_is _, by rw [h.trail]; exact TI.nil, fun i hi l hl hlit => ?_, fun i => by rw [h.n]; exact h.short i, by rw [h.n]; exact hn⟩
  rw [h.m]
  rw [h.n] at hi
  exact hm _ (hmem i hi) _ ((row_is _ _).2 ⟨l, hl, hlit, rfl⟩)
end

def st0 (done : List (List Int)) (m : Nat) : PS := ⟨done.length, m, fun i => rowOf (done.getD i []), fun _ => [], fun _ => false, [], [], ⟨3, nl, []⟩⟩
theorem row_nil : rowOf [] = [] := by
  have : norm (cods []) = [] := List.eq_nil_iff_forall_not_mem.2 (fun x hx => by rw [norm_mem] at hx; simp [cods] at hx)
  unfold rowOf; rw [this]; rfl
theorem rep_map {α : Type} (n : Nat) (x : α) : List.replicate n x = (List.range n).map fun _ => x := by
  apply List.ext_getElem?
  intro j
  by_cases hj : j < n
  · simp [hj]
  · simp [hj]
/-- all rows are collected, and 'on', 'always', 'watches' are made -/
theorem mb_start {w w' : World} {B bp : Nat} {lv : Value} {first nv m : Nat} {done : List (List Int)} {F : Ix → Ent} {g1 g2 g3 : Nat} (h : BM w B bp lv first nv done F)
    (hO : OB w' B bp [lv, iv first, (F .rows).v, .slice (some ⟨g1, 0, none⟩) done.length done.length, .slice (some ⟨g2, 0, none⟩) done.length done.length, nl, .slice (some ⟨g3, 0, none⟩) m m, (F .value).v, nl]
      (upd (upd (upd F .on ⟨4, .slice (some ⟨g1, 0, none⟩) done.length done.length, List.replicate done.length (.bool false)⟩) .always ⟨4, .slice (some ⟨g2, 0, none⟩) done.length done.length, List.replicate done.length (.bool false)⟩) .watches ⟨23, .slice (some ⟨g3, 0, none⟩) m m, List.replicate m nl⟩)) :
    ∃ F', MB w' B bp lv first nv (fun _ => false) (st0 done m) F' ∧ P2 done first m 0 (fun _ => false) (st0 done m) ∧ (F' .rows).v = (F .rows).v := by
  have hnil : ∀ k, k ≠ .rows → k ≠ .value → (∀ i, i < done.length → k ≠ .row i) → (F k).v = nl ∧ (F k).xs = [] := h.nil
  refine ⟨_, ⟨⟨hO.own, ?_, ⟨hO.hB, ?_⟩, hO.ne, fun k => ?_, ?_, ?_, ?_, ?_, ?_, ?_, fun i => ?_, fun c => ?_⟩, ?_⟩, ⟨rfl, rfl, fun _ => rfl, rfl, fun j hj => absurd hj (Nat.not_lt_zero _), fun _ _ => rfl, fun i => by simp [st0], Nat.le_refl _, fun c => List.nodup_nil, fun c i hi => by simp [st0] at hi, fun i hi => absurd hi (Nat.not_lt_zero _)⟩, ?_⟩
  · have e1 := (hnil .short (by simp) (by simp) (by simp)).1
    have e2 := (hnil .trail (by simp) (by simp) (by simp)).1
    have := hO.obj
    simpa [upd, e1, e2] using this
  · rw [upd_other _ _ (by simp), upd_other _ _ (by simp), upd_other _ _ (by simp)]
    obtain ⟨e1, e2⟩ := hnil .extra (by simp) (by simp) (by simp)
    show (⟨(F .extra).e, (F .extra).v, (F .extra).xs⟩ : Ent) = ⟨3, nl, []⟩
    rw [e1, e2, h.te]; rfl
  · by_cases e3 : k = .watches
    · subst e3; rw [upd_same]; rfl
    · rw [upd_other _ _ e3]
      by_cases e2 : k = .always
      · subst e2; rw [upd_same]; rfl
      · rw [upd_other _ _ e2]
        by_cases e1 : k = .on
        · subst e1; rw [upd_same]; rfl
        · rw [upd_other _ _ e1]; cases k <;> exact h.te _
  · rw [upd_other _ _ (by simp), upd_other _ _ (by simp), upd_same]; exact rep_map _ _
  · rw [upd_other _ _ (by simp), upd_other _ _ (by simp), upd_other _ _ (by simp)]; exact (hnil .short (by simp) (by simp) (by simp)).2
  · rw [upd_other _ _ (by simp), upd_other _ _ (by simp), upd_other _ _ (by simp), h.rows]
    apply List.map_congr_left
    intro i _
    rw [upd_other _ _ (by simp), upd_other _ _ (by simp), upd_other _ _ (by simp)]
  · rw [upd_same]
    dsimp only
    rw [rep_map]
    apply List.map_congr_left
    intro c _
    rw [upd_other _ _ (by simp), upd_other _ _ (by simp), upd_other _ _ (by simp)]
    exact ((hnil (.watch c) (by simp) (by simp) (by simp)).1).symm
  · rw [upd_other _ _ (by simp), upd_other _ _ (by simp), upd_other _ _ (by simp)]; exact h.value
  · rw [upd_other _ _ (by simp), upd_other _ _ (by simp), upd_other _ _ (by simp)]; exact (hnil .trail (by simp) (by simp) (by simp)).2
  · rw [upd_other _ _ (by simp), upd_other _ _ (by simp), upd_other _ _ (by simp)]
    by_cases hi : i < done.length
    · exact h.row i hi
    · rw [(hnil (.row i) (by simp) (by simp) (fun j hj => by simp; omega)).2]
      show [] = (rowOf (done.getD i [])).map iv
      have : done.getD i [] = [] := by rw [List.getD_eq_getElem?_getD, List.getElem?_eq_none (by omega)]; rfl
      rw [this, row_nil]; rfl
  · rw [upd_other _ _ (by simp), upd_other _ _ (by simp), upd_other _ _ (by simp)]; exact (hnil (.watch c) (by simp) (by simp) (by simp)).2
  · rw [upd_other _ _ (by simp), upd_same]; exact rep_map _ _
  · rw [upd_other _ _ (by simp), upd_other _ _ (by simp), upd_other _ _ (by simp)]
end Go.Proofs.YtojjjndhabjhdaaDoor.proofK
