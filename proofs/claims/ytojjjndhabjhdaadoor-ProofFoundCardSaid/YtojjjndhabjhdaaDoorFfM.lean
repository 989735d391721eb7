/-
  Contract of sat.codesOf (printed by gen_satCa.py out of XProofI).
  Plain: how many levels there may be.
  Contract of (*search).next.
-/
import Derived.Test.YtojjjndhabjhdaaDoorFeM
import Derived.Test.YtojjjndhabjhdaaDoorFaM
namespace Go.Proofs.YtojjjndhabjhdaaDoor.satCa
set_option linter.unusedSimpArgs false
set_option linter.unusedVariables false
open Go.ChangeShapes Go.WideShapes Go.ChangeAt Go.RowKit proofP proofQ owns cls satP satQ satR satA satF satB satC satD satE satG satH satI satJ satK satM satN satU satV satO satW
open satX (own_holds own_put)
attribute [local go_sem ↓] Go.wp_at_zero Go.wp_at_succ

/-- what is left of numbers in order -/
def norm (zs : List Int) : List Int := Lib.compact (zs.mergeSort fun x y => decide (x ≤ y))
theorem sorted_ms (zs : List Int) : (zs.mergeSort fun x y => decide (x ≤ y)).Pairwise (· ≤ ·) := by
  have := List.pairwise_mergeSort (le := fun x y : Int => decide (x ≤ y)) (fun a b c h1 h2 => by simp at *; omega) (fun a b => by simp; omega) zs
  exact this.imp (by intro a b h; simpa using h)
theorem get_bang {zs : List Int} {j : Nat} (h : j < zs.length) : zs.toArray[j]! = zs[j] := by simp [getElem!_pos, h]
theorem compact_mem {zs : List Int} (x : Int) : x ∈ Lib.compact zs ↔ x ∈ zs := by
  unfold Lib.compact Lib.compactUpTo
  rw [List.mem_map]
  constructor
  · rintro ⟨j, hj, rfl⟩
    rw [List.mem_filter, List.mem_range] at hj
    rw [get_bang hj.1]; exact List.getElem_mem _
  · intro hx
    obtain ⟨j, hj, hjx⟩ := List.mem_iff_getElem.1 hx
    -- the least place of x
    have : ∃ j, (∃ h : j < zs.length, zs[j] = x) ∧ ∀ i, i < j → ∀ h : i < zs.length, zs[i] ≠ x := by
      have key : ∀ n, n < zs.length → (∃ h : n < zs.length, zs[n] = x) → ∃ j, (∃ h : j < zs.length, zs[j] = x) ∧ ∀ i, i < j → ∀ h : i < zs.length, zs[i] ≠ x := by
        intro n
        induction n using Nat.strongRecOn with
        | ind n ih =>
          intro hn hx
          by_cases h : ∃ i, i < n ∧ ∃ h : i < zs.length, zs[i] = x
          · obtain ⟨i, hi, h1, h2⟩ := h
            exact ih i hi h1 ⟨h1, h2⟩
          · exact ⟨n, hx, fun i hi h1 h2 => h ⟨i, hi, h1, h2⟩⟩
      exact key j hj ⟨hj, hjx⟩
    obtain ⟨j, ⟨hj, hjx⟩, hmin⟩ := this
    refine ⟨j, ?_, by rw [get_bang hj]; exact hjx⟩
    rw [List.mem_filter, List.mem_range]
    refine ⟨hj, ?_⟩
    by_cases h0 : j = 0
    · simp [Lib.keeps, h0]
    · refine Lib.keeps_pos ?_
      rw [get_bang hj, get_bang (show j - 1 < zs.length by omega), hjx]
      exact fun e => hmin (j - 1) (by omega) (by omega) e.symm
theorem compact_sorted {zs : List Int} (h : zs.Pairwise (· ≤ ·)) : (Lib.compact zs).Pairwise (· < ·) := by
  unfold Lib.compact Lib.compactUpTo
  rw [List.pairwise_map]
  have hr : ((List.range zs.length).filter (Lib.keeps zs.toArray)).Pairwise (· < ·) := List.Pairwise.filter _ List.pairwise_lt_range
  refine List.Pairwise.imp_of_mem ?_ hr
  intro a b ha hb hab
  rw [List.mem_filter, List.mem_range] at ha hb
  rw [get_bang ha.1, get_bang hb.1]
  have hk := hb.2
  simp only [Lib.keeps, decide_eq_true_eq] at hk
  have hne := hk.resolve_left (by omega)
  rw [get_bang hb.1, get_bang (show b - 1 < zs.length by omega)] at hne
  have hp := List.pairwise_iff_getElem.1 h
  have h1 : zs[b - 1] ≤ zs[b] := hp (b - 1) b (by omega) hb.1 (by omega)
  have h2 : zs[a] ≤ zs[b - 1] := by
    by_cases e : a = b - 1
    · subst e; exact Int.le_refl _
    · exact hp a (b - 1) ha.1 (by omega) (by omega)
  have : zs[b] ≠ zs[b - 1] := hne
  omega
theorem norm_mem {zs : List Int} (x : Int) : x ∈ norm zs ↔ x ∈ zs := by
  unfold norm; rw [compact_mem]; exact (List.mergeSort_perm zs _).mem_iff
theorem norm_sorted (zs : List Int) : (norm zs).Pairwise (· < ·) := compact_sorted (sorted_ms zs)

/-- a clause's codes, in order -/
def cods (c : List Int) : List Int := (c.filter fun l => decide (lit l)).map fun l => ((code l : Nat) : Int)
def rowOf (c : List Int) : List Nat := (norm (cods c)).map Int.toNat
theorem cods_snoc_yes (c : List Int) {l : Int} (h : lit l) : cods (c ++ [l]) = cods c ++ [((code l : Nat) : Int)] := by simp [cods, h]
theorem cods_snoc_no (c : List Int) {l : Int} (h : ¬ lit l) : cods (c ++ [l]) = cods c := by simp [cods, h]
theorem mem_cods {c : List Int} {x : Int} : x ∈ cods c ↔ ∃ l, l ∈ c ∧ lit l ∧ ((code l : Nat) : Int) = x := by simp [cods, and_assoc]
theorem row_back (c : List Int) : (rowOf c).map (fun x : Nat => (x : Int)) = norm (cods c) := by
  unfold rowOf
  rw [List.map_map]
  conv => rhs; rw [← List.map_id (norm (cods c))]
  apply List.map_congr_left
  intro x hx
  obtain ⟨l, _, _, rfl⟩ := mem_cods.1 ((norm_mem x).1 hx)
  simp
theorem row_is (c : List Int) : RowOf (rowOf c) c := by
  intro x
  have : x ∈ rowOf c ↔ (x : Int) ∈ norm (cods c) := by
    rw [← row_back]
    constructor
    · intro h; exact List.mem_map.2 ⟨x, h, rfl⟩
    · intro h
      obtain ⟨y, hy, e⟩ := List.mem_map.1 h
      have e' : y = x := by omega
      rw [← e']; exact hy
  rw [this, norm_mem, mem_cods]
  constructor
  · rintro ⟨l, h1, h2, h3⟩; exact ⟨l, h1, h2, by omega⟩
  · rintro ⟨l, h1, h2, h3⟩; exact ⟨l, h1, h2, by omega⟩
theorem row_sorted (c : List Int) : (rowOf c).Pairwise (· < ·) := by
  have := norm_sorted (cods c)
  rw [← row_back, List.pairwise_map] at this
  exact this.imp (by intro a b h; omega)
theorem row_nodup (c : List Int) : (rowOf c).Nodup := (row_sorted c).imp (by intro a b h e; omega)
theorem row_iv (c : List Int) : (rowOf c).map iv = (norm (cods c)).map (Value.int .i64) := by rw [← row_back, List.map_map]; rfl
theorem row_len (c : List Int) : (rowOf c).length = (norm (cods c)).length := by unfold rowOf; simp
theorem cods_len (c : List Int) : (cods c).length ≤ c.length := by unfold cods; simp only [List.length_map]; exact List.length_filter_le _ _

set_option maxHeartbeats 2000000 in
set_option maxRecDepth 100000 in
theorem codesOf_any (w : World) (B : Nat) (cv : Value) (c : List Int) (hc : IntsAt w B cv c) (hB : B ≤ w.heap.size) (hcl : c.length ≤ 100000) (hall : ∀ l, l ∈ c → lit l) :
    Calls Tryd.prog 12 #[cv] w fun e w' => ∃ v, e = .returned v ∧ w'.ownsRow w.heap.size 3 1 v (rowOf c).length ((rowOf c).map iv) ∧ Below w.heap.size w w' := by
  obtain ⟨ao, cap, b, off, rfl, hm, ha, hcell, h64⟩ := hc
  have HA := Lib.hid ha
  have HC := Lib.hid hcell
  have HALL := Lib.hid hall
  clear ha hcell h64 hm hall
  obtain ⟨i0, hi, hz0, hz1, hz2⟩ := info_parts infoI
  go_enter Tryd.func12, Tryd.ntmps12
  go_wp2_with (at_make; refine wpList_make_own _ rfl _ _ 23 rfl w.heap.size 3 i0 (.int .i64 0) 1 Tryd.underlying23 hi hz0 hz1 .i64 .i64 _ c.length rfl rfl rfl ?c1 ?c2 ?c3 ?_)
  case c1 => rw [hz2]; omega
  case c2 => unfold maxLen; omega
  case c3 => exact Nat.le_refl _
  intro w1 hown hgrow
  have HOW : Hid (w1.ownsRow w.heap.size 3 1 (.slice (some ⟨w.heap.size, 0, none⟩) 0 c.length) (cods (c.take 0)).length ((cods (c.take 0)).map (Value.int .i64))) := Lib.hid (by simpa [cods] using hown)
  have HB1 := Lib.hid (below_grown hgrow (Nat.le_refl w.heap.size) (by intro k hk; cases hk))
  clear hown hgrow
  go_wp2
  go_loopw [3, 11] (fun v it wr => ∃ k : Nat, k ≤ c.length ∧ it = .int .i64 k ∧ wr.ownsRow w.heap.size 3 1 v (cods (c.take k)).length ((cods (c.take k)).map (Value.int .i64)) ∧ Below w.heap.size w wr ∧ (∃ ao n cap, v = .slice ao n cap)) (fun _ it _ => c.length - (intOf it).toNat)
  case atStart => exact ⟨0, Nat.zero_le _, rfl, HOW.out, HB1.out, _, _, _, rfl⟩
  case round =>
    obtain ⟨k, hk, rfl, hown, hb, av, nv, cpv, rfl⟩ := hrel
    clear HOW HB1
    have HB := Lib.hid hb
    have HO := Lib.hid hown
    by_cases hlt : k < c.length
    · obtain ⟨rfl, hbB⟩ := HA.out (by intro h0; rw [h0] at hlt; simp at hlt)
      have q : wr.cell? ⟨b, off + k, none⟩ = some (.int .i64 (c.getD k 0)) := by rw [hb.cell (show (⟨b, off + k, none⟩ : Addr).block < w.heap.size from by show b < _; omega)]; exact HC.out k hlt
      have hst : c.take (k + 1) = c.take k ++ [c.getD k 0] := by
        rw [List.take_succ_eq_append_getElem hlt, List.getD_eq_getElem?_getD, List.getElem?_eq_getElem hlt]; rfl
      have HST := Lib.hid hst
      have hlit : lit (c.getD k 0) := HALL.out _ (by rw [List.getD_eq_getElem?_getD, List.getElem?_eq_getElem hlt]; exact List.getElem_mem hlt)
      generalize c.getD k 0 = l at *
      have hlen := cods_len (c.take k)
      have hlt2 : (c.take k).length ≤ k := List.length_take_le _ _
      have hsz := hb.size
      clear hb hown hst
      have HL := Lib.hid hlit
      have HE : Hid (cods (c.take (k + 1)) = cods (c.take k) ++ [((code l : Nat) : Int)]) := Lib.hid (by rw [HST.out, cods_snoc_yes _ hlit])
      clear hlit
      have hlb : -20000 ≤ l ∧ l ≤ 20000 := by have := HL.out; unfold lit at this; omega
      have HCO := Lib.hid (code_any wr l hlb)
      generalize code l = cd at *
      have HO1 := Lib.hid (HO.out.alloc (.cells #[.int .i64 (cd : Nat)] 3))
      clear HL hlb
      go_wp2_with fail
      refine HCO.out.mono ?_
      rintro e w' ⟨rfl, rfl⟩
      go_wp2_with (at_builtin; refine wpList_append_own_at _ rfl (.tmp 15) (.tmp 18) 23 rfl w.heap.size 3 i0 (.int .i64 0) 1 8 Tryd.underlying23 hi hz0 hz1 hz2 rfl (by decide) (.slice av nv cpv) (cods (c.take k)).length ((cods (c.take k)).map (Value.int .i64)) rfl HO1.out ⟨w'.heap.size, 0, none⟩ 1 1 [.int .i64 (cd : Nat)] rfl rfl (new_one _ _ _) ?d2 ?d3 ?d4 ?d5 ?_)
      case d2 => simp [Value.oneCell']
      case d3 => unfold maxLen; omega
      case d4 => omega
      case d5 => simp; omega
      intro v' w2 hown2 hgrow2 _ _
      obtain ⟨g2, cap2, rfl, _, _, _, _⟩ := own_form hown2 (by omega)
      have R1 : Hid (w2.ownsRow w.heap.size 3 1 (.slice (some ⟨g2, 0, none⟩) ((cods (c.take k)).length + 1) cap2) (cods (c.take (k + 1))).length ((cods (c.take (k + 1))).map (Value.int .i64))) := Lib.hid (by rw [HE.out]; simpa using hown2)
      have R2 := Lib.hid ((HB.out.alloc (by omega) _).grown hgrow2 (by simp; omega) (fun j hj => (HO.out.lt j hj).1))
      clear hown2 hgrow2
      go_wp2
      go_roundw
      case rel => exact ⟨k + 1, by omega, by go_num, R1.out, R2.out, _, _, _, rfl⟩
      case measure => simp [intOf]; omega
    · obtain rfl : k = c.length := by omega
      rw [List.take_length] at hown HO
      have hlen := cods_len c
      have hsz := hb.size
      clear hb
      have HE0 := Lib.hid (row_len c)
      have HEV := Lib.hid (row_iv c)
      by_cases h0 : (cods c).length = 0
      · have hc0 : cods c = [] := List.length_eq_zero_iff.1 h0
        have hn0 : nv = 0 := by
          rcases hown.2 with ⟨hv, _⟩ | ⟨_, _, _, hv, _⟩
          · cases hv; rfl
          · simp only [Value.slice.injEq] at hv; omega
        subst hn0
        have hnorm : norm (cods c) = [] := List.eq_nil_iff_forall_not_mem.2 (fun x hx => by rw [norm_mem, hc0] at hx; simp at hx)
        have HF : Hid (∀ v', wr.ownsRow w.heap.size 3 1 v' 0 [] → wr.ownsRow w.heap.size 3 1 v' (rowOf c).length ((rowOf c).map iv)) := Lib.hid (fun v' h => by rw [HE0.out, HEV.out, hnorm]; exact h)
        have HO' : Hid (wr.ownsRow w.heap.size 3 1 (.slice av 0 cpv) 0 []) := Lib.hid (by have := HO.out; rw [hc0] at this; exact this)
        clear hown hc0 hnorm
        go_wp2_with (first | (go_at_call 17; refine (Tryd.slices_Sort_int_none _ _ _).mono ?_; rintro e w' ⟨rfl, rfl⟩) | (go_at_call 28; refine (Tryd.slices_Compact_int_empty _ _ _).mono ?_; rintro e w' ⟨rfl, rfl⟩))
        go_ret
        exact ⟨_, rfl, HF.out _ HO'.out, HB.out⟩
      · obtain ⟨g, cap3, hv, hg1, hg2, hg3, hg4⟩ := own_form hown (by omega)
        simp only [Value.slice.injEq] at hv
        obtain ⟨rfl, rfl, rfl⟩ := hv
        obtain ⟨hH, hgl, hcp⟩ := own_holds hown
        have HS := Lib.hid (Tryd.slices_Sort_int g 0 cpv (cods c) wr hH hgl (by omega))
        have HL1 : Hid (((cods c).mergeSort fun x y => decide (x ≤ y)).length = (cods c).length) := Lib.hid (List.length_mergeSort _)
        have HN : Hid (norm (cods c) = Lib.compact ((cods c).mergeSort fun x y => decide (x ≤ y))) := Lib.hid rfl
        generalize ((cods c).mergeSort fun x y => decide (x ≤ y)) = ts at *
        clear hown hH h0
        go_wp2_with fail
        refine HS.out.mono ?_
        rintro e w2 ⟨rfl, n2, os2, hw2⟩
        obtain ⟨o2, g2⟩ := own_put HO.out HL1.out n2 os2
        rw [← hw2] at o2 g2
        clear hw2
        have o2' : w2.ownsRow w.heap.size 3 1 (.slice (some ⟨g, 0, none⟩) ts.length cpv) ts.length (ts.map (Value.int .i64)) := by rw [HL1.out]; exact o2
        obtain ⟨hH2, _, hcp2⟩ := own_holds o2'
        have HC2 := Lib.hid (Tryd.slices_Compact_int g 0 cpv ts w2 hH2 (by have := HL1.out; omega) hcp2)
        rw [HL1.out] at HC2
        have HO2 := Lib.hid o2'
        have HB2 := Lib.hid (HB.out.grown g2 hsz (fun k hk => by cases hk; exact hg1))
        have hsz2 := g2.size
        clear o2 g2 o2' hH2
        go_wp2_with fail
        refine HC2.out.mono ?_
        rintro e w3 ⟨rfl, q3, hw3⟩
        have hcl := Lib.compact_length_le ts
        have hzl : (Lib.compact ts ++ List.replicate ((cods c).length - (Lib.compact ts).length) 0).length = ts.length := by rw [List.length_append, List.length_replicate, HL1.out]; have := HL1.out; omega
        obtain ⟨o3, g3⟩ := own_put HO2.out hzl q3 #[]
        rw [Go.Sort.grow_empty, ← hw3] at o3 g3
        have o4 := satX.own_cut (m := (Lib.compact ts).length) o3 hcl
        rw [← List.map_take, List.take_left'  rfl] at o4
        have HF : Hid (w3.ownsRow w.heap.size 3 1 (.slice (some ⟨g, 0, none⟩) (Lib.compact ts).length cpv) (rowOf c).length ((rowOf c).map iv)) := Lib.hid (by rw [HE0.out, HEV.out, HN.out]; exact o4)
        have HB3 := Lib.hid (HB2.out.grown g3 (by omega) (fun k hk => by cases hk; exact hg1))
        clear hw3 o3 g3 o4 hzl hcl
        go_wp2
        go_ret
        exact ⟨_, rfl, HF.out, HB3.out⟩
end Go.Proofs.YtojjjndhabjhdaaDoor.satCa
namespace Go.Proofs.YtojjjndhabjhdaaDoor.satCb
open proofP proofQ satP

/-- the levels behind the wn assumptions' each begin with a code of their own -/
def SL (wn : Nat) (starts : List Nat) : Prop := ∀ (j a : Nat), starts[j]? = some a → j ≤ wn + a
theorem SL.nil (wn : Nat) : SL wn [] := by intro j a h; simp at h
theorem SL.take {wn : Nat} {starts : List Nat} (h : SL wn starts) (b : Nat) : SL wn (starts.take b) := by
  intro j a hj
  exact h j a (take_at.1 hj).2
theorem SL.free {wn : Nat} {starts : List Nat} (h : SL wn starts) (hl : starts.length < wn) (t : Nat) : SL wn (starts ++ [t]) := by
  intro j a hj
  by_cases e : j < starts.length
  · rw [List.getElem?_append_left e] at hj; exact h j a hj
  · have := at_lt hj
    simp at this; omega
theorem SL.dec {wn : Nat} {starts : List Nat} (h : SL wn starts) {t : Nat} (hl : ∀ s, s ∈ starts → s < t) : SL wn (starts ++ [t]) := by
  intro j a hj
  by_cases e : j < starts.length
  · rw [List.getElem?_append_left e] at hj; exact h j a hj
  · have h1 := at_lt hj
    have h2 : j = starts.length := by simp at h1; omega
    subst h2
    simp at hj
    subst hj
    by_cases e0 : starts.length = 0
    · omega
    · have hj : starts[starts.length - 1]? = some (starts[starts.length - 1]'(by omega)) := List.getElem?_eq_getElem (by omega)
      have := h _ _ hj
      have := hl _ (List.getElem_mem (show starts.length - 1 < starts.length by omega))
      omega
theorem SL.bound {wn m : Nat} {starts : List Nat} (h : SL wn starts) (hm : ∀ s, s ∈ starts → s < m) : starts.length ≤ wn + m := by
  by_cases e0 : starts.length = 0
  · omega
  · have hj : starts[starts.length - 1]? = some (starts[starts.length - 1]'(by omega)) := List.getElem?_eq_getElem (by omega)
    have := h _ _ hj
    have := hm _ (List.getElem_mem (show starts.length - 1 < starts.length by omega))
    omega
end Go.Proofs.YtojjjndhabjhdaaDoor.satCb
namespace Go.Proofs.YtojjjndhabjhdaaDoor.satCc
set_option linter.unusedSimpArgs false
set_option linter.unusedVariables false
open Go.ChangeShapes Go.WideShapes Go.ChangeAt Go.RowKit proofP proofQ owns cls satP satQ satR satA satF satB satC satD satE satG satH satI satJ satK satM satN satU satV satO satW satX satCb
attribute [local go_sem ↓] Go.wp_at_zero Go.wp_at_succ

section
variable {w w' : World} {B bp : Nat} {s : SS} {F : Ix → Ent}
/-- so many levels of assumptions that are true already -/
def nst (s : SS) (m : Nat) : List Nat := s.starts ++ List.replicate m s.trail.length
theorem nst_len (s : SS) (m : Nat) : (nst s m).length = s.starts.length + m := by unfold nst; simp
theorem nst_succ (s : SS) (m : Nat) : nst s (m + 1) = nst s m ++ [s.trail.length] := by unfold nst; rw [List.replicate_succ', List.append_assoc]
/-- while they are gone through -/
def NRel (B bp : Nat) (s : SS) (F : Ix → Ent) (w : World) (m : Nat) (wr : World) : Prop :=
  ∃ F', Mem wr B bp (s.sts (nst s m)) F' ∧ (∀ k, k ≠ .starts → (F' k).v = (F k).v) ∧ Below B w wr ∧ ∀ i, i < m → s.wanted.getD (s.starts.length + i) 0 ∈ s.vt
theorem _root_.Go.Proofs.YtojjjndhabjhdaaDoor.satA.Mem.wantAt (h : Mem w B bp s F) : ∃ a cap, w.cell? ⟨bp, 5, none⟩ = some (.slice a s.wanted.length cap) ∧ ∀ p, p < s.wanted.length → ∃ g, a = some ⟨g, 0, none⟩ ∧ w.cell? ⟨g, p, none⟩ = some (.int .i64 (s.wanted.getD p 0 : Nat)) := by
  obtain ⟨a, c, hv⟩ := h.own.value .wanted
  rw [h.xs, show (cont s (fvs F) .wanted).length = s.wanted.length from by simp [cont]] at hv
  refine ⟨a, c, (h.fld 5).trans (congrArg some hv), fun p hp => ?_⟩
  obtain ⟨g, c2, hv2, q, _⟩ := h.at .wanted (n := s.wanted.length) (by simp [cont]) (by omega)
  rw [hv] at hv2
  simp only [Value.slice.injEq, true_and] at hv2
  exact ⟨g, hv2.1, by rw [q p hp, show cont s (fvs F) .wanted = s.wanted.map iv from rfl, getD_iv hp]⟩
theorem qi_nodup {V : Nat} {P : Nat → Prop} {hp : List Nat} {pl : Nat → Int} (h : QI V P hp pl) : hp.Nodup := by
  unfold List.Nodup
  rw [List.pairwise_iff_getElem]
  intro i j hi hj hij e
  have h1 : hp[i]? = some hp[i] := List.getElem?_eq_getElem hi
  have h2 : hp[j]? = some hp[j] := List.getElem?_eq_getElem hj
  rw [← e] at h2
  have := h.inj h1 h2
  omega
theorem qi_less {V : Nat} {P : Nat → Prop} {hp hp2 : List Nat} {pl pl2 : Nat → Int} {v : Nat} (h : QI V P hp pl) (h2 : QI V (fun u => P u ∧ u ≠ v) hp2 pl2) (hv : 1 ≤ v ∧ v ≤ V) (hP : P v) : hp2.length < hp.length := by
  obtain ⟨i, _, hi⟩ := (h.pl v hv.1 hv.2).1 hP
  have hm : v ∈ hp := mem_at.2 ⟨i, hi⟩
  have hs : hp2 ⊆ hp.erase v := by
    intro u hu
    obtain ⟨j, hj⟩ := mem_at.1 hu
    have h3 := h2.inP hj
    have hr := h2.rng hu
    obtain ⟨k, _, hk⟩ := (h.pl u hr.1 hr.2).1 h3.1
    exact (List.mem_erase_of_ne h3.2).2 (mem_at.2 ⟨k, hk⟩)
  have h4 := (qi_nodup h2).length_le_of_subset hs
  have h5 := erase_len hm
  omega
/-- the length of the queue's list -/
def heapAt (wr : World) (bp : Nat) : Nat := match wr.cell? ⟨bp, 17, none⟩ with
  | some (.slice _ n _) => n
  | _ => 0
theorem heapAt_is {s : SS} {F : Ix → Ent} {w : World} {B bp : Nat} (h : Mem w B bp s F) : heapAt w bp = s.heap.length := by
  obtain ⟨a, c, hv⟩ := h.own.value .heap
  rw [h.xs, show (cont s (fvs F) .heap).length = s.heap.length from by simp [cont]] at hv
  have f : w.cell? ⟨bp, 17, none⟩ = some (F .heap).v := h.fld 17
  rw [hv] at f
  unfold heapAt
  rw [f]
/-- the length of the levels' list -/
def lenAt (wr : World) (bp : Nat) : Nat := match wr.cell? ⟨bp, 12, none⟩ with
  | some (.slice _ n _) => n
  | _ => 0
theorem NRel.lenAt {m : Nat} {wr : World} (h : NRel B bp s F w m wr) : lenAt wr bp = s.starts.length + m := by
  obtain ⟨F', M, _⟩ := h
  obtain ⟨a, c, f⟩ := M.stAt
  unfold satCc.lenAt
  rw [f]
  exact nst_len s m
def NxP (B bp : Nat) (s : SS) (F : Ix → Ent) (P : Nat → Prop) (w : World) (e : Ending) (w' : World) : Prop :=
  ∃ m, (∀ i, i < m → s.wanted.getD (s.starts.length + i) 0 ∈ s.vt) ∧ Below B w w' ∧
    ((s.starts.length + m < s.wanted.length ∧ s.wanted.getD (s.starts.length + m) 0 ∉ s.vt ∧ e = .returned (.int .i64 (s.wanted.getD (s.starts.length + m) 0 : Nat)) ∧ ∃ F', Mem w' B bp (s.sts (nst s m)) F' ∧ ∀ k, k ≠ .starts → (F' k).v = (F k).v) ∨
      (s.wanted.length ≤ s.starts.length + m ∧ ∃ P' hp pl F', Mem w' B bp ((s.sts (nst s m)).qu hp pl) F' ∧ QI s.V P' hp pl ∧ (∀ u, P' u → P u) ∧
        ((e = .returned (.int .i64 0) ∧ hp = [] ∧ ∀ u, P u → ¬ P' u → 2 * u ∈ s.vt ∨ 2 * u + 1 ∈ s.vt) ∨
          ∃ v, 1 ≤ v ∧ v ≤ s.V ∧ P v ∧ 2 * v ∉ s.vt ∧ 2 * v + 1 ∉ s.vt ∧ e = .returned (.int .i64 (2 * v + s.phase v : Nat)) ∧ ∀ u, P u → ¬ P' u → u = v ∨ 2 * u ∈ s.vt ∨ 2 * u + 1 ∈ s.vt)))
/-- while the queue's first ones are taken -/
def QRel (B bp : Nat) (s : SS) (P : Nat → Prop) (w : World) (m : Nat) (wr : World) : Prop :=
  ∃ P' hp pl F', Mem wr B bp ((s.sts (nst s m)).qu hp pl) F' ∧ QI s.V P' hp pl ∧ (∀ u, P' u → P u) ∧ (∀ u, P u → ¬ P' u → 2 * u ∈ s.vt ∨ 2 * u + 1 ∈ s.vt) ∧ Below B w wr
set_option maxHeartbeats 4000000 in
set_option maxRecDepth 100000 in
theorem next_any (h : Mem w B bp s F) (hW : WF s) (hV : s.V ≤ 20000) (hl : s.trail.length ≤ 20000) (hsl : s.starts.length ≤ 100000) (hwl : s.wanted.length ≤ 50000) (hwr : ∀ c, c ∈ s.wanted → c < 2 * s.V + 2) (hph : ∀ v, s.phase v ≤ 1) (P : Nat → Prop) (hQ : QI s.V P s.heap s.place) :
    Calls Tryd.prog 36 #[.pointer (some ⟨bp, 0, none⟩)] w (NxP B bp s F P w) := by
  have hn0 : nst s 0 = s.starts := by unfold nst; simp
  have HR0 : Hid (NRel B bp s F w 0 w) := Lib.hid ⟨F, hn0.symm ▸ h, fun _ _ => rfl, Below.refl _ _, fun i hi => absurd hi (by omega)⟩
  have hB := h.hB
  have hbl := h.obj.lt
  have HWR := Lib.hid hwr
  have HPH := Lib.hid hph
  have HQ := Lib.hid hQ
  have HW := Lib.hid hW
  clear h hwr hph hQ hW hn0
  go_enter Tryd.func36, Tryd.ntmps36
  go_wp2
  go_loopw [] (fun wr => ∃ m, m ≤ s.wanted.length ∧ NRel B bp s F w m wr) (fun wr => s.wanted.length - lenAt wr bp)
  case atStart => exact ⟨0, by omega, HR0.out⟩
  case round =>
    obtain ⟨m, hm, F2, M, hF, hb, hall⟩ := hrel
    have hle := nst_len s m
    obtain ⟨aS, cS, f12⟩ := M.stAt
    obtain ⟨aW, cW, f5, qW⟩ := M.wantAt
    obtain ⟨gV, cV, _, f7, qV, _, _⟩ := M.valAt
    change wr.cell? ⟨bp, 12, none⟩ = some (.slice aS (nst s m).length cS) at f12
    change wr.cell? ⟨bp, 5, none⟩ = some (.slice aW s.wanted.length cW) at f5
    change wr.cell? ⟨bp, 7, none⟩ = some (.slice (some ⟨gV, 0, none⟩) (2 * s.V + 2) cV) at f7
    rw [hle] at f12
    by_cases hlt : s.starts.length + m < s.wanted.length
    · obtain ⟨gW, rfl, q5⟩ := qW _ hlt
      change wr.cell? ⟨gW, s.starts.length + m, none⟩ = some (.int .i64 (s.wanted.getD (s.starts.length + m) 0 : Nat)) at q5
      have hcr := HWR.out _ (getD_mem' hlt)
      have q7 := qV _ hcr
      change wr.cell? ⟨gV, s.wanted.getD (s.starts.length + m) 0, none⟩ = some (.int .i8 (val s.vt (s.wanted.getD (s.starts.length + m) 0))) at q7
      by_cases hin : s.wanted.getD (s.starts.length + m) 0 ∈ s.vt
      · skip
        have hvl : val s.vt (s.wanted.getD (s.starts.length + m) 0) = 1 := val_pos hin
        rw [hvl] at q7
        have HM : Hid (Mem wr.drew.drew B bp (s.sts (nst s m)) F2) := Lib.hid ((M.below (Below.refl _ _).drew).below (Below.refl _ _).drew)
        have HB : Hid (Below B w wr.drew.drew) := Lib.hid hb.drew.drew
        have HF := Lib.hid hF
        have HALL : Hid (∀ i, i < m + 1 → s.wanted.getD (s.starts.length + i) 0 ∈ s.vt) := Lib.hid fun i hi => by
          by_cases e : i < m
          · exact hall i e
          · obtain rfl : i = m := by omega
            exact hin
        have HLE := Lib.hid (NRel.lenAt (s := s) (F := F) (w := w) (m := m) ⟨F2, M, hF, hb, hall⟩)
        generalize s.wanted.getD (s.starts.length + m) 0 = c at *
        clear M hF hb hall qV qW hin HR0 hvl
        go_wp2
        go_region
        go_wp2
        go_region
        go_wp2_with fail
        generalize wr.drew.drew = w0 at *
        have f11 : w0.cell? ⟨bp, 11, none⟩ = some (F2 .trail).v := HM.out.fld 11
        have f12b : w0.cell? ⟨bp, 12, none⟩ = some (F2 .starts).v := HM.out.fld 12
        have z12 := HM.out.obj.frozen 12
        obtain ⟨aT, cT, hTv⟩ := HM.out.own.value .trail
        rw [HM.out.xs, show (cont (s.sts (nst s m)) (fvs F2) .trail).length = s.trail.length from by simp [cont, SS.sts]] at hTv
        rw [hTv] at f11
        have HO := Lib.hid (HM.out.ownAt .starts rfl)
        have hxl : (cont (s.sts (nst s m)) (fvs F2) .starts).length = s.starts.length + m := by rw [← hle]; simp [cont, SS.sts]
        have hgt := HM.out.ne .starts
        have hbl0 := HM.out.obj.lt
        generalize hsv : (F2 .starts).v = sv at *
        have HSV := Lib.hid hsv
        clear hTv hsv
        obtain ⟨i0, hi, hz0, hz1, hz2⟩ := info_parts infoI
        have hA : Below w0.heap.size w0 (w0.alloc (.cells #[.int .i64 (s.trail.length : Nat)] 3)).drew := ((Below.refl _ _).alloc (Nat.le_refl _) _).drew
        have ma12 : ((w0.alloc (.cells #[.int .i64 (s.trail.length : Nat)] 3)).drew).cell? ⟨bp, 12, none⟩ = some sv := (hA.cell hbl0).trans f12b
        have ma11 : ((w0.alloc (.cells #[.int .i64 (s.trail.length : Nat)] 3)).drew).cell? ⟨bp, 11, none⟩ = some (.slice aT s.trail.length cT) := (hA.cell hbl0).trans f11
        have maz : ((w0.alloc (.cells #[.int .i64 (s.trail.length : Nat)] 3)).drew).frozen? ⟨bp, 12, none⟩ = false := (hA.frozen hbl0).trans z12
        have HA := Lib.hid hA
        clear hA
        refine held.region (fun w' => w'.cell? ⟨bp, 12, none⟩ = some sv ∧ w'.cell? ⟨bp, 11, none⟩ = some (.slice aT s.trail.length cT)) 14 (by kernel_rfl) ?_
        have hS : w0.drew.cell? ⟨bp, 12, none⟩ = some sv ∧ w0.drew.cell? ⟨bp, 11, none⟩ = some (.slice aT s.trail.length cT) := ⟨f12b, f11⟩
        refine held.wpLeft.take (i := 0) (v := ?_) rfl (by kernel_rfl) (by kernel_rfl) (by kernel_rfl) (by kernel_rfl) (by kernel_rfl) (fun _ _ _ h => h) (by rfl) ?_ hS ?_
        rotate_left
        · (intro w hSw; obtain ⟨s1, s2⟩ := hSw; go_simp; try with_reducible rfl)
        simp only [Act.put, List.setIfInBounds_toArray, List.set_cons_zero, List.set_cons_succ]
        refine held.wpLeft.take (i := 1) (v := ?_) rfl (by kernel_rfl) (by kernel_rfl) (by kernel_rfl) (by kernel_rfl) (by kernel_rfl) (fun _ _ _ h => h) (by rfl) ?_ hS ?_
        rotate_left
        · (intro w hSw; obtain ⟨s1, s2⟩ := hSw; go_simp; try with_reducible rfl)
        simp only [Act.put, List.setIfInBounds_toArray, List.set_cons_zero, List.set_cons_succ]
        refine held.wpLeft.take (i := 2) (v := ?_) rfl (by kernel_rfl) (by kernel_rfl) (by kernel_rfl) (by kernel_rfl) (by kernel_rfl) (fun _ _ _ h => h) (by rfl) ?_ hS ?_
        rotate_left
        · (intro w hSw; obtain ⟨s1, s2⟩ := hSw; go_simp; try with_reducible rfl)
        simp only [Act.put, List.setIfInBounds_toArray, List.set_cons_zero, List.set_cons_succ]
        refine held.wpLeft.take (i := 3) (v := ?_) rfl (by kernel_rfl) (by kernel_rfl) (by kernel_rfl) (by kernel_rfl) (by kernel_rfl) (fun _ _ _ h => h) (by rfl) ?_ hS ?_
        rotate_left
        · (intro w hSw; obtain ⟨s1, s2⟩ := hSw; go_simp; try with_reducible rfl)
        simp only [Act.put, List.setIfInBounds_toArray, List.set_cons_zero, List.set_cons_succ]
        refine held.wpLeft.take (i := 4) (v := ?_) rfl (by kernel_rfl) (by kernel_rfl) (by kernel_rfl) (by kernel_rfl) (by kernel_rfl) (fun _ _ _ h => h) (by rfl) ?_ hS ?_
        rotate_left
        · (intro w hSw; obtain ⟨s1, s2⟩ := hSw; go_simp; try with_reducible rfl)
        simp only [Act.put, List.setIfInBounds_toArray, List.set_cons_zero, List.set_cons_succ]
        refine held.wpLeft.take (i := 5) (v := ?_) rfl (by kernel_rfl) (by kernel_rfl) (by kernel_rfl) (by kernel_rfl) (by kernel_rfl) (fun _ _ _ h => h) (by rfl) ?_ hS ?_
        rotate_left
        · (intro w hSw; obtain ⟨s1, s2⟩ := hSw; go_simp; try with_reducible rfl)
        simp only [Act.put, List.setIfInBounds_toArray, List.set_cons_zero, List.set_cons_succ]
        refine held.wpLeft.take (i := 6) (v := ?_) rfl (by kernel_rfl) (by kernel_rfl) (by kernel_rfl) (by kernel_rfl) (by kernel_rfl) (fun _ _ _ h => h) (by rfl) ?_ hS ?_
        rotate_left
        · (intro w hSw; obtain ⟨s1, s2⟩ := hSw; go_simp; try with_reducible rfl)
        simp only [Act.put, List.setIfInBounds_toArray, List.set_cons_zero, List.set_cons_succ]
        refine held.wpLeft.take (i := 7) (v := ?_) rfl (by kernel_rfl) (by kernel_rfl) (by kernel_rfl) (by kernel_rfl) (by kernel_rfl) (fun _ _ _ h => h) (by rfl) ?_ hS ?_
        rotate_left
        · (intro w hSw; obtain ⟨s1, s2⟩ := hSw; go_simp; try with_reducible rfl)
        simp only [Act.put, List.setIfInBounds_toArray, List.set_cons_zero, List.set_cons_succ]
        refine held.wpLeft.take (i := 8) (v := ?_) rfl (by kernel_rfl) (by kernel_rfl) (by kernel_rfl) (by kernel_rfl) (by kernel_rfl) (fun _ _ _ h => h) (by rfl) ?_ hS ?_
        rotate_left
        · (intro w hSw; obtain ⟨s1, s2⟩ := hSw; go_simp; try with_reducible rfl)
        simp only [Act.put, List.setIfInBounds_toArray, List.set_cons_zero, List.set_cons_succ]
        refine held.wpLeft.take (i := 9) (v := ?_) rfl (by kernel_rfl) (by kernel_rfl) (by kernel_rfl) (by kernel_rfl) (by kernel_rfl) (fun _ _ _ h => h) (by rfl) ?_ hS ?_
        rotate_left
        · (intro w hSw; obtain ⟨s1, s2⟩ := hSw; go_simp; try with_reducible rfl)
        simp only [Act.put, List.setIfInBounds_toArray, List.set_cons_zero, List.set_cons_succ]
        refine held.wpLeft.one (i := 10) (by kernel_rfl) rfl (fun K hK => ?_)
        go_simp
        refine hK.out _ _ (fun _ => ⟨ma12, ma11⟩) ?_
        clear hK K
        refine held.wpLeft.one (i := 11) (by kernel_rfl) rfl (fun K2 hK2 => ?_)
        refine step_append_lies _ (by rfl) _ _ _ (by rfl) B 3 i0 _ 1 8 Tryd.underlying23 hi hz0 hz1 hz2 rfl (by omega) sv (s.starts.length + m) (cont (s.sts (nst s m)) (fvs F2) .starts) (by rfl) (by have := (HO.out.alloc (.cells #[.int .i64 (s.trail.length : Nat)] 3)).drew; rw [hxl] at this; exact this) ⟨w0.heap.size, 0, none⟩ 1 1 [.int .i64 (s.trail.length : Nat)] (by rfl) (by rfl) (World.news_of_block (cs := #[.int .i64 (s.trail.length : Nat)]) (t := 3) (fr := (0, 0)) (heap_alloc_new w0 _)) (by simp [Value.oneCell']) (by omega) (by unfold maxLen; omega) (by omega) (by simp; omega) (w0.heap.size + 1) (by simp) ?_
        intro gg cap w1 hown1 hgrow hat hlt1
        have m12 : w1.cell? ⟨bp, 12, none⟩ = some sv := hgrow.cell ma12 (fun e => hgt e.symm)
        have m11 : w1.cell? ⟨bp, 11, none⟩ = some (.slice aT s.trail.length cT) := hgrow.cell ma11 (fun e => hgt e.symm)
        have zw : w1.frozen? ⟨bp, 12, none⟩ = false := (World.frozen?_of_block (hgrow.block bp (by simp; omega) (fun e => hgt e.symm))).trans maz
        obtain ⟨F3, M3, K3, B3⟩ := HM.out.appStarts (v := s.trail.length) (n := s.starts.length + m) hle HA.out hown1 (by rw [HSV.out]; exact hgrow) (by
          rw [HSV.out]
          rcases hat with hat | hat
          · exact .inl hat.symm
          · exact .inr (by rw [hat]; simp))
        refine hK2.out _ _ (fun _ => ⟨m12, m11⟩) ?_
        clear hK2 K2 hown1 hgrow hat hlt1
        refine held.wpLeft.one (i := 12) (by kernel_rfl) rfl (fun K3 hK3 => ?_)
        go_simp
        refine hK3.out _ _ (fun _ => ⟨m12, m11⟩) ?_
        clear hK3 K3
        refine held.wpLeft.one (i := 13) (by kernel_rfl) rfl (fun K3 hK3 => ?_)
        go_simp
        refine hK3.out _ _ (fun _ => ⟨m12, m11⟩) ?_
        clear hK3 K3
        refine held.wpLeft.one (i := 14) (by kernel_rfl) rfl (fun K3 hK3 => ?_)
        go_simp
        refine hK3.out _ _ (fun h => absurd rfl h) ?_
        clear hK3 K3
        refine held.wpLeft.done (by kernel_rfl) ?_
        have HREL : Hid (NRel B bp s F w (m + 1) (w1.setCell ⟨bp, 12, none⟩ (.slice (some ⟨gg, 0, none⟩) (s.starts.length + m + 1) cap))) := Lib.hid ⟨F3, by rw [nst_succ]; exact M3, fun k hk => (K3 k hk).trans (HF.out k hk), HB.out.trans B3, HALL.out⟩
        have HL2 := Lib.hid HREL.out.lenAt
        clear M3 K3 B3 m12 m11 zw HO HM HA ma12 ma11 maz f11 f12b z12
        go_wp2
        go_roundw
        case rel => exact ⟨m + 1, by omega, HREL.out⟩
        case measure => rw [HL2.out, HLE.out]; omega
      · have hvl : val s.vt (s.wanted.getD (s.starts.length + m) 0) ≤ 0 := by unfold val; rw [if_neg hin]; split <;> omega
        have HFIN : Hid (NxP B bp s F P w (.returned (.int .i64 (s.wanted.getD (s.starts.length + m) 0 : Nat))) wr.drew.drew) := Lib.hid ⟨m, hall, hb.drew.drew, .inl ⟨hlt, hin, rfl, F2, (M.below (Below.refl _ _).drew).below (Below.refl _ _).drew, hF⟩⟩
        generalize val s.vt (s.wanted.getD (s.starts.length + m) 0) = z at *
        generalize s.wanted.getD (s.starts.length + m) 0 = c at *
        clear M hF hb hall qV qW hin HR0
        go_wp2
        go_region
        go_wp2
        go_region
        go_wp2
        go_ret
        exact HFIN.out
    · have hn5 : s.wanted.length ≤ s.starts.length + m := by omega
      have HQ0 : Hid (QRel B bp s P w m wr.drew) := Lib.hid ⟨P, s.heap, s.place, F2, (M.below (Below.refl _ _).drew), HQ.out, fun u h => h, fun u h1 h2 => absurd h1 h2, hb.drew⟩
      have HALL := Lib.hid hall
      clear M hF hb hall qV qW HR0
      go_wp2
      go_region
      go_wp2
      go_loopw [] (fun wx => QRel B bp s P w m wx) (fun wx => heapAt wx bp)
      case atStart => exact HQ0.out
      case round =>
        obtain ⟨P', hp, pl, F3, M, hQ3, hsub, hout, hb3⟩ := hrel
        have HPOP := Lib.hid (pop_any M ⟨HW.out.len, HW.out.fp, HW.out.st⟩ (by exact hV) P' hQ3)
        have HM := Lib.hid M
        have HQ3 := Lib.hid hQ3
        have HSUB := Lib.hid hsub
        have HOUT := Lib.hid hout
        have HB3 := Lib.hid hb3
        have hbl3 := M.obj.lt
        clear M hQ3 hsub hout hb3 HQ0
        go_wp2_with fail
        refine HPOP.out.mono ?_
        rintro e w4 ⟨v, rfl, hv⟩
        rcases hv with ⟨rfl, he, rfl⟩ | ⟨hv1, hv2, hPv, hp4, pl4, F4, M4, hF4, hb4, hQ4⟩
        · change hp = [] at he
          have HFIN : Hid (NxP B bp s F P w (.returned (.int .i64 0)) w4) := Lib.hid ⟨m, HALL.out, HB3.out, .inr ⟨hn5, P', hp, pl, F3, HM.out, HQ3.out, HSUB.out, .inl ⟨rfl, he, HOUT.out⟩⟩⟩
          clear HPOP HM HQ3 HSUB HOUT HB3
          go_wp2
          go_ret
          exact HFIN.out
        · have M5 : Mem w4 B bp ((s.sts (nst s m)).qu hp4 pl4) F4 := M4
          obtain ⟨gV4, cV4, _, f74, qV4, _, _⟩ := M5.valAt
          have q74 := qV4 (2 * v) (by show 2 * v < 2 * s.V + 2; have : v ≤ s.V := hv2; omega)
          have hv3 : v ≤ s.V := hv2
          change w4.cell? ⟨bp, 7, none⟩ = some (.slice (some ⟨gV4, 0, none⟩) (2 * s.V + 2) cV4) at f74
          change w4.cell? ⟨gV4, 2 * v, none⟩ = some (.int .i8 (val s.vt (2 * v))) at q74
          have hopp : opp (2 * v) = 2 * v + 1 := by unfold opp; split <;> omega
          have hlen := qi_less HQ3.out hQ4 ⟨hv1, hv3⟩ hPv
          by_cases hz : 2 * v ∈ s.vt ∨ 2 * v + 1 ∈ s.vt
          · have HREL : Hid (QRel B bp s P w m w4) := Lib.hid ⟨_, hp4, pl4, F4, M5, hQ4, fun u h => HSUB.out u h.1, fun u h1 h2 => by
              by_cases e : u = v
              · subst e; exact hz
              · exact HOUT.out u h1 (fun h => h2 ⟨h, e⟩), HB3.out.trans hb4⟩
            have hval : (val s.vt (2 * v) == 0) = false := by
              refine beq_eq_false_iff_ne.2 ?_
              unfold val
              rcases hz with hz | hz
              · rw [if_pos hz]; decide
              · by_cases e : 2 * v ∈ s.vt
                · rw [if_pos e]; decide
                · rw [if_neg e, hopp, if_pos hz]; decide
            have HL3 := Lib.hid (heapAt_is HM.out)
            have HL4 := Lib.hid (heapAt_is M5)
            generalize val s.vt (2 * v) = z at *
            have hv0 : ((v : Int) == 0) = false := beq_eq_false_iff_ne.2 (by omega)
            clear M4 M5 hF4 hb4 hQ4 qV4 HPOP HM HQ3 HSUB HOUT HB3 hz
            go_wp2
            go_roundw
            case rel => exact HREL.out
            case measure => rw [HL3.out, HL4.out]; exact hlen
          · have hz1 : 2 * v ∉ s.vt := fun h => hz (.inl h)
            have hz2 : 2 * v + 1 ∉ s.vt := fun h => hz (.inr h)
            have hval : val s.vt (2 * v) = 0 := val_zero hz1 (by rw [hopp]; exact hz2)
            rw [hval] at q74
            obtain ⟨gP, cP, hPv2, qP, zP, nP, bP, lP, _⟩ := M5.at .phase (n := s.V + 1) (by simp [cont, SS.sts, SS.qu]) (by omega)
            have f10 : w4.cell? ⟨bp, 10, none⟩ = some (F4 .phase).v := M5.fld 10
            rw [hPv2] at f10
            have q10 : w4.cell? ⟨gP, v, none⟩ = some (.int .i64 (s.phase v : Nat)) := by
              rw [qP v (by omega), show cont ((s.sts (nst s m)).qu hp4 pl4) (fvs F4) .phase = (List.range (s.V + 1)).map fun v => iv (s.phase v) from rfl, range_at (by omega)]; rfl
            have hphv := HPH.out v
            have HFIN : Hid (NxP B bp s F P w (.returned (.int .i64 (2 * v + s.phase v : Nat))) w4) := Lib.hid ⟨m, HALL.out, HB3.out.trans hb4, .inr ⟨hn5, _, hp4, pl4, F4, M5, hQ4, fun u h => HSUB.out u h.1, .inr ⟨v, hv1, hv3, HSUB.out v hPv, hz1, hz2, rfl, fun u h1 h2 => by
              by_cases e : u = v
              · exact .inl e
              · exact .inr (HOUT.out u h1 (fun h => h2 ⟨h, e⟩))⟩⟩⟩
            have hv0 : ((v : Int) == 0) = false := beq_eq_false_iff_ne.2 (by omega)
            have HE : Hid (((2 * v + s.phase v : Nat) : Int) = 2 * (v : Int) + (s.phase v : Int)) := Lib.hid (by omega)
            rw [HE.out] at HFIN
            generalize s.phase v = ph at *
            clear M4 M5 hF4 hb4 hQ4 qV4 qP zP HPOP HM HQ3 HSUB HOUT HB3 hz hPv2
            go_wp2
            go_ret
            exact HFIN.out
end
end Go.Proofs.YtojjjndhabjhdaaDoor.satCc
