/-
  glob.Lower and the reference's Lower.
-/
import Derived.Test.YtlmfcacmfaihgaaDoorGlobG
import Derived.StillTailTactics
namespace Go.Proofs.YtlmfcacmfaihgaaDoor.globH
open Go.ChangeShapes Go.WideShapes Go.ChangeAt Go.RowKit globP globQ globA globB globC globD globE globF ownB globG

/-- the block's first cells hold the bytes, and none is frozen -/
def Row (w : World) (g : Nat) (l : List UInt8) : Prop := ∀ (j : Nat) (b : UInt8), l[j]? = some b → w.cell? ⟨g, j, none⟩ = some (bv b) ∧ w.frozen? ⟨g, j, none⟩ = false

theorem row_set {w : World} {g k : Nat} {l : List UInt8} (b : UInt8) (hk : k < l.length) (h : Row w g l) : Row (w.setCell ⟨g, k, none⟩ (bv b)) g (l.set k b) := by
  intro j c hj
  rw [World.frozen?_setCell]
  rw [List.getElem?_set] at hj
  by_cases e : k = j
  · subst e
    simp only [if_true, hk] at hj
    obtain ⟨h1, h2⟩ := h k l[k] (List.getElem?_eq_getElem hk)
    obtain rfl : b = c := by simpa using hj
    exact ⟨World.cell?_setCell_same _ _ _ h1, h2⟩
  · rw [if_neg e] at hj
    obtain ⟨h1, h2⟩ := h j c hj
    exact ⟨(World.cell?_setCell_other _ _ _ _ (by intro h; exact e (congrArg Addr.off h))).trans h1, h2⟩
theorem row_drew {w : World} {g : Nat} {l : List UInt8} (h : Row w g l) : Row w.drew g l := h
theorem row_str {w : World} {g cap n : Nat} {l : List UInt8} (hn : l.length = n) (h : Row w g l) : (convert 24 9 (.slice (some ⟨g, 0, none⟩) n cap)).run Tryd.prog w = .ok (.string ⟨l.toArray⟩) w := by
  subst hn
  refine run_convert_bytes_back w _ _ 5 _ _ _ Tryd.underlying24 Tryd.underlying5 Tryd.underlying9 fun j hj => ?_
  have ea : (⟨g, 0, none⟩ : Addr).add j = ⟨g, j, none⟩ := by unfold Addr.add; split <;> simp_all
  rw [ea]; exact (h j _ (List.getElem?_eq_getElem hj)).1
theorem row_new (w : World) (s : ByteArray) (cap : Nat) (hc : s.size ≤ cap) : Row (w.drew.alloc (.cells (bytesRow s cap) 5 ((bytesRow s cap).size, (bytesRow s cap).size + 1))) w.heap.size s.data.toList := by
  intro j b hj
  have hj' : j < s.data.size := by have := (List.getElem?_eq_some_iff.1 hj).1; simpa using this
  have hz : (bytesRow s cap).size = cap := by unfold bytesRow; simp; omega
  refine ⟨?_, ?_⟩
  · have := World.cell?_alloc_mark w.drew (bytesRow s cap) 5 ((bytesRow s cap).size, (bytesRow s cap).size + 1) j
    refine this.trans ((bytesRow_at s cap j hj').trans ?_)
    have : s.data[j] = b := by
      rw [List.getElem?_eq_getElem (by simpa using hj')] at hj; simpa using hj
    rw [this]; rfl
  · refine (World.frozen?_alloc_mark w.drew _ _ _ _ j).trans ?_
    have h3 : s.data.size = s.size := rfl
    simp [hz]; omega

def lowB (b : UInt8) : UInt8 := if upB (b.toNat : Int) = true then b + 32 else b
/-- what lies there when k bytes are done -/
def mid (l : List UInt8) (k : Nat) : List UInt8 := (l.take k).map lowB ++ l.drop k

theorem mid_zero (l : List UInt8) : mid l 0 = l := by simp [mid]
theorem mid_len (l : List UInt8) (k : Nat) : (mid l k).length = l.length := by simp [mid]; omega
theorem mid_all (l : List UInt8) (k : Nat) (h : ¬ k < l.length) : mid l k = l.map lowB := by
  unfold mid; rw [List.drop_eq_nil_of_le (by omega), List.append_nil, List.take_of_length_le (by omega)]
theorem mid_at (l : List UInt8) (k : Nat) (h : k < l.length) : (mid l k)[k]? = some l[k] := by
  unfold mid
  rw [List.getElem?_append_right (by simp; omega)]
  simp [Nat.min_eq_left (Nat.le_of_lt h), List.getElem?_eq_getElem h]
theorem mid_go (l : List UInt8) (k : Nat) (h : k < l.length) : (mid l k).set k (lowB l[k]) = mid l (k + 1) := by
  unfold mid
  rw [List.set_append_right _ _ (by simp; omega), List.take_succ_eq_append_getElem h, List.map_append, List.length_map, List.length_take, Nat.min_eq_left (Nat.le_of_lt h), Nat.sub_self, List.drop_eq_getElem_cons h, List.set_cons_zero, List.append_assoc]
  rfl
theorem mid_same (l : List UInt8) (k : Nat) (h : k < l.length) (hu : upB (l[k].toNat : Int) = false) : mid l k = mid l (k + 1) := by
  rw [← mid_go l k h]
  have : lowB l[k] = l[k] := by unfold lowB; rw [hu]; rfl
  rw [this]
  symm
  apply List.ext_getElem?
  intro j
  rw [List.getElem?_set]
  by_cases e : k = j
  · subst e; rw [if_pos rfl, mid_at l k h]; simp [mid_len, h]
  · rw [if_neg e]

theorem low_val (b : UInt8) (h : upB (b.toNat : Int) = true) : bv (lowB b) = .int .u8 ((b.toNat : Int) + 32) := by
  have h1 : 65 ≤ (b.toNat : Int) ∧ (b.toNat : Int) ≤ 90 := by simpa [upB] using h
  unfold bv lowB
  rw [if_pos h, UInt8.toNat_add]
  congr 1
  have : (32 : UInt8).toNat = 32 := rfl
  omega

set_option maxRecDepth 100000 in
theorem lower_any (s : ByteArray) (w : World) (hs : s.size ≤ 500) :
    Calls Tryd.prog 10 #[.string s] w fun e w' => e = .returned (.string ⟨(s.data.toList.map lowB).toArray⟩) ∧ Below w.heap.size w w' := by
  have hcv := run_bytes_of_string (P := Tryd.prog) w 9 24 5 s Tryd.underlying9 Tryd.underlying24 Tryd.underlying5
  have hR := Lib.hid (row_new w s (grownCap w s.size 0 5) (grownCap_ge _ _ _ _))
  generalize hcap : grownCap w s.size 0 5 = cap at *
  clear hcap
  have hB0 := Lib.hid ((Below.refl w.heap.size w).drew.alloc (Nat.le_refl _) (.cells (bytesRow s cap) 5 ((bytesRow s cap).size, (bytesRow s cap).size + 1)))
  go_enter Tryd.func10, Tryd.ntmps10
  go_wp2
  go_loopw [10] (fun i wr => ∃ k : Nat, k ≤ s.size ∧ i = .int .i64 k ∧ Row wr w.heap.size (mid s.data.toList k) ∧ Below w.heap.size w wr) (fun i _ => s.size - (intOf i).toNat)
  case atStart => exact ⟨0, Nat.zero_le _, rfl, by rw [mid_zero]; exact hR.out, hB0.out⟩
  case round =>
    obtain ⟨k, hk, rfl, hrow, hb⟩ := hrel
    clear hcv hR hB0
    have HR := Lib.hid hrow
    have HB := Lib.hid hb
    have hl : s.data.toList.length = s.size := by simp
    by_cases hlt : k < s.size
    · have hat := mid_at s.data.toList k (by omega)
      have hsk : s.data.toList[k] = s[k] := rfl
      rw [hsk] at hat
      obtain ⟨hc, hf⟩ := hrow k _ hat
      unfold bv at hc
      have hbd := s[k].toNat_lt
      clear hrow hb hat
      cases hu : upB (s[k].toNat : Int)
      · have hn := Lib.hid (mid_same s.data.toList k (by omega) hu)
        have HU := Lib.hid hu
        clear hu
        go_wp2_with (go_at_call 15; refine (upper_any _ _).mono ?_; rintro e w' ⟨rfl, rfl⟩; rw [HU.out])
        go_roundw
        case rel => exact ⟨k + 1, by omega, by go_num, by rw [← hn.out]; exact HR.out, HB.out⟩
        case measure => simp [intOf]; omega
      · have hn := Lib.hid (mid_go s.data.toList k (by omega))
        have hvl := Lib.hid (low_val s[k] hu)
        have hbb : 65 ≤ (s[k].toNat : Int) ∧ (s[k].toNat : Int) ≤ 90 := by simpa [upB] using hu
        obtain ⟨hb1, hb2⟩ := hbb
        have HU := Lib.hid hu
        clear hu
        go_wp2_with (go_at_call 15; refine (upper_any _ _).mono ?_; rintro e w' ⟨rfl, rfl⟩; rw [HU.out])
        have hrow' := row_set (k := k) (lowB s[k]) (by rw [mid_len]; omega) HR.out
        rw [hvl.out] at hrow'
        go_roundw
        case rel => exact ⟨k + 1, by omega, by go_num, by rw [← hn.out, show (s[k].toNat : Int) - 65 + 97 = s[k].toNat + 32 by omega]; exact hrow', HB.out.setCell (Nat.le_refl _) _⟩
        case measure => simp [intOf]; omega
    · have hN := Lib.hid (mid_all s.data.toList k (by omega))
      have hstr := row_str (cap := cap) (n := s.size) (by rw [mid_len]; simp) hrow
      clear hrow hb
      go_wp2
      go_ret
      exact ⟨by rw [hN.out]; rfl, HB.out⟩
set_option maxRecDepth 100000 in
theorem refLower_any (s : ByteArray) (w : World) (hs : s.size ≤ 500) :
    Calls Tryd.prog 11 #[.string s] w fun e w' => e = .returned (.string ⟨(s.data.toList.map lowB).toArray⟩) ∧ Below w.heap.size w w' := by
  have hcv := run_bytes_of_string (P := Tryd.prog) w 9 24 5 s Tryd.underlying9 Tryd.underlying24 Tryd.underlying5
  have hR := Lib.hid (row_new w s (grownCap w s.size 0 5) (grownCap_ge _ _ _ _))
  generalize hcap : grownCap w s.size 0 5 = cap at *
  clear hcap
  have hB0 := Lib.hid ((Below.refl w.heap.size w).drew.alloc (Nat.le_refl _) (.cells (bytesRow s cap) 5 ((bytesRow s cap).size, (bytesRow s cap).size + 1)))
  go_enter Tryd.func11, Tryd.ntmps11
  go_wp2
  go_loopw [9] (fun i wr => ∃ k : Nat, k ≤ s.size ∧ i = .int .i64 k ∧ Row wr w.heap.size (mid s.data.toList k) ∧ Below w.heap.size w wr) (fun i _ => s.size - (intOf i).toNat)
  case atStart => exact ⟨0, Nat.zero_le _, rfl, by rw [mid_zero]; exact hR.out, hB0.out⟩
  case round =>
    obtain ⟨k, hk, rfl, hrow, hb⟩ := hrel
    clear hcv hR hB0
    have HR := Lib.hid hrow
    have HB := Lib.hid hb
    have hl : s.data.toList.length = s.size := by simp
    by_cases hlt : k < s.size
    · have hat := mid_at s.data.toList k (by omega)
      have hsk : s.data.toList[k] = s[k] := rfl
      rw [hsk] at hat
      obtain ⟨hc, hf⟩ := hrow k _ hat
      unfold bv at hc
      have hbd := s[k].toNat_lt
      clear hrow hb hat
      by_cases hu : upB (s[k].toNat : Int) = true
      · have hn := Lib.hid (mid_go s.data.toList k (by omega))
        have hvl := Lib.hid (low_val s[k] hu)
        have hbb : 65 ≤ (s[k].toNat : Int) ∧ (s[k].toNat : Int) ≤ 90 := by simpa [upB] using hu
        obtain ⟨hb1, hb2⟩ := hbb
        clear hu
        have hrow' := row_set (k := k) (lowB s[k]) (by rw [mid_len]; omega) HR.out
        rw [hvl.out] at hrow'
        have HR' := Lib.hid hrow'
        clear hrow'
        go_wp2
        go_roundw
        case rel => exact ⟨k + 1, by omega, by go_num, by rw [← hn.out]; exact HR'.out, HB.out.setCell (Nat.le_refl _) _⟩
        case measure => simp [intOf]; omega
      · have hn := Lib.hid (mid_same s.data.toList k (by omega) (Bool.eq_false_iff.2 hu))
        have hbb : (s[k].toNat : Int) < 65 ∨ 90 < (s[k].toNat : Int) := by
          have : ¬ (65 ≤ (s[k].toNat : Int) ∧ (s[k].toNat : Int) ≤ 90) := by simpa [upB] using hu
          omega
        clear hu
        rcases hbb with hbb | hbb
        · go_wp2
          go_roundw
          case rel => exact ⟨k + 1, by omega, by go_num, by rw [← hn.out]; exact HR.out, HB.out⟩
          case measure => simp [intOf]; omega
        · go_wp2
          go_roundw
          case rel => exact ⟨k + 1, by omega, by go_num, by rw [← hn.out]; exact HR.out, HB.out⟩
          case measure => simp [intOf]; omega
    · have hN := Lib.hid (mid_all s.data.toList k (by omega))
      have hstr := row_str (cap := cap) (n := s.size) (by rw [mid_len]; simp) hrow
      clear hrow hb
      go_wp2
      go_ret
      exact ⟨by rw [hN.out]; rfl, HB.out⟩
end Go.Proofs.YtlmfcacmfaihgaaDoor.globH
