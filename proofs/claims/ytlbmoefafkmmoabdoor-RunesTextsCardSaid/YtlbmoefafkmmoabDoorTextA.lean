/-
  The contract of runes.Text.
-/
import Derived.Test.YtlbmoefafkmmoabDoorInts
import Derived.Test.YtlbmoefafkmmoabDoorErrs
import Derived.Test.YtlbmoefafkmmoabDoorRunesA
import Derived.Test.YtlbmoefafkmmoabDoorShelf
import Derived.Test.YtlbmoefafkmmoabDoorUtfR
import Derived.Lib.MapLaws
import Derived.Lib.OthersKept
import Derived.WalkSmall
namespace Go.Proofs.YtlbmoefafkmmoabDoor.textA
open Go.ChangeShapes Go.WideShapes Go.ChangeAt Go.RowKit utfP utfQ utfR runesA sameInts ints errIs errs

/-- the bytes of code points, one behind the other -/
def encAll (zs : List Int) : List UInt8 := zs.flatMap fun r => (Utf8.encode r).data.toList

theorem encodeRune_eq (r : Int) (h : Pt r) : Lib.encodeRune r = (Utf8.encode r).data.toList := by
  have e := dec_enc r h []
  rw [List.append_nil] at e
  have hz : 1 ≤ (Utf8.encode r).size := by
    by_cases h2 : r < 65536
    · exact (enc_size3 _ h h2).1
    · rw [enc_size4 _ (by omega) h.2.1]; decide
  have z : (dec (Utf8.encode r).data.toList).2 ≠ 0 := by rw [e]; dsimp only; omega
  have hd := dec_decodeL z
  rw [e] at hd
  have hne : (Utf8.encode r).data.toList ≠ [] := by
    rw [ne_eq, ← List.length_eq_zero_iff, Array.length_toList, ByteArray.size_data]; omega
  have := Lib.encode_decode _ hne (by
    intro hh
    have := (dec_zero hne).2 hh
    exact z this)
  rw [hd] at this
  simp only [Int.toNat_of_nonneg h.1] at this
  rw [this, List.take_of_length_le (by rw [Array.length_toList, ByteArray.size_data]; exact Nat.le_refl _)]
theorem runeCells_eq (r : Int) (h : Pt r) : Lib.runeCells r = Lib.byteCells (Utf8.encode r).data.toList := by
  rw [← encodeRune_eq r h, Lib.byteCells_encodeRune]

theorem encAll_len (zs : List Int) : (encAll zs).length ≤ 4 * zs.length := by
  induction zs with
  | nil => simp [encAll]
  | cons r zs ih =>
    have : (Utf8.encode r).size ≤ 4 := encode_size_le r
    simp only [encAll, List.flatMap_cons, List.length_append, List.length_cons, Array.length_toList, ByteArray.size_data] at *
    omega
theorem encAll_snoc (zs : List Int) (r : Int) : encAll (zs ++ [r]) = encAll zs ++ (Utf8.encode r).data.toList := by simp [encAll]

theorem new_builder (w : World) (o : Array Value) (h : o = #[.pointer none, .slice none 0 0]) : Lib.IsBuilderF 43 5 w.heap.size w.heap.size [] (w.alloc (.cells o 43)) := by
  subst h
  refine Lib.IsBuilderF.of (Or.inl ⟨Nat.le_refl _, .slice none 0 0, ?_, World.ownsRow_nil _ _ _ _, by simp [Value.ownBlock]⟩)
  show (w.heap.push _)[w.heap.size]? = _
  simp

/-- what Text hands back -/
def TextPost (w : World) (ad : Nat → Addr) (zs : List Int) (e : Ending) (w' : World) : Prop :=
  Below w.heap.size w w' ∧ (((∀ r ∈ zs, Pt r) ∧ e = .returned (.tuple #[.string ⟨(encAll zs).toArray⟩, .nilIface])) ∨ ((¬ ∀ r ∈ zs, Pt r) ∧ e = .returned (.tuple #[.string ⟨#[]⟩, ev (ad 9)])))

theorem text_any (v : Value) (zs : List Int) (w : World) (ad : Nat → Addr) (h : ArgI w v zs) (hm : zs.length ≤ 1000) (hE : Errs w ad) :
    Calls Tryd.prog 6 #[v] w (TextPost w ad zs) := by
  obtain ⟨ao, cap, rfl, hcell⟩ : ∃ ao cap, v = .slice ao zs.length cap ∧ (∀ j, j < zs.length → ∃ b off, ao = some ⟨b, off, none⟩ ∧ w.cell? ⟨b, off + j, none⟩ = some (iv (zs.getD j 0))) := by
    obtain ⟨ao, cap, rfl, _, _, hc⟩ := h
    exact ⟨ao, cap, rfl, hc⟩
  have HC := Lib.hid hcell
  have HE := Lib.hid hE
  clear hcell h hE
  generalize hlen : zs.length = len at *
  have HLEN := Lib.hid hlen
  clear hlen
  go_enter Tryd.func6, Tryd.ntmps6
  go_wp2
  go_loopw [9] (fun i wr => ∃ k : Nat, k ≤ len ∧ i = .int .i64 k ∧ Lib.IsBuilderF 43 5 w.heap.size w.heap.size (Lib.byteCells (encAll (zs.take k))) wr ∧ Below w.heap.size w wr ∧ w.heap.size ≤ wr.heap.size ∧ Hid (∀ r ∈ zs.take k, Pt r)) (fun i _ => len - (intOf i).toNat)
  case atStart => exact ⟨0, Nat.zero_le _, rfl, new_builder w _ rfl, (Below.refl _ _).alloc (Nat.le_refl _) _, by simp, Lib.hid (fun r hr => by simp at hr)⟩
  case round =>
    obtain ⟨k, hk, rfl, hB, hb, hsz, hall⟩ := hrel
    by_cases hlt : k < len
    · obtain ⟨b0, off0, rfl, hc0⟩ := HC.out k hlt
      have hck : wr.cell? ⟨b0, off0 + k, none⟩ = some (iv (zs.getD k 0)) := by
        rw [hb.cell (World.block_lt_of_cell? w _ hc0)]; exact hc0
      have htk : zs.take (k + 1) = zs.take k ++ [zs.getD k 0] := by
        rw [List.take_succ_eq_append_getElem (by rw [HLEN.out]; exact hlt)]
        simp [List.getD, HLEN.out, hlt]
      have hl4 := encAll_len (zs.take k)
      have htl : (zs.take k).length ≤ 1000 := by rw [List.length_take]; omega
      have hg9 : wr.cell? ⟨0, 0, none⟩ = some (ev (ad 9)) := (HE.out.below hb).glob 9 (by decide)
      have hmem : zs.getD k 0 ∈ zs := by
        have : k < zs.length := by rw [HLEN.out]; exact hlt
        rw [List.getD_eq_getElem?_getD, List.getElem?_eq_getElem this]; exact List.getElem_mem _
      generalize zs.getD k 0 = r at *
      have HTK := Lib.hid htk
      have HM := Lib.hid hmem
      have HBd := Lib.hid hB
      have HB := Lib.hid hb
      clear hc0 htk hB hb hmem
      unfold iv at hck
      by_cases hp : Pt r
      · have hN : Hid (∀ x ∈ zs.take (k + 1), Pt x) := Lib.hid (by
          rw [HTK.out]; intro x hx
          rcases List.mem_append.1 hx with hx | hx
          · exact hall.out x hx
          · simp at hx; rw [hx]; exact hp)
        have hr0 : 0 ≤ r := hp.1
        have hr1 : r ≤ 1114111 := hp.2.1
        have HW := Lib.hid (Tryd.Builder_WriteRune_k w.heap.size w.heap.size (Lib.byteCells (encAll (zs.take k))) r (by omega) (by omega) wr HBd.out (by simp [Lib.byteCells]; omega) hsz)
        go_wp2_with fail
        refine (isPoint_yes _ _ hp).mono ?_
        rintro e w' ⟨rfl, rfl⟩
        go_wp2_with fail
        refine HW.out.mono ?_
        rintro e w1 ⟨rfl, hb1, hb2, _⟩
        have HN1 : Hid (Lib.IsBuilderF 43 5 w.heap.size w.heap.size (Lib.byteCells (encAll (zs.take (k + 1)))) w1) := Lib.hid (by
          rw [HTK.out, encAll_snoc, Lib.byteCells_append, ← runeCells_eq r hp]; exact Or.inr hb1)
        have HN2 := Lib.hid (HB.out.trans hb2)
        have hN3 := HN2.out.size
        clear hb1 hb2
        go_wp2
        go_roundw
        case rel => exact ⟨k + 1, by omega, by go_num, HN1.out, HN2.out, hN3, hN⟩
        case measure => simp [intOf]; omega
      · have hN : Hid (¬ ∀ x ∈ zs, Pt x) := Lib.hid (fun hh => hp (hh r HM.out))
        go_wp2_with fail
        refine (isPoint_no _ _ hp).mono ?_
        rintro e w' ⟨rfl, rfl⟩
        go_wp2
        go_quiet (fail)
        go_wp2
        go_ret2
        exact ⟨below_drewN HB.out _, Or.inr ⟨hN.out, rfl⟩⟩
    · have hf : zs.take k = zs := List.take_of_length_le (by rw [HLEN.out]; omega)
      rw [hf] at hB
      have hN : Hid (∀ x ∈ zs, Pt x) := Lib.hid (by have := hall.out; rw [hf] at this; exact this)
      have HS := Lib.hid (Tryd.Builder_String_any_f w.heap.size w.heap.size (encAll zs) wr hB hsz)
      have HB := Lib.hid hb
      clear hB hb hf
      go_wp2_with fail
      refine HS.out.mono ?_
      rintro e w1 ⟨rfl, _, hb2⟩
      have HN2 := Lib.hid (HB.out.trans hb2)
      clear hb2
      go_wp2
      go_ret2
      exact ⟨HN2.out, Or.inl ⟨hN.out, rfl⟩⟩

end Go.Proofs.YtlbmoefafkmmoabDoor.textA
