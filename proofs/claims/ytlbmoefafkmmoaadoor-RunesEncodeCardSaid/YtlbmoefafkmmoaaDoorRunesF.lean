/-
  The laws RunesDecode and RunesEncode return true, where the decoder's tables are laid.
-/
import Derived.Test.YtlbmoefafkmmoaaDoorRunesE
namespace Go.Proofs.YtlbmoefafkmmoaaDoor.runesF
open Go.ChangeShapes Go.WideShapes Go.ChangeAt Go.RowKit utfP utfQ runesA runesD runesE

theorem lawDecode (s : ByteArray) (p : Int) (hs : s.size ≤ maxLen) (w : World) (hT : Tabs w) :
    Calls Tryd.prog 3 #[.string s, .int .i64 p] w fun e w' => e = .returned (.bool true) ∧ Below w.heap.size w w' := by
  by_cases h : p < 0 ∨ (s.size : Int) ≤ p
  · go_enter Tryd.func3, Tryd.ntmps3
    go_wp2_with (first | (go_at_call 6; refine (runesA.alive _).mono ?_; rintro e w' ⟨rfl, rfl⟩) | (go_at_call 7; refine (decode_no _ _ _ h).mono ?_; rintro e w' ⟨rfl, rfl⟩) | (go_at_call 8; refine (refdec_no _ _ _ h).mono ?_; rintro e w' ⟨rfl, rfl⟩))
    go_ret
    exact ⟨rfl, Below.refl _ _⟩
  · obtain ⟨n, rfl⟩ := Int.eq_ofNat_of_zero_le (show 0 ≤ p by omega)
    have hn : n < s.size := by omega
    clear h
    have h1 := decode_at s n w hn hT
    have h2 := fun w => refdec_at s n w hs hn
    unfold decR at h1
    unfold decP at h2
    generalize dec (s.data.toList.drop n) = d at h1 h2
    obtain ⟨a, b⟩ := d
    simp only at h1 h2
    have H1 := Lib.hid h1
    have H2 := Lib.hid h2
    clear h1 h2 hT
    go_enter Tryd.func3, Tryd.ntmps3
    go_wp2_with fail
    refine (runesA.alive _).mono ?_
    rintro e w' ⟨rfl, rfl⟩
    go_wp2_with fail
    refine H1.out.mono ?_
    rintro e w1 ⟨rfl, hb1⟩
    have HB1 := Lib.hid hb1
    have hz := hb1.size
    clear hb1
    go_wp2_with fail
    refine (H2.out _).mono ?_
    rintro e w2 ⟨rfl, hb2⟩
    have HB2 := Lib.hid hb2
    clear hb2
    go_wp2
    go_ret
    exact ⟨rfl, HB1.out.trans (HB2.out.mono hz)⟩

theorem encode_yes' (r : Int) (w : World) (h : Pt r) :
    Calls Tryd.prog 9 #[.int .i64 r] w fun e w' => e = .returned (.tuple #[.string (enc r), .bool true]) ∧ w = w' := encode_yes r w h

theorem enc_dec (r : Int) (h : Pt r) : dec (enc r ++ { data := #[128] }).data.toList = (r.toNat, (enc r).size) := by
  have e : (enc r ++ { data := #[128] }).data.toList = (Utf8.encode r).data.toList ++ [128] := by
    unfold enc; simp [ByteArray.data_append]
  rw [e, dec_enc r h]; rfl
theorem enc_size (r : Int) (h : Pt r) : 1 ≤ (enc r).size ∧ (enc r).size ≤ 4 := by
  unfold enc
  by_cases h2 : r < 65536
  · have := enc_size3 _ h h2; omega
  · have := enc_size4 _ (by omega) h.2.1; omega

theorem lawEncode (r : Int) (w : World) (hT : Tabs w) :
    Calls Tryd.prog 4 #[.int .i64 r] w fun e w' => e = .returned (.bool true) ∧ Below w.heap.size w w' := by
  by_cases h : Pt r
  · have hz := enc_size r h
    have h1 := fun w (hw : Tabs w) => decode_at (enc r ++ { data := #[128] }) 0 w (by rw [ByteArray.size_append]; show 0 < _ + 1; omega) hw
    rw [List.drop_zero] at h1
    unfold decR at h1
    rw [enc_dec r h] at h1
    simp only [decide_eq_true (show 0 < (enc r).size by omega), Int.toNat_of_nonneg h.1] at h1
    have H1 := Lib.hid h1
    have HT := Lib.hid hT
    have hz4 := hz.2
    clear h1 hz hT
    generalize hE : enc r = E at *
    have HY : Hid (∀ w, Calls Tryd.prog 9 #[.int .i64 r] w fun e w' => e = .returned (.tuple #[.string E, .bool true]) ∧ w = w') := Lib.hid (by intro w; rw [← hE]; exact encode_yes' r w h)
    have HR : Hid (∀ w, Calls Tryd.prog 10 #[.int .i64 r] w fun e w' => e = .returned (.string E) ∧ Below w.heap.size w w') := Lib.hid (by intro w; rw [← hE]; exact encR_yes r w h)
    clear hE
    go_enter Tryd.func4, Tryd.ntmps4
    go_wp2_with fail
    refine (runesA.alive _).mono ?_
    rintro e w' ⟨rfl, rfl⟩
    go_wp2_with fail
    refine (HY.out _).mono ?_
    rintro e w' ⟨rfl, rfl⟩
    go_wp2_with fail
    refine (HR.out _).mono ?_
    rintro e w1 ⟨rfl, hb1⟩
    have HB1 := Lib.hid hb1
    have hz := hb1.size
    clear hb1
    go_wp2_with fail
    refine (point_yes _ _ h).mono ?_
    rintro e w' ⟨rfl, rfl⟩
    go_wp2_with fail
    refine (H1.out _ (tabs_below HT.out HB1.out)).mono ?_
    rintro e w2 ⟨rfl, hb2⟩
    have HB2 := Lib.hid hb2
    clear hb2
    go_wp2
    go_ret
    exact ⟨rfl, HB1.out.trans (HB2.out.mono hz)⟩
  · have HT := Lib.hid hT
    clear hT
    have h1 := fun w (hw : Tabs w) => decode_at (ByteArray.empty ++ { data := #[128] }) 0 w (by decide) hw
    rw [show decR ((ByteArray.empty ++ { data := #[128] }).data.toList.drop 0) = .tuple #[.int .i64 0, .int .i64 0, .bool false] from by
      have : dec [128] = (0, 0) := by decide +kernel
      show decR [128] = _
      unfold decR; rw [this]; rfl] at h1
    have H1 := Lib.hid h1
    clear h1
    go_enter Tryd.func4, Tryd.ntmps4
    go_wp2_with fail
    refine (runesA.alive _).mono ?_
    rintro e w' ⟨rfl, rfl⟩
    go_wp2_with fail
    refine (encode_no _ _ h).mono ?_
    rintro e w' ⟨rfl, rfl⟩
    go_wp2_with fail
    refine (encR_no _ _ h).mono ?_
    rintro e w1 ⟨rfl, hb1⟩
    have HB1 := Lib.hid hb1
    have hz := hb1.size
    clear hb1
    go_wp2_with fail
    refine (point_no _ _ h).mono ?_
    rintro e w' ⟨rfl, rfl⟩
    go_wp2_with fail
    refine (H1.out _ (tabs_below HT.out HB1.out)).mono ?_
    rintro e w2 ⟨rfl, hb2⟩
    have HB2 := Lib.hid hb2
    clear hb2
    go_wp2
    go_ret
    exact ⟨rfl, HB1.out.trans (HB2.out.mono hz)⟩

end Go.Proofs.YtlbmoefafkmmoaaDoor.runesF
