/-
  Contracts: the reference's Point, Encode.
-/
import Derived.Test.YtfoammkidjbilaaDoorRunesA
import Derived.Handy
import Derived.Laws.BytesArg
namespace Go.Proofs.YtfoammkidjbilaaDoor.runesD
open Go.ChangeShapes Go.WideShapes Go.ChangeAt Go.RowKit utfP runesA

theorem point_yes (r : Int) (w : World) (h : Pt r) :
    Calls Tryd.prog 10 #[.int .i64 r] w fun e w' => e = .returned (.bool true) ∧ w = w' := by
  obtain ⟨h1, h2, h3⟩ := h
  rcases h3 with h3 | h3
  · go_enter Tryd.func10, Tryd.ntmps10
    go_wp2
    go_ret
    exact ⟨rfl, rfl⟩
  · have h4 : ¬ r < 55296 := by omega
    have h5 : r < 1114112 := by omega
    go_enter Tryd.func10, Tryd.ntmps10
    go_wp2
    go_ret
    exact ⟨rfl, rfl⟩

theorem point_no (r : Int) (w : World) (h : ¬ Pt r) :
    Calls Tryd.prog 10 #[.int .i64 r] w fun e w' => e = .returned (.bool false) ∧ w = w' := by
  unfold Pt at h
  by_cases h1 : 0 ≤ r
  · have h3 : ¬ r < 55296 := by omega
    by_cases h4 : 57343 < r
    · have h5 : ¬ r < 1114112 := by omega
      clear h
      go_enter Tryd.func10, Tryd.ntmps10
      go_wp2
      go_ret
      exact ⟨rfl, rfl⟩
    · clear h
      go_enter Tryd.func10, Tryd.ntmps10
      go_wp2
      go_ret
      exact ⟨rfl, rfl⟩
  · have h3 : ¬ 57343 < r := by omega
    clear h
    go_enter Tryd.func10, Tryd.ntmps10
    go_wp2
    go_ret
    exact ⟨rfl, rfl⟩

theorem encR_no (r : Int) (w : World) (h : ¬ Pt r) :
    Calls Tryd.prog 12 #[.int .i64 r] w fun e w' => e = .returned (.string ByteArray.empty) ∧ Below w.heap.size w w' := by
  go_enter Tryd.func12, Tryd.ntmps12
  go_wp2_with (go_at_call 10; refine (point_no _ _ h).mono ?_; rintro e w' ⟨rfl, rfl⟩)
  go_ret
  exact ⟨rfl, by go_grown⟩

/-- the bytes of a code point, behind a name -/
def enc (r : Int) : ByteArray := Utf8.encode r

theorem lit_str (w : World) (o : Obj) (xs : List Int) :
    (convert 43 9 (.slice (some ⟨w.heap.size + 1, 0, none⟩) xs.length xs.length)).run Tryd.prog ((w.alloc o).alloc (.cells (xs.map (Value.int .u8)).toArray 5)) = .ok (.string (strOfNums xs)) ((w.alloc o).alloc (.cells (xs.map (Value.int .u8)).toArray 5)) := by
  refine run_convert_bytes_arg (P := Tryd.prog) _ 43 5 Tryd.underlying43 Tryd.underlying5 (w.heap.size + 1) 0 xs.length xs.length xs rfl ?_ 9 Tryd.underlying9
  intro i hi
  have e : w.heap.size + 1 = (w.alloc o).heap.size := by simp
  rw [e, World.cell?_alloc_mark]
  simp [hi]

set_option maxRecDepth 100000 in
theorem encR_1 (r : Int) (w : World) (h : Pt r) (c1 : r < 128) :
    Calls Tryd.prog 12 #[.int .i64 r] w fun e w' => e = .returned (.string (enc r)) ∧ Below w.heap.size w w' := by
  have h0 := h.1
  have h1 := h.2.1
  have hr : strOfNums [r] = enc r := by
    have hv := h.2.2
    obtain ⟨n, rfl⟩ := Int.eq_ofNat_of_zero_le h0
    unfold enc
    rw [enc1 n (by omega)]; simp [strOfNums]
  have hcv := lit_str w (.cells #[] 5) [r]
  rw [hr] at hcv
  simp only [List.map_cons, List.map_nil, List.length_cons, List.length_nil, Nat.zero_add] at hcv
  clear hr
  generalize enc r = str at *
  go_enter Tryd.func12, Tryd.ntmps12
  go_wp2_with (go_at_call 10; refine (point_yes _ _ h).mono ?_; rintro e w' ⟨rfl, rfl⟩)
  go_ret
  exact ⟨rfl, by go_grown⟩

set_option maxRecDepth 100000 in
theorem encR_2 (r : Int) (w : World) (h : Pt r) (c1 : ¬ r < 128) (c2 : r < 2048) :
    Calls Tryd.prog 12 #[.int .i64 r] w fun e w' => e = .returned (.string (enc r)) ∧ Below w.heap.size w w' := by
  have h0 := h.1
  have h1 := h.2.1
  have hr : strOfNums [192 + r / 64, 128 + r % 64] = enc r := by
    have hv := h.2.2
    obtain ⟨n, rfl⟩ := Int.eq_ofNat_of_zero_le h0
    unfold enc
    rw [enc2 n (by omega) (by omega)]; simp only [strOfNums, List.map_cons, List.map_nil]
    rw [show (192 + (n : Int) / 64).toNat = 192 + n / 64 by omega, show (128 + (n : Int) % 64).toNat = 128 + n % 64 by omega]
  have hcv := lit_str w (.cells #[] 5) [192 + r / 64, 128 + r % 64]
  rw [hr] at hcv
  simp only [List.map_cons, List.map_nil, List.length_cons, List.length_nil, Nat.zero_add, Nat.reduceAdd] at hcv
  clear hr
  generalize enc r = str at *
  go_enter Tryd.func12, Tryd.ntmps12
  go_wp2_with (go_at_call 10; refine (point_yes _ _ h).mono ?_; rintro e w' ⟨rfl, rfl⟩)
  go_ret
  exact ⟨rfl, by go_grown⟩

set_option maxRecDepth 100000 in
theorem encR_3 (r : Int) (w : World) (h : Pt r) (c1 : ¬ r < 128) (c2 : ¬ r < 2048) (c3 : r < 65536) :
    Calls Tryd.prog 12 #[.int .i64 r] w fun e w' => e = .returned (.string (enc r)) ∧ Below w.heap.size w w' := by
  have h0 := h.1
  have h1 := h.2.1
  have hr : strOfNums [224 + r / 4096, 128 + r / 64 % 64, 128 + r % 64] = enc r := by
    have hv := h.2.2
    obtain ⟨n, rfl⟩ := Int.eq_ofNat_of_zero_le h0
    unfold enc
    rw [enc3 n (by omega) (by omega) (by omega)]; simp only [strOfNums, List.map_cons, List.map_nil]
    rw [show (224 + (n : Int) / 4096).toNat = 224 + n / 4096 by omega, show (128 + (n : Int) / 64 % 64).toNat = 128 + n / 64 % 64 by omega, show (128 + (n : Int) % 64).toNat = 128 + n % 64 by omega]
  have hcv := lit_str w (.cells #[] 5) [224 + r / 4096, 128 + r / 64 % 64, 128 + r % 64]
  rw [hr] at hcv
  simp only [List.map_cons, List.map_nil, List.length_cons, List.length_nil, Nat.zero_add, Nat.reduceAdd] at hcv
  clear hr
  generalize enc r = str at *
  go_enter Tryd.func12, Tryd.ntmps12
  go_wp2_with (go_at_call 10; refine (point_yes _ _ h).mono ?_; rintro e w' ⟨rfl, rfl⟩)
  go_ret
  exact ⟨rfl, by go_grown⟩

set_option maxRecDepth 100000 in
theorem encR_4 (r : Int) (w : World) (h : Pt r) (c1 : ¬ r < 128) (c2 : ¬ r < 2048) (c3 : ¬ r < 65536) :
    Calls Tryd.prog 12 #[.int .i64 r] w fun e w' => e = .returned (.string (enc r)) ∧ Below w.heap.size w w' := by
  have h0 := h.1
  have h1 := h.2.1
  have hr : strOfNums [240 + r / 262144, 128 + r / 4096 % 64, 128 + r / 64 % 64, 128 + r % 64] = enc r := by
    have hv := h.2.2
    obtain ⟨n, rfl⟩ := Int.eq_ofNat_of_zero_le h0
    unfold enc
    rw [enc4 n (by omega) (by omega)]; simp only [strOfNums, List.map_cons, List.map_nil]
    rw [show (240 + (n : Int) / 262144).toNat = 240 + n / 262144 by omega, show (128 + (n : Int) / 4096 % 64).toNat = 128 + n / 4096 % 64 by omega, show (128 + (n : Int) / 64 % 64).toNat = 128 + n / 64 % 64 by omega, show (128 + (n : Int) % 64).toNat = 128 + n % 64 by omega]
  have hcv := lit_str w (.cells #[] 5) [240 + r / 262144, 128 + r / 4096 % 64, 128 + r / 64 % 64, 128 + r % 64]
  rw [hr] at hcv
  simp only [List.map_cons, List.map_nil, List.length_cons, List.length_nil, Nat.zero_add, Nat.reduceAdd] at hcv
  clear hr
  generalize enc r = str at *
  go_enter Tryd.func12, Tryd.ntmps12
  go_wp2_with (go_at_call 10; refine (point_yes _ _ h).mono ?_; rintro e w' ⟨rfl, rfl⟩)
  go_ret
  exact ⟨rfl, by go_grown⟩

theorem encR_yes (r : Int) (w : World) (h : Pt r) :
    Calls Tryd.prog 12 #[.int .i64 r] w fun e w' => e = .returned (.string (enc r)) ∧ Below w.heap.size w w' := by
  by_cases c1 : r < 128
  · exact encR_1 r w h c1
  by_cases c2 : r < 2048
  · exact encR_2 r w h c1 c2
  by_cases c3 : r < 65536
  · exact encR_3 r w h c1 c2 c3
  · exact encR_4 r w h c1 c2 c3

end Go.Proofs.YtfoammkidjbilaaDoor.runesD
