/-
  Contracts of the functions of package runes that only compute: Join, Split, isPoint, digit, Hex, Encode; and of haversacklaw01.alive.
  Contracts of runes.digit, runes.Hex and the reference's Hex; the law RunesHex returns true.
  Contracts: the reference's Point, Encode.
  Contracts: runes.Decode and the reference's Decode tell the code point at a place (dec).
  Contracts: the reference's Points; SameInts on two lists.
  Contracts: runes.Valid and runes.Points.
-/
import Derived.Test.YtdbidkfjbhclcaaGreatDoorChecked
import Derived.Test.YtdbidkfjbhclcaaGreatDoorUtfM
import Derived.WalkKit
import Derived.ProofKit
import Derived.WalkLawsBesides
import Derived.Lib.Hide
import Derived.RowKit3
import Derived.Handy
import Derived.Laws.BytesArg
import Derived.Test.YtdbidkfjbhclcaaGreatDoorShelf
import Derived.Deep.LoopGhost
import Derived.WalkSpells
import Derived.WalkSmall
import Derived.Lib.OthersKept
namespace Go.Proofs.YtdbidkfjbhclcaaGreatDoor.runesA
open Go.ChangeShapes Go.WideShapes Go.ChangeAt Go.RowKit utfP

theorem join_yes (a b : Int) (w : World) (h1 : 55296 ≤ a) (h2 : a < 56320) (h3 : 56320 ≤ b) (h4 : b ≤ 57343) :
    Calls Tryz.prog 73 #[.int .i64 a, .int .i64 b] w fun e w' => e = .returned (.tuple #[.int .i64 (65536 + 1024 * (a - 55296) + (b - 56320)), .bool true]) ∧ w = w' := by
  go_enter Tryz.func73, Tryz.ntmps73
  go_wp2
  go_ret2
  exact ⟨rfl, rfl⟩

theorem join_no (a b : Int) (w : World) (h : a < 55296 ∨ 56320 ≤ a ∨ b < 56320 ∨ 57343 < b) :
    Calls Tryz.prog 73 #[.int .i64 a, .int .i64 b] w fun e w' => e = .returned (.tuple #[.int .i64 0, .bool false]) ∧ w = w' := by
  by_cases h1 : a < 55296
  · go_enter Tryz.func73, Tryz.ntmps73
    go_wp2
    go_ret2
    exact ⟨rfl, rfl⟩
  by_cases h2 : 56320 ≤ a
  · go_enter Tryz.func73, Tryz.ntmps73
    go_wp2
    go_ret2
    exact ⟨rfl, rfl⟩
  by_cases h3 : b < 56320
  · go_enter Tryz.func73, Tryz.ntmps73
    go_wp2
    go_ret2
    exact ⟨rfl, rfl⟩
  have h4 : 57343 < b := by omega
  go_enter Tryz.func73, Tryz.ntmps73
  go_wp2
  go_ret2
  exact ⟨rfl, rfl⟩

theorem isPoint_yes (r : Int) (w : World) (h : Pt r) :
    Calls Tryz.prog 86 #[.int .i64 r] w fun e w' => e = .returned (.bool true) ∧ w = w' := by
  obtain ⟨h1, h2, h3⟩ := h
  rcases h3 with h3 | h3
  · go_enter Tryz.func86, Tryz.ntmps86
    go_wp2
    go_ret
    exact ⟨rfl, rfl⟩
  · have h4 : ¬ r < 55296 := by omega
    go_enter Tryz.func86, Tryz.ntmps86
    go_wp2
    go_ret
    exact ⟨rfl, rfl⟩

theorem isPoint_no (r : Int) (w : World) (h : ¬ Pt r) :
    Calls Tryz.prog 86 #[.int .i64 r] w fun e w' => e = .returned (.bool false) ∧ w = w' := by
  unfold Pt at h
  by_cases h1 : 0 ≤ r
  · by_cases h2 : r ≤ 1114111
    · have h3 : ¬ r < 55296 := by omega
      have h4 : ¬ 57343 < r := by omega
      clear h
      go_enter Tryz.func86, Tryz.ntmps86
      go_wp2
      go_ret
      exact ⟨rfl, rfl⟩
    · clear h
      go_enter Tryz.func86, Tryz.ntmps86
      go_wp2
      go_ret
      exact ⟨rfl, rfl⟩
  · clear h
    go_enter Tryz.func86, Tryz.ntmps86
    go_wp2
    go_ret
    exact ⟨rfl, rfl⟩

theorem encode_yes (r : Int) (w : World) (h : Pt r) :
    Calls Tryz.prog 72 #[.int .i64 r] w fun e w' => e = .returned (.tuple #[.string (Utf8.encode r), .bool true]) ∧ w = w' := by
  have h1 : 0 ≤ r := h.1
  have h2 : r ≤ 1114111 := h.2.1
  go_enter Tryz.func72, Tryz.ntmps72
  go_wp2_with (go_at_call 86; refine (isPoint_yes _ _ h).mono ?_; rintro e w' ⟨rfl, rfl⟩)
  go_ret2
  exact ⟨rfl, rfl⟩

theorem encode_no (r : Int) (w : World) (h : ¬ Pt r) :
    Calls Tryz.prog 72 #[.int .i64 r] w fun e w' => e = .returned (.tuple #[.string ByteArray.empty, .bool false]) ∧ w = w' := by
  go_enter Tryz.func72, Tryz.ntmps72
  go_wp2_with (go_at_call 86; refine (isPoint_no _ _ h).mono ?_; rintro e w' ⟨rfl, rfl⟩)
  go_ret2
  exact ⟨rfl, rfl⟩

end Go.Proofs.YtdbidkfjbhclcaaGreatDoor.runesA
namespace Go.Proofs.YtdbidkfjbhclcaaGreatDoor.runesC
open Go.ChangeShapes Go.WideShapes Go.ChangeAt Go.RowKit utfP runesA

theorem ret_int {k : IntKind} {a b : Int} (h : a = b) : Ending.returned (.int k a) = .returned (.int k b) := by rw [h]

theorem digit_any (c : Int) (w : World) (h0 : 0 ≤ c) (h1 : c ≤ 255) :
    Calls Tryz.prog 85 #[.int .u8 c] w fun e w' => e = .returned (.int .i64 (dg c)) ∧ w = w' := by
  go_enter Tryz.func85, Tryz.ntmps85
  go_wp2
  all_goals go_ret
  all_goals refine ⟨ret_int ?_, rfl⟩
  all_goals unfold dg; (try simp); repeat' split
  all_goals omega

theorem hex_no (s : ByteArray) (p : Int) (w : World) (hs : s.size ≤ maxLen) (h : p < 0 ∨ (s.size : Int) - 4 < p) :
    Calls Tryz.prog 71 #[.string s, .int .i64 p] w fun e w' => e = .returned (.tuple #[.int .i64 0, .bool false]) ∧ w = w' := by
  unfold maxLen at hs
  by_cases h1 : p < 0
  · clear h
    go_enter Tryz.func71, Tryz.ntmps71
    go_wp2
    go_ret2
    exact ⟨rfl, rfl⟩
  · have h2 : (s.size : Int) - 4 < p := by omega
    clear h
    go_enter Tryz.func71, Tryz.ntmps71
    go_wp2
    go_ret2
    exact ⟨rfl, rfl⟩

theorem digit_byte (c : UInt8) (w : World) :
    Calls Tryz.prog 85 #[.int .u8 (c.toNat : Int)] w fun e w' => e = .returned (.int .i64 (dg c.toNat)) ∧ w = w' :=
  digit_any _ w (by omega) (by have := c.toNat_lt; omega)

theorem bget (s : ByteArray) (i : Nat) (h : i < s.size) : s.data.toList.getD i 0 = s[i] := by
  rw [List.getD_eq_getElem?_getD, List.getElem?_eq_getElem (by simpa using h)]; rfl

theorem hx_step (s : ByteArray) (p k : Nat) (h : p + k < s.size) (h0 : 0 ≤ hx s.data.toList p k) (h1 : 0 ≤ dg s[p + k].toNat) : hx s.data.toList p (k + 1) = hx s.data.toList p k * 16 + dg s[p + k].toNat := by
  rw [hx, bget s _ h, if_neg (by omega)]
theorem hx_stop (s : ByteArray) (p k : Nat) (h : p + k < s.size) (h1 : dg s[p + k].toNat < 0) (hk : k < 4) : hx s.data.toList p 4 < 0 := by
  refine hx_neg _ _ (k + 1) ?_ 4 (by omega)
  rw [hx, bget s _ h, if_pos (by omega)]; omega

def hexRes (s : ByteArray) (p : Nat) : Value := if 0 ≤ hx s.data.toList p 4 then .tuple #[.int .i64 (hx s.data.toList p 4), .bool true] else .tuple #[.int .i64 0, .bool false]

theorem hex_at (s : ByteArray) (p : Nat) (w : World) (hs : s.size ≤ maxLen) (h : p + 4 ≤ s.size) :
    Calls Tryz.prog 71 #[.string s, .int .i64 p] w fun e w' => e = .returned (hexRes s p) ∧ w = w' := by
  unfold maxLen at hs
  go_enter Tryz.func71, Tryz.ntmps71
  go_wp2
  go_loop [6, 18] (fun n i => ∃ k : Nat, k ≤ 4 ∧ i = .int .i64 k ∧ 0 ≤ hx s.data.toList p k ∧ n = .int .i64 (hx s.data.toList p k)) (fun _ i => 4 - (intOf i).toNat)
  case atStart => exact ⟨0, Nat.zero_le _, rfl, Int.le_refl _, rfl⟩
  case round =>
    obtain ⟨k, hk, rfl, hn, rfl⟩ := hrel
    have hb := (hx_bd s.data.toList p k hk).2
    by_cases hlt : k < 4
    · have hpk : p + k < s.size := by omega
      have hd := dg_bd s[p + k].toNat
      by_cases hneg : dg s[p + k].toNat < 0
      · have hst := Lib.hid (hx_stop s p k hpk hneg hlt)
        go_wp2_with (go_at_call 85; refine (digit_byte _ _).mono ?_; rintro e w' ⟨rfl, rfl⟩)
        go_ret2
        exact ⟨by have := hst.out; rw [hexRes, if_neg (by omega)]; rfl, rfl⟩
      · have hst := Lib.hid (hx_step s p k hpk hn (by omega))
        go_wp2_with (go_at_call 85; refine (digit_byte _ _).mono ?_; rintro e w' ⟨rfl, rfl⟩)
        go_round
        case rel => exact ⟨k + 1, by omega, by go_num, by rw [hst.out]; omega, by rw [hst.out]⟩
        case measure => simp [intOf]; omega
    · obtain rfl : k = 4 := by omega
      go_wp2
      go_ret2
      exact ⟨by rw [hexRes, if_pos hn]; rfl, rfl⟩

end Go.Proofs.YtdbidkfjbhclcaaGreatDoor.runesC
namespace Go.Proofs.YtdbidkfjbhclcaaGreatDoor.runesD
open Go.ChangeShapes Go.WideShapes Go.ChangeAt Go.RowKit utfP runesA

theorem point_yes (r : Int) (w : World) (h : Pt r) :
    Calls Tryz.prog 45 #[.int .i64 r] w fun e w' => e = .returned (.bool true) ∧ w = w' := by
  obtain ⟨h1, h2, h3⟩ := h
  rcases h3 with h3 | h3
  · go_enter Tryz.func45, Tryz.ntmps45
    go_wp2
    go_ret
    exact ⟨rfl, rfl⟩
  · have h4 : ¬ r < 55296 := by omega
    have h5 : r < 1114112 := by omega
    go_enter Tryz.func45, Tryz.ntmps45
    go_wp2
    go_ret
    exact ⟨rfl, rfl⟩

theorem point_no (r : Int) (w : World) (h : ¬ Pt r) :
    Calls Tryz.prog 45 #[.int .i64 r] w fun e w' => e = .returned (.bool false) ∧ w = w' := by
  unfold Pt at h
  by_cases h1 : 0 ≤ r
  · have h3 : ¬ r < 55296 := by omega
    by_cases h4 : 57343 < r
    · have h5 : ¬ r < 1114112 := by omega
      clear h
      go_enter Tryz.func45, Tryz.ntmps45
      go_wp2
      go_ret
      exact ⟨rfl, rfl⟩
    · clear h
      go_enter Tryz.func45, Tryz.ntmps45
      go_wp2
      go_ret
      exact ⟨rfl, rfl⟩
  · have h3 : ¬ 57343 < r := by omega
    clear h
    go_enter Tryz.func45, Tryz.ntmps45
    go_wp2
    go_ret
    exact ⟨rfl, rfl⟩

theorem encR_no (r : Int) (w : World) (h : ¬ Pt r) :
    Calls Tryz.prog 29 #[.int .i64 r] w fun e w' => e = .returned (.string ByteArray.empty) ∧ Below w.heap.size w w' := by
  go_enter Tryz.func29, Tryz.ntmps29
  go_wp2_with (go_at_call 45; refine (point_no _ _ h).mono ?_; rintro e w' ⟨rfl, rfl⟩)
  go_ret
  exact ⟨rfl, by go_grown⟩

/-- the bytes of a code point, behind a name -/
def enc (r : Int) : ByteArray := Utf8.encode r

theorem lit_str (w : World) (o : Obj) (xs : List Int) :
    (convert 40 9 (.slice (some ⟨w.heap.size + 1, 0, none⟩) xs.length xs.length)).run Tryz.prog ((w.alloc o).alloc (.cells (xs.map (Value.int .u8)).toArray 5)) = .ok (.string (strOfNums xs)) ((w.alloc o).alloc (.cells (xs.map (Value.int .u8)).toArray 5)) := by
  refine run_convert_bytes_arg (P := Tryz.prog) _ 40 5 Tryz.underlying40 Tryz.underlying5 (w.heap.size + 1) 0 xs.length xs.length xs rfl ?_ 9 Tryz.underlying9
  intro i hi
  have e : w.heap.size + 1 = (w.alloc o).heap.size := by simp
  rw [e, World.cell?_alloc_mark]
  simp [hi]

set_option maxRecDepth 100000 in
theorem encR_1 (r : Int) (w : World) (h : Pt r) (c1 : r < 128) :
    Calls Tryz.prog 29 #[.int .i64 r] w fun e w' => e = .returned (.string (enc r)) ∧ Below w.heap.size w w' := by
  have h0 := h.1
  have h1 := h.2.1
  have hr : strOfNums [r] = enc r := by
    have hv := h.2.2
    obtain ⟨n, rfl⟩ := Int.eq_ofNat_of_zero_le h0
    unfold enc
    rw [enc1 n (by omega)]; simp [strOfNums]
  have hcv := lit_str w (.cells #[] 5) [r]
  rw [hr] at hcv
  simp only [List.map_cons, List.map_nil, List.length_cons, List.length_nil, Nat.zero_add] at hcv
  clear hr
  generalize enc r = str at *
  go_enter Tryz.func29, Tryz.ntmps29
  go_wp2_with (go_at_call 45; refine (point_yes _ _ h).mono ?_; rintro e w' ⟨rfl, rfl⟩)
  go_ret
  exact ⟨rfl, by go_grown⟩

set_option maxRecDepth 100000 in
theorem encR_2 (r : Int) (w : World) (h : Pt r) (c1 : ¬ r < 128) (c2 : r < 2048) :
    Calls Tryz.prog 29 #[.int .i64 r] w fun e w' => e = .returned (.string (enc r)) ∧ Below w.heap.size w w' := by
  have h0 := h.1
  have h1 := h.2.1
  have hr : strOfNums [192 + r / 64, 128 + r % 64] = enc r := by
    have hv := h.2.2
    obtain ⟨n, rfl⟩ := Int.eq_ofNat_of_zero_le h0
    unfold enc
    rw [enc2 n (by omega) (by omega)]; simp only [strOfNums, List.map_cons, List.map_nil]
    rw [show (192 + (n : Int) / 64).toNat = 192 + n / 64 by omega, show (128 + (n : Int) % 64).toNat = 128 + n % 64 by omega]
  have hcv := lit_str w (.cells #[] 5) [192 + r / 64, 128 + r % 64]
  rw [hr] at hcv
  simp only [List.map_cons, List.map_nil, List.length_cons, List.length_nil, Nat.zero_add, Nat.reduceAdd] at hcv
  clear hr
  generalize enc r = str at *
  go_enter Tryz.func29, Tryz.ntmps29
  go_wp2_with (go_at_call 45; refine (point_yes _ _ h).mono ?_; rintro e w' ⟨rfl, rfl⟩)
  go_ret
  exact ⟨rfl, by go_grown⟩

set_option maxRecDepth 100000 in
theorem encR_3 (r : Int) (w : World) (h : Pt r) (c1 : ¬ r < 128) (c2 : ¬ r < 2048) (c3 : r < 65536) :
    Calls Tryz.prog 29 #[.int .i64 r] w fun e w' => e = .returned (.string (enc r)) ∧ Below w.heap.size w w' := by
  have h0 := h.1
  have h1 := h.2.1
  have hr : strOfNums [224 + r / 4096, 128 + r / 64 % 64, 128 + r % 64] = enc r := by
    have hv := h.2.2
    obtain ⟨n, rfl⟩ := Int.eq_ofNat_of_zero_le h0
    unfold enc
    rw [enc3 n (by omega) (by omega) (by omega)]; simp only [strOfNums, List.map_cons, List.map_nil]
    rw [show (224 + (n : Int) / 4096).toNat = 224 + n / 4096 by omega, show (128 + (n : Int) / 64 % 64).toNat = 128 + n / 64 % 64 by omega, show (128 + (n : Int) % 64).toNat = 128 + n % 64 by omega]
  have hcv := lit_str w (.cells #[] 5) [224 + r / 4096, 128 + r / 64 % 64, 128 + r % 64]
  rw [hr] at hcv
  simp only [List.map_cons, List.map_nil, List.length_cons, List.length_nil, Nat.zero_add, Nat.reduceAdd] at hcv
  clear hr
  generalize enc r = str at *
  go_enter Tryz.func29, Tryz.ntmps29
  go_wp2_with (go_at_call 45; refine (point_yes _ _ h).mono ?_; rintro e w' ⟨rfl, rfl⟩)
  go_ret
  exact ⟨rfl, by go_grown⟩

set_option maxRecDepth 100000 in
theorem encR_4 (r : Int) (w : World) (h : Pt r) (c1 : ¬ r < 128) (c2 : ¬ r < 2048) (c3 : ¬ r < 65536) :
    Calls Tryz.prog 29 #[.int .i64 r] w fun e w' => e = .returned (.string (enc r)) ∧ Below w.heap.size w w' := by
  have h0 := h.1
  have h1 := h.2.1
  have hr : strOfNums [240 + r / 262144, 128 + r / 4096 % 64, 128 + r / 64 % 64, 128 + r % 64] = enc r := by
    have hv := h.2.2
    obtain ⟨n, rfl⟩ := Int.eq_ofNat_of_zero_le h0
    unfold enc
    rw [enc4 n (by omega) (by omega)]; simp only [strOfNums, List.map_cons, List.map_nil]
    rw [show (240 + (n : Int) / 262144).toNat = 240 + n / 262144 by omega, show (128 + (n : Int) / 4096 % 64).toNat = 128 + n / 4096 % 64 by omega, show (128 + (n : Int) / 64 % 64).toNat = 128 + n / 64 % 64 by omega, show (128 + (n : Int) % 64).toNat = 128 + n % 64 by omega]
  have hcv := lit_str w (.cells #[] 5) [240 + r / 262144, 128 + r / 4096 % 64, 128 + r / 64 % 64, 128 + r % 64]
  rw [hr] at hcv
  simp only [List.map_cons, List.map_nil, List.length_cons, List.length_nil, Nat.zero_add, Nat.reduceAdd] at hcv
  clear hr
  generalize enc r = str at *
  go_enter Tryz.func29, Tryz.ntmps29
  go_wp2_with (go_at_call 45; refine (point_yes _ _ h).mono ?_; rintro e w' ⟨rfl, rfl⟩)
  go_ret
  exact ⟨rfl, by go_grown⟩

theorem encR_yes (r : Int) (w : World) (h : Pt r) :
    Calls Tryz.prog 29 #[.int .i64 r] w fun e w' => e = .returned (.string (enc r)) ∧ Below w.heap.size w w' := by
  by_cases c1 : r < 128
  · exact encR_1 r w h c1
  by_cases c2 : r < 2048
  · exact encR_2 r w h c1 c2
  by_cases c3 : r < 65536
  · exact encR_3 r w h c1 c2 c3
  · exact encR_4 r w h c1 c2 c3

end Go.Proofs.YtdbidkfjbhclcaaGreatDoor.runesD
namespace Go.Proofs.YtdbidkfjbhclcaaGreatDoor.runesE
open Go.ChangeShapes Go.WideShapes Go.ChangeAt Go.RowKit utfP utfQ runesA runesD

/-- the tables of the library's decoder, as its text lays them -/
def Tabs (w : World) : Prop := Lib.Utf8Tabs 14 15 w

theorem tabs_size {w : World} (h : Tabs w) : 14 < w.heap.size ∧ 15 < w.heap.size :=
  ⟨World.block_lt_of_cell? w ⟨14, 0, none⟩ (h.1 0 (by decide)), World.block_lt_of_cell? w ⟨15, 2 * 0, none⟩ (h.2 0 (by decide)).1⟩
theorem tabs_below {w w' : World} (h : Tabs w) (hb : Below w.heap.size w w') : Tabs w' := by
  obtain ⟨s1, s2⟩ := tabs_size h
  refine ⟨fun c hc => ?_, fun i hi => ⟨?_, ?_⟩⟩
  · rw [hb.cell (p := ⟨14, c, none⟩) s1]; exact h.1 c hc
  · rw [hb.cell (p := ⟨15, 2 * i, none⟩) s2]; exact (h.2 i hi).1
  · rw [hb.cell (p := ⟨15, 2 * i + 1, none⟩) s2]; exact (h.2 i hi).2

theorem ext_drop (S : ByteArray) (k : Nat) : (S.extract k S.size).data.toList = S.data.toList.drop k := by
  rw [ByteArray.data_extract, Array.toList_extract]
  simp [List.extract, List.take_of_length_le]
theorem ext_take (S : ByteArray) (k j : Nat) : (S.extract k (k + j)).data.toList = (S.data.toList.drop k).take j := by
  rw [ByteArray.data_extract, Array.toList_extract]
  simp [List.extract]
theorem ext_size (S : ByteArray) (k : Nat) : (S.extract k S.size).size = S.size - k := by
  rw [ByteArray.size_extract]; omega
theorem toL (s : ByteArray) : s.toList = s.data.toList := Go.ByteArray.toList_eq s

theorem decodeN_bd (n b0 b1 b2 b3 : Nat) (h0 : b0 < 256) : (Lib.decodeN n b0 b1 b2 b3).1 ≤ 2097151 ∧ 1 ≤ (Lib.decodeN n b0 b1 b2 b3).2 ∧ (Lib.decodeN n b0 b1 b2 b3).2 ≤ 4 := by
  unfold Lib.decodeN
  split
  · exact ⟨by dsimp only; omega, by dsimp only; omega, by dsimp only; omega⟩
  split
  · split
    · exact ⟨by dsimp only; omega, by dsimp only; omega, by dsimp only; omega⟩
    · exact ⟨by decide, by decide, by decide⟩
  split
  · split
    · exact ⟨by dsimp only; omega, by dsimp only; omega, by dsimp only; omega⟩
    · exact ⟨by decide, by decide, by decide⟩
  split
  · split
    · exact ⟨by dsimp only; omega, by dsimp only; omega, by dsimp only; omega⟩
    · exact ⟨by decide, by decide, by decide⟩
  · exact ⟨by decide, by decide, by decide⟩

theorem dgo (s : ByteArray) (p : Nat) (h : p < s.size) : ∃ a b : Nat, Lib.decodeGo (s.extract p s.size) = (a, b) ∧ (a : Int) ≤ 2097151 ∧ 1 ≤ b ∧ b ≤ 4 ∧ dec (s.data.toList.drop p) = if a = 65533 ∧ b < 2 then (0, 0) else (a, b) := by
  have e : Lib.decodeGo (s.extract p s.size) = Lib.decodeL (s.data.toList.drop p) := by
    unfold Lib.decodeGo
    rw [if_neg (by rw [ext_size]; omega), ← Lib.decodeL_drop (s.extract p s.size) 0, ext_drop, List.drop_zero]
  have hb := decodeN_bd (s.data.toList.drop p).length _ (bt (s.data.toList.drop p) 1) (bt (s.data.toList.drop p) 2) (bt (s.data.toList.drop p) 3) (bt_lt (s.data.toList.drop p) 0)
  rw [← dcd_eq] at hb
  refine ⟨(Lib.decodeL (s.data.toList.drop p)).1, (Lib.decodeL (s.data.toList.drop p)).2, e, by omega, hb.2.1, hb.2.2, ?_⟩
  have hne : s.data.toList.drop p ≠ [] := by
    rw [ne_eq, List.drop_eq_nil_iff]; simp; omega
  unfold dec
  by_cases c : (Lib.decodeL (s.data.toList.drop p)).1 = 65533 ∧ (Lib.decodeL (s.data.toList.drop p)).2 < 2
  · rw [if_pos (Or.inr c), if_pos c]
  · rw [if_neg (by rintro (h | h); exact hne h; exact c h), if_neg c]

theorem decode_no (s : ByteArray) (p : Int) (w : World) (h : p < 0 ∨ (s.size : Int) ≤ p) :
    Calls Tryz.prog 59 #[.string s, .int .i64 p] w fun e w' => e = .returned (.tuple #[.int .i64 0, .int .i64 0, .bool false]) ∧ w = w' := by
  by_cases h1 : p < 0
  · clear h
    go_enter Tryz.func59, Tryz.ntmps59
    go_wp2
    go_ret3
    exact ⟨rfl, rfl⟩
  · have h2 : (s.size : Int) ≤ p := by omega
    clear h
    go_enter Tryz.func59, Tryz.ntmps59
    go_wp2
    go_ret3
    exact ⟨rfl, rfl⟩

def decR (l : List UInt8) : Value := .tuple #[.int .i64 ((dec l).1 : Int), .int .i64 ((dec l).2 : Int), .bool (decide (0 < (dec l).2))]

theorem decode_at (s : ByteArray) (p : Nat) (w : World) (h : p < s.size) (hT : Tabs w) :
    Calls Tryz.prog 59 #[.string s, .int .i64 p] w fun e w' => e = .returned (decR (s.data.toList.drop p)) ∧ Below w.heap.size w w' := by
  obtain ⟨a, b, hg, ha, hb1, hb4, hd⟩ := dgo s p h
  have HD := Tryz.utf8_DecodeRuneInString (s.extract p s.size) w hT
  rw [hg] at HD
  have HD := Lib.hid HD
  clear hg
  by_cases c : a = 65533 ∧ b < 2
  · rw [if_pos c] at hd
    have hr : Hid (decR (s.data.toList.drop p) = .tuple #[.int .i64 0, .int .i64 0, .bool false]) := Lib.hid (by unfold decR; rw [hd]; rfl)
    obtain ⟨c1, c2⟩ := c
    have q1 : ((a : Int) == 65533) = true := by rw [c1]; rfl
    clear hd c1
    go_enter Tryz.func59, Tryz.ntmps59
    go_wp2_with (go_at_call 70; refine HD.out.mono ?_; rintro e w' ⟨rfl, hb⟩)
    go_ret3
    exact ⟨by rw [hr.out]; rfl, by assumption⟩
  · rw [if_neg c] at hd
    have hr : Hid (decR (s.data.toList.drop p) = .tuple #[.int .i64 a, .int .i64 b, .bool true]) := Lib.hid (by
      unfold decR; rw [hd]; dsimp only; rw [decide_eq_true (by omega)])
    by_cases c1 : a = 65533
    · have q1 : ((a : Int) == 65533) = true := by rw [c1]; rfl
      have q2 : ¬ b < 2 := by omega
      clear hd c c1
      go_enter Tryz.func59, Tryz.ntmps59
      go_wp2_with (go_at_call 70; refine HD.out.mono ?_; rintro e w' ⟨rfl, hb⟩)
      go_ret3
      exact ⟨by rw [hr.out]; rfl, by assumption⟩
    · have q1 : ((a : Int) == 65533) = false := by rw [beq_eq_false_iff_ne]; omega
      clear hd c c1
      go_enter Tryz.func59, Tryz.ntmps59
      go_wp2_with (go_at_call 70; refine HD.out.mono ?_; rintro e w' ⟨rfl, hb⟩)
      go_ret3
      exact ⟨by rw [hr.out]; rfl, by assumption⟩

/-- the reference's sum, after j bytes of k -/
def nst (l : List UInt8) (k : Nat) : Nat → Nat
  | 0 => 0
  | 1 => bt l 0 % (match k with | 1 => 256 | 2 => 32 | 3 => 16 | _ => 8)
  | j + 2 => nst l k (j + 1) * 64 + bt l (j + 1) % 64

theorem nst_nk (l : List UInt8) (k : Nat) (h1 : 1 ≤ k) (h4 : k ≤ 4) : nst l k k = nk l k := by
  rcases (show k = 1 ∨ k = 2 ∨ k = 3 ∨ k = 4 by omega) with rfl | rfl | rfl | rfl
  · show bt l 0 % 256 = bt l 0
    exact Nat.mod_eq_of_lt (bt_lt l 0)
  · rfl
  · rfl
  · rfl
theorem nst_bd (l : List UInt8) (k j : Nat) (h1 : 1 ≤ j) (h4 : j ≤ 4) : (nst l k j : Int) ≤ 67108863 := by
  have hb := bt_lt l 0
  have h1' : nst l k 1 < 256 := by
    show bt l 0 % _ < 256
    exact Nat.lt_of_le_of_lt (Nat.mod_le _ _) hb
  have e2 : nst l k 2 = nst l k 1 * 64 + bt l 1 % 64 := rfl
  have e3 : nst l k 3 = nst l k 2 * 64 + bt l 2 % 64 := rfl
  have e4 : nst l k 4 = nst l k 3 * 64 + bt l 3 % 64 := rfl
  rcases (show j = 1 ∨ j = 2 ∨ j = 3 ∨ j = 4 by omega) with rfl | rfl | rfl | rfl <;> omega

theorem nst_succ (l : List UInt8) (k j : Nat) (h : 1 ≤ j) : nst l k (j + 1) = nst l k j * 64 + bt l j % 64 := by
  cases j with
  | zero => omega
  | succ j => rfl

theorem bt_at (s : ByteArray) (p j : Nat) (h : p + j < s.size) : bt (s.data.toList.drop p) j = s[p + j].toNat := by
  unfold bt
  rw [List.getD_eq_getElem?_getD, List.getElem?_drop, List.getElem?_eq_getElem (by simpa using h)]; rfl

theorem enc_pos (n : Nat) (h : Pt (n : Int)) : (enc (n : Int)).toList.isEmpty = false := by
  rw [toL, List.isEmpty_eq_false_iff, ← List.length_pos_iff, Array.length_toList, ByteArray.size_data]
  unfold enc
  by_cases h2 : (n : Int) < 65536
  · have := enc_size3 _ h h2; omega
  · have := enc_size4 _ (by omega) h.2.1; omega

theorem refdec_no (s : ByteArray) (p : Int) (w : World) (h : p < 0 ∨ (s.size : Int) ≤ p) :
    Calls Tryz.prog 44 #[.string s, .int .i64 p] w fun e w' => e = .returned (.tuple #[.int .i64 0, .int .i64 0]) ∧ w = w' := by
  by_cases h1 : p < 0
  · clear h
    go_enter Tryz.func44, Tryz.ntmps44
    go_wp2
    go_ret2
    exact ⟨rfl, rfl⟩
  · have h2 : (s.size : Int) ≤ p := by omega
    clear h
    go_enter Tryz.func44, Tryz.ntmps44
    go_wp2
    go_ret2
    exact ⟨rfl, rfl⟩

def decP (l : List UInt8) : Value := .tuple #[.int .i64 ((dec l).1 : Int), .int .i64 ((dec l).2 : Int)]

set_option maxRecDepth 100000 in
set_option maxHeartbeats 1000000 in
theorem refdec_at (s : ByteArray) (p : Nat) (w : World) (hs : s.size ≤ maxLen) (h : p < s.size) :
    Calls Tryz.prog 44 #[.string s, .int .i64 p] w fun e w' => e = .returned (decP (s.data.toList.drop p)) ∧ Below w.heap.size w w' := by
  unfold maxLen at hs
  have d1 : decide ((p : Int) < 0) = false := by simp
  have d2 : decide (s.size ≤ p) = false := by simp; omega
  go_enter Tryz.func44, Tryz.ntmps44
  go_wp2
  go_loopw [7] (fun z wr => ∃ k : Nat, 1 ≤ k ∧ k ≤ 5 ∧ z = .int .i64 k ∧ Hid (∀ j, 1 ≤ j → j < k → ¬ Ok (s.data.toList.drop p) j) ∧ Below w.heap.size w wr) (fun z _ => 5 - (intOf z).toNat)
  case atStart => exact ⟨1, by omega, by omega, rfl, Lib.hid (fun j h1 h2 => by omega), Below.refl _ _⟩
  case round =>
    obtain ⟨k, hk1, hk5, rfl, hno, hb⟩ := hrel
    have HB := Lib.hid hb
    have hsz := hb.size
    clear hb
    by_cases hk : k ≤ 4 ∧ k ≤ s.size - p
    · obtain ⟨hk4, hkl⟩ := hk
      have hc := Lib.hid (bt_at s p 0 (by omega))
      have hc0 := s[p].toNat_lt
      obtain ⟨kz, hkz⟩ : ∃ kz : Int, kz = (k : Int) := ⟨_, rfl⟩
      rw [← hkz]
      rcases (show k = 1 ∨ k = 2 ∨ k = 3 ∨ k = 4 by omega) with rfl | rfl | rfl | rfl
      · obtain rfl : kz = 1 := by omega
        clear hkz
        have d3 : (1 : Int) ≤ (s.size : Int) - (p : Int) := by omega
        go_wp2
        go_loop [6, 9] (fun n i => ∃ j : Nat, 1 ≤ j ∧ j ≤ 1 ∧ i = .int .i64 j ∧ n = .int .i64 (nst (s.data.toList.drop p) 1 j : Int)) (fun _ i => 1 - (intOf i).toNat)
        case atStart => exact ⟨1, by omega, by omega, rfl, congrArg _ (by
          have e : nst (s.data.toList.drop p) 1 1 = bt (s.data.toList.drop p) 0 % 256 := rfl
          have := hc.out; have := bt_lt (s.data.toList.drop p) 0; simp only [Nat.add_zero] at *; omega)⟩
        case round =>
          obtain ⟨j, hj1, hj2, rfl, rfl⟩ := hrel
          have hn := nst_bd (s.data.toList.drop p) 1 j hj1 (by omega)
          by_cases hjk : j < 1
          · have hst : Hid (nst (s.data.toList.drop p) 1 (j + 1) = nst (s.data.toList.drop p) 1 j * 64 + s[p + j].toNat % 64) := Lib.hid (by rw [nst_succ _ _ _ hj1, bt_at s p j (by omega)])
            have hcj := s[p + j].toNat_lt
            first
              | omega
              | (go_wp2
                 go_round
                 case rel => exact ⟨j + 1, by omega, by omega, by go_num, by rw [hst.out]; rfl⟩
                 case measure => simp [intOf]; omega)
          · obtain rfl : j = 1 := by omega
            have hN : Hid (nst (s.data.toList.drop p) 1 1 = nk (s.data.toList.drop p) 1) := Lib.hid (nst_nk _ _ (by omega) (by omega))
            have d4 : p + 1 ≤ s.size := by omega
            have d5 : (p : Int) + 1 ≤ s.size := by omega
            generalize hn0 : nst (s.data.toList.drop p) 1 1 = n0 at *
            have HN := Lib.hid hn0
            clear hn0
            by_cases hP : Pt (n0 : Int)
            · have hen := Lib.hid (enc_pos n0 hP)
              have q1 : (enc (n0 : Int)).toList.isEmpty = false := hen.out
              by_cases heq : (enc (n0 : Int)).toList = (s.extract p (p + 1)).toList
              · have hok : Hid (decP (s.data.toList.drop p) = .tuple #[.int .i64 (n0 : Int), .int .i64 1]) := Lib.hid (by
                  have ho : Ok (s.data.toList.drop p) 1 := ⟨by simp; omega, by rw [← hN.out]; exact hP, by rw [← hN.out, ← ext_take, ← toL, ← toL]; exact heq⟩
                  unfold decP; rw [dec1 ho, ← hN.out]; rfl)
                have q2 : ((enc (n0 : Int)).toList == (s.extract p (p + 1)).toList) = true := beq_iff_eq.2 heq
                clear heq
                go_wp2_with (go_at_call 29; refine (encR_yes _ _ hP).mono ?_; rintro e w' ⟨rfl, hb⟩)
                go_ret2
                exact ⟨by rw [hok.out]; rfl, HB.out.trans ((by assumption : Below _ _ _).mono hsz)⟩
              · have hnok : Hid (∀ j, 1 ≤ j → j < 1 + 1 → ¬ Ok (s.data.toList.drop p) j) := Lib.hid (by
                  intro j h1 h2 ho
                  by_cases hj : j < 1
                  · exact hno.out j h1 hj ho
                  · obtain rfl : j = 1 := by omega
                    apply heq
                    unfold enc; rw [toL, toL, ext_take, ← ho.2.2, ← hN.out])
                have q2 : ((enc (n0 : Int)).toList == (s.extract p (p + 1)).toList) = false := beq_eq_false_iff_ne.2 heq
                clear heq
                go_wp2_with (go_at_call 29; refine (encR_yes _ _ hP).mono ?_; rintro e w' ⟨rfl, hb⟩)
                go_roundw
                case rel => exact ⟨1 + 1, by omega, by omega, rfl, hnok, HB.out.trans ((by assumption : Below _ _ _).mono hsz)⟩
                case measure => simp [intOf]
            · have hnok : Hid (∀ j, 1 ≤ j → j < 1 + 1 → ¬ Ok (s.data.toList.drop p) j) := Lib.hid (by
                intro j h1 h2 ho
                by_cases hj : j < 1
                · exact hno.out j h1 hj ho
                · obtain rfl : j = 1 := by omega
                  apply hP
                  rw [hN.out]; exact ho.2.1)
              go_wp2_with (go_at_call 29; refine (encR_no _ _ hP).mono ?_; rintro e w' ⟨rfl, hb⟩)
              go_roundw
              case rel => exact ⟨1 + 1, by omega, by omega, rfl, hnok, HB.out.trans ((by assumption : Below _ _ _).mono hsz)⟩
              case measure => simp [intOf]
      · obtain rfl : kz = 2 := by omega
        clear hkz
        have d3 : (2 : Int) ≤ (s.size : Int) - (p : Int) := by omega
        go_wp2
        go_loop [6, 9] (fun n i => ∃ j : Nat, 1 ≤ j ∧ j ≤ 2 ∧ i = .int .i64 j ∧ n = .int .i64 (nst (s.data.toList.drop p) 2 j : Int)) (fun _ i => 2 - (intOf i).toNat)
        case atStart => exact ⟨1, by omega, by omega, rfl, congrArg _ (by
          have e : nst (s.data.toList.drop p) 2 1 = bt (s.data.toList.drop p) 0 % 32 := rfl
          have := hc.out; have := bt_lt (s.data.toList.drop p) 0; simp only [Nat.add_zero] at *; omega)⟩
        case round =>
          obtain ⟨j, hj1, hj2, rfl, rfl⟩ := hrel
          have hn := nst_bd (s.data.toList.drop p) 2 j hj1 (by omega)
          by_cases hjk : j < 2
          · have hst : Hid (nst (s.data.toList.drop p) 2 (j + 1) = nst (s.data.toList.drop p) 2 j * 64 + s[p + j].toNat % 64) := Lib.hid (by rw [nst_succ _ _ _ hj1, bt_at s p j (by omega)])
            have hcj := s[p + j].toNat_lt
            first
              | omega
              | (go_wp2
                 go_round
                 case rel => exact ⟨j + 1, by omega, by omega, by go_num, by rw [hst.out]; rfl⟩
                 case measure => simp [intOf]; omega)
          · obtain rfl : j = 2 := by omega
            have hN : Hid (nst (s.data.toList.drop p) 2 2 = nk (s.data.toList.drop p) 2) := Lib.hid (nst_nk _ _ (by omega) (by omega))
            have d4 : p + 2 ≤ s.size := by omega
            have d5 : (p : Int) + 2 ≤ s.size := by omega
            generalize hn0 : nst (s.data.toList.drop p) 2 2 = n0 at *
            have HN := Lib.hid hn0
            clear hn0
            by_cases hP : Pt (n0 : Int)
            · have hen := Lib.hid (enc_pos n0 hP)
              have q1 : (enc (n0 : Int)).toList.isEmpty = false := hen.out
              by_cases heq : (enc (n0 : Int)).toList = (s.extract p (p + 2)).toList
              · have hok : Hid (decP (s.data.toList.drop p) = .tuple #[.int .i64 (n0 : Int), .int .i64 2]) := Lib.hid (by
                  have ho : Ok (s.data.toList.drop p) 2 := ⟨by simp; omega, by rw [← hN.out]; exact hP, by rw [← hN.out, ← ext_take, ← toL, ← toL]; exact heq⟩
                  unfold decP; rw [dec2 ho, ← hN.out]; rfl)
                have q2 : ((enc (n0 : Int)).toList == (s.extract p (p + 2)).toList) = true := beq_iff_eq.2 heq
                clear heq
                go_wp2_with (go_at_call 29; refine (encR_yes _ _ hP).mono ?_; rintro e w' ⟨rfl, hb⟩)
                go_ret2
                exact ⟨by rw [hok.out]; rfl, HB.out.trans ((by assumption : Below _ _ _).mono hsz)⟩
              · have hnok : Hid (∀ j, 1 ≤ j → j < 2 + 1 → ¬ Ok (s.data.toList.drop p) j) := Lib.hid (by
                  intro j h1 h2 ho
                  by_cases hj : j < 2
                  · exact hno.out j h1 hj ho
                  · obtain rfl : j = 2 := by omega
                    apply heq
                    unfold enc; rw [toL, toL, ext_take, ← ho.2.2, ← hN.out])
                have q2 : ((enc (n0 : Int)).toList == (s.extract p (p + 2)).toList) = false := beq_eq_false_iff_ne.2 heq
                clear heq
                go_wp2_with (go_at_call 29; refine (encR_yes _ _ hP).mono ?_; rintro e w' ⟨rfl, hb⟩)
                go_roundw
                case rel => exact ⟨2 + 1, by omega, by omega, rfl, hnok, HB.out.trans ((by assumption : Below _ _ _).mono hsz)⟩
                case measure => simp [intOf]
            · have hnok : Hid (∀ j, 1 ≤ j → j < 2 + 1 → ¬ Ok (s.data.toList.drop p) j) := Lib.hid (by
                intro j h1 h2 ho
                by_cases hj : j < 2
                · exact hno.out j h1 hj ho
                · obtain rfl : j = 2 := by omega
                  apply hP
                  rw [hN.out]; exact ho.2.1)
              go_wp2_with (go_at_call 29; refine (encR_no _ _ hP).mono ?_; rintro e w' ⟨rfl, hb⟩)
              go_roundw
              case rel => exact ⟨2 + 1, by omega, by omega, rfl, hnok, HB.out.trans ((by assumption : Below _ _ _).mono hsz)⟩
              case measure => simp [intOf]
      · obtain rfl : kz = 3 := by omega
        clear hkz
        have d3 : (3 : Int) ≤ (s.size : Int) - (p : Int) := by omega
        go_wp2
        go_loop [6, 9] (fun n i => ∃ j : Nat, 1 ≤ j ∧ j ≤ 3 ∧ i = .int .i64 j ∧ n = .int .i64 (nst (s.data.toList.drop p) 3 j : Int)) (fun _ i => 3 - (intOf i).toNat)
        case atStart => exact ⟨1, by omega, by omega, rfl, congrArg _ (by
          have e : nst (s.data.toList.drop p) 3 1 = bt (s.data.toList.drop p) 0 % 16 := rfl
          have := hc.out; have := bt_lt (s.data.toList.drop p) 0; simp only [Nat.add_zero] at *; omega)⟩
        case round =>
          obtain ⟨j, hj1, hj2, rfl, rfl⟩ := hrel
          have hn := nst_bd (s.data.toList.drop p) 3 j hj1 (by omega)
          by_cases hjk : j < 3
          · have hst : Hid (nst (s.data.toList.drop p) 3 (j + 1) = nst (s.data.toList.drop p) 3 j * 64 + s[p + j].toNat % 64) := Lib.hid (by rw [nst_succ _ _ _ hj1, bt_at s p j (by omega)])
            have hcj := s[p + j].toNat_lt
            first
              | omega
              | (go_wp2
                 go_round
                 case rel => exact ⟨j + 1, by omega, by omega, by go_num, by rw [hst.out]; rfl⟩
                 case measure => simp [intOf]; omega)
          · obtain rfl : j = 3 := by omega
            have hN : Hid (nst (s.data.toList.drop p) 3 3 = nk (s.data.toList.drop p) 3) := Lib.hid (nst_nk _ _ (by omega) (by omega))
            have d4 : p + 3 ≤ s.size := by omega
            have d5 : (p : Int) + 3 ≤ s.size := by omega
            generalize hn0 : nst (s.data.toList.drop p) 3 3 = n0 at *
            have HN := Lib.hid hn0
            clear hn0
            by_cases hP : Pt (n0 : Int)
            · have hen := Lib.hid (enc_pos n0 hP)
              have q1 : (enc (n0 : Int)).toList.isEmpty = false := hen.out
              by_cases heq : (enc (n0 : Int)).toList = (s.extract p (p + 3)).toList
              · have hok : Hid (decP (s.data.toList.drop p) = .tuple #[.int .i64 (n0 : Int), .int .i64 3]) := Lib.hid (by
                  have ho : Ok (s.data.toList.drop p) 3 := ⟨by simp; omega, by rw [← hN.out]; exact hP, by rw [← hN.out, ← ext_take, ← toL, ← toL]; exact heq⟩
                  unfold decP; rw [dec3 ho, ← hN.out]; rfl)
                have q2 : ((enc (n0 : Int)).toList == (s.extract p (p + 3)).toList) = true := beq_iff_eq.2 heq
                clear heq
                go_wp2_with (go_at_call 29; refine (encR_yes _ _ hP).mono ?_; rintro e w' ⟨rfl, hb⟩)
                go_ret2
                exact ⟨by rw [hok.out]; rfl, HB.out.trans ((by assumption : Below _ _ _).mono hsz)⟩
              · have hnok : Hid (∀ j, 1 ≤ j → j < 3 + 1 → ¬ Ok (s.data.toList.drop p) j) := Lib.hid (by
                  intro j h1 h2 ho
                  by_cases hj : j < 3
                  · exact hno.out j h1 hj ho
                  · obtain rfl : j = 3 := by omega
                    apply heq
                    unfold enc; rw [toL, toL, ext_take, ← ho.2.2, ← hN.out])
                have q2 : ((enc (n0 : Int)).toList == (s.extract p (p + 3)).toList) = false := beq_eq_false_iff_ne.2 heq
                clear heq
                go_wp2_with (go_at_call 29; refine (encR_yes _ _ hP).mono ?_; rintro e w' ⟨rfl, hb⟩)
                go_roundw
                case rel => exact ⟨3 + 1, by omega, by omega, rfl, hnok, HB.out.trans ((by assumption : Below _ _ _).mono hsz)⟩
                case measure => simp [intOf]
            · have hnok : Hid (∀ j, 1 ≤ j → j < 3 + 1 → ¬ Ok (s.data.toList.drop p) j) := Lib.hid (by
                intro j h1 h2 ho
                by_cases hj : j < 3
                · exact hno.out j h1 hj ho
                · obtain rfl : j = 3 := by omega
                  apply hP
                  rw [hN.out]; exact ho.2.1)
              go_wp2_with (go_at_call 29; refine (encR_no _ _ hP).mono ?_; rintro e w' ⟨rfl, hb⟩)
              go_roundw
              case rel => exact ⟨3 + 1, by omega, by omega, rfl, hnok, HB.out.trans ((by assumption : Below _ _ _).mono hsz)⟩
              case measure => simp [intOf]
      · obtain rfl : kz = 4 := by omega
        clear hkz
        have d3 : (4 : Int) ≤ (s.size : Int) - (p : Int) := by omega
        go_wp2
        go_loop [6, 9] (fun n i => ∃ j : Nat, 1 ≤ j ∧ j ≤ 4 ∧ i = .int .i64 j ∧ n = .int .i64 (nst (s.data.toList.drop p) 4 j : Int)) (fun _ i => 4 - (intOf i).toNat)
        case atStart => exact ⟨1, by omega, by omega, rfl, congrArg _ (by
          have e : nst (s.data.toList.drop p) 4 1 = bt (s.data.toList.drop p) 0 % 8 := rfl
          have := hc.out; have := bt_lt (s.data.toList.drop p) 0; simp only [Nat.add_zero] at *; omega)⟩
        case round =>
          obtain ⟨j, hj1, hj2, rfl, rfl⟩ := hrel
          have hn := nst_bd (s.data.toList.drop p) 4 j hj1 (by omega)
          by_cases hjk : j < 4
          · have hst : Hid (nst (s.data.toList.drop p) 4 (j + 1) = nst (s.data.toList.drop p) 4 j * 64 + s[p + j].toNat % 64) := Lib.hid (by rw [nst_succ _ _ _ hj1, bt_at s p j (by omega)])
            have hcj := s[p + j].toNat_lt
            first
              | omega
              | (go_wp2
                 go_round
                 case rel => exact ⟨j + 1, by omega, by omega, by go_num, by rw [hst.out]; rfl⟩
                 case measure => simp [intOf]; omega)
          · obtain rfl : j = 4 := by omega
            have hN : Hid (nst (s.data.toList.drop p) 4 4 = nk (s.data.toList.drop p) 4) := Lib.hid (nst_nk _ _ (by omega) (by omega))
            have d4 : p + 4 ≤ s.size := by omega
            have d5 : (p : Int) + 4 ≤ s.size := by omega
            generalize hn0 : nst (s.data.toList.drop p) 4 4 = n0 at *
            have HN := Lib.hid hn0
            clear hn0
            by_cases hP : Pt (n0 : Int)
            · have hen := Lib.hid (enc_pos n0 hP)
              have q1 : (enc (n0 : Int)).toList.isEmpty = false := hen.out
              by_cases heq : (enc (n0 : Int)).toList = (s.extract p (p + 4)).toList
              · have hok : Hid (decP (s.data.toList.drop p) = .tuple #[.int .i64 (n0 : Int), .int .i64 4]) := Lib.hid (by
                  have ho : Ok (s.data.toList.drop p) 4 := ⟨by simp; omega, by rw [← hN.out]; exact hP, by rw [← hN.out, ← ext_take, ← toL, ← toL]; exact heq⟩
                  unfold decP; rw [dec4 ho, ← hN.out]; rfl)
                have q2 : ((enc (n0 : Int)).toList == (s.extract p (p + 4)).toList) = true := beq_iff_eq.2 heq
                clear heq
                go_wp2_with (go_at_call 29; refine (encR_yes _ _ hP).mono ?_; rintro e w' ⟨rfl, hb⟩)
                go_ret2
                exact ⟨by rw [hok.out]; rfl, HB.out.trans ((by assumption : Below _ _ _).mono hsz)⟩
              · have hnok : Hid (∀ j, 1 ≤ j → j < 4 + 1 → ¬ Ok (s.data.toList.drop p) j) := Lib.hid (by
                  intro j h1 h2 ho
                  by_cases hj : j < 4
                  · exact hno.out j h1 hj ho
                  · obtain rfl : j = 4 := by omega
                    apply heq
                    unfold enc; rw [toL, toL, ext_take, ← ho.2.2, ← hN.out])
                have q2 : ((enc (n0 : Int)).toList == (s.extract p (p + 4)).toList) = false := beq_eq_false_iff_ne.2 heq
                clear heq
                go_wp2_with (go_at_call 29; refine (encR_yes _ _ hP).mono ?_; rintro e w' ⟨rfl, hb⟩)
                go_roundw
                case rel => exact ⟨4 + 1, by omega, by omega, rfl, hnok, HB.out.trans ((by assumption : Below _ _ _).mono hsz)⟩
                case measure => simp [intOf]
            · have hnok : Hid (∀ j, 1 ≤ j → j < 4 + 1 → ¬ Ok (s.data.toList.drop p) j) := Lib.hid (by
                intro j h1 h2 ho
                by_cases hj : j < 4
                · exact hno.out j h1 hj ho
                · obtain rfl : j = 4 := by omega
                  apply hP
                  rw [hN.out]; exact ho.2.1)
              go_wp2_with (go_at_call 29; refine (encR_no _ _ hP).mono ?_; rintro e w' ⟨rfl, hb⟩)
              go_roundw
              case rel => exact ⟨4 + 1, by omega, by omega, rfl, hnok, HB.out.trans ((by assumption : Below _ _ _).mono hsz)⟩
              case measure => simp [intOf]
    · have hr : Hid (decP (s.data.toList.drop p) = .tuple #[.int .i64 0, .int .i64 0]) := Lib.hid (by
        have hl : (s.data.toList.drop p).length = s.size - p := by simp
        have hn : ∀ j, 1 ≤ j → j ≤ 4 → ¬ Ok (s.data.toList.drop p) j := by
          intro j h1 h4 ho
          by_cases hj : j < k
          · exact hno.out j h1 hj ho
          · have := ho.1; omega
        unfold decP
        rw [dec0 (by omega) (hn 1 (by omega) (by omega)) (hn 2 (by omega) (by omega)) (hn 3 (by omega) (by omega)) (hn 4 (by omega) (by omega))]; rfl)
      by_cases hk4 : k ≤ 4
      · have d3 : ¬ (k : Int) ≤ (s.size : Int) - (p : Int) := by omega
        go_wp2
        go_ret2
        exact ⟨by rw [hr.out]; rfl, HB.out⟩
      · go_wp2
        go_ret2
        exact ⟨by rw [hr.out]; rfl, HB.out⟩

end Go.Proofs.YtdbidkfjbhclcaaGreatDoor.runesE
namespace Go.Proofs.YtdbidkfjbhclcaaGreatDoor.pointsA
open Go.ChangeShapes Go.WideShapes Go.ChangeAt Go.RowKit utfP utfQ utfR runesA runesD runesE

theorem infoI : (Tryz.prog.info? 3).map (fun i => (i.zero, i.size, i.bytes)) = some (some (.int .i64 0), 1, 8) := by kernel_rfl

def iv (n : Nat) : Value := .int .i64 (n : Int)
/-- a slice of the call's own that holds numbers -/
def OwnI (w : World) (B : Nat) (v : Value) (l : List Nat) : Prop := w.ownsRow B 3 1 v l.length (l.map iv)

theorem ownI_lt {w : World} {B : Nat} {v : Value} {l : List Nat} (h : OwnI w B v l) : ∀ k, v.ownBlock = some k → B ≤ k := fun k hk => (World.ownsRow.lt h k hk).1
theorem ownI_snoc {w : World} {B : Nat} {v : Value} {l : List Nat} {n : Nat} (h : w.ownsRow B 3 1 v (l.length + 1) ((l.map iv) ++ [iv n])) : OwnI w B v (l ++ [n]) := by
  unfold OwnI; rw [List.length_append, List.map_append]; exact h
theorem ownI_kept {w w' : World} {B : Nat} {v : Value} {l : List Nat} (h : OwnI w B v l) (hb : Below w.heap.size w w') : OwnI w' B v l := by
  refine World.ownsRow.kept h (row := none) ?_ (Classical.em _)
  exact ⟨hb.os, hb.tape, hb.output, hb.size, fun k hk _ => hb.block k hk⟩

theorem pts_go {l : List UInt8} {k : Nat} {done : List Nat} (h : k < l.length) (z : (dec (l.drop k)).2 ≠ 0) (hp : pts l = (pts (l.drop k)).map (done ++ ·)) :
    pts l = (pts (l.drop (k + (dec (l.drop k)).2))).map ((done ++ [(dec (l.drop k)).1]) ++ ·) := by
  have hne : l.drop k ≠ [] := by rw [ne_eq, List.drop_eq_nil_iff]; omega
  rw [hp, pts_yes hne z, List.drop_drop]
  cases pts (l.drop (k + (dec (l.drop k)).2)) <;> simp
theorem pts_stop {l : List UInt8} {k : Nat} {done : List Nat} (h : k < l.length) (z : (dec (l.drop k)).2 = 0) (hp : pts l = (pts (l.drop k)).map (done ++ ·)) : pts l = none := by
  have hne : l.drop k ≠ [] := by rw [ne_eq, List.drop_eq_nil_iff]; omega
  rw [hp, pts_no hne z]; rfl
theorem pts_end {l : List UInt8} {k : Nat} {done : List Nat} (h : ¬ k < l.length) (hp : pts l = (pts (l.drop k)).map (done ++ ·)) : pts l = some done := by
  rw [hp, List.drop_eq_nil_of_le (by omega), pts_nil]; simp
theorem dec_bd {l : List UInt8} : (dec l).1 ≤ 1114111 ∧ (dec l).2 ≤ 4 := by
  by_cases h : 0 < (dec l).2
  · obtain ⟨k, h1, h4, ho, e⟩ := dec_sound h
    have := ho.2.1.2.1
    rw [e]; exact ⟨by dsimp only; omega, h4⟩
  · unfold dec at *
    split
    · exact ⟨Nat.zero_le _, Nat.zero_le _⟩
    · rename_i c; rw [if_neg c] at h; have := decodeL_pos l; omega

/-- what Points hands back -/
def PtsPost (w : World) (l : List UInt8) (e : Ending) (w' : World) : Prop :=
  Below w.heap.size w w' ∧ ((pts l = none ∧ e = .returned (.tuple #[.slice none 0 0, .bool false])) ∨ ∃ (d : List Nat) (v : Value), pts l = some d ∧ OwnI w' w.heap.size v d ∧ d.length ≤ l.length ∧ e = .returned (.tuple #[v, .bool true]))

set_option maxRecDepth 100000 in
theorem refPoints (s : ByteArray) (w : World) (hs : s.size ≤ 100000) :
    Calls Tryz.prog 26 #[.string s] w (PtsPost w s.data.toList) := by
  obtain ⟨i0, hi, hz0, hz1, hz2⟩ := info_parts infoI
  go_enter Tryz.func26, Tryz.ntmps26
  go_wp2
  go_loopw [4, 5] (fun v i wr => ∃ (k : Nat) (d : List Nat), k ≤ s.size ∧ d.length ≤ k ∧ i = .int .i64 k ∧ OwnI wr w.heap.size v d ∧ Below w.heap.size w wr ∧ Hid (pts s.data.toList = (pts (s.data.toList.drop k)).map (d ++ ·))) (fun _ i _ => s.size - (intOf i).toNat)
  case atStart => exact ⟨0, [], Nat.zero_le _, Nat.le_refl _, rfl, World.ownsRow_lit w #[] 0 (Nat.le_refl _) (Nat.zero_le _) rfl, (Below.refl _ _).alloc (Nat.le_refl _) _, Lib.hid (by rw [List.drop_zero]; cases pts s.data.toList <;> simp)⟩
  case round =>
    obtain ⟨k, d, hk, hd, rfl, hown, hb, hp⟩ := hrel
    have hlt' := ownI_lt hown
    have hsz := hb.size
    by_cases hlt : k < s.size
    · have hdb := dec_bd (l := s.data.toList.drop k)
      have hdl := dec_le (l := s.data.toList.drop k)
      rw [List.length_drop, Array.length_toList, ByteArray.size_data] at hdl
      have h2 := refdec_at s k wr (by unfold maxLen; omega) hlt
      unfold decP at h2
      have hgo := Lib.hid (fun z => pts_go (l := s.data.toList) (k := k) (done := d) (by simpa using hlt) z hp.out)
      have hst := Lib.hid (fun z => pts_stop (l := s.data.toList) (k := k) (done := d) (by simpa using hlt) z hp.out)
      generalize dec (s.data.toList.drop k) = q at *
      obtain ⟨a, b⟩ := q
      simp only at h2 hgo hst hdb hdl
      have H2 := Lib.hid h2
      have HO := Lib.hid hown
      have HB := Lib.hid hb
      have HL := Lib.hid hlt'
      have ha : (a : Int) ≤ 1114111 := by omega
      have hb4 := hdb.2
      clear h2 hown hb hlt' hdb hp
      by_cases hz : b = 0
      · have q1 : ((b : Int) == 0) = true := by rw [hz]; rfl
        have hN := Lib.hid (hst.out hz)
        clear hz hgo hst
        go_wp2_with fail
        refine H2.out.mono ?_
        rintro e w1 ⟨rfl, hb1⟩
        have HB1 := Lib.hid hb1
        clear hb1
        go_wp2
        go_ret2
        exact ⟨HB.out.trans (HB1.out.mono hsz), Or.inl ⟨hN.out, rfl⟩⟩
      · have q1 : ((b : Int) == 0) = false := by rw [beq_eq_false_iff_ne]; omega
        have hN := Lib.hid (hgo.out hz)
        have hb1 : 1 ≤ b := by omega
        clear hz hgo hst
        go_wp2_with fail
        refine H2.out.mono ?_
        rintro e w1 ⟨rfl, hb1⟩
        have hown1 := ownI_kept HO.out hb1
        have HB1 := Lib.hid (HB.out.trans (hb1.mono hsz))
        have hsz1 := HB1.out.size
        clear hb1
        go_wp2_with (at_builtin; refine wpList_append_own _ rfl _ _ 65 rfl w.heap.size 3 i0 (.int .i64 0) 1 8 Tryz.underlying65 hi hz0 hz1 hz2 rfl (by decide) _ _ _ rfl (World.ownsRow.alloc hown1 _) ⟨w1.heap.size, 0, none⟩ 1 1 [iv a] rfl rfl ?c1 ?c2 ?c3 ?c4 ?c5 ?_)
        case c1 => exact cell_one_new _ _ _
        case c2 => intro u hu; simp at hu; subst hu; rfl
        case c3 => unfold maxLen; omega
        case c4 => omega
        case c5 => simp; omega
        intro v' w2 hown2 hgr2 _
        have HO2 := Lib.hid (ownI_snoc hown2)
        have HB2 := Lib.hid ((HB1.out.alloc hsz1 _).grown hgr2 (by simp; omega) HL.out)
        clear hown1 hown2 hgr2
        go_wp2
        go_roundw
        case rel => exact ⟨k + b, d ++ [a], by omega, by simp; omega, by go_num, HO2.out, HB2.out, hN⟩
        case measure => simp [intOf]; omega
    · have hN := Lib.hid (pts_end (l := s.data.toList) (k := k) (done := d) (by simpa using hlt) hp.out)
      have HO := Lib.hid hown
      have HB := Lib.hid hb
      clear hown hb hp
      go_wp2
      go_ret2
      exact ⟨HB.out, Or.inr ⟨d, _, hN.out, HO.out, by simp; omega, rfl⟩⟩

end Go.Proofs.YtdbidkfjbhclcaaGreatDoor.pointsA
namespace Go.Proofs.YtdbidkfjbhclcaaGreatDoor.pointsB
open Go.ChangeShapes Go.WideShapes Go.ChangeAt Go.RowKit utfP utfQ utfR runesA runesD runesE pointsA

theorem valid_any (s : ByteArray) (w : World) (hs : s.size ≤ maxLen) (hT : Tabs w) :
    Calls Tryz.prog 38 #[.string s] w fun e w' => e = .returned (.bool (pts s.data.toList).isSome) ∧ Below w.heap.size w w' := by
  unfold maxLen at hs
  have h1 := Tryz.utf8_ValidString s w (by omega) hT
  rw [valid_eq] at h1
  have H1 := Lib.hid h1
  clear h1 hT
  go_enter Tryz.func38, Tryz.ntmps38
  go_wp2_with (go_at_call 49; refine H1.out.mono ?_; rintro e w' ⟨rfl, hb⟩)
  go_ret
  exact ⟨rfl, by assumption⟩
theorem valid_is (s : ByteArray) (b : Bool) (hb : (pts s.data.toList).isSome = b) (w : World) (hs : s.size ≤ maxLen) (hT : Tabs w) :
    Calls Tryz.prog 38 #[.string s] w fun e w' => e = .returned (.bool b) ∧ Below w.heap.size w w' := by
  subst hb; exact valid_any s w hs hT

theorem own_iterAt {w : World} {B : Nat} {v : Value} {l : List Nat} (h : OwnI w B v l) {k p p' : Nat} {s : ByteArray} (hk : w.heap[k]? = some (.stringIter s p)) : OwnI (w.iterAt k s p') B v l := by
  refine ⟨h.1, ?_⟩
  rcases h.2 with hn | ⟨g, cap, cur, rfl, hb, hgg, rest⟩
  · exact .inl hn
  · refine .inr ⟨g, cap, cur, rfl, hb, ?_, rest⟩
    rw [Lib.iterAt_other w k g s p' (by rintro rfl; rw [hk] at hgg; cases hgg)]; exact hgg

theorem own_ne {w : World} {B : Nat} {v : Value} {l : List Nat} (h : OwnI w B v l) {k p : Nat} {s : ByteArray} (hk : w.heap[k]? = some (.stringIter s p)) : some k ≠ v.ownBlock := by
  intro e
  rcases h.2 with ⟨rfl, _⟩ | ⟨g, cap, cur, rfl, hb, hgg, rest⟩
  · cases e
  · have : k = g := by simpa [Value.ownBlock] using e
    subst this; rw [hk] at hgg; cases hgg
theorem iter_grown {w w' : World} {v : Value} {k p : Nat} {s : ByteArray} {o : Obj} (hk : w.heap[k]? = some (.stringIter s p)) (hne : some k ≠ v.ownBlock) (hg : (w.alloc o).grownBy w' v.ownBlock) : w'.heap[k]? = some (.stringIter s p) := by
  have hlt : k < w.heap.size := (Array.getElem?_eq_some_iff.1 hk).1
  rw [hg.block k (by simp; omega) hne, Below.heap_alloc w o k hlt]; exact hk

theorem pts_pos {l : List UInt8} {k : Nat} {d full : List Nat} (h : k < l.length) (hf : pts l = some full) (hp : pts l = (pts (l.drop k)).map (d ++ ·)) : (dec (l.drop k)).2 ≠ 0 := by
  intro z
  rw [pts_stop h z hp] at hf; cases hf
theorem decode_dec {s : ByteArray} {k : Nat} (z : (dec (s.data.toList.drop k)).2 ≠ 0) : Utf8.decode s k = dec (s.data.toList.drop k) := by
  rw [← Lib.decodeL_drop, dec_decodeL z]

end Go.Proofs.YtdbidkfjbhclcaaGreatDoor.pointsB
