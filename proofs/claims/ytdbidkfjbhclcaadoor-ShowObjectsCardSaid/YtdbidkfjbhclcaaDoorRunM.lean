/-
  Contracts of the functions of package runes that only compute: Join, Split, isPoint, digit, Hex, Encode; and of haversacklaw01.alive.
  Contracts of runes.digit, runes.Hex and the reference's Hex; the law RunesHex returns true.
  Contracts: the reference's Point, Encode.
  Contracts: runes.Decode and the reference's Decode tell the code point at a place (dec).
  Contracts: the reference's Points; SameInts on two lists.
  Contracts: runes.Valid and runes.Points.
-/
import Derived.Test.YtdbidkfjbhclcaaDoorChecked
import Derived.Test.YtdbidkfjbhclcaaDoorUtfM
import Derived.WalkKit
import Derived.ProofKit
import Derived.WalkLawsBesides
import Derived.Lib.Hide
import Derived.RowKit3
import Derived.Handy
import Derived.Laws.BytesArg
import Derived.Test.YtdbidkfjbhclcaaDoorShelf
import Derived.Deep.LoopGhost
import Derived.WalkSpells
import Derived.WalkSmall
import Derived.Lib.OthersKept
namespace Go.Proofs.YtdbidkfjbhclcaaDoor.runesA
open Go.ChangeShapes Go.WideShapes Go.ChangeAt Go.RowKit utfP

theorem join_yes (a b : Int) (w : World) (h1 : 55296 ≤ a) (h2 : a < 56320) (h3 : 56320 ≤ b) (h4 : b ≤ 57343) :
    Calls Tryd.prog 79 #[.int .i64 a, .int .i64 b] w fun e w' => e = .returned (.tuple #[.int .i64 (65536 + 1024 * (a - 55296) + (b - 56320)), .bool true]) ∧ w = w' := by
  go_enter Tryd.func79, Tryd.ntmps79
  go_wp2
  go_ret2
  exact ⟨rfl, rfl⟩

theorem join_no (a b : Int) (w : World) (h : a < 55296 ∨ 56320 ≤ a ∨ b < 56320 ∨ 57343 < b) :
    Calls Tryd.prog 79 #[.int .i64 a, .int .i64 b] w fun e w' => e = .returned (.tuple #[.int .i64 0, .bool false]) ∧ w = w' := by
  by_cases h1 : a < 55296
  · go_enter Tryd.func79, Tryd.ntmps79
    go_wp2
    go_ret2
    exact ⟨rfl, rfl⟩
  by_cases h2 : 56320 ≤ a
  · go_enter Tryd.func79, Tryd.ntmps79
    go_wp2
    go_ret2
    exact ⟨rfl, rfl⟩
  by_cases h3 : b < 56320
  · go_enter Tryd.func79, Tryd.ntmps79
    go_wp2
    go_ret2
    exact ⟨rfl, rfl⟩
  have h4 : 57343 < b := by omega
  go_enter Tryd.func79, Tryd.ntmps79
  go_wp2
  go_ret2
  exact ⟨rfl, rfl⟩

theorem isPoint_yes (r : Int) (w : World) (h : Pt r) :
    Calls Tryd.prog 92 #[.int .i64 r] w fun e w' => e = .returned (.bool true) ∧ w = w' := by
  obtain ⟨h1, h2, h3⟩ := h
  rcases h3 with h3 | h3
  · go_enter Tryd.func92, Tryd.ntmps92
    go_wp2
    go_ret
    exact ⟨rfl, rfl⟩
  · have h4 : ¬ r < 55296 := by omega
    go_enter Tryd.func92, Tryd.ntmps92
    go_wp2
    go_ret
    exact ⟨rfl, rfl⟩

theorem isPoint_no (r : Int) (w : World) (h : ¬ Pt r) :
    Calls Tryd.prog 92 #[.int .i64 r] w fun e w' => e = .returned (.bool false) ∧ w = w' := by
  unfold Pt at h
  by_cases h1 : 0 ≤ r
  · by_cases h2 : r ≤ 1114111
    · have h3 : ¬ r < 55296 := by omega
      have h4 : ¬ 57343 < r := by omega
      clear h
      go_enter Tryd.func92, Tryd.ntmps92
      go_wp2
      go_ret
      exact ⟨rfl, rfl⟩
    · clear h
      go_enter Tryd.func92, Tryd.ntmps92
      go_wp2
      go_ret
      exact ⟨rfl, rfl⟩
  · clear h
    go_enter Tryd.func92, Tryd.ntmps92
    go_wp2
    go_ret
    exact ⟨rfl, rfl⟩

theorem encode_yes (r : Int) (w : World) (h : Pt r) :
    Calls Tryd.prog 78 #[.int .i64 r] w fun e w' => e = .returned (.tuple #[.string (Utf8.encode r), .bool true]) ∧ w = w' := by
  have h1 : 0 ≤ r := h.1
  have h2 : r ≤ 1114111 := h.2.1
  go_enter Tryd.func78, Tryd.ntmps78
  go_wp2_with (go_at_call 92; refine (isPoint_yes _ _ h).mono ?_; rintro e w' ⟨rfl, rfl⟩)
  go_ret2
  exact ⟨rfl, rfl⟩

theorem encode_no (r : Int) (w : World) (h : ¬ Pt r) :
    Calls Tryd.prog 78 #[.int .i64 r] w fun e w' => e = .returned (.tuple #[.string ByteArray.empty, .bool false]) ∧ w = w' := by
  go_enter Tryd.func78, Tryd.ntmps78
  go_wp2_with (go_at_call 92; refine (isPoint_no _ _ h).mono ?_; rintro e w' ⟨rfl, rfl⟩)
  go_ret2
  exact ⟨rfl, rfl⟩

end Go.Proofs.YtdbidkfjbhclcaaDoor.runesA
namespace Go.Proofs.YtdbidkfjbhclcaaDoor.runesC
open Go.ChangeShapes Go.WideShapes Go.ChangeAt Go.RowKit utfP runesA

theorem ret_int {k : IntKind} {a b : Int} (h : a = b) : Ending.returned (.int k a) = .returned (.int k b) := by rw [h]

theorem digit_any (c : Int) (w : World) (h0 : 0 ≤ c) (h1 : c ≤ 255) :
    Calls Tryd.prog 91 #[.int .u8 c] w fun e w' => e = .returned (.int .i64 (dg c)) ∧ w = w' := by
  go_enter Tryd.func91, Tryd.ntmps91
  go_wp2
  all_goals go_ret
  all_goals refine ⟨ret_int ?_, rfl⟩
  all_goals unfold dg; (try simp); repeat' split
  all_goals omega

theorem hex_no (s : ByteArray) (p : Int) (w : World) (hs : s.size ≤ maxLen) (h : p < 0 ∨ (s.size : Int) - 4 < p) :
    Calls Tryd.prog 77 #[.string s, .int .i64 p] w fun e w' => e = .returned (.tuple #[.int .i64 0, .bool false]) ∧ w = w' := by
  unfold maxLen at hs
  by_cases h1 : p < 0
  · clear h
    go_enter Tryd.func77, Tryd.ntmps77
    go_wp2
    go_ret2
    exact ⟨rfl, rfl⟩
  · have h2 : (s.size : Int) - 4 < p := by omega
    clear h
    go_enter Tryd.func77, Tryd.ntmps77
    go_wp2
    go_ret2
    exact ⟨rfl, rfl⟩

theorem digit_byte (c : UInt8) (w : World) :
    Calls Tryd.prog 91 #[.int .u8 (c.toNat : Int)] w fun e w' => e = .returned (.int .i64 (dg c.toNat)) ∧ w = w' :=
  digit_any _ w (by omega) (by have := c.toNat_lt; omega)

theorem bget (s : ByteArray) (i : Nat) (h : i < s.size) : s.data.toList.getD i 0 = s[i] := by
  rw [List.getD_eq_getElem?_getD, List.getElem?_eq_getElem (by simpa using h)]; rfl

theorem hx_step (s : ByteArray) (p k : Nat) (h : p + k < s.size) (h0 : 0 ≤ hx s.data.toList p k) (h1 : 0 ≤ dg s[p + k].toNat) : hx s.data.toList p (k + 1) = hx s.data.toList p k * 16 + dg s[p + k].toNat := by
  rw [hx, bget s _ h, if_neg (by omega)]
theorem hx_stop (s : ByteArray) (p k : Nat) (h : p + k < s.size) (h1 : dg s[p + k].toNat < 0) (hk : k < 4) : hx s.data.toList p 4 < 0 := by
  refine hx_neg _ _ (k + 1) ?_ 4 (by omega)
  rw [hx, bget s _ h, if_pos (by omega)]; omega

def hexRes (s : ByteArray) (p : Nat) : Value := if 0 ≤ hx s.data.toList p 4 then .tuple #[.int .i64 (hx s.data.toList p 4), .bool true] else .tuple #[.int .i64 0, .bool false]

theorem hex_at (s : ByteArray) (p : Nat) (w : World) (hs : s.size ≤ maxLen) (h : p + 4 ≤ s.size) :
    Calls Tryd.prog 77 #[.string s, .int .i64 p] w fun e w' => e = .returned (hexRes s p) ∧ w = w' := by
  unfold maxLen at hs
  go_enter Tryd.func77, Tryd.ntmps77
  go_wp2
  go_loop [6, 18] (fun n i => ∃ k : Nat, k ≤ 4 ∧ i = .int .i64 k ∧ 0 ≤ hx s.data.toList p k ∧ n = .int .i64 (hx s.data.toList p k)) (fun _ i => 4 - (intOf i).toNat)
  case atStart => exact ⟨0, Nat.zero_le _, rfl, Int.le_refl _, rfl⟩
  case round =>
    obtain ⟨k, hk, rfl, hn, rfl⟩ := hrel
    have hb := (hx_bd s.data.toList p k hk).2
    by_cases hlt : k < 4
    · have hpk : p + k < s.size := by omega
      have hd := dg_bd s[p + k].toNat
      by_cases hneg : dg s[p + k].toNat < 0
      · have hst := Lib.hid (hx_stop s p k hpk hneg hlt)
        go_wp2_with (go_at_call 91; refine (digit_byte _ _).mono ?_; rintro e w' ⟨rfl, rfl⟩)
        go_ret2
        exact ⟨by have := hst.out; rw [hexRes, if_neg (by omega)]; rfl, rfl⟩
      · have hst := Lib.hid (hx_step s p k hpk hn (by omega))
        go_wp2_with (go_at_call 91; refine (digit_byte _ _).mono ?_; rintro e w' ⟨rfl, rfl⟩)
        go_round
        case rel => exact ⟨k + 1, by omega, by go_num, by rw [hst.out]; omega, by rw [hst.out]⟩
        case measure => simp [intOf]; omega
    · obtain rfl : k = 4 := by omega
      go_wp2
      go_ret2
      exact ⟨by rw [hexRes, if_pos hn]; rfl, rfl⟩

end Go.Proofs.YtdbidkfjbhclcaaDoor.runesC
namespace Go.Proofs.YtdbidkfjbhclcaaDoor.runesD
open Go.ChangeShapes Go.WideShapes Go.ChangeAt Go.RowKit utfP runesA

/-- the bytes of a code point, behind a name -/
def enc (r : Int) : ByteArray := Utf8.encode r

theorem lit_str (w : World) (o : Obj) (xs : List Int) :
    (convert 46 9 (.slice (some ⟨w.heap.size + 1, 0, none⟩) xs.length xs.length)).run Tryd.prog ((w.alloc o).alloc (.cells (xs.map (Value.int .u8)).toArray 5)) = .ok (.string (strOfNums xs)) ((w.alloc o).alloc (.cells (xs.map (Value.int .u8)).toArray 5)) := by
  refine run_convert_bytes_arg (P := Tryd.prog) _ 46 5 Tryd.underlying46 Tryd.underlying5 (w.heap.size + 1) 0 xs.length xs.length xs rfl ?_ 9 Tryd.underlying9
  intro i hi
  have e : w.heap.size + 1 = (w.alloc o).heap.size := by simp
  rw [e, World.cell?_alloc_mark]
  simp [hi]

end Go.Proofs.YtdbidkfjbhclcaaDoor.runesD
namespace Go.Proofs.YtdbidkfjbhclcaaDoor.runesE
open Go.ChangeShapes Go.WideShapes Go.ChangeAt Go.RowKit utfP utfQ runesA runesD

/-- the tables of the library's decoder, as its text lays them -/
def Tabs (w : World) : Prop := Lib.Utf8Tabs 14 15 w

theorem tabs_size {w : World} (h : Tabs w) : 14 < w.heap.size ∧ 15 < w.heap.size :=
  ⟨World.block_lt_of_cell? w ⟨14, 0, none⟩ (h.1 0 (by decide)), World.block_lt_of_cell? w ⟨15, 2 * 0, none⟩ (h.2 0 (by decide)).1⟩
theorem tabs_below {w w' : World} (h : Tabs w) (hb : Below w.heap.size w w') : Tabs w' := by
  obtain ⟨s1, s2⟩ := tabs_size h
  refine ⟨fun c hc => ?_, fun i hi => ⟨?_, ?_⟩⟩
  · rw [hb.cell (p := ⟨14, c, none⟩) s1]; exact h.1 c hc
  · rw [hb.cell (p := ⟨15, 2 * i, none⟩) s2]; exact (h.2 i hi).1
  · rw [hb.cell (p := ⟨15, 2 * i + 1, none⟩) s2]; exact (h.2 i hi).2

theorem ext_drop (S : ByteArray) (k : Nat) : (S.extract k S.size).data.toList = S.data.toList.drop k := by
  rw [ByteArray.data_extract, Array.toList_extract]
  simp [List.extract, List.take_of_length_le]
theorem ext_take (S : ByteArray) (k j : Nat) : (S.extract k (k + j)).data.toList = (S.data.toList.drop k).take j := by
  rw [ByteArray.data_extract, Array.toList_extract]
  simp [List.extract]
theorem ext_size (S : ByteArray) (k : Nat) : (S.extract k S.size).size = S.size - k := by
  rw [ByteArray.size_extract]; omega
theorem toL (s : ByteArray) : s.toList = s.data.toList := Go.ByteArray.toList_eq s

theorem decodeN_bd (n b0 b1 b2 b3 : Nat) (h0 : b0 < 256) : (Lib.decodeN n b0 b1 b2 b3).1 ≤ 2097151 ∧ 1 ≤ (Lib.decodeN n b0 b1 b2 b3).2 ∧ (Lib.decodeN n b0 b1 b2 b3).2 ≤ 4 := by
  unfold Lib.decodeN
  split
  · exact ⟨by dsimp only; omega, by dsimp only; omega, by dsimp only; omega⟩
  split
  · split
    · exact ⟨by dsimp only; omega, by dsimp only; omega, by dsimp only; omega⟩
    · exact ⟨by decide, by decide, by decide⟩
  split
  · split
    · exact ⟨by dsimp only; omega, by dsimp only; omega, by dsimp only; omega⟩
    · exact ⟨by decide, by decide, by decide⟩
  split
  · split
    · exact ⟨by dsimp only; omega, by dsimp only; omega, by dsimp only; omega⟩
    · exact ⟨by decide, by decide, by decide⟩
  · exact ⟨by decide, by decide, by decide⟩

theorem dgo (s : ByteArray) (p : Nat) (h : p < s.size) : ∃ a b : Nat, Lib.decodeGo (s.extract p s.size) = (a, b) ∧ (a : Int) ≤ 2097151 ∧ 1 ≤ b ∧ b ≤ 4 ∧ dec (s.data.toList.drop p) = if a = 65533 ∧ b < 2 then (0, 0) else (a, b) := by
  have e : Lib.decodeGo (s.extract p s.size) = Lib.decodeL (s.data.toList.drop p) := by
    unfold Lib.decodeGo
    rw [if_neg (by rw [ext_size]; omega), ← Lib.decodeL_drop (s.extract p s.size) 0, ext_drop, List.drop_zero]
  have hb := decodeN_bd (s.data.toList.drop p).length _ (bt (s.data.toList.drop p) 1) (bt (s.data.toList.drop p) 2) (bt (s.data.toList.drop p) 3) (bt_lt (s.data.toList.drop p) 0)
  rw [← dcd_eq] at hb
  refine ⟨(Lib.decodeL (s.data.toList.drop p)).1, (Lib.decodeL (s.data.toList.drop p)).2, e, by omega, hb.2.1, hb.2.2, ?_⟩
  have hne : s.data.toList.drop p ≠ [] := by
    rw [ne_eq, List.drop_eq_nil_iff]; simp; omega
  unfold dec
  by_cases c : (Lib.decodeL (s.data.toList.drop p)).1 = 65533 ∧ (Lib.decodeL (s.data.toList.drop p)).2 < 2
  · rw [if_pos (Or.inr c), if_pos c]
  · rw [if_neg (by rintro (h | h); exact hne h; exact c h), if_neg c]

theorem decode_no (s : ByteArray) (p : Int) (w : World) (h : p < 0 ∨ (s.size : Int) ≤ p) :
    Calls Tryd.prog 65 #[.string s, .int .i64 p] w fun e w' => e = .returned (.tuple #[.int .i64 0, .int .i64 0, .bool false]) ∧ w = w' := by
  by_cases h1 : p < 0
  · clear h
    go_enter Tryd.func65, Tryd.ntmps65
    go_wp2
    go_ret3
    exact ⟨rfl, rfl⟩
  · have h2 : (s.size : Int) ≤ p := by omega
    clear h
    go_enter Tryd.func65, Tryd.ntmps65
    go_wp2
    go_ret3
    exact ⟨rfl, rfl⟩

def decR (l : List UInt8) : Value := .tuple #[.int .i64 ((dec l).1 : Int), .int .i64 ((dec l).2 : Int), .bool (decide (0 < (dec l).2))]

theorem decode_at (s : ByteArray) (p : Nat) (w : World) (h : p < s.size) (hT : Tabs w) :
    Calls Tryd.prog 65 #[.string s, .int .i64 p] w fun e w' => e = .returned (decR (s.data.toList.drop p)) ∧ Below w.heap.size w w' := by
  obtain ⟨a, b, hg, ha, hb1, hb4, hd⟩ := dgo s p h
  have HD := Tryd.utf8_DecodeRuneInString (s.extract p s.size) w hT
  rw [hg] at HD
  have HD := Lib.hid HD
  clear hg
  by_cases c : a = 65533 ∧ b < 2
  · rw [if_pos c] at hd
    have hr : Hid (decR (s.data.toList.drop p) = .tuple #[.int .i64 0, .int .i64 0, .bool false]) := Lib.hid (by unfold decR; rw [hd]; rfl)
    obtain ⟨c1, c2⟩ := c
    have q1 : ((a : Int) == 65533) = true := by rw [c1]; rfl
    clear hd c1
    go_enter Tryd.func65, Tryd.ntmps65
    go_wp2_with (go_at_call 76; refine HD.out.mono ?_; rintro e w' ⟨rfl, hb⟩)
    go_ret3
    exact ⟨by rw [hr.out]; rfl, by assumption⟩
  · rw [if_neg c] at hd
    have hr : Hid (decR (s.data.toList.drop p) = .tuple #[.int .i64 a, .int .i64 b, .bool true]) := Lib.hid (by
      unfold decR; rw [hd]; dsimp only; rw [decide_eq_true (by omega)])
    by_cases c1 : a = 65533
    · have q1 : ((a : Int) == 65533) = true := by rw [c1]; rfl
      have q2 : ¬ b < 2 := by omega
      clear hd c c1
      go_enter Tryd.func65, Tryd.ntmps65
      go_wp2_with (go_at_call 76; refine HD.out.mono ?_; rintro e w' ⟨rfl, hb⟩)
      go_ret3
      exact ⟨by rw [hr.out]; rfl, by assumption⟩
    · have q1 : ((a : Int) == 65533) = false := by rw [beq_eq_false_iff_ne]; omega
      clear hd c c1
      go_enter Tryd.func65, Tryd.ntmps65
      go_wp2_with (go_at_call 76; refine HD.out.mono ?_; rintro e w' ⟨rfl, hb⟩)
      go_ret3
      exact ⟨by rw [hr.out]; rfl, by assumption⟩

end Go.Proofs.YtdbidkfjbhclcaaDoor.runesE
namespace Go.Proofs.YtdbidkfjbhclcaaDoor.pointsA
open Go.ChangeShapes Go.WideShapes Go.ChangeAt Go.RowKit utfP utfQ utfR runesA runesD runesE

theorem infoI : (Tryd.prog.info? 3).map (fun i => (i.zero, i.size, i.bytes)) = some (some (.int .i64 0), 1, 8) := by kernel_rfl

def iv (n : Nat) : Value := .int .i64 (n : Int)
/-- a slice of the call's own that holds numbers -/
def OwnI (w : World) (B : Nat) (v : Value) (l : List Nat) : Prop := w.ownsRow B 3 1 v l.length (l.map iv)

theorem ownI_lt {w : World} {B : Nat} {v : Value} {l : List Nat} (h : OwnI w B v l) : ∀ k, v.ownBlock = some k → B ≤ k := fun k hk => (World.ownsRow.lt h k hk).1
theorem ownI_snoc {w : World} {B : Nat} {v : Value} {l : List Nat} {n : Nat} (h : w.ownsRow B 3 1 v (l.length + 1) ((l.map iv) ++ [iv n])) : OwnI w B v (l ++ [n]) := by
  unfold OwnI; rw [List.length_append, List.map_append]; exact h
theorem ownI_kept {w w' : World} {B : Nat} {v : Value} {l : List Nat} (h : OwnI w B v l) (hb : Below w.heap.size w w') : OwnI w' B v l := by
  refine World.ownsRow.kept h (row := none) ?_ (Classical.em _)
  exact ⟨hb.os, hb.tape, hb.output, hb.size, fun k hk _ => hb.block k hk⟩

theorem pts_go {l : List UInt8} {k : Nat} {done : List Nat} (h : k < l.length) (z : (dec (l.drop k)).2 ≠ 0) (hp : pts l = (pts (l.drop k)).map (done ++ ·)) :
    pts l = (pts (l.drop (k + (dec (l.drop k)).2))).map ((done ++ [(dec (l.drop k)).1]) ++ ·) := by
  have hne : l.drop k ≠ [] := by rw [ne_eq, List.drop_eq_nil_iff]; omega
  rw [hp, pts_yes hne z, List.drop_drop]
  cases pts (l.drop (k + (dec (l.drop k)).2)) <;> simp
theorem pts_stop {l : List UInt8} {k : Nat} {done : List Nat} (h : k < l.length) (z : (dec (l.drop k)).2 = 0) (hp : pts l = (pts (l.drop k)).map (done ++ ·)) : pts l = none := by
  have hne : l.drop k ≠ [] := by rw [ne_eq, List.drop_eq_nil_iff]; omega
  rw [hp, pts_no hne z]; rfl
theorem pts_end {l : List UInt8} {k : Nat} {done : List Nat} (h : ¬ k < l.length) (hp : pts l = (pts (l.drop k)).map (done ++ ·)) : pts l = some done := by
  rw [hp, List.drop_eq_nil_of_le (by omega), pts_nil]; simp
theorem dec_bd {l : List UInt8} : (dec l).1 ≤ 1114111 ∧ (dec l).2 ≤ 4 := by
  by_cases h : 0 < (dec l).2
  · obtain ⟨k, h1, h4, ho, e⟩ := dec_sound h
    have := ho.2.1.2.1
    rw [e]; exact ⟨by dsimp only; omega, h4⟩
  · unfold dec at *
    split
    · exact ⟨Nat.zero_le _, Nat.zero_le _⟩
    · rename_i c; rw [if_neg c] at h; have := decodeL_pos l; omega

/-- what Points hands back -/
def PtsPost (w : World) (l : List UInt8) (e : Ending) (w' : World) : Prop :=
  Below w.heap.size w w' ∧ ((pts l = none ∧ e = .returned (.tuple #[.slice none 0 0, .bool false])) ∨ ∃ (d : List Nat) (v : Value), pts l = some d ∧ OwnI w' w.heap.size v d ∧ d.length ≤ l.length ∧ e = .returned (.tuple #[v, .bool true]))

end Go.Proofs.YtdbidkfjbhclcaaDoor.pointsA
namespace Go.Proofs.YtdbidkfjbhclcaaDoor.pointsB
open Go.ChangeShapes Go.WideShapes Go.ChangeAt Go.RowKit utfP utfQ utfR runesA runesD runesE pointsA

theorem valid_any (s : ByteArray) (w : World) (hs : s.size ≤ maxLen) (hT : Tabs w) :
    Calls Tryd.prog 44 #[.string s] w fun e w' => e = .returned (.bool (pts s.data.toList).isSome) ∧ Below w.heap.size w w' := by
  unfold maxLen at hs
  have h1 := Tryd.utf8_ValidString s w (by omega) hT
  rw [valid_eq] at h1
  have H1 := Lib.hid h1
  clear h1 hT
  go_enter Tryd.func44, Tryd.ntmps44
  go_wp2_with (go_at_call 55; refine H1.out.mono ?_; rintro e w' ⟨rfl, hb⟩)
  go_ret
  exact ⟨rfl, by assumption⟩
theorem valid_is (s : ByteArray) (b : Bool) (hb : (pts s.data.toList).isSome = b) (w : World) (hs : s.size ≤ maxLen) (hT : Tabs w) :
    Calls Tryd.prog 44 #[.string s] w fun e w' => e = .returned (.bool b) ∧ Below w.heap.size w w' := by
  subst hb; exact valid_any s w hs hT

theorem own_iterAt {w : World} {B : Nat} {v : Value} {l : List Nat} (h : OwnI w B v l) {k p p' : Nat} {s : ByteArray} (hk : w.heap[k]? = some (.stringIter s p)) : OwnI (w.iterAt k s p') B v l := by
  refine ⟨h.1, ?_⟩
  rcases h.2 with hn | ⟨g, cap, cur, rfl, hb, hgg, rest⟩
  · exact .inl hn
  · refine .inr ⟨g, cap, cur, rfl, hb, ?_, rest⟩
    rw [Lib.iterAt_other w k g s p' (by rintro rfl; rw [hk] at hgg; cases hgg)]; exact hgg

theorem own_ne {w : World} {B : Nat} {v : Value} {l : List Nat} (h : OwnI w B v l) {k p : Nat} {s : ByteArray} (hk : w.heap[k]? = some (.stringIter s p)) : some k ≠ v.ownBlock := by
  intro e
  rcases h.2 with ⟨rfl, _⟩ | ⟨g, cap, cur, rfl, hb, hgg, rest⟩
  · cases e
  · have : k = g := by simpa [Value.ownBlock] using e
    subst this; rw [hk] at hgg; cases hgg
theorem iter_grown {w w' : World} {v : Value} {k p : Nat} {s : ByteArray} {o : Obj} (hk : w.heap[k]? = some (.stringIter s p)) (hne : some k ≠ v.ownBlock) (hg : (w.alloc o).grownBy w' v.ownBlock) : w'.heap[k]? = some (.stringIter s p) := by
  have hlt : k < w.heap.size := (Array.getElem?_eq_some_iff.1 hk).1
  rw [hg.block k (by simp; omega) hne, Below.heap_alloc w o k hlt]; exact hk

theorem pts_pos {l : List UInt8} {k : Nat} {d full : List Nat} (h : k < l.length) (hf : pts l = some full) (hp : pts l = (pts (l.drop k)).map (d ++ ·)) : (dec (l.drop k)).2 ≠ 0 := by
  intro z
  rw [pts_stop h z hp] at hf; cases hf
theorem decode_dec {s : ByteArray} {k : Nat} (z : (dec (s.data.toList.drop k)).2 ≠ 0) : Utf8.decode s k = dec (s.data.toList.drop k) := by
  rw [← Lib.decodeL_drop, dec_decodeL z]

end Go.Proofs.YtdbidkfjbhclcaaDoor.pointsB
