/-
  The law QuoteEscapes returns true.
-/
import Derived.Test.YtfoammkidjbilaaDoorQuoteG
import Derived.Test.YtfoammkidjbilaaDoorRunesD
import Derived.Deep.LoopGhost
namespace Go.Proofs.YtfoammkidjbilaaDoor.quoteH
open Go.ChangeShapes Go.WideShapes Go.ChangeAt Go.RowKit utfP utfQ utfR runesA runesC runesD runesE quoteP quoteA quoteB quoteC quoteG errIs errs

/-! ### plain -/
def dgs (cap : Bool) : List UInt8 := if cap then [48, 49, 50, 51, 52, 53, 54, 55, 56, 57, 65, 66, 67, 68, 69, 70] else [48, 49, 50, 51, 52, 53, 54, 55, 56, 57, 97, 98, 99, 100, 101, 102]
def dgt (cap : Bool) (n : Nat) : UInt8 := (dgs cap).getD n 0
theorem dg_dgt0 : ∀ (cap : Bool) (n : Fin 16), dg ((dgt cap n.1).toNat : Int) = (n.1 : Int) := by decide +kernel
theorem dg_dgt (cap : Bool) (n : Nat) (h : n < 16) : dg ((dgt cap n).toNat : Int) = (n : Int) := dg_dgt0 cap ⟨n, h⟩
/-- the four digits' values of a unit -/
def dl (u : Nat) : List Nat := [u / 4096, u / 256 % 16, u / 16 % 16, u % 16]
def ux (cap : Bool) (u : Nat) : List UInt8 := [92, 117] ++ (dl u).map (dgt cap)
def txt (cap : Bool) (us : List Nat) : List UInt8 := us.flatMap (ux cap)

theorem dl_bd (u j : Nat) (hu : u < 65536) : (dl u).getD j 0 < 16 := by
  unfold dl
  rcases (show j = 0 ∨ j = 1 ∨ j = 2 ∨ j = 3 ∨ 4 ≤ j by omega) with rfl | rfl | rfl | rfl | h
  · show u / 4096 < 16; omega
  · show u / 256 % 16 < 16; omega
  · show u / 16 % 16 < 16; omega
  · show u % 16 < 16; omega
  · rw [List.getD_eq_getElem?_getD, List.getElem?_eq_none (by simpa using h)]; simp
theorem ux_len (cap : Bool) (u : Nat) : (ux cap u).length = 6 := rfl
theorem hx4 (l : List UInt8) (p : Nat) (x1 x2 x3 x4 : Int) (h1 : dg ((l.getD (p + 0) 0).toNat : Int) = x1) (h2 : dg ((l.getD (p + 1) 0).toNat : Int) = x2) (h3 : dg ((l.getD (p + 2) 0).toNat : Int) = x3) (h4 : dg ((l.getD (p + 3) 0).toNat : Int) = x4)
    (g1 : 0 ≤ x1) (g2 : 0 ≤ x2) (g3 : 0 ≤ x3) (g4 : 0 ≤ x4) : hx l p 4 = ((x1 * 16 + x2) * 16 + x3) * 16 + x4 := by
  have a1 : hx l p 1 = x1 := by rw [hx, h1, if_neg (by simp [hx]; omega)]; simp [hx]
  have a2 : hx l p 2 = x1 * 16 + x2 := by rw [hx, h2, a1, if_neg (by omega)]
  have a3 : hx l p 3 = (x1 * 16 + x2) * 16 + x3 := by rw [hx, h3, a2, if_neg (by omega)]
  rw [hx, h4, a3, if_neg (by omega)]
theorem hx_ux (cap : Bool) (u : Nat) (hu : u < 65536) (l : List UInt8) (p : Nat) (h : ∀ j, j < 4 → l.getD (p + j) 0 = dgt cap ((dl u).getD j 0)) : hx l p 4 = (u : Int) := by
  have e := hx4 l p ((u / 4096 : Nat) : Int) ((u / 256 % 16 : Nat) : Int) ((u / 16 % 16 : Nat) : Int) ((u % 16 : Nat) : Int)
    (by rw [h 0 (by omega)]; exact dg_dgt cap _ (dl_bd u 0 hu)) (by rw [h 1 (by omega)]; exact dg_dgt cap _ (dl_bd u 1 hu)) (by rw [h 2 (by omega)]; exact dg_dgt cap _ (dl_bd u 2 hu)) (by rw [h 3 (by omega)]; exact dg_dgt cap _ (dl_bd u 3 hu))
    (by omega) (by omega) (by omega) (by omega)
  rw [e]; omega
theorem ux_at (cap : Bool) (u j : Nat) (t : List UInt8) (h : j < 4) : (ux cap u ++ t).getD (2 + j) 0 = dgt cap ((dl u).getD j 0) := by
  rcases (show j = 0 ∨ j = 1 ∨ j = 2 ∨ j = 3 by omega) with rfl | rfl | rfl | rfl <;> rfl
theorem ux_at2 (cap : Bool) (v u j : Nat) (h : j < 4) : (ux cap v ++ ux cap u).getD (8 + j) 0 = dgt cap ((dl u).getD j 0) := by
  rcases (show j = 0 ∨ j = 1 ∨ j = 2 ∨ j = 3 by omega) with rfl | rfl | rfl | rfl <;> rfl

theorem pc_one (cap : Bool) (r : Nat) (hp : Pt (r : Int)) (h : r < 65536) : pc (ux cap r) = some ((r : Int), 6) := by
  have e := hx_ux cap r h (ux cap r) 2 (fun j hj => by have := ux_at cap r j [] hj; rw [List.append_nil] at this; exact this)
  unfold pc
  rw [if_neg (by show ¬ (92 ≠ 92); simp), if_neg (by rw [ux_len]; omega), if_pos (show bt (ux cap r) 1 = 117 from rfl)]
  unfold hexd
  rw [e, if_neg (by rw [ux_len]; omega), if_pos hp]
theorem pc_two (cap : Bool) (r a b : Nat) (ha : (a : Int) = 55296 + ((r : Int) - 65536) / 1024) (hb : (b : Int) = 56320 + ((r : Int) - 65536) % 1024) (h : 65536 ≤ r) (h2 : (r : Int) ≤ 1114111) : pc (ux cap a ++ ux cap b) = some ((r : Int), 12) := by
  have e := hx_ux cap a (by omega) (ux cap a ++ ux cap b) 2 (fun j hj => ux_at cap a j _ hj)
  have e8 := hx_ux cap b (by omega) (ux cap a ++ ux cap b) 8 (fun j hj => ux_at2 cap a b j hj)
  have hl : (ux cap a ++ ux cap b).length = 12 := rfl
  unfold pc
  rw [if_neg (by show ¬ (92 ≠ 92); simp), if_neg (by rw [hl]; omega), if_pos (show bt (ux cap a ++ ux cap b) 1 = 117 from rfl)]
  unfold hexd
  have n1 : ¬ Pt ((a : Nat) : Int) := by unfold Pt; omega
  have b6 : bt (ux cap a ++ ux cap b) 6 = 92 := rfl
  have b7 : bt (ux cap a ++ ux cap b) 7 = 117 := rfl
  rw [e, e8, hl, b6, b7, if_neg (by omega), if_neg n1, if_neg (by omega), if_pos (by omega)]
  congr 2
  omega
theorem prs_pc {l : List UInt8} {r : Int} (h : pc l = some (r, l.length)) (h0 : bt l 0 ≠ 34) : prs (34 :: (l ++ [34])) = some (eb r) := by
  have hp := pc_ok h
  have hl := pc_local h [34]
  rw [List.take_length] at hl
  have hb : bt (l ++ [34]) 0 = bt l 0 := by unfold bt; rw [List.getD_eq_getElem?_getD, List.getD_eq_getElem?_getD, List.getElem?_append_left (by omega)]
  apply prs_mk
  rw [tk_yes (by rw [hb]; exact h0) hl, List.drop_left, tk_end (by simp) rfl]
  simp
/-- the units of a code point -/
def units (r : Nat) : List Nat := if 65535 < r then [55296 + (r - 65536) / 1024, 56320 + (r - 65536) % 1024] else [r]
theorem escapes (cap : Bool) (r : Nat) (hp : Pt (r : Int)) : prs (34 :: (txt cap (units r) ++ [34])) = some (eb (r : Int)) := by
  unfold units
  by_cases h : 65535 < r
  · rw [if_pos h]
    have hp2 := hp.2.1
    have e : txt cap [55296 + (r - 65536) / 1024, 56320 + (r - 65536) % 1024] = ux cap (55296 + (r - 65536) / 1024) ++ ux cap (56320 + (r - 65536) % 1024) := by simp [txt]
    rw [e]
    exact prs_pc (pc_two cap r _ _ (by omega) (by omega) (by omega) hp2) (by show 92 ≠ 34; omega)
  · rw [if_neg h]
    have e : txt cap [r] = ux cap r := by simp [txt]
    rw [e]
    exact prs_pc (pc_one cap r hp (by omega)) (by show 92 ≠ 34; omega)
theorem units_bd (r : Nat) (hp : Pt (r : Int)) : ∀ u ∈ units r, u < 65536 := by
  have h2 := hp.2.1
  unfold units
  intro u hu
  split at hu
  · simp only [List.mem_cons, List.mem_nil_iff, or_false] at hu
    omega
  · simp only [List.mem_cons, List.mem_nil_iff, or_false] at hu
    omega
theorem units_len (r : Nat) : 1 ≤ (units r).length ∧ (units r).length ≤ 2 := by unfold units; split <;> simp

/-! ### the walk -/
def digS (cap : Bool) : ByteArray := ⟨(dgs cap).toArray⟩
theorem digS_size (cap : Bool) : (digS cap).size = 16 := by cases cap <;> rfl
theorem digS_cut (cap : Bool) (n : Nat) (h : n < 16) : ((digS cap).extract n (n + 1)).data.toList = [dgt cap n] := by
  have e : (digS cap).data.toList = dgs cap := by unfold digS; simp
  have hl : (dgs cap).length = 16 := by cases cap <;> rfl
  rw [ext_take, e, List.drop_eq_getElem_cons (by omega)]
  unfold dgt
  rw [List.getD_eq_getElem?_getD, List.getElem?_eq_getElem (by omega), List.take_succ_cons, List.take_zero]
  rfl
theorem mkA (d y : List UInt8) (Y : ByteArray) (h : Y.data.toList = y) : (⟨d.toArray⟩ : ByteArray) ++ Y = ⟨(d ++ y).toArray⟩ := by
  subst h
  have : ((⟨d.toArray⟩ : ByteArray) ++ Y).data = (d ++ Y.data.toList).toArray := by simp [ByteArray.data_append]
  cases h : (⟨d.toArray⟩ : ByteArray) ++ Y with
  | mk d' => rw [h] at this; simp only at this; rw [this]

def iv (n : Nat) : Value := .int .i64 (n : Int)
/-- what the text is when k units and j digits more are done -/
def pre (cap : Bool) (us : List Nat) (k : Nat) : List UInt8 := 34 :: txt cap (us.take k)
def mid (cap : Bool) (us : List Nat) (k u j : Nat) : List UInt8 := pre cap us k ++ [92, 117] ++ ((dl u).take j).map (dgt cap)
theorem pre_len (cap : Bool) (us : List Nat) (k : Nat) : (pre cap us k).length ≤ 6 * us.length + 1 := by
  unfold pre txt
  have h : ∀ l : List Nat, (l.flatMap (ux cap)).length = 6 * l.length := by
    intro l
    induction l with
    | nil => rfl
    | cons a l ih => rw [List.flatMap_cons, List.length_append, ih, ux_len, List.length_cons]; omega
  rw [List.length_cons, h]
  have := List.length_take_le' k us
  omega
theorem mid_len (cap : Bool) (us : List Nat) (k u j : Nat) : (mid cap us k u j).length ≤ 6 * us.length + 7 := by
  have := pre_len cap us k
  have h2 := List.length_take_le' j (dl u)
  have h3 : (dl u).length = 4 := rfl
  unfold mid
  rw [List.length_append, List.length_append, List.length_map]
  simp only [List.length_cons, List.length_nil]
  omega
theorem mid_go (cap : Bool) (us : List Nat) (k u j : Nat) (h : j < 4) : mid cap us k u (j + 1) = mid cap us k u j ++ [dgt cap ((dl u).getD j 0)] := by
  have h3 : (dl u).length = 4 := rfl
  unfold mid
  rw [List.take_succ_eq_append_getElem (by omega), List.map_append, List.append_assoc, List.append_assoc, List.append_assoc]
  rw [List.getD_eq_getElem?_getD, List.getElem?_eq_getElem (by omega)]
  simp
theorem mid_end (cap : Bool) (us : List Nat) (k u : Nat) (h : k < us.length) (hu : us.getD k 0 = u) : mid cap us k u 4 = pre cap us (k + 1) := by
  unfold mid pre txt
  rw [List.take_succ_eq_append_getElem h, List.flatMap_append]
  rw [List.getD_eq_getElem?_getD, List.getElem?_eq_getElem h, Option.getD_some] at hu
  rw [hu]
  simp [ux, dl]

theorem eb_arr (r : Int) : (⟨(eb r).toArray⟩ : ByteArray) = enc r := by
  rw [eb_def]
  unfold enc
  generalize Utf8.encode r = x
  cases x
  simp
theorem cells_one (w : World) (u : Nat) : ∀ k, k < 1 → (w.alloc (.cells #[.int .i64 (u : Int)] 3)).cell? ⟨w.heap.size, k, none⟩ = some (iv ([u].getD k 0)) := by
  intro k hk
  obtain rfl : k = 0 := by omega
  rw [World.cell?_alloc_mark]; rfl
theorem cells_two (w : World) (x y : Int) (a b : Nat) (hx : x = (a : Int)) (hy : y = (b : Int)) : ∀ k, k < 2 → (w.alloc (.cells #[.int .i64 x, .int .i64 y] 3)).cell? ⟨w.heap.size, k, none⟩ = some (iv ([a, b].getD k 0)) := by
  subst hx hy
  intro k hk
  rw [World.cell?_alloc_mark]
  rcases (show k = 0 ∨ k = 1 by omega) with rfl | rfl <;> rfl
theorem cells_four (w : World) (u : Nat) : ∀ k, k < 4 → (w.alloc (.cells #[.int .i64 ((u : Int) / 4096), .int .i64 ((u : Int) / 256 % 16), .int .i64 ((u : Int) / 16 % 16), .int .i64 ((u : Int) % 16)] 3)).cell? ⟨w.heap.size, k, none⟩ = some (iv ((dl u).getD k 0)) := by
  intro k hk
  rw [World.cell?_alloc_mark]
  rcases (show k = 0 ∨ k = 1 ∨ k = 2 ∨ k = 3 by omega) with rfl | rfl | rfl | rfl
  · show some (Value.int .i64 ((u : Int) / 4096)) = some (Value.int .i64 ((u / 4096 : Nat) : Int)); rw [show ((u : Int) / 4096) = ((u / 4096 : Nat) : Int) by omega]
  · show some (Value.int .i64 ((u : Int) / 256 % 16)) = some (Value.int .i64 ((u / 256 % 16 : Nat) : Int)); rw [show ((u : Int) / 256 % 16) = ((u / 256 % 16 : Nat) : Int) by omega]
  · show some (Value.int .i64 ((u : Int) / 16 % 16)) = some (Value.int .i64 ((u / 16 % 16 : Nat) : Int)); rw [show ((u : Int) / 16 % 16) = ((u / 16 % 16 : Nat) : Int) by omega]
  · show some (Value.int .i64 ((u : Int) % 16)) = some (Value.int .i64 ((u % 16 : Nat) : Int)); rw [show ((u : Int) % 16) = ((u % 16 : Nat) : Int) by omega]


/-! ### the four walks -/
set_option maxRecDepth 100000 in
set_option maxHeartbeats 1000000 in
theorem esc_twoCap (r : Nat) (w : World) (ad : Nat → Addr) (hT : Tabs w) (hE : Syn w ad) (hC : Ctl w) (hp : Pt (r : Int)) (h65 : 65535 < (r : Int)) :
    Calls Tryd.prog 3 #[.int .i64 (r : Int), .bool true] w fun e w' => e = .returned (.bool true) ∧ Below w.heap.size w w' := by
  have HA := Lib.hid (alive w ad hT hE hC)
  have HT := Lib.hid hT
  have HE := Lib.hid hE
  have HES := Lib.hid (escapes true r hp)
  have HUB := Lib.hid (units_bd r hp)
  have hun : (units r).length = 2 := by unfold units; rw [if_pos (by omega)]; rfl
  have HUN := Lib.hid hun
  have hr0 : (0 : Int) ≤ r := hp.1
  have hr1 : (r : Int) ≤ 1114111 := hp.2.1
  have hqN := neqlN
  clear hT hE hC hun
  go_enter Tryd.func3, Tryd.ntmps3
  go_wp2_with fail
  refine HA.out.mono ?_
  rintro e w0 ⟨rfl, hb0⟩
  have HB0 := Lib.hid hb0
  have hz0 := hb0.size
  clear hb0
  go_wp2_with fail
  refine (point_yes _ _ hp).mono ?_
  rintro e w' ⟨rfl, rfl⟩
  go_wp2
  have hcl : ∀ k, k < 2 → ((w0.alloc (.cells #[.int .i64 (r : Int)] 3)).alloc (.cells #[.int .i64 (55296 + ((r : Int) - 65536) / 1024), .int .i64 (56320 + ((r : Int) - 65536) % 1024)] 3)).cell? ⟨w0.heap.size + 1, k, none⟩ = some (iv ((units r).getD k 0)) := by
    have hu : units r = [55296 + (r - 65536) / 1024, 56320 + (r - 65536) % 1024] := by unfold units; rw [if_pos (by omega)]
    rw [hu]
    have := cells_two (w0.alloc (.cells #[.int .i64 (r : Int)] 3)) (55296 + ((r : Int) - 65536) / 1024) (56320 + ((r : Int) - 65536) % 1024) (55296 + (r - 65536) / 1024) (56320 + (r - 65536) % 1024) (by omega) (by omega)
    simpa using this
  have HCL := Lib.hid hcl
  have HB1 := Lib.hid ((HB0.out.alloc hz0 _).alloc (by simp; omega) _ : Below w.heap.size w ((w0.alloc (.cells #[.int .i64 (r : Int)] 3)).alloc (.cells #[.int .i64 (55296 + ((r : Int) - 65536) / 1024), .int .i64 (56320 + ((r : Int) - 65536) % 1024)] 3)))
  clear hcl
  change Code.wp _ _ _ _ ((w0.alloc (.cells #[.int .i64 (r : Int)] 3)).alloc (.cells #[.int .i64 (55296 + ((r : Int) - 65536) / 1024), .int .i64 (56320 + ((r : Int) - 65536) % 1024)] 3))
  generalize (w0.alloc (.cells #[.int .i64 (r : Int)] 3)).alloc (.cells #[.int .i64 (55296 + ((r : Int) - 65536) / 1024), .int .i64 (56320 + ((r : Int) - 65536) % 1024)] 3) = W1 at *
  have hz1 := HB1.out.size
  have hDD : ({ data := #[48, 49, 50, 51, 52, 53, 54, 55, 56, 57, 65, 66, 67, 68, 69, 70] } : ByteArray) = digS true := rfl
  have hDs := digS_size true
  have HDs := Lib.hid hDs
  rw [hDD]
  clear hDD hDs
  go_loopw [7, 35] (fun sv i wr => ∃ k : Nat, k ≤ 2 ∧ i = .int .i64 k ∧ sv = .string ⟨(pre true (units r) k).toArray⟩ ∧ Below W1.heap.size W1 wr) (fun _ i _ => 2 - (intOf i).toNat)
  case atStart => exact ⟨0, Nat.zero_le _, rfl, rfl, Below.refl _ _⟩
  case round =>
    obtain ⟨k, hk, rfl, rfl, hb⟩ := hrel
    have HB := Lib.hid hb
    have hsz := hb.size
    clear hb
    have hX : (⟨(pre true (units r) k).toArray⟩ : ByteArray).size ≤ 13 := by
      show (pre true (units r) k).toArray.size ≤ 13
      have := pre_len true (units r) k; rw [HUN.out] at this; simp; omega
    by_cases hlt : k < 2
    · have hc0 := HCL.out k hlt
      have hcw : wr.cell? ⟨w0.heap.size + 1, k, none⟩ = some (iv ((units r).getD k 0)) := by
        rw [HB.out.cell (World.block_lt_of_cell? W1 _ hc0)]; exact hc0
      have hub : (units r).getD k 0 < 65536 := by
        rw [List.getD_eq_getElem?_getD, List.getElem?_eq_getElem (by rw [HUN.out]; exact hlt)]
        exact HUB.out _ (List.getElem_mem _)
      have hend : Hid (mid true (units r) k ((units r).getD k 0) 4 = pre true (units r) (k + 1)) := Lib.hid (mid_end true (units r) k _ (by rw [HUN.out]; exact hlt) rfl)
      unfold iv at hcw
      generalize (units r).getD k 0 = u at *
      have hu0 : (u : Int) ≤ 65535 := by omega
      have HS : Hid ((⟨(pre true (units r) k).toArray⟩ : ByteArray) ++ { data := #[92, 117] } = ⟨(mid true (units r) k u 0).toArray⟩) := Lib.hid (by
        rw [mkA _ [92, 117] _ (by rfl)]; unfold mid; simp)
      have hml := fun j => mid_len true (units r) k u j
      simp only [HUN.out] at hml
      have HML := Lib.hid hml
      clear hc0 hub hml
      generalize hXX : (⟨(pre true (units r) k).toArray⟩ : ByteArray) = X at *
      clear hXX
      obtain ⟨wo, rfl⟩ : ∃ wo : World, wo = wr := ⟨_, rfl⟩
      go_wp2
      have HC4 := Lib.hid (cells_four wo u)
      have HB2 := Lib.hid (HB.out.alloc hsz (.cells #[.int .i64 ((u : Int) / 4096), .int .i64 ((u : Int) / 256 % 16), .int .i64 ((u : Int) / 16 % 16), .int .i64 ((u : Int) % 16)] 3))
      rw [HS.out]
      change Code.wp _ _ _ _ (wo.alloc (.cells #[.int .i64 ((u : Int) / 4096), .int .i64 ((u : Int) / 256 % 16), .int .i64 ((u : Int) / 16 % 16), .int .i64 ((u : Int) % 16)] 3))
      generalize wo.alloc (.cells #[.int .i64 ((u : Int) / 4096), .int .i64 ((u : Int) / 256 % 16), .int .i64 ((u : Int) / 16 % 16), .int .i64 ((u : Int) % 16)] 3) = W2 at *
      clear hcw HS hX
      go_loop [7, 53] (fun sv i => ∃ j : Nat, j ≤ 4 ∧ i = .int .i64 j ∧ sv = .string ⟨(mid true (units r) k u j).toArray⟩) (fun _ i => 4 - (intOf i).toNat)
      case atStart => exact ⟨0, Nat.zero_le _, rfl, rfl⟩
      case round =>
        obtain ⟨j, hj, rfl, rfl⟩ := hrel
        by_cases hjl : j < 4
        · have hcj := HC4.out j hjl
          have hnb := dl_bd u j (by omega)
          have hgo := mid_go true (units r) k u j hjl
          unfold iv at hcj
          generalize (dl u).getD j 0 = dd at *
          have HS2 : Hid ((⟨(mid true (units r) k u j).toArray⟩ : ByteArray) ++ (digS true).extract dd (dd + 1) = ⟨(mid true (units r) k u (j + 1)).toArray⟩) := Lib.hid (by
            rw [mkA _ _ _ (digS_cut true dd hnb), hgo])
          have hY : (⟨(mid true (units r) k u j).toArray⟩ : ByteArray).size ≤ 19 := by
            show (mid true (units r) k u j).toArray.size ≤ 19
            have := HML.out j; simp; omega
          have hes : ((digS true).extract dd (dd + 1)).size ≤ 1 := by rw [ByteArray.size_extract]; omega
          have hd1 : (dd : Int) + 1 ≤ (digS true).size := by rw [HDs.out]; omega
          have hd2 : dd + 1 ≤ (digS true).size := by rw [HDs.out]; omega
          generalize (⟨(mid true (units r) k u j).toArray⟩ : ByteArray) = Y at *
          generalize digS true = DD at *
          clear hgo
          go_wp2
          go_round
          case rel => exact ⟨j + 1, by omega, by go_num, by rw [← HS2.out]⟩
          case measure => simp [intOf]; omega
        · obtain rfl : j = 4 := by omega
          rw [hend.out]
          go_wp2
          go_roundw
          case rel => exact ⟨k + 1, by omega, by go_num, rfl, HB2.out⟩
          case measure => simp [intOf]; omega
    · obtain rfl : k = 2 := by omega
      have hfin : (⟨(pre true (units r) 2).toArray⟩ : ByteArray) ++ { data := #[34] } = ⟨(34 :: (txt true (units r) ++ [34])).toArray⟩ := by
        rw [mkA _ [34] _ (by rfl)]
        unfold pre
        rw [List.take_of_length_le (by rw [HUN.out]; omega)]
        rfl
      have hps : (⟨(34 :: (txt true (units r) ++ [34])).toArray⟩ : ByteArray).size ≤ 1000 := by
        rw [← hfin, ByteArray.size_append]; show _ + 1 ≤ 1000; omega
      have HP := fun w hT hE => parse_any ⟨(34 :: (txt true (units r) ++ [34])).toArray⟩ w ad (by omega) hT hE
      rw [show (⟨(34 :: (txt true (units r) ++ [34])).toArray⟩ : ByteArray).data.toList = 34 :: (txt true (units r) ++ [34]) from by simp, HES.out, ← hfin] at HP
      simp only [prV] at HP
      have heb := eb_arr (r : Int)
      rw [heb] at HP
      have HP := Lib.hid HP
      have HBw := Lib.hid (HB1.out.trans (HB.out.mono hz1))
      have hzw := HBw.out.size
      clear hfin hps heb
      generalize (⟨(pre true (units r) 2).toArray⟩ : ByteArray) = X at *
      go_wp2_with fail
      refine (HP.out _ (tabs_below HT.out HBw.out) (syn_below HE.out HBw.out)).mono ?_
      rintro e w3 ⟨rfl, hb3⟩
      have HB3 := Lib.hid (HBw.out.trans (hb3.mono hzw))
      have hz3 := HB3.out.size
      clear hb3
      go_wp2_with fail
      refine (encR_yes _ _ hp).mono ?_
      rintro e w4 ⟨rfl, hb4⟩
      have HB4 := Lib.hid (HB3.out.trans (hb4.mono hz3))
      clear hb4
      go_wp2
      go_ret
      exact ⟨ret_bool (by simp), HB4.out⟩

set_option maxRecDepth 100000 in
set_option maxHeartbeats 1000000 in
theorem esc_twoLow (r : Nat) (w : World) (ad : Nat → Addr) (hT : Tabs w) (hE : Syn w ad) (hC : Ctl w) (hp : Pt (r : Int)) (h65 : 65535 < (r : Int)) :
    Calls Tryd.prog 3 #[.int .i64 (r : Int), .bool false] w fun e w' => e = .returned (.bool true) ∧ Below w.heap.size w w' := by
  have HA := Lib.hid (alive w ad hT hE hC)
  have HT := Lib.hid hT
  have HE := Lib.hid hE
  have HES := Lib.hid (escapes false r hp)
  have HUB := Lib.hid (units_bd r hp)
  have hun : (units r).length = 2 := by unfold units; rw [if_pos (by omega)]; rfl
  have HUN := Lib.hid hun
  have hr0 : (0 : Int) ≤ r := hp.1
  have hr1 : (r : Int) ≤ 1114111 := hp.2.1
  have hqN := neqlN
  clear hT hE hC hun
  go_enter Tryd.func3, Tryd.ntmps3
  go_wp2_with fail
  refine HA.out.mono ?_
  rintro e w0 ⟨rfl, hb0⟩
  have HB0 := Lib.hid hb0
  have hz0 := hb0.size
  clear hb0
  go_wp2_with fail
  refine (point_yes _ _ hp).mono ?_
  rintro e w' ⟨rfl, rfl⟩
  go_wp2
  have hcl : ∀ k, k < 2 → ((w0.alloc (.cells #[.int .i64 (r : Int)] 3)).alloc (.cells #[.int .i64 (55296 + ((r : Int) - 65536) / 1024), .int .i64 (56320 + ((r : Int) - 65536) % 1024)] 3)).cell? ⟨w0.heap.size + 1, k, none⟩ = some (iv ((units r).getD k 0)) := by
    have hu : units r = [55296 + (r - 65536) / 1024, 56320 + (r - 65536) % 1024] := by unfold units; rw [if_pos (by omega)]
    rw [hu]
    have := cells_two (w0.alloc (.cells #[.int .i64 (r : Int)] 3)) (55296 + ((r : Int) - 65536) / 1024) (56320 + ((r : Int) - 65536) % 1024) (55296 + (r - 65536) / 1024) (56320 + (r - 65536) % 1024) (by omega) (by omega)
    simpa using this
  have HCL := Lib.hid hcl
  have HB1 := Lib.hid ((HB0.out.alloc hz0 _).alloc (by simp; omega) _ : Below w.heap.size w ((w0.alloc (.cells #[.int .i64 (r : Int)] 3)).alloc (.cells #[.int .i64 (55296 + ((r : Int) - 65536) / 1024), .int .i64 (56320 + ((r : Int) - 65536) % 1024)] 3)))
  clear hcl
  change Code.wp _ _ _ _ ((w0.alloc (.cells #[.int .i64 (r : Int)] 3)).alloc (.cells #[.int .i64 (55296 + ((r : Int) - 65536) / 1024), .int .i64 (56320 + ((r : Int) - 65536) % 1024)] 3))
  generalize (w0.alloc (.cells #[.int .i64 (r : Int)] 3)).alloc (.cells #[.int .i64 (55296 + ((r : Int) - 65536) / 1024), .int .i64 (56320 + ((r : Int) - 65536) % 1024)] 3) = W1 at *
  have hz1 := HB1.out.size
  have hDD : ({ data := #[48, 49, 50, 51, 52, 53, 54, 55, 56, 57, 97, 98, 99, 100, 101, 102] } : ByteArray) = digS false := rfl
  have hDs := digS_size false
  have HDs := Lib.hid hDs
  rw [hDD]
  clear hDD hDs
  go_loopw [7, 35] (fun sv i wr => ∃ k : Nat, k ≤ 2 ∧ i = .int .i64 k ∧ sv = .string ⟨(pre false (units r) k).toArray⟩ ∧ Below W1.heap.size W1 wr) (fun _ i _ => 2 - (intOf i).toNat)
  case atStart => exact ⟨0, Nat.zero_le _, rfl, rfl, Below.refl _ _⟩
  case round =>
    obtain ⟨k, hk, rfl, rfl, hb⟩ := hrel
    have HB := Lib.hid hb
    have hsz := hb.size
    clear hb
    have hX : (⟨(pre false (units r) k).toArray⟩ : ByteArray).size ≤ 13 := by
      show (pre false (units r) k).toArray.size ≤ 13
      have := pre_len false (units r) k; rw [HUN.out] at this; simp; omega
    by_cases hlt : k < 2
    · have hc0 := HCL.out k hlt
      have hcw : wr.cell? ⟨w0.heap.size + 1, k, none⟩ = some (iv ((units r).getD k 0)) := by
        rw [HB.out.cell (World.block_lt_of_cell? W1 _ hc0)]; exact hc0
      have hub : (units r).getD k 0 < 65536 := by
        rw [List.getD_eq_getElem?_getD, List.getElem?_eq_getElem (by rw [HUN.out]; exact hlt)]
        exact HUB.out _ (List.getElem_mem _)
      have hend : Hid (mid false (units r) k ((units r).getD k 0) 4 = pre false (units r) (k + 1)) := Lib.hid (mid_end false (units r) k _ (by rw [HUN.out]; exact hlt) rfl)
      unfold iv at hcw
      generalize (units r).getD k 0 = u at *
      have hu0 : (u : Int) ≤ 65535 := by omega
      have HS : Hid ((⟨(pre false (units r) k).toArray⟩ : ByteArray) ++ { data := #[92, 117] } = ⟨(mid false (units r) k u 0).toArray⟩) := Lib.hid (by
        rw [mkA _ [92, 117] _ (by rfl)]; unfold mid; simp)
      have hml := fun j => mid_len false (units r) k u j
      simp only [HUN.out] at hml
      have HML := Lib.hid hml
      clear hc0 hub hml
      generalize hXX : (⟨(pre false (units r) k).toArray⟩ : ByteArray) = X at *
      clear hXX
      obtain ⟨wo, rfl⟩ : ∃ wo : World, wo = wr := ⟨_, rfl⟩
      go_wp2
      have HC4 := Lib.hid (cells_four wo u)
      have HB2 := Lib.hid (HB.out.alloc hsz (.cells #[.int .i64 ((u : Int) / 4096), .int .i64 ((u : Int) / 256 % 16), .int .i64 ((u : Int) / 16 % 16), .int .i64 ((u : Int) % 16)] 3))
      rw [HS.out]
      change Code.wp _ _ _ _ (wo.alloc (.cells #[.int .i64 ((u : Int) / 4096), .int .i64 ((u : Int) / 256 % 16), .int .i64 ((u : Int) / 16 % 16), .int .i64 ((u : Int) % 16)] 3))
      generalize wo.alloc (.cells #[.int .i64 ((u : Int) / 4096), .int .i64 ((u : Int) / 256 % 16), .int .i64 ((u : Int) / 16 % 16), .int .i64 ((u : Int) % 16)] 3) = W2 at *
      clear hcw HS hX
      go_loop [7, 53] (fun sv i => ∃ j : Nat, j ≤ 4 ∧ i = .int .i64 j ∧ sv = .string ⟨(mid false (units r) k u j).toArray⟩) (fun _ i => 4 - (intOf i).toNat)
      case atStart => exact ⟨0, Nat.zero_le _, rfl, rfl⟩
      case round =>
        obtain ⟨j, hj, rfl, rfl⟩ := hrel
        by_cases hjl : j < 4
        · have hcj := HC4.out j hjl
          have hnb := dl_bd u j (by omega)
          have hgo := mid_go false (units r) k u j hjl
          unfold iv at hcj
          generalize (dl u).getD j 0 = dd at *
          have HS2 : Hid ((⟨(mid false (units r) k u j).toArray⟩ : ByteArray) ++ (digS false).extract dd (dd + 1) = ⟨(mid false (units r) k u (j + 1)).toArray⟩) := Lib.hid (by
            rw [mkA _ _ _ (digS_cut false dd hnb), hgo])
          have hY : (⟨(mid false (units r) k u j).toArray⟩ : ByteArray).size ≤ 19 := by
            show (mid false (units r) k u j).toArray.size ≤ 19
            have := HML.out j; simp; omega
          have hes : ((digS false).extract dd (dd + 1)).size ≤ 1 := by rw [ByteArray.size_extract]; omega
          have hd1 : (dd : Int) + 1 ≤ (digS false).size := by rw [HDs.out]; omega
          have hd2 : dd + 1 ≤ (digS false).size := by rw [HDs.out]; omega
          generalize (⟨(mid false (units r) k u j).toArray⟩ : ByteArray) = Y at *
          generalize digS false = DD at *
          clear hgo
          go_wp2
          go_round
          case rel => exact ⟨j + 1, by omega, by go_num, by rw [← HS2.out]⟩
          case measure => simp [intOf]; omega
        · obtain rfl : j = 4 := by omega
          rw [hend.out]
          go_wp2
          go_roundw
          case rel => exact ⟨k + 1, by omega, by go_num, rfl, HB2.out⟩
          case measure => simp [intOf]; omega
    · obtain rfl : k = 2 := by omega
      have hfin : (⟨(pre false (units r) 2).toArray⟩ : ByteArray) ++ { data := #[34] } = ⟨(34 :: (txt false (units r) ++ [34])).toArray⟩ := by
        rw [mkA _ [34] _ (by rfl)]
        unfold pre
        rw [List.take_of_length_le (by rw [HUN.out]; omega)]
        rfl
      have hps : (⟨(34 :: (txt false (units r) ++ [34])).toArray⟩ : ByteArray).size ≤ 1000 := by
        rw [← hfin, ByteArray.size_append]; show _ + 1 ≤ 1000; omega
      have HP := fun w hT hE => parse_any ⟨(34 :: (txt false (units r) ++ [34])).toArray⟩ w ad (by omega) hT hE
      rw [show (⟨(34 :: (txt false (units r) ++ [34])).toArray⟩ : ByteArray).data.toList = 34 :: (txt false (units r) ++ [34]) from by simp, HES.out, ← hfin] at HP
      simp only [prV] at HP
      have heb := eb_arr (r : Int)
      rw [heb] at HP
      have HP := Lib.hid HP
      have HBw := Lib.hid (HB1.out.trans (HB.out.mono hz1))
      have hzw := HBw.out.size
      clear hfin hps heb
      generalize (⟨(pre false (units r) 2).toArray⟩ : ByteArray) = X at *
      go_wp2_with fail
      refine (HP.out _ (tabs_below HT.out HBw.out) (syn_below HE.out HBw.out)).mono ?_
      rintro e w3 ⟨rfl, hb3⟩
      have HB3 := Lib.hid (HBw.out.trans (hb3.mono hzw))
      have hz3 := HB3.out.size
      clear hb3
      go_wp2_with fail
      refine (encR_yes _ _ hp).mono ?_
      rintro e w4 ⟨rfl, hb4⟩
      have HB4 := Lib.hid (HB3.out.trans (hb4.mono hz3))
      clear hb4
      go_wp2
      go_ret
      exact ⟨ret_bool (by simp), HB4.out⟩

set_option maxRecDepth 100000 in
set_option maxHeartbeats 1000000 in
theorem esc_oneCap (r : Nat) (w : World) (ad : Nat → Addr) (hT : Tabs w) (hE : Syn w ad) (hC : Ctl w) (hp : Pt (r : Int)) (h65 : ¬ 65535 < (r : Int)) :
    Calls Tryd.prog 3 #[.int .i64 (r : Int), .bool true] w fun e w' => e = .returned (.bool true) ∧ Below w.heap.size w w' := by
  have HA := Lib.hid (alive w ad hT hE hC)
  have HT := Lib.hid hT
  have HE := Lib.hid hE
  have HES := Lib.hid (escapes true r hp)
  have HUB := Lib.hid (units_bd r hp)
  have hun : (units r).length = 1 := by unfold units; rw [if_neg (by omega)]; rfl
  have HUN := Lib.hid hun
  have hr0 : (0 : Int) ≤ r := hp.1
  have hr1 : (r : Int) ≤ 1114111 := hp.2.1
  have hqN := neqlN
  clear hT hE hC hun
  go_enter Tryd.func3, Tryd.ntmps3
  go_wp2_with fail
  refine HA.out.mono ?_
  rintro e w0 ⟨rfl, hb0⟩
  have HB0 := Lib.hid hb0
  have hz0 := hb0.size
  clear hb0
  go_wp2_with fail
  refine (point_yes _ _ hp).mono ?_
  rintro e w' ⟨rfl, rfl⟩
  go_wp2
  have hcl : ∀ k, k < 1 → (w0.alloc (.cells #[.int .i64 (r : Int)] 3)).cell? ⟨w0.heap.size, k, none⟩ = some (iv ((units r).getD k 0)) := by
    have hu : units r = [r] := by unfold units; rw [if_neg (by omega)]
    rw [hu]
    exact cells_one w0 r
  have HCL := Lib.hid hcl
  have HB1 := Lib.hid (HB0.out.alloc hz0 _ : Below w.heap.size w (w0.alloc (.cells #[.int .i64 (r : Int)] 3)))
  clear hcl
  change Code.wp _ _ _ _ (w0.alloc (.cells #[.int .i64 (r : Int)] 3))
  generalize w0.alloc (.cells #[.int .i64 (r : Int)] 3) = W1 at *
  have hz1 := HB1.out.size
  have hDD : ({ data := #[48, 49, 50, 51, 52, 53, 54, 55, 56, 57, 65, 66, 67, 68, 69, 70] } : ByteArray) = digS true := rfl
  have hDs := digS_size true
  have HDs := Lib.hid hDs
  rw [hDD]
  clear hDD hDs
  go_loopw [7, 35] (fun sv i wr => ∃ k : Nat, k ≤ 1 ∧ i = .int .i64 k ∧ sv = .string ⟨(pre true (units r) k).toArray⟩ ∧ Below W1.heap.size W1 wr) (fun _ i _ => 1 - (intOf i).toNat)
  case atStart => exact ⟨0, Nat.zero_le _, rfl, rfl, Below.refl _ _⟩
  case round =>
    obtain ⟨k, hk, rfl, rfl, hb⟩ := hrel
    have HB := Lib.hid hb
    have hsz := hb.size
    clear hb
    have hX : (⟨(pre true (units r) k).toArray⟩ : ByteArray).size ≤ 13 := by
      show (pre true (units r) k).toArray.size ≤ 13
      have := pre_len true (units r) k; rw [HUN.out] at this; simp; omega
    by_cases hlt : k < 1
    · have hc0 := HCL.out k hlt
      have hcw : wr.cell? ⟨w0.heap.size, k, none⟩ = some (iv ((units r).getD k 0)) := by
        rw [HB.out.cell (World.block_lt_of_cell? W1 _ hc0)]; exact hc0
      have hub : (units r).getD k 0 < 65536 := by
        rw [List.getD_eq_getElem?_getD, List.getElem?_eq_getElem (by rw [HUN.out]; exact hlt)]
        exact HUB.out _ (List.getElem_mem _)
      have hend : Hid (mid true (units r) k ((units r).getD k 0) 4 = pre true (units r) (k + 1)) := Lib.hid (mid_end true (units r) k _ (by rw [HUN.out]; exact hlt) rfl)
      unfold iv at hcw
      generalize (units r).getD k 0 = u at *
      have hu0 : (u : Int) ≤ 65535 := by omega
      have HS : Hid ((⟨(pre true (units r) k).toArray⟩ : ByteArray) ++ { data := #[92, 117] } = ⟨(mid true (units r) k u 0).toArray⟩) := Lib.hid (by
        rw [mkA _ [92, 117] _ (by rfl)]; unfold mid; simp)
      have hml := fun j => mid_len true (units r) k u j
      simp only [HUN.out] at hml
      have HML := Lib.hid hml
      clear hc0 hub hml
      generalize hXX : (⟨(pre true (units r) k).toArray⟩ : ByteArray) = X at *
      clear hXX
      obtain ⟨wo, rfl⟩ : ∃ wo : World, wo = wr := ⟨_, rfl⟩
      go_wp2
      have HC4 := Lib.hid (cells_four wo u)
      have HB2 := Lib.hid (HB.out.alloc hsz (.cells #[.int .i64 ((u : Int) / 4096), .int .i64 ((u : Int) / 256 % 16), .int .i64 ((u : Int) / 16 % 16), .int .i64 ((u : Int) % 16)] 3))
      rw [HS.out]
      change Code.wp _ _ _ _ (wo.alloc (.cells #[.int .i64 ((u : Int) / 4096), .int .i64 ((u : Int) / 256 % 16), .int .i64 ((u : Int) / 16 % 16), .int .i64 ((u : Int) % 16)] 3))
      generalize wo.alloc (.cells #[.int .i64 ((u : Int) / 4096), .int .i64 ((u : Int) / 256 % 16), .int .i64 ((u : Int) / 16 % 16), .int .i64 ((u : Int) % 16)] 3) = W2 at *
      clear hcw HS hX
      go_loop [7, 53] (fun sv i => ∃ j : Nat, j ≤ 4 ∧ i = .int .i64 j ∧ sv = .string ⟨(mid true (units r) k u j).toArray⟩) (fun _ i => 4 - (intOf i).toNat)
      case atStart => exact ⟨0, Nat.zero_le _, rfl, rfl⟩
      case round =>
        obtain ⟨j, hj, rfl, rfl⟩ := hrel
        by_cases hjl : j < 4
        · have hcj := HC4.out j hjl
          have hnb := dl_bd u j (by omega)
          have hgo := mid_go true (units r) k u j hjl
          unfold iv at hcj
          generalize (dl u).getD j 0 = dd at *
          have HS2 : Hid ((⟨(mid true (units r) k u j).toArray⟩ : ByteArray) ++ (digS true).extract dd (dd + 1) = ⟨(mid true (units r) k u (j + 1)).toArray⟩) := Lib.hid (by
            rw [mkA _ _ _ (digS_cut true dd hnb), hgo])
          have hY : (⟨(mid true (units r) k u j).toArray⟩ : ByteArray).size ≤ 19 := by
            show (mid true (units r) k u j).toArray.size ≤ 19
            have := HML.out j; simp; omega
          have hes : ((digS true).extract dd (dd + 1)).size ≤ 1 := by rw [ByteArray.size_extract]; omega
          have hd1 : (dd : Int) + 1 ≤ (digS true).size := by rw [HDs.out]; omega
          have hd2 : dd + 1 ≤ (digS true).size := by rw [HDs.out]; omega
          generalize (⟨(mid true (units r) k u j).toArray⟩ : ByteArray) = Y at *
          generalize digS true = DD at *
          clear hgo
          go_wp2
          go_round
          case rel => exact ⟨j + 1, by omega, by go_num, by rw [← HS2.out]⟩
          case measure => simp [intOf]; omega
        · obtain rfl : j = 4 := by omega
          rw [hend.out]
          go_wp2
          go_roundw
          case rel => exact ⟨k + 1, by omega, by go_num, rfl, HB2.out⟩
          case measure => simp [intOf]; omega
    · obtain rfl : k = 1 := by omega
      have hfin : (⟨(pre true (units r) 1).toArray⟩ : ByteArray) ++ { data := #[34] } = ⟨(34 :: (txt true (units r) ++ [34])).toArray⟩ := by
        rw [mkA _ [34] _ (by rfl)]
        unfold pre
        rw [List.take_of_length_le (by rw [HUN.out]; omega)]
        rfl
      have hps : (⟨(34 :: (txt true (units r) ++ [34])).toArray⟩ : ByteArray).size ≤ 1000 := by
        rw [← hfin, ByteArray.size_append]; show _ + 1 ≤ 1000; omega
      have HP := fun w hT hE => parse_any ⟨(34 :: (txt true (units r) ++ [34])).toArray⟩ w ad (by omega) hT hE
      rw [show (⟨(34 :: (txt true (units r) ++ [34])).toArray⟩ : ByteArray).data.toList = 34 :: (txt true (units r) ++ [34]) from by simp, HES.out, ← hfin] at HP
      simp only [prV] at HP
      have heb := eb_arr (r : Int)
      rw [heb] at HP
      have HP := Lib.hid HP
      have HBw := Lib.hid (HB1.out.trans (HB.out.mono hz1))
      have hzw := HBw.out.size
      clear hfin hps heb
      generalize (⟨(pre true (units r) 1).toArray⟩ : ByteArray) = X at *
      go_wp2_with fail
      refine (HP.out _ (tabs_below HT.out HBw.out) (syn_below HE.out HBw.out)).mono ?_
      rintro e w3 ⟨rfl, hb3⟩
      have HB3 := Lib.hid (HBw.out.trans (hb3.mono hzw))
      have hz3 := HB3.out.size
      clear hb3
      go_wp2_with fail
      refine (encR_yes _ _ hp).mono ?_
      rintro e w4 ⟨rfl, hb4⟩
      have HB4 := Lib.hid (HB3.out.trans (hb4.mono hz3))
      clear hb4
      go_wp2
      go_ret
      exact ⟨ret_bool (by simp), HB4.out⟩

set_option maxRecDepth 100000 in
set_option maxHeartbeats 1000000 in
theorem esc_oneLow (r : Nat) (w : World) (ad : Nat → Addr) (hT : Tabs w) (hE : Syn w ad) (hC : Ctl w) (hp : Pt (r : Int)) (h65 : ¬ 65535 < (r : Int)) :
    Calls Tryd.prog 3 #[.int .i64 (r : Int), .bool false] w fun e w' => e = .returned (.bool true) ∧ Below w.heap.size w w' := by
  have HA := Lib.hid (alive w ad hT hE hC)
  have HT := Lib.hid hT
  have HE := Lib.hid hE
  have HES := Lib.hid (escapes false r hp)
  have HUB := Lib.hid (units_bd r hp)
  have hun : (units r).length = 1 := by unfold units; rw [if_neg (by omega)]; rfl
  have HUN := Lib.hid hun
  have hr0 : (0 : Int) ≤ r := hp.1
  have hr1 : (r : Int) ≤ 1114111 := hp.2.1
  have hqN := neqlN
  clear hT hE hC hun
  go_enter Tryd.func3, Tryd.ntmps3
  go_wp2_with fail
  refine HA.out.mono ?_
  rintro e w0 ⟨rfl, hb0⟩
  have HB0 := Lib.hid hb0
  have hz0 := hb0.size
  clear hb0
  go_wp2_with fail
  refine (point_yes _ _ hp).mono ?_
  rintro e w' ⟨rfl, rfl⟩
  go_wp2
  have hcl : ∀ k, k < 1 → (w0.alloc (.cells #[.int .i64 (r : Int)] 3)).cell? ⟨w0.heap.size, k, none⟩ = some (iv ((units r).getD k 0)) := by
    have hu : units r = [r] := by unfold units; rw [if_neg (by omega)]
    rw [hu]
    exact cells_one w0 r
  have HCL := Lib.hid hcl
  have HB1 := Lib.hid (HB0.out.alloc hz0 _ : Below w.heap.size w (w0.alloc (.cells #[.int .i64 (r : Int)] 3)))
  clear hcl
  change Code.wp _ _ _ _ (w0.alloc (.cells #[.int .i64 (r : Int)] 3))
  generalize w0.alloc (.cells #[.int .i64 (r : Int)] 3) = W1 at *
  have hz1 := HB1.out.size
  have hDD : ({ data := #[48, 49, 50, 51, 52, 53, 54, 55, 56, 57, 97, 98, 99, 100, 101, 102] } : ByteArray) = digS false := rfl
  have hDs := digS_size false
  have HDs := Lib.hid hDs
  rw [hDD]
  clear hDD hDs
  go_loopw [7, 35] (fun sv i wr => ∃ k : Nat, k ≤ 1 ∧ i = .int .i64 k ∧ sv = .string ⟨(pre false (units r) k).toArray⟩ ∧ Below W1.heap.size W1 wr) (fun _ i _ => 1 - (intOf i).toNat)
  case atStart => exact ⟨0, Nat.zero_le _, rfl, rfl, Below.refl _ _⟩
  case round =>
    obtain ⟨k, hk, rfl, rfl, hb⟩ := hrel
    have HB := Lib.hid hb
    have hsz := hb.size
    clear hb
    have hX : (⟨(pre false (units r) k).toArray⟩ : ByteArray).size ≤ 13 := by
      show (pre false (units r) k).toArray.size ≤ 13
      have := pre_len false (units r) k; rw [HUN.out] at this; simp; omega
    by_cases hlt : k < 1
    · have hc0 := HCL.out k hlt
      have hcw : wr.cell? ⟨w0.heap.size, k, none⟩ = some (iv ((units r).getD k 0)) := by
        rw [HB.out.cell (World.block_lt_of_cell? W1 _ hc0)]; exact hc0
      have hub : (units r).getD k 0 < 65536 := by
        rw [List.getD_eq_getElem?_getD, List.getElem?_eq_getElem (by rw [HUN.out]; exact hlt)]
        exact HUB.out _ (List.getElem_mem _)
      have hend : Hid (mid false (units r) k ((units r).getD k 0) 4 = pre false (units r) (k + 1)) := Lib.hid (mid_end false (units r) k _ (by rw [HUN.out]; exact hlt) rfl)
      unfold iv at hcw
      generalize (units r).getD k 0 = u at *
      have hu0 : (u : Int) ≤ 65535 := by omega
      have HS : Hid ((⟨(pre false (units r) k).toArray⟩ : ByteArray) ++ { data := #[92, 117] } = ⟨(mid false (units r) k u 0).toArray⟩) := Lib.hid (by
        rw [mkA _ [92, 117] _ (by rfl)]; unfold mid; simp)
      have hml := fun j => mid_len false (units r) k u j
      simp only [HUN.out] at hml
      have HML := Lib.hid hml
      clear hc0 hub hml
      generalize hXX : (⟨(pre false (units r) k).toArray⟩ : ByteArray) = X at *
      clear hXX
      obtain ⟨wo, rfl⟩ : ∃ wo : World, wo = wr := ⟨_, rfl⟩
      go_wp2
      have HC4 := Lib.hid (cells_four wo u)
      have HB2 := Lib.hid (HB.out.alloc hsz (.cells #[.int .i64 ((u : Int) / 4096), .int .i64 ((u : Int) / 256 % 16), .int .i64 ((u : Int) / 16 % 16), .int .i64 ((u : Int) % 16)] 3))
      rw [HS.out]
      change Code.wp _ _ _ _ (wo.alloc (.cells #[.int .i64 ((u : Int) / 4096), .int .i64 ((u : Int) / 256 % 16), .int .i64 ((u : Int) / 16 % 16), .int .i64 ((u : Int) % 16)] 3))
      generalize wo.alloc (.cells #[.int .i64 ((u : Int) / 4096), .int .i64 ((u : Int) / 256 % 16), .int .i64 ((u : Int) / 16 % 16), .int .i64 ((u : Int) % 16)] 3) = W2 at *
      clear hcw HS hX
      go_loop [7, 53] (fun sv i => ∃ j : Nat, j ≤ 4 ∧ i = .int .i64 j ∧ sv = .string ⟨(mid false (units r) k u j).toArray⟩) (fun _ i => 4 - (intOf i).toNat)
      case atStart => exact ⟨0, Nat.zero_le _, rfl, rfl⟩
      case round =>
        obtain ⟨j, hj, rfl, rfl⟩ := hrel
        by_cases hjl : j < 4
        · have hcj := HC4.out j hjl
          have hnb := dl_bd u j (by omega)
          have hgo := mid_go false (units r) k u j hjl
          unfold iv at hcj
          generalize (dl u).getD j 0 = dd at *
          have HS2 : Hid ((⟨(mid false (units r) k u j).toArray⟩ : ByteArray) ++ (digS false).extract dd (dd + 1) = ⟨(mid false (units r) k u (j + 1)).toArray⟩) := Lib.hid (by
            rw [mkA _ _ _ (digS_cut false dd hnb), hgo])
          have hY : (⟨(mid false (units r) k u j).toArray⟩ : ByteArray).size ≤ 19 := by
            show (mid false (units r) k u j).toArray.size ≤ 19
            have := HML.out j; simp; omega
          have hes : ((digS false).extract dd (dd + 1)).size ≤ 1 := by rw [ByteArray.size_extract]; omega
          have hd1 : (dd : Int) + 1 ≤ (digS false).size := by rw [HDs.out]; omega
          have hd2 : dd + 1 ≤ (digS false).size := by rw [HDs.out]; omega
          generalize (⟨(mid false (units r) k u j).toArray⟩ : ByteArray) = Y at *
          generalize digS false = DD at *
          clear hgo
          go_wp2
          go_round
          case rel => exact ⟨j + 1, by omega, by go_num, by rw [← HS2.out]⟩
          case measure => simp [intOf]; omega
        · obtain rfl : j = 4 := by omega
          rw [hend.out]
          go_wp2
          go_roundw
          case rel => exact ⟨k + 1, by omega, by go_num, rfl, HB2.out⟩
          case measure => simp [intOf]; omega
    · obtain rfl : k = 1 := by omega
      have hfin : (⟨(pre false (units r) 1).toArray⟩ : ByteArray) ++ { data := #[34] } = ⟨(34 :: (txt false (units r) ++ [34])).toArray⟩ := by
        rw [mkA _ [34] _ (by rfl)]
        unfold pre
        rw [List.take_of_length_le (by rw [HUN.out]; omega)]
        rfl
      have hps : (⟨(34 :: (txt false (units r) ++ [34])).toArray⟩ : ByteArray).size ≤ 1000 := by
        rw [← hfin, ByteArray.size_append]; show _ + 1 ≤ 1000; omega
      have HP := fun w hT hE => parse_any ⟨(34 :: (txt false (units r) ++ [34])).toArray⟩ w ad (by omega) hT hE
      rw [show (⟨(34 :: (txt false (units r) ++ [34])).toArray⟩ : ByteArray).data.toList = 34 :: (txt false (units r) ++ [34]) from by simp, HES.out, ← hfin] at HP
      simp only [prV] at HP
      have heb := eb_arr (r : Int)
      rw [heb] at HP
      have HP := Lib.hid HP
      have HBw := Lib.hid (HB1.out.trans (HB.out.mono hz1))
      have hzw := HBw.out.size
      clear hfin hps heb
      generalize (⟨(pre false (units r) 1).toArray⟩ : ByteArray) = X at *
      go_wp2_with fail
      refine (HP.out _ (tabs_below HT.out HBw.out) (syn_below HE.out HBw.out)).mono ?_
      rintro e w3 ⟨rfl, hb3⟩
      have HB3 := Lib.hid (HBw.out.trans (hb3.mono hzw))
      have hz3 := HB3.out.size
      clear hb3
      go_wp2_with fail
      refine (encR_yes _ _ hp).mono ?_
      rintro e w4 ⟨rfl, hb4⟩
      have HB4 := Lib.hid (HB3.out.trans (hb4.mono hz3))
      clear hb4
      go_wp2
      go_ret
      exact ⟨ret_bool (by simp), HB4.out⟩

theorem lawEscapes (r : Int) (cap : Bool) (w : World) (ad : Nat → Addr) (hT : Tabs w) (hE : Syn w ad) (hC : Ctl w) :
    Calls Tryd.prog 3 #[.int .i64 r, .bool cap] w fun e w' => e = .returned (.bool true) ∧ Below w.heap.size w w' := by
  by_cases hp : Pt r
  · obtain ⟨n, rfl⟩ := Int.eq_ofNat_of_zero_le hp.1
    by_cases h : 65535 < (n : Int)
    · cases cap
      · exact esc_twoLow n w ad hT hE hC hp h
      · exact esc_twoCap n w ad hT hE hC hp h
    · cases cap
      · exact esc_oneLow n w ad hT hE hC hp h
      · exact esc_oneCap n w ad hT hE hC hp h
  · have HA := Lib.hid (alive w ad hT hE hC)
    clear hT hE hC
    go_enter Tryd.func3, Tryd.ntmps3
    go_wp2_with fail
    refine HA.out.mono ?_
    rintro e w0 ⟨rfl, hb0⟩
    have HB0 := Lib.hid hb0
    clear hb0
    go_wp2_with fail
    refine (point_no _ _ hp).mono ?_
    rintro e w' ⟨rfl, rfl⟩
    go_wp2
    go_ret
    exact ⟨rfl, HB0.out⟩

end Go.Proofs.YtfoammkidjbilaaDoor.quoteH
