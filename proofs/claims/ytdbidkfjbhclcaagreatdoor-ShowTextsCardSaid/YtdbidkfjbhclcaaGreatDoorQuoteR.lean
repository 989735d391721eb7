/-
  The contract of the reference's Quote; the law QuoteQuotes returns true (written by gen_quoteF.py).
-/
import Derived.Test.YtdbidkfjbhclcaaGreatDoorQuoteG
namespace Go.Proofs.YtdbidkfjbhclcaaGreatDoor.quoteR
open Go.ChangeShapes Go.WideShapes Go.ChangeAt Go.RowKit utfP utfQ utfR runesA runesC runesD runesE quoteP quoteA quoteB quoteC quoteG errIs errs
open pointsA (PtsPost OwnI refPoints)

theorem mkA (d y : List UInt8) (Y : ByteArray) (h : Y.data.toList = y) : (⟨d.toArray⟩ : ByteArray) ++ Y = ⟨(d ++ y).toArray⟩ := by
  subst h
  have : ((⟨d.toArray⟩ : ByteArray) ++ Y).data = (d ++ Y.data.toList).toArray := by simp [ByteArray.data_append]
  cases h : (⟨d.toArray⟩ : ByteArray) ++ Y with
  | mk d' => rw [h] at this; simp only at this; rw [this]
theorem enc_eb (r : Int) : (enc r).data.toList = eb r := (eb_def r).symm
def rqV (l : List UInt8) : Value := if (pts l).isSome = true then .tuple #[.string ⟨(qt l).toArray⟩, .bool true] else .tuple #[.string ⟨#[]⟩, .bool false]
/-- what is written when k points are done -/
noncomputable def pw (d : List Nat) (k : Nat) : List UInt8 := 34 :: (d.take k).flatMap qP
theorem pw_go (d : List Nat) (k r : Nat) (h : k < d.length) (hr : d.getD k 0 = r) : pw d (k + 1) = pw d k ++ qP r := by
  rw [List.getD_eq_getElem?_getD, List.getElem?_eq_getElem h, Option.getD_some] at hr
  unfold pw; rw [List.take_succ_eq_append_getElem h, List.flatMap_append, hr]; simp
theorem qP_len (n : Nat) (hp : Pt (n : Int)) : (qP n).length ≤ 6 := by
  unfold qP
  by_cases h : esc n = []
  · rw [if_pos h]
    by_cases h1 : n < 128
    · rw [if_pos h1]; simp
    · rw [if_neg h1, eb_len]
      by_cases h2 : (n : Int) < 65536
      · have := (enc_size3 _ hp h2).2; omega
      · rw [enc_size4 _ (by omega) hp.2.1]; omega
  · rw [if_neg h]; exact (esc_len n h).2
theorem pw_len (d : List Nat) (hd : ∀ r ∈ d, Pt (r : Int)) (k : Nat) : (pw d k).length ≤ 6 * d.length + 1 := by
  have h : ∀ l : List Nat, (∀ r ∈ l, Pt (r : Int)) → (l.flatMap qP).length ≤ 6 * l.length := by
    intro l
    induction l with
    | nil => intro _; simp
    | cons a l ih =>
      intro hl
      have := qP_len a (hl a (by simp))
      have := ih (fun x hx => hl x (by simp [hx]))
      rw [List.flatMap_cons, List.length_append, List.length_cons]; omega
  unfold pw
  have := h (d.take k) (fun r hr => hd r (List.mem_of_mem_take hr))
  have := List.length_take_le' k d
  rw [List.length_cons]; omega
theorem qP_esc {r : Nat} (h : esc r ≠ []) : qP r = esc r := by unfold qP; rw [if_neg h]
theorem qP_enc {r : Nat} (h : esc r = []) : qP r = eb (r : Int) := by
  unfold qP; rw [if_pos h]
  by_cases h1 : r < 128
  · rw [if_pos h1, eb_small r h1]
  · rw [if_neg h1]
theorem two_str (w : World) (x y : Int) (s : ByteArray) (hs : s.data.toList = [UInt8.ofNat x.toNat, UInt8.ofNat y.toNat]) :
    (convert 40 9 (.slice (some ⟨w.heap.size, 0, none⟩) 2 2)).run Tryz.prog (w.alloc (.cells #[.int .u8 x, .int .u8 y] 5)) = .ok (.string s) (w.alloc (.cells #[.int .u8 x, .int .u8 y] 5)) := by
  have e : s = strOfNums [x, y] := by
    cases s; simp only [strOfNums, List.map_cons, List.map_nil]; congr 1; rw [← hs]
  rw [e]
  refine run_convert_bytes_arg (P := Tryz.prog) _ 40 5 Tryz.underlying40 Tryz.underlying5 w.heap.size 0 2 2 [x, y] rfl ?_ 9 Tryz.underlying9
  intro i hi
  rw [World.cell?_alloc_mark]
  rcases (show i = 0 ∨ i = 1 by have : i < 2 := hi; omega) with rfl | rfl <;> rfl


/-! ### small hexadecimal digits -/
def lowL : List UInt8 := [48, 49, 50, 51, 52, 53, 54, 55, 56, 57, 97, 98, 99, 100, 101, 102]
def dlow (n : Nat) : UInt8 := lowL.getD n 0
def lowS : ByteArray := ⟨#[48, 49, 50, 51, 52, 53, 54, 55, 56, 57, 97, 98, 99, 100, 101, 102]⟩
theorem lowS_cut (n : Nat) (h : n < 16) : (lowS.extract n (n + 1)).data.toList = [dlow n] := by
  have e : lowS.data.toList = lowL := rfl
  have hl : lowL.length = 16 := rfl
  rw [ext_take, e, List.drop_eq_getElem_cons (by omega)]
  unfold dlow
  rw [List.getD_eq_getElem?_getD, List.getElem?_eq_getElem (by omega), List.take_succ_cons, List.take_zero]
  rfl
theorem esc_u0 : ∀ n : Fin 32, n.1 ≠ 8 → n.1 ≠ 9 → n.1 ≠ 10 → n.1 ≠ 12 → n.1 ≠ 13 → esc n.1 = u00 (dlow (n.1 / 16)) (dlow (n.1 % 16)) := by decide +kernel
theorem esc_u (r : Nat) (h : r < 32) (h1 : r ≠ 8) (h2 : r ≠ 9) (h3 : r ≠ 10) (h4 : r ≠ 12) (h5 : r ≠ 13) : esc r = u00 (dlow (r / 16)) (dlow (r % 16)) := esc_u0 ⟨r, h⟩ h1 h2 h3 h4 h5

theorem rq_no (s : ByteArray) (w : World) (hs : s.size ≤ 10000) (hv : pts s.data.toList = none) :
    Calls Tryz.prog 18 #[.string s] w fun e w' => e = .returned (rqV s.data.toList) ∧ Below w.heap.size w w' := by
  have HPt := refPoints s w (by omega)
  unfold PtsPost at HPt
  have HPt := Lib.hid HPt
  have HV := Lib.hid hv
  have hr : Hid (rqV s.data.toList = .tuple #[.string ⟨#[]⟩, .bool false]) := Lib.hid (by unfold rqV; rw [hv]; rfl)
  clear hv
  go_enter Tryz.func18, Tryz.ntmps18
  go_wp2_with fail
  refine HPt.out.mono ?_
  rintro e w1 ⟨hb1, hq⟩
  have HB1 := Lib.hid hb1
  clear hb1
  rcases hq with ⟨_, rfl⟩ | ⟨dd, vv, hsome, _, _, _⟩
  · go_wp2
    go_ret2
    exact ⟨by rw [hr.out]; rfl, HB1.out⟩
  · have := HV.out; rw [hsome] at this; cases this

set_option maxRecDepth 100000 in
set_option maxHeartbeats 2000000 in
theorem rq_yes (s : ByteArray) (w : World) (hs : s.size ≤ 10000) (d : List Nat) (hv : pts s.data.toList = some d) :
    Calls Tryz.prog 18 #[.string s] w fun e w' => e = .returned (rqV s.data.toList) ∧ Below w.heap.size w w' := by
  have HPt := refPoints s w (by omega)
  unfold PtsPost at HPt
  have HPt := Lib.hid HPt
  obtain ⟨_, hdp⟩ := pts_back _ _ (Nat.le_refl _) d hv
  have HDP := Lib.hid hdp
  have hr : Hid (rqV s.data.toList = .tuple #[.string ⟨(34 :: (d.flatMap qP ++ [34])).toArray⟩, .bool true]) := Lib.hid (by
    unfold rqV qt; rw [hv, qt_pts hv]; rfl)
  have HV := Lib.hid hv
  clear hv hdp
  go_enter Tryz.func18, Tryz.ntmps18
  go_wp2_with fail
  refine HPt.out.mono ?_
  rintro e w1 ⟨hb1, hq⟩
  have HB1 := Lib.hid hb1
  have hz1 := hb1.size
  clear hb1
  rcases hq with ⟨hno, _⟩ | ⟨dd, vv, hsome, hown, hdl, rfl⟩
  · have := HV.out; rw [hno] at this; cases this
  obtain rfl : dd = d := Option.some.inj (hsome.symm.trans HV.out)
  have hll : s.data.toList.length = s.size := by simp
  have hdn : dd.length ≤ 10000 := by omega
  obtain ⟨ao, cap, rfl, hcl⟩ : ∃ ao cap, vv = .slice ao dd.length cap ∧ ∀ k, k < dd.length → ∃ b, ao = some ⟨b, 0, none⟩ ∧ w1.cell? ⟨b, k, none⟩ = some (.int .i64 (dd.getD k 0 : Int)) := by
    have hown0 := hown
    rcases hown.2 with ⟨rfl, hn⟩ | ⟨g, cap, cur, rfl, _⟩
    · exact ⟨none, 0, by rw [hn], fun k hk => by omega⟩
    · refine ⟨some ⟨g, 0, none⟩, cap, rfl, fun k hk => ⟨g, rfl, ?_⟩⟩
      rw [World.ownsRow.cellAt (cap := cap) hown0 k (by omega)]
      simp [pointsA.iv, List.getD, hk]
  have HCL := Lib.hid hcl
  have HW := Lib.hid (fun k => pw_len dd HDP.out k)
  generalize hlen : dd.length = len at *
  have HLEN := Lib.hid hlen
  clear hcl hown hlen hsome hdl hll
  go_wp2
  go_loopw [6, 19] (fun sv i wr => ∃ k : Nat, k ≤ len ∧ i = .int .i64 k ∧ sv = .string ⟨(pw dd k).toArray⟩ ∧ Below w1.heap.size w1 wr) (fun _ i _ => len - (intOf i).toNat)
  case atStart => exact ⟨0, Nat.zero_le _, rfl, rfl, Below.refl _ _⟩
  case round =>
    obtain ⟨k, hk, rfl, rfl, hb⟩ := hrel
    have HB := Lib.hid hb
    have hsz := hb.size
    clear hb
    have hX : (⟨(pw dd k).toArray⟩ : ByteArray).size ≤ 60001 := by
      show (pw dd k).toArray.size ≤ 60001
      have := HW.out k; simp; omega
    by_cases hlt : k < len
    · obtain ⟨b0, rfl, hc0⟩ := HCL.out k hlt
      have hcw : wr.cell? ⟨b0, k, none⟩ = some (.int .i64 (dd.getD k 0 : Int)) := by
        rw [HB.out.cell (World.block_lt_of_cell? w1 _ hc0)]; exact hc0
      have hgo := pw_go dd k (dd.getD k 0) (by rw [HLEN.out]; exact hlt) rfl
      have hp : Pt ((dd.getD k 0 : Nat) : Int) := by
        rw [List.getD_eq_getElem?_getD, List.getElem?_eq_getElem (by rw [HLEN.out]; exact hlt)]
        exact HDP.out _ (List.getElem_mem _)
      generalize dd.getD k 0 = r at *
      have hr0 : (0 : Int) ≤ r := hp.1
      have hr1 : (r : Int) ≤ 1114111 := hp.2.1
      clear hc0
      by_cases hv : r = 34
      · have hN : pw dd (k + 1) = pw dd k ++ [92, 34] := by rw [hgo, hv, qP_esc (by decide)]; rfl
        have q0 : ((r : Int) == 34) = true := by rw [hv]; rfl
        have q1 : ((r : Int) == 92) = false := by rw [hv]; rfl
        have q2 : ((r : Int) == 8) = false := by rw [hv]; rfl
        have q3 : ((r : Int) == 9) = false := by rw [hv]; rfl
        have q4 : ((r : Int) == 10) = false := by rw [hv]; rfl
        have q5 : ((r : Int) == 12) = false := by rw [hv]; rfl
        have q6 : ((r : Int) == 13) = false := by rw [hv]; rfl
        have hcv := two_str wr 92 (r : Int) ⟨#[92, 34]⟩ (by rw [hv]; rfl)
        have hr2 : (r : Int) ≤ 255 := by omega
        have HS : Hid ((⟨(pw dd k).toArray⟩ : ByteArray) ++ ⟨#[92, 34]⟩ = ⟨(pw dd (k + 1)).toArray⟩) := Lib.hid (by rw [mkA _ [92, 34] _ rfl, hN])
        generalize (⟨(pw dd k).toArray⟩ : ByteArray) = X at *
        clear hv hN hgo
        go_wp2
        go_roundw
        case rel => exact ⟨k + 1, by omega, by go_num, by rw [← HS.out], HB.out.alloc hsz _⟩
        case measure => simp [intOf]; omega
      have nv34 : r ≠ 34 := hv
      clear hv
      by_cases hv : r = 92
      · have hN : pw dd (k + 1) = pw dd k ++ [92, 92] := by rw [hgo, hv, qP_esc (by decide)]; rfl
        have q0 : ((r : Int) == 34) = false := by rw [hv]; rfl
        have q1 : ((r : Int) == 92) = true := by rw [hv]; rfl
        have q2 : ((r : Int) == 8) = false := by rw [hv]; rfl
        have q3 : ((r : Int) == 9) = false := by rw [hv]; rfl
        have q4 : ((r : Int) == 10) = false := by rw [hv]; rfl
        have q5 : ((r : Int) == 12) = false := by rw [hv]; rfl
        have q6 : ((r : Int) == 13) = false := by rw [hv]; rfl
        have hcv := two_str wr 92 (r : Int) ⟨#[92, 92]⟩ (by rw [hv]; rfl)
        have hr2 : (r : Int) ≤ 255 := by omega
        have HS : Hid ((⟨(pw dd k).toArray⟩ : ByteArray) ++ ⟨#[92, 92]⟩ = ⟨(pw dd (k + 1)).toArray⟩) := Lib.hid (by rw [mkA _ [92, 92] _ rfl, hN])
        generalize (⟨(pw dd k).toArray⟩ : ByteArray) = X at *
        clear hv hN hgo
        go_wp2
        go_roundw
        case rel => exact ⟨k + 1, by omega, by go_num, by rw [← HS.out], HB.out.alloc hsz _⟩
        case measure => simp [intOf]; omega
      have nv92 : r ≠ 92 := hv
      clear hv
      by_cases hv : r = 8
      · have hN : pw dd (k + 1) = pw dd k ++ [92, 98] := by rw [hgo, hv, qP_esc (by decide)]; rfl
        have q0 : ((r : Int) == 34) = false := by rw [hv]; rfl
        have q1 : ((r : Int) == 92) = false := by rw [hv]; rfl
        have q2 : ((r : Int) == 8) = true := by rw [hv]; rfl
        have q3 : ((r : Int) == 9) = false := by rw [hv]; rfl
        have q4 : ((r : Int) == 10) = false := by rw [hv]; rfl
        have q5 : ((r : Int) == 12) = false := by rw [hv]; rfl
        have q6 : ((r : Int) == 13) = false := by rw [hv]; rfl
        have HS : Hid ((⟨(pw dd k).toArray⟩ : ByteArray) ++ { data := #[92, 98] } = ⟨(pw dd (k + 1)).toArray⟩) := Lib.hid (by rw [mkA _ [92, 98] _ rfl, hN])
        generalize (⟨(pw dd k).toArray⟩ : ByteArray) = X at *
        clear hv hN hgo
        go_wp2
        go_roundw
        case rel => exact ⟨k + 1, by omega, by go_num, by rw [← HS.out], HB.out⟩
        case measure => simp [intOf]; omega
      have nv8 : r ≠ 8 := hv
      clear hv
      by_cases hv : r = 9
      · have hN : pw dd (k + 1) = pw dd k ++ [92, 116] := by rw [hgo, hv, qP_esc (by decide)]; rfl
        have q0 : ((r : Int) == 34) = false := by rw [hv]; rfl
        have q1 : ((r : Int) == 92) = false := by rw [hv]; rfl
        have q2 : ((r : Int) == 8) = false := by rw [hv]; rfl
        have q3 : ((r : Int) == 9) = true := by rw [hv]; rfl
        have q4 : ((r : Int) == 10) = false := by rw [hv]; rfl
        have q5 : ((r : Int) == 12) = false := by rw [hv]; rfl
        have q6 : ((r : Int) == 13) = false := by rw [hv]; rfl
        have HS : Hid ((⟨(pw dd k).toArray⟩ : ByteArray) ++ { data := #[92, 116] } = ⟨(pw dd (k + 1)).toArray⟩) := Lib.hid (by rw [mkA _ [92, 116] _ rfl, hN])
        generalize (⟨(pw dd k).toArray⟩ : ByteArray) = X at *
        clear hv hN hgo
        go_wp2
        go_roundw
        case rel => exact ⟨k + 1, by omega, by go_num, by rw [← HS.out], HB.out⟩
        case measure => simp [intOf]; omega
      have nv9 : r ≠ 9 := hv
      clear hv
      by_cases hv : r = 10
      · have hN : pw dd (k + 1) = pw dd k ++ [92, 110] := by rw [hgo, hv, qP_esc (by decide)]; rfl
        have q0 : ((r : Int) == 34) = false := by rw [hv]; rfl
        have q1 : ((r : Int) == 92) = false := by rw [hv]; rfl
        have q2 : ((r : Int) == 8) = false := by rw [hv]; rfl
        have q3 : ((r : Int) == 9) = false := by rw [hv]; rfl
        have q4 : ((r : Int) == 10) = true := by rw [hv]; rfl
        have q5 : ((r : Int) == 12) = false := by rw [hv]; rfl
        have q6 : ((r : Int) == 13) = false := by rw [hv]; rfl
        have HS : Hid ((⟨(pw dd k).toArray⟩ : ByteArray) ++ { data := #[92, 110] } = ⟨(pw dd (k + 1)).toArray⟩) := Lib.hid (by rw [mkA _ [92, 110] _ rfl, hN])
        generalize (⟨(pw dd k).toArray⟩ : ByteArray) = X at *
        clear hv hN hgo
        go_wp2
        go_roundw
        case rel => exact ⟨k + 1, by omega, by go_num, by rw [← HS.out], HB.out⟩
        case measure => simp [intOf]; omega
      have nv10 : r ≠ 10 := hv
      clear hv
      by_cases hv : r = 12
      · have hN : pw dd (k + 1) = pw dd k ++ [92, 102] := by rw [hgo, hv, qP_esc (by decide)]; rfl
        have q0 : ((r : Int) == 34) = false := by rw [hv]; rfl
        have q1 : ((r : Int) == 92) = false := by rw [hv]; rfl
        have q2 : ((r : Int) == 8) = false := by rw [hv]; rfl
        have q3 : ((r : Int) == 9) = false := by rw [hv]; rfl
        have q4 : ((r : Int) == 10) = false := by rw [hv]; rfl
        have q5 : ((r : Int) == 12) = true := by rw [hv]; rfl
        have q6 : ((r : Int) == 13) = false := by rw [hv]; rfl
        have HS : Hid ((⟨(pw dd k).toArray⟩ : ByteArray) ++ { data := #[92, 102] } = ⟨(pw dd (k + 1)).toArray⟩) := Lib.hid (by rw [mkA _ [92, 102] _ rfl, hN])
        generalize (⟨(pw dd k).toArray⟩ : ByteArray) = X at *
        clear hv hN hgo
        go_wp2
        go_roundw
        case rel => exact ⟨k + 1, by omega, by go_num, by rw [← HS.out], HB.out⟩
        case measure => simp [intOf]; omega
      have nv12 : r ≠ 12 := hv
      clear hv
      by_cases hv : r = 13
      · have hN : pw dd (k + 1) = pw dd k ++ [92, 114] := by rw [hgo, hv, qP_esc (by decide)]; rfl
        have q0 : ((r : Int) == 34) = false := by rw [hv]; rfl
        have q1 : ((r : Int) == 92) = false := by rw [hv]; rfl
        have q2 : ((r : Int) == 8) = false := by rw [hv]; rfl
        have q3 : ((r : Int) == 9) = false := by rw [hv]; rfl
        have q4 : ((r : Int) == 10) = false := by rw [hv]; rfl
        have q5 : ((r : Int) == 12) = false := by rw [hv]; rfl
        have q6 : ((r : Int) == 13) = true := by rw [hv]; rfl
        have HS : Hid ((⟨(pw dd k).toArray⟩ : ByteArray) ++ { data := #[92, 114] } = ⟨(pw dd (k + 1)).toArray⟩) := Lib.hid (by rw [mkA _ [92, 114] _ rfl, hN])
        generalize (⟨(pw dd k).toArray⟩ : ByteArray) = X at *
        clear hv hN hgo
        go_wp2
        go_roundw
        case rel => exact ⟨k + 1, by omega, by go_num, by rw [← HS.out], HB.out⟩
        case measure => simp [intOf]; omega
      have nv13 : r ≠ 13 := hv
      clear hv
      have hqs : ∀ v : Int, v = 34 ∨ v = 92 ∨ v = 8 ∨ v = 9 ∨ v = 10 ∨ v = 12 ∨ v = 13 → ((r : Int) == v) = false := by
        intro v hv; rw [beq_eq_false_iff_ne]; omega
      have q0 := hqs 34 (by omega)
      have q1 := hqs 92 (by omega)
      have q2 := hqs 8 (by omega)
      have q3 := hqs 9 (by omega)
      have q4 := hqs 10 (by omega)
      have q5 := hqs 12 (by omega)
      have q6 := hqs 13 (by omega)
      clear hqs
      by_cases h32 : r < 32
      · have hesc : esc r = u00 (dlow (r / 16)) (dlow (r % 16)) := esc_u r h32 nv8 nv9 nv10 nv12 nv13
        have hN : pw dd (k + 1) = pw dd k ++ ([92, 117, 48, 48] ++ [dlow (r / 16)] ++ [dlow (r % 16)]) := by
          rw [hgo, qP_esc (by rw [hesc]; simp [u00]), hesc]; rfl
        have hi32 : (r : Int) < 32 := by omega
        have HS : Hid ((⟨(pw dd k).toArray⟩ : ByteArray) ++ ((({ data := #[92, 117, 48, 48] } : ByteArray) ++ lowS.extract (r / 16) (r / 16 + 1)) ++ lowS.extract (r % 16) (r % 16 + 1)) = ⟨(pw dd (k + 1)).toArray⟩) := Lib.hid (by
          rw [hN]
          refine mkA _ _ _ ?_
          rw [ByteArray.data_append, Array.toList_append, ByteArray.data_append, Array.toList_append, lowS_cut _ (by omega), lowS_cut _ (by omega)])
        clear nv34 nv92 nv8 nv9 nv10 nv12 nv13 hesc hN hgo
        generalize (⟨(pw dd k).toArray⟩ : ByteArray) = X at *
        go_wp2
        go_quiet (fail)
        go_wp2
        go_roundw
        case rel => exact ⟨k + 1, by omega, by go_num, by rw [← HS.out]; rfl, below_drewN HB.out _⟩
        case measure => simp [intOf]; omega
      · have hesc : esc r = [] := by unfold esc; rw [if_neg h32, if_neg nv34, if_neg nv92]
        have hN : pw dd (k + 1) = pw dd k ++ eb (r : Int) := by rw [hgo, qP_enc hesc]
        have hi32 : ¬ (r : Int) < 32 := by omega
        have HS : Hid ((⟨(pw dd k).toArray⟩ : ByteArray) ++ enc (r : Int) = ⟨(pw dd (k + 1)).toArray⟩) := Lib.hid (by rw [mkA _ _ _ (enc_eb (r : Int)), hN])
        have hez : (enc (r : Int)).size ≤ 4 := encode_size_le _
        clear nv34 nv92 nv8 nv9 nv10 nv12 nv13 hesc hN hgo
        generalize (⟨(pw dd k).toArray⟩ : ByteArray) = X at *
        go_wp2_with fail
        refine (encR_yes _ _ hp).mono ?_
        rintro e w2 ⟨rfl, hb2⟩
        have HB2 := Lib.hid (HB.out.trans (hb2.mono hsz))
        clear hb2
        go_wp2
        go_roundw
        case rel => exact ⟨k + 1, by omega, by go_num, by rw [← HS.out], HB2.out⟩
        case measure => simp [intOf]; omega
    · obtain rfl : k = len := by omega
      have HS : Hid ((⟨(pw dd k).toArray⟩ : ByteArray) ++ { data := #[34] } = ⟨(34 :: (dd.flatMap qP ++ [34])).toArray⟩) := Lib.hid (by
        rw [mkA _ [34] _ rfl]
        unfold pw
        rw [List.take_of_length_le (by rw [HLEN.out]; omega)]; rfl)
      generalize (⟨(pw dd k).toArray⟩ : ByteArray) = X at *
      go_wp2
      go_ret2
      exact ⟨by rw [hr.out, ← HS.out]; rfl, HB1.out.trans (HB.out.mono hz1)⟩

theorem rq_any (s : ByteArray) (w : World) (hs : s.size ≤ 10000) :
    Calls Tryz.prog 18 #[.string s] w fun e w' => e = .returned (rqV s.data.toList) ∧ Below w.heap.size w w' := by
  cases h : pts s.data.toList with
  | none => exact rq_no s w hs h
  | some d => exact rq_yes s w hs d h
end Go.Proofs.YtdbidkfjbhclcaaGreatDoor.quoteR
