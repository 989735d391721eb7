/-
  The law's alive; haversackref17.Right (it answers); the law ProofSound.
-/
import Derived.Test.YtojjjndhabjhdaaProofN
namespace Go.Proofs.Ytojjjndhabjhdaa.proofO
open Go.ChangeShapes Go.WideShapes Go.ChangeAt Go.RowKit proofP proofQ owns proofA proofM proofN cls
set_option linter.unusedSimpArgs false
set_option linter.unusedVariables false

theorem ints_block {w : World} {b B : Nat} {t : TypeId} {l : List Int} (h : Whole w b t (l.map (Value.int .i64))) (hb : b < B) (hl : l.length ≤ maxLen) (h64 : ∀ x ∈ l, In64 x) (cap : Nat) : IntsAt w B (.slice (some ⟨b, 0, none⟩) l.length cap) l := by
  refine ⟨_, cap, b, 0, rfl, hl, fun _ => ⟨rfl, hb⟩, fun i hi => ?_, h64⟩
  rw [Nat.zero_add, h.cell i, List.getElem?_map, List.getElem?_eq_getElem hi, List.getD_eq_getElem?_getD, List.getElem?_eq_getElem hi]; rfl
theorem cls_block {w : World} {b B : Nat} {t : TypeId} {l : List (List Int)} {vs : List Value} (h : Whole w b t vs) (hb : b < B) (hl : l.length ≤ maxLen) (hv : vs.length = l.length) (hn : ∀ i, i < l.length → IntsAt w B (vs.getD i undef) (l.getD i [])) (cap : Nat) : ClsAt w B (.slice (some ⟨b, 0, none⟩) l.length cap) l := by
  refine ⟨_, cap, b, 0, fun i => vs.getD i undef, rfl, hl, fun _ => ⟨rfl, hb⟩, fun i hi => ?_, hn⟩
  rw [Nat.zero_add, h.cell i, List.getElem?_eq_getElem (by omega)]
  dsimp only
  rw [List.getD_eq_getElem?_getD, List.getElem?_eq_getElem (by omega)]; rfl

def c12 : List (List Int) := [[1, 2], [-1, 2]]
theorem bad1 : bad c12 [[2]] = -1 := by
  refine bad_none fun j hj => ?_
  obtain rfl : j = 0 := by simp at hj; omega
  rw [pl_iff]
  have hn : Der ((c12) ++ [[2]].take 0) ([(2 : Int)].map fun l => -l) (-2) := .start (by simp) (by decide)
  have h1 : Der ((c12) ++ [[2]].take 0) ([(2 : Int)].map fun l => -l) 1 := .unit (c := [1, 2]) (by simp [c12]) (by simp) (by decide) (fun x hx _ hne => by
    simp at hx
    rcases hx with rfl | rfl
    · exact absurd rfl hne
    · exact hn)
  have h2 : Der ((c12) ++ [[2]].take 0) ([(2 : Int)].map fun l => -l) (-1) := .unit (c := [-1, 2]) (by simp [c12]) (by simp) (by decide) (fun x hx _ hne => by
    simp at hx
    rcases hx with rfl | rfl
    · exact absurd rfl hne
    · exact hn)
  exact .inl ⟨1, h1, h2⟩
theorem bad2 : bad c12 [[1]] = 0 := by
  refine bad_at (i := 0) (by simp) (fun j hj => absurd hj (Nat.not_lt_zero _)) ?_
  rw [pl_no]
  refine no_clash (fun l => l = -1 ∨ l = 2) (fun l h1 h2 => by omega) (fun l hl _ => by simp at hl; exact .inl hl) (fun c hc => ?_)
  simp [c12] at hc
  rcases hc with rfl | rfl
  · exact .inl ⟨2, by simp, by decide, .inr rfl⟩
  · exact .inl ⟨2, by simp, by decide, .inr rfl⟩

def o1 : Obj := .cells #[.int .i64 1, .int .i64 2] 3
def o2 : Obj := .cells #[.int .i64 (-1), .int .i64 2] 3
def o3 (n : Nat) : Obj := .cells #[.slice (some ⟨n, 0, none⟩) 2 2, .slice (some ⟨n + 1, 0, none⟩) 2 2] 30
def o4 (x : Int) : Obj := .cells #[.int .i64 x] 3
def o5 (n : Nat) : Obj := .cells #[.slice (some ⟨n, 0, none⟩) 1 1] 30
theorem in1 : In64 1 := by unfold In64; omega
theorem in2 : In64 2 := by unfold In64; omega
theorem inm : In64 (-1) := by unfold In64; omega

theorem world3 (w : World) : ClsAt (((w.alloc o1).alloc o2).alloc (o3 w.heap.size)) (w.heap.size + 3) (.slice (some ⟨w.heap.size + 2, 0, none⟩) 2 2) c12 := by
  have s1 : (w.alloc o1).heap.size = w.heap.size + 1 := by simp
  have s2 : ((w.alloc o1).alloc o2).heap.size = w.heap.size + 2 := by simp
  have a1 : Whole (((w.alloc o1).alloc o2).alloc (o3 w.heap.size)) w.heap.size 3 ([1, 2].map (Value.int .i64)) :=
    ((Whole.new w 3 ([1, 2].map (Value.int .i64))).below ((Below.refl _ _).alloc (Nat.le_refl _) o2) (by show w.heap.size < (w.alloc o1).heap.size; omega)).below ((Below.refl _ _).alloc (Nat.le_refl _) (o3 w.heap.size)) (by show w.heap.size < ((w.alloc o1).alloc o2).heap.size; omega)
  have a2 : Whole (((w.alloc o1).alloc o2).alloc (o3 w.heap.size)) (w.heap.size + 1) 3 ([-1, 2].map (Value.int .i64)) := by
    have := (Whole.new (w.alloc o1) 3 ([-1, 2].map (Value.int .i64))).below ((Below.refl _ _).alloc (Nat.le_refl _) (o3 w.heap.size)) (by simp)
    rw [s1] at this; exact this
  have a3 : Whole (((w.alloc o1).alloc o2).alloc (o3 w.heap.size)) (w.heap.size + 2) 30 [.slice (some ⟨w.heap.size, 0, none⟩) 2 2, .slice (some ⟨w.heap.size + 1, 0, none⟩) 2 2] := by
    have := Whole.new ((w.alloc o1).alloc o2) 30 [.slice (some ⟨w.heap.size, 0, none⟩) 2 2, .slice (some ⟨w.heap.size + 1, 0, none⟩) 2 2]
    rw [s2] at this; exact this
  refine cls_block (l := c12) a3 (by omega) (by decide) rfl (fun i hi => ?_) 2
  rcases (show i = 0 ∨ i = 1 by simp [c12] at hi; omega) with rfl | rfl
  · exact ints_block a1 (by omega) (by decide) (by intro x hx; simp at hx; rcases hx with rfl | rfl; exact in1; exact in2) 2
  · exact ints_block a2 (by omega) (by decide) (by intro x hx; simp at hx; rcases hx with rfl | rfl; exact inm; exact in2) 2
theorem world5 (w : World) (x : Int) (hx : In64 x) : ClsAt ((w.alloc (o4 x)).alloc (o5 w.heap.size)) (w.heap.size + 2) (.slice (some ⟨w.heap.size + 1, 0, none⟩) 1 1) [[x]] := by
  have s1 : (w.alloc (o4 x)).heap.size = w.heap.size + 1 := by simp
  have a1 : Whole ((w.alloc (o4 x)).alloc (o5 w.heap.size)) w.heap.size 3 ([x].map (Value.int .i64)) :=
    (Whole.new w 3 ([x].map (Value.int .i64))).below ((Below.refl _ _).alloc (Nat.le_refl _) (o5 w.heap.size)) (by show w.heap.size < (w.alloc (o4 x)).heap.size; omega)
  have a2 : Whole ((w.alloc (o4 x)).alloc (o5 w.heap.size)) (w.heap.size + 1) 30 [.slice (some ⟨w.heap.size, 0, none⟩) 1 1] := by
    have := Whole.new (w.alloc (o4 x)) 30 [.slice (some ⟨w.heap.size, 0, none⟩) 1 1]
    rw [s1] at this; exact this
  refine cls_block (l := [[x]]) a2 (by omega) (by unfold maxLen; simp) rfl (fun i hi => ?_) 1
  obtain rfl : i = 0 := by simp at hi; omega
  exact ints_block a1 (by omega) (by unfold maxLen; simp) (by intro y hy; simp at hy; rw [hy]; exact hx) 1

theorem alloc_below (w : World) (o : Obj) (B : Nat) (h : B ≤ w.heap.size) : Below B w (w.alloc o) := (Below.refl _ _).alloc h o

set_option maxRecDepth 100000 in
set_option maxHeartbeats 1000000 in
theorem alive_any (w : World) : Calls Try.prog 8 #[] w fun e w' => e = .returned (.bool true) ∧ Below w.heap.size w w' := by
  have hA := world3 w
  have hW3 : ∀ W, W = ((w.alloc o1).alloc o2).alloc (o3 w.heap.size) → W.heap.size = w.heap.size + 3 := by intro W h; rw [h]; simp
  have HCK : Hid (∀ W : World, W.heap.size = w.heap.size + 3 → ClsAt W (w.heap.size + 3) (.slice (some ⟨w.heap.size + 2, 0, none⟩) 2 2) c12 → Calls Try.prog 11 #[.slice (some ⟨w.heap.size + 2, 0, none⟩) 2 2, .slice (some ⟨w.heap.size + 3 + 1, 0, none⟩) 1 1] ((W.alloc (o4 2)).alloc (o5 (w.heap.size + 3))) fun e w' => e = .returned (.int .i64 (-1)) ∧ Below (w.heap.size + 5) ((W.alloc (o4 2)).alloc (o5 (w.heap.size + 3))) w') := Lib.hid (fun W hs hc => by
    have h5 := world5 W 2 in2
    rw [hs] at h5
    have hsz : ((W.alloc (o4 2)).alloc (o5 (w.heap.size + 3))).heap.size = w.heap.size + 5 := by simp [hs]
    have hc5 := ((hc.keep (alloc_below W (o4 2) _ (by omega))).keep (alloc_below (W.alloc (o4 2)) (o5 (w.heap.size + 3)) _ (by simp; omega))).mono (show w.heap.size + 3 ≤ w.heap.size + 5 by omega)
    have := Check_any _ (w.heap.size + 5) _ _ c12 [[2]] hc5 h5 (by omega) (by decide) (by decide) (by decide) (by decide)
    rw [bad1, hsz] at this
    exact this)
  have HCK2 : Hid (∀ W : World, ClsAt W W.heap.size (.slice (some ⟨w.heap.size + 2, 0, none⟩) 2 2) c12 → Calls Try.prog 11 #[.slice (some ⟨w.heap.size + 2, 0, none⟩) 2 2, .slice (some ⟨W.heap.size + 1, 0, none⟩) 1 1] ((W.alloc (o4 1)).alloc (o5 W.heap.size)) fun e w' => e = .returned (.int .i64 0) ∧ Below (W.heap.size + 2) ((W.alloc (o4 1)).alloc (o5 W.heap.size)) w') := Lib.hid (fun W hc => by
    have h5 := world5 W 1 in1
    have hsz : ((W.alloc (o4 1)).alloc (o5 W.heap.size)).heap.size = W.heap.size + 2 := by simp
    have hc5 := ((hc.keep (alloc_below W (o4 1) _ (Nat.le_refl _))).keep (alloc_below (W.alloc (o4 1)) (o5 W.heap.size) _ (by simp))).mono (show W.heap.size ≤ W.heap.size + 2 by omega)
    have := Check_any _ (W.heap.size + 2) _ _ c12 [[1]] hc5 h5 (by omega) (by decide) (by decide) (by decide) (by decide)
    rw [bad2, hsz] at this
    exact this)
  have HA := Lib.hid hA
  have HB0 : Hid (Below w.heap.size w ((((w.alloc o1).alloc o2).alloc (o3 w.heap.size)).alloc (o4 2) |>.alloc (o5 (w.heap.size + 3)))) := Lib.hid (((((((Below.refl w.heap.size w).alloc (Nat.le_refl _) o1).alloc (by simp) o2).alloc (by simp; omega) (o3 w.heap.size)).alloc (by simp; omega) (o4 2)).alloc (by simp; omega) (o5 (w.heap.size + 3))))
  have HK : Hid (∀ w1 : World, Below (w.heap.size + 5) ((((w.alloc o1).alloc o2).alloc (o3 w.heap.size)).alloc (o4 2) |>.alloc (o5 (w.heap.size + 3))) w1 → ClsAt w1 w1.heap.size (.slice (some ⟨w.heap.size + 2, 0, none⟩) 2 2) c12) := Lib.hid (fun w1 hb => by
    have hs : (((w.alloc o1).alloc o2).alloc (o3 w.heap.size)).heap.size = w.heap.size + 3 := by simp
    have h1 := (HA.out.keep (alloc_below _ (o4 2) _ (by omega))).keep (alloc_below ((((w.alloc o1).alloc o2).alloc (o3 w.heap.size)).alloc (o4 2)) (o5 (w.heap.size + 3)) _ (by simp))
    have := h1.keep (hb.mono (by omega))
    refine this.mono ?_
    have h2 := hb.size
    simp at h2; omega)
  clear hA hW3
  unfold o1 o2 o3 o4 o5 at *
  go_enter Try.func8, Try.ntmps8
  go_wp2_with fail
  refine (HCK.out _ (by simp) HA.out).mono ?_
  rintro e w1 ⟨rfl, hb1⟩
  have HC1 := Lib.hid (HK.out w1 hb1)
  have HB1 := Lib.hid (HB0.out.trans (hb1.mono (by omega)))
  clear hb1 HCK HA HK HB0
  go_wp2_with fail
  refine (HCK2.out w1 HC1.out).mono ?_
  rintro e w2 ⟨rfl, hb2⟩
  have HB2 := Lib.hid (((HB1.out.alloc HB1.out.size _).alloc (by simp; have := HB1.out.size; omega) _).trans (hb2.mono (by have := HB1.out.size; omega)))
  clear hb2 HCK2 HC1
  go_wp2
  go_ret
  exact ⟨rfl, HB2.out⟩

def SomeB (w : World) (e : Ending) (w' : World) : Prop := ∃ b : Bool, e = .returned (.bool b) ∧ w = w'
set_option maxRecDepth 100000 in
set_option maxHeartbeats 1000000 in
theorem Right_some (cv : Value) (cl : List (List Int)) (vars : Int) (w : World) (B : Nat) (hc : ClsAt w B cv cl) (h1 : 0 ≤ vars) (h2 : vars ≤ 1000) :
    Calls Try.prog 10 #[cv, .int .i64 vars] w (SomeB w) := by
  obtain ⟨ao, cap, b, off, vs, rfl, hcm, ha, hcell, hn⟩ := hc
  have HA := Lib.hid ha
  have HC := Lib.hid hcell
  have HN := Lib.hid hn
  unfold maxLen at hcm
  clear ha hcell hn
  go_enter Try.func10, Try.ntmps10
  go_wp2
  go_loop [11] (fun it => ∃ k : Nat, k ≤ cl.length ∧ it = .int .i64 k) (fun it => cl.length - (intOf it).toNat)
  case atStart => exact ⟨0, Nat.zero_le _, rfl⟩
  case round =>
    obtain ⟨k, hk, rfl⟩ := hrel
    by_cases hlt : k < cl.length
    · obtain ⟨rfl, hbB⟩ := HA.out (by intro h0; rw [h0] at hlt; simp at hlt)
      have q := HC.out k hlt
      obtain ⟨ai, capi, bi, offi, hvi, hmi, hai, hci, h64⟩ := HN.out k hlt
      unfold maxLen at hmi
      rw [hvi] at q
      have HAI := Lib.hid hai
      have HCI := Lib.hid hci
      have H64 := Lib.hid h64
      generalize cl.getD k [] = c at *
      clear hvi hai hci h64
      go_wp2
      go_loop [17] (fun it => ∃ j : Nat, j ≤ c.length ∧ it = .int .i64 j) (fun it => c.length - (intOf it).toNat)
      case atStart => exact ⟨0, Nat.zero_le _, rfl⟩
      case round =>
        clear q
        obtain ⟨j, hj, rfl⟩ := hrel
        by_cases hjl : j < c.length
        · obtain ⟨rfl, hbi⟩ := HAI.out (by intro h0; rw [h0] at hjl; simp at hjl)
          have q := HCI.out j hjl
          have hin := H64.out _ (getD_mem (d := 0) hjl)
          obtain ⟨i1, i2⟩ := hin
          generalize c.getD j 0 = l at *
          by_cases g0 : l = 0
          · subst g0
            go_wp2
            go_ret
            exact ⟨false, rfl, rfl⟩
          · have g0' : (l == 0) = false := by simpa using g0
            by_cases g1 : vars < l
            · clear g0
              go_wp2
              go_ret
              exact ⟨false, rfl, rfl⟩
            · by_cases g2 : l < -vars
              · clear g0
                go_wp2
                go_ret
                exact ⟨false, rfl, rfl⟩
              · clear g0
                go_wp2
                go_round
                case rel => exact ⟨j + 1, by omega, by go_num⟩
                case measure => simp [intOf]; omega
        · obtain rfl : j = c.length := by omega
          go_wp2
          go_round
          case rel => exact ⟨k + 1, by omega, by go_num⟩
          case measure => simp [intOf]; omega
    · obtain rfl : k = cl.length := by omega
      go_wp2
      go_ret
      exact ⟨true, rfl, rfl⟩

theorem snd_law {cl log : List (List Int)} (h : bad cl log = -1) (m : List Bool) (hm : allIn cl m = true) : allIn log m = true := by
  have hg : ∀ j, j < log.length → pl (cl ++ log.take j) (log.getD j []) = true := by
    rcases bad_cases cl log with ⟨_, hg⟩ | ⟨i, hi, he, _⟩
    · exact hg
    · rw [h] at he; omega
  have key : ∀ j, j ≤ log.length → ∀ c ∈ log.take j, trueIn c m = true := by
    intro j
    induction j with
    | zero => intro _ c hc; simp at hc
    | succ j ih =>
      intro hj c hc
      rw [List.take_succ_eq_append_getElem (by omega), List.mem_append] at hc
      rcases hc with hc | hc
      · exact ih (by omega) c hc
      · simp only [List.mem_singleton] at hc
        have hcd : c = log.getD j [] := by rw [hc, List.getD_eq_getElem?_getD, List.getElem?_eq_getElem (by omega)]; rfl
        by_cases ht : trueIn c m = true
        · exact ht
        · exfalso
          have hp := pl_iff.1 (hg j (by omega))
          rw [← hcd] at hp
          refine sound (fun l => holds l m = true) (fun l hl => holds_neg m hl) (fun l hl hlit => ?_) (fun d hd => ?_) hp
          · obtain ⟨x, hx, rfl⟩ := List.mem_map.1 hl
            rw [holds_neg m (lit_back hlit)]
            intro hh
            exact ht (List.any_eq_true.2 ⟨x, hx, hh⟩)
          · have hd' : trueIn d m = true := by
              rcases List.mem_append.1 hd with hd | hd
              · exact List.all_eq_true.1 hm d hd
              · exact ih (by omega) d hd
            obtain ⟨l, hl, hh⟩ := List.any_eq_true.1 hd'
            refine ⟨l, hl, ?_, hh⟩
            unfold holds at hh
            simp only [Bool.and_eq_true, decide_eq_true_eq] at hh
            exact hh.1
  exact List.all_eq_true.2 fun c hc => key log.length (Nat.le_refl _) c (by rw [List.take_length]; exact hc)
theorem bad_ge {cl log : List (List Int)} (h : bad cl log < 0) : bad cl log = -1 := by
  rcases bad_cases cl log with ⟨h1, _⟩ | ⟨i, _, h1, _⟩
  · exact h1
  · omega
theorem bools_row {w : World} {B g : Nat} {e : TypeId} {bs : List Bool} (h : w.ownsRow B e 1 (.slice (some ⟨g, 0, none⟩) bs.length bs.length) bs.length (bs.map Value.bool)) (hm : bs.length ≤ maxLen) : BoolsAt w w.heap.size (.slice (some ⟨g, 0, none⟩) bs.length bs.length) bs := by
  refine ⟨_, _, g, 0, rfl, hm, fun _ => ⟨rfl, (h.lt g rfl).2⟩, fun i hi => ?_⟩
  rw [Nat.zero_add, h.cellAt i (by omega), List.getElem?_map, List.getElem?_eq_getElem hi, List.getD_eq_getElem?_getD, List.getElem?_eq_getElem hi]; rfl

set_option maxRecDepth 100000 in
set_option maxHeartbeats 4000000 in
theorem law_sound (cv lv : Value) (cl log : List (List Int)) (w : World) (hc : ClsAt w w.heap.size cv cl) (hl : ClsAt w w.heap.size lv log) :
    Calls Try.prog 3 #[cv, lv] w fun e w' => e = .returned (.bool true) ∧ Below w.heap.size w w' := by
  have HC := Lib.hid hc
  have HL := Lib.hid hl
  have HAL := Lib.hid (alive_any w)
  obtain ⟨ac, capc, bc, offc, vsc, rfl, _, _, _, _⟩ := hc
  obtain ⟨al, capl, bl, offl, vsl, rfl, _, _, _, _⟩ := hl
  obtain ⟨iB, hiB, hzB0, hzB1, hzB2⟩ := info_parts proofJ.infoB
  go_enter Try.func3, Try.ntmps3
  go_wp2_with fail
  refine HAL.out.mono ?_
  rintro e w1 ⟨rfl, hb1⟩
  have HB1 := Lib.hid hb1
  have hC1 := HC.out.keep hb1
  have hL1 := HL.out.keep hb1
  have HBG := Lib.hid (big_any _ _ cl log w1 w.heap.size hC1 hL1)
  have hs1 := hb1.size
  have HR1 := Lib.hid (Right_some _ cl 8 w1 w.heap.size hC1 (by omega) (by omega))
  have HR2 := Lib.hid (Right_some _ log 8 w1 w.heap.size hL1 (by omega) (by omega))
  have HCK := Lib.hid (fun (hf : Few cl log) => Check_any w1 w.heap.size _ _ cl log hC1 hL1 hs1 (by have := hf.1; omega) (by have := hf.2.2.1; omega) (fun c hc => by have := hf.2.1 c hc; omega) (fun c hc => by have := hf.2.2.2 c hc; omega))
  clear hb1 hC1 hL1 HAL
  go_wp2_with fail
  refine HBG.out.mono ?_
  rintro e w2 ⟨b, rfl, rfl, hf⟩
  cases b
  rotate_left
  · clear hf HBG
    go_wp2
    go_ret
    exact ⟨rfl, HB1.out⟩
  have HCK2 := Lib.hid (HCK.out (hf rfl))
  clear hf HBG HCK
  go_wp2_with fail
  refine HR1.out.mono ?_
  rintro e w2 ⟨b, rfl, rfl⟩
  cases b
  · clear HR1 HR2
    go_wp2
    go_ret
    exact ⟨rfl, HB1.out⟩
  go_wp2_with fail
  refine HR2.out.mono ?_
  rintro e w2 ⟨b, rfl, rfl⟩
  cases b
  · clear HR1 HR2
    go_wp2
    go_ret
    exact ⟨rfl, HB1.out⟩
  clear HR1 HR2
  go_wp2_with fail
  refine HCK2.out.mono ?_
  rintro e w2 ⟨rfl, hb2⟩
  have HB2 := Lib.hid (HB1.out.trans (hb2.mono hs1))
  have hs2 := hb2.size
  clear hb2 HCK2
  by_cases hbad : 0 ≤ bad cl log
  · generalize bad cl log = z at *
    go_wp2
    go_ret
    exact ⟨rfl, HB2.out⟩
  have HSN := Lib.hid (snd_law (bad_ge (Int.not_le.1 hbad)))
  generalize bad cl log = z at *
  have hbz : decide (0 ≤ z) = false := decide_eq_false hbad
  go_wp2
  go_loopw [29] (fun it wr => ∃ k : Nat, k ≤ 256 ∧ it = .int .i64 k ∧ Below w.heap.size w wr) (fun it _ => 256 - (intOf it).toNat)
  case atStart => exact ⟨0, by omega, rfl, HB2.out⟩
  case round =>
    obtain ⟨k, hk, rfl, hb⟩ := hrel
    by_cases hlt : k < 256
    · have HB := Lib.hid hb
      have hsz := hb.size
      clear hb
      go_wp2_with (at_make; refine wpList_make_full _ rfl _ _ 27 rfl w.heap.size 4 iB (.bool false) 1 Try.underlying27 hiB hzB0 hzB1 .i64 .i64 _ _ 8 rfl rfl rfl rfl ?c3 ?c4 ?c5 ?_)
      case c3 => rw [hzB2]; omega
      case c4 => unfold maxLen; omega
      case c5 => exact hsz
      intro w3 hown3 hgrow3
      rw [toList_madeCells_one] at hown3
      have HO3 : Hid (w3.ownsRow w.heap.size 4 1 (.slice (some ⟨wr.heap.size, 0, none⟩) 8 8) 8 ((List.replicate 8 false).map Value.bool)) := Lib.hid (by simpa using hown3)
      have HB3 := Lib.hid (HB.out.grown hgrow3 hsz (by intro k hk; cases hk))
      generalize wr.heap.size = g at *
      clear hown3 hgrow3
      go_wp2
      obtain ⟨wo, hwo⟩ : ∃ wo : World, wo = wr := ⟨_, rfl⟩
      clear hwo
      go_loopw [35] (fun it wr => ∃ (i : Nat) (bs : List Bool), i ≤ 8 ∧ bs.length = 8 ∧ it = .int .i64 i ∧ wr.ownsRow w.heap.size 4 1 (.slice (some ⟨g, 0, none⟩) 8 8) 8 (bs.map Value.bool) ∧ Below w.heap.size w wr) (fun it _ => 8 - (intOf it).toNat)
      case atStart => exact ⟨0, List.replicate 8 false, by omega, rfl, rfl, HO3.out, HB3.out⟩
      case round =>
        clear HO3 HB3
        obtain ⟨i, bs, hi, hbs, rfl, hown, hb⟩ := hrel
        have HO := Lib.hid hown
        have HBX := Lib.hid hb
        have HBS := Lib.hid hbs
        by_cases hil : i < 8
        · have q := hown.cellAt i (by omega)
          rw [List.getElem?_map, List.getElem?_eq_getElem (by omega)] at q
          simp only [Option.map_some] at q
          have zf := hown.frozenAt i
          generalize bs[i] = o at *
          have hgB : w.heap.size ≤ g := (hown.lt g rfl).1
          have HNX : Hid (∀ b : Bool, ∃ bs' : List Bool, bs'.length = 8 ∧ (wr.setCell ⟨g, i, none⟩ (.bool b)).ownsRow w.heap.size 4 1 (.slice (some ⟨g, 0, none⟩) 8 8) 8 (bs'.map Value.bool)) := Lib.hid (fun b => ⟨bs.set i b, by simpa using HBS.out, by rw [List.map_set]; exact (HO.out.stored i (.bool b)).1⟩)
          have HNB : Hid (∀ b : Bool, Below w.heap.size w (wr.setCell ⟨g, i, none⟩ (.bool b))) := Lib.hid (fun b => HBX.out.setCell hgB _)
          clear hown hb hbs
          go_wp2
          go_roundw
          case rel =>
            obtain ⟨bs', h1, h2⟩ := HNX.out _
            exact ⟨i + 1, bs', by omega, h1, by go_num, h2, HNB.out _⟩
          case measure => simp [intOf]; omega
        · obtain rfl : i = 8 := by omega
          have hsx := hb.size
          have hbo : BoolsAt wr wr.heap.size (.slice (some ⟨g, 0, none⟩) 8 8) bs := by
            have := bools_row (bs := bs) (g := g) (w := wr) (B := w.heap.size) (e := 4) (by rw [hbs]; exact hown) (by unfold maxLen; omega)
            rw [hbs] at this; exact this
          have HA1 := Lib.hid (All_any _ _ cl bs wr w.heap.size wr.heap.size (HC.out.keep hb) hbo)
          have HA2 := Lib.hid (All_any _ _ log bs wr w.heap.size wr.heap.size (HL.out.keep hb) hbo)
          have HSM := Lib.hid (HSN.out bs)
          generalize hra : allIn cl bs = ra at *
          generalize hrb : allIn log bs = rb at *
          clear hown hb hbs hbo hra hrb
          go_wp2_with fail
          refine HA1.out.mono ?_
          rintro e w4 ⟨rfl, rfl⟩
          cases ra
          · clear HSM HA1 HA2
            go_wp2
            go_roundw
            case rel => exact ⟨k + 1, by omega, by go_num, HBX.out⟩
            case measure => simp [intOf]; omega
          · have hrbt := HSM.out rfl
            subst hrbt
            clear HSM HA1
            go_wp2_with fail
            refine HA2.out.mono ?_
            rintro e w4 ⟨rfl, rfl⟩
            clear HA2
            go_wp2
            go_roundw
            case rel => exact ⟨k + 1, by omega, by go_num, HBX.out⟩
            case measure => simp [intOf]; omega
    · obtain rfl : k = 256 := by omega
      have HB := Lib.hid hb
      clear hb
      go_wp2
      go_ret
      exact ⟨rfl, HB.out⟩
end Go.Proofs.Ytojjjndhabjhdaa.proofO
