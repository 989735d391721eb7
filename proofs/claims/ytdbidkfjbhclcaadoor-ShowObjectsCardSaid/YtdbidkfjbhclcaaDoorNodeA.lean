/-
  Contracts: haversackref04.Depth, haversackref04.Size.
-/
import Derived.Test.YtdbidkfjbhclcaaDoorNodM
import Derived.WalkSmall
import Derived.Lib.Hide
import Derived.Test.YtdbidkfjbhclcaaDoorBld
import Derived.Test.YtdbidkfjbhclcaaDoorChecked
import Derived.WalkKit
import Derived.ProofKit
import Derived.RegionTactic
import Derived.BigRegion
import Derived.Deep.QuietTactic
import Derived.BigQuiet
import Derived.IntWalk
import Derived.Handy
import Derived.Deep.LoopGhost
import Derived.WalkLawsBesides
import Derived.WalkSpells
namespace Go.Proofs.YtdbidkfjbhclcaaDoor.nodeA
open Go.ChangeShapes Go.WideShapes Go.ChangeAt Go.RowKit nodeP nodeQ

/-- a kid's cells -/
theorem kid_cells {w : World} {B : Nat} {ls : Nat → List Value} {cs : List Nd} {b off i : Nat} (hc : ∀ i, i < cs.length → ∀ j, j < 5 → w.cell? ⟨b, off + 5 * i + j, none⟩ = (ls i)[j]?) (hn : ∀ i (h : i < cs.length), NodeAt w B cs[i] (ls i)) (hi : i < cs.length) :
    ∃ k n t ak lk ck ac lc cc, NodeAt w B cs[i] [.int .i64 k, .int .i64 n, .string t, .slice ak lk ck, .slice ac lc cc] ∧
      w.cell? ⟨b, off + i * 5, none⟩ = some (.int .i64 k) ∧ w.cell? ⟨b, off + i * 5 + 1, none⟩ = some (.int .i64 n) ∧ w.cell? ⟨b, off + i * 5 + 2, none⟩ = some (.string t) ∧ w.cell? ⟨b, off + i * 5 + 3, none⟩ = some (.slice ak lk ck) ∧ w.cell? ⟨b, off + i * 5 + 4, none⟩ = some (.slice ac lc cc) := by
  have h := hn i hi
  have c := hc i hi
  generalize cs[i] = x at h
  generalize ls i = l at *
  cases x with
  | mk k n t ks cs' =>
  obtain ⟨kv, cv, rfl, _, _, _, ⟨ak, ck, _, _, rfl, _⟩, ⟨ac, cc, _, _, _, rfl, _⟩⟩ := h.open
  rw [Nat.mul_comm i 5]
  exact ⟨k, n, t, _, _, _, _, _, _, h, c 0 (by omega), c 1 (by omega), c 2 (by omega), c 3 (by omega), c 4 (by omega)⟩
/-- .. in a later world -/
theorem kid_at {w wr : World} {ls : Nat → List Value} {cs : List Nd} {b off i : Nat} (hc : ∀ i, i < cs.length → ∀ j, j < 5 → w.cell? ⟨b, off + 5 * i + j, none⟩ = (ls i)[j]?) (hn : ∀ i (h : i < cs.length), NodeAt w w.heap.size cs[i] (ls i)) (hi : i < cs.length) {B : Nat} (hbs : b < B) (hb : Below B w wr) :
    ∃ k n t ak lk ck ac lc cc, NodeAt w w.heap.size cs[i] [.int .i64 k, .int .i64 n, .string t, .slice ak lk ck, .slice ac lc cc] ∧
      wr.cell? ⟨b, off + i * 5, none⟩ = some (.int .i64 k) ∧ wr.cell? ⟨b, off + i * 5 + 1, none⟩ = some (.int .i64 n) ∧ wr.cell? ⟨b, off + i * 5 + 2, none⟩ = some (.string t) ∧ wr.cell? ⟨b, off + i * 5 + 3, none⟩ = some (.slice ak lk ck) ∧ wr.cell? ⟨b, off + i * 5 + 4, none⟩ = some (.slice ac lc cc) := by
  obtain ⟨k, n, t, ak, lk, ck, ac, lc, cc, h, q0, q1, q2, q3, q4⟩ := kid_cells hc hn hi
  exact ⟨k, n, t, ak, lk, ck, ac, lc, cc, h, by rw [hb.cell hbs]; exact q0, by rw [hb.cell hbs]; exact q1, by rw [hb.cell hbs]; exact q2, by rw [hb.cell hbs]; exact q3, by rw [hb.cell hbs]; exact q4⟩

theorem dps_le : ∀ (cs : List Nd) (i : Nat), dps (cs.take i) ≤ dps cs
  | [], i => by simp
  | c :: cs, 0 => by simp [dps]
  | c :: cs, i + 1 => by have := dps_le cs i; simp [dps]; omega
theorem stays {w w' : World} {x : Nd} {l : List Value} (h : NodeAt w w.heap.size x l) (hb : Below w.heap.size w w') : NodeAt w' w'.heap.size x l := (h.keep hb).mono hb.size

set_option maxHeartbeats 1000000 in
set_option maxRecDepth 100000 in
theorem depth_any : ∀ (x : Nd) (l : List Value) (w : World), NodeAt w w.heap.size x l → (dp x : Int) ≤ 100000 →
    Calls Tryd.prog 8 #[.agg l.toArray] w fun e w' => e = .returned (.int .i64 (dp x)) ∧ Below w.heap.size w w' := by
  intro x
  induction x using Nd.ind with
  | _ k n t ks cs ih =>
  intro l w hx hd
  obtain ⟨kv, cv, rfl, _, _, _, _, hcv⟩ := hx.open
  obtain ⟨ao, cap, b, off, ls, rfl, hm, ha, hc, hn⟩ := hcv
  have hD : Hid (∀ i (h : i < cs.length), dps (cs.take (i + 1)) = max (dps (cs.take i)) (1 + dp cs[i]) ∧ 1 + dp cs[i] ≤ dps cs) := Lib.hid (fun i h => ⟨dps_take cs i h, dps_mem (List.getElem_mem h)⟩)
  have hlen : Hid (cs.take cs.length = cs) := Lib.hid List.take_length
  have HX := Lib.hid ih
  have HC := Lib.hid hc
  have HN := Lib.hid hn
  have HA := Lib.hid ha
  simp only [dp] at hd ⊢
  have h00 : Hid (dps (cs.take 0) = 0) := Lib.hid (by simp [dps])
  have hmI : (cs.length : Int) ≤ 9223372036854775807 := by unfold maxLen at hm; omega
  clear hc hn ih hx ha hm
  go_enter Tryd.func8, Tryd.ntmps8
  go_wp2
  go_loopw [3, 10] (fun d i wr => ∃ (m : Nat), m ≤ cs.length ∧ i = .int .i64 m ∧ d = .int .i64 (dps (cs.take m)) ∧ Below w.heap.size w wr) (fun _ i _ => cs.length - (intOf i).toNat)
  case atStart => exact ⟨0, Nat.zero_le _, rfl, by rw [h00.out]; rfl, (Below.refl _ _).alloc (Nat.le_refl _) _⟩
  case round =>
    obtain ⟨m, hm1, rfl, rfl, hb⟩ := hrel
    by_cases hlt : m < cs.length
    · obtain ⟨rfl, hbs⟩ := HA.out (by intro h0; rw [h0] at hlt; simp at hlt)
      obtain ⟨k', n', t', ak, lk, ck, ac, lc, cc, hkid, q0, q1, q2, q3, q4⟩ := kid_at HC.out HN.out hlt hbs hb
      have HK := Lib.hid hkid
      have HB := Lib.hid hb
      have hsz := hb.size
      have hle : (dp cs[m] : Int) ≤ 99999 := by have := (hD.out m hlt).2; omega
      have hdl : (dps (cs.take m) : Int) ≤ 100000 := by have := hD.out m hlt; have := dps_le cs m; omega
      have hT := Lib.hid (hD.out m hlt).1
      have HD := Lib.hid (HX.out cs[m] (List.getElem_mem hlt))
      clear hkid hb
      generalize cs[m] = x at *
      generalize dps (cs.take m) = D at *
      go_wp2_with fail
      refine (HD.out _ _ (stays HK.out (HB.out.alloc hsz _)) (by omega)).mono ?_
      rintro e w1 ⟨rfl, hb1⟩
      have HB1 := Lib.hid (HB.out.alloc hsz _ |>.trans (Go.Joins.below_le hb1 (by simp; omega)))
      clear hb1 q0 q1 q2 q3 q4
      by_cases hgt : D < 1 + dp x
      · have hI : (D : Int) < 1 + (dp x : Int) := by omega
        go_wp2
        go_roundw
        case rel => exact ⟨m + 1, by omega, by go_num, by rw [hT.out]; congr 1; omega, HB1.out⟩
        case measure => simp [intOf]; omega
      · have hI : ¬ ((D : Int) < 1 + (dp x : Int)) := by omega
        go_wp2
        go_roundw
        case rel => exact ⟨m + 1, by omega, by go_num, by rw [hT.out]; congr 1; omega, HB1.out⟩
        case measure => simp [intOf]; omega
    · have hem : m = cs.length := by omega
      subst hem
      go_wp2
      go_ret
      exact ⟨by rw [hlen.out]; rfl, hb⟩

theorem sumL_take (ks : List ByteArray) (m : Nat) (h : m < ks.length) : sumL (ks.take (m + 1)) = sumL (ks.take m) + (ks.getD m ByteArray.empty).size := by
  induction ks generalizing m with
  | nil => simp at h
  | cons k ks ih =>
    cases m with
    | zero => simp [sumL]
    | succ m =>
      have := ih m (by simpa using h)
      simp [sumL] at this ⊢
      omega
theorem sumL_le (ks : List ByteArray) (m : Nat) : sumL (ks.take m) ≤ sumL ks := by
  induction ks generalizing m with
  | nil => simp
  | cons k ks ih =>
    cases m with
    | zero => simp [sumL]
    | succ m => have := ih m; simp [sumL] at this ⊢; omega
def SizeP (x : Nd) (most z : Int) (w w' : World) : Prop :=
  0 ≤ z ∧ z ≤ 2 * most + 1 ∧ (z ≤ most → z = (sz x : Int)) ∧ Below w.heap.size w w'

set_option maxHeartbeats 2000000 in
set_option maxRecDepth 100000 in
theorem size_any : ∀ (x : Nd) (l : List Value) (w : World) (most d : Int), NodeAt w w.heap.size x l → 0 ≤ most → most ≤ 100000 → 0 ≤ d → d ≤ 101 →
    Calls Tryd.prog 7 #[.agg l.toArray, .int .i64 most, .int .i64 d] w fun e w' => ∃ z : Int, e = .returned (.int .i64 z) ∧ SizeP x most z w w' := by
  intro x
  induction x using Nd.ind with
  | _ k n t ks cs ih =>
  intro l w most d hx h0 h1 h2 h3
  obtain ⟨kv, cv, rfl, _, _, htm, hkv, hcv⟩ := hx.open
  obtain ⟨ao, cap, b, off, ls, rfl, hm, ha, hc, hn⟩ := hcv
  obtain ⟨ak, capk, bk, offk, rfl, hmk, hak, hck, hsk⟩ := hkv
  have HX := Lib.hid ih
  have HC := Lib.hid hc
  have HN := Lib.hid hn
  have HA := Lib.hid ha
  have HCK := Lib.hid hck
  have HAK := Lib.hid hak
  have HSK := Lib.hid hsk
  have hmI : (cs.length : Int) ≤ 9223372036854775807 := by unfold maxLen at hm; omega
  have hkI : (ks.length : Int) ≤ 9223372036854775807 := by unfold maxLen at hmk; omega
  have htI : (t.size : Int) ≤ 9223372036854775807 := by unfold maxLen at htm; omega
  have HP : Hid (∀ (z : Int) (w' : World), 0 ≤ z → z ≤ 2 * most + 1 → (z ≤ most → z = 1 + t.size + ks.length + sumL ks + szs cs) → Below w.heap.size w w' → SizeP (.mk k n t ks cs) most z w w') :=
    Lib.hid (fun z w' a b c d => ⟨a, b, fun h => by rw [c h]; simp [sz], d⟩)
  have hbox : Hid (∀ o, Below w.heap.size w (w.alloc o)) := Lib.hid (fun o => (Below.refl _ _).alloc (Nat.le_refl _) o)
  clear hc hn ih hx ha hm hck hak hsk hmk htm
  by_cases c1 : 100 < d
  · go_enter Tryd.func7, Tryd.ntmps7
    go_wp2
    go_ret
    exact ⟨most + 1, by go_num, HP.out (most + 1) _ (by omega) (by omega) (fun h => by omega) (hbox.out _)⟩
  · have d100 : d ≤ 100 := by omega
    by_cases c2 : most < (t.size : Int)
    · go_enter Tryd.func7, Tryd.ntmps7
      go_wp2
      go_ret
      exact ⟨most + 1, by go_num, HP.out (most + 1) _ (by omega) (by omega) (fun h => by omega) (hbox.out _)⟩
    · by_cases c3 : most < (ks.length : Int)
      · go_enter Tryd.func7, Tryd.ntmps7
        go_wp2
        go_ret
        exact ⟨most + 1, by go_num, HP.out (most + 1) _ (by omega) (by omega) (fun h => by omega) (hbox.out _)⟩
      · by_cases c4 : most < 1 + (t.size : Int) + (ks.length : Int)
        · go_enter Tryd.func7, Tryd.ntmps7
          go_wp2
          go_ret
          exact ⟨most + 1, by go_num, HP.out (most + 1) _ (by omega) (by omega) (fun h => by omega) (hbox.out _)⟩
        · have hS0 : Hid ((sumL (ks.take 0) : Int) = 0) := Lib.hid (by simp [sumL])
          have hSn : Hid (ks.take ks.length = ks) := Lib.hid List.take_length
          have hZ0 : Hid ((szs (cs.take 0) : Int) = 0) := Lib.hid (by simp [szs])
          have hZn : Hid (cs.take cs.length = cs) := Lib.hid List.take_length
          have HSL := Lib.hid (sumL_take ks)
          have HZL := Lib.hid (szs_take cs)
          have hsum : Hid (∀ m, sumL (ks.take m) ≤ sumL ks) := Lib.hid (sumL_le ks)
          generalize hT : (t.size : Int) = T at *
          go_enter Tryd.func7, Tryd.ntmps7
          go_wp2
          go_loop [7, 9, 46] (fun c _ i => ∃ m : Nat, m ≤ ks.length ∧ i = .int .i64 m ∧ c = .int .i64 (1 + T + (ks.length : Int) + (sumL (ks.take m) : Int)) ∧ 1 + T + (ks.length : Int) + (sumL (ks.take m) : Int) ≤ most) (fun _ _ i => ks.length - (intOf i).toNat)
          case atStart => exact ⟨0, Nat.zero_le _, rfl, by rw [hS0.out]; simp, by rw [hS0.out]; omega⟩
          case round => 
            obtain ⟨m, hm1, rfl, rfl, hmo⟩ := hrel
            by_cases hlt : m < ks.length
            · obtain ⟨rfl, hbs⟩ := HAK.out (by intro h0; rw [h0] at hlt; simp at hlt)
              have q := HCK.out m hlt
              have hmx := HSK.out (ks.getD m ByteArray.empty) (by rw [List.getD_eq_getElem?_getD, List.getElem?_eq_getElem hlt]; exact List.getElem_mem hlt)
              have hst := Lib.hid (HSL.out m hlt)
              have hxI : ((ks.getD m ByteArray.empty).size : Int) ≤ 9223372036854775807 := by unfold maxLen at hmx; omega
              generalize ks.getD m ByteArray.empty = s at *
              generalize hF : (sumL (ks.take m) : Int) = F at *
              have hF0 : 0 ≤ F := by omega
              clear hmx
              by_cases c5 : most < (s.size : Int)
              · go_wp2
                go_ret
                exact ⟨most + 1, by go_num, HP.out (most + 1) _ (by omega) (by omega) (fun h => by omega) (hbox.out _)⟩
              · by_cases c6 : most < 1 + T + (ks.length : Int) + F + (s.size : Int)
                · go_wp2
                  go_ret
                  exact ⟨1 + T + (ks.length : Int) + F + (s.size : Int), by go_num, HP.out _ _ (by omega) (by omega) (fun h => by omega) (hbox.out _)⟩
                · go_wp2
                  go_round
                  case rel => exact ⟨m + 1, by omega, by go_num, by rw [hst.out]; congr 1; omega, by rw [hst.out]; omega⟩
                  case measure => simp [intOf]; omega
            · obtain rfl : m = ks.length := by omega
              rw [hSn.out] at hmo
              rw [hSn.out]
              have hF0 : (0 : Int) ≤ (sumL ks : Int) := by omega
              generalize (sumL ks : Int) = F at *
              go_wp2
              go_loopw [7, 11, 68] (fun c _ i wr => ∃ m : Nat, m ≤ cs.length ∧ i = .int .i64 m ∧ c = .int .i64 (1 + T + (ks.length : Int) + F + (szs (cs.take m) : Int)) ∧ 1 + T + (ks.length : Int) + F + (szs (cs.take m) : Int) ≤ most ∧ Below w.heap.size w wr) (fun _ _ i _ => cs.length - (intOf i).toNat)
              case atStart => exact ⟨0, Nat.zero_le _, rfl, by rw [hZ0.out]; simp, by rw [hZ0.out]; omega, hbox.out _⟩
              case round =>
                obtain ⟨m, hm2, rfl, rfl, hmo2, hb⟩ := hrel
                by_cases hlt : m < cs.length
                · obtain ⟨rfl, hbs⟩ := HA.out (by intro h0; rw [h0] at hlt; simp at hlt)
                  obtain ⟨k', n', t', ak', lk, ck, ac, lc, cc, hkid, q0, q1, q2, q3, q4⟩ := kid_at HC.out HN.out hlt hbs hb
                  have HK := Lib.hid hkid
                  have HB := Lib.hid hb
                  have hsz := hb.size
                  have hT' := Lib.hid (HZL.out m hlt)
                  have HD := Lib.hid (HX.out cs[m] (List.getElem_mem hlt))
                  clear hkid hb
                  generalize cs[m] = x at *
                  generalize hG : (szs (cs.take m) : Int) = G at *
                  have hG0 : 0 ≤ G := by omega
                  go_wp2_with fail
                  refine (HD.out _ _ (most - (1 + T + (ks.length : Int) + F + G)) (d + 1) (stays HK.out (HB.out.alloc hsz _)) (by omega) (by omega) (by omega) (by omega)).mono ?_
                  rintro e w1 ⟨z, rfl, z0, z1, z2, hb1⟩
                  have HB1 := Lib.hid (HB.out.alloc hsz _ |>.trans (Go.Joins.below_le hb1 (by simp; omega)))
                  have Z2 := Lib.hid z2
                  clear hb1 q0 q1 q2 q3 q4 z2
                  by_cases c7 : most < 1 + T + (ks.length : Int) + F + G + z
                  · go_wp2
                    go_ret
                    exact ⟨1 + T + (ks.length : Int) + F + G + z, by go_num, HP.out _ _ (by omega) (by omega) (fun h => by omega) HB1.out⟩
                  · have hz := Z2.out (by omega)
                    go_wp2
                    go_roundw
                    case rel => exact ⟨m + 1, by omega, by go_num, by rw [hT'.out]; go_num, by rw [hT'.out]; omega, HB1.out⟩
                    case measure => simp [intOf]; omega
                · obtain rfl : m = cs.length := by omega
                  rw [hZn.out] at hmo2
                  rw [hZn.out]
                  have HB := Lib.hid hb
                  clear hb
                  go_wp2
                  go_ret
                  exact ⟨_, rfl, HP.out _ _ (by omega) (by omega) (fun _ => rfl) HB.out⟩
end Go.Proofs.YtdbidkfjbhclcaaDoor.nodeA
