/-
  json.right at Arrays and Objects whose kids are looked at (printed by gen_nodeF.py).
-/
import Derived.Test.YtdbidkfjbhclcaaDoorNodeE
import Derived.StillTailTactics
namespace Go.Proofs.YtdbidkfjbhclcaaDoor.nodeF
open Go.ChangeShapes Go.WideShapes Go.ChangeAt Go.RowKit Go.WideMaps Go.Maps nodeP nodeQ nodeA nodeB nodeC nodeD nodeE runesE
set_option linter.unusedSimpArgs false
set_option linter.unusedVariables false

theorem kid_atB {w wr : World} {B : Nat} {ls : Nat → List Value} {cs : List Nd} {b off i : Nat} (hc : ∀ i, i < cs.length → ∀ j, j < 5 → w.cell? ⟨b, off + 5 * i + j, none⟩ = (ls i)[j]?) (hn : ∀ i (h : i < cs.length), NodeAt w B cs[i] (ls i)) (hi : i < cs.length) (hbs : b < B) (hb : Below B w wr) :
    ∃ k n t ak lk ck ac lc cc, NodeAt w B cs[i] [.int .i64 k, .int .i64 n, .string t, .slice ak lk ck, .slice ac lc cc] ∧
      wr.cell? ⟨b, off + i * 5, none⟩ = some (.int .i64 k) ∧ wr.cell? ⟨b, off + i * 5 + 1, none⟩ = some (.int .i64 n) ∧ wr.cell? ⟨b, off + i * 5 + 2, none⟩ = some (.string t) ∧ wr.cell? ⟨b, off + i * 5 + 3, none⟩ = some (.slice ak lk ck) ∧ wr.cell? ⟨b, off + i * 5 + 4, none⟩ = some (.slice ac lc cc) := by
  obtain ⟨k, n, t, ak, lk, ck, ac, lc, cc, h, q0, q1, q2, q3, q4⟩ := kid_cells hc hn hi
  exact ⟨k, n, t, ak, lk, ck, ac, lc, cc, h, by rw [hb.cell hbs]; exact q0, by rw [hb.cell hbs]; exact q1, by rw [hb.cell hbs]; exact q2, by rw [hb.cell hbs]; exact q3, by rw [hb.cell hbs]; exact q4⟩
theorem kids_no {cs : List Nd} {m d : Nat} {z : Int} (hm : m < cs.length) (h : R cs[m] d (z - 1 - (counts (cs.take m) : Int)) = false) : (oks cs d && decide ((1 + counts cs : Int) ≤ z)) = false := by
  rw [Bool.eq_false_iff]
  intro ht
  simp only [Bool.and_eq_true, decide_eq_true_eq, oks_all, List.all_eq_true] at ht
  have h1 := ht.1 _ (List.getElem_mem hm)
  have h2 := counts_take cs m hm
  have h3 := counts_mono cs (m + 1)
  have : R cs[m] d (z - 1 - (counts (cs.take m) : Int)) = true := by
    unfold R; rw [h1]; simp; omega
  rw [this] at h; cases h

set_option maxHeartbeats 4000000 in
set_option maxRecDepth 100000 in
theorem box_6 (t : ByteArray) (ks : List ByteArray) (cs : List Nd) (l : List Value) (w : World) (B L d : Nat) (z : Int) (hx : NodeAt w B (.mk 6 0 t ks cs) l) (hB : B ≤ L) (hBw : B ≤ w.heap.size) (hL : NumAt w L z) (hz : 1 ≤ z) (hz2 : z ≤ 20000) (ht : t.size = 0) (hd : (d : Int) < 32) (hle : (cs.length : Int) ≤ z - 1) (hT : ∀ w', Below B w w' → Tabs w') (hkl : (ks.length : Int) ≤ 100000)
    (ih : ∀ c ∈ cs, ∀ (l : List Value) (w : World) (z : Int), NodeAt w B c l → B ≤ w.heap.size → NumAt w L z → 0 ≤ z → z ≤ 20000 → (∀ w', Below B w w' → Tabs w') →
      Calls Tryd.prog 26 #[.agg l.toArray, .int .i64 ((d : Int) + 1), .pointer (some ⟨L, 0, none⟩)] w fun e w' => e = .returned (.bool (R c (d + 1) z)) ∧ RightP c (d + 1) z L B w (R c (d + 1) z) w') :
    Calls Tryd.prog 26 #[.agg l.toArray, .int .i64 d, .pointer (some ⟨L, 0, none⟩)] w fun e w' => e = .returned (.bool (R (.mk 6 0 t ks cs) d z)) ∧ RightP (.mk 6 0 t ks cs) d z L B w (R (.mk 6 0 t ks cs) d z) w' := by
  have HXX := Lib.hid hx
  obtain ⟨kv, cv, rfl, _, _, htm, hkv, hcv⟩ := hx.open
  obtain ⟨ao, cap, b, off, ls, rfl, hm, ha, hc, hn⟩ := hcv
  obtain ⟨ak, capk, bk, offk, rfl, hmk, hak, hck, hsk⟩ := hkv
  have hlt := hL.lt
  have hne : w.heap.size ≠ L := by omega
  have c1 : ∀ o, (w.alloc o).cell? ⟨L, 0, none⟩ = some (.int .i64 z) := fun o => (hL.alloc o).cell
  have c2 : ∀ o, (w.alloc o).frozen? ⟨L, 0, none⟩ = false := fun o => (hL.alloc o).frozen
  have HL := Lib.hid hL
  have fin : Hid (∀ r o, r = (okAt (.mk 6 0 t ks cs) d && decide ((count (.mk 6 0 t ks cs) : Int) ≤ z)) → (r = true → cs = []) → Ending.returned (.bool r) = .returned (.bool (R (.mk 6 0 t ks cs) d z)) ∧ RightP (.mk 6 0 t ks cs) d z L B w (R (.mk 6 0 t ks cs) d z) ((w.setCell ⟨L, 0, none⟩ (.int .i64 (z - 1))).alloc o)) := Lib.hid (by
    intro r o hr h0
    have hR : R _ d z = r := hr.symm
    rw [hR]
    refine ⟨rfl, hr, ⟨z - 1, (HL.out.set _).alloc o, by omega, by omega, fun h => ?_⟩, ((Below.refl _ _).setCell (p := ⟨L, 0, none⟩) hB _).alloc (by simpa [World.setCell] using hBw) _⟩
    rw [h0 h]; simp [count, counts])
  have hE : t.toList.isEmpty = true := by rw [em, ht]; rfl
  have hd32 : ¬ (32 ≤ (d : Int)) := by omega
  have hle2 : ¬ (z - 1 < (cs.length : Int)) := by omega
  have hok : Hid (okAt (.mk 6 0 t ks cs) d = (rk 6 ks cs.length && oks cs (d + 1))) := Lib.hid (by
    have : decide (d < 32) = true := by simp; omega
    simp [okAt, one, ht, this])
  have HK : Hid (∀ w1, NodeAt w1 w1.heap.size (.mk 6 0 t ks cs) [.int .i64 6, .int .i64 0, .string t, .slice ak ks.length capk, .slice ao cs.length cap] → Tabs w1 →
      Calls Tryd.prog 45 #[.agg #[.int .i64 6, .int .i64 0, .string t, .slice ak ks.length capk, .slice ao cs.length cap]] w1 fun e w' => e = .returned (.bool (rk 6 ks cs.length)) ∧ Below w1.heap.size w1 w') := Lib.hid (fun w1 hN _ => keys_array _ _ w1 hN rfl)
  have HT := Lib.hid hT
  have HX := Lib.hid ih
  have HC := Lib.hid hc
  have HN := Lib.hid hn
  have HA := Lib.hid ha
  have hmI : (cs.length : Int) ≤ 9223372036854775807 := by unfold maxLen at hm; omega
  have hdr : ∀ o, ((w.setCell ⟨L, 0, none⟩ (.int .i64 (z - 1))).alloc o).cell? ⟨L, 0, none⟩ = some (.int .i64 (z - 1)) := fun o => ((HL.out.set _).alloc o).cell
  have HB0 : Hid (∀ o, Below B w ((w.setCell ⟨L, 0, none⟩ (.int .i64 (z - 1))).alloc o)) := Lib.hid (fun o => ((Below.refl _ _).setCell (p := ⟨L, 0, none⟩) hB _).alloc (by simpa [World.setCell] using hBw) _)
  clear hL hx hc hn ha hck hak hsk hm hmk htm ht hT ih hd
  go_enter Tryd.func26, Tryd.ntmps26
  go_wp2
  obtain ⟨w1, hw1⟩ : ∃ w1, w1 = (w.setCell ⟨L, 0, none⟩ (.int .i64 (z - 1))).alloc (.cells #[.int .i64 6, .int .i64 0, .string t, .slice ak ks.length capk, .slice ao cs.length cap] 26) := ⟨_, rfl⟩
  have hbx := box_cell (w.setCell ⟨L, 0, none⟩ (.int .i64 (z - 1))) #[.int .i64 6, .int .i64 0, .string t, .slice ak ks.length capk, .slice ao cs.length cap] 26
  rw [← hw1, show (w.setCell ⟨L, 0, none⟩ (.int .i64 (z - 1))).heap.size = w.heap.size by simp [World.setCell]] at hbx
  have b0 : w1.cell? ⟨w.heap.size, 0, none⟩ = some (.int .i64 6) := hbx 0
  have b1 : w1.cell? ⟨w.heap.size, 1, none⟩ = some (.int .i64 0) := hbx 1
  have b2 : w1.cell? ⟨w.heap.size, 2, none⟩ = some (.string t) := hbx 2
  have b3 : w1.cell? ⟨w.heap.size, 3, none⟩ = some (.slice ak ks.length capk) := hbx 3
  have b4 : w1.cell? ⟨w.heap.size, 4, none⟩ = some (.slice ao cs.length cap) := hbx 4
  have HN1 : Hid (NumAt w1 L (z - 1)) := Lib.hid (by rw [hw1]; exact (HL.out.set _).alloc _)
  have HBW : Hid (Below B w w1) := Lib.hid (by rw [hw1]; exact HB0.out _)
  have bL : w1.cell? ⟨L, 0, none⟩ = some (.int .i64 (z - 1)) := HN1.out.cell
  have hs1 : w1.heap.size = w.heap.size + 1 := by rw [hw1]; simp [World.setCell]
  rw [← hw1]
  clear hbx hdr c1 c2 fin hw1
  go_still_tail 13, (by kernel_rfl)
  change wpList _ _ _ _ _ w1.drew
  have HNA : Hid (NodeAt w1.drew w1.drew.heap.size (.mk 6 0 t ks cs) [.int .i64 6, .int .i64 0, .string t, .slice ak ks.length capk, .slice ao cs.length cap]) := Lib.hid ((HXX.out.keep (HBW.out.trans (Go.Joins.below_draws _ _ 1))).mono (by have := HBW.out.size; show B ≤ w1.heap.size; omega))
  have HTA : Hid (Tabs w1.drew) := Lib.hid (HT.out _ (HBW.out.trans (Go.Joins.below_draws _ _ 1)))
  go_wp2_with fail
  refine (HK.out _ HNA.out HTA.out).mono ?_
  rintro e w2 ⟨rfl, hb2⟩
  have hs2 : w1.heap.size ≤ w2.heap.size := hb2.size
  have HN2 : Hid (NumAt w2 L (z - 1)) := Lib.hid (HN1.out.below (w := w1.drew) hb2)
  have HB2 : Hid (Below B w w2) := Lib.hid ((HBW.out.trans (Go.Joins.below_draws _ _ 1)).trans (Go.Joins.below_le hb2 (by show B ≤ w1.heap.size; omega)))
  have q4 : w2.cell? ⟨w.heap.size, 4, none⟩ = some (.slice ao cs.length cap) := (hb2.cell (p := ⟨w.heap.size, 4, none⟩) (by show w.heap.size < w1.heap.size; omega)).trans b4
  clear hb2 b0 b1 b2 b3 b4 bL
  cases hrk : rk 6 ks cs.length
  · have hR : R (.mk 6 0 t ks cs) d z = false := by unfold R; rw [hok.out, hrk]; rfl
    go_wp2
    go_ret
    rw [hR]
    exact ⟨rfl, hR.symm, ⟨z - 1, HN2.out, by omega, by omega, fun h => by cases h⟩, HB2.out⟩
  · have hRR : Hid (R (.mk 6 0 t ks cs) d z = (oks cs (d + 1) && decide ((1 + counts cs : Int) ≤ z))) := Lib.hid (by unfold R; rw [hok.out, hrk, Bool.true_and, show ((count (.mk 6 0 t ks cs) : Nat) : Int) = 1 + (counts cs : Int) by simp only [count]; omega])
    have hc0 : Hid ((counts (cs.take 0) : Int) = 0) := Lib.hid (by simp [counts])
    have hcn : Hid (cs.take cs.length = cs) := Lib.hid List.take_length
    have HCT := Lib.hid (counts_take cs)
    have HOT := Lib.hid (oks_take cs (d + 1))
    have HCM := Lib.hid (counts_mono cs)
    clear HNA HTA HN1 HBW HXX hok
    go_wp2
    go_loopw [8, 92] (fun _ i wr => ∃ m : Nat, m ≤ cs.length ∧ i = .int .i64 m ∧ NumAt wr L (z - 1 - (counts (cs.take m) : Int)) ∧ Hid (oks (cs.take m) (d + 1) = true) ∧ (counts (cs.take m) : Int) ≤ z - 1 ∧ Below B w wr) (fun _ i _ => cs.length - (intOf i).toNat)
    case atStart => exact ⟨0, Nat.zero_le _, rfl, by rw [hc0.out]; simpa using HN2.out, Lib.hid (by simp [oks]), by rw [hc0.out]; omega, HB2.out⟩
    case round =>
      obtain ⟨m, hm1, rfl, hnum, hoks, hcl, hb⟩ := hrel
      by_cases hlt : m < cs.length
      · obtain ⟨rfl, hbs⟩ := HA.out (by intro h0; rw [h0] at hlt; simp at hlt)
        obtain ⟨k', n', t', ak', lk, ck, ac, lc, cc, hkid, q0, q1, q2, q3, q5⟩ := kid_atB HC.out HN.out hlt hbs hb
        have HKD := Lib.hid hkid
        have HB := Lib.hid hb
        have HNU := Lib.hid hnum
        have hszB : B ≤ wr.heap.size := by have := hb.size; omega
        have hct := Lib.hid (HCT.out m hlt)
        have hot := Lib.hid (HOT.out m hlt)
        have hno := Lib.hid (fun h => kids_no (d := d + 1) (z := z) hlt h)
        have hcm := Lib.hid (HCM.out m)
        have HD := Lib.hid (HX.out cs[m] (List.getElem_mem hlt))
        clear hkid hb hnum
        generalize cs[m] = x at *
        generalize hG : (counts (cs.take m) : Int) = G at *
        have hG0 : 0 ≤ G := by omega
        go_wp2_with fail
        refine (HD.out _ _ (z - 1 - G) (HKD.out.keep (HB.out.alloc hszB _)) (by simp; omega) (HNU.out.alloc _) (by omega) (by omega) (fun w' h => HT.out _ ((HB.out.alloc hszB _).trans h))).mono ?_
        rintro e w3 ⟨rfl, hr1, ⟨z', hz'1, hz'2, hz'3, hz'4⟩, hb3⟩
        have HB3 := Lib.hid ((HB.out.alloc hszB _).trans hb3)
        have HZ := Lib.hid hz'1
        have HZ4 := Lib.hid hz'4
        have HR1 := Lib.hid hr1
        clear hb3 q0 q1 q2 q3 q5 hz'1 hz'4 hr1
        cases hr : R x (d + 1) (z - 1 - G)
        · have hR : R (.mk 6 0 t ks cs) d z = false := by rw [hRR.out]; exact hno.out hr
          go_wp2
          go_ret
          rw [hR]
          exact ⟨rfl, hR.symm, ⟨z', HZ.out, hz'2, hz'3, fun h => by cases h⟩, HB3.out⟩
        · have hz5 := HZ4.out hr
          have hokx : okAt x (d + 1) = true := by have := HR1.out; rw [hr] at this; simp at this; exact this.1.symm ▸ this.1
          go_wp2
          go_roundw
          case rel => exact ⟨m + 1, by omega, by go_num, by rw [hct.out, show z - 1 - ((counts (cs.take m) + count x : Nat) : Int) = z' by rw [hz5]; omega]; exact HZ.out, Lib.hid (by rw [hot.out, hoks.out, hokx]; rfl), by rw [hct.out]; omega, HB3.out⟩
          case measure => simp [intOf]; omega
      · obtain rfl : m = cs.length := by omega
        rw [hcn.out] at hnum hcl
        have hokk := hoks.out
        rw [hcn.out] at hokk
        have hR : R (.mk 6 0 t ks cs) d z = true := by rw [hRR.out, hokk]; simp; omega
        have HNU := Lib.hid hnum
        have HB := Lib.hid hb
        clear hnum hb
        go_wp2
        go_ret
        rw [hR]
        exact ⟨rfl, hR.symm, ⟨_, HNU.out, by omega, by omega, fun _ => by simp [count]; omega⟩, HB.out⟩
set_option maxHeartbeats 4000000 in
set_option maxRecDepth 100000 in
theorem box_7 (t : ByteArray) (ks : List ByteArray) (cs : List Nd) (l : List Value) (w : World) (B L d : Nat) (z : Int) (hx : NodeAt w B (.mk 7 0 t ks cs) l) (hB : B ≤ L) (hBw : B ≤ w.heap.size) (hL : NumAt w L z) (hz : 1 ≤ z) (hz2 : z ≤ 20000) (ht : t.size = 0) (hd : (d : Int) < 32) (hle : (cs.length : Int) ≤ z - 1) (hT : ∀ w', Below B w w' → Tabs w') (hkl : (ks.length : Int) ≤ 100000)
    (ih : ∀ c ∈ cs, ∀ (l : List Value) (w : World) (z : Int), NodeAt w B c l → B ≤ w.heap.size → NumAt w L z → 0 ≤ z → z ≤ 20000 → (∀ w', Below B w w' → Tabs w') →
      Calls Tryd.prog 26 #[.agg l.toArray, .int .i64 ((d : Int) + 1), .pointer (some ⟨L, 0, none⟩)] w fun e w' => e = .returned (.bool (R c (d + 1) z)) ∧ RightP c (d + 1) z L B w (R c (d + 1) z) w') :
    Calls Tryd.prog 26 #[.agg l.toArray, .int .i64 d, .pointer (some ⟨L, 0, none⟩)] w fun e w' => e = .returned (.bool (R (.mk 7 0 t ks cs) d z)) ∧ RightP (.mk 7 0 t ks cs) d z L B w (R (.mk 7 0 t ks cs) d z) w' := by
  have HXX := Lib.hid hx
  obtain ⟨kv, cv, rfl, _, _, htm, hkv, hcv⟩ := hx.open
  obtain ⟨ao, cap, b, off, ls, rfl, hm, ha, hc, hn⟩ := hcv
  obtain ⟨ak, capk, bk, offk, rfl, hmk, hak, hck, hsk⟩ := hkv
  have hlt := hL.lt
  have hne : w.heap.size ≠ L := by omega
  have c1 : ∀ o, (w.alloc o).cell? ⟨L, 0, none⟩ = some (.int .i64 z) := fun o => (hL.alloc o).cell
  have c2 : ∀ o, (w.alloc o).frozen? ⟨L, 0, none⟩ = false := fun o => (hL.alloc o).frozen
  have HL := Lib.hid hL
  have fin : Hid (∀ r o, r = (okAt (.mk 7 0 t ks cs) d && decide ((count (.mk 7 0 t ks cs) : Int) ≤ z)) → (r = true → cs = []) → Ending.returned (.bool r) = .returned (.bool (R (.mk 7 0 t ks cs) d z)) ∧ RightP (.mk 7 0 t ks cs) d z L B w (R (.mk 7 0 t ks cs) d z) ((w.setCell ⟨L, 0, none⟩ (.int .i64 (z - 1))).alloc o)) := Lib.hid (by
    intro r o hr h0
    have hR : R _ d z = r := hr.symm
    rw [hR]
    refine ⟨rfl, hr, ⟨z - 1, (HL.out.set _).alloc o, by omega, by omega, fun h => ?_⟩, ((Below.refl _ _).setCell (p := ⟨L, 0, none⟩) hB _).alloc (by simpa [World.setCell] using hBw) _⟩
    rw [h0 h]; simp [count, counts])
  have hE : t.toList.isEmpty = true := by rw [em, ht]; rfl
  have hd32 : ¬ (32 ≤ (d : Int)) := by omega
  have hle2 : ¬ (z - 1 < (cs.length : Int)) := by omega
  have hok : Hid (okAt (.mk 7 0 t ks cs) d = (rk 7 ks cs.length && oks cs (d + 1))) := Lib.hid (by
    have : decide (d < 32) = true := by simp; omega
    simp [okAt, one, ht, this])
  have HK : Hid (∀ w1, NodeAt w1 w1.heap.size (.mk 7 0 t ks cs) [.int .i64 7, .int .i64 0, .string t, .slice ak ks.length capk, .slice ao cs.length cap] → Tabs w1 →
      Calls Tryd.prog 45 #[.agg #[.int .i64 7, .int .i64 0, .string t, .slice ak ks.length capk, .slice ao cs.length cap]] w1 fun e w' => e = .returned (.bool (rk 7 ks cs.length)) ∧ Below w1.heap.size w1 w') := Lib.hid (fun w1 hN hT1 => keys_object _ _ w1 hN (by simp [Nd.kind]) hT1 hkl)
  have HT := Lib.hid hT
  have HX := Lib.hid ih
  have HC := Lib.hid hc
  have HN := Lib.hid hn
  have HA := Lib.hid ha
  have hmI : (cs.length : Int) ≤ 9223372036854775807 := by unfold maxLen at hm; omega
  have hdr : ∀ o, ((w.setCell ⟨L, 0, none⟩ (.int .i64 (z - 1))).alloc o).cell? ⟨L, 0, none⟩ = some (.int .i64 (z - 1)) := fun o => ((HL.out.set _).alloc o).cell
  have HB0 : Hid (∀ o, Below B w ((w.setCell ⟨L, 0, none⟩ (.int .i64 (z - 1))).alloc o)) := Lib.hid (fun o => ((Below.refl _ _).setCell (p := ⟨L, 0, none⟩) hB _).alloc (by simpa [World.setCell] using hBw) _)
  clear hL hx hc hn ha hck hak hsk hm hmk htm ht hT ih hd
  go_enter Tryd.func26, Tryd.ntmps26
  go_wp2
  obtain ⟨w1, hw1⟩ : ∃ w1, w1 = (w.setCell ⟨L, 0, none⟩ (.int .i64 (z - 1))).alloc (.cells #[.int .i64 7, .int .i64 0, .string t, .slice ak ks.length capk, .slice ao cs.length cap] 26) := ⟨_, rfl⟩
  have hbx := box_cell (w.setCell ⟨L, 0, none⟩ (.int .i64 (z - 1))) #[.int .i64 7, .int .i64 0, .string t, .slice ak ks.length capk, .slice ao cs.length cap] 26
  rw [← hw1, show (w.setCell ⟨L, 0, none⟩ (.int .i64 (z - 1))).heap.size = w.heap.size by simp [World.setCell]] at hbx
  have b0 : w1.cell? ⟨w.heap.size, 0, none⟩ = some (.int .i64 7) := hbx 0
  have b1 : w1.cell? ⟨w.heap.size, 1, none⟩ = some (.int .i64 0) := hbx 1
  have b2 : w1.cell? ⟨w.heap.size, 2, none⟩ = some (.string t) := hbx 2
  have b3 : w1.cell? ⟨w.heap.size, 3, none⟩ = some (.slice ak ks.length capk) := hbx 3
  have b4 : w1.cell? ⟨w.heap.size, 4, none⟩ = some (.slice ao cs.length cap) := hbx 4
  have HN1 : Hid (NumAt w1 L (z - 1)) := Lib.hid (by rw [hw1]; exact (HL.out.set _).alloc _)
  have HBW : Hid (Below B w w1) := Lib.hid (by rw [hw1]; exact HB0.out _)
  have bL : w1.cell? ⟨L, 0, none⟩ = some (.int .i64 (z - 1)) := HN1.out.cell
  have hs1 : w1.heap.size = w.heap.size + 1 := by rw [hw1]; simp [World.setCell]
  rw [← hw1]
  clear hbx hdr c1 c2 fin hw1
  go_still_tail 13, (by kernel_rfl)
  change wpList _ _ _ _ _ w1.drew
  have HNA : Hid (NodeAt w1.drew w1.drew.heap.size (.mk 7 0 t ks cs) [.int .i64 7, .int .i64 0, .string t, .slice ak ks.length capk, .slice ao cs.length cap]) := Lib.hid ((HXX.out.keep (HBW.out.trans (Go.Joins.below_draws _ _ 1))).mono (by have := HBW.out.size; show B ≤ w1.heap.size; omega))
  have HTA : Hid (Tabs w1.drew) := Lib.hid (HT.out _ (HBW.out.trans (Go.Joins.below_draws _ _ 1)))
  go_wp2_with fail
  refine (HK.out _ HNA.out HTA.out).mono ?_
  rintro e w2 ⟨rfl, hb2⟩
  have hs2 : w1.heap.size ≤ w2.heap.size := hb2.size
  have HN2 : Hid (NumAt w2 L (z - 1)) := Lib.hid (HN1.out.below (w := w1.drew) hb2)
  have HB2 : Hid (Below B w w2) := Lib.hid ((HBW.out.trans (Go.Joins.below_draws _ _ 1)).trans (Go.Joins.below_le hb2 (by show B ≤ w1.heap.size; omega)))
  have q4 : w2.cell? ⟨w.heap.size, 4, none⟩ = some (.slice ao cs.length cap) := (hb2.cell (p := ⟨w.heap.size, 4, none⟩) (by show w.heap.size < w1.heap.size; omega)).trans b4
  clear hb2 b0 b1 b2 b3 b4 bL
  cases hrk : rk 7 ks cs.length
  · have hR : R (.mk 7 0 t ks cs) d z = false := by unfold R; rw [hok.out, hrk]; rfl
    go_wp2
    go_ret
    rw [hR]
    exact ⟨rfl, hR.symm, ⟨z - 1, HN2.out, by omega, by omega, fun h => by cases h⟩, HB2.out⟩
  · have hRR : Hid (R (.mk 7 0 t ks cs) d z = (oks cs (d + 1) && decide ((1 + counts cs : Int) ≤ z))) := Lib.hid (by unfold R; rw [hok.out, hrk, Bool.true_and, show ((count (.mk 7 0 t ks cs) : Nat) : Int) = 1 + (counts cs : Int) by simp only [count]; omega])
    have hc0 : Hid ((counts (cs.take 0) : Int) = 0) := Lib.hid (by simp [counts])
    have hcn : Hid (cs.take cs.length = cs) := Lib.hid List.take_length
    have HCT := Lib.hid (counts_take cs)
    have HOT := Lib.hid (oks_take cs (d + 1))
    have HCM := Lib.hid (counts_mono cs)
    clear HNA HTA HN1 HBW HXX hok
    go_wp2
    go_loopw [8, 92] (fun _ i wr => ∃ m : Nat, m ≤ cs.length ∧ i = .int .i64 m ∧ NumAt wr L (z - 1 - (counts (cs.take m) : Int)) ∧ Hid (oks (cs.take m) (d + 1) = true) ∧ (counts (cs.take m) : Int) ≤ z - 1 ∧ Below B w wr) (fun _ i _ => cs.length - (intOf i).toNat)
    case atStart => exact ⟨0, Nat.zero_le _, rfl, by rw [hc0.out]; simpa using HN2.out, Lib.hid (by simp [oks]), by rw [hc0.out]; omega, HB2.out⟩
    case round =>
      obtain ⟨m, hm1, rfl, hnum, hoks, hcl, hb⟩ := hrel
      by_cases hlt : m < cs.length
      · obtain ⟨rfl, hbs⟩ := HA.out (by intro h0; rw [h0] at hlt; simp at hlt)
        obtain ⟨k', n', t', ak', lk, ck, ac, lc, cc, hkid, q0, q1, q2, q3, q5⟩ := kid_atB HC.out HN.out hlt hbs hb
        have HKD := Lib.hid hkid
        have HB := Lib.hid hb
        have HNU := Lib.hid hnum
        have hszB : B ≤ wr.heap.size := by have := hb.size; omega
        have hct := Lib.hid (HCT.out m hlt)
        have hot := Lib.hid (HOT.out m hlt)
        have hno := Lib.hid (fun h => kids_no (d := d + 1) (z := z) hlt h)
        have hcm := Lib.hid (HCM.out m)
        have HD := Lib.hid (HX.out cs[m] (List.getElem_mem hlt))
        clear hkid hb hnum
        generalize cs[m] = x at *
        generalize hG : (counts (cs.take m) : Int) = G at *
        have hG0 : 0 ≤ G := by omega
        go_wp2_with fail
        refine (HD.out _ _ (z - 1 - G) (HKD.out.keep (HB.out.alloc hszB _)) (by simp; omega) (HNU.out.alloc _) (by omega) (by omega) (fun w' h => HT.out _ ((HB.out.alloc hszB _).trans h))).mono ?_
        rintro e w3 ⟨rfl, hr1, ⟨z', hz'1, hz'2, hz'3, hz'4⟩, hb3⟩
        have HB3 := Lib.hid ((HB.out.alloc hszB _).trans hb3)
        have HZ := Lib.hid hz'1
        have HZ4 := Lib.hid hz'4
        have HR1 := Lib.hid hr1
        clear hb3 q0 q1 q2 q3 q5 hz'1 hz'4 hr1
        cases hr : R x (d + 1) (z - 1 - G)
        · have hR : R (.mk 7 0 t ks cs) d z = false := by rw [hRR.out]; exact hno.out hr
          go_wp2
          go_ret
          rw [hR]
          exact ⟨rfl, hR.symm, ⟨z', HZ.out, hz'2, hz'3, fun h => by cases h⟩, HB3.out⟩
        · have hz5 := HZ4.out hr
          have hokx : okAt x (d + 1) = true := by have := HR1.out; rw [hr] at this; simp at this; exact this.1.symm ▸ this.1
          go_wp2
          go_roundw
          case rel => exact ⟨m + 1, by omega, by go_num, by rw [hct.out, show z - 1 - ((counts (cs.take m) + count x : Nat) : Int) = z' by rw [hz5]; omega]; exact HZ.out, Lib.hid (by rw [hot.out, hoks.out, hokx]; rfl), by rw [hct.out]; omega, HB3.out⟩
          case measure => simp [intOf]; omega
      · obtain rfl : m = cs.length := by omega
        rw [hcn.out] at hnum hcl
        have hokk := hoks.out
        rw [hcn.out] at hokk
        have hR : R (.mk 7 0 t ks cs) d z = true := by rw [hRR.out, hokk]; simp; omega
        have HNU := Lib.hid hnum
        have HB := Lib.hid hb
        clear hnum hb
        go_wp2
        go_ret
        rw [hR]
        exact ⟨rfl, hR.symm, ⟨_, HNU.out, by omega, by omega, fun _ => by simp [count]; omega⟩, HB.out⟩
end Go.Proofs.YtdbidkfjbhclcaaDoor.nodeF
