/-
  Contract of json.Same.
-/
import Derived.Test.YtdbidkfjbhclcaaDoorSameP
import Derived.Deep.LoopGhost
import Derived.Maps.AppendAt
namespace Go.Proofs.YtdbidkfjbhclcaaDoor.sameQ
open Go.ChangeShapes Go.WideShapes Go.ChangeAt Go.RowKit nodeP nodeQ nodeA sameTexts sameN sameP ownI
set_option linter.unusedSimpArgs false
set_option linter.unusedVariables false

theorem infoP : (Tryd.prog.info? 61).map (fun i => (i.zero, i.size, i.bytes)) = some (some (.agg #[.slice none 0 0, .slice none 0 0]), 2, 48) := by kernel_rfl
/-- what is still to be compared lies there -/
structure WI (w1 wr : World) (B : Nat) (v : Value) (L : List E) : Prop where
  row : wr.ownsRow B 61 2 v L.length (rowOf L)
  bel : Below B w1 wr
  kid : ∀ e ∈ L, KidsAt w1 B e.va e.cs ∧ KidsAt w1 B e.vb e.cs'
theorem kids_form {w : World} {B : Nat} {v : Value} {cs : List Nd} (h : KidsAt w B v cs) : ∃ ao cap, v = .slice ao cs.length cap := by
  obtain ⟨ao, cap, b, off, ls, rfl, _⟩ := h; exact ⟨ao, cap, rfl⟩

theorem start {w : World} {x y : Nd} {l m : List Value} (hx : NodeAt w w.heap.size x l) (hy : NodeAt w w.heap.size y m) (hl : l.length = 5) (hm : m.length = 5) :
    ∃ w1, w1 = ((((w.alloc (.cells l.toArray 26)).alloc (.cells m.toArray 26)).alloc (.cells l.toArray 26)).alloc (.cells m.toArray 26)).alloc (.cells #[.slice (some ⟨w.heap.size + 1 + 1, 0, none⟩) 1 1, .slice (some ⟨w.heap.size + 1 + 1 + 1, 0, none⟩) 1 1] 61) ∧
      WI w1 w1 (w.heap.size + 1 + 1 + 1 + 1) (.slice (some ⟨w.heap.size + 1 + 1 + 1 + 1, 0, none⟩) 1 1) [⟨.slice (some ⟨w.heap.size + 1 + 1, 0, none⟩) 1 1, .slice (some ⟨w.heap.size + 1 + 1 + 1, 0, none⟩) 1 1, [x], [y]⟩] ∧ Below w.heap.size w w1 ∧ w1.heap.size = w.heap.size + 1 + 1 + 1 + 1 + 1 := by
  have b1 : Below w.heap.size w (w.alloc (.cells l.toArray 26)) := (Below.refl _ _).alloc (Nat.le_refl _) _
  have b2 := b1.alloc (by simp) (.cells m.toArray 26)
  have s2 : ((w.alloc (.cells l.toArray 26)).alloc (.cells m.toArray 26)).heap.size = w.heap.size + 1 + 1 := by simp
  generalize (w.alloc (.cells l.toArray 26)).alloc (.cells m.toArray 26) = w2 at *
  have n3 := Whole.new w2 26 l
  have b3 : Below w2.heap.size w2 (w2.alloc (.cells l.toArray 26)) := (Below.refl _ _).alloc (Nat.le_refl _) _
  have s3 : (w2.alloc (.cells l.toArray 26)).heap.size = w.heap.size + 1 + 1 + 1 := by simp [s2]
  generalize w2.alloc (.cells l.toArray 26) = w3 at *
  have n4 := Whole.new w3 26 m
  have b4 : Below w3.heap.size w3 (w3.alloc (.cells m.toArray 26)) := (Below.refl _ _).alloc (Nat.le_refl _) _
  have s4 : (w3.alloc (.cells m.toArray 26)).heap.size = w.heap.size + 1 + 1 + 1 + 1 := by simp [s3]
  generalize w3.alloc (.cells m.toArray 26) = w4 at *
  have n5 := Whole.new w4 61 [.slice (some ⟨w.heap.size + 1 + 1, 0, none⟩) 1 1, .slice (some ⟨w.heap.size + 1 + 1 + 1, 0, none⟩) 1 1]
  have n5' : Whole (w4.alloc (.cells #[.slice (some ⟨w.heap.size + 1 + 1, 0, none⟩) 1 1, .slice (some ⟨w.heap.size + 1 + 1 + 1, 0, none⟩) 1 1] 61)) _ _ _ := n5
  have b5 : Below w4.heap.size w4 (w4.alloc (.cells #[.slice (some ⟨w.heap.size + 1 + 1, 0, none⟩) 1 1, .slice (some ⟨w.heap.size + 1 + 1 + 1, 0, none⟩) 1 1] 61)) := (Below.refl _ _).alloc (Nat.le_refl _) _
  have s5 : (w4.alloc (.cells #[.slice (some ⟨w.heap.size + 1 + 1, 0, none⟩) 1 1, .slice (some ⟨w.heap.size + 1 + 1 + 1, 0, none⟩) 1 1] 61)).heap.size = w.heap.size + 1 + 1 + 1 + 1 + 1 := by simp [s4]
  generalize w4.alloc (.cells #[.slice (some ⟨w.heap.size + 1 + 1, 0, none⟩) 1 1, .slice (some ⟨w.heap.size + 1 + 1 + 1, 0, none⟩) 1 1] 61) = w5 at *
  have B5 : Below w.heap.size w w5 := ((b2.trans (b3.mono (by omega))).trans (b4.mono (by omega))).trans (b5.mono (by omega))
  have m3 := (n3.below b4 n3.lt).below b5 (n3.below b4 n3.lt).lt
  have m4 := n4.below b5 n4.lt
  rw [s2] at m3
  rw [s3] at m4
  rw [s4] at n5'
  have kid : ∀ (z : Nd) (c : List Value) (bb : Nat), NodeAt w w.heap.size z c → c.length = 5 → Whole w5 bb 26 c → bb < w.heap.size + 1 + 1 + 1 + 1 → KidsAt w5 (w.heap.size + 1 + 1 + 1 + 1) (.slice (some ⟨bb, 0, none⟩) 1 1) [z] := by
    intro z c bb hz hc hw hb
    refine ⟨_, 1, bb, 0, fun _ => c, rfl, by unfold maxLen; simp, fun _ => ⟨rfl, hb⟩, fun i hi j hj => ?_, fun i hi => ?_⟩
    · have : i = 0 := by simp at hi; omega
      subst this
      rw [show 0 + 5 * 0 + j = j from by omega]
      exact hw.cell j
    · have : i = 0 := by simp at hi; omega
      subst this
      exact (hz.keep B5).mono (by omega)
  refine ⟨w5, rfl, ⟨⟨rfl, .inr ⟨_, 1, _, rfl, Nat.le_refl _, n5', Nat.le_refl _, by unfold maxLen; omega, rfl, rfl⟩⟩, Below.refl _ _, fun e he => ?_⟩, B5, s5⟩
  simp at he
  subst he
  exact ⟨kid x l _ hx hl m3 (by omega), kid y m _ hy hm m4 (by omega)⟩

set_option maxHeartbeats 8000000 in
set_option maxRecDepth 100000 in
theorem jsame_any (x y : Nd) (l m : List Value) (w : World) (hx : NodeAt w w.heap.size x l) (hy : NodeAt w w.heap.size y m) (hcn : (count x : Int) + (count y : Int) ≤ 100000) :
    Calls Tryd.prog 16 #[.agg l.toArray, .agg m.toArray] w fun e w' => e = .returned (.bool (same x y)) ∧ Below w.heap.size w w' := by
  have hlf : ∃ k n t a1 n1 c1 a2 n2 c2, l = [.int .i64 k, .int .i64 n, .string t, .slice a1 n1 c1, .slice a2 n2 c2] := by
    cases x with
    | mk k n t ks cs =>
    obtain ⟨kv, cv, rfl, _, _, _, ⟨ak, ck, _, _, rfl, _⟩, ⟨ac, cc, _, _, _, rfl, _⟩⟩ := hx.open
    exact ⟨_, _, _, _, _, _, _, _, _, rfl⟩
  have hmf : ∃ k n t a1 n1 c1 a2 n2 c2, m = [.int .i64 k, .int .i64 n, .string t, .slice a1 n1 c1, .slice a2 n2 c2] := by
    cases y with
    | mk k n t ks cs =>
    obtain ⟨kv, cv, rfl, _, _, _, ⟨ak, ck, _, _, rfl, _⟩, ⟨ac, cc, _, _, _, rfl, _⟩⟩ := hy.open
    exact ⟨_, _, _, _, _, _, _, _, _, rfl⟩
  obtain ⟨xk, xn, xt, xa1, xn1, xc1, xa2, xn2, xc2, rfl⟩ := hlf
  obtain ⟨yk, yn, yt, ya1, yn1, yc1, ya2, yn2, yc2, rfl⟩ := hmf
  have HXX := Lib.hid hx
  have HYY := Lib.hid hy
  have HCN := Lib.hid hcn
  clear hx hy hcn
  go_enter Tryd.func16, Tryd.ntmps16
  go_wp2
  obtain ⟨w1, hw1, hW, hBW, hS1⟩ := start HXX.out HYY.out rfl rfl
  change w1 = ((((w.alloc (.cells #[.int .i64 xk, .int .i64 xn, .string xt, .slice xa1 xn1 xc1, .slice xa2 xn2 xc2] 26)).alloc (.cells #[.int .i64 yk, .int .i64 yn, .string yt, .slice ya1 yn1 yc1, .slice ya2 yn2 yc2] 26)).alloc (.cells #[.int .i64 xk, .int .i64 xn, .string xt, .slice xa1 xn1 xc1, .slice xa2 xn2 xc2] 26)).alloc (.cells #[.int .i64 yk, .int .i64 yn, .string yt, .slice ya1 yn1 yc1, .slice ya2 yn2 yc2] 26)).alloc _ at hw1
  rw [← hw1]
  have HW := Lib.hid hW
  have HBW := Lib.hid hBW
  have HS1 := Lib.hid hS1
  have HEQ : Hid (x = y ↔ Eqs [⟨.slice (some ⟨w.heap.size + 1 + 1, 0, none⟩) 1 1, .slice (some ⟨w.heap.size + 1 + 1 + 1, 0, none⟩) 1 1, [x], [y]⟩]) := Lib.hid (by simp [Eqs])
  have HTO : Hid (tot [⟨.slice (some ⟨w.heap.size + 1 + 1, 0, none⟩) 1 1, .slice (some ⟨w.heap.size + 1 + 1 + 1, 0, none⟩) 1 1, [x], [y]⟩] ≤ 100001) := Lib.hid (by have := HCN.out; simp [tot, E.sz, counts]; omega)
  clear hw1 hW hBW hS1
  go_loopg [5] 100001 (fun gk v wr => ∃ L, WI w1 wr (w.heap.size + 1 + 1 + 1 + 1) v L ∧ Hid (x = y ↔ Eqs L) ∧ Hid (tot L ≤ gk) ∧ Hid (gk ≤ 100001))
  case atStart => exact ⟨_, HW.out, HEQ, HTO, Lib.hid (Nat.le_refl _)⟩
  case round =>
    obtain ⟨L, hI, heq, htot, hgk⟩ := hrel
    rcases last_or L with rfl | ⟨L', e, rfl⟩
    · obtain ⟨ao, c0, hv⟩ := jsonB.row_form hI.row
      have HS := Lib.hid (same_yes (heq.out.2 (fun e he => absurd he (by simp))))
      have HB := Lib.hid (HBW.out.trans (hI.bel.mono (by omega)))
      rw [show ([] : List E).length = 0 from rfl] at hv
      subst hv
      clear hI
      go_wp2
      go_ret
      exact ⟨by rw [HS.out]; rfl, HB.out⟩
    · obtain ⟨va, vb, cs, cs'⟩ := e
      obtain ⟨hka, hkb⟩ := hI.kid ⟨va, vb, cs, cs'⟩ (by simp)
      obtain ⟨a0, ca, hva⟩ := kids_form hka
      obtain ⟨b0, cb, hvb⟩ := kids_form hkb
      dsimp only at hva hvb
      subst hva hvb
      have HKA := Lib.hid hka
      have HKB := Lib.hid hkb
      have hrow := hI.row
      rw [rowOf_snoc, List.length_append] at hrow
      dsimp only at hrow
      change wr.ownsRow _ _ 2 _ (L'.length + 1) _ at hrow
      obtain ⟨g, cap, hv, hgB, hgl⟩ := row_some hrow
      rw [hv] at hrow
      have hrl := rowOf_len L'
      have c0 := hrow.cellAt (L'.length * 2) (by omega)
      have c1 := hrow.cellAt (L'.length * 2 + 1) (by omega)
      rw [List.getElem?_append_right (by omega), hrl, show L'.length * 2 - L'.length * 2 = 0 from by omega] at c0
      rw [List.getElem?_append_right (by omega), hrl, show L'.length * 2 + 1 - L'.length * 2 = 1 from by omega] at c1
      simp only [List.getElem?_cons_zero, List.getElem?_cons_succ] at c0 c1
      have HPOP := Lib.hid (row_pop hrow)
      have HBE := Lib.hid hI.bel
      have HKID : Hid (∀ e ∈ L', KidsAt w1 (w.heap.size + 1 + 1 + 1 + 1) e.va e.cs ∧ KidsAt w1 (w.heap.size + 1 + 1 + 1 + 1) e.vb e.cs') := Lib.hid (fun e he => hI.kid e (by simp [he]))
      have HEQ2 := Lib.hid (heq.out.trans (Eqs_snoc L' _))
      have HTT : Hid (tot L' + (1 + counts cs + counts cs') ≤ gk) := Lib.hid (by have := htot.out; rw [tot_snoc] at this; exact this)
      have hn100 : (L'.length : Int) ≤ 100001 := by have h1 := len_tot L'; have h2 := HTT.out; have h3 := hgk.out; omega
      have hn0 : (0 : Int) ≤ (L'.length : Int) := by omega
      have hn1 : (L'.length : Int) < (L'.length : Int) + 1 := by omega
      have hn2 : (0 : Int) < (L'.length : Int) + 1 := by omega
      have hn3 : L'.length < L'.length + 1 := by omega
      subst hv
      clear hI hka hkb hrow hrl heq htot
      generalize hLn : L'.length = nl at *
      have HLN := Lib.hid hLn
      clear hLn
      have hcap : nl ≤ cap := by
        rcases HPOP.out.2 with ⟨h, _⟩ | ⟨g', cap', cur, hv, _, _, hh, _⟩
        · cases h
        · cases hv; exact hh
      have hcapI : (nl : Int) ≤ (cap : Int) := by omega
      by_cases hl : cs.length = cs'.length
      case neg =>
        have q : ((cs.length : Int) != (cs'.length : Int)) = true := by simp; omega
        have HS := Lib.hid (same_no (x := x) (y := y) (fun h => hl (congrArg List.length (HEQ2.out.1 h).2)))
        have HB : Hid (Below w.heap.size w wr) := Lib.hid (HBW.out.trans (HBE.out.mono (by omega)))
        clear hl
        go_wp2
        go_ret
        exact ⟨by rw [HS.out]; rfl, by
          refine HB.out.alloc ?_ _
          exact HB.out.size⟩
      generalize hlb : cs'.length = lb at *
      generalize hla : cs.length = la at *
      subst hl
      have HLA := Lib.hid hla
      have HLB := Lib.hid hlb
      have q : ((la : Int) != (la : Int)) = false := by simp
      have hlaI : (la : Int) ≤ 9223372036854775807 := by
        obtain ⟨_, _, _, _, _, _, hm, _⟩ := HKA.out
        dsimp only at hm
        rw [hla] at hm
        unfold maxLen at hm; omega
      have hba : Below wr.heap.size wr (wr.alloc (.cells #[.slice a0 la ca, .slice b0 la cb] 61)) := (Below.refl _ _).alloc (Nat.le_refl _) _
      have hBs := HBE.out.size
      have HBE2 := Lib.hid (HBE.out.trans (hba.mono (by have := HBW.out.size; have := HS1.out; omega)))
      have HP2 := Lib.hid (row_below HPOP.out hba)
      have HB6 : Hid ((wr.alloc (.cells #[.slice a0 la ca, .slice b0 la cb] 61)).cell? ⟨wr.heap.size, 0, none⟩ = some (.slice a0 la ca) ∧ (wr.alloc (.cells #[.slice a0 la ca, .slice b0 la cb] 61)).cell? ⟨wr.heap.size, 1, none⟩ = some (.slice b0 la cb) ∧ wr.heap.size < (wr.alloc (.cells #[.slice a0 la ca, .slice b0 la cb] 61)).heap.size ∧ (Value.slice (some ⟨g, 0, none⟩) nl cap).ownBlock ≠ some wr.heap.size) := Lib.hid ⟨by simp, by simp, by simp, fun e => by have h : g = wr.heap.size := Option.some.inj e; omega⟩
      have HEQ3 : Hid (x = y ↔ (Eqs (L' ++ []) ∧ cs.drop 0 = cs'.drop 0)) := Lib.hid (by rw [List.append_nil]; exact HEQ2.out)
      have HTT3 : Hid (tot (L' ++ []) + counts (cs.drop 0) + counts (cs'.drop 0) + 1 ≤ gk) := Lib.hid (by rw [List.append_nil]; have := HTT.out; simp; omega)
      clear hba hla hlb
      go_wp2
      generalize wr.alloc (.cells #[.slice a0 la ca, .slice b0 la cb] 61) = w2 at *
      generalize wr.heap.size = b6 at *
      go_loopw [5, 40] (fun v i w3 => ∃ (m : Nat) (K : List E), m ≤ la ∧ i = .int .i64 m ∧ Hid (WI w1 w3 (w.heap.size + 1 + 1 + 1 + 1) v (L' ++ K)) ∧ Hid (w3.cell? ⟨b6, 0, none⟩ = some (.slice a0 la ca) ∧ w3.cell? ⟨b6, 1, none⟩ = some (.slice b0 la cb) ∧ b6 < w3.heap.size ∧ v.ownBlock ≠ some b6) ∧ Hid (x = y ↔ (Eqs (L' ++ K) ∧ cs.drop m = cs'.drop m)) ∧ Hid (tot (L' ++ K) + counts (cs.drop m) + counts (cs'.drop m) + 1 ≤ gk)) (fun _ i _ => la - (intOf i).toNat)
      case atStart => exact ⟨0, [], Nat.zero_le _, rfl, Lib.hid ⟨by rw [List.append_nil, HLN.out]; exact HP2.out, HBE2.out, by rw [List.append_nil]; exact HKID.out⟩, HB6, HEQ3, HTT3⟩
      case round =>
        obtain ⟨m, K, hm1, rfl, hWI, h6, heq, htt⟩ := hrel
        obtain ⟨p0, p1, hb6, hbn⟩ := h6.out
        have HBn := Lib.hid hbn
        clear hbn c0 c1
        by_cases hlt : m < la
        · have hc1 : m < cs.length := by have := HLA.out; omega
          have hc2 : m < cs'.length := by have := HLB.out; omega
          obtain ⟨aoa, cpa, ba, offa, lsa, hva, hma, haa, hca, hna⟩ := HKA.out
          obtain ⟨aob, cpb, bb, offb, lsb, hvb, hmb, hab, hcb, hnb⟩ := HKB.out
          have haa' := haa (by intro h0; have h1 : cs = [] := h0; rw [h1] at hc1; simp at hc1)
          have hab' := hab (by intro h0; have h1 : cs' = [] := h0; rw [h1] at hc2; simp at hc2)
          obtain ⟨k1, n1, t1, ak1, lk1, ck1, ac1, lc1, cc1, hkid, q0, q1, q2, q3, q4⟩ := kid_cells hca hna hc1
          obtain ⟨k2, n2, t2, ak2, lk2, ck2, ac2, lc2, cc2, hkid', r0, r1, r2, r3, r4⟩ := kid_cells hcb hnb hc2
          have hbel := hWI.out.bel
          have hbA : ba < wr.heap.size := by have := haa'.2; have := hbel.size; have := HS1.out; omega
          have hbB : bb < wr.heap.size := by have := hab'.2; have := hbel.size; have := HS1.out; omega
          rw [← hbel.cell (p := ⟨ba, offa + m * 5, none⟩) haa'.2] at q0
          rw [← hbel.cell (p := ⟨ba, offa + m * 5 + 1, none⟩) haa'.2] at q1
          rw [← hbel.cell (p := ⟨ba, offa + m * 5 + 2, none⟩) haa'.2] at q2
          rw [← hbel.cell (p := ⟨ba, offa + m * 5 + 3, none⟩) haa'.2] at q3
          rw [← hbel.cell (p := ⟨ba, offa + m * 5 + 4, none⟩) haa'.2] at q4
          rw [← hbel.cell (p := ⟨bb, offb + m * 5, none⟩) hab'.2] at r0
          rw [← hbel.cell (p := ⟨bb, offb + m * 5 + 1, none⟩) hab'.2] at r1
          rw [← hbel.cell (p := ⟨bb, offb + m * 5 + 2, none⟩) hab'.2] at r2
          rw [← hbel.cell (p := ⟨bb, offb + m * 5 + 3, none⟩) hab'.2] at r3
          rw [← hbel.cell (p := ⟨bb, offb + m * 5 + 4, none⟩) hab'.2] at r4
          have hea : a0 = some ⟨ba, offa, none⟩ := by
            have h1 := haa'.1
            try dsimp only at hva
            injection hva with e1 e2 e3
            rw [e1]; exact h1
          have heb : b0 = some ⟨bb, offb, none⟩ := by
            have h1 := hab'.1
            try dsimp only at hvb
            injection hvb with e1 e2 e3
            rw [e1]; exact h1
          subst hea heb
          obtain ⟨e1, e2, e3, e4, e5⟩ := node_parts hkid
          obtain ⟨d1, d2, d3, d4, d5⟩ := node_parts hkid'
          have hI1 : (m : Int) < (la : Int) := by omega
          have hI0 : (0 : Int) ≤ (m : Int) := by omega
          have hb4 : Below wr.heap.size wr ((wr.alloc (.cells #[.int .i64 k1, .int .i64 n1, .string t1, .slice ak1 lk1 ck1, .slice ac1 lc1 cc1] 26)).alloc (.cells #[.int .i64 k2, .int .i64 n2, .string t2, .slice ak2 lk2 ck2, .slice ac2 lc2 cc2] 26)) := ((Below.refl _ _).alloc (Nat.le_refl _) _).alloc (by simp) _
          have hBsz := HBW.out.size
          have hB4 : Below (w.heap.size + 1 + 1 + 1 + 1) w1 ((wr.alloc (.cells #[.int .i64 k1, .int .i64 n1, .string t1, .slice ak1 lk1 ck1, .slice ac1 lc1 cc1] 26)).alloc (.cells #[.int .i64 k2, .int .i64 n2, .string t2, .slice ak2 lk2 ck2, .slice ac2 lc2 cc2] 26)) := hbel.trans (hb4.mono (by have := hbel.size; have := HS1.out; omega))
          have HB4 := Lib.hid hB4
          have HBA4 := Lib.hid hb4
          have HFIN : Hid (∀ w', Below wr.heap.size wr w' → Below w.heap.size w w') := Lib.hid (fun w' h => HBW.out.trans ((hbel.mono (by omega)).trans (h.mono (by have := hbel.size; omega))))
          have HEQ := Lib.hid (equal_any ((wr.alloc (.cells #[.int .i64 k1, .int .i64 n1, .string t1, .slice ak1 lk1 ck1, .slice ac1 lc1 cc1] 26)).alloc (.cells #[.int .i64 k2, .int .i64 n2, .string t2, .slice ak2 lk2 ck2, .slice ac2 lc2 cc2] 26)) _ _ _ _ _ _ (e4.keep hB4) (d4.keep hB4))
          have HE5 := Lib.hid e5
          have HD5 := Lib.hid d5
          have hpp4 : ((wr.alloc (.cells #[.int .i64 k1, .int .i64 n1, .string t1, .slice ak1 lk1 ck1, .slice ac1 lc1 cc1] 26)).alloc (.cells #[.int .i64 k2, .int .i64 n2, .string t2, .slice ak2 lk2 ck2, .slice ac2 lc2 cc2] 26)).cell? ⟨wr.heap.size, 4, none⟩ = some (.slice ac1 lc1 cc1) := by simp
          have hqq4 : ((wr.alloc (.cells #[.int .i64 k1, .int .i64 n1, .string t1, .slice ak1 lk1 ck1, .slice ac1 lc1 cc1] 26)).alloc (.cells #[.int .i64 k2, .int .i64 n2, .string t2, .slice ak2 lk2 ck2, .slice ac2 lc2 cc2] 26)).cell? ⟨wr.heap.size + 1, 4, none⟩ = some (.slice ac2 lc2 cc2) := by simp
          have hs4 : ((wr.alloc (.cells #[.int .i64 k1, .int .i64 n1, .string t1, .slice ak1 lk1 ck1, .slice ac1 lc1 cc1] 26)).alloc (.cells #[.int .i64 k2, .int .i64 n2, .string t2, .slice ak2 lk2 ck2, .slice ac2 lc2 cc2] 26)).heap.size = wr.heap.size + 2 := by simp
          have HPP := Lib.hid hpp4
          have HQQ := Lib.hid hqq4
          have HS4 := Lib.hid hs4
          clear hca hna hcb hnb haa hab haa' hab' hva hvb hkid hkid' hbel hb4 hB4 e4 d4 e5 d5 hma hmb hpp4 hqq4 hs4
          by_cases hk : k1 = k2
          case neg =>
            have HS := Lib.hid (same_no (x := x) (y := y) (fun h => nd_ne (.inl (by rw [e1, d1]; exact hk)) ((drop_eq hc1 hc2).1 (heq.out.1 h).2).1))
            have q : (k1 != k2) = true := by simpa using hk
            clear hk
            go_wp2
            go_ret
            exact ⟨by rw [HS.out]; rfl, HFIN.out _ HBA4.out⟩
          by_cases hn0 : n1 = n2
          case neg =>
            have HS := Lib.hid (same_no (x := x) (y := y) (fun h => nd_ne (.inr (.inl (by rw [e2, d2]; exact hn0))) ((drop_eq hc1 hc2).1 (heq.out.1 h).2).1))
            have qk : (k1 != k2) = false := by simp [hk]
            have q : (n1 != n2) = true := by simpa using hn0
            clear hn0 hk
            go_wp2
            go_ret
            exact ⟨by rw [HS.out]; rfl, HFIN.out _ HBA4.out⟩
          by_cases ht0 : t1 = t2
          case neg =>
            have HS := Lib.hid (same_no (x := x) (y := y) (fun h => nd_ne (.inr (.inr (.inl (by rw [e3, d3]; exact ht0)))) ((drop_eq hc1 hc2).1 (heq.out.1 h).2).1))
            have qk : (k1 != k2) = false := by simp [hk]
            have qn : (n1 != n2) = false := by simp [hn0]
            have q := tl_ne ht0
            clear hn0 hk ht0
            go_wp2
            go_ret
            exact ⟨by rw [HS.out]; rfl, HFIN.out _ HBA4.out⟩
          subst hk hn0 ht0
          by_cases hks : (cs[m]).keys = (cs'[m]).keys
          case neg =>
            have HS := Lib.hid (same_no (x := x) (y := y) (fun h => nd_ne (.inr (.inr (.inr hks))) ((drop_eq hc1 hc2).1 (heq.out.1 h).2).1))
            rw [decide_eq_false hks] at HEQ
            clear hks
            go_wp2_with fail
            refine HEQ.out.mono ?_
            rintro e w5 ⟨rfl, nq, hw5⟩
            have HB5 : Hid (Below w.heap.size w w5) := Lib.hid (by rw [hw5]; exact HFIN.out _ (HBA4.out.trans (Go.Joins.below_draws _ _ _)))
            clear hw5
            go_wp2
            go_ret
            exact ⟨by rw [HS.out]; rfl, HB5.out⟩
          rw [decide_eq_true hks] at HEQ
          have HND : Hid (cs[m] = cs'[m] ↔ cs[m].kids = cs'[m].kids) := Lib.hid (nd_eq (e1.trans d1.symm) (e2.trans d2.symm) (e3.trans d3.symm) hks)
          have HL1 : Hid (cs[m].kids.length = lc1 ∧ cs'[m].kids.length = lc2) := Lib.hid (by
            obtain ⟨_, _, h1⟩ := kids_form HE5.out
            obtain ⟨_, _, h2⟩ := kids_form HD5.out
            injection h1 with _ h1 _
            injection h2 with _ h2 _
            exact ⟨h1.symm, h2.symm⟩)
          have HLEN : Hid ((L' ++ K).length ≤ 100001) := Lib.hid (by have h1 := len_tot (L' ++ K); have h2 := htt.out; have h3 := hgk.out; omega)
          clear hks e1 d1 e2 d2 e3 d3
          go_wp2_with fail
          refine HEQ.out.mono ?_
          rintro e w5 ⟨rfl, nq, hw5⟩
          have hbd : Below ((wr.alloc (.cells #[.int .i64 k1, .int .i64 n1, .string t1, .slice ak1 lk1 ck1, .slice ac1 lc1 cc1] 26)).alloc (.cells #[.int .i64 k1, .int .i64 n1, .string t1, .slice ak2 lk2 ck2, .slice ac2 lc2 cc2] 26)).heap.size ((wr.alloc (.cells #[.int .i64 k1, .int .i64 n1, .string t1, .slice ak1 lk1 ck1, .slice ac1 lc1 cc1] 26)).alloc (.cells #[.int .i64 k1, .int .i64 n1, .string t1, .slice ak2 lk2 ck2, .slice ac2 lc2 cc2] 26)) w5 := by rw [hw5]; exact Go.Joins.below_draws _ _ _
          have g4p := (hbd.cell (p := ⟨wr.heap.size, 4, none⟩) (by simp; omega)).trans HPP.out
          have g4q := (hbd.cell (p := ⟨wr.heap.size + 1, 4, none⟩) (by simp)).trans HQQ.out
          have hb05 : Below wr.heap.size wr w5 := HBA4.out.trans (hbd.mono (by simp; omega))
          have HROW5 := Lib.hid (row_below hWI.out.row hb05)
          have HSB : Hid (w.heap.size + 1 + 1 + 1 + 1 ≤ w5.heap.size) := Lib.hid (by have h1 := hb05.size; have h2 := hWI.out.bel.size; have h3 := HS1.out; omega)
          have HB15 := Lib.hid (hWI.out.bel.trans (hb05.mono (by have h2 := hWI.out.bel.size; have h3 := HS1.out; omega)))
          have b60 := (hb05.cell (p := ⟨b6, 0, none⟩) hb6).trans p0
          have b61 := (hb05.cell (p := ⟨b6, 1, none⟩) hb6).trans p1
          have H65 : Hid (w5.cell? ⟨b6, 0, none⟩ = some (.slice (some ⟨ba, offa, none⟩) la ca) ∧ w5.cell? ⟨b6, 1, none⟩ = some (.slice (some ⟨bb, offb, none⟩) la cb) ∧ b6 < w5.heap.size) := Lib.hid ⟨b60, b61, by have := hb05.size; omega⟩
          clear hw5 hbd hb05 HEQ
          by_cases hl1 : 0 < lc1
          · have hl1I : (0 : Int) < (lc1 : Int) := by omega
            obtain ⟨i0, hi, hz0, hz1, hz2⟩ := info_parts infoP
            go_wp2_with (at_builtin; refine wpList_append_own_at _ rfl _ _ 62 rfl (w.heap.size + 1 + 1 + 1 + 1) 61 i0 (.agg #[.slice none 0 0, .slice none 0 0]) 2 48 Tryd.underlying62 hi hz0 hz1 hz2 rfl (by decide) u5 (L' ++ K).length (rowOf (L' ++ K)) rfl ?c0 ⟨w5.heap.size, 0, none⟩ 1 1 [.slice ac1 lc1 cc1, .slice ac2 lc2 cc2] rfl rfl ?c1 ?c2 ?c3 ?c4 ?c5 ?_)
            case c0 => exact HROW5.out.alloc _
            case c1 => exact two_new _ _ _ _
            case c2 => simp [Value.oneCell']
            case c3 => have := HLEN.out; unfold maxLen; omega
            case c4 => have := HLEN.out; omega
            case c5 => have := HSB.out; simp; omega
            intro v' w7 hown7 hgrow7 _ hat7
            have hb57 : Below w5.heap.size w5 (w5.alloc (.cells #[.slice ac1 lc1 cc1, .slice ac2 lc2 cc2] 61)) := (Below.refl _ _).alloc (Nat.le_refl _) _
            have HB7 : Hid (Below (w.heap.size + 1 + 1 + 1 + 1) w1 w7) := Lib.hid (((HB15.out.trans (hb57.mono HSB.out))).grown hgrow7 (by have := HSB.out; simp; omega) (fun j hj => (World.ownsRow.lt HROW5.out j hj).1))
            have HN7 : Hid (WI w1 w7 (w.heap.size + 1 + 1 + 1 + 1) v' (L' ++ (K ++ [⟨.slice ac1 lc1 cc1, .slice ac2 lc2 cc2, cs[m].kids, cs'[m].kids⟩]))) := Lib.hid ⟨by
              rw [← List.append_assoc, rowOf_snoc, List.length_append, List.length_append]; exact hown7, HB7.out, fun e he => by
              rw [← List.append_assoc] at he
              rcases List.mem_append.1 he with he | he
              · exact hWI.out.kid e he
              · simp at he; subst he; exact ⟨HE5.out, HD5.out⟩⟩
            have H67 : Hid (w7.cell? ⟨b6, 0, none⟩ = some (.slice (some ⟨ba, offa, none⟩) la ca) ∧ w7.cell? ⟨b6, 1, none⟩ = some (.slice (some ⟨bb, offb, none⟩) la cb) ∧ b6 < w7.heap.size ∧ v'.ownBlock ≠ some b6) := Lib.hid ⟨hgrow7.cell ((hb57.cell (p := ⟨b6, 0, none⟩) H65.out.2.2).trans H65.out.1) (fun e => HBn.out e.symm), hgrow7.cell ((hb57.cell (p := ⟨b6, 1, none⟩) H65.out.2.2).trans H65.out.2.1) (fun e => HBn.out e.symm), by have h1 := hgrow7.size; have h2 := H65.out.2.2; simp at h1; omega, by
              rcases hat7 with e | e
              · rw [e]; exact HBn.out
              · rw [e]; intro e2; have h1 := Option.some.inj e2; have h2 := H65.out.2.2; first | omega | (simp at h1; omega)⟩
            have HQ7 : Hid (x = y ↔ (Eqs (L' ++ (K ++ [⟨.slice ac1 lc1 cc1, .slice ac2 lc2 cc2, cs[m].kids, cs'[m].kids⟩])) ∧ cs.drop (m + 1) = cs'.drop (m + 1))) := Lib.hid (by
              rw [heq.out, drop_eq hc1 hc2, HND.out, ← List.append_assoc, Eqs_snoc, and_assoc])
            have HT7 : Hid (tot (L' ++ (K ++ [⟨.slice ac1 lc1 cc1, .slice ac2 lc2 cc2, cs[m].kids, cs'[m].kids⟩])) + counts (cs.drop (m + 1)) + counts (cs'.drop (m + 1)) + 1 ≤ gk) := Lib.hid (by
              have h1 := htt.out
              rw [counts_drop cs m hc1, counts_drop cs' m hc2, count_kids, count_kids] at h1
              rw [← List.append_assoc, tot_snoc]
              show tot (L' ++ K) + (1 + counts cs[m].kids + counts cs'[m].kids) + _ + _ + 1 ≤ gk
              omega)
            clear hown7 hgrow7 hat7 hb57 p0 p1 q0 q1 q2 q3 q4 r0 r1 r2 r3 r4 g4p g4q b60 b61
            go_wp2
            go_roundw
            case rel => exact ⟨m + 1, _, by omega, by go_num, HN7, H67, HQ7, HT7⟩
            case measure => simp [intOf]; omega
          by_cases hl2 : 0 < lc2
          · have hl1I : ¬ ((0 : Int) < (lc1 : Int)) := by omega
            have hl2I : (0 : Int) < (lc2 : Int) := by omega
            obtain ⟨i0, hi, hz0, hz1, hz2⟩ := info_parts infoP
            go_wp2_with (at_builtin; refine wpList_append_own_at _ rfl _ _ 62 rfl (w.heap.size + 1 + 1 + 1 + 1) 61 i0 (.agg #[.slice none 0 0, .slice none 0 0]) 2 48 Tryd.underlying62 hi hz0 hz1 hz2 rfl (by decide) u5 (L' ++ K).length (rowOf (L' ++ K)) rfl ?c0 ⟨w5.heap.size, 0, none⟩ 1 1 [.slice ac1 lc1 cc1, .slice ac2 lc2 cc2] rfl rfl ?c1 ?c2 ?c3 ?c4 ?c5 ?_)
            case c0 => exact HROW5.out.alloc _
            case c1 => exact two_new _ _ _ _
            case c2 => simp [Value.oneCell']
            case c3 => have := HLEN.out; unfold maxLen; omega
            case c4 => have := HLEN.out; omega
            case c5 => have := HSB.out; simp; omega
            intro v' w7 hown7 hgrow7 _ hat7
            have hb57 : Below w5.heap.size w5 (w5.alloc (.cells #[.slice ac1 lc1 cc1, .slice ac2 lc2 cc2] 61)) := (Below.refl _ _).alloc (Nat.le_refl _) _
            have HB7 : Hid (Below (w.heap.size + 1 + 1 + 1 + 1) w1 w7) := Lib.hid (((HB15.out.trans (hb57.mono HSB.out))).grown hgrow7 (by have := HSB.out; simp; omega) (fun j hj => (World.ownsRow.lt HROW5.out j hj).1))
            have HN7 : Hid (WI w1 w7 (w.heap.size + 1 + 1 + 1 + 1) v' (L' ++ (K ++ [⟨.slice ac1 lc1 cc1, .slice ac2 lc2 cc2, cs[m].kids, cs'[m].kids⟩]))) := Lib.hid ⟨by
              rw [← List.append_assoc, rowOf_snoc, List.length_append, List.length_append]; exact hown7, HB7.out, fun e he => by
              rw [← List.append_assoc] at he
              rcases List.mem_append.1 he with he | he
              · exact hWI.out.kid e he
              · simp at he; subst he; exact ⟨HE5.out, HD5.out⟩⟩
            have H67 : Hid (w7.cell? ⟨b6, 0, none⟩ = some (.slice (some ⟨ba, offa, none⟩) la ca) ∧ w7.cell? ⟨b6, 1, none⟩ = some (.slice (some ⟨bb, offb, none⟩) la cb) ∧ b6 < w7.heap.size ∧ v'.ownBlock ≠ some b6) := Lib.hid ⟨hgrow7.cell ((hb57.cell (p := ⟨b6, 0, none⟩) H65.out.2.2).trans H65.out.1) (fun e => HBn.out e.symm), hgrow7.cell ((hb57.cell (p := ⟨b6, 1, none⟩) H65.out.2.2).trans H65.out.2.1) (fun e => HBn.out e.symm), by have h1 := hgrow7.size; have h2 := H65.out.2.2; simp at h1; omega, by
              rcases hat7 with e | e
              · rw [e]; exact HBn.out
              · rw [e]; intro e2; have h1 := Option.some.inj e2; have h2 := H65.out.2.2; first | omega | (simp at h1; omega)⟩
            have HQ7 : Hid (x = y ↔ (Eqs (L' ++ (K ++ [⟨.slice ac1 lc1 cc1, .slice ac2 lc2 cc2, cs[m].kids, cs'[m].kids⟩])) ∧ cs.drop (m + 1) = cs'.drop (m + 1))) := Lib.hid (by
              rw [heq.out, drop_eq hc1 hc2, HND.out, ← List.append_assoc, Eqs_snoc, and_assoc])
            have HT7 : Hid (tot (L' ++ (K ++ [⟨.slice ac1 lc1 cc1, .slice ac2 lc2 cc2, cs[m].kids, cs'[m].kids⟩])) + counts (cs.drop (m + 1)) + counts (cs'.drop (m + 1)) + 1 ≤ gk) := Lib.hid (by
              have h1 := htt.out
              rw [counts_drop cs m hc1, counts_drop cs' m hc2, count_kids, count_kids] at h1
              rw [← List.append_assoc, tot_snoc]
              show tot (L' ++ K) + (1 + counts cs[m].kids + counts cs'[m].kids) + _ + _ + 1 ≤ gk
              omega)
            clear hown7 hgrow7 hat7 hb57 p0 p1 q0 q1 q2 q3 q4 r0 r1 r2 r3 r4 g4p g4q b60 b61
            go_wp2
            go_roundw
            case rel => exact ⟨m + 1, _, by omega, by go_num, HN7, H67, HQ7, HT7⟩
            case measure => simp [intOf]; omega
          · have hl1I : ¬ ((0 : Int) < (lc1 : Int)) := by omega
            have hl2I : ¬ ((0 : Int) < (lc2 : Int)) := by omega
            have HKK : Hid (cs[m].kids = [] ∧ cs'[m].kids = []) := Lib.hid (by
              obtain ⟨h1, h2⟩ := HL1.out
              exact ⟨List.length_eq_zero_iff.1 (by omega), List.length_eq_zero_iff.1 (by omega)⟩)
            have HN7 : Hid (WI w1 w5 (w.heap.size + 1 + 1 + 1 + 1) u5 (L' ++ K)) := Lib.hid ⟨HROW5.out, HB15.out, hWI.out.kid⟩
            have H67 : Hid (w5.cell? ⟨b6, 0, none⟩ = some (.slice (some ⟨ba, offa, none⟩) la ca) ∧ w5.cell? ⟨b6, 1, none⟩ = some (.slice (some ⟨bb, offb, none⟩) la cb) ∧ b6 < w5.heap.size ∧ u5.ownBlock ≠ some b6) := Lib.hid ⟨H65.out.1, H65.out.2.1, H65.out.2.2, HBn.out⟩
            have HQ7 : Hid (x = y ↔ (Eqs (L' ++ K) ∧ cs.drop (m + 1) = cs'.drop (m + 1))) := Lib.hid (by
              rw [heq.out, drop_eq hc1 hc2, HND.out, HKK.out.1, HKK.out.2]; simp)
            have HT7 : Hid (tot (L' ++ K) + counts (cs.drop (m + 1)) + counts (cs'.drop (m + 1)) + 1 ≤ gk) := Lib.hid (by
              have h1 := htt.out
              rw [counts_drop cs m hc1, counts_drop cs' m hc2] at h1
              omega)
            clear p0 p1 q0 q1 q2 q3 q4 r0 r1 r2 r3 r4 b60 b61
            go_wp2
            go_roundw
            case rel => exact ⟨m + 1, K, by omega, by go_num, HN7, H67, HQ7, HT7⟩
            case measure => simp [intOf]; omega
        · have hem : m = la := by omega
          have HQ7 : Hid (x = y ↔ Eqs (L' ++ K)) := Lib.hid (by
            have h1 := heq.out
            rw [List.drop_of_length_le (by have := HLA.out; omega), List.drop_of_length_le (by have := HLB.out; omega)] at h1
            simpa using h1)
          have HT7 : Hid (tot (L' ++ K) + 1 ≤ gk) := Lib.hid (by have := htt.out; omega)
          subst hem
          clear heq htt p0 p1
          go_wp2
          go_roundg (tot (L' ++ K))
          case measure => have := HT7.out; omega
          case rel => exact ⟨L' ++ K, hWI.out, HQ7, Lib.hid (Nat.le_refl _), Lib.hid (by have h1 := HT7.out; have h2 := hgk.out; omega)⟩
end Go.Proofs.YtdbidkfjbhclcaaDoor.sameQ
