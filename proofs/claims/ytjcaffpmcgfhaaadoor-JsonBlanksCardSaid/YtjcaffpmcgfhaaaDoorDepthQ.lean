/-
  Contract of json.Depth.
-/
import Derived.Test.YtjcaffpmcgfhaaaDoorCountQ
namespace Go.Proofs.YtjcaffpmcgfhaaaDoor.depthQ
open Go.ChangeShapes Go.WideShapes Go.ChangeAt Go.RowKit nodeP nodeQ nodeA sameTexts sameN sameQ ownI countQ
set_option linter.unusedSimpArgs false
set_option linter.unusedVariables false

def allc (L : List F) : List Nd := L.flatMap F.cs
def mx (D : List Nd) : Nat := (D.map dp).foldr max 0
theorem dps_mx (D : List Nd) (h : D ≠ []) : dps D = 1 + mx D := by
  induction D with
  | nil => exact absurd rfl h
  | cons c D ih =>
    by_cases hD : D = []
    · subst hD; simp [dps, mx]
    · have := ih hD
      simp only [dps, mx, List.map_cons, List.foldr_cons] at *
      rw [this]; omega
theorem dps_app2 (a b : List Nd) : dps (a ++ b) = max (dps a) (dps b) := by
  induction a with
  | nil => simp [dps]
  | cons c a ih => simp [dps, ih, Nat.max_assoc]
theorem mx_snoc (D : List Nd) (c : Nd) : mx (D ++ [c]) = max (mx D) (dp c) := by
  induction D with
  | nil => simp [mx]
  | cons d D ih => simp only [mx, List.map_cons, List.foldr_cons, List.cons_append] at *; rw [ih]; omega
theorem counts_app2 (a b : List Nd) : counts (a ++ b) = counts a + counts b := by
  induction a with
  | nil => simp [counts]
  | cons c a ih => simp [counts, ih]; omega
theorem allc_snoc (L : List F) (e : F) : allc (L ++ [e]) = allc L ++ e.cs := by simp [allc]
theorem dp_kids (c : Nd) : dp c = dps c.kids := by cases c; rfl
theorem counts_allc (L : List F) : counts (allc L) ≤ sameP.tot [] + countQ.tot L := by
  induction L with
  | nil => simp [allc, counts]
  | cons e L ih =>
    simp only [allc, List.flatMap_cons, countQ.tot, List.map_cons, List.sum_cons, sameP.tot, List.map_nil, List.sum_nil] at *
    rw [counts_app2]; omega
theorem tot_app (a b : List F) : countQ.tot (a ++ b) = countQ.tot a + countQ.tot b := by simp [countQ.tot]
theorem take_one (L : List F) (m : Nat) (h : m < L.length) : L.take (m + 1) = L.take m ++ [L[m]] := by rw [List.take_add_one, List.getElem?_eq_getElem h]; rfl
theorem take_oneN (L : List Nd) (m : Nat) (h : m < L.length) : L.take (m + 1) = L.take m ++ [L[m]] := by rw [List.take_add_one, List.getElem?_eq_getElem h]; rfl
/-- what was seen, and what is next -/
def St (K : List F) (D : List Nd) (b : Bool) : Prop := b = !D.isEmpty ∧ dps (allc K) = mx D ∧ countQ.tot K ≤ counts D
theorem St.nil : St [] [] false := ⟨rfl, rfl, Nat.le_refl _⟩
theorem St.push {K : List F} {D : List Nd} {b : Bool} (h : St K D b) (c : Nd) (v : Value) : St (K ++ [⟨v, c.kids⟩]) (D ++ [c]) true := by
  obtain ⟨h1, h2, h3⟩ := h
  refine ⟨by simp, ?_, ?_⟩
  · rw [allc_snoc, dps_app2, h2, mx_snoc, dp_kids]
  · rw [countQ.tot_snoc, counts_app2]
    have : counts [c] = 1 + counts c.kids := by simp [counts, sameP.count_kids]
    rw [this]
    show countQ.tot K + (1 + counts c.kids) ≤ _
    omega
theorem St.skip {K : List F} {D : List Nd} {b : Bool} (h : St K D b) {c : Nd} (hc : c.kids = []) : St K (D ++ [c]) true := by
  obtain ⟨h1, h2, h3⟩ := h
  refine ⟨by simp, ?_, ?_⟩
  · rw [mx_snoc, dp_kids, hc, h2]; simp [dps]
  · rw [counts_app2]; omega
theorem row_at {w : World} {B : Nat} {e : TypeId} {n cap : Nat} {av : Option Addr} {xs : List Value} (h : w.ownsRow B e 1 (.slice av n cap) n xs) {i : Nat} (hi : i < n) : ∃ g, av = some ⟨g, 0, none⟩ ∧ B ≤ g ∧ g < w.heap.size ∧ w.cell? ⟨g, i, none⟩ = xs[i]? := by
  rcases h.2 with ⟨h2, h0⟩ | ⟨g, cap', cur, hv, hb, hg, hn, _⟩
  · omega
  · injection hv with e1 e2 e3
    subst e1
    refine ⟨g, rfl, hb, (Array.getElem?_eq_some_iff.1 hg).1, h.cellAt i (by have := h.1; omega)⟩

set_option maxHeartbeats 8000000 in
set_option maxRecDepth 100000 in
theorem jdepth_any (x : Nd) (l : List Value) (w : World) (hx : NodeAt w w.heap.size x l) (hcn : (count x : Int) ≤ 1000000) (hdp : (dp x : Int) ≤ 1000000) :
    Calls Tryd.prog 14 #[.agg l.toArray] w fun e w' => e = .returned (.int .i64 (dp x)) ∧ Below w.heap.size w w' := by
  have hlf : ∃ k n t a1 n1 c1 a2 n2 c2, l = [.int .i64 k, .int .i64 n, .string t, .slice a1 n1 c1, .slice a2 n2 c2] := by
    cases x with
    | mk k n t ks cs =>
    obtain ⟨kv, cv, rfl, _, _, _, ⟨ak, ck, _, _, rfl, _⟩, ⟨ac, cc, _, _, _, rfl, _⟩⟩ := hx.open
    exact ⟨_, _, _, _, _, _, _, _, _, rfl⟩
  obtain ⟨xk, xn, xt, xa1, xn1, xc1, xa2, xn2, xc2, rfl⟩ := hlf
  obtain ⟨w1, hw1, hW, hBW, hS1⟩ := countQ.start hx
  have HW := Lib.hid hW
  have HBW := Lib.hid hBW
  have HS1 := Lib.hid hS1
  have HCN : Hid (count x ≤ 1000000) := Lib.hid (by omega)
  have HDP : Hid (dp x ≤ 1000000) := Lib.hid (by omega)
  have HT0 : Hid (countQ.tot [⟨.slice xa2 xn2 xc2, x.kids⟩] ≤ count x) := Lib.hid (by rw [sameP.count_kids]; simp [countQ.tot])
  have HC0 : Hid (0 + dps (allc [⟨.slice xa2 xn2 xc2, x.kids⟩]) = dp x) := Lib.hid (by rw [dp_kids]; simp [allc])
  have HG0 : Hid (dps (allc [⟨.slice xa2 xn2 xc2, x.kids⟩]) + 1 ≤ dp x + 1) := Lib.hid (by have := HC0.out; omega)
  have HW1 := Lib.hid hw1
  clear hx hcn hdp hw1 hW hBW hS1
  go_enter Tryd.func14, Tryd.ntmps14
  go_wp2
  rw [← HW1.out]
  go_loopg [3, 4] (dp x + 1) (fun gk d v wr => ∃ (dd : Nat) (L : List F), d = .int .i64 dd ∧ WK w1 wr (w.heap.size + 1) v L ∧ Hid (dd + dps (allc L) = dp x) ∧ Hid (countQ.tot L ≤ count x) ∧ Hid (dps (allc L) + 1 ≤ gk))
  case atStart => exact ⟨0, _, rfl, HW.out, HC0, HT0, HG0⟩
  case round =>
    obtain ⟨dd, L, rfl, hI, hdd, htot, hgk⟩ := hrel
    obtain ⟨av, cv, hv⟩ := jsonB.row_form hI.row
    subst hv
    have HI := Lib.hid hI
    have hLn : (L.length : Int) ≤ 1000000 := by have h1 := countQ.len_tot L; have h2 := htot.out; have h3 := HCN.out; omega
    have HSB : Hid (w.heap.size + 1 ≤ wr.heap.size) := Lib.hid (by have h2 := hI.bel.size; have h3 := HS1.out; omega)
    have HNX : Hid (WK w1 wr (w.heap.size + 1) (.slice none 0 0) []) := Lib.hid ⟨⟨rfl, .inl ⟨rfl, rfl⟩⟩, hI.bel, fun e he => absurd he (by simp)⟩
    clear hI
    go_wp2
    go_loopw [5, 6, 16] (fun v5 b i w3 => ∃ (m : Nat) (K : List F) (bb : Bool), m ≤ L.length ∧ i = .int .i64 m ∧ b = .bool bb ∧ Hid (WK w1 w3 (w.heap.size + 1) v5 K) ∧ Hid (WK w1 w3 (w.heap.size + 1) (.slice av L.length cv) L) ∧ Hid (∀ g, (Value.slice av L.length cv).ownBlock = some g → v5.ownBlock ≠ some g) ∧ Hid (St K (allc (L.take m)) bb)) (fun _ _ i _ => L.length - (intOf i).toNat)
    case atStart => exact ⟨0, [], false, Nat.zero_le _, rfl, rfl, HNX, HI, Lib.hid (fun g _ h => by cases h), Lib.hid St.nil⟩
    case round =>
      obtain ⟨m, K, bb, hm1, rfl, rfl, hWK, hWL, hdis, hst⟩ := hrel
      by_cases hlt : m < L.length
      · obtain ⟨g, hav, hgB, hgl, hcell⟩ := row_at hWL.out.row hlt
        subst hav
        have hget : (rowOf L)[m]? = some (L[m]).va := by unfold rowOf; rw [List.getElem?_map, List.getElem?_eq_getElem hlt]; rfl
        rw [hget] at hcell
        have hka := hWL.out.kid L[m] (List.getElem_mem hlt)
        have HTK := Lib.hid (take_one L m hlt)
        generalize hLm : L[m] = e at *
        obtain ⟨va, cs⟩ := e
        dsimp only at hka hcell
        obtain ⟨a0, ca, hva⟩ := sameQ.kids_form hka
        subst hva
        have HKA := Lib.hid hka
        have HTC : Hid (allc (L.take (m + 1)) = allc (L.take m) ++ cs) := Lib.hid (by rw [HTK.out, allc_snoc])
        have HTB : Hid (counts (allc (L.take m) ++ cs) ≤ 1000000) := Lib.hid (by
          have h1 := counts_allc (L.take (m + 1))
          rw [HTC.out] at h1
          have h2 : countQ.tot (L.take (m + 1)) ≤ countQ.tot L := by
            have : countQ.tot L = countQ.tot (L.take (m + 1)) + countQ.tot (L.drop (m + 1)) := by
              rw [← tot_app, List.take_append_drop]
            omega
          have h3 := htot.out
          have h4 := HCN.out
          simp [sameP.tot] at h1
          omega)
        have hmI : (m : Int) < (L.length : Int) := by omega
        have hmI0 : (0 : Int) ≤ (m : Int) := by omega
        generalize hla : cs.length = la at *
        have HLA := Lib.hid hla
        have hlaI : (la : Int) ≤ 1000000 := by
          have h1 := HTB.out
          rw [counts_app2] at h1
          have h2 := counts_len cs
          omega
        have HST0 : Hid (St K (allc (L.take m) ++ cs.take 0) bb) := Lib.hid (by simpa using hst.out)
        clear hka hget hLm hla hst
        go_wp2
        clear hcell
        go_loopw [5, 6, 22] (fun v5 b j w3 => ∃ (q : Nat) (K : List F) (bb : Bool), q ≤ la ∧ j = .int .i64 q ∧ b = .bool bb ∧ Hid (WK w1 w3 (w.heap.size + 1) v5 K) ∧ Hid (WK w1 w3 (w.heap.size + 1) (.slice (some ⟨g, 0, none⟩) L.length cv) L) ∧ Hid (v5.ownBlock ≠ some g) ∧ Hid (g < w3.heap.size) ∧ Hid (St K (allc (L.take m) ++ cs.take q) bb)) (fun _ _ j _ => la - (intOf j).toNat)
        case atStart => exact ⟨0, K, bb, Nat.zero_le _, rfl, rfl, hWK, hWL, Lib.hid (hdis.out g rfl), Lib.hid hgl, HST0⟩
        case round =>
          obtain ⟨q, K2, b2, hq1, rfl, rfl, hWI, hWL2, hdis2, hgl2, hst2⟩ := hrel
          by_cases hltq : q < la
          · have hc1 : q < cs.length := by have := HLA.out; omega
            obtain ⟨aoa, cpa, ba, offa, lsa, hva, hma, haa, hca, hna⟩ := HKA.out
            have haa' := haa (by intro h0; have h1 : cs = [] := h0; rw [h1] at hc1; simp at hc1)
            obtain ⟨k1, n1, t1, ak1, lk1, ck1, ac1, lc1, cc1, hkid, q0, q1, q2, q3, q4⟩ := kid_cells hca hna hc1
            have hbel := hWI.out.bel
            have hbA : ba < wr.heap.size := by have := haa'.2; have := hbel.size; have := HS1.out; omega
            rw [← hbel.cell (p := ⟨ba, offa + q * 5, none⟩) haa'.2] at q0
            rw [← hbel.cell (p := ⟨ba, offa + q * 5 + 1, none⟩) haa'.2] at q1
            rw [← hbel.cell (p := ⟨ba, offa + q * 5 + 2, none⟩) haa'.2] at q2
            rw [← hbel.cell (p := ⟨ba, offa + q * 5 + 3, none⟩) haa'.2] at q3
            rw [← hbel.cell (p := ⟨ba, offa + q * 5 + 4, none⟩) haa'.2] at q4
            have hea : a0 = some ⟨ba, offa, none⟩ := by
              have h1 := haa'.1
              injection hva with e1 e2 e3
              rw [e1]; exact h1
            subst hea
            obtain ⟨e1, e2, e3, e4, e5⟩ := sameP.node_parts hkid
            have hI1 : (q : Int) < (la : Int) := by omega
            have hI0 : (0 : Int) ≤ (q : Int) := by omega
            have HE5 := Lib.hid e5
            have HL1 : Hid (cs[q].kids.length = lc1) := Lib.hid (by
              obtain ⟨_, _, h1⟩ := sameQ.kids_form e5
              injection h1 with _ h1 _
              exact h1.symm)
            have HLEN : Hid (K2.length ≤ 1000000) := Lib.hid (by
              have h1 := countQ.len_tot K2
              have h2 := hst2.out.2.2
              have h3 := HTB.out
              rw [counts_app2] at h2 h3
              have h4 := counts_mono cs q
              omega)
            have HTQ : Hid (allc (L.take m) ++ cs.take (q + 1) = (allc (L.take m) ++ cs.take q) ++ [cs[q]]) := Lib.hid (by rw [take_oneN cs q hc1, List.append_assoc])
            have hb4 : Below wr.heap.size wr (wr.alloc (.cells #[.int .i64 k1, .int .i64 n1, .string t1, .slice ak1 lk1 ck1, .slice ac1 lc1 cc1] 28)) := (Below.refl _ _).alloc (Nat.le_refl _) _
            have HROW5 := Lib.hid (sameP.row_below hWI.out.row hb4)
            have HROWL := Lib.hid (sameP.row_below hWL2.out.row hb4)
            have hsb : w.heap.size + 1 ≤ wr.heap.size := by have h2 := hbel.size; have h3 := HS1.out; omega
            have HB15 := Lib.hid (hbel.trans (hb4.mono hsb))
            have HSB5 : Hid (w.heap.size + 1 ≤ (wr.alloc (.cells #[.int .i64 k1, .int .i64 n1, .string t1, .slice ak1 lk1 ck1, .slice ac1 lc1 cc1] 28)).heap.size) := Lib.hid (by simp; omega)
            have HGL5 : Hid (g < (wr.alloc (.cells #[.int .i64 k1, .int .i64 n1, .string t1, .slice ak1 lk1 ck1, .slice ac1 lc1 cc1] 28)).heap.size) := Lib.hid (by have := hgl2.out; simp; omega)
            clear hca hna haa haa' hva hma hkid hbel e1 e2 e3 e4 e5 hb4
            by_cases hl1 : 0 < lc1
            · have hl1I : (0 : Int) < (lc1 : Int) := by omega
              obtain ⟨i0, hi, hz0, hz1, hz2⟩ := info_parts infoK
              go_wp2_with (at_builtin; refine wpList_append_own_at _ rfl _ _ 47 rfl (w.heap.size + 1) 26 i0 (.slice none 0 0) 1 24 Tryd.underlying47 hi hz0 hz1 hz2 rfl (by decide) u5 K2.length (rowOf K2) rfl ?c0 ⟨wr.heap.size + 1, 0, none⟩ 1 1 [.slice ac1 lc1 cc1] rfl rfl ?c1 ?c2 ?c3 ?c4 ?c5 ?_)
              case c0 => exact HROW5.out.alloc _
              case c1 =>
                have h := cell_one_new (wr.alloc (.cells #[.int .i64 k1, .int .i64 n1, .string t1, .slice ak1 lk1 ck1, .slice ac1 lc1 cc1] 28)) (.slice ac1 lc1 cc1) 26
                rw [show (wr.alloc (.cells #[.int .i64 k1, .int .i64 n1, .string t1, .slice ak1 lk1 ck1, .slice ac1 lc1 cc1] 28)).heap.size = wr.heap.size + 1 from by simp] at h
                exact h
              case c2 => simp [Value.oneCell']
              case c3 => have := HLEN.out; unfold maxLen; omega
              case c4 => have := HLEN.out; omega
              case c5 => have := HSB5.out; simp at this; simp; omega
              generalize wr.alloc (.cells #[.int .i64 k1, .int .i64 n1, .string t1, .slice ak1 lk1 ck1, .slice ac1 lc1 cc1] 28) = w5 at *
              intro v' w7 hown7 hgrow7 _ hat7
              have hb57 : Below w5.heap.size w5 (w5.alloc (.cells #[.slice ac1 lc1 cc1] 26)) := (Below.refl _ _).alloc (Nat.le_refl _) _
              have HB7 : Hid (Below (w.heap.size + 1) w1 w7) := Lib.hid (((HB15.out.trans (hb57.mono HSB5.out))).grown hgrow7 (by have := HSB5.out; simp; omega) (fun j hj => (World.ownsRow.lt HROW5.out j hj).1))
              have HN7 : Hid (WK w1 w7 (w.heap.size + 1) v' (K2 ++ [⟨.slice ac1 lc1 cc1, cs[q].kids⟩])) := Lib.hid ⟨by
                rw [rowOf_snoc, List.length_append]; exact hown7, HB7.out, fun e he => by
                rcases List.mem_append.1 he with he | he
                · exact hWI.out.kid e he
                · simp at he; subst he; exact HE5.out⟩
              have HNL : Hid (WK w1 w7 (w.heap.size + 1) (.slice (some ⟨g, 0, none⟩) L.length cv) L) := Lib.hid ⟨World.ownsRow.kept (sameP.row_below HROWL.out hb57) hgrow7 (.inr (fun e => hdis2.out e.symm)), HB7.out, hWL2.out.kid⟩
              have HD7 : Hid (v'.ownBlock ≠ some g) := Lib.hid (by
                rcases hat7 with e | e
                · rw [e]; exact hdis2.out
                · rw [e]; intro e2; have h1 := Option.some.inj e2; have h2 := HGL5.out; have h3 := hgl2.out; first | omega | (simp at h1; omega))
              have HG7 : Hid (g < w7.heap.size) := Lib.hid (by have h1 := hgrow7.size; have h2 := HGL5.out; first | omega | (simp at h1; omega))
              have HS7 : Hid (St (K2 ++ [⟨.slice ac1 lc1 cc1, cs[q].kids⟩]) (allc (L.take m) ++ cs.take (q + 1)) true) := Lib.hid (by rw [HTQ.out]; exact hst2.out.push cs[q] _)
              clear hown7 hgrow7 hat7 hb57 q0 q1 q2 q3 q4
              go_wp2
              go_roundw
              case rel => exact ⟨q + 1, _, true, by omega, by go_num, rfl, HN7, HNL, HD7, HG7, HS7⟩
              case measure => simp [intOf]; omega
            · have hl1I : ¬ ((0 : Int) < (lc1 : Int)) := by omega
              have HKK : Hid (cs[q].kids = []) := Lib.hid (List.length_eq_zero_iff.1 (by have := HL1.out; omega))
              have HN7 : Hid (WK w1 (wr.alloc (.cells #[.int .i64 k1, .int .i64 n1, .string t1, .slice ak1 lk1 ck1, .slice ac1 lc1 cc1] 28)) (w.heap.size + 1) u5 K2) := Lib.hid ⟨HROW5.out, HB15.out, hWI.out.kid⟩
              have HNL : Hid (WK w1 (wr.alloc (.cells #[.int .i64 k1, .int .i64 n1, .string t1, .slice ak1 lk1 ck1, .slice ac1 lc1 cc1] 28)) (w.heap.size + 1) (.slice (some ⟨g, 0, none⟩) L.length cv) L) := Lib.hid ⟨HROWL.out, HB15.out, hWL2.out.kid⟩
              have HS7 : Hid (St K2 (allc (L.take m) ++ cs.take (q + 1)) true) := Lib.hid (by rw [HTQ.out]; exact hst2.out.skip HKK.out)
              go_wp2
              go_roundw
              case rel => exact ⟨q + 1, K2, true, by omega, by go_num, rfl, HN7, HNL, hdis2, HGL5, HS7⟩
              case measure => simp [intOf]; omega
          · have hem : q = la := by omega
            have HS7 : Hid (St K2 (allc (L.take (m + 1))) b2) := Lib.hid (by
              have h1 := hst2.out
              have e : cs.take q = cs := List.take_of_length_le (by have := HLA.out; omega)
              rw [e] at h1
              rw [HTC.out]; exact h1)
            have HD7 : Hid (∀ g', (Value.slice (some ⟨g, 0, none⟩) L.length cv).ownBlock = some g' → u5.ownBlock ≠ some g') := Lib.hid (fun g' h => by
              have h1 : g = g' := Option.some.inj h
              rw [← h1]; exact hdis2.out)
            subst hem
            clear hst2
            go_wp2
            go_roundw
            case rel => exact ⟨m + 1, K2, b2, by omega, by go_num, rfl, hWI, hWL2, HD7, HS7⟩
            case measure => simp [intOf]; omega
      · have hem : m = L.length := by omega
        have hst' : St K (allc L) bb := by have h1 := hst.out; rw [List.take_of_length_le (by omega)] at h1; exact h1
        obtain ⟨s1, s2, s3⟩ := hst'
        subst hem
        cases hbb : bb
        · have hD : allc L = [] := by rw [hbb] at s1; simpa using s1.symm
          have HDD : Hid (dd = dp x) := Lib.hid (by have h1 := hdd.out; rw [hD] at h1; simpa [dps] using h1)
          have HB := Lib.hid (HBW.out.trans (hWK.out.bel.mono (by omega)))
          subst hbb
          clear s1 s2 s3 hst hD
          go_wp2
          go_ret
          exact ⟨by rw [HDD.out]; rfl, HB.out⟩
        · have hD : allc L ≠ [] := by rw [hbb] at s1; intro h; rw [h] at s1; cases s1
          have h1 := dps_mx (allc L) hD
          have HDD : Hid ((dd + 1 : Nat) + dps (allc K) = dp x) := Lib.hid (by have h2 := hdd.out; omega)
          have HTT : Hid (countQ.tot K ≤ count x) := Lib.hid (by have h2 := counts_allc L; have h3 := htot.out; simp [sameP.tot] at h2; omega)
          have HGK : Hid (dps (allc K) + 1 < gk) := Lib.hid (by have h2 := hgk.out; omega)
          have hddI : (dd : Int) + 1 ≤ 1000000 := by have h2 := HDD.out; have h3 := HDP.out; omega
          have hddI0 : (0 : Int) ≤ (dd : Int) := by omega
          subst hbb
          clear s1 s2 s3 hst hD h1
          go_wp2
          go_roundg (dps (allc K) + 1)
          case measure => exact HGK.out
          case rel => exact ⟨dd + 1, K, by go_num, hWK.out, HDD, HTT, Lib.hid (Nat.le_refl _)⟩
end Go.Proofs.YtjcaffpmcgfhaaaDoor.depthQ
