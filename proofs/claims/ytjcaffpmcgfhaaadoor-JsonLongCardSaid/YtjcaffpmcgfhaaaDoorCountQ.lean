/-
  Contract of json.Count.
-/
import Derived.Test.YtjcaffpmcgfhaaaDoorSameQ
namespace Go.Proofs.YtjcaffpmcgfhaaaDoor.countQ
open Go.ChangeShapes Go.WideShapes Go.ChangeAt Go.RowKit nodeP nodeQ nodeA sameTexts sameN sameP sameQ ownI
set_option linter.unusedSimpArgs false
set_option linter.unusedVariables false

theorem infoK : (Tryd.prog.info? 26).map (fun i => (i.zero, i.size, i.bytes)) = some (some (.slice none 0 0), 1, 24) := by kernel_rfl
structure F where
  va : Value
  cs : List Nd
def cnt (L : List F) : Nat := (L.map fun e => counts e.cs).sum
def tot (L : List F) : Nat := (L.map fun e => 1 + counts e.cs).sum
def rowOf (L : List F) : List Value := L.map F.va
theorem rowOf_snoc (L : List F) (e : F) : rowOf (L ++ [e]) = rowOf L ++ [e.va] := by simp [rowOf]
theorem rowOf_len (L : List F) : (rowOf L).length = L.length := by simp [rowOf]
theorem cnt_snoc (L : List F) (e : F) : cnt (L ++ [e]) = cnt L + counts e.cs := by simp [cnt]
theorem tot_snoc (L : List F) (e : F) : tot (L ++ [e]) = tot L + (1 + counts e.cs) := by simp [tot]
theorem len_tot (L : List F) : L.length ≤ tot L := by
  induction L with
  | nil => simp
  | cons e L ih => simp only [tot, List.map_cons, List.sum_cons, List.length_cons] at *; omega
theorem last_or (L : List F) : L = [] ∨ ∃ L' e, L = L' ++ [e] := by
  rcases List.eq_nil_or_concat L with h | ⟨L', e, h⟩
  · exact .inl h
  · exact .inr ⟨L', e, by rw [h, List.concat_eq_append]⟩
/-- a row without its last one -/
theorem row_pop {w : World} {B : Nat} {e : TypeId} {g n cap : Nat} {xs : List Value} {a : Value} (h : w.ownsRow B e 1 (.slice (some ⟨g, 0, none⟩) (n + 1) cap) (n + 1) (xs ++ [a])) : w.ownsRow B e 1 (.slice (some ⟨g, 0, none⟩) n cap) n xs := by
  obtain ⟨h1, h2⟩ := h
  rcases h2 with ⟨h2, _⟩ | ⟨g', cap', cur, hv, hb, hg, hn, hm, hc, ht⟩
  · cases h2
  · cases hv
    have hl : xs.length = n * 1 := by rw [List.length_append] at h1; simp at h1; omega
    refine ⟨hl, .inr ⟨g, cap, cur, rfl, hb, hg, by omega, hm, hc, ?_⟩⟩
    have : cur.toList.take (n * 1) = (cur.toList.take ((n + 1) * 1)).take (n * 1) := by rw [List.take_take]; congr 1; omega
    rw [this, ht, List.take_left' hl]
theorem row_some {w : World} {B : Nat} {e : TypeId} {n : Nat} {v : Value} {xs : List Value} (h : w.ownsRow B e 1 v (n + 1) xs) : ∃ g cap, v = .slice (some ⟨g, 0, none⟩) (n + 1) cap ∧ B ≤ g ∧ g < w.heap.size ∧ n + 1 ≤ cap := by
  rcases h.2 with ⟨_, h0⟩ | ⟨g, cap, cur, hv, hb, hg, hn, _⟩
  · omega
  · exact ⟨g, cap, hv, hb, (Array.getElem?_eq_some_iff.1 hg).1, hn⟩
/-- so many values among the kids' kids -/
def ck (cs : List Nd) : Nat := (cs.map fun c => counts c.kids).sum
theorem counts_ck (cs : List Nd) : counts cs = cs.length + ck cs := by
  induction cs with
  | nil => rfl
  | cons c cs ih => simp only [counts, ck, List.map_cons, List.sum_cons, List.length_cons] at *; rw [ih, count_kids]; omega
theorem ck_drop (cs : List Nd) (m : Nat) (h : m < cs.length) : ck (cs.drop m) = counts cs[m].kids + ck (cs.drop (m + 1)) := by
  rw [List.drop_eq_getElem_cons h]; unfold ck; rw [List.map_cons, List.sum_cons]

structure WK (w1 wr : World) (B : Nat) (v : Value) (L : List F) : Prop where
  row : wr.ownsRow B 26 1 v L.length (rowOf L)
  bel : Below B w1 wr
  kid : ∀ e ∈ L, KidsAt w1 B e.va e.cs

theorem start {w : World} {x : Nd} {k n : Int} {t : ByteArray} {a1 : Option Addr} {n1 c1 : Nat} {cv : Value} (hx : NodeAt w w.heap.size x [.int .i64 k, .int .i64 n, .string t, .slice a1 n1 c1, cv]) :
    ∃ w1, w1 = (w.alloc (.cells #[.int .i64 k, .int .i64 n, .string t, .slice a1 n1 c1, cv] 28)).alloc (.cells #[cv] 26) ∧
      WK w1 w1 (w.heap.size + 1) (.slice (some ⟨w.heap.size + 1, 0, none⟩) 1 1) [⟨cv, x.kids⟩] ∧ Below w.heap.size w w1 ∧ w1.heap.size = w.heap.size + 1 + 1 := by
  have b1 : Below w.heap.size w (w.alloc (.cells #[.int .i64 k, .int .i64 n, .string t, .slice a1 n1 c1, cv] 28)) := (Below.refl _ _).alloc (Nat.le_refl _) _
  have s1 : (w.alloc (.cells #[.int .i64 k, .int .i64 n, .string t, .slice a1 n1 c1, cv] 28)).heap.size = w.heap.size + 1 := by simp
  obtain ⟨_, _, _, _, hcv⟩ := node_parts hx
  generalize w.alloc (.cells #[.int .i64 k, .int .i64 n, .string t, .slice a1 n1 c1, cv] 28) = w2 at *
  have n5 : Whole (w2.alloc (.cells #[cv] 26)) w2.heap.size 26 [cv] := Whole.new w2 26 [cv]
  have b5 : Below w2.heap.size w2 (w2.alloc (.cells #[cv] 26)) := (Below.refl _ _).alloc (Nat.le_refl _) _
  have s5 : (w2.alloc (.cells #[cv] 26)).heap.size = w.heap.size + 1 + 1 := by simp [s1]
  generalize w2.alloc (.cells #[cv] 26) = w5 at *
  rw [s1] at n5
  have B5 : Below w.heap.size w w5 := b1.trans (b5.mono (by omega))
  refine ⟨w5, rfl, ⟨⟨rfl, .inr ⟨_, 1, _, rfl, Nat.le_refl _, n5, Nat.le_refl _, by unfold maxLen; omega, rfl, rfl⟩⟩, Below.refl _ _, fun e he => ?_⟩, B5, s5⟩
  simp at he
  subst he
  exact (hcv.keep B5).mono (by omega)

set_option maxHeartbeats 8000000 in
set_option maxRecDepth 100000 in
theorem count_any (x : Nd) (l : List Value) (w : World) (hx : NodeAt w w.heap.size x l) (hcn : (count x : Int) ≤ 1000000) :
    Calls Tryd.prog 10 #[.agg l.toArray] w fun e w' => e = .returned (.int .i64 (count x)) ∧ Below w.heap.size w w' := by
  have hlf : ∃ k n t a1 n1 c1 a2 n2 c2, l = [.int .i64 k, .int .i64 n, .string t, .slice a1 n1 c1, .slice a2 n2 c2] := by
    cases x with
    | mk k n t ks cs =>
    obtain ⟨kv, cv, rfl, _, _, _, ⟨ak, ck, _, _, rfl, _⟩, ⟨ac, cc, _, _, _, rfl, _⟩⟩ := hx.open
    exact ⟨_, _, _, _, _, _, _, _, _, rfl⟩
  obtain ⟨xk, xn, xt, xa1, xn1, xc1, xa2, xn2, xc2, rfl⟩ := hlf
  obtain ⟨w1, hw1, hW, hBW, hS1⟩ := start hx
  have HW := Lib.hid hW
  have HBW := Lib.hid hBW
  have HS1 := Lib.hid hS1
  have HCN : Hid (count x ≤ 1000000) := Lib.hid (by omega)
  have HT0 : Hid (tot [⟨.slice xa2 xn2 xc2, x.kids⟩] ≤ count x) := Lib.hid (by rw [count_kids]; simp [tot])
  have HC0 : Hid (1 + cnt [⟨.slice xa2 xn2 xc2, x.kids⟩] = count x) := Lib.hid (by rw [count_kids]; simp [cnt])
  have HW1 := Lib.hid hw1
  clear hx hcn hw1 hW hBW hS1
  go_enter Tryd.func10, Tryd.ntmps10
  go_wp2
  rw [← HW1.out]
  go_loopg [3, 4] (count x) (fun gk cv v wr => ∃ (c : Nat) (L : List F), cv = .int .i64 c ∧ WK w1 wr (w.heap.size + 1) v L ∧ Hid (c + cnt L = count x) ∧ Hid (tot L ≤ gk) ∧ Hid (gk ≤ count x))
  case atStart => exact ⟨1, _, rfl, HW.out, HC0, HT0, Lib.hid (Nat.le_refl _)⟩
  case round =>
    obtain ⟨c, L, rfl, hI, hc, htot, hgk⟩ := hrel
    rcases last_or L with rfl | ⟨L', e, rfl⟩
    · obtain ⟨ao, c0, hv⟩ := jsonB.row_form hI.row
      have HB := Lib.hid (HBW.out.trans (hI.bel.mono (by omega)))
      have HCC : Hid (c = count x) := Lib.hid (by have := hc.out; simpa [cnt] using this)
      rw [show ([] : List F).length = 0 from rfl] at hv
      subst hv
      clear hI
      go_wp2
      go_ret
      exact ⟨by rw [HCC.out]; rfl, HB.out⟩
    · obtain ⟨va, cs⟩ := e
      have hka := hI.kid ⟨va, cs⟩ (by simp)
      obtain ⟨a0, ca, hva⟩ := kids_form hka
      dsimp only at hva
      subst hva
      have HKA := Lib.hid hka
      have hrow := hI.row
      rw [rowOf_snoc, List.length_append] at hrow
      dsimp only at hrow
      change wr.ownsRow _ _ 1 _ (L'.length + 1) _ at hrow
      obtain ⟨g, cap, hv, hgB, hgl, hcap⟩ := row_some hrow
      rw [hv] at hrow
      have hrl := rowOf_len L'
      have c0 := hrow.cellAt L'.length (by omega)
      rw [List.getElem?_append_right (by omega), hrl, Nat.sub_self] at c0
      simp only [List.getElem?_cons_zero] at c0
      have HPOP := Lib.hid (row_pop hrow)
      have HBE := Lib.hid hI.bel
      have HKID : Hid (∀ e ∈ L', KidsAt w1 (w.heap.size + 1) e.va e.cs) := Lib.hid (fun e he => hI.kid e (by simp [he]))
      have HCC : Hid (c + (cnt L' + counts cs) = count x) := Lib.hid (by have := hc.out; rw [cnt_snoc] at this; exact this)
      have HTT : Hid (tot L' + (1 + counts cs) ≤ gk) := Lib.hid (by have := htot.out; rw [tot_snoc] at this; exact this)
      have hn100 : (L'.length : Int) ≤ 1000000 := by have h1 := len_tot L'; have h2 := HTT.out; have h3 := hgk.out; have h4 := HCN.out; omega
      have hn0 : (0 : Int) ≤ (L'.length : Int) := by omega
      have hn1 : (L'.length : Int) < (L'.length : Int) + 1 := by omega
      have hn2 : (0 : Int) < (L'.length : Int) + 1 := by omega
      have hn3 : L'.length < L'.length + 1 := by omega
      have hcI : (c : Int) + (cs.length : Int) ≤ 1000000 := by have h1 := HCC.out; have h2 := counts_ck cs; have h3 := HCN.out; omega
      have hcI0 : (0 : Int) ≤ (c : Int) + (cs.length : Int) := by omega
      subst hv
      clear hI hka hrow hrl hc htot
      generalize hLn : L'.length = nl at *
      have HLN := Lib.hid hLn
      clear hLn
      have hcapI : (nl : Int) ≤ (cap : Int) := by omega
      have hcapN : nl ≤ cap := by omega
      generalize hla : cs.length = la at *
      have HLA := Lib.hid hla
      have hlaI : (la : Int) ≤ 9223372036854775807 := by omega
      have hBs := HBE.out.size
      have HP2 : Hid (wr.ownsRow (w.heap.size + 1) 26 1 (.slice (some ⟨g, 0, none⟩) nl cap) nl (rowOf L')) := HPOP
      have HCK : Hid (c + la + cnt (L' ++ []) + ck (cs.drop 0) = count x) := Lib.hid (by rw [List.append_nil]; have h1 := HCC.out; have h2 := counts_ck cs; rw [hla] at h2; simp; omega)
      have HTK : Hid (tot (L' ++ []) + counts (cs.drop 0) + 1 ≤ gk) := Lib.hid (by rw [List.append_nil]; have := HTT.out; simp; omega)
      clear hla
      go_wp2
      go_loopw [4, 31] (fun v i w3 => ∃ (m : Nat) (K : List F), m ≤ la ∧ i = .int .i64 m ∧ Hid (WK w1 w3 (w.heap.size + 1) v (L' ++ K)) ∧ Hid (c + la + cnt (L' ++ K) + ck (cs.drop m) = count x) ∧ Hid (tot (L' ++ K) + counts (cs.drop m) + 1 ≤ gk)) (fun _ i _ => la - (intOf i).toNat)
      case atStart => exact ⟨0, [], Nat.zero_le _, rfl, Lib.hid ⟨by rw [List.append_nil, HLN.out]; exact HP2.out, HBE.out, by rw [List.append_nil]; exact HKID.out⟩, HCK, HTK⟩
      case round =>
        obtain ⟨m, K, hm1, rfl, hWI, hck, htt⟩ := hrel
        clear c0
        by_cases hlt : m < la
        · have hc1 : m < cs.length := by have := HLA.out; omega
          obtain ⟨aoa, cpa, ba, offa, lsa, hva, hma, haa, hca, hna⟩ := HKA.out
          have haa' := haa (by intro h0; have h1 : cs = [] := h0; rw [h1] at hc1; simp at hc1)
          obtain ⟨k1, n1, t1, ak1, lk1, ck1, ac1, lc1, cc1, hkid, q0, q1, q2, q3, q4⟩ := kid_cells hca hna hc1
          have hbel := hWI.out.bel
          have hbA : ba < wr.heap.size := by have := haa'.2; have := hbel.size; have := HS1.out; omega
          rw [← hbel.cell (p := ⟨ba, offa + m * 5, none⟩) haa'.2] at q0
          rw [← hbel.cell (p := ⟨ba, offa + m * 5 + 1, none⟩) haa'.2] at q1
          rw [← hbel.cell (p := ⟨ba, offa + m * 5 + 2, none⟩) haa'.2] at q2
          rw [← hbel.cell (p := ⟨ba, offa + m * 5 + 3, none⟩) haa'.2] at q3
          rw [← hbel.cell (p := ⟨ba, offa + m * 5 + 4, none⟩) haa'.2] at q4
          have hea : a0 = some ⟨ba, offa, none⟩ := by
            have h1 := haa'.1
            injection hva with e1 e2 e3
            rw [e1]; exact h1
          subst hea
          obtain ⟨e1, e2, e3, e4, e5⟩ := node_parts hkid
          have hI1 : (m : Int) < (la : Int) := by omega
          have hI0 : (0 : Int) ≤ (m : Int) := by omega
          have HE5 := Lib.hid e5
          have HL1 : Hid (cs[m].kids.length = lc1) := Lib.hid (by
            obtain ⟨_, _, h1⟩ := kids_form e5
            injection h1 with _ h1 _
            exact h1.symm)
          have HLEN : Hid ((L' ++ K).length ≤ 1000000) := Lib.hid (by have h1 := len_tot (L' ++ K); have h2 := htt.out; have h3 := hgk.out; have h4 := HCN.out; omega)
          have hb4 : Below wr.heap.size wr (wr.alloc (.cells #[.int .i64 k1, .int .i64 n1, .string t1, .slice ak1 lk1 ck1, .slice ac1 lc1 cc1] 28)) := (Below.refl _ _).alloc (Nat.le_refl _) _
          have HROW5 := Lib.hid (row_below hWI.out.row hb4)
          have hsb : w.heap.size + 1 ≤ wr.heap.size := by have h2 := hbel.size; have h3 := HS1.out; omega
          have HB15 := Lib.hid (hbel.trans (hb4.mono hsb))
          have HSB : Hid (w.heap.size + 1 ≤ (wr.alloc (.cells #[.int .i64 k1, .int .i64 n1, .string t1, .slice ak1 lk1 ck1, .slice ac1 lc1 cc1] 28)).heap.size) := Lib.hid (by simp; omega)
          clear hca hna haa haa' hva hma hkid hbel e1 e2 e3 e4 e5 hb4
          by_cases hl1 : 0 < lc1
          · have hl1I : (0 : Int) < (lc1 : Int) := by omega
            obtain ⟨i0, hi, hz0, hz1, hz2⟩ := info_parts infoK
            go_wp2_with (at_builtin; refine wpList_append_own_at _ rfl _ _ 47 rfl (w.heap.size + 1) 26 i0 (.slice none 0 0) 1 24 Tryd.underlying47 hi hz0 hz1 hz2 rfl (by decide) u4 (L' ++ K).length (rowOf (L' ++ K)) rfl ?c0 ⟨wr.heap.size + 1, 0, none⟩ 1 1 [.slice ac1 lc1 cc1] rfl rfl ?c1 ?c2 ?c3 ?c4 ?c5 ?_)
            case c0 => exact HROW5.out.alloc _
            case c1 =>
              have h := cell_one_new (wr.alloc (.cells #[.int .i64 k1, .int .i64 n1, .string t1, .slice ak1 lk1 ck1, .slice ac1 lc1 cc1] 28)) (.slice ac1 lc1 cc1) 26
              rw [show (wr.alloc (.cells #[.int .i64 k1, .int .i64 n1, .string t1, .slice ak1 lk1 ck1, .slice ac1 lc1 cc1] 28)).heap.size = wr.heap.size + 1 from by simp] at h
              exact h
            case c2 => simp [Value.oneCell']
            case c3 => have := HLEN.out; unfold maxLen; omega
            case c4 => have := HLEN.out; omega
            case c5 => have := HSB.out; simp at this; simp; omega
            generalize wr.alloc (.cells #[.int .i64 k1, .int .i64 n1, .string t1, .slice ak1 lk1 ck1, .slice ac1 lc1 cc1] 28) = w5 at *
            intro v' w7 hown7 hgrow7 _ hat7
            have hb57 : Below w5.heap.size w5 (w5.alloc (.cells #[.slice ac1 lc1 cc1] 26)) := (Below.refl _ _).alloc (Nat.le_refl _) _
            have HB7 : Hid (Below (w.heap.size + 1) w1 w7) := Lib.hid (((HB15.out.trans (hb57.mono HSB.out))).grown hgrow7 (by have := HSB.out; simp; omega) (fun j hj => (World.ownsRow.lt HROW5.out j hj).1))
            have HN7 : Hid (WK w1 w7 (w.heap.size + 1) v' (L' ++ (K ++ [⟨.slice ac1 lc1 cc1, cs[m].kids⟩]))) := Lib.hid ⟨by
              rw [← List.append_assoc, rowOf_snoc, List.length_append, List.length_append]; exact hown7, HB7.out, fun e he => by
              rw [← List.append_assoc] at he
              rcases List.mem_append.1 he with he | he
              · exact hWI.out.kid e he
              · simp at he; subst he; exact HE5.out⟩
            have HQ7 : Hid (c + la + cnt (L' ++ (K ++ [⟨.slice ac1 lc1 cc1, cs[m].kids⟩])) + ck (cs.drop (m + 1)) = count x) := Lib.hid (by
              have h1 := hck.out
              rw [ck_drop cs m hc1] at h1
              rw [← List.append_assoc, cnt_snoc]
              show c + la + (cnt (L' ++ K) + counts cs[m].kids) + _ = _
              omega)
            have HT7 : Hid (tot (L' ++ (K ++ [⟨.slice ac1 lc1 cc1, cs[m].kids⟩])) + counts (cs.drop (m + 1)) + 1 ≤ gk) := Lib.hid (by
              have h1 := htt.out
              rw [counts_drop cs m hc1, count_kids] at h1
              rw [← List.append_assoc, tot_snoc]
              show tot (L' ++ K) + (1 + counts cs[m].kids) + _ + 1 ≤ gk
              omega)
            clear hown7 hgrow7 hat7 hb57 q0 q1 q2 q3 q4
            go_wp2
            go_roundw
            case rel => exact ⟨m + 1, _, by omega, by go_num, HN7, HQ7, HT7⟩
            case measure => simp [intOf]; omega
          · have hl1I : ¬ ((0 : Int) < (lc1 : Int)) := by omega
            have HKK : Hid (cs[m].kids = []) := Lib.hid (List.length_eq_zero_iff.1 (by have := HL1.out; omega))
            have HN7 : Hid (WK w1 (wr.alloc (.cells #[.int .i64 k1, .int .i64 n1, .string t1, .slice ak1 lk1 ck1, .slice ac1 lc1 cc1] 28)) (w.heap.size + 1) u4 (L' ++ K)) := Lib.hid ⟨HROW5.out, HB15.out, hWI.out.kid⟩
            have HQ7 : Hid (c + la + cnt (L' ++ K) + ck (cs.drop (m + 1)) = count x) := Lib.hid (by
              have h1 := hck.out
              rw [ck_drop cs m hc1, HKK.out] at h1
              simpa [counts] using h1)
            have HT7 : Hid (tot (L' ++ K) + counts (cs.drop (m + 1)) + 1 ≤ gk) := Lib.hid (by
              have h1 := htt.out
              rw [counts_drop cs m hc1] at h1
              omega)
            go_wp2
            go_roundw
            case rel => exact ⟨m + 1, K, by omega, by go_num, HN7, HQ7, HT7⟩
            case measure => simp [intOf]; omega
        · have hem : m = la := by omega
          have HQ7 : Hid ((c + la : Nat) + cnt (L' ++ K) = count x) := Lib.hid (by
            have h1 := hck.out
            rw [List.drop_of_length_le (by have := HLA.out; omega)] at h1
            simpa [ck] using h1)
          have HT7 : Hid (tot (L' ++ K) + 1 ≤ gk) := Lib.hid (by have := htt.out; omega)
          subst hem
          clear hck htt
          go_wp2
          go_roundg (tot (L' ++ K))
          case measure => have := HT7.out; omega
          case rel => exact ⟨c + m, L' ++ K, by go_num, hWI.out, HQ7, Lib.hid (Nat.le_refl _), Lib.hid (by have h1 := HT7.out; have h2 := hgk.out; omega)⟩
end Go.Proofs.YtjcaffpmcgfhaaaDoor.countQ
