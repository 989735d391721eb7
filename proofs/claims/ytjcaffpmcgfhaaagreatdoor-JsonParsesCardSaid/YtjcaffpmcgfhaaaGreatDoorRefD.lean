/-
  Contract of the reference's object (written by gen_refD.py).
-/
import Derived.Test.YtjcaffpmcgfhaaaGreatDoorRefC
import Derived.Test.YtjcaffpmcgfhaaaGreatDoorNodM
namespace Go.Proofs.YtjcaffpmcgfhaaaGreatDoor.refD
open Go.ChangeShapes Go.WideShapes Go.ChangeAt Go.RowKit Go.WideMaps Go.Maps nodeP nodeQ nodeS ownI jsonP jsonM jsonN jsonO jsonA jsonB refA refB refC jsonQ
set_option linter.unusedSimpArgs false
set_option linter.unusedVariables false

theorem infoSt : (Tryz.prog.info? 9).map (fun i => (i.zero, i.size, i.bytes)) = some (some (.string ⟨#[]⟩), 1, 16) := by kernel_rfl
/-- an Object's reading, behind its first byte -/
noncomputable def objR (d n : Nat) (u : List UInt8) : R3 := if hd (bs u) = 125 then .ok (Fr.mk true [] []).node (bs u).tail n else rr d n (bs u) ⟨true, [], []⟩
/-- at the head of object's loop -/
def OL (w w3 : World) (B rb ob qb : Nat) (s : ByteArray) (N d : Nat) (R : R3) (wr : World) : Prop :=
  ∃ (p e n : Nat) (ks : List ByteArray) (cs : List Nd) (F : Jx → Thing) (P : Nat → Prop), OM wr B rb ob s p e n 7 ks cs F P ∧ Whole wr qb 26 [.int .i64 0, .int .i64 0, .string ⟨#[]⟩, .slice none 0 0, .slice none 0 0] ∧ Nr B rb ob w3 wr ∧
    ((e = 0 ∧ s.size - p ≤ N ∧ p ≤ s.size ∧ n ≤ 20000 ∧ cs.length ≤ p ∧ ks.length ≤ p ∧ ks.length = cs.length ∧ rr d n (s.data.toList.drop p) ⟨true, ks, cs⟩ = R) ∨ (e ≠ 0 ∧ R = .err e))

set_option maxRecDepth 100000 in
set_option maxHeartbeats 40000000 in
theorem object_any (s : ByteArray) (N : Nat) (hV : ValC s N) (hs : s.size ≤ 100000) (w : World) (rb p d n : Nat) (hp : p ≤ s.size) (hpN : s.size - p ≤ N) (hdp : d < 32) (hn : n ≤ 20000) (h : Rw w rb s p 0 n) :
    Calls Tryz.prog 28 #[.pointer (some ⟨rb, 0, none⟩), .int .i64 d] w (VlP rb s (objR d n (s.data.toList.drop p)) w) := by
  have hrw := Whole.lt h
  have b1 : Below w.heap.size w (w.alloc (.cells #[.int .i64 0, .int .i64 0, .string ⟨#[]⟩, .slice none 0 0, .slice none 0 0] 26)) := (Below.refl _ _).alloc (Nat.le_refl _) _
  have b2 : Below w.heap.size w ((w.alloc (.cells #[.int .i64 0, .int .i64 0, .string ⟨#[]⟩, .slice none 0 0, .slice none 0 0] 26)).alloc (.cells #[.int .i64 7, .int .i64 0, .string ⟨#[]⟩, .slice none 0 0, .slice none 0 0] 26)) := b1.alloc (by simp) _
  have hb21 : Below (w.alloc (.cells #[.int .i64 0, .int .i64 0, .string ⟨#[]⟩, .slice none 0 0, .slice none 0 0] 26)).heap.size (w.alloc (.cells #[.int .i64 0, .int .i64 0, .string ⟨#[]⟩, .slice none 0 0, .slice none 0 0] 26)) ((w.alloc (.cells #[.int .i64 0, .int .i64 0, .string ⟨#[]⟩, .slice none 0 0, .slice none 0 0] 26)).alloc (.cells #[.int .i64 7, .int .i64 0, .string ⟨#[]⟩, .slice none 0 0, .slice none 0 0] 26)) := (Below.refl _ _).alloc (Nat.le_refl _) _
  have n0 : Whole (w.alloc (.cells #[.int .i64 0, .int .i64 0, .string ⟨#[]⟩, .slice none 0 0, .slice none 0 0] 26)) w.heap.size 26 [.int .i64 0, .int .i64 0, .string ⟨#[]⟩, .slice none 0 0, .slice none 0 0] := Whole.new w 26 [.int .i64 0, .int .i64 0, .string ⟨#[]⟩, .slice none 0 0, .slice none 0 0]
  have w3Q := n0.below hb21 n0.lt
  have w3W : Whole ((w.alloc (.cells #[.int .i64 0, .int .i64 0, .string ⟨#[]⟩, .slice none 0 0, .slice none 0 0] 26)).alloc (.cells #[.int .i64 7, .int .i64 0, .string ⟨#[]⟩, .slice none 0 0, .slice none 0 0] 26)) (w.heap.size + 1) 26 [.int .i64 7, .int .i64 0, .string ⟨#[]⟩, .slice none 0 0, .slice none 0 0] := by
    have := Whole.new (w.alloc (.cells #[.int .i64 0, .int .i64 0, .string ⟨#[]⟩, .slice none 0 0, .slice none 0 0] 26)) 26 [.int .i64 7, .int .i64 0, .string ⟨#[]⟩, .slice none 0 0, .slice none 0 0]
    rw [show (w.alloc (.cells #[.int .i64 0, .int .i64 0, .string ⟨#[]⟩, .slice none 0 0, .slice none 0 0] 26)).heap.size = w.heap.size + 1 from by simp] at this
    exact this
  have w3s : w.heap.size + 2 ≤ ((w.alloc (.cells #[.int .i64 0, .int .i64 0, .string ⟨#[]⟩, .slice none 0 0, .slice none 0 0] 26)).alloc (.cells #[.int .i64 7, .int .i64 0, .string ⟨#[]⟩, .slice none 0 0, .slice none 0 0] 26)).heap.size := by simp
  have w3R := h.new b2
  have w3g := grown_below b2 (some rb)
  have hdI : IntKind.i64.wrap ((d : Int) + 1) = (((d + 1 : Nat)) : Int) := by rw [IntWalk.i64_in _ (by omega)]; omega
  go_enter Tryz.func28, Tryz.ntmps28
  go_wp2_with fail
  generalize (w.alloc (.cells #[.int .i64 0, .int .i64 0, .string ⟨#[]⟩, .slice none 0 0, .slice none 0 0] 26)).alloc (.cells #[.int .i64 7, .int .i64 0, .string ⟨#[]⟩, .slice none 0 0, .slice none 0 0] 26) = w3 at *
  have HOM3 := OM.start (B := w.heap.size + 2) (ob := w.heap.size + 1) w3R w3W (by omega)
  have HARR : Hid (objR d n (s.data.toList.drop p) = if hd (bs (s.data.toList.drop p)) = 125 then .ok (Fr.mk true [] []).node (bs (s.data.toList.drop p)).tail n else rr d n (bs (s.data.toList.drop p)) ⟨true, [], []⟩) := Lib.hid rfl
  generalize objR d n (s.data.toList.drop p) = R at *
  have HNX := Lib.hid (next_any w3 rb s p n w3R hp (by omega))
  have HQ3 := Lib.hid w3Q
  have HG3 := Lib.hid w3g
  have hws : w.heap.size ≤ w.heap.size := Nat.le_refl _
  have hqB : w.heap.size < w.heap.size + 2 ∧ w.heap.size ≠ rb ∧ w.heap.size ≠ w.heap.size + 1 := by omega
  have hq1 : w.heap.size ≤ w.heap.size + 1 := by omega
  have hob : w.heap.size + 1 ≠ rb := by omega
  have hoq : w.heap.size + 1 ≠ w.heap.size := by omega
  clear b1 b2 hb21 n0 w3W w3Q w3R w3g h hrw
  obtain ⟨F3, hOM3⟩ := HOM3
  refine HNX.out.mono ?_
  rintro x w4 ⟨rfl, p1, hpp, hp1, hdr, hM4, hG4⟩
  have HOM4 := Lib.hid (hOM3.call hG4 hM4 id)
  have HN4 : Hid (Nr (w.heap.size + 2) rb (w.heap.size + 1) w3 w4) := Lib.hid (Nr.call hG4 (by omega))
  have HQ4 := Lib.hid (HN4.out.whole HQ3.out (by omega) (by omega) (by omega))
  have HDR := Lib.hid hdr
  clear hM4 hG4 hOM3 HNX HQ3 hdr
  generalize hqb : w.heap.size = qb at *
  have HQB := Lib.hid hqb
  clear hqb
  generalize hob' : qb + 1 = ob at *
  have HOB := Lib.hid hob'
  clear hob'
  by_cases he : hd (bs (s.data.toList.drop p)) = 125
  · rw [he, if_pos rfl] at HARR
    rw [he]
    obtain ⟨f0, f1, f2, f3, f4⟩ := HOM4.out.rd.field
    have z1 := f4 1
    obtain ⟨c0, c1, c2, c3, c4⟩ := whole5 HOM4.out.out
    obtain ⟨a1, k1, e1⟩ := key_val HOM4.out
    obtain ⟨a2, k2, e2⟩ := kid_val HOM4.out
    rw [e1] at c3
    rw [e2] at c4
    obtain ⟨x0, x1, x2, x3, x4⟩ := whole5 HQ4.out
    have y0 := HQ4.out.frozen 0
    have y1 := HQ4.out.frozen 1
    have y2 := HQ4.out.frozen 2
    have y3 := HQ4.out.frozen 3
    have y4 := HQ4.out.frozen 4
    have HE1 := Lib.hid e1
    have HE2 := Lib.hid e2
    clear f2 f3 f4 e1 e2
    go_wp2
    have HOM5 : Hid (OM (w4.setCell ⟨rb, 1, none⟩ (.int .i64 ((p1 : Int) + 1))) (qb + 2) rb ob s (p1 + 1) 0 n 7 [] [] F3 (fun _ => False)) := Lib.hid (HOM4.out.call (g1 w4 rb 1 _) (HOM4.out.rd.setP (p1 + 1)) id)
    have HN5 : Hid (Nr (qb + 2) rb ob w3 (w4.setCell ⟨rb, 1, none⟩ (.int .i64 ((p1 : Int) + 1)))) := Lib.hid (HN4.out.trans (Nr.call (g1 w4 rb 1 _) HOM4.out.hB.2.2.2))
    have HQ5 := Lib.hid (HQ4.out.kept (g1 w4 rb 1 (.int .i64 ((p1 : Int) + 1))) (fun e => hqB.2.1 (Option.some.inj e).symm))
    have hlt : p1 < s.size := hd_drop (by rw [HDR.out, he]; decide)
    generalize w4.setCell ⟨rb, 1, none⟩ (.int .i64 ((p1 : Int) + 1)) = w5 at *
    obtain ⟨hW9, hP9⟩ := fin_any (r := R) HOM5.out HQ5.out hqB HN5.out HG3.out (by rw [HQB.out]; exact hq1) (by rw [HQB.out]; exact Nat.le_refl _) (show In64 7 by unfold In64; omega) (fun _ => ⟨HARR.out.trans (by rw [← HDR.out, List.tail_drop]; rfl), hlt, Nat.zero_le _, Nat.zero_le _⟩) (fun e => absurd rfl e) HE1.out HE2.out
    generalize ((((w5.setCell ⟨qb, 0, none⟩ (.int .i64 7)).setCell ⟨qb, 1, none⟩ (.int .i64 0)).setCell ⟨qb, 2, none⟩ (.string ByteArray.empty)).setCell ⟨qb, 3, none⟩ (.slice a1 0 k1)).setCell ⟨qb, 4, none⟩ (.slice a2 0 k2) = w9 at *
    obtain ⟨k0', k1', k2', k3', k4'⟩ := whole5 hW9
    refine bodyPost_ret (v := .agg #[.int .i64 7, .int .i64 0, .string ByteArray.empty, .slice a1 ([] : List ByteArray).length k1, .slice a2 ([] : List Nd).length k2]) (by simp [results, Tryz.results28, go_sem, k0', k1', k2', k3', k4']) rfl ?_
    exact hP9
  · rw [if_neg he] at HARR
    have heI : (((hd (bs (s.data.toList.drop p)) : Nat) : Int) == 125) = false := by rw [beq_eq_false_iff_ne]; omega
    have HR0 : Hid (rr d n (s.data.toList.drop p1) ⟨true, [], []⟩ = R) := Lib.hid (by rw [HDR.out, HARR.out])
    have H0 : Hid (OL w w3 (qb + 2) rb ob qb s N d R w4) := Lib.hid ⟨p1, 0, n, [], [], F3, _, HOM4.out, HQ4.out, HN4.out, .inl ⟨rfl, by omega, hp1, hn, Nat.zero_le _, Nat.zero_le _, rfl, HR0.out⟩⟩
    generalize hd (bs (s.data.toList.drop p)) = q at *
    clear HOM4 HN4 HQ4 HARR HDR HR0 he hpp hn hp
    go_wp2
    go_loopw [] (fun wr => OL w w3 (qb + 2) rb ob qb s N d R wr) (fun wr => s.size - (intOf ((wr.cell? ⟨rb, 1, none⟩).getD (.int .i64 0))).toNat)
    case atStart => exact H0.out
    case round =>
      clear H0
      obtain ⟨p2, e2, n2, ks, cs, F, P, hOM, hQ, hN, hcase⟩ := hrel
      have HOM := Lib.hid hOM
      have HQ := Lib.hid hQ
      have HN := Lib.hid hN
      have hf := hOM.rd.field
      obtain ⟨f0, f1, f2, f3, f4⟩ := hf
      have HF1 := Lib.hid f1
      clear f0 f1 f3 f4 hOM hQ hN
      rcases hcase with ⟨rfl, hpN2, hp2, hn2, hcl, hkl, hkc, hRR⟩ | ⟨hene, hRe⟩
      · have f2' : wr.cell? ⟨rb, 2, none⟩ = some (.int .i64 0) := f2
        have HRR := Lib.hid hRR
        have HKC := Lib.hid hkc
        clear hkc
        have HTX := Lib.hid (text_any wr rb s p2 n2 HOM.out.rd hp2 hs)
        clear f2 hRR
        go_wp2_with fail
        refine HTX.out.mono ?_
        rintro x w5 ⟨hG5, hx5⟩
        clear HTX f2'
        cases hst : stk (bs (s.data.toList.drop p2)) with
        | none =>
          rw [hst] at hx5
          obtain ⟨rfl, p5, hM5⟩ := hx5
          have HO5 := Lib.hid (HOM.out.call hG5 hM5 (fun e => absurd e (by decide)))
          have HN5 := Lib.hid (HN.out.trans (Nr.call hG5 HOM.out.hB.2.2.2))
          have HQ5 := Lib.hid (HQ.out.kept hG5 (fun e => hqB.2.1 (Option.some.inj e).symm))
          have HRe : Hid (R = .err 1) := Lib.hid (by rw [← HRR.out, rr_eq, if_pos rfl, hst])
          clear hG5 hM5 hst
          obtain ⟨f0, f1, f2, f3, f4⟩ := HO5.out.rd.field
          obtain ⟨c0, c1, c2, c3, c4⟩ := whole5 HO5.out.out
          obtain ⟨b1, k1, e1'⟩ := key_val HO5.out
          obtain ⟨b2, k2, e2'⟩ := kid_val HO5.out
          rw [e1'] at c3
          rw [e2'] at c4
          obtain ⟨x0, x1, x2, x3, x4⟩ := whole5 HQ5.out
          have y0 := HQ5.out.frozen 0
          have y1 := HQ5.out.frozen 1
          have y2 := HQ5.out.frozen 2
          have y3 := HQ5.out.frozen 3
          have y4 := HQ5.out.frozen 4
          have HE1 := Lib.hid e1'
          have HE2 := Lib.hid e2'
          clear e1' e2'
          clear f0 f1 f3 f4 
          go_wp2
          obtain ⟨hW9, hP9⟩ := fin_any (r := R) HO5.out HQ5.out hqB HN5.out HG3.out (by rw [HQB.out]; exact hq1) (by rw [HQB.out]; exact Nat.le_refl _) (show In64 7 by unfold In64; omega) (fun e => absurd e (by omega)) (fun _ => HRe.out) HE1.out HE2.out
          try simp only [List.length_append, List.length_cons, List.length_nil, Nat.zero_add] at hW9 hP9
          generalize ((((w5.setCell ⟨qb, 0, none⟩ (.int .i64 7)).setCell ⟨qb, 1, none⟩ (.int .i64 0)).setCell ⟨qb, 2, none⟩ (.string ByteArray.empty)).setCell ⟨qb, 3, none⟩ (.slice b1 ks.length k1)).setCell ⟨qb, 4, none⟩ (.slice b2 cs.length k2) = wZ at *
          obtain ⟨k0', k1', k2', k3', k4'⟩ := whole5 hW9
          refine bodyPost_ret (v := .agg #[.int .i64 7, .int .i64 0, .string ByteArray.empty, .slice b1 ks.length k1, .slice b2 cs.length k2]) (by simp [results, Tryz.results28, go_sem, k0', k1', k2', k3', k4']) rfl ?_
          exact hP9
        | some q0 =>
          obtain ⟨xs, kk⟩ := q0
          rw [hst] at hx5
          obtain ⟨rfl, p3, hp23', hp3, hd3, hM5⟩ := hx5
          have HO5 := Lib.hid (HOM.out.call hG5 hM5 (fun _ => rfl))
          have HN5 := Lib.hid (HN.out.trans (Nr.call hG5 HOM.out.hB.2.2.2))
          have HQ5 := Lib.hid (HQ.out.kept hG5 (fun e => hqB.2.1 (Option.some.inj e).symm))
          have HST := Lib.hid hst
          have HD3 : Hid (s.data.toList.drop p3 = (bs (s.data.toList.drop p2)).drop kk) := Lib.hid hd3
          clear hG5 hM5 hst hd3 HOM HN HQ
          obtain ⟨kv, hkv⟩ := HO5.out.kys
          have hko := HO5.out.own.1 .keys
          rw [hkv] at hko
          have hkown : w5.ownsRow (qb + 2) 9 1 kv ks.length (ks.map Value.string) := hko
          obtain ⟨ak, ck, hkf⟩ := row_form hkown
          subst hkf
          have hkvv : (F .keys).val = .slice ak ks.length ck := by rw [hkv]; rfl
          have HKVV := Lib.hid hkvv
          have HKV := Lib.hid hkv
          obtain ⟨f0, f1, f2, f3, f4⟩ := HO5.out.rd.field
          have f2' : w5.cell? ⟨rb, 2, none⟩ = some (.int .i64 0) := f2
          obtain ⟨c0, c1, c2, c3, c4⟩ := whole5 HO5.out.out
          rw [hkvv] at c3
          have hkI : (ks.length : Int) ≤ 100000 := by omega
          have HXS : Hid ((⟨xs.toArray⟩ : ByteArray).size ≤ maxLen) := Lib.hid (by
            have := stk_len HST.out
            have h2 : (⟨xs.toArray⟩ : ByteArray).size = xs.length := by simp [ByteArray.size]
            have h3 := bs_len (s.data.toList.drop p2)
            have h4 : (s.data.toList.drop p2).length = s.size - p2 := by rw [List.length_drop, Array.length_toList, ByteArray.size_data]
            rw [h2]; unfold maxLen; omega)
          generalize hXX : (⟨xs.toArray⟩ : ByteArray) = X at *
          have HXX := Lib.hid hXX
          clear hXX
          clear f0 f1 f2 f3 f4 c0 c1 c2 c4 hkv hko hkown hkvv
          go_wp2
          go_loopw [36] (fun i wr => ∃ (mm e : Nat), mm ≤ ks.length ∧ i = .int .i64 (mm : Int) ∧ OM wr (qb + 2) rb ob s p3 e n2 7 ks cs F P ∧ Whole wr qb 26 [.int .i64 0, .int .i64 0, .string ⟨#[]⟩, .slice none 0 0, .slice none 0 0] ∧ Nr (qb + 2) rb ob w3 wr ∧ Hid (e = if inK X (ks.take mm) = true then 5 else 0)) (fun i _ => ks.length - (intOf i).toNat)
          case atStart => exact ⟨0, 0, Nat.zero_le _, rfl, HO5.out, HQ5.out, HN5.out, Lib.hid (by simp [inK])⟩
          case round =>
            clear f2' c3
            obtain ⟨mm, e, hmm, rfl, hOq, hQq, hNq, hee⟩ := hrel
            have HOq := Lib.hid hOq
            have HQq := Lib.hid hQq
            have HNq := Lib.hid hNq
            clear hOq hQq hNq
            by_cases hlt : mm < ks.length
            · have hltI : (mm : Int) < (ks.length : Int) := by omega
              have hmI0 : (0 : Int) ≤ (mm : Int) := by omega
              have hmI1 : (mm : Int) + 1 ≤ 100000 := by omega
              have hko := HOq.out.own.1 .keys
              rw [HKV.out] at hko
              have hkown : wr.ownsRow (qb + 2) 9 1 (.slice ak ks.length ck) ks.length (ks.map Value.string) := hko
              have hgk : ∃ gk, ak = some ⟨gk, 0, none⟩ := by
                rcases hkown.2 with ⟨e, h0⟩ | ⟨g1, c1, cur, e, _⟩
                · omega
                · cases e; exact ⟨g1, rfl⟩
              obtain ⟨gk, hgk⟩ := hgk
              subst hgk
              have q0 : wr.cell? ⟨gk, mm, none⟩ = some (.string (ks.getD mm ByteArray.empty)) := by
                rw [hkown.cellAt mm (by omega)]; simp [List.getD, hlt]
              have HTS := Lib.hid (nodeS.take_snoc ks mm ByteArray.empty hlt)
              generalize ks.getD mm ByteArray.empty = y at *
              clear hko hkown
              by_cases hxy : y = X
              · subst hxy
                have HNE : Hid (inK y (ks.take (mm + 1)) = true) := Lib.hid (by rw [HTS.out, inK_iff]; simp)
                have hFL : Calls Tryz.prog 13 #[.pointer (some ⟨rb, 0, none⟩), .int .i64 5] wr (FlP rb s p3 5 n2 wr) := by
                  by_cases he0 : e = 0
                  · have := HOq.out.rd
                    rw [he0] at this
                    exact fail_new wr rb s p3 n2 5 this (by omega)
                  · have h5 : e = 5 := by
                      have := hee.out
                      by_cases hb : inK y (ks.take mm) = true
                      · rw [if_pos hb] at this; exact this
                      · rw [if_neg hb] at this; exact absurd this he0
                    have := HOq.out.rd
                    rw [h5] at this
                    exact fail_old wr rb s p3 5 n2 5 this (by omega)
                have HFL := Lib.hid hFL
                clear hFL hee hs hn2 hp1 hp2 hp3 hpN hpN2 hcl hkl hmI1
                go_wp2_with fail
                refine HFL.out.mono ?_
                rintro x wf ⟨rfl, hMf, hGf⟩
                have HOf := Lib.hid (HOq.out.call hGf hMf (fun e => absurd e (by decide)))
                have HNf := Lib.hid (HNq.out.trans (Nr.call hGf HOq.out.hB.2.2.2))
                have HQf := Lib.hid (HQq.out.kept hGf (fun e => hqB.2.1 (Option.some.inj e).symm))
                clear hMf hGf q0
                go_wp2
                go_roundw
                case rel => exact ⟨mm + 1, 5, by omega, by go_num, HOf.out, HQf.out, HNf.out, Lib.hid (by rw [if_pos HNE.out])⟩
                case measure => simp [intOf]; omega
              · have q : (y.toList == X.toList) = false := by
                  rw [beq_eq_false_iff_ne]; intro h; apply hxy; rw [Go.ByteArray.toList_eq, Go.ByteArray.toList_eq] at h
                  exact ByteArray.ext (by simpa using congrArg List.toArray h)
                have HNE : Hid (inK X (ks.take (mm + 1)) = inK X (ks.take mm)) := Lib.hid (by rw [HTS.out, Bool.eq_iff_iff, inK_iff, inK_iff]; simp; exact fun h => absurd h.symm hxy)
                clear hxy hs hn2 hp1 hp2 hp3 hpN hpN2 hcl hkl hmI1
                go_wp2
                go_roundw
                case rel => exact ⟨mm + 1, e, by omega, by go_num, HOq.out, HQq.out, HNq.out, Lib.hid (by rw [HNE.out]; exact hee.out)⟩
                case measure => simp [intOf]; omega
            · obtain rfl : mm = ks.length := by omega
              have hltI : ¬ ((ks.length : Int) < (ks.length : Int)) := by omega
              have HE : Hid (e = if inK X ks = true then 5 else 0) := Lib.hid (by have := hee.out; rw [List.take_length] at this; exact this)
              have hko := HOq.out.own.1 .keys
              rw [HKV.out] at hko
              have HKO : Hid (wr.ownsRow (qb + 2) 9 1 (.slice ak ks.length ck) ks.length (ks.map Value.string)) := Lib.hid hko
              obtain ⟨c0, c1, c2, c3, c4⟩ := whole5 HOq.out.out
              rw [HKVV.out] at c3
              obtain ⟨i0, hi, hz0, hz1, hz2⟩ := info_parts infoSt
              have hBq : qb + 2 ≤ wr.heap.size := HOq.out.hB.2.2.2
              clear c0 c1 c2 c4 hko hee
              go_wp2_with (at_builtin; refine wpList_append_own_at _ rfl _ _ 23 rfl (qb + 2) 9 i0 (.string ⟨#[]⟩) 1 16 Tryz.underlying23 hi hz0 hz1 hz2 rfl (by decide) (.slice ak ks.length ck) ks.length (ks.map Value.string) rfl ?z0 ⟨wr.heap.size, 0, none⟩ 1 1 [.string X] rfl rfl ?z1 ?z2 ?z3 ?z4 ?z5 ?_)
              case z0 => exact HKO.out.alloc _
              case z2 => simp [Value.oneCell']
              case z3 => unfold maxLen; omega
              case z4 => omega
              case z5 => first | omega | (simp; omega)
              intro v' wk hown6 hgrow6 _ hat6
              have hba : Below wr.heap.size wr (wr.alloc (.cells #[.string X] 9)) := (Below.refl _ _).alloc (Nat.le_refl _) _
              have hneR : ∀ c, (Value.slice ak ks.length ck).ownBlock = some c → qb + 2 ≤ c := fun c hc => (HKO.out.lt c hc).1
              have hWk := (HOq.out.new hba).out.kept hgrow6 (fun e => by have := hneR ob e; have := HOq.out.hB; omega)
              have zk3 := hWk.frozen 3
              have ck3 := hWk.cell 3
              rw [HKVV.out] at ck3
              simp only [List.getElem?_cons_zero, List.getElem?_cons_succ] at ck3
              obtain ⟨a6, c6, hv6⟩ := row_form hown6
              subst hv6
              obtain ⟨FM, hO7, hv7, hk7⟩ := OM.addKey HOq.out hba HXS.out HKV.out hown6 hgrow6 (by
                rcases hat6 with e | e
                · exact .inl e
                · exact .inr ⟨_, e, by simp⟩)
              have hN67 : Nr (qb + 2) rb ob wr (wk.setCell ⟨ob, 3, none⟩ (.slice a6 (ks.length + 1) c6)) := ((Nr.below hba hBq).trans (Nr.grown hgrow6 (by simp; omega) (fun c hc => .inl (hneR c hc)))).trans (Nr.set wk 3 _ (by have h1 := hgrow6.size; simp at h1; omega))
              have HOMk := Lib.hid hO7
              have HN7 := Lib.hid (HNq.out.trans hN67)
              have HQ7 := Lib.hid (hN67.whole HQq.out hqB.1 hqB.2.1 hqB.2.2)
              have hRk : Rw wk rb s p3 e n2 := Whole.kept (HOq.out.rd.new hba) hgrow6 (fun e => by have := hneR rb e; have := HOq.out.hB; omega)
              have hQk := (HQq.out.below hba HQq.out.lt).kept hgrow6 (fun e => by have := hneR qb e; omega)
              have HWK := Lib.hid hWk
              have HRK := Lib.hid hRk
              have HQK := Lib.hid hQk
              have HE1 := Lib.hid hv7
              have HKD := Lib.hid hk7
              clear hown6 hgrow6 hat6 hneR hba hN67 hO7 hWk hRk hQk hv7 hk7 c3 HKO
              by_cases hdup : inK X ks = true
              · have he5 : e = 5 := by have := HE.out; rw [if_pos hdup] at this; exact this
                subst he5
                have HRe : Hid (R = .err 5) := Lib.hid (by rw [← HRR.out, rr_eq, if_pos rfl, HST.out]; dsimp only; rw [HXX.out, if_pos hdup])
                have g2 : wk.cell? ⟨rb, 2, none⟩ = some (.int .i64 5) := HRK.out.field.2.2.1
                obtain ⟨b2, k2, e2'⟩ := kid_val HOq.out
                have HE2 : Hid ((FM .kids).val = .slice b2 cs.length k2) := Lib.hid (by rw [HKD.out]; exact e2')
                obtain ⟨c0, c1, c2, c3, c4⟩ := whole5 HWK.out
                rw [HKVV.out] at c3
                rw [e2'] at c4
                obtain ⟨x0, x1, x2, x3, x4⟩ := whole5 HQK.out
                have y0 := HQK.out.frozen 0
                have y1 := HQK.out.frozen 1
                have y2 := HQK.out.frozen 2
                have y3 := HQK.out.frozen 3
                have y4 := HQK.out.frozen 4
                clear hdup e2' HE
                go_wp2
                generalize wk.setCell ⟨ob, 3, none⟩ (.slice a6 (ks.length + 1) c6) = wK at *
                obtain ⟨hW9, hP9⟩ := fin_any (r := R) HOMk.out HQ7.out hqB HN7.out HG3.out (by rw [HQB.out]; exact hq1) (by rw [HQB.out]; exact Nat.le_refl _) (show In64 7 by unfold In64; omega) (fun e => absurd e (by omega)) (fun _ => HRe.out) HE1.out HE2.out
                try simp only [List.length_append, List.length_cons, List.length_nil, Nat.zero_add] at hW9 hP9
                generalize ((((wK.setCell ⟨qb, 0, none⟩ (.int .i64 7)).setCell ⟨qb, 1, none⟩ (.int .i64 0)).setCell ⟨qb, 2, none⟩ (.string ByteArray.empty)).setCell ⟨qb, 3, none⟩ (.slice a6 (ks.length + 1) c6)).setCell ⟨qb, 4, none⟩ (.slice b2 cs.length k2) = wZ at *
                obtain ⟨k0', k1', k2', k3', k4'⟩ := whole5 hW9
                refine bodyPost_ret (v := .agg #[.int .i64 7, .int .i64 0, .string ByteArray.empty, .slice a6 (ks.length + 1) c6, .slice b2 cs.length k2]) (by simp [results, Tryz.results28, go_sem, k0', k1', k2', k3', k4']) rfl ?_
                exact hP9
              · have he0 : e = 0 := by have := HE.out; rw [if_neg hdup] at this; exact this
                subst he0
                have HND := Lib.hid hdup
                have g2 : wk.cell? ⟨rb, 2, none⟩ = some (.int .i64 0) := HRK.out.field.2.2.1
                have HMU := Lib.hid (must_any _ rb s p3 n2 58 HOMk.out.rd hp3 (by omega) (by decide) (by decide))
                clear hdup HE HWK HRK HQK HOq HQq HNq
                go_wp2_with fail
                generalize wk.setCell ⟨ob, 3, none⟩ (.slice a6 (ks.length + 1) c6) = wK at *
                clear g2 zk3 ck3
                refine HMU.out.mono ?_
                rintro x wM ⟨rfl, hGM, pM, eM, hpMM, hpM, hMM, hcaseM⟩
                have HOM7 := Lib.hid (HOMk.out.call hGM hMM (fun _ => rfl))
                have HN7' := Lib.hid (HN7.out.trans (Nr.call hGM HOMk.out.hB.2.2.2))
                have HQ7' := Lib.hid (HQ7.out.kept hGM (fun e => hqB.2.1 (Option.some.inj e).symm))
                clear hGM hMM HOMk HN7 HQ7 HMU
                have HN7 := HN7'
                have HQ7 := HQ7'
                clear HN7' HQ7'
                rcases hcaseM with ⟨h58, rfl, hdM⟩ | ⟨h58, rfl⟩
                · have HRE7 : Hid (cont d ⟨true, ks ++ [X], cs⟩ (rv (d + 1) n2 (s.data.toList.drop pM)) = R) := Lib.hid (by
                    rw [← HRR.out, rr_eq, if_pos rfl, HST.out]
                    dsimp only
                    rw [HXX.out, if_neg HND.out, ← HD3.out, if_neg (by rintro (h | h); rw [h] at h58; cases h58; exact h h58), hdM]
                    cases rv (d + 1) n2 (bs (s.data.toList.drop p3)).tail <;> rfl)
                  have hp2M : p2 < pM := by omega
                  clear h58 hdM
                  obtain ⟨f0, f1, f2, f3, f4⟩ := HOM7.out.rd.field
                  have f2' : wM.cell? ⟨rb, 2, none⟩ = some (.int .i64 0) := f2
                  obtain ⟨cv, ls, hk1, hk2, hk3⟩ := HOM7.out.kds
                  have hok := HOM7.out.own.1 .kids
                  rw [hk1] at hok
                  have hok' : wM.ownsRow (qb + 2) 26 5 cv cs.length ls.flatten := hok
                  obtain ⟨ac, cc, hcf⟩ := row_form hok'
                  subst hcf
                  obtain ⟨c0, c1, c2, c3, c4⟩ := whole5 HOM7.out.out
                  rw [show (FM .kids).val = .slice ac cs.length cc from by rw [hk1]; rfl] at c4
                  have HV := Lib.hid (hV wM.drew rb pM (d + 1) n2 hpM (by omega) (by omega) hn2 (HOM7.out.rd.new (Below.refl _ _).drew))
                  have HOMd := Lib.hid (HOM7.out.new (Below.refl _ _).drew)
                  have hc4I : (cs.length : Int) ≤ 100000 := by omega
                  have HK1 := Lib.hid hk1
                  obtain ⟨i0, hi, hz0, hz1, hz2⟩ := info_parts jsonRinfo
                  generalize hr1 : rv (d + 1) n2 (s.data.toList.drop pM) = r1 at *
                  have HR1 := Lib.hid hr1
                  clear f0 f1 f2 f3 f4 c0 c1 c2 c3 hr1 hk1 hk2 hk3 hok hok'
                  go_wp2
                  refine held.region (fun w' => w'.cell? ⟨ob, 4, none⟩ = some (.slice ac cs.length cc)) 9 (by kernel_rfl) ?_
                  have hS7 : wM.drew.cell? ⟨ob, 4, none⟩ = some (.slice ac cs.length cc) := c4
                  refine held.wpLeft.take (i := 0) (v := ?_) rfl (by kernel_rfl) (by kernel_rfl) (by kernel_rfl) (by kernel_rfl) (by kernel_rfl) (fun _ _ _ h => h) (by rfl) ?_ hS7 ?_
                  rotate_left
                  · (intro w hSw; go_simp; try with_reducible rfl)
                  simp only [Act.put, List.setIfInBounds_toArray, List.set_cons_zero, List.set_cons_succ, List.getElem_toArray, List.getElem_cons_succ, List.getElem_cons_zero]
                  refine held.wpLeft.take (i := 1) (v := ?_) rfl (by kernel_rfl) (by kernel_rfl) (by kernel_rfl) (by kernel_rfl) (by kernel_rfl) (fun _ _ _ h => h) (by rfl) ?_ hS7 ?_
                  rotate_left
                  · (intro w hSw; go_simp; try with_reducible rfl)
                  simp only [Act.put, List.setIfInBounds_toArray, List.set_cons_zero, List.set_cons_succ, List.getElem_toArray, List.getElem_cons_succ, List.getElem_cons_zero]
                  refine held.wpLeft.take (i := 2) (v := ?_) rfl (by kernel_rfl) (by kernel_rfl) (by kernel_rfl) (by kernel_rfl) (by kernel_rfl) (fun _ _ _ h => h) (by rfl) ?_ hS7 ?_
                  rotate_left
                  · (intro w hSw; go_simp; try with_reducible rfl)
                  simp only [Act.put, List.setIfInBounds_toArray, List.set_cons_zero, List.set_cons_succ, List.getElem_toArray, List.getElem_cons_succ, List.getElem_cons_zero]
                  refine held.wpLeft.take (i := 3) (v := ?_) rfl (by kernel_rfl) (by kernel_rfl) (by kernel_rfl) (by kernel_rfl) (by kernel_rfl) (fun _ _ _ h => h) (by rfl) ?_ hS7 ?_
                  rotate_left
                  · (intro w hSw; go_simp; try with_reducible rfl)
                  simp only [Act.put, List.setIfInBounds_toArray, List.set_cons_zero, List.set_cons_succ, List.getElem_toArray, List.getElem_cons_succ, List.getElem_cons_zero]
                  refine held.wpLeft.take (i := 4) (v := ?_) rfl (by kernel_rfl) (by kernel_rfl) (by kernel_rfl) (by kernel_rfl) (by kernel_rfl) (fun _ _ _ h => h) (by rfl) ?_ hS7 ?_
                  rotate_left
                  · (intro w hSw; go_simp; try with_reducible rfl)
                  simp only [Act.put, List.setIfInBounds_toArray, List.set_cons_zero, List.set_cons_succ, List.getElem_toArray, List.getElem_cons_succ, List.getElem_cons_zero]
                  refine held.wpLeft.one (i := 5) (by kernel_rfl) rfl (fun K hK => ?_)
                  go_simp
                  refine HV.out.mono ?_
                  rintro x w6 ⟨⟨k, m, t, a1, n1, c1, a2, nn2, c2⟩, rfl, hG6, hR6⟩
                  obtain ⟨Y, P3, p3, e3, n3, hO6, hX6, hcase⟩ := after_value (g := ⟨true, ks ++ [X], cs⟩) HOMd.out hG6 hR6 HR1.out HRE7.out hpM hdp hn2
                  have HO6 := Lib.hid hO6
                  have HX6 := Lib.hid hX6
                  have HN6 : Hid (Nr (qb + 2) rb ob w3 w6) := Lib.hid (HN7.out.trans ((Nr.below (Below.refl _ _).drew HOM7.out.hB.2.2.2).trans (Nr.call hG6 HOMd.out.hB.2.2.2)))
                  have HQ6 := Lib.hid ((HQ7.out.below (Below.refl _ _).drew HQ7.out.lt).kept hG6 (fun e => hqB.2.1 (Option.some.inj e).symm))
                  have hkv : (FM .kids).val = .slice ac cs.length cc := by rw [HK1.out]; rfl
                  have HKV := Lib.hid hkv
                  have hS8 : w6.cell? ⟨ob, 4, none⟩ = some (.slice ac cs.length cc) := by have := hO6.out.cell 4; rw [hkv] at this; exact this
                  obtain ⟨cv6, ls6, hk1, hk2, hk3⟩ := hO6.kds
                  have hok := hO6.own.1 .kids
                  rw [hk1] at hok
                  have hcv6 : cv6 = .slice ac cs.length cc := by rw [hk1] at hkv; exact hkv
                  subst hcv6
                  have hok' : w6.ownsRow (qb + 2) 26 5 (.slice ac cs.length cc) cs.length ls6.flatten := hok
                  have HOK := Lib.hid hok'
                  have HK1' := Lib.hid hk1
                  have HK2' := Lib.hid hk2
                  have HK3' := Lib.hid hk3
                  have HCASE := Lib.hid hcase
                  refine hK.out _ _ (fun _ => hS8) ?_
                  clear hK K hG6 hR6 hO6 hX6 hk1 hk2 hk3 hok hok' hcase hkv HK1 HOMd HN7 HQ7 HOM7 hS7 c4
                  have hbd : Below w6.heap.size w6 (w6.alloc (.cells #[.int .i64 k, .int .i64 m, .string t, .slice a1 n1 c1, .slice a2 nn2 c2] 26)) := (Below.refl _ _).alloc (Nat.le_refl _) _
                  have HOA := Lib.hid (HO6.out.new hbd)
                  have hSA : (w6.alloc (.cells #[.int .i64 k, .int .i64 m, .string t, .slice a1 n1 c1, .slice a2 nn2 c2] 26)).cell? ⟨ob, 4, none⟩ = some (.slice ac cs.length cc) := (hbd.cell (p := ⟨ob, 4, none⟩) HO6.out.out.lt).trans hS8
                  have HBD := Lib.hid hbd
                  clear hbd
                  refine held.wpLeft.one (i := 6) (by kernel_rfl) rfl (fun K hK => ?_)
                  go_simp
                  refine hK.out _ _ (fun _ => hSA) ?_
                  clear hK K
                  refine held.wpLeft.one (i := 7) (by kernel_rfl) rfl (fun K2 hK2 => ?_)
                  refine step_append_lies _ (by rfl) (.tmp 65) (.tmp 70) 24 (by rfl) (qb + 2) 26 i0 _ 5 80 Tryz.underlying24 hi hz0 hz1 hz2 rfl (by omega) (.slice ac cs.length cc) cs.length ls6.flatten (by rfl) (HOK.out.alloc _) ⟨w6.heap.size, 0, none⟩ 1 1 [.int .i64 k, .int .i64 m, .string t, .slice a1 n1 c1, .slice a2 nn2 c2] (by rfl) (by rfl) (World.news_of_block (cs := #[.int .i64 k, .int .i64 m, .string t, .slice a1 n1 c1, .slice a2 nn2 c2]) (t := 26) (fr := (0, 0)) (heap_alloc_new w6 _)) (by simp [Value.oneCell']) (by omega) (by unfold maxLen; omega) (by omega) (by have := HO6.out.hB.2.2.2; simp; omega) (w6.heap.size + 1) (by simp) ?_
                  intro g7 cap7 w7 hown7 hgrow7 hat7 hlt7
                  have hneR : ∀ c, (Value.slice ac cs.length cc).ownBlock = some c → qb + 2 ≤ c := fun c hc => (HOK.out.lt c hc).1
                  have hS9 : w7.cell? ⟨ob, 4, none⟩ = some (.slice ac cs.length cc) := hgrow7.cell hSA (by intro e; have := hneR ob e.symm; have := HO6.out.hB; omega)
                  have zz7 : w7.frozen? ⟨ob, 4, none⟩ = false := by
                    have hW7 := HOA.out.out.kept hgrow7 (fun e => by have := hneR ob e; have := HO6.out.hB; omega)
                    exact hW7.frozen 4
                  refine hK2.out _ _ (fun _ => hS9) ?_
                  clear hK2 K2
                  refine held.wpLeft.one (i := 8) (by kernel_rfl) rfl (fun K4 hK4 => ?_)
                  go_simp
                  refine hK4.out _ _ (fun _ => hS9) ?_
                  clear hK4 K4
                  refine held.wpLeft.one (i := 9) (by kernel_rfl) rfl (fun K5 hK5 => ?_)
                  go_simp
                  refine hK5.out _ _ (fun h => absurd rfl h) ?_
                  clear hK5 K5
                  refine held.wpLeft.done (by kernel_rfl) ?_
                  obtain ⟨F9, hO9⟩ := OM.addKid HO6.out HBD.out HX6.out HK1'.out HK2'.out HK3'.out hown7 hgrow7 (by
                    rcases hat7 with e | e
                    · exact .inl e.symm
                    · exact .inr ⟨g7, rfl, by rw [e]; simp⟩)
                  have hN79 : Nr (qb + 2) rb ob w6 (w7.setCell ⟨ob, 4, none⟩ (.slice (some ⟨g7, 0, none⟩) (cs.length + 1) cap7)) := ((Nr.below HBD.out HO6.out.hB.2.2.2).trans (Nr.grown hgrow7 (by have := HO6.out.hB.2.2.2; simp; omega) (fun c hc => .inl (hneR c hc)))).trans (Nr.set w7 4 _ (by have h1 := hgrow7.size; have h2 := HO6.out.hB.2.2.2; simp at h1; omega))
                  have HN9 := Lib.hid (HN6.out.trans hN79)
                  have HQ9 := Lib.hid (hN79.whole HQ6.out hqB.1 hqB.2.1 hqB.2.2)
                  have HO9 : Hid (OM (w7.setCell ⟨ob, 4, none⟩ (.slice (some ⟨g7, 0, none⟩) (cs.length + 1) cap7)) (qb + 2) rb ob s p3 e3 n3 7 (ks ++ [X]) (cs ++ [Y]) F9 P3) := Lib.hid hO9
                  generalize w7.setCell ⟨ob, 4, none⟩ (.slice (some ⟨g7, 0, none⟩) (cs.length + 1) cap7) = w9 at *
                  clear hN79 hO9 hown7 hgrow7 hat7 hlt7 hS9 zz7 hneR HBD HOA hSA hS8 HQ6 HN6 HX6 HO6 HK1' HK2' HK3' HOK HKV f2'
                  rcases HCASE.out with ⟨rfl, hp23, hp3, hn3, hRt⟩ | ⟨hene3, hRe⟩
                  · obtain ⟨f0, f1, f2, f3, f4⟩ := HO9.out.rd.field
                    have f2' : w9.cell? ⟨rb, 2, none⟩ = some (.int .i64 0) := f2
                    have HNX := Lib.hid (next_any w9 rb s p3 n3 HO9.out.rd hp3 (by omega))
                    have HRT : Hid (rt d n3 (s.data.toList.drop p3) ⟨true, ks ++ [X], cs ++ [Y]⟩ = R) := Lib.hid hRt
                    clear f0 f1 f2 f3 f4 hRt HCASE
                    go_wp2_with fail
                    refine HNX.out.mono ?_
                    rintro x w10 ⟨rfl, p4, hp34, hp4, hdr4, hM10, hG10⟩
                    have HO10 := Lib.hid (HO9.out.call hG10 hM10 id)
                    have HN10 := Lib.hid (HN9.out.trans (Nr.call hG10 HO9.out.hB.2.2.2))
                    have HQ10 := Lib.hid (HQ9.out.kept hG10 (fun e => hqB.2.1 (Option.some.inj e).symm))
                    have HDR4 := Lib.hid hdr4
                    clear hM10 hG10 hdr4 HNX HO9 HN9 HQ9 f2'
                    by_cases he : hd (bs (s.data.toList.drop p3)) = 125
                    · have HRR : Hid (R = .ok (Fr.mk true (ks ++ [X]) (cs ++ [Y])).node (bs (s.data.toList.drop p3)).tail n3) := Lib.hid (by
                        rw [← HRT.out]; unfold rt
                        rw [if_neg (by intro e; rw [e] at he; cases he), if_pos (show hd (bs (s.data.toList.drop p3)) = (Fr.mk true (ks ++ [X]) (cs ++ [Y])).close from he)])
                      have hlt4 : p4 < s.size := hd_drop (by rw [HDR4.out, he]; decide)
                      rw [he]
                      obtain ⟨f0, f1, f2, f3, f4⟩ := HO10.out.rd.field
                      have z1 := f4 1
                      obtain ⟨c0, c1, c2, c3, c4⟩ := whole5 HO10.out.out
                      obtain ⟨b1, k1, e1'⟩ := key_val HO10.out
                      obtain ⟨b2, k2, e2'⟩ := kid_val HO10.out
                      rw [e1'] at c3
                      rw [e2'] at c4
                      obtain ⟨x0, x1, x2, x3, x4⟩ := whole5 HQ10.out
                      have y0 := HQ10.out.frozen 0
                      have y1 := HQ10.out.frozen 1
                      have y2 := HQ10.out.frozen 2
                      have y3 := HQ10.out.frozen 3
                      have y4 := HQ10.out.frozen 4
                      have HE1 := Lib.hid e1'
                      have HE2 := Lib.hid e2'
                      clear e1' e2'
                      clear f2 f3 f4
                      go_wp2
                      have HO11 : Hid (OM (w10.setCell ⟨rb, 1, none⟩ (.int .i64 ((p4 : Int) + 1))) (qb + 2) rb ob s (p4 + 1) 0 n3 7 (ks ++ [X]) (cs ++ [Y]) F9 P3) := Lib.hid (HO10.out.call (g1 w10 rb 1 _) (HO10.out.rd.setP (p4 + 1)) id)
                      have HN11 : Hid (Nr (qb + 2) rb ob w3 (w10.setCell ⟨rb, 1, none⟩ (.int .i64 ((p4 : Int) + 1)))) := Lib.hid (HN10.out.trans (Nr.call (g1 w10 rb 1 _) HO10.out.hB.2.2.2))
                      have HQ11 := Lib.hid (HQ10.out.kept (g1 w10 rb 1 (.int .i64 ((p4 : Int) + 1))) (fun e => hqB.2.1 (Option.some.inj e).symm))
                      generalize w10.setCell ⟨rb, 1, none⟩ (.int .i64 ((p4 : Int) + 1)) = w11 at *
                      obtain ⟨hW9, hP9⟩ := fin_any (r := R) HO11.out HQ11.out hqB HN11.out HG3.out (by rw [HQB.out]; exact hq1) (by rw [HQB.out]; exact Nat.le_refl _) (show In64 7 by unfold In64; omega) (fun _ => ⟨HRR.out.trans (by rw [← HDR4.out, List.tail_drop]; rfl), hlt4, by unfold maxLen; simp; omega, by unfold maxLen; simp; omega⟩) (fun e => absurd rfl e) HE1.out HE2.out
                      try simp only [List.length_append, List.length_cons, List.length_nil, Nat.zero_add] at hW9 hP9
                      generalize ((((w11.setCell ⟨qb, 0, none⟩ (.int .i64 7)).setCell ⟨qb, 1, none⟩ (.int .i64 0)).setCell ⟨qb, 2, none⟩ (.string ByteArray.empty)).setCell ⟨qb, 3, none⟩ (.slice b1 (ks.length + 1) k1)).setCell ⟨qb, 4, none⟩ (.slice b2 (cs.length + 1) k2) = wZ at *
                      obtain ⟨k0', k1', k2', k3', k4'⟩ := whole5 hW9
                      refine bodyPost_ret (v := .agg #[.int .i64 7, .int .i64 0, .string ByteArray.empty, .slice b1 (ks.length + 1) k1, .slice b2 (cs.length + 1) k2]) (by simp [results, Tryz.results28, go_sem, k0', k1', k2', k3', k4']) rfl ?_
                      exact hP9
                    · have heI3 : ¬ ((hd (bs (s.data.toList.drop p3)) : Int) = 125) := by omega
                      have HMU := Lib.hid (must_any w10 rb s p4 n3 44 HO10.out.rd hp4 (by omega) (by decide) (by decide))
                      have HBS : Hid (bs (s.data.toList.drop p4) = bs (s.data.toList.drop p3)) := Lib.hid (by rw [HDR4.out, bs_bs])
                      generalize hq4 : hd (bs (s.data.toList.drop p3)) = q4 at *
                      have HQ4' := Lib.hid hq4
                      have HEI := Lib.hid he
                      clear hq4 he
                      go_wp2_with fail
                      refine HMU.out.mono ?_
                      rintro x w12 ⟨rfl, hG12, p5, e5, hp45, hp5, hM12, hcase5⟩
                      have hO12 := HO10.out.call hG12 hM12 (fun _ => rfl)
                      have hN12 := HN10.out.trans (Nr.call hG12 HO10.out.hB.2.2.2)
                      have hQ12 := HQ10.out.kept hG12 (fun e => hqB.2.1 (Option.some.inj e).symm)
                      have HAL : Hid (OL w w3 (qb + 2) rb ob qb s N d R w12) := Lib.hid (by
                        rw [HBS.out, HQ4'.out] at hcase5
                        refine ⟨p5, e5, n3, ks ++ [X], cs ++ [Y], F9, P3, hO12, hQ12, hN12, ?_⟩
                        have hrt := HRT.out
                        unfold rt at hrt
                        rcases hcase5 with ⟨h44, rfl, hd5⟩ | ⟨h44, rfl⟩
                        · refine .inl ⟨rfl, by omega, hp5, hn3, by simp; omega, by simp; omega, by simp [HKC.out], ?_⟩
                          rw [if_neg (by intro e; have := HQ4'.out; rw [e] at this; rw [h44] at this; cases this), if_neg (by rw [HQ4'.out]; exact HEI.out), if_pos (by rw [HQ4'.out]; exact h44)] at hrt
                          rw [hd5]; exact hrt
                        · refine .inr ⟨by decide, ?_⟩
                          by_cases hb : bs (s.data.toList.drop p3) = []
                          · rw [if_pos hb] at hrt; exact hrt.symm
                          · rw [if_neg hb, if_neg (by rw [HQ4'.out]; exact HEI.out), if_neg (by rw [HQ4'.out]; exact h44)] at hrt; exact hrt.symm)
                      have HP12 : Hid (w12.cell? ⟨rb, 1, none⟩ = some (.int .i64 (p5 : Int))) := Lib.hid hM12.field.2.1
                      clear hG12 hM12 hcase5 hO12 hN12 hQ12
                      go_wp2
                      go_roundw
                      case rel => exact HAL.out
                      case measure =>
                        have e1 := HP12.out
                        have e2 := HF1.out
                        simp only [e1, e2, Option.getD_some, intOf]
                        omega
                  · have heI3 : ¬ ((e3 : Int) = 0) := by omega
                    have HRe := Lib.hid hRe
                    clear hRe HCASE
                    obtain ⟨f0, f1, f2, f3, f4⟩ := HO9.out.rd.field
                    obtain ⟨c0, c1, c2, c3, c4⟩ := whole5 HO9.out.out
                    obtain ⟨b1, k1, e1'⟩ := key_val HO9.out
                    obtain ⟨b2, k2, e2'⟩ := kid_val HO9.out
                    rw [e1'] at c3
                    rw [e2'] at c4
                    obtain ⟨x0, x1, x2, x3, x4⟩ := whole5 HQ9.out
                    have y0 := HQ9.out.frozen 0
                    have y1 := HQ9.out.frozen 1
                    have y2 := HQ9.out.frozen 2
                    have y3 := HQ9.out.frozen 3
                    have y4 := HQ9.out.frozen 4
                    have HE1 := Lib.hid e1'
                    have HE2 := Lib.hid e2'
                    clear e1' e2'
                    clear f0 f1 f3 f4 
                    go_wp2
                    obtain ⟨hW9, hP9⟩ := fin_any (r := R) HO9.out HQ9.out hqB HN9.out HG3.out (by rw [HQB.out]; exact hq1) (by rw [HQB.out]; exact Nat.le_refl _) (show In64 7 by unfold In64; omega) (fun e => absurd e (by omega)) (fun _ => HRe.out) HE1.out HE2.out
                    try simp only [List.length_append, List.length_cons, List.length_nil, Nat.zero_add] at hW9 hP9
                    generalize ((((w9.setCell ⟨qb, 0, none⟩ (.int .i64 7)).setCell ⟨qb, 1, none⟩ (.int .i64 0)).setCell ⟨qb, 2, none⟩ (.string ByteArray.empty)).setCell ⟨qb, 3, none⟩ (.slice b1 (ks.length + 1) k1)).setCell ⟨qb, 4, none⟩ (.slice b2 (cs.length + 1) k2) = wZ at *
                    obtain ⟨k0', k1', k2', k3', k4'⟩ := whole5 hW9
                    refine bodyPost_ret (v := .agg #[.int .i64 7, .int .i64 0, .string ByteArray.empty, .slice b1 (ks.length + 1) k1, .slice b2 (cs.length + 1) k2]) (by simp [results, Tryz.results28, go_sem, k0', k1', k2', k3', k4']) rfl ?_
                    exact hP9
                · have HRe : Hid (R = .err 1) := Lib.hid (by
                    rw [← HRR.out, rr_eq, if_pos rfl, HST.out]
                    dsimp only
                    rw [HXX.out, if_neg HND.out, ← HD3.out, if_pos (.inr h58)])
                  clear h58
                  obtain ⟨f0, f1, f2, f3, f4⟩ := HOM7.out.rd.field
                  obtain ⟨c0, c1, c2, c3, c4⟩ := whole5 HOM7.out.out
                  obtain ⟨b1, k1, e1'⟩ := key_val HOM7.out
                  obtain ⟨b2, k2, e2'⟩ := kid_val HOM7.out
                  rw [e1'] at c3
                  rw [e2'] at c4
                  obtain ⟨x0, x1, x2, x3, x4⟩ := whole5 HQ7.out
                  have y0 := HQ7.out.frozen 0
                  have y1 := HQ7.out.frozen 1
                  have y2 := HQ7.out.frozen 2
                  have y3 := HQ7.out.frozen 3
                  have y4 := HQ7.out.frozen 4
                  have HE1 := Lib.hid e1'
                  have HE2 := Lib.hid e2'
                  clear e1' e2'
                  clear f0 f1 f3 f4 
                  go_wp2
                  obtain ⟨hW9, hP9⟩ := fin_any (r := R) HOM7.out HQ7.out hqB HN7.out HG3.out (by rw [HQB.out]; exact hq1) (by rw [HQB.out]; exact Nat.le_refl _) (show In64 7 by unfold In64; omega) (fun e => absurd e (by omega)) (fun _ => HRe.out) HE1.out HE2.out
                  try simp only [List.length_append, List.length_cons, List.length_nil, Nat.zero_add] at hW9 hP9
                  generalize ((((wM.setCell ⟨qb, 0, none⟩ (.int .i64 7)).setCell ⟨qb, 1, none⟩ (.int .i64 0)).setCell ⟨qb, 2, none⟩ (.string ByteArray.empty)).setCell ⟨qb, 3, none⟩ (.slice b1 (ks.length + 1) k1)).setCell ⟨qb, 4, none⟩ (.slice b2 cs.length k2) = wZ at *
                  obtain ⟨k0', k1', k2', k3', k4'⟩ := whole5 hW9
                  refine bodyPost_ret (v := .agg #[.int .i64 7, .int .i64 0, .string ByteArray.empty, .slice b1 (ks.length + 1) k1, .slice b2 cs.length k2]) (by simp [results, Tryz.results28, go_sem, k0', k1', k2', k3', k4']) rfl ?_
                  exact hP9
      · have heI2 : ¬ ((e2 : Int) = 0) := by omega
        have HRe := Lib.hid hRe
        clear hRe f2
        obtain ⟨f0, f1, f2, f3, f4⟩ := HOM.out.rd.field
        obtain ⟨c0, c1, c2, c3, c4⟩ := whole5 HOM.out.out
        obtain ⟨b1, k1, e1'⟩ := key_val HOM.out
        obtain ⟨b2, k2, e2'⟩ := kid_val HOM.out
        rw [e1'] at c3
        rw [e2'] at c4
        obtain ⟨x0, x1, x2, x3, x4⟩ := whole5 HQ.out
        have y0 := HQ.out.frozen 0
        have y1 := HQ.out.frozen 1
        have y2 := HQ.out.frozen 2
        have y3 := HQ.out.frozen 3
        have y4 := HQ.out.frozen 4
        have HE1 := Lib.hid e1'
        have HE2 := Lib.hid e2'
        clear e1' e2'
        clear f0 f1 f3 f4 
        go_wp2
        obtain ⟨hW9, hP9⟩ := fin_any (r := R) HOM.out HQ.out hqB HN.out HG3.out (by rw [HQB.out]; exact hq1) (by rw [HQB.out]; exact Nat.le_refl _) (show In64 7 by unfold In64; omega) (fun e => absurd e (by omega)) (fun _ => HRe.out) HE1.out HE2.out
        try simp only [List.length_append, List.length_cons, List.length_nil, Nat.zero_add] at hW9 hP9
        generalize ((((wr.setCell ⟨qb, 0, none⟩ (.int .i64 7)).setCell ⟨qb, 1, none⟩ (.int .i64 0)).setCell ⟨qb, 2, none⟩ (.string ByteArray.empty)).setCell ⟨qb, 3, none⟩ (.slice b1 ks.length k1)).setCell ⟨qb, 4, none⟩ (.slice b2 cs.length k2) = wZ at *
        obtain ⟨k0', k1', k2', k3', k4'⟩ := whole5 hW9
        refine bodyPost_ret (v := .agg #[.int .i64 7, .int .i64 0, .string ByteArray.empty, .slice b1 ks.length k1, .slice b2 cs.length k2]) (by simp [results, Tryz.results28, go_sem, k0', k1', k2', k3', k4']) rfl ?_
        exact hP9
end Go.Proofs.YtjcaffpmcgfhaaaGreatDoor.refD
