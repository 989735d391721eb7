/-
  ShowParts: the text of an Array is its kids' texts.
-/
import Derived.Test.YtdbidkfjbhclcaaDoorNodeN
namespace Go.Proofs.YtdbidkfjbhclcaaDoor.nodeO
open Go.ChangeShapes Go.WideShapes Go.ChangeAt Go.RowKit Go.WideMaps Go.Maps nodeP nodeQ nodeA nodeB nodeC nodeD nodeE nodeF nodeG nodeH nodeI nodeJ nodeK nodeL nodeM nodeN runesE bld
open errIs errs

/-- the kids so far are right, small and not deep -/
def Good (cs : List Nd) : Prop := ∀ c ∈ cs, RT c = true ∧ sz c ≤ 300 ∧ dp c ≤ 20

theorem good_snoc {cs : List Nd} {m : Nat} (hm : m < cs.length) (h : Good (cs.take m)) (hx : RT cs[m] = true ∧ sz cs[m] ≤ 300 ∧ dp cs[m] ≤ 20) : Good (cs.take (m + 1)) := by
  intro c hc
  rw [take_snoc' cs m hm] at hc
  rcases List.mem_append.1 hc with hc | hc
  · exact h c hc
  · simp at hc; subst hc; exact hx

theorem szs_good : ∀ {cs : List Nd}, Good cs → szs cs ≤ 300 * cs.length
  | [], _ => by simp [szs]
  | c :: cs, h => by
    have h1 := (h c (by simp)).2.1
    have h2 := szs_good (cs := cs) (fun x hx => h x (by simp [hx]))
    simp only [szs, List.length_cons]; omega
theorem counts_szs (cs : List Nd) : counts cs ≤ szs cs := counts_le_szs (fun c _ => count_sz c)

theorem arr_rt {cs : List Nd} (h : Good cs) (hl : cs.length ≤ 30) : RT (.mk 6 0 e0 [] cs) = true := by
  have h1 := szs_good h
  have h2 := counts_szs cs
  have hz : e0.size = 0 := rfl
  have ho : okAt (.mk 6 0 e0 [] cs) 0 = true := by
    have hk : oks cs (0 + 1) = true := by
      rw [oks_all, List.all_eq_true]
      intro c hc
      have := h c hc
      refine ok_depth c 0 1 ?_ (by omega)
      have h3 := this.1
      unfold RT at h3
      rw [Bool.and_eq_true] at h3
      exact h3.1
    simp only [okAt, hk, Bool.and_true]
    simp [one, rk, hz]
  unfold RT
  rw [ho, Bool.true_and, decide_eq_true_eq]
  simp only [count]; omega
theorem arr_sz {cs : List Nd} (h : Good cs) (hl : cs.length ≤ 30) : sz (.mk 6 0 e0 [] cs) ≤ 100000 := by
  have h1 := szs_good h
  have hz : e0.size = 0 := rfl
  simp only [sz, hz, sumL, List.map_nil, List.sum_nil, List.length_nil]; omega
theorem arr_tx (cs : List Nd) : tx (.mk 6 0 e0 [] cs) = 91 :: (txs true cs ++ [93]) := by simp [tx]

/-- the text so far -/
def acc (cs : List Nd) (m : Nat) : ByteArray := ⟨(txs true (cs.take m)).toArray⟩
def accT (cs : List Nd) (m : Nat) (x : Nd) : ByteArray := ⟨(tx x).toArray⟩
theorem mk_app (a b : List UInt8) : (⟨a.toArray⟩ : ByteArray) ++ ⟨b.toArray⟩ = ⟨(a ++ b).toArray⟩ := by
  apply ByteArray.ext
  rw [ByteArray.data_append]
  simp
theorem acc_0 (cs : List Nd) : acc cs 0 = ⟨#[]⟩ := by simp [acc, txs]
theorem acc_first {cs : List Nd} {m : Nat} (hm : m < cs.length) (h0 : m = 0) : acc cs m ++ ⟨(tx cs[m]).toArray⟩ = acc cs (m + 1) := by
  unfold acc
  rw [mk_app, take_snoc' cs m hm, txs_snoc, isEmpty_take cs m hm, decide_eq_true h0]; rfl
theorem acc_next {cs : List Nd} {m : Nat} (hm : m < cs.length) (h0 : m ≠ 0) : (acc cs m ++ ⟨#[44]⟩) ++ ⟨(tx cs[m]).toArray⟩ = acc cs (m + 1) := by
  unfold acc
  rw [show (⟨#[44]⟩ : ByteArray) = ⟨[44].toArray⟩ from rfl, mk_app, mk_app, take_snoc' cs m hm, txs_snoc, isEmpty_take cs m hm, decide_eq_false h0]
  simp [sep]
theorem acc_end (cs : List Nd) : (⟨#[91]⟩ ++ acc cs cs.length) ++ ⟨#[93]⟩ = (⟨(tx (.mk 6 0 e0 [] cs)).toArray⟩ : ByteArray) := by
  unfold acc
  rw [show (⟨#[91]⟩ : ByteArray) = ⟨[91].toArray⟩ from rfl, show (⟨#[93]⟩ : ByteArray) = ⟨[93].toArray⟩ from rfl, mk_app, mk_app, arr_tx, List.take_length]; simp

theorem acc_size {cs : List Nd} {m : Nat} (h : ∀ c ∈ cs, (tx c).length + 1 ≤ 30 * sz c) (hg : Good (cs.take m)) (hl : cs.length ≤ 30) : (acc cs m).size ≤ 270000 := by
  have h1 := txs_len (cs.take m) (fun c hc => h c (List.mem_of_mem_take hc)) true
  have h2 := szs_good hg
  have h3 : (cs.take m).length ≤ 30 := by rw [List.length_take]; omega
  show (txs true (cs.take m)).toArray.size ≤ 270000
  rw [List.size_toArray]; omega
theorem txV_yes {ad : Nat → Addr} {x : Nd} (h : RT x = true) : txV ad x = .tuple #[.string ⟨(tx x).toArray⟩, .nilIface] := by unfold txV; rw [if_pos h]
theorem txV_no {ad : Nat → Addr} {x : Nd} (h : RT x = false) : txV ad x = .tuple #[.string ⟨#[]⟩, ev (ad 5)] := by unfold txV; rw [if_neg (by rw [h]; decide)]

def OK (w : World) (e : Ending) (w' : World) : Prop := e = .returned (.bool true) ∧ Below w.heap.size w w'

set_option maxHeartbeats 4000000 in
set_option maxRecDepth 100000 in
theorem lawParts (v : Value) (cs : List Nd) (w : World) (ad : Nat → Addr) (hv : KidsAt w w.heap.size v cs) (hE : Env w ad) :
    Calls Tryd.prog 3 #[v] w (OK w) := by
  have HK := Lib.hid hv
  obtain ⟨ao, cap, b, off, ls, rfl, hm, ha, hc, hn⟩ := hv
  have HAL := Lib.hid (alive w ad hE)
  have HE := Lib.hid hE
  have HC := Lib.hid hc
  have HN := Lib.hid hn
  have HA := Lib.hid ha
  have hmI : (cs.length : Int) ≤ 9223372036854775807 := by unfold maxLen at hm; omega
  have hnn := intsC.nneqN
  have heq := intsC.neqlN
  clear hc hn ha hm hE
  by_cases hbig : 30 < (cs.length : Int)
  · go_enter Tryd.func3, Tryd.ntmps3
    go_wp2_with fail
    refine HAL.out.mono ?_
    rintro e w1 ⟨rfl, hb1⟩
    have HB1 := Lib.hid hb1
    clear hb1
    go_wp2
    go_ret
    exact ⟨rfl, HB1.out⟩
  · have HG0 : Hid (Good (cs.take 0)) := Lib.hid (fun c hc => by simp at hc)
    have HA0 : Hid (acc cs 0 = ⟨#[]⟩) := Lib.hid (acc_0 cs)
    have HGS := Lib.hid (fun m (hm : m < cs.length) h hx => good_snoc (cs := cs) hm h hx)
    have HAF := Lib.hid (fun m (hm : m < cs.length) h0 => acc_first (cs := cs) hm h0)
    have HAN := Lib.hid (fun m (hm : m < cs.length) h0 => acc_next (cs := cs) hm h0)
    have HAE := Lib.hid (acc_end cs)
    have HRT := Lib.hid (fun h : Good cs => arr_rt h (by omega))
    have HSZ := Lib.hid (fun h : Good cs => arr_sz h (by omega))
    have HTK : Hid (cs.take cs.length = cs) := Lib.hid List.take_length
    have HTL : Hid (∀ c ∈ cs, (tx c).length + 1 ≤ 30 * sz c) := Lib.hid (by
      intro c hc'
      obtain ⟨i, hi, rfl⟩ := List.getElem_of_mem hc'
      exact tx_len (HN.out i hi))
    have HAS := Lib.hid (fun m h => acc_size (m := m) HTL.out h (by omega))
    go_enter Tryd.func3, Tryd.ntmps3
    go_wp2_with fail
    refine HAL.out.mono ?_
    rintro e w1 ⟨rfl, hb1⟩
    have HB1 := Lib.hid hb1
    clear hb1
    go_wp2
    go_loopw [3, 4, 5, 6, 7, 17] (fun s _ _ _ _ i wr => ∃ m : Nat, m ≤ cs.length ∧ i = .int .i64 m ∧ s = .string (acc cs m) ∧ Hid (Good (cs.take m)) ∧ Hid (Below w.heap.size w wr)) (fun _ _ _ _ _ i _ => cs.length - (intOf i).toNat)
    case atStart => exact ⟨0, Nat.zero_le _, rfl, by rw [HA0.out], HG0, HB1⟩
    case round =>
      obtain ⟨m, hm1, rfl, rfl, hg, hb⟩ := hrel
      by_cases hlt : m < cs.length
      · obtain ⟨rfl, hbs⟩ := HA.out (by intro h0; rw [h0] at hlt; simp at hlt)
        obtain ⟨k', n', t', ak', lk, ck, ac, lc, cc, hkid, p0, p1, p2, p3, p5⟩ := kid_atB HC.out HN.out hlt hbs hb.out
        have HKD : Hid (∀ X, NodeAt (wr.alloc X) (wr.alloc X).heap.size cs[m] [.int .i64 k', .int .i64 n', .string t', .slice ak' lk ck, .slice ac lc cc]) := Lib.hid (fun X => stays ((hkid.keep hb.out).mono hb.out.size) ((Below.refl _ _).alloc (Nat.le_refl _) X))
        have hgs := Lib.hid (HGS.out m hlt hg.out)
        have htl := Lib.hid (HTL.out _ (List.getElem_mem hlt))
        have hac := HAS.out m hg.out
        have haf := Lib.hid (HAF.out m hlt)
        have han := Lib.hid (HAN.out m hlt)
        have hszr : w.heap.size ≤ wr.heap.size := hb.out.size
        clear hkid
        generalize cs[m] = x at *
        have HS := Lib.hid (fun X => size_any x _ (wr.alloc X) 300 0 (HKD.out X) (by omega) (by omega) (by omega) (by omega))
        go_wp2_with fail
        refine (HS.out _).mono ?_
        rintro e w2 ⟨z, rfl, hz0, hz1, hz2, hb2⟩
        have bx := box_cell wr #[.int .i64 k', .int .i64 n', .string t', .slice ak' lk ck, .slice ac lc cc] 26
        have r0 : w2.cell? ⟨wr.heap.size, 0, none⟩ = some (.int .i64 k') := (hb2.cell (by simp)).trans (bx 0)
        have r1 : w2.cell? ⟨wr.heap.size, 1, none⟩ = some (.int .i64 n') := (hb2.cell (by simp)).trans (bx 1)
        have r2 : w2.cell? ⟨wr.heap.size, 2, none⟩ = some (.string t') := (hb2.cell (by simp)).trans (bx 2)
        have r3 : w2.cell? ⟨wr.heap.size, 3, none⟩ = some (.slice ak' lk ck) := (hb2.cell (by simp)).trans (bx 3)
        have r4 : w2.cell? ⟨wr.heap.size, 4, none⟩ = some (.slice ac lc cc) := (hb2.cell (by simp)).trans (bx 4)
        have HX2 := Lib.hid (stays (HKD.out _) hb2)
        have HB2 := Lib.hid ((hb.out.alloc hszr _).trans (Go.Joins.below_le hb2 (by simp; omega)))
        have hs2 : wr.heap.size < w2.heap.size := by have := hb2.size; simp at this; omega
        have HZ2 := Lib.hid hz2
        clear hb2 bx p0 p1 p2 p3 p5 hz2 HS HKD
        by_cases hzb : 300 < z
        · clear r0 r1 r2 r3 r4
          go_wp2
          go_ret
          exact ⟨rfl, HB2.out⟩
        · have hzs := Lib.hid (HZ2.out (by omega))
          have hsz : Hid (sz x ≤ 300) := Lib.hid (by have := hzs.out; omega)
          have HD := Lib.hid (depth_any x _ w2 HX2.out (by have := dp_sz x; have := hsz.out; omega))
          clear HZ2
          go_wp2_with fail
          refine HD.out.mono ?_
          rintro e w3 ⟨rfl, hb3⟩
          have s0 : w3.cell? ⟨wr.heap.size, 0, none⟩ = some (.int .i64 k') := (hb3.cell hs2).trans r0
          have s1 : w3.cell? ⟨wr.heap.size, 1, none⟩ = some (.int .i64 n') := (hb3.cell hs2).trans r1
          have s2 : w3.cell? ⟨wr.heap.size, 2, none⟩ = some (.string t') := (hb3.cell hs2).trans r2
          have s3 : w3.cell? ⟨wr.heap.size, 3, none⟩ = some (.slice ak' lk ck) := (hb3.cell hs2).trans r3
          have s4 : w3.cell? ⟨wr.heap.size, 4, none⟩ = some (.slice ac lc cc) := (hb3.cell hs2).trans r4
          have HX3 := Lib.hid (stays HX2.out hb3)
          have HB3 := Lib.hid (HB2.out.trans (Go.Joins.below_le hb3 (by omega)))
          clear hb3 r0 r1 r2 r3 r4
          by_cases hdb : 20 < (dp x : Int)
          · clear s0 s1 s2 s3 s4
            go_wp2
            go_ret
            exact ⟨rfl, HB3.out⟩
          · have HT := Lib.hid (text_any x _ w3 ad HX3.out (HE.out.below HB3.out) (by have := hsz.out; omega))
            cases hr : RT x
            · have ht := Lib.hid (txV_no (ad := ad) hr)
              have hne : ∀ w, (binOp .neq 30 (ev (ad 5)) .nilIface).run Tryd.prog w = .ok (.bool true) w := fun w => intsC.nneqE _ _ w
              go_wp2_with fail
              refine HT.out.mono ?_
              rintro e w4 ⟨rfl, hb4⟩
              rw [ht.out]
              have HB4 := Lib.hid (HB3.out.trans (Go.Joins.below_le hb4 (by have := HB3.out.size; omega)))
              clear hb4 s0 s1 s2 s3 s4
              go_wp2
              go_ret
              exact ⟨rfl, HB4.out⟩
            · have ht := Lib.hid (txV_yes (ad := ad) hr)
              have hgx := Lib.hid (hgs.out ⟨hr, hsz.out, by omega⟩)
              go_wp2_with fail
              refine HT.out.mono ?_
              rintro e w4 ⟨rfl, hb4⟩
              rw [ht.out]
              have HB4 := Lib.hid (HB3.out.trans (Go.Joins.below_le hb4 (by have := HB3.out.size; omega)))
              clear hb4 s0 s1 s2 s3 s4
              have hqs : (⟨(tx x).toArray⟩ : ByteArray).size ≤ 9000 := by
                show (tx x).toArray.size ≤ 9000
                rw [List.size_toArray]
                have := htl.out; have := hsz.out; omega
              by_cases hm0 : m = 0
              · have haf' := Lib.hid (haf.out hm0)
                have hmg : ¬ ((0 : Int) < (m : Int)) := by omega
                clear hm0
                generalize hq : (⟨(tx x).toArray⟩ : ByteArray) = q at *
                clear hq
                go_wp2
                go_roundw
                case rel => exact ⟨m + 1, by omega, by go_num, by rw [haf'.out], hgx, HB4⟩
                case measure => simp [intOf]; omega
              · have han' := Lib.hid (han.out hm0)
                have hmg : (0 : Int) < (m : Int) := by omega
                clear hm0
                generalize hq : (⟨(tx x).toArray⟩ : ByteArray) = q at *
                clear hq
                go_wp2
                go_roundw
                case rel => exact ⟨m + 1, by omega, by go_num, by rw [han'.out], hgx, HB4⟩
                case measure => simp [intOf]; omega
      · obtain rfl : m = cs.length := by omega
        have hg' : Good cs := by have := hg.out; rw [HTK.out] at this; exact this
        have hr := HRT.out hg'
        have hz := HSZ.out hg'
        have HT : Hid (Calls Tryd.prog 9 #[.agg #[.int .i64 6, .int .i64 0, .string ⟨#[]⟩, .slice none 0 0, .slice ao cs.length cap]] wr fun e w' => e = .returned (txV ad (.mk 6 0 e0 [] cs)) ∧ Below wr.heap.size wr w') := Lib.hid (text_any (.mk 6 0 e0 [] cs) _ wr ad (.shut ⟨in64 (by omega) (by omega), in64 (by omega) (by omega), Nat.zero_le _⟩ (nil_keys _ _) ((HK.out.keep hb.out).mono hb.out.size)) (HE.out.below hb.out) hz)
        rw [txV_yes hr] at HT
        rw [← HAE.out] at HT
        have hszr : w.heap.size ≤ wr.heap.size := hb.out.size
        have hac := HAS.out _ hg.out
        clear hr hz hg'
        generalize acc cs cs.length = q at *
        go_wp2_with fail
        refine HT.out.mono ?_
        rintro e w4 ⟨rfl, hb4⟩
        have HB4 := Lib.hid (hb.out.trans (Go.Joins.below_le hb4 hszr))
        clear hb4
        go_wp2
        go_ret
        exact ⟨rfl, HB4.out⟩
end Go.Proofs.YtdbidkfjbhclcaaDoor.nodeO
