/-
  show.writer: kids, value at any right value.
-/
import Derived.Test.YtdbidkfjbhclcaaDoorNodeJ
namespace Go.Proofs.YtdbidkfjbhclcaaDoor.nodeK
open Go.ChangeShapes Go.WideShapes Go.ChangeAt Go.RowKit Go.WideMaps Go.Maps nodeP nodeQ nodeA nodeB nodeC nodeD nodeE nodeF nodeG nodeH nodeI nodeJ runesE bld
open errIs errs

theorem lenB (k : ByteArray) : k.data.toList.length = k.size := by rw [Array.length_toList, ByteArray.size_data]
theorem sep_len (b : Bool) : (sep b).length ≤ 1 := by cases b <;> simp [sep]
theorem txs_len : ∀ (cs : List Nd) (_ : ∀ c ∈ cs, (tx c).length + 1 ≤ 30 * sz c) (b : Bool), (txs b cs).length ≤ 30 * szs cs
  | [], _, b => by simp [txs]
  | c :: cs, h, b => by
    have h1 := h c (by simp)
    have h2 := txs_len cs (fun x hx => h x (by simp [hx])) false
    have h3 := sep_len b
    simp only [txs, szs, List.length_append]; omega
theorem sumL_cons (k : ByteArray) (ks : List ByteArray) : sumL (k :: ks) = k.size + sumL ks := by simp [sumL]
theorem txo_len : ∀ (ks : List ByteArray) (cs : List Nd) (_ : ∀ c ∈ cs, (tx c).length + 1 ≤ 30 * sz c) (b : Bool), (txo b ks cs).length ≤ 30 * szs cs + 30 * (ks.length + sumL ks)
  | ks, [], _, b => by cases ks <;> simp [txo]
  | [], c :: cs, h, b => by
    have h1 := h c (by simp)
    have h2 := txo_len [] cs (fun x hx => h x (by simp [hx])) false
    have h3 := sep_len b
    simp only [txo, szs, List.length_append]; simp [sumL] at h2 ⊢; omega
  | k :: ks, c :: cs, h, b => by
    have h1 := h c (by simp)
    have h2 := txo_len ks cs (fun x hx => h x (by simp [hx])) false
    have h3 := sep_len b
    have h4 := qt_len k.data.toList
    rw [lenB] at h4
    simp only [txo, szs, List.length_append, sumL_cons, List.length_cons, List.length_nil]; omega
theorem tx_len {w : World} {B : Nat} {x : Nd} {l : List Value} (h : NodeAt w B x l) : (tx x).length + 1 ≤ 30 * sz x := by
  induction h with
  | mk k n t ks cs kv ao cap b off ls hz hk hm ha hc hn ih =>
    have hall : ∀ c ∈ cs, (tx c).length + 1 ≤ 30 * sz c := by
      intro c hc'
      obtain ⟨i, hi, rfl⟩ := List.getElem_of_mem hc'
      exact ih i hi
    have h1 := txs_len cs hall true
    have h2 := txo_len ks cs hall true
    have h3 := qt_len t.data.toList
    rw [lenB] at h3
    have h4 := (intsP.itoa_len n hz.2.1.1 hz.2.1.2).2
    have e1 : (nodeQ.bytes "null").length ≤ 5 := by decide +kernel
    have e2 : (nodeQ.bytes "false").length ≤ 5 := by decide +kernel
    have e3 : (nodeQ.bytes "true").length ≤ 5 := by decide +kernel
    simp only [tx, sz]
    split
    · omega
    split
    · omega
    split
    · omega
    split
    · omega
    split
    · omega
    split
    · simp only [List.length_cons, List.length_append, List.length_nil]; omega
    · simp only [List.length_cons, List.length_append, List.length_nil]; omega

theorem put6_len {cs : List Nd} (h : ∀ c ∈ cs, (tx c).length + 1 ≤ 30 * sz c) (m : Nat) : (put6 cs m).length ≤ 1 + 30 * szs (cs.take m) := by
  have := txs_len (cs.take m) (fun c hc => h c (List.mem_of_mem_take hc)) true
  simp only [put6, List.length_cons]; omega
theorem put7_len {ks : List ByteArray} {cs : List Nd} (h : ∀ c ∈ cs, (tx c).length + 1 ≤ 30 * sz c) (m : Nat) : (put7 ks cs m).length ≤ 1 + 30 * szs (cs.take m) + 30 * ((ks.take m).length + sumL (ks.take m)) := by
  have := txo_len (ks.take m) (cs.take m) (fun c hc => h c (List.mem_of_mem_take hc)) true
  simp only [put7, List.length_cons]; omega

theorem box_kept {w w' : World} {b : Nat} {cs : Array Value} (h : Lib.OthersKept 5 (some b) (w.alloc (.cells cs 26)) w') (hb : w.heap.size ≠ b) : ∀ j, w'.cell? ⟨w.heap.size, j, none⟩ = cs[j]? := by
  have h1 := h w.heap.size (.cells cs 26 (0, 0)) (heap_alloc_new w _) (fun e => hb (Option.some.inj e)) (fun c fz e => by cases e)
  intro j
  rw [Lib.cell_of_heap h1]

/-- the contract of value at a kid -/
def Kid (B b : Nat) (ad : Nat → Addr) (c : Nd) : Prop := ∀ (l : List Value) (w : World) (o : List UInt8), NodeAt w B c l → B ≤ w.heap.size → WB B b o w → Lim (o.length + 30 * sz c) → (∀ w', Below B w w' → Env w' ad) →
  Calls Tryd.prog 18 #[.pointer (some ⟨b, 0, none⟩), .agg l.toArray] w (WP B b o (tx c) w)

theorem app3 (o p s q : List UInt8) : o ++ (p ++ (s ++ q)) = ((o ++ p) ++ s) ++ q := by simp

set_option maxHeartbeats 4000000 in
set_option maxRecDepth 100000 in
theorem kids_6 (n : Int) (t : ByteArray) (ks : List ByteArray) (cs : List Nd) (l : List Value) (w : World) (B b : Nat) (o : List UInt8) (ad : Nat → Addr) (hx : NodeAt w B (.mk 6 n t ks cs) l) (hBw : B ≤ w.heap.size) (h : WB B b o w) (hlen : Lim (o.length + (2 + 30 * szs cs))) (hE : ∀ w', Below B w w' → Env w' ad) (ih : ∀ c ∈ cs, Kid B b ad c) :
    Calls Tryd.prog 30 #[.pointer (some ⟨b, 0, none⟩), .agg l.toArray, .int .u8 91, .int .u8 93] w (WP B b o (put6 cs cs.length ++ [93]) w) := by
  obtain ⟨kv, cv, rfl, _, _, htm, hkv, hcv⟩ := hx.open
  obtain ⟨ao, cap, b', off, ls, rfl, hm, ha, hc, hn⟩ := hcv
  obtain ⟨ak, capk, bk, offk, rfl, hmk, hak, hck, hsk⟩ := hkv
  have hall : ∀ c ∈ cs, (tx c).length + 1 ≤ 30 * sz c := by
    intro c hc'
    obtain ⟨i, hi, rfl⟩ := List.getElem_of_mem hc'
    exact tx_len (hn i hi)
  have HPL := Lib.hid (fun m => put6_len hall m)
  have HST := Lib.hid (szs_take cs)
  have HSM := Lib.hid (szs_mono cs)
  have HPS := Lib.hid (put6_step cs)
  have hbne : w.heap.size ≠ b := by have := h.lt; omega
  have HC := Lib.hid hc
  have HN := Lib.hid hn
  have HA := Lib.hid ha
  have HX := Lib.hid ih
  have HV := Lib.hid hE
  have HL := Lib.hid hlen
  have hmI : (cs.length : Int) ≤ 9223372036854775807 := by unfold maxLen at hm; omega
  obtain ⟨wb, hwb⟩ : ∃ wb, wb = w.alloc (.cells #[.int .i64 6, .int .i64 n, .string t, .slice ak ks.length capk, .slice ao cs.length cap] 26) := ⟨_, rfl⟩
  have HW1 : Hid (WB B b o wb) := Lib.hid (by rw [hwb]; exact h.alloc _)
  have HR1 : Hid (WR B b w wb) := Lib.hid (by rw [hwb]; exact (WR.refl _ _ _).alloc hBw _)
  have hs1 : B ≤ wb.heap.size := by rw [hwb]; simp; omega
  have HBX : Hid (∀ w', Lib.OthersKept 5 (some b) wb w' → w'.cell? ⟨w.heap.size, 0, none⟩ = some (.int .i64 6) ∧ w'.cell? ⟨w.heap.size, 4, none⟩ = some (.slice ao cs.length cap)) := Lib.hid (by
    rw [hwb]; intro w' hk; exact ⟨box_kept hk hbne 0, box_kept hk hbne 4⟩)
  have Hwb := Lib.hid hwb
  have hp0 : Hid (put6 cs 0 = [91]) := Lib.hid (put6_0 cs)
  clear hx hc hn ha hck hak hsk hm hmk htm h hE hlen ih hall hwb
  go_enter Tryd.func30, Tryd.ntmps30
  go_wp2_with fail
  rw [← Hwb.out]
  refine (wByte B b o 91 wb HW1.out (by have := HL.out; unfold Lim at this ⊢; omega) hs1).mono ?_
  rintro e w2 ⟨rfl, h2, h3⟩
  have HW2 := Lib.hid h2
  have HR2 := Lib.hid h3
  have hs2 : B ≤ w2.heap.size := by have := h3.1.size; omega
  obtain ⟨_, q4⟩ := HBX.out w2 h3.2
  clear h2 h3 Hwb
  go_wp2
  go_loopw [9, 10, 19] (fun _ _ i wr => ∃ m : Nat, m ≤ cs.length ∧ i = .int .i64 m ∧ Hid (WB B b (o ++ put6 cs m) wr) ∧ Hid (WR B b wb wr) ∧ B ≤ wr.heap.size) (fun _ _ i _ => cs.length - (intOf i).toNat)
  case atStart => exact ⟨0, Nat.zero_le _, rfl, Lib.hid (by rw [hp0.out]; exact HW2.out), HR2, hs2⟩
  case round =>
    obtain ⟨m, hm1, rfl, hw, hr, hsz⟩ := hrel
    have q0 : ∀ X, (wr.alloc X).cell? ⟨w.heap.size, 0, none⟩ = some (.int .i64 6) := fun X => (HBX.out _ (hr.out.2.alloc X)).1
    have HBr := Lib.hid (HR1.out.1.trans hr.out.1)
    by_cases hlt : m < cs.length
    · obtain ⟨rfl, hbs⟩ := HA.out (by intro h0; rw [h0] at hlt; simp at hlt)
      obtain ⟨k', n', t', ak', lk, ck, ac, lc, cc, hkid, p0, p1, p2, p3, p5⟩ := kid_atB HC.out HN.out hlt hbs HBr.out
      have HKD := Lib.hid hkid
      have HD := Lib.hid (HX.out cs[m] (List.getElem_mem hlt))
      have hps := Lib.hid (HPS.out m hlt)
      have hpl := Lib.hid (HPL.out m)
      have hst := Lib.hid (HST.out m hlt)
      have hsm := Lib.hid (HSM.out (m + 1))
      clear hkid
      generalize cs[m] = x at *
      by_cases hm0 : m = 0
      · have hlen1 : Hid (Lim ((o ++ put6 cs m).length + 30 * sz x)) := Lib.hid (by
          have h1 := HL.out; have h2 := hpl.out; have h3 := hst.out; have h4 := hsm.out
          unfold Lim at h1 ⊢; rw [List.length_append]; omega)
        have hps0 : Hid (put6 cs (m + 1) = put6 cs m ++ tx x) := Lib.hid (by rw [hps.out, decide_eq_true hm0]; rfl)
        have hmg : ¬ ((0 : Int) < (m : Int)) := by omega
        clear hps hm0
        go_wp2_with fail
        refine (HD.out _ _ (o ++ put6 cs m) (HKD.out.keep (HBr.out.alloc hsz _)) (by simp; omega) (hw.out.alloc _) hlen1.out (fun w' h => HV.out _ ((HBr.out.alloc hsz _).trans h))).mono ?_
        rintro e w3 ⟨rfl, h2, h3⟩
        have HW3 : Hid (WB B b (o ++ put6 cs (m + 1)) w3) := Lib.hid (by rw [hps0.out, ← List.append_assoc]; exact h2)
        have HR3 := Lib.hid ((hr.out.alloc hsz _).trans h3)
        have hs3 : B ≤ w3.heap.size := by have := h3.1.size; simp at this; omega
        clear h2 h3 p0 p1 p2 p3 p5
        go_wp2
        go_roundw
        case rel => exact ⟨m + 1, by omega, by go_num, HW3, HR3, hs3⟩
        case measure => simp [intOf]; omega
      · have hlen0 : Hid (Lim ((o ++ put6 cs m).length + 1)) := Lib.hid (by
          have h1 := HL.out; have h2 := hpl.out; have h3 := hst.out; have h4 := hsm.out; have h5 := sz_pos x
          unfold Lim at h1 ⊢; rw [List.length_append]; omega)
        have hlen1 : Hid (Lim ((o ++ put6 cs m ++ [44]).length + 30 * sz x)) := Lib.hid (by
          have h1 := HL.out; have h2 := hpl.out; have h3 := hst.out; have h4 := hsm.out
          unfold Lim at h1 ⊢; simp only [List.length_append, List.length_cons, List.length_nil]; omega)
        have hps0 : Hid (put6 cs (m + 1) = put6 cs m ++ ([44] ++ tx x)) := Lib.hid (by rw [hps.out, decide_eq_false hm0]; rfl)
        have hmg : (0 : Int) < (m : Int) := by omega
        clear hps hm0
        go_wp2_with fail
        refine (wByte B b (o ++ put6 cs m) 44 _ (hw.out.alloc _) hlen0.out (by simp; omega)).mono ?_
        rintro e w3 ⟨rfl, h2, h3⟩
        have HW3 := Lib.hid h2
        have HR3 := Lib.hid ((hr.out.alloc hsz _).trans h3)
        have hs3 : B ≤ w3.heap.size := by have := h3.1.size; simp at this; omega
        have kb := box_kept h3.2 (by have := hw.out.lt; omega)
        have r0 : w3.cell? ⟨wr.heap.size, 0, none⟩ = some (.int .i64 k') := kb 0
        have r1 : w3.cell? ⟨wr.heap.size, 1, none⟩ = some (.int .i64 n') := kb 1
        have r2 : w3.cell? ⟨wr.heap.size, 2, none⟩ = some (.string t') := kb 2
        have r3 : w3.cell? ⟨wr.heap.size, 3, none⟩ = some (.slice ak' lk ck) := kb 3
        have r4 : w3.cell? ⟨wr.heap.size, 4, none⟩ = some (.slice ac lc cc) := kb 4
        obtain ⟨q03, _⟩ := HBX.out w3 HR3.out.2
        clear h2 h3 p0 p1 p2 p3 p5 kb q0
        have HB3 := Lib.hid (HR1.out.1.trans HR3.out.1)
        go_wp2_with fail
        refine (HD.out _ _ (o ++ put6 cs m ++ [44]) (HKD.out.keep HB3.out) hs3 HW3.out hlen1.out (fun w' h => HV.out _ (HB3.out.trans h))).mono ?_
        rintro e w4 ⟨rfl, h2, h3⟩
        have HW4 : Hid (WB B b (o ++ put6 cs (m + 1)) w4) := Lib.hid (by rw [hps0.out, app3]; exact h2)
        have HR4 := Lib.hid (HR3.out.trans h3)
        have hs4 : B ≤ w4.heap.size := by have := h3.1.size; omega
        clear h2 h3 r0 r1 r2 r3 r4 q03
        go_wp2
        go_roundw
        case rel => exact ⟨m + 1, by omega, by go_num, HW4, HR4, hs4⟩
        case measure => simp [intOf]; omega
    · obtain rfl : m = cs.length := by omega
      have hlen0 : Hid (Lim ((o ++ put6 cs cs.length).length + 1)) := Lib.hid (by
        have h1 := HL.out; have h2 := HPL.out cs.length; have h4 := HSM.out cs.length
        unfold Lim at h1 ⊢; rw [List.length_append]; omega)
      clear q0
      go_wp2_with fail
      refine (wByte B b (o ++ put6 cs cs.length) 93 _ hw.out hlen0.out hsz).mono ?_
      rintro e w3 ⟨rfl, h2, h3⟩
      have HW3 := Lib.hid h2
      have HR3 := Lib.hid ((HR1.out.trans hr.out).trans h3)
      clear h2 h3
      go_wp2
      go_ret
      exact ⟨rfl, by rw [← List.append_assoc]; exact HW3.out, HR3.out⟩
end Go.Proofs.YtdbidkfjbhclcaaDoor.nodeK
