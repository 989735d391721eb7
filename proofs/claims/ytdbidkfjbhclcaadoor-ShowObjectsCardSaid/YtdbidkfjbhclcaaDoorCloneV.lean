/-
  Contract: show.Object.
-/
import Derived.Test.YtdbidkfjbhclcaaDoorCloneU
import Derived.Test.YtdbidkfjbhclcaaDoorNodeB
import Derived.Test.YtdbidkfjbhclcaaDoorQuoM
namespace Go.Proofs.YtdbidkfjbhclcaaDoor.cloneV
set_option linter.unusedSimpArgs false
set_option linter.unusedVariables false
open Go.ChangeShapes Go.WideShapes Go.ChangeAt Go.RowKit Go.WideMaps Go.Maps nodeP nodeQ nodeA nodeB cloneP owns cloneQ cloneR cloneS cloneT cloneU errs errIs
theorem zeroN (w : World) : (zeroValue 26).run Tryd.prog w = .ok (.agg #[.int .i64 0, .int .i64 0, .string ByteArray.empty, .slice none 0 0, .slice none 0 0]) w := by kernel_rfl
theorem whole5 {w : World} {b : Nat} {T : TypeId} {v0 v1 v2 v3 v4 : Value} (h : Whole w b T [v0, v1, v2, v3, v4]) : w.cell? ⟨b, 0, none⟩ = some v0 ∧ w.cell? ⟨b, 1, none⟩ = some v1 ∧ w.cell? ⟨b, 2, none⟩ = some v2 ∧ w.cell? ⟨b, 3, none⟩ = some v3 ∧ w.cell? ⟨b, 4, none⟩ = some v4 :=
  ⟨h.cell 0, h.cell 1, h.cell 2, h.cell 3, h.cell 4⟩
/-- five cells are written -/
theorem set5 {w0 w : World} {B b : Nat} {T : TypeId} {v0 v1 v2 v3 v4 : Value} (h : Whole w b T [v0, v1, v2, v3, v4]) (hb : Below B w0 w) (hB : B ≤ b) (u0 u1 u2 u3 u4 : Value) :
    Whole (((((w.setCell ⟨b, 0, none⟩ u0).setCell ⟨b, 1, none⟩ u1).setCell ⟨b, 2, none⟩ u2).setCell ⟨b, 3, none⟩ u3).setCell ⟨b, 4, none⟩ u4) b T [u0, u1, u2, u3, u4] ∧ Below B w0 (((((w.setCell ⟨b, 0, none⟩ u0).setCell ⟨b, 1, none⟩ u1).setCell ⟨b, 2, none⟩ u2).setCell ⟨b, 3, none⟩ u3).setCell ⟨b, 4, none⟩ u4) ∧ (((((w.setCell ⟨b, 0, none⟩ u0).setCell ⟨b, 1, none⟩ u1).setCell ⟨b, 2, none⟩ u2).setCell ⟨b, 3, none⟩ u3).setCell ⟨b, 4, none⟩ u4).heap.size = w.heap.size ∧ ∀ c, c ≠ b → (((((w.setCell ⟨b, 0, none⟩ u0).setCell ⟨b, 1, none⟩ u1).setCell ⟨b, 2, none⟩ u2).setCell ⟨b, 3, none⟩ u3).setCell ⟨b, 4, none⟩ u4).heap[c]? = w.heap[c]? := by
  refine ⟨((((((h.set 0 u0).1.set 1 u1).1).set 2 u2).1.set 3 u3).1.set 4 u4).1, ?_, by simp, fun c hc => ?_⟩
  · refine Below.setCell (Below.setCell (Below.setCell (Below.setCell (Below.setCell hb ?_ _) ?_ _) ?_ _) ?_ _) ?_ _ <;> exact hB
  · rw [Below.heap_setCell _ _ _ c hc, Below.heap_setCell _ _ _ c hc, Below.heap_setCell _ _ _ c hc, Below.heap_setCell _ _ _ c hc, Below.heap_setCell _ _ _ c hc]
/-- which error an Object of keys and kids gives: 0 none, 5 the keys, 6 the lengths -/
def obe (ks : List ByteArray) (cs : List Nd) : Nat := if ks.length = cs.length then (if ks.Nodup then 0 else 5) else 6
/-- what Object answers -/
def ObP (ks : List ByteArray) (cs : List Nd) (ad : Nat → Addr) (w : World) (e : Ending) (w' : World) : Prop :=
  ∃ l' ev', e = .returned (.tuple #[.agg l'.toArray, ev']) ∧ Below w.heap.size w w' ∧ ((obe ks cs = 0 ∧ ev' = .nilIface ∧ NodeAt w' w'.heap.size (obj ks cs) l') ∨ (obe ks cs ≠ 0 ∧ ev' = ev (ad (obe ks cs - 1)) ∧ l' = [.int .i64 0, .int .i64 0, .string ByteArray.empty, .slice none 0 0, .slice none 0 0]))
set_option maxHeartbeats 4000000 in
set_option maxRecDepth 100000 in
theorem object_any (ks : List ByteArray) (cs : List Nd) (kv cv : Value) (w : World) (ad : Nat → Addr) (hE : Errs w ad) (hk : KeysAt w w.heap.size kv ks) (hc : KidsAt w w.heap.size cv cs) (hl : (ks.length : Int) ≤ 100000) (hs : (sz (obj ks cs) : Int) ≤ 100000) :
    Calls Tryd.prog 11 #[kv, cv] w (ObP ks cs ad w) := by
  have HKV := Lib.hid hk
  have HCV := Lib.hid hc
  have hw1 : Below w.heap.size w (w.alloc (.cells #[.int .i64 0, .int .i64 0, .string ⟨#[]⟩, .slice none 0 0, .slice none 0 0] 26)) := (Below.refl _ _).alloc (Nat.le_refl _) _
  obtain ⟨ak, ck, bk, offk, rfl, hmk, hak, hck, hsk⟩ := hk
  obtain ⟨ao, cap, b, off, ls, rfl, hmm, -, -, -⟩ := hc
  have HCK := Lib.hid hck
  have HAK := Lib.hid hak
  have HSK := Lib.hid hsk
  have HSZ := Lib.hid hs
  have HE := Lib.hid hE
  have hnn := run_makeMapN
  have hW1 := Whole.new w 26 [.int .i64 0, .int .i64 0, .string ⟨#[]⟩, .slice none 0 0, .slice none 0 0]
  have HW := Lib.hid hW1
  have HB1 := Lib.hid hw1
  have HS1 : Hid ((w.alloc (.cells #[.int .i64 0, .int .i64 0, .string ⟨#[]⟩, .slice none 0 0, .slice none 0 0] 26)).heap.size = w.heap.size + 1) := Lib.hid (by simp)
  have HML : Hid (ks.length ≤ maxLen ∧ cs.length ≤ maxLen) := Lib.hid ⟨hmk.1, hmm⟩
  clear hck hak hsk hmk hmm hE hW1 hw1 hs
  by_cases hlc : ks.length = cs.length
  · rw [← hlc] at HCV HML ⊢
    have HLC := Lib.hid hlc
    clear hlc
    have HW2 : Hid (Whole ((w.alloc (.cells #[.int .i64 0, .int .i64 0, .string ⟨#[]⟩, .slice none 0 0, .slice none 0 0] 26)).alloc (.map #[] 0)) w.heap.size 26 [.int .i64 0, .int .i64 0, .string ⟨#[]⟩, .slice none 0 0, .slice none 0 0]) := Lib.hid (HW.out.below ((Below.refl _ _).alloc (Nat.le_refl _) _) HW.out.lt)
    have g4 : w.cell? ⟨1, 0, none⟩ = some (ev (ad 4)) := HE.out.glob 4 (by decide)
    have hgl : (1 : Nat) < w.heap.size := World.block_lt_of_cell? w _ g4
    have hgn : ¬ ((1 : Nat) = w.heap.size) := fun e => by have := hgl; omega
    have HG4 := Lib.hid g4
    clear g4
    go_enter Tryd.func11, Tryd.ntmps11
    go_wp2
    go_loopw [8, 21] (fun _ i wr => ∃ m : Nat, m ≤ ks.length ∧ i = .int .i64 m ∧ wr.ownsMap Tryd.prog 9 (plainElem Tryd.prog 3) (w.heap.size + 1) m (seenD (ks.take m)) ∧ Below w.heap.size w wr ∧ Hid ((ks.take m).Nodup) ∧ Hid (Whole wr w.heap.size 26 [.int .i64 0, .int .i64 0, .string ⟨#[]⟩, .slice none 0 0, .slice none 0 0])) (fun _ i _ => ks.length - (intOf i).toNat)
    case atStart =>
      refine ⟨0, Nat.zero_le _, rfl, ?_, ((Below.refl _ _).alloc (Nat.le_refl _) _).alloc (by simp) _, Lib.hid (by simp), HW2⟩
      have := World.ownsMap_made (H := Unit) (w.alloc (.cells #[.int .i64 0, .int .i64 0, .string ⟨#[]⟩, .slice none 0 0, .slice none 0 0] 26)) Tryd.prog 9 (plainElem Tryd.prog 3)
      simpa [seenD] using this
    case round =>
      obtain ⟨m, hm1, rfl, hown, hb, hgood, hWr⟩ := hrel
      by_cases hlt : m < ks.length
      · obtain ⟨rfl, hbs⟩ := HAK.out (by intro h0; rw [h0] at hlt; simp at hlt)
        have q : wr.cell? ⟨bk, offk + m, none⟩ = some (.string (ks.getD m ByteArray.empty)) := by rw [hb.cell hbs]; exact HCK.out m hlt
        have hmx : (ks.getD m ByteArray.empty).size ≤ maxLen := HSK.out _ (by rw [List.getD_eq_getElem?_getD, List.getElem?_eq_getElem hlt]; exact List.getElem_mem hlt)
        have hstep := Lib.hid (take_snoc ks m ByteArray.empty hlt)
        have hdup := Lib.hid (fun h : ks.Nodup => nodup_take h m hlt)
        have hsn := Lib.hid (fun h h' => take_nodup_snoc (l := ks) m hlt h h')
        generalize ks.getD m ByteArray.empty = s at *
        have hkey : keyOf Tryd.prog 9 (.string s) = some (.string s.data.toList) := keyOf_string_mk Tryd.underlying9 hmx
        have HB := Lib.hid hb
        have hsz := hb.size
        have HO := Lib.hid hown
        have HMX := Lib.hid hmx
        obtain ⟨c, hrun, hat, _⟩ := hown.lookup_int law Tryd.underlying52 Tryd.underlying3 (zeroI _) hkey
        have g4 := (hb.cell (p := ⟨1, 0, none⟩) hgl).trans HG4.out
        clear hb hmx hown
        by_cases hin : s ∈ ks.take m
        · have hc1 : c = 1 := by rw [seen_yes hin] at hat; simpa using hat.symm
          subst hc1
          have hOB : Hid (obe ks cs = 5) := Lib.hid (by unfold obe; rw [if_pos HLC.out, if_neg (fun h => hdup.out h hin)])
          clear hat hkey
          go_wp2
          obtain ⟨x0, x1, x2, x3, x4⟩ := whole5 hWr.out
          have y0 := hWr.out.frozen 0
          have y1 := hWr.out.frozen 1
          have y2 := hWr.out.frozen 2
          have y3 := hWr.out.frozen 3
          have y4 := hWr.out.frozen 4
          go_region
          go_wp2
          have h5 := set5 hWr.out HB.out (Nat.le_refl _) (.int .i64 0) (.int .i64 0) (.string ⟨#[]⟩) (.slice none 0 0) (.slice none 0 0)
          have hW9 := Whole.below h5.1 (Below.refl _ _).drew (Whole.lt h5.1)
          have hB9 := h5.2.1.drew
          clear h5
          generalize (((((wr.setCell ⟨w.heap.size, 0, none⟩ (.int .i64 0)).setCell ⟨w.heap.size, 1, none⟩ (.int .i64 0)).setCell ⟨w.heap.size, 2, none⟩ (.string ⟨#[]⟩)).setCell ⟨w.heap.size, 3, none⟩ (.slice none 0 0)).setCell ⟨w.heap.size, 4, none⟩ (.slice none 0 0)).drew = w9 at *
          obtain ⟨k0, k1, k2, k3, k4⟩ := whole5 hW9
          refine bodyPost_ret (v := .tuple #[.agg #[.int .i64 0, .int .i64 0, .string ⟨#[]⟩, .slice none 0 0, .slice none 0 0], ev (ad 4)]) (by simp [results, Tryd.results11, go_sem, k0, k1, k2, k3, k4]) rfl ?_
          exact ⟨_, _, rfl, hB9, .inr ⟨by rw [hOB.out]; decide, by rw [hOB.out], rfl⟩⟩
        · have hc0 : c = 0 := by rw [seen_no hin] at hat; simpa using hat.symm
          subst hc0
          clear hat
          have hown1 := HO.out
          go_wp2_with (at_mapUpdate; refine wpList_mapUpdate_own _ rfl _ _ _ 52 rfl 9 3 law Tryd.underlying52 _ (w.heap.size + 1) m _ rfl hown1 (by unfold maxLen; omega) _ _ _ rfl rfl hkey _ [] (plainElem_int Tryd.underlying3 (by decide)) ?_)
          intro w2 hown2 hgrow2
          have R1 : Hid (w2.ownsMap Tryd.prog 9 (plainElem Tryd.prog 3) (w.heap.size + 1) (m + 1) (seenD (ks.take (m + 1)))) := Lib.hid (by rw [hstep.out, seenD_snoc]; exact hown2)
          have R2 := Lib.hid (HB.out.grown hgrow2 (by omega) (fun j hj => by cases hj; omega))
          have R3 : Hid ((ks.take (m + 1)).Nodup) := Lib.hid (hsn.out hgood.out hin)
          have R4 := Lib.hid (hWr.out.kept hgrow2 (fun e => by have := Option.some.inj e; omega))
          clear hown2 hgrow2 hown1 hkey
          go_wp2
          go_roundw
          case rel => exact ⟨m + 1, by omega, by go_num, R1.out, R2.out, R3, R4⟩
          case measure => simp [intOf]; omega
      · obtain rfl : m = ks.length := by omega
        have hOB : Hid (obe ks cs = 0) := Lib.hid (by
          have h1 := hgood.out
          rw [List.take_length] at h1
          unfold obe; rw [if_pos HLC.out, if_pos h1])
        have HB := Lib.hid hb
        have HCL := Lib.hid (plain_any (G0 := fun b => b < w.heap.size) (obj ks cs) [.int .i64 7, .int .i64 0, .string ByteArray.empty, .slice ak ks.length ck, .slice ao ks.length cap] wr (fun b h => Nat.lt_of_lt_of_le h hb.size) (node_of_at (.shut ⟨by unfold In64; omega, by unfold In64; omega, Nat.zero_le _⟩ (HKV.out.keep hb) (HCV.out.keep hb))) HSZ.out)
        have HS := Lib.hid hb.size
        clear hb hown
        go_wp2_with fail
        refine HCL.out.mono ?_
        rintro e w5 ⟨l5, rfl, hn, hb5⟩
        obtain ⟨kk, nn, tt, b1, m1, d1, b2, m2, d2, rfl⟩ := node_form hn
        have HB5 := Lib.hid (HB.out.trans (hb5.mono HB.out.size))
        have hWR := hWr.out.below hb5 hWr.out.lt
        have HN := Lib.hid hn
        have HS5 := Lib.hid hb5.size
        have HLR := Lib.hid hWr.out.lt
        clear hn hb5
        obtain ⟨x0, x1, x2, x3, x4⟩ := whole5 hWR
        have y0 := hWR.frozen 0
        have y1 := hWR.frozen 1
        have y2 := hWR.frozen 2
        have y3 := hWR.frozen 3
        have y4 := hWR.frozen 4
        have HWR := Lib.hid hWR
        clear hWR
        go_wp2
        have h5 := set5 HWR.out HB5.out (Nat.le_refl _) (.int .i64 kk) (.int .i64 nn) (.string tt) (.slice b1 m1 d1) (.slice b2 m2 d2)
        generalize (((((w5.setCell ⟨w.heap.size, 0, none⟩ (.int .i64 kk)).setCell ⟨w.heap.size, 1, none⟩ (.int .i64 nn)).setCell ⟨w.heap.size, 2, none⟩ (.string tt)).setCell ⟨w.heap.size, 3, none⟩ (.slice b1 m1 d1)).setCell ⟨w.heap.size, 4, none⟩ (.slice b2 m2 d2)) = w9 at *
        obtain ⟨hW9, hB9, hZ9, hS9⟩ := h5
        obtain ⟨k0, k1, k2, k3, k4⟩ := whole5 hW9
        refine bodyPost_ret (v := .tuple #[.agg #[.int .i64 kk, .int .i64 nn, .string tt, .slice b1 m1 d1, .slice b2 m2 d2], .nilIface]) (by simp [results, Tryd.results11, go_sem, k0, k1, k2, k3, k4]) rfl ?_
        refine ⟨[.int .i64 kk, .int .i64 nn, .string tt, .slice b1 m1 d1, .slice b2 m2 d2], _, rfl, hB9, .inl ⟨hOB.out, rfl, ?_⟩⟩
        refine node_to_at (fun b hb => ?_) (HN.out.move (G' := fun b => b < w9.heap.size) fun b hb => ⟨hS9 b ?_, ?_⟩)
        · exact hb
        · rcases hb with ⟨_, h⟩ | ⟨h, _⟩
          · show b ≠ _; have : b < w.heap.size := h; omega
          · have := HLR.out; omega
        · rw [hZ9]
          rcases hb with ⟨h, _⟩ | ⟨_, h⟩
          · have := HS5.out; omega
          · exact h
  · have hOB : Hid (obe ks cs = 6) := Lib.hid (by unfold obe; rw [if_neg hlc])
    have hlI : ¬ ((ks.length : Int) = (cs.length : Int)) := by omega
    have g5 : w.cell? ⟨0, 0, none⟩ = some (ev (ad 5)) := HE.out.glob 5 (by decide)
    have HG5 := Lib.hid (HB1.out.cell (World.block_lt_of_cell? w _ g5))
    have g5' := HG5.out.trans g5
    have hgl : (0 : Nat) < w.heap.size := Nat.lt_of_le_of_lt (Nat.zero_le _) (World.block_lt_of_cell? w _ g5)
    have hgn : ¬ ((0 : Nat) = w.heap.size) := fun e => by have := World.block_lt_of_cell? w _ g5; rw [← e] at this; exact absurd this (by decide)
    clear hl hlc g5
    generalize ks.length = K at *
    generalize cs.length = C at *
    go_enter Tryd.func11, Tryd.ntmps11
    go_wp2_with fail
    generalize w.alloc (.cells #[.int .i64 0, .int .i64 0, .string ⟨#[]⟩, .slice none 0 0, .slice none 0 0] 26) = w1 at *
    obtain ⟨x0, x1, x2, x3, x4⟩ := whole5 HW.out
    have y0 := HW.out.frozen 0
    have y1 := HW.out.frozen 1
    have y2 := HW.out.frozen 2
    have y3 := HW.out.frozen 3
    have y4 := HW.out.frozen 4
    go_region
    go_wp2
    have h5 := set5 HW.out HB1.out (Nat.le_refl _) (.int .i64 0) (.int .i64 0) (.string ⟨#[]⟩) (.slice none 0 0) (.slice none 0 0)
    have hW9 := Whole.below h5.1 (Below.refl _ _).drew (Whole.lt h5.1)
    have hB9 := h5.2.1.drew
    clear h5
    generalize (((((w1.setCell ⟨w.heap.size, 0, none⟩ (.int .i64 0)).setCell ⟨w.heap.size, 1, none⟩ (.int .i64 0)).setCell ⟨w.heap.size, 2, none⟩ (.string ⟨#[]⟩)).setCell ⟨w.heap.size, 3, none⟩ (.slice none 0 0)).setCell ⟨w.heap.size, 4, none⟩ (.slice none 0 0)).drew = w9 at *
    obtain ⟨k0, k1, k2, k3, k4⟩ := whole5 hW9
    refine bodyPost_ret (v := .tuple #[.agg #[.int .i64 0, .int .i64 0, .string ⟨#[]⟩, .slice none 0 0, .slice none 0 0], ev (ad 5)]) (by simp [results, Tryd.results11, go_sem, k0, k1, k2, k3, k4]) rfl ?_
    exact ⟨_, _, rfl, hB9, .inr ⟨by rw [hOB.out]; decide, by rw [hOB.out], rfl⟩⟩
end Go.Proofs.YtdbidkfjbhclcaaDoor.cloneV
