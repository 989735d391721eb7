/-
  Contracts of the reference's Put, Norm, Right.
-/
import Derived.Test.YtojjjndhabjhdaaProofS
namespace Go.Proofs.Ytojjjndhabjhdaa.proofT
open Go.ChangeShapes Go.WideShapes Go.ChangeAt Go.RowKit proofP proofQ proofR owns proofA proofI proofM proofN proofO proofS cls
set_option linter.unusedSimpArgs false
set_option linter.unusedVariables false

/-- literals, in a slice that is not nil and may be cut and appended -/
def IntsC (w : World) (B : Nat) (v : Value) (l : List Int) : Prop := ∃ b off cap, v = .slice (some ⟨b, off, none⟩) l.length cap ∧ l.length ≤ cap ∧ cap ≤ maxLen ∧ b < B ∧ (∀ i, i < l.length → w.cell? ⟨b, off + i, none⟩ = some (.int .i64 (l.getD i 0))) ∧ (l = [] → cap = 0) ∧ ∀ y ∈ l, lit y
theorem IntsC.keep {w w' : World} {B : Nat} {v : Value} {l : List Int} (h : IntsC w B v l) (hb : Below B w w') : IntsC w' B v l := by
  obtain ⟨b, off, cap, rfl, h1, h2, h3, h4, h5, h6⟩ := h
  exact ⟨b, off, cap, rfl, h1, h2, h3, fun i hi => by rw [hb.cell (show (⟨b, off + i, none⟩ : Addr).block < B from h3)]; exact h4 i hi, h5, h6⟩
theorem IntsC.mono {w : World} {B B' : Nat} (hB : B ≤ B') {v : Value} {l : List Int} (h : IntsC w B v l) : IntsC w B' v l := by
  obtain ⟨b, off, cap, rfl, h1, h2, h3, h4, h5, h6⟩ := h
  exact ⟨b, off, cap, rfl, h1, h2, by omega, h4, h5, h6⟩
theorem lit64 {x : Int} (h : lit x) : In64 x := by unfold lit at h; unfold In64; omega
theorem IntsC.at {w : World} {B : Nat} {v : Value} {l : List Int} (h : IntsC w B v l) : IntsAt w B v l := by
  obtain ⟨b, off, cap, rfl, h1, h2, h3, h4, h5, h6⟩ := h
  exact ⟨_, cap, b, off, rfl, by omega, fun _ => ⟨rfl, h3⟩, h4, fun y hy => lit64 (h6 y hy)⟩
theorem IntsC.ofRow {w : World} {B : Nat} {e : TypeId} {v : Value} {l : List Int} (h : w.ownsRow B e 1 v l.length (l.map (Value.int .i64))) (hn : l ≠ []) (hs : ∀ x ∈ l, lit x) : IntsC w w.heap.size v l := by
  have hpos : 0 < l.length := List.length_pos_iff.2 hn
  obtain ⟨g, cap, rfl, h1, h2, h3, h4⟩ := own_form h hpos
  refine ⟨g, 0, cap, rfl, h3, h4, h2, fun i hi => ?_, fun h => absurd h hn, hs⟩
  rw [Nat.zero_add, World.ownsRow.cellAt h i (by omega), List.getElem?_map, List.getElem?_eq_getElem hi, List.getD_eq_getElem?_getD, List.getElem?_eq_getElem hi]; rfl
theorem IntsC.empty (w : World) (t : TypeId) : IntsC (w.alloc (.cells #[] t)) (w.heap.size + 1) (.slice (some ⟨w.heap.size, 0, none⟩) 0 0) [] :=
  ⟨w.heap.size, 0, 0, rfl, Nat.le_refl _, by simp [maxLen], by omega, fun i hi => absurd hi (Nat.not_lt_zero _), fun _ => rfl, by simp⟩
theorem own_empty (w : World) (t : TypeId) : (w.alloc (.cells #[] t)).ownsRow w.heap.size t 1 (.slice (some ⟨w.heap.size, 0, none⟩) 0 0) 0 [] :=
  ⟨rfl, .inr ⟨w.heap.size, 0, #[], rfl, Nat.le_refl _, heap_alloc_new w _, Nat.le_refl _, by simp [maxLen], rfl, rfl⟩⟩

def PutP (l : List Int) (x : Int) (w : World) (e : Ending) (w' : World) : Prop := ∃ v, e = .returned v ∧ IntsC w' w'.heap.size v (put l x) ∧ Below w.heap.size w w'
theorem put_ne (l : List Int) (x : Int) : put l x ≠ [] := fun h => by have := (mem_put l x x).2 (.inr rfl); rw [h] at this; simp at this
theorem put_fin {w w3 : World} {l : List Int} {x : Int} {k : Nat} {v : Value} (hk : k ≤ l.length) (hp : put l x = l.take k ++ [x] ++ l.drop k) (hl : ∀ y ∈ l, lit y) (hx : lit x) (hb : Below w.heap.size w w3)
    (ho : IntsR w3 w.heap.size v ([] ++ l.take k ++ [x] ++ l.drop k)) : PutP l x w (.returned v) w3 := by
  rw [List.nil_append, ← hp] at ho
  refine ⟨v, rfl, IntsC.ofRow ho (put_ne _ _) (fun y hy => ?_), hb⟩
  rcases (mem_put _ _ _).1 hy with hy | rfl
  · exact hl y hy
  · exact hx
theorem put_end' {w w3 : World} {l : List Int} {x : Int} {v : Value} (hp : put l x = l ++ [x]) (hl : ∀ y ∈ l, lit y) (hx : lit x) (hb : Below w.heap.size w w3)
    (ho : IntsR w3 w.heap.size v ([] ++ l ++ [x] ++ [])) : PutP l x w (.returned v) w3 := by
  rw [List.nil_append, List.append_nil, ← hp] at ho
  refine ⟨v, rfl, IntsC.ofRow ho (put_ne _ _) (fun y hy => ?_), hb⟩
  rcases (mem_put _ _ _).1 hy with hy | rfl
  · exact hl y hy
  · exact hx

set_option maxRecDepth 100000 in
set_option maxHeartbeats 4000000 in
theorem Put_some (w : World) (B b off cap : Nat) (l : List Int) (x : Int) (hB : B ≤ w.heap.size) (hbB : b < B) (hcap : l.length ≤ cap) (hcm : cap ≤ maxLen) (hc : ∀ i, i < l.length → w.cell? ⟨b, off + i, none⟩ = some (.int .i64 (l.getD i 0))) (hn : l ≠ []) (hl : ∀ y ∈ l, lit y) (hx : lit x) (hlen : l.length ≤ 50000) :
    Calls Try.prog 43 #[.slice (some ⟨b, off, none⟩) l.length cap, .int .i64 x] w (PutP l x w) := by
  have HC := Lib.hid hc
  have HL := Lib.hid hl
  have HX := Lib.hid hx
  have hpos : 0 < l.length := List.length_pos_iff.2 hn
  unfold maxLen at hcm
  have hIA : IntsC w B (.slice (some ⟨b, off, none⟩) l.length cap) l := ⟨b, off, cap, rfl, hcap, by unfold maxLen; omega, hbB, hc, fun h => absurd h hn, hl⟩
  have HIA := Lib.hid hIA
  clear hc hl hx hn hIA
  go_enter Try.func43, Try.ntmps43
  go_wp2
  go_loop [5] (fun it => ∃ k : Nat, k ≤ l.length ∧ it = .int .i64 k ∧ Hid (∀ j, j < k → less (l.getD j 0) x = true)) (fun it => l.length - (intOf it).toNat)
  case atStart => exact ⟨0, Nat.zero_le _, rfl, Lib.hid (fun j hj => absurd hj (Nat.not_lt_zero _))⟩
  case round =>
    obtain ⟨k, hk, rfl, hg⟩ := hrel
    by_cases hlt : k < l.length
    · have q := HC.out k hlt
      have hlk := HL.out _ (getD_mem (d := 0) hlt)
      have HLE := Lib.hid (fun w' => Less_any (l.getD k 0) x w' hlk HX.out)
      cases hls : less (l.getD k 0) x
      · rw [hls] at HLE
        by_cases he : l.getD k 0 = x
        · have HE : Hid (put l x = l) := Lib.hid (put_same k hlt hg.out he)
          rw [he] at q HLE
          have HF : Hid (PutP l x w (.returned (.slice (some ⟨b, off, none⟩) l.length cap)) w) := Lib.hid ⟨_, rfl, by rw [HE.out]; exact HIA.out.mono hB, Below.refl _ _⟩
          clear hg hlk hls he
          go_wp2_with (go_at_call 55; refine (HLE.out _).mono ?_; rintro e w' ⟨rfl, rfl⟩)
          go_ret
          exact HF.out
        · have HP := Lib.hid (put_mid k hlt hg.out hls he)
          generalize l.getD k 0 = y at *
          have he' : (y == x) = false := by simpa using he
          have hkc : k < cap := by omega
          have HFI := Lib.hid (fun w3 v hb ho => put_fin (w := w) (w3 := w3) (v := v) hk HP.out HL.out HX.out hb ho)
          clear hg hlk hls he HP
          have HZ : Hid (([] : List Int).length ≤ 1000000) := Lib.hid (by simp)
          have HSZ : Hid (w.heap.size ≤ (w.alloc (.cells #[] 3)).heap.size) := Lib.hid (by simp)
          have HBA : Hid (Below w.heap.size w (w.alloc (.cells #[] 3))) := Lib.hid ((Below.refl _ _).alloc (Nat.le_refl _) _)
          have HI1 : Hid (IntsAt w w.heap.size (.slice (some ⟨b, off, none⟩) k cap) ((l.take k))) := Lib.hid (ints_take (HIA.out.at.mono hB) k hk _)
          have HA1 := Lib.hid ((HI1.out.keep HBA.out).mono HSZ.out)
          have HI3 : Hid (IntsAt w w.heap.size (.slice (some ⟨b, off + k, none⟩) (l.length - k) (cap - k)) ((l.drop k))) := Lib.hid (ints_drop (HIA.out.at.mono hB) k hk _ _ rfl)
          have HM1 : Hid (((l.take k)).length ≤ 1000000) := Lib.hid (by rw [List.length_take]; omega)
          have HM3 : Hid (((l.drop k)).length ≤ 1000000) := Lib.hid (by rw [List.length_drop]; omega)
          have HM2 : Hid (([] ++ (l.take k)).length ≤ 1000000 ∧ ([] ++ (l.take k) ++ [x]).length ≤ 1000000) := Lib.hid (by simp; omega)
          go_wp2_with (first | (go_at_call 55; refine (HLE.out _).mono ?_; rintro e w' ⟨rfl, rfl⟩) | (at_builtin; refine wpList_append_ints _ rfl (.tmp 34) (.tmp 37) 29 rfl Try.underlying29 w.heap.size (.slice (some ⟨w.heap.size, 0, none⟩) 0 0) (.slice (some ⟨b, off, none⟩) k cap) [] (l.take k) rfl (IntsR.empty w) rfl HA1.out (Nilv.some _ _ _) HZ.out HM1.out HSZ.out ?_))
          intro a1 n1 c1 w1 ho1 hb1 hn1
          have HO1 := Lib.hid ho1
          have HB1 := Lib.hid (HBA.out.trans hb1)
          have hs1 := HB1.out.size
          have HXN := Lib.hid (ints_new w1 x (lit64 HX.out))
          have HS2 : Hid (w.heap.size ≤ (w1.alloc (.cells #[.int .i64 x] 3)).heap.size) := Lib.hid (by simp; omega)
          have HO1A := Lib.hid (HO1.out.alloc (.cells #[.int .i64 x] 3))
          have HL1 : Hid ([x].length ≤ 1000000) := Lib.hid (by simp)
          clear ho1 hb1 HO1
          go_wp2_with (at_builtin; refine wpList_append_ints _ rfl (.tmp 39) (.tmp 41) 29 rfl Try.underlying29 w.heap.size (.slice a1 n1 c1) (.slice (some ⟨w1.heap.size, 0, none⟩) 1 1) ([] ++ (l.take k)) [x] rfl HO1A.out rfl HXN.out (Nilv.some _ _ _) HM2.out.1 HL1.out HS2.out ?_)
          intro a2 n2 c2 w2 ho2 hb2 hn2
          have HO2 := Lib.hid ho2
          have HB2 := Lib.hid ((HB1.out.alloc hs1 _).trans hb2)
          have hs2 := HB2.out.size
          have HA3 := Lib.hid ((HI3.out.keep HB2.out).mono hs2)
          clear ho2 hb2 HXN HO1A
          go_wp2_with (at_builtin; refine wpList_append_ints _ rfl (.tmp 43) (.tmp 46) 29 rfl Try.underlying29 w.heap.size (.slice a2 n2 c2) (.slice (some ⟨b, off + k, none⟩) (l.length - k) (cap - k)) ([] ++ (l.take k) ++ [x]) (l.drop k) rfl HO2.out rfl HA3.out (Nilv.some _ _ _) HM2.out.2 HM3.out hs2 ?_)
          intro a3 n3 c3 w3 ho3 hb3 hn3
          have HF := Lib.hid (HFI.out w3 (.slice a3 n3 c3) (HB2.out.trans hb3) (by simpa using ho3))
          clear ho3 hb3 HO2
          go_wp2
          go_ret
          exact HF.out
      · rw [hls] at HLE
        have HF : Hid (∀ j, j < k + 1 → less (l.getD j 0) x = true) := Lib.hid (fun j hj => by
          by_cases e : j = k
          · rw [e]; exact hls
          · exact hg.out j (by omega))
        generalize l.getD k 0 = y at *
        clear hg hlk hls
        go_wp2_with (go_at_call 55; refine (HLE.out _).mono ?_; rintro e w' ⟨rfl, rfl⟩)
        go_round
        case rel => exact ⟨k + 1, by omega, by go_num, HF⟩
        case measure => simp [intOf]; omega
    · obtain rfl : k = l.length := by omega
      have HFI := Lib.hid (fun w3 v hb ho => put_end' (w := w) (w3 := w3) (v := v) (put_end hg.out) HL.out HX.out hb ho)
      have hnk : ¬ ((l.length : Int) < (l.length : Int)) := by omega
      clear hg
      by_cases hce : cap = l.length
      · subst hce
        have HZ : Hid (([] : List Int).length ≤ 1000000) := Lib.hid (by simp)
        have HSZ : Hid (w.heap.size ≤ (w.alloc (.cells #[] 3)).heap.size) := Lib.hid (by simp)
        have HBA : Hid (Below w.heap.size w (w.alloc (.cells #[] 3))) := Lib.hid ((Below.refl _ _).alloc (Nat.le_refl _) _)
        have HI1 : Hid (IntsAt w w.heap.size (.slice (some ⟨b, off, none⟩) l.length l.length) (l)) := Lib.hid (HIA.out.at.mono hB)
        have HA1 := Lib.hid ((HI1.out.keep HBA.out).mono HSZ.out)
        have HI3 : Hid (IntsAt w w.heap.size (.slice (some ⟨b, off, none⟩) 0 0) (([] : List Int))) := Lib.hid (ints_nil _ _ _ _)
        have HM1 : Hid ((l).length ≤ 1000000) := Lib.hid (by omega)
        have HM3 : Hid ((([] : List Int)).length ≤ 1000000) := Lib.hid (by simp)
        have HM2 : Hid (([] ++ l).length ≤ 1000000 ∧ ([] ++ l ++ [x]).length ≤ 1000000) := Lib.hid (by simp; omega)
        go_wp2_with (at_builtin; refine wpList_append_ints _ rfl (.tmp 34) (.tmp 37) 29 rfl Try.underlying29 w.heap.size (.slice (some ⟨w.heap.size, 0, none⟩) 0 0) (.slice (some ⟨b, off, none⟩) l.length l.length) [] l rfl (IntsR.empty w) rfl HA1.out (Nilv.some _ _ _) HZ.out HM1.out HSZ.out ?_)
        intro a1 n1 c1 w1 ho1 hb1 hn1
        have HO1 := Lib.hid ho1
        have HB1 := Lib.hid (HBA.out.trans hb1)
        have hs1 := HB1.out.size
        have HXN := Lib.hid (ints_new w1 x (lit64 HX.out))
        have HS2 : Hid (w.heap.size ≤ (w1.alloc (.cells #[.int .i64 x] 3)).heap.size) := Lib.hid (by simp; omega)
        have HO1A := Lib.hid (HO1.out.alloc (.cells #[.int .i64 x] 3))
        have HL1 : Hid ([x].length ≤ 1000000) := Lib.hid (by simp)
        clear ho1 hb1 HO1
        go_wp2_with (at_builtin; refine wpList_append_ints _ rfl (.tmp 39) (.tmp 41) 29 rfl Try.underlying29 w.heap.size (.slice a1 n1 c1) (.slice (some ⟨w1.heap.size, 0, none⟩) 1 1) ([] ++ l) [x] rfl HO1A.out rfl HXN.out (Nilv.some _ _ _) HM2.out.1 HL1.out HS2.out ?_)
        intro a2 n2 c2 w2 ho2 hb2 hn2
        have HO2 := Lib.hid ho2
        have HB2 := Lib.hid ((HB1.out.alloc hs1 _).trans hb2)
        have hs2 := HB2.out.size
        have HA3 := Lib.hid ((HI3.out.keep HB2.out).mono hs2)
        clear ho2 hb2 HXN HO1A
        go_wp2_with (at_builtin; refine wpList_append_ints _ rfl (.tmp 43) (.tmp 46) 29 rfl Try.underlying29 w.heap.size (.slice a2 n2 c2) (.slice (some ⟨b, off, none⟩) 0 0) ([] ++ l ++ [x]) ([] : List Int) rfl HO2.out rfl HA3.out (Nilv.some _ _ _) HM2.out.2 HM3.out hs2 ?_)
        intro a3 n3 c3 w3 ho3 hb3 hn3
        have HF := Lib.hid (HFI.out w3 (.slice a3 n3 c3) (HB2.out.trans hb3) (by simpa using ho3))
        clear ho3 hb3 HO2
        go_wp2
        go_ret
        exact HF.out
      · have hkc : l.length < cap := by omega
        clear hce
        have HZ : Hid (([] : List Int).length ≤ 1000000) := Lib.hid (by simp)
        have HSZ : Hid (w.heap.size ≤ (w.alloc (.cells #[] 3)).heap.size) := Lib.hid (by simp)
        have HBA : Hid (Below w.heap.size w (w.alloc (.cells #[] 3))) := Lib.hid ((Below.refl _ _).alloc (Nat.le_refl _) _)
        have HI1 : Hid (IntsAt w w.heap.size (.slice (some ⟨b, off, none⟩) l.length cap) (l)) := Lib.hid (HIA.out.at.mono hB)
        have HA1 := Lib.hid ((HI1.out.keep HBA.out).mono HSZ.out)
        have HI3 : Hid (IntsAt w w.heap.size (.slice (some ⟨b, off + l.length, none⟩) 0 (cap - l.length)) (([] : List Int))) := Lib.hid (ints_nil _ _ _ _)
        have HM1 : Hid ((l).length ≤ 1000000) := Lib.hid (by omega)
        have HM3 : Hid ((([] : List Int)).length ≤ 1000000) := Lib.hid (by simp)
        have HM2 : Hid (([] ++ l).length ≤ 1000000 ∧ ([] ++ l ++ [x]).length ≤ 1000000) := Lib.hid (by simp; omega)
        go_wp2_with (at_builtin; refine wpList_append_ints _ rfl (.tmp 34) (.tmp 37) 29 rfl Try.underlying29 w.heap.size (.slice (some ⟨w.heap.size, 0, none⟩) 0 0) (.slice (some ⟨b, off, none⟩) l.length cap) [] l rfl (IntsR.empty w) rfl HA1.out (Nilv.some _ _ _) HZ.out HM1.out HSZ.out ?_)
        intro a1 n1 c1 w1 ho1 hb1 hn1
        have HO1 := Lib.hid ho1
        have HB1 := Lib.hid (HBA.out.trans hb1)
        have hs1 := HB1.out.size
        have HXN := Lib.hid (ints_new w1 x (lit64 HX.out))
        have HS2 : Hid (w.heap.size ≤ (w1.alloc (.cells #[.int .i64 x] 3)).heap.size) := Lib.hid (by simp; omega)
        have HO1A := Lib.hid (HO1.out.alloc (.cells #[.int .i64 x] 3))
        have HL1 : Hid ([x].length ≤ 1000000) := Lib.hid (by simp)
        clear ho1 hb1 HO1
        go_wp2_with (at_builtin; refine wpList_append_ints _ rfl (.tmp 39) (.tmp 41) 29 rfl Try.underlying29 w.heap.size (.slice a1 n1 c1) (.slice (some ⟨w1.heap.size, 0, none⟩) 1 1) ([] ++ l) [x] rfl HO1A.out rfl HXN.out (Nilv.some _ _ _) HM2.out.1 HL1.out HS2.out ?_)
        intro a2 n2 c2 w2 ho2 hb2 hn2
        have HO2 := Lib.hid ho2
        have HB2 := Lib.hid ((HB1.out.alloc hs1 _).trans hb2)
        have hs2 := HB2.out.size
        have HA3 := Lib.hid ((HI3.out.keep HB2.out).mono hs2)
        clear ho2 hb2 HXN HO1A
        go_wp2_with (at_builtin; refine wpList_append_ints _ rfl (.tmp 43) (.tmp 46) 29 rfl Try.underlying29 w.heap.size (.slice a2 n2 c2) (.slice (some ⟨b, off + l.length, none⟩) 0 (cap - l.length)) ([] ++ l ++ [x]) ([] : List Int) rfl HO2.out rfl HA3.out (Nilv.some _ _ _) HM2.out.2 HM3.out hs2 ?_)
        intro a3 n3 c3 w3 ho3 hb3 hn3
        have HF := Lib.hid (HFI.out w3 (.slice a3 n3 c3) (HB2.out.trans hb3) (by simpa using ho3))
        clear ho3 hb3 HO2
        go_wp2
        go_ret
        exact HF.out

set_option maxRecDepth 100000 in
set_option maxHeartbeats 4000000 in
theorem Put_none (w : World) (b off : Nat) (x : Int) (hx : lit x) :
    Calls Try.prog 43 #[.slice (some ⟨b, off, none⟩) 0 0, .int .i64 x] w (PutP [] x w) := by
  have HFI := Lib.hid (fun w3 v hb ho => put_end' (w := w) (w3 := w3) (v := v) (l := []) rfl (by simp) hx hb ho)
  have HX := Lib.hid hx
  clear hx
  go_enter Try.func43, Try.ntmps43
  go_wp2
  go_loop [5] (fun it => it = .int .i64 0) (fun _ => 0)
  case atStart => rfl
  case round =>
  subst hrel
  have HZ : Hid (([] : List Int).length ≤ 1000000) := Lib.hid (by simp)
  have HSZ : Hid (w.heap.size ≤ (w.alloc (.cells #[] 3)).heap.size) := Lib.hid (by simp)
  have HBA : Hid (Below w.heap.size w (w.alloc (.cells #[] 3))) := Lib.hid ((Below.refl _ _).alloc (Nat.le_refl _) _)
  have HI1 : Hid (IntsAt w w.heap.size (.slice (some ⟨b, off, none⟩) 0 0) (([] : List Int))) := Lib.hid (ints_nil _ _ _ _)
  have HA1 := Lib.hid ((HI1.out.keep HBA.out).mono HSZ.out)
  have HI3 : Hid (IntsAt w w.heap.size (.slice (some ⟨b, off, none⟩) 0 0) (([] : List Int))) := Lib.hid (ints_nil _ _ _ _)
  have HM1 : Hid ((([] : List Int)).length ≤ 1000000) := Lib.hid (by simp)
  have HM3 : Hid ((([] : List Int)).length ≤ 1000000) := Lib.hid (by simp)
  have HM2 : Hid (([] ++ ([] : List Int)).length ≤ 1000000 ∧ ([] ++ ([] : List Int) ++ [x]).length ≤ 1000000) := Lib.hid (by simp)
  go_wp2_with (at_builtin; refine wpList_append_ints _ rfl (.tmp 34) (.tmp 37) 29 rfl Try.underlying29 w.heap.size (.slice (some ⟨w.heap.size, 0, none⟩) 0 0) (.slice (some ⟨b, off, none⟩) 0 0) [] ([] : List Int) rfl (IntsR.empty w) rfl HA1.out (Nilv.some _ _ _) HZ.out HM1.out HSZ.out ?_)
  intro a1 n1 c1 w1 ho1 hb1 hn1
  have HO1 := Lib.hid ho1
  have HB1 := Lib.hid (HBA.out.trans hb1)
  have hs1 := HB1.out.size
  have HXN := Lib.hid (ints_new w1 x (lit64 HX.out))
  have HS2 : Hid (w.heap.size ≤ (w1.alloc (.cells #[.int .i64 x] 3)).heap.size) := Lib.hid (by simp; omega)
  have HO1A := Lib.hid (HO1.out.alloc (.cells #[.int .i64 x] 3))
  have HL1 : Hid ([x].length ≤ 1000000) := Lib.hid (by simp)
  clear ho1 hb1 HO1
  go_wp2_with (at_builtin; refine wpList_append_ints _ rfl (.tmp 39) (.tmp 41) 29 rfl Try.underlying29 w.heap.size (.slice a1 n1 c1) (.slice (some ⟨w1.heap.size, 0, none⟩) 1 1) ([] ++ ([] : List Int)) [x] rfl HO1A.out rfl HXN.out (Nilv.some _ _ _) HM2.out.1 HL1.out HS2.out ?_)
  intro a2 n2 c2 w2 ho2 hb2 hn2
  have HO2 := Lib.hid ho2
  have HB2 := Lib.hid ((HB1.out.alloc hs1 _).trans hb2)
  have hs2 := HB2.out.size
  have HA3 := Lib.hid ((HI3.out.keep HB2.out).mono hs2)
  clear ho2 hb2 HXN HO1A
  go_wp2_with (at_builtin; refine wpList_append_ints _ rfl (.tmp 43) (.tmp 46) 29 rfl Try.underlying29 w.heap.size (.slice a2 n2 c2) (.slice (some ⟨b, off, none⟩) 0 0) ([] ++ ([] : List Int) ++ [x]) ([] : List Int) rfl HO2.out rfl HA3.out (Nilv.some _ _ _) HM2.out.2 HM3.out hs2 ?_)
  intro a3 n3 c3 w3 ho3 hb3 hn3
  have HF := Lib.hid (HFI.out w3 (.slice a3 n3 c3) (HB2.out.trans hb3) (by simpa using ho3))
  clear ho3 hb3 HO2
  go_wp2
  go_ret
  exact HF.out

theorem Put_any (w : World) (B : Nat) (v : Value) (l : List Int) (x : Int) (hv : IntsC w B v l) (hB : B ≤ w.heap.size) (hx : lit x) (hlen : l.length ≤ 50000) :
    Calls Try.prog 43 #[v, .int .i64 x] w (PutP l x w) := by
  obtain ⟨b, off, cap, rfl, h1, h2, h3, h4, h5, h6⟩ := hv
  by_cases hn : l = []
  · subst hn
    obtain rfl := h5 rfl
    exact Put_none w b off x hx
  · exact Put_some w B b off cap l x hB h3 h1 h2 h4 hn h6 hx hlen

def normL (c : List Int) : List Int := c.foldl put []
theorem normL_snoc (c : List Int) (x : Int) : normL (c ++ [x]) = put (normL c) x := by simp [normL]
theorem normL_len (c : List Int) : (normL c).length ≤ c.length := by
  suffices h : ∀ (c acc : List Int), (c.foldl put acc).length ≤ acc.length + c.length from by simpa [normL] using h c []
  intro c
  induction c with
  | nil => intro acc; simp
  | cons y c ih => intro acc; rw [List.foldl_cons]; have := ih (put acc y); have := put_le acc y; simp; omega

def NormP (c : List Int) (w : World) (e : Ending) (w' : World) : Prop :=
  ((∀ x ∈ c, lit x) ∧ ∃ v, e = .returned (.tuple #[v, .bool true]) ∧ IntsC w' w'.heap.size v (normL c) ∧ Below w.heap.size w w') ∨ ((∃ x ∈ c, ¬ lit x) ∧ e = .returned (.tuple #[.slice none 0 0, .bool false]) ∧ Below w.heap.size w w')
set_option maxRecDepth 100000 in
set_option maxHeartbeats 2000000 in
theorem Norm_any (w : World) (B : Nat) (cv : Value) (c : List Int) (hc : IntsAt w B cv c) (hB : B ≤ w.heap.size) (hlen : c.length ≤ 50000) :
    Calls Try.prog 29 #[cv] w (NormP c w) := by
  obtain ⟨ao, cap, b, off, rfl, hcm, ha, hcell, h64⟩ := hc
  have HA := Lib.hid ha
  have HC := Lib.hid hcell
  clear ha hcell h64 hcm
  have HE0 := Lib.hid (IntsC.empty w 3)
  go_enter Try.func29, Try.ntmps29
  go_wp2
  go_loopw [4, 10] (fun v it wr => ∃ (k n cp : Nat) (ad : Addr), k ≤ c.length ∧ it = .int .i64 k ∧ v = .slice (some ad) n cp ∧ IntsC wr wr.heap.size v (normL (c.take k)) ∧ Below w.heap.size w wr ∧ Hid (∀ x ∈ c.take k, lit x)) (fun _ it _ => c.length - (intOf it).toNat)
  case atStart => exact ⟨0, 0, 0, _, Nat.zero_le _, rfl, rfl, by have := HE0.out; simpa [normL] using this, (Below.refl _ _).alloc (Nat.le_refl _) _, Lib.hid (by simp)⟩
  case round =>
    clear HE0
    obtain ⟨k, n, cp, ad, hk, rfl, rfl, hv, hb, hg⟩ := hrel
    have HV := Lib.hid hv
    have HB := Lib.hid hb
    by_cases hlt : k < c.length
    · obtain ⟨rfl, hbB⟩ := HA.out (by intro h0; rw [h0] at hlt; simp at hlt)
      have q : wr.cell? ⟨b, off + k, none⟩ = some (.int .i64 (c.getD k 0)) := by rw [hb.cell (show (⟨b, off + k, none⟩ : Addr).block < w.heap.size from by show b < _; omega)]; exact HC.out k hlt
      have hst : c.take (k + 1) = c.take k ++ [c.getD k 0] := by rw [List.take_succ_eq_append_getElem hlt, List.getD_eq_getElem?_getD, List.getElem?_eq_getElem hlt]; rfl
      have HST := Lib.hid hst
      have HMM := Lib.hid (getD_mem (d := 0) hlt)
      have hnl := normL_len (c.take k)
      have htl : (c.take k).length ≤ k := List.length_take_le _ _
      have hws := hb.size
      generalize c.getD k 0 = x at *
      clear hv hb hst
      by_cases hx : lit x
      · have HX := Lib.hid hx
        have HPU := Lib.hid (Put_any wr wr.heap.size _ (normL (c.take k)) x HV.out (Nat.le_refl _) hx (by omega))
        have HG : Hid (∀ y ∈ c.take (k + 1), lit y) := Lib.hid (fun y hy => by
          rw [HST.out] at hy
          rcases List.mem_append.1 hy with hy | hy
          · exact hg.out y hy
          · simp at hy; rw [hy]; exact HX.out)
        clear hx hg
        go_wp2_with (go_at_call 31; refine (Is_yes _ _ HX.out).mono ?_; rintro e w' ⟨rfl, rfl⟩)
        refine HPU.out.mono ?_
        rintro e w2 ⟨v2, rfl, hv2, hb2⟩
        have HB2 := Lib.hid (HB.out.trans (hb2.mono hws))
        have HV2 : Hid (IntsC w2 w2.heap.size v2 (normL (c.take (k + 1)))) := Lib.hid (by rw [HST.out, normL_snoc]; exact hv2)
        obtain ⟨b2, off2, cap2, hvv, _⟩ := hv2
        subst hvv
        clear hb2
        go_wp2
        go_roundw
        case rel => exact ⟨k + 1, _, _, _, by omega, by go_num, rfl, HV2.out, HB2.out, HG⟩
        case measure => simp [intOf]; omega
      · have HX := Lib.hid hx
        have HF : Hid (NormP c w (.returned (.tuple #[.slice none 0 0, .bool false])) wr) := Lib.hid (.inr ⟨⟨x, HMM.out, hx⟩, rfl, HB.out⟩)
        clear hx hg
        go_wp2_with (go_at_call 31; refine (Is_no _ _ HX.out).mono ?_; rintro e w' ⟨rfl, rfl⟩)
        go_ret2
        exact HF.out
    · obtain rfl : k = c.length := by omega
      rw [List.take_length] at HV hg
      have HF : Hid (NormP c w (.returned (.tuple #[.slice (some ad) n cp, .bool true])) wr) := Lib.hid (.inl ⟨hg.out, _, rfl, HV.out, HB.out⟩)
      clear hv hb hg
      go_wp2
      go_ret2
      exact HF.out

def BoolP (w : World) (e : Ending) (w' : World) : Prop := ∃ b : Bool, e = .returned (.bool b) ∧ Below w.heap.size w w'
theorem Right14_some (w : World) (B : Nat) (cv : Value) (c : List Int) (hc : IntsAt w B cv c) (hB : B ≤ w.heap.size) (hlen : c.length ≤ 50000) :
    Calls Try.prog 13 #[cv] w (BoolP w) := by
  have HN := Lib.hid (Norm_any w B cv c hc hB hlen)
  have HC := Lib.hid hc
  obtain ⟨ao, cap, b, off, rfl, hcm, ha, hcell, h64⟩ := hc
  clear ha hcell h64 hcm
  go_enter Try.func13, Try.ntmps13
  go_wp2_with fail
  refine HN.out.mono ?_
  rintro e w1 (⟨_, v, rfl, hv, hb⟩ | ⟨_, rfl, hb⟩)
  · have HS := Lib.hid (Same_any v _ (normL c) c w1 w1.heap.size hv.at ((HC.out.keep (hb.mono hB)).mono (Nat.le_trans hB hb.size)))
    have HB := Lib.hid hb
    have hbs := hb.size
    obtain ⟨b2, off2, cap2, hvv, _⟩ := hv
    subst hvv
    clear hb HN
    go_wp2_with fail
    refine HS.out.mono ?_
    rintro e w2 ⟨rfl, hb2⟩
    have HB2 := Lib.hid (HB.out.trans (hb2.mono hbs))
    generalize decide (normL c = c) = r at *
    clear hb2
    go_wp2
    go_ret
    exact ⟨r, rfl, HB2.out⟩
  · have HB := Lib.hid hb
    clear hb HN
    go_wp2
    go_ret
    exact ⟨false, rfl, HB.out⟩
end Go.Proofs.Ytojjjndhabjhdaa.proofT
