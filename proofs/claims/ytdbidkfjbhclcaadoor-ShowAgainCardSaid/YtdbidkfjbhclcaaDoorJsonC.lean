/-
  Contract of (*reader).enter.
-/
import Derived.Test.YtdbidkfjbhclcaaDoorJsonB
import Derived.Test.YtdbidkfjbhclcaaDoorHeld
import Derived.Deep.AppendLies
import Derived.Deep.DrawnRows
import Derived.Laws.Pointers
namespace Go.Proofs.YtdbidkfjbhclcaaDoor.jsonC
open Go.ChangeShapes Go.WideShapes Go.ChangeAt Go.RowKit Go.WideMaps Go.Maps nodeP nodeQ nodeS ownI jsonP jsonM jsonN jsonO jsonA jsonB
set_option linter.unusedSimpArgs false
set_option linter.unusedVariables false

theorem infoF : (Tryd.prog.info? 109).map (fun i => (i.zero, i.size, i.bytes)) = some (some (.agg #[.int .i64 0, .int .i64 0, .string ⟨#[]⟩, .slice none 0 0, .slice none 0 0, .map none]), 6, 88) := by kernel_rfl
theorem run_makeMap0 (w : World) : (Instr.makeMap 52 none).run Tryd.prog w = .ok (.map (some w.heap.size)) (w.alloc (.map #[] 0)) := by
  simp [Instr.makeMap]

/-- a frame more -/
def EnP (B rb : Nat) (s : ByteArray) (p n d : Nat) (fr : Nat → Fr) (P : Nat → Prop) (w : World) (e : Ending) (w' : World) : Prop :=
  e = .returned (.tuple #[]) ∧ ∃ F', RM w' B rb s (p + 1) n (d + 1) fr F' P ∧ Near B rb w w'

set_option maxRecDepth 100000 in
set_option maxHeartbeats 4000000 in
theorem enter_arr (w : World) (B rb : Nat) (s : ByteArray) (p n d : Nat) (fr : Nat → Fr) (F : Ix → Thing) (P : Nat → Prop) (h : RM w B rb s p n d fr F P) (hd : d ≤ 32) (hp : p ≤ 1000000) :
    Calls Tryd.prog 38 #[.pointer (some ⟨rb, 0, none⟩), .int .u8 91] w (EnP B rb s p n d (updN fr d ⟨false, [], []⟩) P w) := by
  have hs0 := h.hB
  have ga := h.field.2.1
  have za := h.field.2.2.2.2 1
  have hMp := h.setP (p + 1)
  change RM (w.setCell ⟨rb, 1, none⟩ (.int .i64 ((p : Int) + 1))) _ _ _ _ _ _ _ _ _ at hMp
  have HMp := Lib.hid hMp
  have HNp : Hid (Near B rb w (w.setCell ⟨rb, 1, none⟩ (.int .i64 ((p : Int) + 1)))) := Lib.hid ((Near.refl B rb w).set 1 _)
  have hszp : (w.setCell ⟨rb, 1, none⟩ (.int .i64 ((p : Int) + 1))).heap.size = w.heap.size := by simp
  have HSZ := Lib.hid hszp
  obtain ⟨i0, hi, hz0, hz1, hz2⟩ := info_parts infoF
  have hmk := run_makeMap0
  clear h hMp hszp
  go_enter Tryd.func38, Tryd.ntmps38
  go_wp2
  generalize hwp : w.setCell ⟨rb, 1, none⟩ (.int .i64 ((p : Int) + 1)) = wp at *
  clear hwp ga za
  have hbp : Below wp.heap.size wp (wp.alloc (.cells #[.int .i64 6, .int .i64 0, .string ⟨#[]⟩, .slice none 0 0, .slice none 0 0, .map none] 109)) := (Below.refl _ _).alloc (Nat.le_refl _) _
  have hM1 := HMp.out.new hbp
  have hX1 := Whole.new wp 109 [.int .i64 6, .int .i64 0, .string ⟨#[]⟩, .slice none 0 0, .slice none 0 0, .map none]
  change Whole (wp.alloc (.cells #[.int .i64 6, .int .i64 0, .string ⟨#[]⟩, .slice none 0 0, .slice none 0 0, .map none] 109)) _ _ _ at hX1
  rw [HSZ.out] at hX1
  have HBP := Lib.hid hbp
  have HFB : Hid (∀ k, (F k).blk ≠ some w.heap.size) := Lib.hid (fun k e => by have := (HMp.out.blkB k _ e).2; rw [HSZ.out] at this; omega)
  have HIT : Hid (∀ wx, Below (wp.alloc (.cells #[.int .i64 6, .int .i64 0, .string ⟨#[]⟩, .slice none 0 0, .slice none 0 0, .map none] 109)).heap.size (wp.alloc (.cells #[.int .i64 6, .int .i64 0, .string ⟨#[]⟩, .slice none 0 0, .slice none 0 0, .map none] 109)) wx → Thing.nomap.ok wx B) := Lib.hid (fun _ _ => trivial)
  have hfr : w.heap.size ≠ rb := by omega
  generalize (wp.alloc (.cells #[.int .i64 6, .int .i64 0, .string ⟨#[]⟩, .slice none 0 0, .slice none 0 0, .map none] 109)) = w1 at *
  generalize w.heap.size = fb at *
  clear hbp
  have hrl := hM1.obj.lt
  obtain ⟨ov, hov⟩ := hM1.opn
  have hok := hM1.own.1 .opn
  rw [hov] at hok
  have hok' : w1.ownsRow B 109 6 ov d (ocells fr F d) := hok
  obtain ⟨ao, co, hof⟩ := row_form hok'
  subst hof
  have hovv : (F .opn).val = .slice ao d co := by rw [hov]; rfl
  have HOV := Lib.hid hovv
  have HOK := Lib.hid hok'
  have f3 := hM1.field.2.2.2.1
  rw [hovv] at f3
  have hWF := hX1
  have HM1 := Lib.hid hM1
  have HX1 := Lib.hid hX1
  have x0 := hX1.cell 0
  have x1 := hX1.cell 1
  have x2 := hX1.cell 2
  have x3 := hX1.cell 3
  have x4 := hX1.cell 4
  have x5 := hX1.cell 5
  simp only [List.getElem?_cons_zero, List.getElem?_cons_succ] at x0 x1 x2 x3 x4 x5
  clear hX1 hWF hok hok' hov hovv hM1
  refine held.region (fun w' => w'.cell? ⟨rb, 3, none⟩ = some (.slice ao d co) ∧ w'.cell? ⟨fb, 0, none⟩ = some (.int .i64 6) ∧ w'.cell? ⟨fb, 1, none⟩ = some (.int .i64 0) ∧ w'.cell? ⟨fb, 2, none⟩ = some (.string ⟨#[]⟩) ∧ w'.cell? ⟨fb, 3, none⟩ = some (.slice none 0 0) ∧ w'.cell? ⟨fb, 4, none⟩ = some (.slice none 0 0) ∧ w'.cell? ⟨fb, 5, none⟩ = some (.map none)) 10 (by kernel_rfl) ?_
  have hS7 : w1.drew.cell? ⟨rb, 3, none⟩ = some (.slice ao d co) ∧ w1.drew.cell? ⟨fb, 0, none⟩ = some (.int .i64 6) ∧ w1.drew.cell? ⟨fb, 1, none⟩ = some (.int .i64 0) ∧ w1.drew.cell? ⟨fb, 2, none⟩ = some (.string ⟨#[]⟩) ∧ w1.drew.cell? ⟨fb, 3, none⟩ = some (.slice none 0 0) ∧ w1.drew.cell? ⟨fb, 4, none⟩ = some (.slice none 0 0) ∧ w1.drew.cell? ⟨fb, 5, none⟩ = some (.map none) := ⟨f3, x0, x1, x2, x3, x4, x5⟩
  refine held.wpLeft.take (i := 0) (v := ?_) rfl (by kernel_rfl) (by kernel_rfl) (by kernel_rfl) (by kernel_rfl) (by kernel_rfl) (fun _ _ _ h => h) (by rfl) ?_ hS7 ?_
  rotate_left
  · (intro w hSw; obtain ⟨s0, s1, s2, s3, s4, s5, s6⟩ := hSw; go_simp; try with_reducible rfl)
  simp only [Act.put, List.setIfInBounds_toArray, List.set_cons_zero, List.set_cons_succ]
  refine held.wpLeft.take (i := 1) (v := ?_) rfl (by kernel_rfl) (by kernel_rfl) (by kernel_rfl) (by kernel_rfl) (by kernel_rfl) (fun _ _ _ h => h) (by rfl) ?_ hS7 ?_
  rotate_left
  · (intro w hSw; obtain ⟨s0, s1, s2, s3, s4, s5, s6⟩ := hSw; go_simp; try with_reducible rfl)
  simp only [Act.put, List.setIfInBounds_toArray, List.set_cons_zero, List.set_cons_succ]
  refine held.wpLeft.take (i := 2) (v := ?_) rfl (by kernel_rfl) (by kernel_rfl) (by kernel_rfl) (by kernel_rfl) (by kernel_rfl) (fun _ _ _ h => h) (by rfl) ?_ hS7 ?_
  rotate_left
  · (intro w hSw; obtain ⟨s0, s1, s2, s3, s4, s5, s6⟩ := hSw; go_simp; try with_reducible rfl)
  simp only [Act.put, List.setIfInBounds_toArray, List.set_cons_zero, List.set_cons_succ]
  refine held.wpLeft.take (i := 3) (v := ?_) rfl (by kernel_rfl) (by kernel_rfl) (by kernel_rfl) (by kernel_rfl) (by kernel_rfl) (fun _ _ _ h => h) (by rfl) ?_ hS7 ?_
  rotate_left
  · (intro w hSw; obtain ⟨s0, s1, s2, s3, s4, s5, s6⟩ := hSw; go_simp; try with_reducible rfl)
  simp only [Act.put, List.setIfInBounds_toArray, List.set_cons_zero, List.set_cons_succ]
  refine held.wpLeft.take (i := 4) (v := ?_) rfl (by kernel_rfl) (by kernel_rfl) (by kernel_rfl) (by kernel_rfl) (by kernel_rfl) (fun _ _ _ h => h) (by rfl) ?_ hS7 ?_
  rotate_left
  · (intro w hSw; obtain ⟨s0, s1, s2, s3, s4, s5, s6⟩ := hSw; go_simp; try with_reducible rfl)
  simp only [Act.put, List.setIfInBounds_toArray, List.set_cons_zero, List.set_cons_succ]
  refine held.wpLeft.take (i := 5) (v := ?_) rfl (by kernel_rfl) (by kernel_rfl) (by kernel_rfl) (by kernel_rfl) (by kernel_rfl) (fun _ _ _ h => h) (by rfl) ?_ hS7 ?_
  rotate_left
  · (intro w hSw; obtain ⟨s0, s1, s2, s3, s4, s5, s6⟩ := hSw; go_simp; try with_reducible rfl)
  simp only [Act.put, List.setIfInBounds_toArray, List.set_cons_zero, List.set_cons_succ]
  have hbd : Below w1.heap.size w1 (w1.drew.alloc (.cells #[.int .i64 6, .int .i64 0, .string ⟨#[]⟩, .slice none 0 0, .slice none 0 0, (.map none)] 109)) := ((Below.refl _ _).drew).alloc (Nat.le_refl _) _
  have hSA : (w1.drew.alloc (.cells #[.int .i64 6, .int .i64 0, .string ⟨#[]⟩, .slice none 0 0, .slice none 0 0, (.map none)] 109)).cell? ⟨rb, 3, none⟩ = some (.slice ao d co) := (hbd.cell (p := ⟨rb, 3, none⟩) hrl).trans f3
  have hXA := HX1.out.below hbd HX1.out.lt
  refine held.wpLeft.one (i := 6) (by kernel_rfl) rfl (fun K hK => ?_)
  go_simp
  refine hK.out _ _ (fun _ => ⟨hSA, hXA.cell 0, hXA.cell 1, hXA.cell 2, hXA.cell 3, hXA.cell 4, hXA.cell 5⟩) ?_
  clear hK K
  refine held.wpLeft.one (i := 7) (by kernel_rfl) rfl (fun K2 hK2 => ?_)
  refine step_append_lies _ (by rfl) (.tmp 24) (.tmp 26) 57 (by rfl) B 109 i0 _ 6 88 Tryd.underlying57 hi hz0 hz1 hz2 rfl (by omega) (.slice ao d co) d (ocells fr F d) (by rfl) ((HOK.out.drew).alloc _) ⟨w1.heap.size, 0, none⟩ 1 1 [.int .i64 6, .int .i64 0, .string ⟨#[]⟩, .slice none 0 0, .slice none 0 0, (.map none)] (by rfl) (by rfl) (World.news_of_block (cs := #[.int .i64 6, .int .i64 0, .string ⟨#[]⟩, .slice none 0 0, .slice none 0 0, (.map none)]) (t := 109) (fr := (0, 0)) (heap_alloc_new w1.drew _)) (by simp [Value.oneCell']) (by omega) (by unfold maxLen; omega) (by omega) (by have := HM1.out.hB.2; simp; omega) (w1.heap.size + 1) (by simp) ?_
  intro g7 cap7 w7 hown7 hgrow7 hat7 hlt7
  have hneR : ∀ c, (Value.slice ao d co).ownBlock = some c → B ≤ c := fun c hc => (HOK.out.lt c hc).1
  have hrow7 : (Value.slice ao d co).ownBlock ≠ some rb := fun e => by have := hneR rb e; omega
  have hR7 := (HM1.out.obj.below hbd hrl).kept hgrow7 hrow7
  rw [HOV.out] at hR7
  have m3 := hR7.cell 3
  simp only [List.getElem?_cons_zero, List.getElem?_cons_succ] at m3
  have z3 := hR7.frozen 3
  have hfbO : (Value.slice ao d co).ownBlock ≠ some fb := fun e => HFB.out .opn (by rw [show (F .opn).blk = (Value.slice ao d co).ownBlock from by have := HOV.out; rw [← this]; obtain ⟨v, hv⟩ := HM1.out.opn; rw [hv]; rfl]; exact e)
  have hX7 := hXA.kept hgrow7 hfbO
  refine hK2.out _ _ (fun _ => ⟨m3, hX7.cell 0, hX7.cell 1, hX7.cell 2, hX7.cell 3, hX7.cell 4, hX7.cell 5⟩) ?_
  clear hK2 K2
  refine held.wpLeft.one (i := 8) (by kernel_rfl) rfl (fun K4 hK4 => ?_)
  go_simp
  refine hK4.out _ _ (fun _ => ⟨m3, hX7.cell 0, hX7.cell 1, hX7.cell 2, hX7.cell 3, hX7.cell 4, hX7.cell 5⟩) ?_
  clear hK4 K4
  refine held.wpLeft.one (i := 9) (by kernel_rfl) rfl (fun K5 hK5 => ?_)
  go_simp
  refine hK5.out _ _ (fun _ => ⟨m3, hX7.cell 0, hX7.cell 1, hX7.cell 2, hX7.cell 3, hX7.cell 4, hX7.cell 5⟩) ?_
  clear hK5 K5
  refine held.wpLeft.one (i := 10) (by kernel_rfl) rfl (fun K3 hK3 => ?_)
  go_simp
  refine hK3.out _ _ (fun h => absurd rfl h) ?_
  clear hK3 K3
  refine held.wpLeft.done (by kernel_rfl) ?_
  obtain ⟨F9, hM9⟩ := jsonN.RM.push (wA := w1.drew.alloc (.cells #[.int .i64 6, .int .i64 0, .string ⟨#[]⟩, .slice none 0 0, .slice none 0 0, (.map none)] 109)) HMp.out (HBP.out.trans (hbd.mono HBP.out.size)) false .nomap (HIT.out _ (hbd.mono (Nat.le_refl _))) (.inl rfl) ⟨fun e => (by cases e), fun _ => rfl⟩ hown7 (by rw [HOV.out]; exact hgrow7) (by
    rw [HOV.out]
    rcases hat7 with e | e
    · exact .inl e.symm
    · exact .inr ⟨g7, rfl, by rw [e]; simp⟩)
  have hN9 := ((HNp.out.trans (Near.below (rb := rb) (HBP.out.mono HMp.out.hB.2))).trans (Near.below (rb := rb) (hbd.mono HM1.out.hB.2))).trans (Near.grown (rb := rb) hgrow7 (by have := HM1.out.hB.2; simp; omega) (fun c hc => .inl (hneR c hc)))
  have HF := Lib.hid (show EnP B rb s p n d (updN fr d ⟨false, [], []⟩) P w (.returned (.tuple #[])) (w7.setCell ⟨rb, 3, none⟩ (.slice (some ⟨g7, 0, none⟩) (d + 1) cap7)) from ⟨rfl, F9, hM9, hN9.set 3 _⟩)
  clear hM9 hN9 hown7 hgrow7
  go_wp2
  go_end0
  exact HF.out

set_option maxRecDepth 100000 in
set_option maxHeartbeats 4000000 in
theorem enter_obj (w : World) (B rb : Nat) (s : ByteArray) (p n d : Nat) (fr : Nat → Fr) (F : Ix → Thing) (P : Nat → Prop) (h : RM w B rb s p n d fr F P) (hd : d ≤ 32) (hp : p ≤ 1000000) :
    Calls Tryd.prog 38 #[.pointer (some ⟨rb, 0, none⟩), .int .u8 123] w (EnP B rb s p n d (updN fr d ⟨true, [], []⟩) P w) := by
  have hs0 := h.hB
  have ga := h.field.2.1
  have za := h.field.2.2.2.2 1
  have hMp := h.setP (p + 1)
  change RM (w.setCell ⟨rb, 1, none⟩ (.int .i64 ((p : Int) + 1))) _ _ _ _ _ _ _ _ _ at hMp
  have HMp := Lib.hid hMp
  have HNp : Hid (Near B rb w (w.setCell ⟨rb, 1, none⟩ (.int .i64 ((p : Int) + 1)))) := Lib.hid ((Near.refl B rb w).set 1 _)
  have hszp : (w.setCell ⟨rb, 1, none⟩ (.int .i64 ((p : Int) + 1))).heap.size = w.heap.size := by simp
  have HSZ := Lib.hid hszp
  obtain ⟨i0, hi, hz0, hz1, hz2⟩ := info_parts infoF
  have hmk := run_makeMap0
  clear h hMp hszp
  go_enter Tryd.func38, Tryd.ntmps38
  go_wp2
  generalize hwp : w.setCell ⟨rb, 1, none⟩ (.int .i64 ((p : Int) + 1)) = wp at *
  clear hwp ga za
  have hba : Below wp.heap.size wp (wp.alloc (.cells #[.int .i64 7, .int .i64 0, .string ⟨#[]⟩, .slice none 0 0, .slice none 0 0, .map (some (w.heap.size + 1))] 109)) := (Below.refl _ _).alloc (Nat.le_refl _) _
  have hbp : Below wp.heap.size wp ((wp.alloc (.cells #[.int .i64 7, .int .i64 0, .string ⟨#[]⟩, .slice none 0 0, .slice none 0 0, .map (some (w.heap.size + 1))] 109)).alloc (.map #[] 0)) := hba.alloc hba.size _
  have hM1 := HMp.out.new hbp
  have hX0 := Whole.new wp 109 [.int .i64 7, .int .i64 0, .string ⟨#[]⟩, .slice none 0 0, .slice none 0 0, .map (some (w.heap.size + 1))]
  change Whole (wp.alloc (.cells #[.int .i64 7, .int .i64 0, .string ⟨#[]⟩, .slice none 0 0, .slice none 0 0, .map (some (w.heap.size + 1))] 109)) _ _ _ at hX0
  have hX1 := hX0.below ((Below.refl (wp.alloc (.cells #[.int .i64 7, .int .i64 0, .string ⟨#[]⟩, .slice none 0 0, .slice none 0 0, .map (some (w.heap.size + 1))] 109)).heap.size (wp.alloc (.cells #[.int .i64 7, .int .i64 0, .string ⟨#[]⟩, .slice none 0 0, .slice none 0 0, .map (some (w.heap.size + 1))] 109))).alloc (Nat.le_refl _) (.map #[] 0)) hX0.lt
  have hsza : (wp.alloc (.cells #[.int .i64 7, .int .i64 0, .string ⟨#[]⟩, .slice none 0 0, .slice none 0 0, .map (some (w.heap.size + 1))] 109)).heap.size = w.heap.size + 1 := by simp [HSZ.out]
  have hom := World.ownsMap_made (H := Unit) (wp.alloc (.cells #[.int .i64 7, .int .i64 0, .string ⟨#[]⟩, .slice none 0 0, .slice none 0 0, .map (some (w.heap.size + 1))] 109)) Tryd.prog 9 (plainElem Tryd.prog 3)
  rw [hsza] at hom
  rw [HSZ.out] at hX1
  have HBP := Lib.hid hbp
  have HFB : Hid (∀ k, (F k).blk ≠ some w.heap.size) := Lib.hid (fun k e => by have := (HMp.out.blkB k _ e).2; rw [HSZ.out] at this; omega)
  have HIT : Hid (∀ wx, Below ((wp.alloc (.cells #[.int .i64 7, .int .i64 0, .string ⟨#[]⟩, .slice none 0 0, .slice none 0 0, .map (some (w.heap.size + 1))] 109)).alloc (.map #[] 0)).heap.size ((wp.alloc (.cells #[.int .i64 7, .int .i64 0, .string ⟨#[]⟩, .slice none 0 0, .slice none 0 0, .map (some (w.heap.size + 1))] 109)).alloc (.map #[] 0)) wx → (Thing.map (w.heap.size + 1) 0 (seenD [])).ok wx B) := Lib.hid (fun wx hb => ⟨by omega, map_below hom hb⟩)
  have hfr : w.heap.size ≠ rb := by omega
  clear hba hX0 hsza hom
  generalize ((wp.alloc (.cells #[.int .i64 7, .int .i64 0, .string ⟨#[]⟩, .slice none 0 0, .slice none 0 0, .map (some (w.heap.size + 1))] 109)).alloc (.map #[] 0)) = w1 at *
  generalize w.heap.size = fb at *
  clear hbp
  have hrl := hM1.obj.lt
  obtain ⟨ov, hov⟩ := hM1.opn
  have hok := hM1.own.1 .opn
  rw [hov] at hok
  have hok' : w1.ownsRow B 109 6 ov d (ocells fr F d) := hok
  obtain ⟨ao, co, hof⟩ := row_form hok'
  subst hof
  have hovv : (F .opn).val = .slice ao d co := by rw [hov]; rfl
  have HOV := Lib.hid hovv
  have HOK := Lib.hid hok'
  have f3 := hM1.field.2.2.2.1
  rw [hovv] at f3
  have hWF := hX1
  have HM1 := Lib.hid hM1
  have HX1 := Lib.hid hX1
  have x0 := hX1.cell 0
  have x1 := hX1.cell 1
  have x2 := hX1.cell 2
  have x3 := hX1.cell 3
  have x4 := hX1.cell 4
  have x5 := hX1.cell 5
  simp only [List.getElem?_cons_zero, List.getElem?_cons_succ] at x0 x1 x2 x3 x4 x5
  clear hX1 hWF hok hok' hov hovv hM1
  refine held.region (fun w' => w'.cell? ⟨rb, 3, none⟩ = some (.slice ao d co) ∧ w'.cell? ⟨fb, 0, none⟩ = some (.int .i64 7) ∧ w'.cell? ⟨fb, 1, none⟩ = some (.int .i64 0) ∧ w'.cell? ⟨fb, 2, none⟩ = some (.string ⟨#[]⟩) ∧ w'.cell? ⟨fb, 3, none⟩ = some (.slice none 0 0) ∧ w'.cell? ⟨fb, 4, none⟩ = some (.slice none 0 0) ∧ w'.cell? ⟨fb, 5, none⟩ = some (.map (some (fb + 1)))) 10 (by kernel_rfl) ?_
  have hS7 : w1.drew.cell? ⟨rb, 3, none⟩ = some (.slice ao d co) ∧ w1.drew.cell? ⟨fb, 0, none⟩ = some (.int .i64 7) ∧ w1.drew.cell? ⟨fb, 1, none⟩ = some (.int .i64 0) ∧ w1.drew.cell? ⟨fb, 2, none⟩ = some (.string ⟨#[]⟩) ∧ w1.drew.cell? ⟨fb, 3, none⟩ = some (.slice none 0 0) ∧ w1.drew.cell? ⟨fb, 4, none⟩ = some (.slice none 0 0) ∧ w1.drew.cell? ⟨fb, 5, none⟩ = some (.map (some (fb + 1))) := ⟨f3, x0, x1, x2, x3, x4, x5⟩
  refine held.wpLeft.take (i := 0) (v := ?_) rfl (by kernel_rfl) (by kernel_rfl) (by kernel_rfl) (by kernel_rfl) (by kernel_rfl) (fun _ _ _ h => h) (by rfl) ?_ hS7 ?_
  rotate_left
  · (intro w hSw; obtain ⟨s0, s1, s2, s3, s4, s5, s6⟩ := hSw; go_simp; try with_reducible rfl)
  simp only [Act.put, List.setIfInBounds_toArray, List.set_cons_zero, List.set_cons_succ]
  refine held.wpLeft.take (i := 1) (v := ?_) rfl (by kernel_rfl) (by kernel_rfl) (by kernel_rfl) (by kernel_rfl) (by kernel_rfl) (fun _ _ _ h => h) (by rfl) ?_ hS7 ?_
  rotate_left
  · (intro w hSw; obtain ⟨s0, s1, s2, s3, s4, s5, s6⟩ := hSw; go_simp; try with_reducible rfl)
  simp only [Act.put, List.setIfInBounds_toArray, List.set_cons_zero, List.set_cons_succ]
  refine held.wpLeft.take (i := 2) (v := ?_) rfl (by kernel_rfl) (by kernel_rfl) (by kernel_rfl) (by kernel_rfl) (by kernel_rfl) (fun _ _ _ h => h) (by rfl) ?_ hS7 ?_
  rotate_left
  · (intro w hSw; obtain ⟨s0, s1, s2, s3, s4, s5, s6⟩ := hSw; go_simp; try with_reducible rfl)
  simp only [Act.put, List.setIfInBounds_toArray, List.set_cons_zero, List.set_cons_succ]
  refine held.wpLeft.take (i := 3) (v := ?_) rfl (by kernel_rfl) (by kernel_rfl) (by kernel_rfl) (by kernel_rfl) (by kernel_rfl) (fun _ _ _ h => h) (by rfl) ?_ hS7 ?_
  rotate_left
  · (intro w hSw; obtain ⟨s0, s1, s2, s3, s4, s5, s6⟩ := hSw; go_simp; try with_reducible rfl)
  simp only [Act.put, List.setIfInBounds_toArray, List.set_cons_zero, List.set_cons_succ]
  refine held.wpLeft.take (i := 4) (v := ?_) rfl (by kernel_rfl) (by kernel_rfl) (by kernel_rfl) (by kernel_rfl) (by kernel_rfl) (fun _ _ _ h => h) (by rfl) ?_ hS7 ?_
  rotate_left
  · (intro w hSw; obtain ⟨s0, s1, s2, s3, s4, s5, s6⟩ := hSw; go_simp; try with_reducible rfl)
  simp only [Act.put, List.setIfInBounds_toArray, List.set_cons_zero, List.set_cons_succ]
  refine held.wpLeft.take (i := 5) (v := ?_) rfl (by kernel_rfl) (by kernel_rfl) (by kernel_rfl) (by kernel_rfl) (by kernel_rfl) (fun _ _ _ h => h) (by rfl) ?_ hS7 ?_
  rotate_left
  · (intro w hSw; obtain ⟨s0, s1, s2, s3, s4, s5, s6⟩ := hSw; go_simp; try with_reducible rfl)
  simp only [Act.put, List.setIfInBounds_toArray, List.set_cons_zero, List.set_cons_succ]
  have hbd : Below w1.heap.size w1 (w1.drew.alloc (.cells #[.int .i64 7, .int .i64 0, .string ⟨#[]⟩, .slice none 0 0, .slice none 0 0, (.map (some (fb + 1)))] 109)) := ((Below.refl _ _).drew).alloc (Nat.le_refl _) _
  have hSA : (w1.drew.alloc (.cells #[.int .i64 7, .int .i64 0, .string ⟨#[]⟩, .slice none 0 0, .slice none 0 0, (.map (some (fb + 1)))] 109)).cell? ⟨rb, 3, none⟩ = some (.slice ao d co) := (hbd.cell (p := ⟨rb, 3, none⟩) hrl).trans f3
  have hXA := HX1.out.below hbd HX1.out.lt
  refine held.wpLeft.one (i := 6) (by kernel_rfl) rfl (fun K hK => ?_)
  go_simp
  refine hK.out _ _ (fun _ => ⟨hSA, hXA.cell 0, hXA.cell 1, hXA.cell 2, hXA.cell 3, hXA.cell 4, hXA.cell 5⟩) ?_
  clear hK K
  refine held.wpLeft.one (i := 7) (by kernel_rfl) rfl (fun K2 hK2 => ?_)
  refine step_append_lies _ (by rfl) (.tmp 24) (.tmp 26) 57 (by rfl) B 109 i0 _ 6 88 Tryd.underlying57 hi hz0 hz1 hz2 rfl (by omega) (.slice ao d co) d (ocells fr F d) (by rfl) ((HOK.out.drew).alloc _) ⟨w1.heap.size, 0, none⟩ 1 1 [.int .i64 7, .int .i64 0, .string ⟨#[]⟩, .slice none 0 0, .slice none 0 0, (.map (some (fb + 1)))] (by rfl) (by rfl) (World.news_of_block (cs := #[.int .i64 7, .int .i64 0, .string ⟨#[]⟩, .slice none 0 0, .slice none 0 0, (.map (some (fb + 1)))]) (t := 109) (fr := (0, 0)) (heap_alloc_new w1.drew _)) (by simp [Value.oneCell']) (by omega) (by unfold maxLen; omega) (by omega) (by have := HM1.out.hB.2; simp; omega) (w1.heap.size + 1) (by simp) ?_
  intro g7 cap7 w7 hown7 hgrow7 hat7 hlt7
  have hneR : ∀ c, (Value.slice ao d co).ownBlock = some c → B ≤ c := fun c hc => (HOK.out.lt c hc).1
  have hrow7 : (Value.slice ao d co).ownBlock ≠ some rb := fun e => by have := hneR rb e; omega
  have hR7 := (HM1.out.obj.below hbd hrl).kept hgrow7 hrow7
  rw [HOV.out] at hR7
  have m3 := hR7.cell 3
  simp only [List.getElem?_cons_zero, List.getElem?_cons_succ] at m3
  have z3 := hR7.frozen 3
  have hfbO : (Value.slice ao d co).ownBlock ≠ some fb := fun e => HFB.out .opn (by rw [show (F .opn).blk = (Value.slice ao d co).ownBlock from by have := HOV.out; rw [← this]; obtain ⟨v, hv⟩ := HM1.out.opn; rw [hv]; rfl]; exact e)
  have hX7 := hXA.kept hgrow7 hfbO
  refine hK2.out _ _ (fun _ => ⟨m3, hX7.cell 0, hX7.cell 1, hX7.cell 2, hX7.cell 3, hX7.cell 4, hX7.cell 5⟩) ?_
  clear hK2 K2
  refine held.wpLeft.one (i := 8) (by kernel_rfl) rfl (fun K4 hK4 => ?_)
  go_simp
  refine hK4.out _ _ (fun _ => ⟨m3, hX7.cell 0, hX7.cell 1, hX7.cell 2, hX7.cell 3, hX7.cell 4, hX7.cell 5⟩) ?_
  clear hK4 K4
  refine held.wpLeft.one (i := 9) (by kernel_rfl) rfl (fun K5 hK5 => ?_)
  go_simp
  refine hK5.out _ _ (fun _ => ⟨m3, hX7.cell 0, hX7.cell 1, hX7.cell 2, hX7.cell 3, hX7.cell 4, hX7.cell 5⟩) ?_
  clear hK5 K5
  refine held.wpLeft.one (i := 10) (by kernel_rfl) rfl (fun K3 hK3 => ?_)
  go_simp
  refine hK3.out _ _ (fun h => absurd rfl h) ?_
  clear hK3 K3
  refine held.wpLeft.done (by kernel_rfl) ?_
  obtain ⟨F9, hM9⟩ := jsonN.RM.push (wA := w1.drew.alloc (.cells #[.int .i64 7, .int .i64 0, .string ⟨#[]⟩, .slice none 0 0, .slice none 0 0, (.map (some (fb + 1)))] 109)) HMp.out (HBP.out.trans (hbd.mono HBP.out.size)) true (.map (fb + 1) 0 (seenD [])) (HIT.out _ (hbd.mono (Nat.le_refl _))) (.inr ⟨fb + 1, rfl, by rw [HSZ.out]; omega⟩) ⟨fun _ => ⟨_, rfl⟩, fun e => (by cases e)⟩ hown7 (by rw [HOV.out]; exact hgrow7) (by
    rw [HOV.out]
    rcases hat7 with e | e
    · exact .inl e.symm
    · exact .inr ⟨g7, rfl, by rw [e]; simp⟩)
  have hN9 := ((HNp.out.trans (Near.below (rb := rb) (HBP.out.mono HMp.out.hB.2))).trans (Near.below (rb := rb) (hbd.mono HM1.out.hB.2))).trans (Near.grown (rb := rb) hgrow7 (by have := HM1.out.hB.2; simp; omega) (fun c hc => .inl (hneR c hc)))
  have HF := Lib.hid (show EnP B rb s p n d (updN fr d ⟨true, [], []⟩) P w (.returned (.tuple #[])) (w7.setCell ⟨rb, 3, none⟩ (.slice (some ⟨g7, 0, none⟩) (d + 1) cap7)) from ⟨rfl, F9, hM9, hN9.set 3 _⟩)
  clear hM9 hN9 hown7 hgrow7
  go_wp2
  go_end0
  exact HF.out

end Go.Proofs.YtdbidkfjbhclcaaDoor.jsonC
