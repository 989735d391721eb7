/-
  Contract of json.Parse.
-/
import Derived.Test.YtdbidkfjbhclcaaDoorJsonK
namespace Go.Proofs.YtdbidkfjbhclcaaDoor.jsonL
open Go.ChangeShapes Go.WideShapes Go.ChangeAt Go.RowKit Go.WideMaps Go.Maps nodeP nodeQ nodeS ownI jsonP jsonM jsonN jsonO jsonA jsonB jsonC jsonD errs errIs runesE quoteB jsonF jsonG jsonH jsonI jsonK jsonQ
set_option linter.unusedSimpArgs false
set_option linter.unusedVariables false

theorem gl_low {w : World} {ad : Nat → Addr} (h : Ej w ad) : ∀ k, k < 5 → gl.getD k 0 < w.heap.size := fun k hk => World.block_lt_of_cell? w _ (h.glob k hk)

set_option maxRecDepth 100000 in
/-- an empty reader's memory -/
theorem rm_start {w : World} {B rb : Nat} {s : ByteArray} (hR : Whole w rb 59 [.string s, .int .i64 0, .int .i64 0, .slice none 0 0]) (h1 : rb < B) (h2 : B ≤ w.heap.size) (fr : Nat → Fr) :
    ∃ F, RM w B rb s 0 0 0 fr F (fun _ => False) := by
  refine ⟨fun k => match k with
    | .opn => .row 109 6 (.slice none 0 0) 0 []
    | .keys _ => nilK
    | .kids _ => nilC
    | .seen _ => .nomap, ⟨fun k => ?_, fun j k b hj => ?_⟩, ⟨h1, h2⟩, hR, ⟨_, rfl⟩, fun i hi => absurd hi (Nat.not_lt_zero _), fun i hi => absurd hi (Nat.not_lt_zero _), fun i hi => absurd hi (Nat.not_lt_zero _), fun i _ => ⟨rfl, rfl, rfl⟩, fun b hb => hb.elim, fun i hi => absurd hi (Nat.not_lt_zero _)⟩
  · cases k
    · exact ⟨rfl, .inl ⟨rfl, rfl⟩⟩
    · exact ⟨rfl, .inl ⟨rfl, rfl⟩⟩
    · exact ⟨rfl, .inl ⟨rfl, rfl⟩⟩
    · exact trivial
  · cases j <;> cases hj

/-- a text's value, and its error's number -/
noncomputable def pOut (l : List UInt8) : Nd × Nat := if 100000 < l.length then (word 0, 3) else match parseJ l with
  | .ok x => (x, 0)
  | .err k => (word 0, k)

/-- what Parse leaves -/
def PaP (ad : Nat → Addr) (q : Nd × Nat) (w : World) (e : Ending) (w' : World) : Prop := ∃ v : Nv, e = .returned (.tuple #[.agg #[.int .i64 v.k, .int .i64 v.m, .string v.t, .slice v.a1 v.n1 v.c1, .slice v.a2 v.n2 v.c2], intsC.errV ad q.2]) ∧ Below w.heap.size w w' ∧ NodeAt w' w'.heap.size q.1 v.l
theorem zero_at (w : World) (B : Nat) : NodeAt w B (word 0) zN.l :=
  .mk 0 0 ByteArray.empty [] [] _ none 0 0 0 (fun _ => []) ⟨by unfold In64; omega, by unfold In64; omega, Nat.zero_le _⟩ ⟨none, 0, 0, 0, rfl, ⟨Nat.zero_le _, Nat.zero_le _⟩, fun h => absurd rfl h, fun i hi => absurd hi (Nat.not_lt_zero _), by simp⟩ (Nat.zero_le _) (fun h => absurd rfl h) (fun i hi => absurd hi (Nat.not_lt_zero _)) (fun i hi => absurd hi (Nat.not_lt_zero _))

/-- read, from the beginning -/
theorem read_any (w0 w : World) (ad : Nat → Addr) (rb : Nat) (s : ByteArray) (hG : Glb w0 w ad rb) (hrb : rb < w.heap.size) (hR : Whole w rb 59 [.string s, .int .i64 0, .int .i64 0, .slice none 0 0]) (hs : s.size ≤ 1000000) :
    Calls Tryd.prog 24 #[.pointer (some ⟨rb, 0, none⟩)] w (ReP ⟨w0, w, w.heap.size, w.heap.size + 2, rb, w.heap.size, w.heap.size + 1, ad, s, parseJ s.data.toList⟩) := by
  refine read_scope ⟨w0, w, w.heap.size, w.heap.size + 2, rb, w.heap.size, w.heap.size + 1, ad, s, parseJ s.data.toList⟩ ⟨hG, hrb, ⟨Nat.le_refl _, by show w.heap.size < w.heap.size + 2; omega⟩, ⟨by show w.heap.size ≤ w.heap.size + 1; omega, by show w.heap.size + 1 < w.heap.size + 2; omega⟩, by show w.heap.size ≠ w.heap.size + 1; omega, hs, gl_low hG.err⟩ rfl rfl ?_
  intro a hF
  have b1 : Below w.heap.size w (w.alloc (.cells #[.int .i64 0, .int .i64 0, .string ⟨#[]⟩, .slice none 0 0, .slice none 0 0] 26)) := (Below.refl _ _).alloc (Nat.le_refl _) _
  have b2 : Below (w.alloc (.cells #[.int .i64 0, .int .i64 0, .string ⟨#[]⟩, .slice none 0 0, .slice none 0 0] 26)).heap.size (w.alloc (.cells #[.int .i64 0, .int .i64 0, .string ⟨#[]⟩, .slice none 0 0, .slice none 0 0] 26)) ((w.alloc (.cells #[.int .i64 0, .int .i64 0, .string ⟨#[]⟩, .slice none 0 0, .slice none 0 0] 26)).alloc (.cells #[.int .i64 0, .int .i64 0, .string ⟨#[]⟩, .slice none 0 0, .slice none 0 0] 26)) := (Below.refl _ _).alloc (Nat.le_refl _) _
  have n0 := Whole.new w 26 [.int .i64 0, .int .i64 0, .string ⟨#[]⟩, .slice none 0 0, .slice none 0 0]
  have n1 := Whole.new (w.alloc (.cells #[.int .i64 0, .int .i64 0, .string ⟨#[]⟩, .slice none 0 0, .slice none 0 0] 26)) 26 [.int .i64 0, .int .i64 0, .string ⟨#[]⟩, .slice none 0 0, .slice none 0 0]
  have hsz : (w.alloc (.cells #[.int .i64 0, .int .i64 0, .string ⟨#[]⟩, .slice none 0 0, .slice none 0 0] 26)).heap.size = w.heap.size + 1 := by simp
  rw [hsz] at n1
  have hsz2 : ((w.alloc (.cells #[.int .i64 0, .int .i64 0, .string ⟨#[]⟩, .slice none 0 0, .slice none 0 0] 26)).alloc (.cells #[.int .i64 0, .int .i64 0, .string ⟨#[]⟩, .slice none 0 0, .slice none 0 0] 26)).heap.size = w.heap.size + 2 := by simp
  have hR1 := hR.below b1 hR.lt
  have hR2 := hR1.below b2 hR1.lt
  have n0' : Whole (w.alloc (.cells #[.int .i64 0, .int .i64 0, .string ⟨#[]⟩, .slice none 0 0, .slice none 0 0] 26)) w.heap.size 26 [.int .i64 0, .int .i64 0, .string ⟨#[]⟩, .slice none 0 0, .slice none 0 0] := n0
  have n0'' := n0'.below b2 n0'.lt
  obtain ⟨F, hM⟩ := rm_start (B := w.heap.size + 2) hR2 (by omega) (by rw [hsz2]; omega) (fun _ => ⟨false, [], []⟩)
  refine ⟨hF, 0, 0, 0, _, F, _, zN, hM, ?_, n0'', n1, Nat.zero_le _, by omega, by omega, fun i hi => absurd hi (Nat.not_lt_zero _), ?_⟩
  · exact (Near.below b1).trans (Near.below (b2.mono (by rw [hsz]; exact Nat.le_succ _)))
  · exact runs s.data.toList

set_option maxRecDepth 100000 in
set_option maxHeartbeats 4000000 in
theorem parse_any (s : ByteArray) (w : World) (ad : Nat → Addr) (hT : Tabs w) (hE : Ej w ad) (hR : intsC.Rng w) (hs : (s.size : Int) ≤ 1000000) :
    Calls Tryd.prog 15 #[.string s] w (PaP ad (pOut s.data.toList) w) := by
  have hlen : s.data.toList.length = s.size := by rw [Array.length_toList, ByteArray.size_data]
  have hE0 := Lib.hid hE
  have hgl := gl_low hE 2 (by decide)
  by_cases hl : 100000 < s.size
  · have HQ : Hid (pOut s.data.toList = (word 0, 3)) := Lib.hid (by unfold pOut; rw [if_pos (by rw [hlen]; exact hl)])
    have hlI : (100000 : Int) < (s.size : Int) := by omega
    have hsy : w.cell? ⟨4, 0, none⟩ = some (ev (ad 2)) := hE.glob 2 (by decide)
    have hbg : w.heap.size ≠ 4 := by intro e; rw [e] at hgl; exact absurd hgl (by show ¬ 4 < 4; omega)
    have hgb : ¬ (4 = w.heap.size) := fun e => hbg e.symm
    have hba : Below w.heap.size w (w.alloc (.cells #[.int .i64 0, .int .i64 0, .string ⟨#[]⟩, .slice none 0 0, .slice none 0 0] 26)) := (Below.refl _ _).alloc (Nat.le_refl _) _
    have HW1 := Lib.hid (Whole.new w 26 [.int .i64 0, .int .i64 0, .string ⟨#[]⟩, .slice none 0 0, .slice none 0 0])
    change Hid (Whole (w.alloc (.cells #[.int .i64 0, .int .i64 0, .string ⟨#[]⟩, .slice none 0 0, .slice none 0 0] 26)) _ _ _) at HW1
    have hsy' := (hba.cell (p := ⟨4, 0, none⟩) hgl).trans hsy
    have HBA := Lib.hid hba
    clear hT hE hR hlen hgl hl hba hsy
    go_enter Tryd.func15, Tryd.ntmps15
    go_wp2
    generalize w.alloc (.cells #[.int .i64 0, .int .i64 0, .string ⟨#[]⟩, .slice none 0 0, .slice none 0 0] 26) = w1 at *
    generalize hb0 : w.heap.size = b0 at *
    have c0 := HW1.out.cell 0
    have c1 := HW1.out.cell 1
    have c2 := HW1.out.cell 2
    have c3 := HW1.out.cell 3
    have c4 := HW1.out.cell 4
    simp only [List.getElem?_cons_zero, List.getElem?_cons_succ] at c0 c1 c2 c3 c4
    have y0 := HW1.out.frozen 0
    have y1 := HW1.out.frozen 1
    have y2 := HW1.out.frozen 2
    have y3 := HW1.out.frozen 3
    have y4 := HW1.out.frozen 4
    have HB0 := Lib.hid hb0
    clear hb0
    go_region
    go_wp2
    have hW5 := drew_whole (set5_whole HW1.out (.int .i64 0) (.int .i64 0) (.string ⟨#[]⟩) (.slice none 0 0) (.slice none 0 0))
    have hB5 : Below b0 w ((((((w1.setCell ⟨b0, 0, none⟩ (.int .i64 0)).setCell ⟨b0, 1, none⟩ (.int .i64 0)).setCell ⟨b0, 2, none⟩ (.string ⟨#[]⟩)).setCell ⟨b0, 3, none⟩ (.slice none 0 0)).setCell ⟨b0, 4, none⟩ (.slice none 0 0)).drew) := (((((HBA.out.setCell (Nat.le_refl _) _).setCell (Nat.le_refl _) _).setCell (Nat.le_refl _) _).setCell (Nat.le_refl _) _).setCell (Nat.le_refl _) _).drew
    generalize (((((w1.setCell ⟨b0, 0, none⟩ (.int .i64 0)).setCell ⟨b0, 1, none⟩ (.int .i64 0)).setCell ⟨b0, 2, none⟩ (.string ⟨#[]⟩)).setCell ⟨b0, 3, none⟩ (.slice none 0 0)).setCell ⟨b0, 4, none⟩ (.slice none 0 0)).drew = w9 at *
    obtain ⟨k0, k1, k2, k3, k4⟩ := whole5 hW5
    refine bodyPost_ret (v := .tuple #[.agg #[.int .i64 0, .int .i64 0, .string ⟨#[]⟩, .slice none 0 0, .slice none 0 0], ev (ad 2)]) (by simp [results, Tryd.results15, go_sem, k0, k1, k2, k3, k4]) rfl ?_
    refine ⟨zN, by rw [HQ.out]; rfl, by rw [HB0.out]; exact hB5, by rw [HQ.out]; exact zero_at _ _⟩
  · have HQ : Hid (pOut s.data.toList = match parseJ s.data.toList with
      | .ok x => (x, 0)
      | .err k => (word 0, k)) := Lib.hid (by unfold pOut; rw [if_neg (by rw [hlen]; exact hl)])
    have hlI : ¬ ((100000 : Int) < (s.size : Int)) := by omega
    have HT := Lib.hid hT
    have HR := Lib.hid hR
    have HSN : Hid (s.size ≤ 1000000) := Lib.hid (by omega)
    have b1 : Below w.heap.size w (w.alloc (.cells #[.int .i64 0, .int .i64 0, .string ⟨#[]⟩, .slice none 0 0, .slice none 0 0] 26)) := (Below.refl _ _).alloc (Nat.le_refl _) _
    have b2 : Below w.heap.size w ((w.alloc (.cells #[.int .i64 0, .int .i64 0, .string ⟨#[]⟩, .slice none 0 0, .slice none 0 0] 26)).alloc (.cells #[.string s, .int .i64 0, .int .i64 0, .slice none 0 0] 59)) := b1.alloc (by simp) _
    have hb21 : Below (w.alloc (.cells #[.int .i64 0, .int .i64 0, .string ⟨#[]⟩, .slice none 0 0, .slice none 0 0] 26)).heap.size (w.alloc (.cells #[.int .i64 0, .int .i64 0, .string ⟨#[]⟩, .slice none 0 0, .slice none 0 0] 26)) ((w.alloc (.cells #[.int .i64 0, .int .i64 0, .string ⟨#[]⟩, .slice none 0 0, .slice none 0 0] 26)).alloc (.cells #[.string s, .int .i64 0, .int .i64 0, .slice none 0 0] 59)) := (Below.refl _ _).alloc (Nat.le_refl _) _
    have n0 := Whole.new w 26 [.int .i64 0, .int .i64 0, .string ⟨#[]⟩, .slice none 0 0, .slice none 0 0]
    have n0' : Whole (w.alloc (.cells #[.int .i64 0, .int .i64 0, .string ⟨#[]⟩, .slice none 0 0, .slice none 0 0] 26)) w.heap.size 26 [.int .i64 0, .int .i64 0, .string ⟨#[]⟩, .slice none 0 0, .slice none 0 0] := n0
    have n0'' := n0'.below hb21 n0'.lt
    have n1 := Whole.new (w.alloc (.cells #[.int .i64 0, .int .i64 0, .string ⟨#[]⟩, .slice none 0 0, .slice none 0 0] 26)) 59 [.string s, .int .i64 0, .int .i64 0, .slice none 0 0]
    rw [show (w.alloc (.cells #[.int .i64 0, .int .i64 0, .string ⟨#[]⟩, .slice none 0 0, .slice none 0 0] 26)).heap.size = w.heap.size + 1 from by simp] at n1
    have n1' : Whole ((w.alloc (.cells #[.int .i64 0, .int .i64 0, .string ⟨#[]⟩, .slice none 0 0, .slice none 0 0] 26)).alloc (.cells #[.string s, .int .i64 0, .int .i64 0, .slice none 0 0] 59)) (w.heap.size + 1) 59 [.string s, .int .i64 0, .int .i64 0, .slice none 0 0] := n1
    have hsz : ((w.alloc (.cells #[.int .i64 0, .int .i64 0, .string ⟨#[]⟩, .slice none 0 0, .slice none 0 0] 26)).alloc (.cells #[.string s, .int .i64 0, .int .i64 0, .slice none 0 0] 59)).heap.size = w.heap.size + 2 := by simp
    have HN0 := Lib.hid n0''
    have HB2 := Lib.hid b2
    have HSZ := Lib.hid hsz
    have HRD := Lib.hid (read_any w ((w.alloc (.cells #[.int .i64 0, .int .i64 0, .string ⟨#[]⟩, .slice none 0 0, .slice none 0 0] 26)).alloc (.cells #[.string s, .int .i64 0, .int .i64 0, .slice none 0 0] 59)) ad (w.heap.size + 1) s ⟨hT, hE, hR, Nat.le_succ _, b2⟩ (by rw [hsz]; omega) n1' (by omega))
    clear hT hE hR hlen hgl hl b1 b2 hb21 n0 n0' n0'' n1 n1' hsz
    go_enter Tryd.func15, Tryd.ntmps15
    go_wp2_with fail
    refine HRD.out.mono ?_
    generalize (w.alloc (.cells #[.int .i64 0, .int .i64 0, .string ⟨#[]⟩, .slice none 0 0, .slice none 0 0] 26)).alloc (.cells #[.string s, .int .i64 0, .int .i64 0, .slice none 0 0] 59) = wC at *
    rintro e w2 ⟨⟨k, m, t, a1, n1, c1, a2, n2, c2⟩, er, he, hN, hres⟩
    have HN2 : Hid (Near wC.heap.size (w.heap.size + 1) wC w2) := Lib.hid hN
    have HRS := Lib.hid hres
    have hne2 : w.heap.size < w2.heap.size := by have h1 := HN2.out.size; have h2 := HSZ.out; omega
    have HR2 := Lib.hid (near_whole HN2.out HN0.out (by have := HSZ.out; omega) (by omega))
    have HBW : Hid (Below w.heap.size w w2) := Lib.hid (by
      have h1 : Below w.heap.size wC w2 := ⟨HN2.out.os, HN2.out.tape, HN2.out.output, HN2.out.size, fun b hb => HN2.out.block b (by have := HSZ.out; omega) (by omega)⟩
      exact HB2.out.trans h1)
    have hb03 : w.heap.size ≠ w2.heap.size := by omega
    have a0' := HR2.out.cell 0
    have a1' := HR2.out.cell 1
    have a2' := HR2.out.cell 2
    have a3' := HR2.out.cell 3
    have a4' := HR2.out.cell 4
    simp only [List.getElem?_cons_zero, List.getElem?_cons_succ] at a0' a1' a2' a3' a4'
    have y0 := HR2.out.frozen 0
    have y1 := HR2.out.frozen 1
    have y2 := HR2.out.frozen 2
    have y3 := HR2.out.frozen 3
    have y4 := HR2.out.frozen 4
    clear hN hres HRD
    cases hpj : parseJ s.data.toList with
    | ok x =>
      have h1 := HRS.out
      dsimp only at h1
      rw [hpj] at h1 HQ
      obtain ⟨rfl, P, hP, hX⟩ := h1
      have HP := Lib.hid hP
      have HX2 := Lib.hid hX
      have hne := quoteB.nneqN
      rw [show intsC.errV ad 0 = .nilIface from rfl] at he
      subst he
      have HPJ := Lib.hid hpj
      clear hP hX hpj
      go_wp2
      have hW4 := set5_whole HR2.out (.int .i64 k) (.int .i64 m) (.string t) (.slice a1 n1 c1) (.slice a2 n2 c2)
      have hG4 := set5_grown w2 w.heap.size (.int .i64 k) (.int .i64 m) (.string t) (.slice a1 n1 c1) (.slice a2 n2 c2)
      have hB4 : Below w.heap.size w (((((w2.setCell ⟨w.heap.size, 0, none⟩ (.int .i64 k)).setCell ⟨w.heap.size, 1, none⟩ (.int .i64 m)).setCell ⟨w.heap.size, 2, none⟩ (.string t)).setCell ⟨w.heap.size, 3, none⟩ (.slice a1 n1 c1)).setCell ⟨w.heap.size, 4, none⟩ (.slice a2 n2 c2)) := ((((HBW.out.setCell (Nat.le_refl _) _).setCell (Nat.le_refl _) _).setCell (Nat.le_refl _) _).setCell (Nat.le_refl _) _).setCell (Nat.le_refl _) _
      have hX4 := HX2.out.keep (fun _ h => h) (fun b hb => hG4.block b (HP.out b hb).2 (fun e => by
        have h1 : wC.heap.size ≤ b := (HP.out b hb).1
        have h2 := HSZ.out
        have h3 := Option.some.inj e
        omega))
      have hP4 : ∀ b, P b → b < (((((w2.setCell ⟨w.heap.size, 0, none⟩ (.int .i64 k)).setCell ⟨w.heap.size, 1, none⟩ (.int .i64 m)).setCell ⟨w.heap.size, 2, none⟩ (.string t)).setCell ⟨w.heap.size, 3, none⟩ (.slice a1 n1 c1)).setCell ⟨w.heap.size, 4, none⟩ (.slice a2 n2 c2)).heap.size := fun b hb => Nat.lt_of_lt_of_le (HP.out b hb).2 hG4.size
      generalize ((((w2.setCell ⟨w.heap.size, 0, none⟩ (.int .i64 k)).setCell ⟨w.heap.size, 1, none⟩ (.int .i64 m)).setCell ⟨w.heap.size, 2, none⟩ (.string t)).setCell ⟨w.heap.size, 3, none⟩ (.slice a1 n1 c1)).setCell ⟨w.heap.size, 4, none⟩ (.slice a2 n2 c2) = w4 at *
      have hba : Below w4.heap.size w4 (w4.alloc (.cells #[.int .i64 k, .int .i64 m, .string t, .slice a1 n1 c1, .slice a2 n2 c2] 26)) := (Below.refl _ _).alloc (Nat.le_refl _) _
      have hW5 := hW4.below hba hW4.lt
      have hB5 := hB4.trans (hba.mono hB4.size)
      have hX5 := hX4.keep (fun _ h => h) (fun b hb => hba.block b (hP4 b hb))
      have hP5 := fun b hb => Nat.lt_of_lt_of_le (hP4 b hb) hba.size
      generalize w4.alloc (.cells #[.int .i64 k, .int .i64 m, .string t, .slice a1 n1 c1, .slice a2 n2 c2] 26) = w9 at *
      obtain ⟨k0, k1, k2, k3, k4⟩ := whole5 hW5
      refine bodyPost_ret (v := .tuple #[.agg #[.int .i64 k, .int .i64 m, .string t, .slice a1 n1 c1, .slice a2 n2 c2], .nilIface]) (by simp [results, Tryd.results15, go_sem, k0, k1, k2, k3, k4]) rfl ?_
      refine ⟨⟨k, m, t, a1, n1, c1, a2, n2, c2⟩, by rw [HQ.out]; rfl, hB5, by rw [HQ.out]; exact hX5.at hP5⟩
    | err j =>
      have h1 := HRS.out
      dsimp only at h1
      rw [hpj] at h1 HQ
      have h1' : er = j := h1
      subst h1'
      have hj := jsonT.parse_err hpj
      have e0 : intsC.errV ad er = ev (ad (er - 1)) := by unfold intsC.errV; rw [if_neg (by omega)]
      rw [e0] at he
      subst he
      have hne := quoteB.nneqE (ad (er - 1))
      have HE0 := Lib.hid e0
      clear hj hpj e0 h1
      go_wp2
      have hW4 := set5_whole HR2.out (.int .i64 0) (.int .i64 0) (.string ⟨#[]⟩) (.slice none 0 0) (.slice none 0 0)
      have hG4 := set5_grown w2 w.heap.size (.int .i64 0) (.int .i64 0) (.string ⟨#[]⟩) (.slice none 0 0) (.slice none 0 0)
      have hB4 : Below w.heap.size w (((((w2.setCell ⟨w.heap.size, 0, none⟩ (.int .i64 0)).setCell ⟨w.heap.size, 1, none⟩ (.int .i64 0)).setCell ⟨w.heap.size, 2, none⟩ (.string ⟨#[]⟩)).setCell ⟨w.heap.size, 3, none⟩ (.slice none 0 0)).setCell ⟨w.heap.size, 4, none⟩ (.slice none 0 0)) := ((((HBW.out.setCell (Nat.le_refl _) _).setCell (Nat.le_refl _) _).setCell (Nat.le_refl _) _).setCell (Nat.le_refl _) _).setCell (Nat.le_refl _) _
      generalize ((((w2.setCell ⟨w.heap.size, 0, none⟩ (.int .i64 0)).setCell ⟨w.heap.size, 1, none⟩ (.int .i64 0)).setCell ⟨w.heap.size, 2, none⟩ (.string ⟨#[]⟩)).setCell ⟨w.heap.size, 3, none⟩ (.slice none 0 0)).setCell ⟨w.heap.size, 4, none⟩ (.slice none 0 0) = w4 at *
      have hba : Below w4.heap.size w4 (w4.alloc (.cells #[.int .i64 k, .int .i64 m, .string t, .slice a1 n1 c1, .slice a2 n2 c2] 26)) := (Below.refl _ _).alloc (Nat.le_refl _) _
      have hW5 := hW4.below hba hW4.lt
      have hB5 := hB4.trans (hba.mono hB4.size)
      generalize w4.alloc (.cells #[.int .i64 k, .int .i64 m, .string t, .slice a1 n1 c1, .slice a2 n2 c2] 26) = w9 at *
      obtain ⟨k0, k1, k2, k3, k4⟩ := whole5 hW5
      refine bodyPost_ret (v := .tuple #[.agg #[.int .i64 0, .int .i64 0, .string ⟨#[]⟩, .slice none 0 0, .slice none 0 0], ev (ad (er - 1))]) (by simp [results, Tryd.results15, go_sem, k0, k1, k2, k3, k4]) rfl ?_
      refine ⟨zN, by rw [HQ.out, HE0.out]; rfl, hB5, by rw [HQ.out]; exact zero_at _ _⟩
end Go.Proofs.YtdbidkfjbhclcaaDoor.jsonL
