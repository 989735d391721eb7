/-
  Contracts of clauseOf at no code; of (*search).refuted.
  Contract of (*search).found.
-/
import Derived.Test.YtojjjndhabjhdaaDoorFfM
import Derived.Test.YtojjjndhabjhdaaDoorSatCd
import Derived.Test.YtojjjndhabjhdaaDoorFeM
namespace Go.Proofs.YtojjjndhabjhdaaDoor.satCe
set_option linter.unusedSimpArgs false
set_option linter.unusedVariables false
open Go.ChangeShapes Go.WideShapes Go.ChangeAt Go.RowKit proofP proofQ owns cls satP satQ satR satS satA satF satB satC satD satE satG satH satI satJ satK satM satN satU satV satO satW satX satY satCd
attribute [local go_sem ↓] Go.wp_at_zero Go.wp_at_succ

set_option maxRecDepth 100000 in
theorem clauseOf_none (w : World) (a : Option Addr) (cap : Nat) :
    Calls Tryd.prog 50 #[.slice a 0 cap] w fun e w' => ∃ v, e = .returned v ∧ w'.ownsRow w.heap.size 3 1 v 0 [] ∧ Below w.heap.size w w' := by
  have HCL : Hid (Calls Tryd.prog 16 #[.slice a 0 cap] w fun e w' => ∃ a' cap', e = .returned (.slice a' 0 cap') ∧ Below w.heap.size w w') := Lib.hid (by
    cases a with
    | none => exact (Tryd.slices_Clone_int_nil 0 cap w).mono (by rintro e w' ⟨rfl, rfl⟩; exact ⟨none, 0, rfl, Below.refl _ _⟩)
    | some a => exact (Tryd.slices_Clone_int_zero a cap w).mono (by
        rintro e w' ⟨v', rfl, hown, _, hb⟩
        rcases hown.2 with ⟨hv, _⟩ | ⟨g, c2, cur, hv, _⟩
        · exact ⟨none, 0, by rw [hv], hb⟩
        · exact ⟨_, c2, by rw [hv], hb⟩))
  obtain ⟨i0, hi, hz0, hz1, hz2⟩ := info_parts infoI
  go_enter Tryd.func50, Tryd.ntmps50
  go_wp2_with fail
  refine HCL.out.mono ?_
  rintro e w1 ⟨a', cap', rfl, hb1⟩
  have HB1 := Lib.hid hb1
  have hsz1 := hb1.size
  clear hb1 HCL
  go_wp2_with (first | (go_at_call 17; refine (Tryd.slices_Sort_int_none _ _ _).mono ?_; rintro e w' ⟨rfl, rfl⟩) | (at_make; refine wpList_make_own _ rfl _ _ 41 rfl w.heap.size 3 i0 (.int .i64 0) 1 Tryd.underlying41 hi hz0 hz1 .i64 .i64 _ 0 rfl rfl rfl ?c1 ?c2 ?c3 ?_))
  case c1 => rw [hz2]; omega
  case c2 => unfold maxLen; omega
  case c3 => exact hsz1
  intro w3 hown3 hgrow3
  have HO3 := Lib.hid hown3
  have HB3 := Lib.hid (HB1.out.grown hgrow3 hsz1 (by intro k hk; cases hk))
  clear hown3 hgrow3
  go_wp2
  go_loopw [4, 16] (fun v it wr => it = .int .i64 0 ∧ wr.ownsRow w.heap.size 3 1 v 0 [] ∧ Below w.heap.size w wr ∧ (∃ ao n cap, v = .slice ao n cap)) (fun _ it _ => 0)
  case atStart => exact ⟨rfl, HO3.out, HB3.out, _, _, _, rfl⟩
  case round =>
    obtain ⟨rfl, hown, hb, av, nv, cpv, rfl⟩ := hrel
    have HO := Lib.hid hown
    have HB := Lib.hid hb
    clear HO3 HB3 hown hb
    go_wp2
    go_ret
    exact ⟨_, rfl, HO.out, HB.out⟩
theorem srt_nil : clz [] = [] := by unfold clz srt; simp
/-- .. at codes of a row of the call's own -/
theorem clauseOf_own {w : World} {B : Nat} {e : TypeId} {v : Value} {ks : List Nat} (h : w.ownsRow B e 1 v ks.length (ks.map iv)) (hl : ks.length ≤ 100000) (hr : ∀ c, c ∈ ks → c < 1000000) :
    Calls Tryd.prog 50 #[v] w fun e w' => ∃ v, e = .returned v ∧ w'.ownsRow w.heap.size 3 1 v (clz ks).length ((clz ks).map (Value.int .i64)) ∧ Below w.heap.size w w' := by
  by_cases h0 : ks.length = 0
  · obtain rfl : ks = [] := List.length_eq_zero_iff.1 h0
    obtain ⟨a, cap, rfl⟩ : ∃ a cap, v = .slice a 0 cap := by
      rcases h.2 with ⟨hv, _⟩ | ⟨g, c2, cur, hv, _⟩
      · exact ⟨none, 0, hv⟩
      · exact ⟨_, c2, hv⟩
    rw [srt_nil]
    exact clauseOf_none w a cap
  · obtain ⟨g, cap, rfl, _, _, _, _⟩ := own_form h (by omega)
    exact clauseOf_any w g cap ks (by omega) hl (fun j hj => by
      rw [h.cellAt j (by omega), getD_iv hj]) hr
theorem own_ints {w : World} {B : Nat} {e : TypeId} {v : Value} {ks : List Nat} (h : w.ownsRow B e 1 v ks.length (ks.map iv)) (hr : ∀ c, c ∈ ks → c < 1000000) : IntsAt w w.heap.size v (ks.map fun x : Nat => (x : Int)) :=
  IntsAt.ofRow (l := ks.map fun x : Nat => (x : Int)) (by rw [List.length_map, List.map_map]; exact h) (fun x hx => by
    obtain ⟨c, hc, rfl⟩ := List.mem_map.1 hx
    have := hr c hc
    unfold In64; omega)
section
variable {w w' : World} {B bp : Nat} {s : SS} {F : Ix → Ent}
def _root_.Go.Proofs.YtojjjndhabjhdaaDoor.satA.SS.lgs (s : SS) (n : Nat) (lg : Nat → List Int) : SS := { s with logn := n, lg := lg }
/-- a clause of its own is taken in, behind the log -/
theorem _root_.Go.Proofs.YtojjjndhabjhdaaDoor.satA.Mem.addLit (h : Mem w B bp s F) {v : Value} {l : List Int} (hb : Below w.heap.size w w') (hr : w'.ownsRow w.heap.size 3 1 v l.length (l.map zv)) :
    ∃ F', Mem w' B bp (s.lgs s.logn (updN s.lg s.logn l)) F' ∧ (F' (.lit s.logn)).v = v ∧ ∀ k, k ≠ .lit s.logn → (F' k).v = (F k).v := by
  have h1 : Mem w B bp (s.lgs s.logn (updN s.lg s.logn [])) (upd F (.lit s.logn) ⟨ty (.lit s.logn), .slice none 0 0, []⟩) :=
    h.keep (.lit s.logn) (v' := .slice none 0 0) (xs' := []) (grown_self _ _) (World.ownsRow_nil _ _ _ _) (.inr (.inl rfl)) (by simp) rfl (by show ((updN s.lg s.logn []) s.logn).map zv = []; rw [updN_same]; rfl) (by
      intro i hi
      cases i <;> first
        | rfl
        | (show ((updN s.lg s.logn []) _).map zv = (s.lg _).map zv
           rw [updN_other _ _ (fun e => hi (by rw [e]))])
        | (refine List.map_congr_left fun i hi => fvs_other F _ ?_
           intro e; cases e; exact absurd (List.mem_range.1 hi) (Nat.lt_irrefl _))) rfl rfl rfl rfl
  refine ⟨_, h1.adopt (.lit s.logn) (v := v) (xs := l.map zv) (s' := s.lgs s.logn (updN s.lg s.logn l)) (by rw [upd_same]; rfl) hb (by rw [List.length_map]; exact hr) (by simp) rfl (by show ((updN s.lg s.logn l) s.logn).map zv = _; rw [updN_same]) (by
      intro i hi
      cases i <;> first
        | rfl
        | (show ((updN s.lg s.logn l) _).map zv = (updN s.lg s.logn [] _).map zv
           rw [updN_other _ _ (fun e => hi (by rw [e])), updN_other _ _ (fun e => hi (by rw [e]))])
        | (refine List.map_congr_left fun i hi => fvs_other _ _ ?_
           intro e; cases e; exact absurd (List.mem_range.1 hi) (Nat.lt_irrefl _))) rfl rfl rfl rfl, by rw [upd_same], fun k hk => by rw [upd_other _ _ hk, upd_other _ _ hk]⟩
/-- .. and the log grows by it -/
theorem _root_.Go.Proofs.YtojjjndhabjhdaaDoor.satA.Mem.growLog (h : Mem w B bp s F) {w1 w2 : World} {n g' cap' : Nat} {v : Value} (hn : s.logn = n) (hlv : (F (.lit n)).v = v) (hb : Below w.heap.size w w1) (hown : w2.ownsRow B 41 1 (.slice (some ⟨g', 0, none⟩) (n + 1) cap') (n + 1) (cont s (fvs F) .log ++ [v])) (hgrow : w1.grownBy w2 (F .log).v.ownBlock) (hg1 : some g' = (F .log).v.ownBlock ∨ w1.heap.size ≤ g') :
    ∃ F', Mem (w2.setCell ⟨bp, 25, none⟩ (.slice (some ⟨g', 0, none⟩) (n + 1) cap')) B bp (s.lgs (n + 1) s.lg) F' ∧ (F' .log).v = .slice (some ⟨g', 0, none⟩) (n + 1) cap' ∧ (∀ k, k ≠ .log → (F' k).v = (F k).v) ∧ Below B w (w2.setCell ⟨bp, 25, none⟩ (.slice (some ⟨g', 0, none⟩) (n + 1) cap')) := by
  subst hn
  obtain ⟨a, b⟩ := h.app .log (f := 25) (x := v) (s' := s.lgs (s.logn + 1) s.lg) hb (by simp [cont]) hown hgrow (by simp) rfl (by
    show (List.range (s.logn + 1)).map (fun i => fvs _ (.lit i)) = (List.range s.logn).map (fun i => fvs F (.lit i)) ++ [v]
    rw [List.range_succ, List.map_append, ← hlv]
    rfl) (by intro i hi; cases i <;> first | rfl | exact absurd rfl hi) rfl rfl rfl rfl hg1
  exact ⟨_, a, fvs_same F .log _, fun k hk => fvs_other _ _ hk, b⟩
end
theorem infoC : (Tryd.prog.info? 41).map (fun i => (i.zero, i.size, i.bytes)) = some (some (.slice none 0 0), 1, 24) := by kernel_rfl

theorem set5_grown (w : World) (b : Nat) (x0 x1 x2 x3 x4 : Value) : w.grownBy (((((w.setCell ⟨b, 0, none⟩ x0).setCell ⟨b, 1, none⟩ x1).setCell ⟨b, 2, none⟩ x2).setCell ⟨b, 3, none⟩ x3).setCell ⟨b, 4, none⟩ x4) (some b) := by
  have one : ∀ (w : World) (j : Nat) (x : Value), w.grownBy (w.setCell ⟨b, j, none⟩ x) (some b) := fun w j x => ⟨rfl, rfl, rfl, by simp, fun k _ hk => Below.heap_setCell _ _ _ _ (by intro e; exact hk (by rw [e]))⟩
  have tr : ∀ {w1 w2 w3 : World}, w1.grownBy w2 (some b) → w2.grownBy w3 (some b) → w1.grownBy w3 (some b) := fun h1 h2 => ⟨h2.os.trans h1.os, h2.tape.trans h1.tape, h2.output.trans h1.output, Nat.le_trans h1.size h2.size, fun k hk hne => (h2.block k (Nat.lt_of_lt_of_le hk h1.size) hne).trans (h1.block k hk hne)⟩
  exact tr (tr (tr (tr (one _ _ _) (one _ _ _)) (one _ _ _)) (one _ _ _)) (one _ _ _)
theorem set5_whole {w : World} {b : Nat} {t : TypeId} {a0 a1 a2 a3 a4 : Value} (h : Whole w b t [a0, a1, a2, a3, a4]) (x0 x1 x2 x3 x4 : Value) : Whole (((((w.setCell ⟨b, 0, none⟩ x0).setCell ⟨b, 1, none⟩ x1).setCell ⟨b, 2, none⟩ x2).setCell ⟨b, 3, none⟩ x3).setCell ⟨b, 4, none⟩ x4) b t [x0, x1, x2, x3, x4] :=
  ((((((h.set 0 x0).1.set 1 x1).1).set 2 x2).1.set 3 x3).1.set 4 x4).1
theorem whole5 {w : World} {b : Nat} {t : TypeId} {a0 a1 a2 a3 a4 : Value} (h : Whole w b t [a0, a1, a2, a3, a4]) : w.cell? ⟨b, 0, none⟩ = some a0 ∧ w.cell? ⟨b, 1, none⟩ = some a1 ∧ w.cell? ⟨b, 2, none⟩ = some a2 ∧ w.cell? ⟨b, 3, none⟩ = some a3 ∧ w.cell? ⟨b, 4, none⟩ = some a4 := ⟨h.cell 0, h.cell 1, h.cell 2, h.cell 3, h.cell 4⟩
theorem ints_zv (l : List Int) : l.map (Value.int .i64) = l.map zv := rfl
theorem gs {a b c : World} {r : Option Nat} (h : a.grownBy b r) (k : b.grownBy c r) : a.grownBy c r :=
  ⟨k.os.trans h.os, k.tape.trans h.tape, k.output.trans h.output, Nat.le_trans h.size k.size, fun i hi hne => (k.block i (Nat.lt_of_lt_of_le hi h.size) hne).trans (h.block i hi hne)⟩
theorem set_grown (w : World) (b j : Nat) (x : Value) : w.grownBy (w.setCell ⟨b, j, none⟩ x) (some b) := ⟨rfl, rfl, rfl, by simp, fun k _ hk => Below.heap_setCell _ _ _ _ (by intro e; exact hk (by rw [e]))⟩
theorem own_keep {w w' : World} {R : Nat} {e : TypeId} {v : Value} {n : Nat} {xs : List Value} {row : Option Nat} (h : w.ownsRow R e 1 v n xs) (hg : w.grownBy w' row) (hne : ∀ b, v.ownBlock = some b → row ≠ some b) : w'.ownsRow R e 1 v n xs :=
  h.kept hg (by
    cases hv : v.ownBlock with
    | none => exact .inl rfl
    | some b => exact .inr (fun hh => hne b hv hh.symm))
theorem own_slice {w : World} {B : Nat} {e : TypeId} {v : Value} {n : Nat} {xs : List Value} (h : w.ownsRow B e 1 v n xs) : ∃ a c, v = .slice a n c := by
  rcases h.2 with ⟨hv, h0⟩ | ⟨g, cap, cur, hv, _⟩
  · exact ⟨none, 0, by rw [hv, h0]⟩
  · exact ⟨_, cap, hv⟩
section
variable {w w' : World} {B bp : Nat} {s : SS} {F : Ix → Ent}
theorem _root_.Go.Proofs.YtojjjndhabjhdaaDoor.satA.Mem.logAt (h : Mem w B bp s F) : ∃ a cap, (F .log).v = .slice a s.logn cap ∧ w.cell? ⟨bp, 25, none⟩ = some (.slice a s.logn cap) := by
  obtain ⟨a, c, hv⟩ := h.own.value .log
  rw [h.xs, show (cont s (fvs F) .log).length = s.logn from by simp [cont]] at hv
  exact ⟨a, c, hv, (h.fld 25).trans (congrArg some hv)⟩
/-- a block that is not the search's is whole yet -/
theorem _root_.Go.Proofs.YtojjjndhabjhdaaDoor.satA.Mem.off (h : Mem w B bp s F) {b : Nat} (hg : w.grownBy w' (some b)) (hb : b ≠ bp) (h1 : ∀ k, (F k).v.ownBlock ≠ some b) (h2 : ∀ i, i < s.n → s.rp i ≠ b) : Mem w' B bp s F :=
  ⟨h.own.apart hg (fun k c hk e => h1 k (by rw [hk]; exact e.symm)), h.obj.kept hg (fun e => by cases e; exact hb rfl), h.hB, h.ne, h.te, h.xs, fun i hi => (h.rw i hi).kept hg (fun e => by cases e; exact h2 i hi rfl), h.rb, h.rj, h.rv⟩
/-- what a block behind a world's is -/
theorem _root_.Go.Proofs.YtojjjndhabjhdaaDoor.satA.Mem.ahead (h : Mem w B bp s F) : (∀ k b, (F k).v.ownBlock = some b → b < w.heap.size) ∧ (∀ i, i < s.n → s.rp i < w.heap.size) := ⟨fun k b hk => ((h.own.1 k).lt b hk).2, fun i hi => (h.rw i hi).lt⟩
def RfP (B bp : Nat) (s : SS) (F : Ix → Ent) (ks : List Nat) (w : World) (e : Ending) (w' : World) : Prop :=
  ∃ lv cv F', e = .returned (.agg #[.int .i64 2, .slice none 0 0, cv, lv, .int .i64 s.conflict]) ∧ Mem w' B bp (s.lgs (s.logn + 1) (updN s.lg s.logn (clz (ks.map opp)))) F' ∧ (F' .log).v = lv ∧ w'.ownsRow w.heap.size 3 1 cv (clz ks).length ((clz ks).map (Value.int .i64)) ∧ Below B w w'
set_option maxHeartbeats 4000000 in
set_option maxRecDepth 100000 in
theorem refuted_any (h : Mem w B bp s F) {e : TypeId} {v : Value} {R : Nat} {ks : List Nat} (hk : w.ownsRow R e 1 v ks.length (ks.map iv)) (hl : ks.length ≤ 50000) (hr : ∀ c, c ∈ ks → c < 100000) (hln : s.logn ≤ 1000000000) (hvk : ∀ b, v.ownBlock = some b → b ≠ bp ∧ (F .log).v.ownBlock ≠ some b) :
    Calls Tryd.prog 31 #[.pointer (some ⟨bp, 0, none⟩), v] w (RfP B bp s F ks w) := by
  have hB := h.hB
  have hbl := h.obj.lt
  obtain ⟨aL, cL, hLv, f25⟩ := h.logAt
  have hA : Below w.heap.size w (w.alloc (.cells #[.int .i64 0, .slice none 0 0, .slice none 0 0, .slice none 0 0, .int .i64 0] 26)).drew := ((Below.refl _ _).alloc (Nat.le_refl _) _).drew
  have hW0 := (Whole.new w 26 [.int .i64 0, .slice none 0 0, .slice none 0 0, .slice none 0 0, .int .i64 0]).below (Below.refl (w.heap.size + 1) _).drew (Nat.lt_succ_self _)
  change Whole (w.alloc (.cells #[.int .i64 0, .slice none 0 0, .slice none 0 0, .slice none 0 0, .int .i64 0] 26)).drew _ _ _ at hW0
  have hk1 := own_ints (hk.kept (grown_below hA none) (Classical.em _)) (fun c hc => by have := hr c hc; omega)
  have M0 := h.below hA
  have f25a : (w.alloc (.cells #[.int .i64 0, .slice none 0 0, .slice none 0 0, .slice none 0 0, .int .i64 0] 26)).drew.cell? ⟨bp, 25, none⟩ = some (.slice aL s.logn cL) := (hA.cell hbl).trans f25
  have HOPP := Lib.hid (opposites_any _ _ v ks hk1 (Nat.le_refl _) (by omega) (fun c hc => by have := hr c hc; omega))
  have HK := Lib.hid hk
  have HBA := Lib.hid hA
  have HM0 := Lib.hid M0
  have HW0 := Lib.hid hW0
  have HR := Lib.hid hr
  have HLV := Lib.hid hLv
  have HAH := Lib.hid h.ahead
  have HVK := Lib.hid hvk
  have hszA : (w.alloc (.cells #[.int .i64 0, .slice none 0 0, .slice none 0 0, .slice none 0 0, .int .i64 0] 26)).drew.heap.size = w.heap.size + 1 := by simp
  clear h hk hA M0 hW0 hr hLv hk1 hvk
  obtain ⟨i0, hi, hz0, hz1, hz2⟩ := info_parts infoC
  go_enter Tryd.func31, Tryd.ntmps31
  go_wp2_with fail
  refine held.region (fun w' => w'.cell? ⟨bp, 25, none⟩ = some (.slice aL s.logn cL)) 12 (by kernel_rfl) ?_
  generalize (w.alloc (.cells #[.int .i64 0, .slice none 0 0, .slice none 0 0, .slice none 0 0, .int .i64 0] 26)).drew = w0 at *
  generalize hrbe : w.heap.size = rb at *
  have HRB := Lib.hid hrbe
  clear hrbe
  have hbl0 : bp < w0.heap.size := by omega
  refine held.wpLeft.take (i := 0) (v := ?_) rfl (by kernel_rfl) (by kernel_rfl) (by kernel_rfl) (by kernel_rfl) (by kernel_rfl) (fun _ _ _ h => h) (by rfl) ?_ f25a ?_
  rotate_left
  · (intro w hSw; go_simp; try with_reducible rfl)
  simp only [Act.put, List.setIfInBounds_toArray, List.set_cons_zero, List.set_cons_succ]
  refine held.wpLeft.take (i := 1) (v := ?_) rfl (by kernel_rfl) (by kernel_rfl) (by kernel_rfl) (by kernel_rfl) (by kernel_rfl) (fun _ _ _ h => h) (by rfl) ?_ f25a ?_
  rotate_left
  · (intro w hSw; go_simp; try with_reducible rfl)
  simp only [Act.put, List.setIfInBounds_toArray, List.set_cons_zero, List.set_cons_succ]
  refine held.wpLeft.take (i := 2) (v := ?_) rfl (by kernel_rfl) (by kernel_rfl) (by kernel_rfl) (by kernel_rfl) (by kernel_rfl) (fun _ _ _ h => h) (by rfl) ?_ f25a ?_
  rotate_left
  · (intro w hSw; go_simp; try with_reducible rfl)
  simp only [Act.put, List.setIfInBounds_toArray, List.set_cons_zero, List.set_cons_succ]
  refine held.wpLeft.take (i := 3) (v := ?_) rfl (by kernel_rfl) (by kernel_rfl) (by kernel_rfl) (by kernel_rfl) (by kernel_rfl) (fun _ _ _ h => h) (by rfl) ?_ f25a ?_
  rotate_left
  · (intro w hSw; go_simp; try with_reducible rfl)
  simp only [Act.put, List.setIfInBounds_toArray, List.set_cons_zero, List.set_cons_succ]
  refine held.wpLeft.take (i := 4) (v := ?_) rfl (by kernel_rfl) (by kernel_rfl) (by kernel_rfl) (by kernel_rfl) (by kernel_rfl) (fun _ _ _ h => h) (by rfl) ?_ f25a ?_
  rotate_left
  · (intro w hSw; go_simp; try with_reducible rfl)
  simp only [Act.put, List.setIfInBounds_toArray, List.set_cons_zero, List.set_cons_succ]
  refine held.wpLeft.take (i := 5) (v := ?_) rfl (by kernel_rfl) (by kernel_rfl) (by kernel_rfl) (by kernel_rfl) (by kernel_rfl) (fun _ _ _ h => h) (by rfl) ?_ f25a ?_
  rotate_left
  · (intro w hSw; go_simp; try with_reducible rfl)
  simp only [Act.put, List.setIfInBounds_toArray, List.set_cons_zero, List.set_cons_succ]
  refine held.wpLeft.one (i := 6) (by kernel_rfl) rfl (fun K hK => ?_)
  go_simp
  refine HOPP.out.mono ?_
  rintro e w1 ⟨v1, rfl, hown1, hb1⟩
  have f25b := (hb1.cell (show (⟨bp, 25, none⟩ : Addr).block < _ from hbl0)).trans f25a
  refine hK.out _ _ (fun _ => f25b) ?_
  clear hK K
  have hs1 := hb1.size
  have hown1' : w1.ownsRow w0.heap.size 3 1 v1 (ks.map opp).length ((ks.map opp).map iv) := by rw [List.length_map]; exact hown1
  have HCO := Lib.hid (clauseOf_own hown1' (by rw [List.length_map]; omega) (fun c hc => by
    obtain ⟨d, hd, rfl⟩ := List.mem_map.1 hc
    have := HR.out d hd
    unfold opp; split <;> omega))
  have HB1 := Lib.hid hb1
  clear hown1 hown1' hb1 HOPP
  refine held.wpLeft.one (i := 7) (by kernel_rfl) rfl (fun K hK => ?_)
  go_simp
  refine HCO.out.mono ?_
  rintro e w2 ⟨v2, rfl, hown2, hb2⟩
  obtain ⟨a2, c2, rfl⟩ := own_slice hown2
  have f25c := (hb2.cell (show (⟨bp, 25, none⟩ : Addr).block < _ from by show bp < _; omega)).trans f25b
  refine hK.out _ _ (fun _ => f25c) ?_
  clear hK K
  have hs2 := hb2.size
  have HB2 : Hid (Below w0.heap.size w0 w2) := Lib.hid (HB1.out.trans (hb2.mono hs1))
  obtain ⟨F1, M1, V1, K1⟩ := HM0.out.addLit (l := clz (ks.map opp)) HB2.out (by rw [← ints_zv]; exact hown2.mono hs1)
  have HM1 := Lib.hid M1
  have HV1 := Lib.hid V1
  have HK1 := Lib.hid K1
  have hLv1 : (F1 .log).v = .slice aL s.logn cL := (K1 _ (by simp)).trans HLV.out
  have HLV1 := Lib.hid hLv1
  have HO := Lib.hid (M1.ownAt .log rfl)
  have hgt := M1.ne .log
  have HV2B : Hid (∀ b, (Value.slice a2 (clz (ks.map opp)).length c2).ownBlock = some b → rb < b) := Lib.hid fun b hb => by
    have := (hown2.lt b hb).1
    omega
  have HCT : Hid ((cont (s.lgs s.logn (updN s.lg s.logn (clz (ks.map opp)))) (fvs F1) .log).length = s.logn) := Lib.hid (by simp [cont, SS.lgs])
  rw [HCT.out, hLv1] at HO
  rw [hLv1] at hgt
  clear hown2 hb2 HCO M1 V1 K1 hLv1
  refine held.wpLeft.one (i := 8) (by kernel_rfl) rfl (fun K hK => ?_)
  go_simp
  have hA2 : Below w2.heap.size w2 (w2.alloc (.cells #[.slice a2 (clz (ks.map opp)).length c2] 41)) := (Below.refl _ _).alloc (Nat.le_refl _) _
  have f25d := (hA2.cell (show (⟨bp, 25, none⟩ : Addr).block < _ from by show bp < _; omega)).trans f25c
  refine hK.out _ _ (fun _ => f25d) ?_
  clear hK K
  refine held.wpLeft.one (i := 9) (by kernel_rfl) rfl (fun K hK => ?_)
  refine step_append_lies _ (by rfl) _ _ _ (by rfl) B 41 i0 _ 1 24 Tryd.underlying22 hi hz0 hz1 hz2 rfl (by omega) (.slice aL s.logn cL) s.logn (cont (s.lgs s.logn (updN s.lg s.logn (clz (ks.map opp)))) (fvs F1) .log) (by rfl) (by have := HO.out.alloc (.cells #[.slice a2 (clz (ks.map opp)).length c2] 41); exact this) ⟨w2.heap.size, 0, none⟩ 1 1 [.slice a2 (clz (ks.map opp)).length c2] (by rfl) (by rfl) (World.news_of_block (cs := #[.slice a2 (clz (ks.map opp)).length c2]) (t := 41) (fr := (0, 0)) (heap_alloc_new w2 _)) (by simp [Value.oneCell']) (by omega) (by unfold maxLen; omega) (by omega) (by simp; omega) (w2.heap.size + 1) (by simp) ?_
  intro gg cap w3 hown3 hgrow hat hlt1
  have f25e : w3.cell? ⟨bp, 25, none⟩ = some (.slice aL s.logn cL) := hgrow.cell f25d (fun e => hgt e.symm)
  refine hK.out _ _ (fun _ => f25e) ?_
  clear hK K
  have hrow : (F1 .log).v.ownBlock = (Value.slice aL s.logn cL).ownBlock := by rw [HLV1.out]
  obtain ⟨F2, M2, V2, K2, B2⟩ := HM1.out.growLog (n := s.logn) rfl HV1.out hA2 hown3 (by rw [HLV1.out]; exact hgrow) (by
    rw [HLV1.out]
    rcases hat with hat | hat
    · exact .inl hat.symm
    · exact .inr (by rw [hat]; simp))
  have zw : w3.frozen? ⟨bp, 25, none⟩ = false := by
    have h1 := HM1.out.obj.frozen 25
    have h2 := (hA2.frozen (show (⟨bp, 25, none⟩ : Addr).block < _ from HM1.out.obj.lt)).trans h1
    exact (World.frozen?_of_block (hgrow.block bp (by simp; omega) (fun e => hgt e.symm))).trans h2
  have hG1 : w0.grownBy w3 (Value.slice aL s.logn cL).ownBlock := gs (gs (grown_below HB2.out _) (grown_below hA2 _)) hgrow
  have hG0 : w.grownBy w3 (Value.slice aL s.logn cL).ownBlock := gs (grown_below (by rw [HRB.out]; exact HBA.out) _) hG1
  have hk3 := own_keep HK.out hG0 (fun b hb e => (HVK.out b hb).2 (by rw [HLV.out]; exact e))
  have hk4 := own_keep hk3 (set_grown w3 bp 25 (.slice (some ⟨gg, 0, none⟩) (s.logn + 1) cap)) (fun b hb e => (HVK.out b hb).1 (by cases e; rfl))
  have hW3 := HW0.out.kept hG1 (fun e => by
    have := HAH.out.1 .log rb (by rw [HLV.out]; exact e)
    omega)
  have hW4 := hW3.kept (set_grown w3 bp 25 (.slice (some ⟨gg, 0, none⟩) (s.logn + 1) cap)) (fun e => by cases e; omega)
  have hB4 : Below B w (w3.setCell ⟨bp, 25, none⟩ (.slice (some ⟨gg, 0, none⟩) (s.logn + 1) cap)) := (HBA.out.mono (by omega)).trans ((HB2.out.mono (by omega)).trans B2)
  have HM2 := Lib.hid M2
  have HV2 := Lib.hid V2
  have HW4 := Lib.hid hW4
  have HB4 := Lib.hid hB4
  have HK4 := Lib.hid hk4
  have HF2 : Hid ((∀ k, (F2 k).v.ownBlock ≠ some rb) ∧ ∀ i, i < s.n → s.rp i ≠ rb) := Lib.hid ⟨fun k e => by
    by_cases e1 : k = .log
    · subst e1
      rw [V2] at e
      have e : gg = rb := Option.some.inj e
      rcases hat with hat | hat
      · have := HAH.out.1 .log rb (by rw [HLV.out]; exact hat.trans (congrArg some e))
        omega
      · omega
    · rw [K2 k e1] at e
      by_cases e2 : k = .lit s.logn
      · subst e2
        rw [HV1.out] at e
        have := HV2B.out rb e
        omega
      · rw [HK1.out k e2] at e
        have := HAH.out.1 k rb e
        omega, fun i hi e => by have := HAH.out.2 i hi; omega⟩
  have hs3 := hgrow.size
  have HAH := HAH
  clear HV2B hown3 hgrow hat hlt1 M2 V2 K2 B2 hG1 hG0 hk3 hk4 hW3 hW4 hB4 HM1 HV1 HK1 HLV1 HO hgt HCT hA2
  refine held.wpLeft.one (i := 10) (by kernel_rfl) rfl (fun K3 hK3 => ?_)
  go_simp
  refine hK3.out _ _ (fun _ => f25e) ?_
  clear hK3 K3
  refine held.wpLeft.one (i := 11) (by kernel_rfl) rfl (fun K3 hK3 => ?_)
  go_simp
  refine hK3.out _ _ (fun _ => f25e) ?_
  clear hK3 K3
  refine held.wpLeft.one (i := 12) (by kernel_rfl) rfl (fun K3 hK3 => ?_)
  go_simp
  refine hK3.out _ _ (fun h => absurd rfl h) ?_
  clear hK3 K3
  refine held.wpLeft.done (by kernel_rfl) ?_
  generalize w3.setCell ⟨bp, 25, none⟩ (.slice (some ⟨gg, 0, none⟩) (s.logn + 1) cap) = w4 at *
  clear f25a f25b f25c f25d f25e zw HK HBA HM0 HW0 HLV HB1 HB2
  go_wp2_with fail
  have hBel : Below w4.heap.size w4 w4.drew := (Below.refl _ _).drew
  have hMD := HM2.out.below hBel
  have hWD := HW4.out.below hBel HW4.out.lt
  have hkD := own_keep HK4.out (grown_below hBel none) (fun b hb e => by cases e)
  have hBD := HB4.out.trans (hBel.mono (Nat.le_trans HM2.out.hB (Nat.le_of_lt HM2.out.obj.lt)))
  refine held.region (fun w' => w'.cell? ⟨bp, 25, none⟩ = some (.slice (some ⟨gg, 0, none⟩) (s.logn + 1) cap) ∧ w'.cell? ⟨bp, 27, none⟩ = some (.int .i64 s.conflict)) 11 (by kernel_rfl) ?_
  generalize w4.drew = w5 at *
  have f25 : w5.cell? ⟨bp, 25, none⟩ = some (F2 .log).v := hMD.fld 25
  have f27 : w5.cell? ⟨bp, 27, none⟩ = some (.int .i64 s.conflict) := hMD.fld 27
  rw [HV2.out] at f25
  have hS := And.intro f25 f27
  have HCC := Lib.hid (clauseOf_own hkD (by omega) (fun c hc => by have := HR.out c hc; omega))
  have hbl5 := hMD.obj.lt
  have HMD := Lib.hid hMD
  have HWD := Lib.hid hWD
  have HBD := Lib.hid hBD
  clear hMD hWD hBD hkD hBel HM2 HW4 HB4 HK4
  refine held.wpLeft.take (i := 0) (v := ?_) rfl (by kernel_rfl) (by kernel_rfl) (by kernel_rfl) (by kernel_rfl) (by kernel_rfl) (fun _ _ _ h => h) (by rfl) ?_ hS ?_
  rotate_left
  · (intro w hSw; obtain ⟨s1, s2⟩ := hSw; go_simp; try with_reducible rfl)
  simp only [Act.put, List.setIfInBounds_toArray, List.set_cons_zero, List.set_cons_succ]
  refine held.wpLeft.take (i := 2) (v := ?_) rfl (by kernel_rfl) (by kernel_rfl) (by kernel_rfl) (by kernel_rfl) (by kernel_rfl) (fun _ _ _ h => h) (by rfl) ?_ hS ?_
  rotate_left
  · (intro w hSw; obtain ⟨s1, s2⟩ := hSw; go_simp; try with_reducible rfl)
  simp only [Act.put, List.setIfInBounds_toArray, List.set_cons_zero, List.set_cons_succ]
  refine held.wpLeft.take (i := 3) (v := ?_) rfl (by kernel_rfl) (by kernel_rfl) (by kernel_rfl) (by kernel_rfl) (by kernel_rfl) (fun _ _ _ h => h) (by rfl) ?_ hS ?_
  rotate_left
  · (intro w hSw; obtain ⟨s1, s2⟩ := hSw; go_simp; try with_reducible rfl)
  simp only [Act.put, List.setIfInBounds_toArray, List.set_cons_zero, List.set_cons_succ]
  refine held.wpLeft.take (i := 4) (v := ?_) rfl (by kernel_rfl) (by kernel_rfl) (by kernel_rfl) (by kernel_rfl) (by kernel_rfl) (fun _ _ _ h => h) (by rfl) ?_ hS ?_
  rotate_left
  · (intro w hSw; obtain ⟨s1, s2⟩ := hSw; go_simp; try with_reducible rfl)
  simp only [Act.put, List.setIfInBounds_toArray, List.set_cons_zero, List.set_cons_succ]
  refine held.wpLeft.take (i := 5) (v := ?_) rfl (by kernel_rfl) (by kernel_rfl) (by kernel_rfl) (by kernel_rfl) (by kernel_rfl) (fun _ _ _ h => h) (by rfl) ?_ hS ?_
  rotate_left
  · (intro w hSw; obtain ⟨s1, s2⟩ := hSw; go_simp; try with_reducible rfl)
  simp only [Act.put, List.setIfInBounds_toArray, List.set_cons_zero, List.set_cons_succ]
  refine held.wpLeft.take (i := 6) (v := ?_) rfl (by kernel_rfl) (by kernel_rfl) (by kernel_rfl) (by kernel_rfl) (by kernel_rfl) (fun _ _ _ h => h) (by rfl) ?_ hS ?_
  rotate_left
  · (intro w hSw; obtain ⟨s1, s2⟩ := hSw; go_simp; try with_reducible rfl)
  simp only [Act.put, List.setIfInBounds_toArray, List.set_cons_zero, List.set_cons_succ]
  refine held.wpLeft.take (i := 7) (v := ?_) rfl (by kernel_rfl) (by kernel_rfl) (by kernel_rfl) (by kernel_rfl) (by kernel_rfl) (fun _ _ _ h => h) (by rfl) ?_ hS ?_
  rotate_left
  · (intro w hSw; obtain ⟨s1, s2⟩ := hSw; go_simp; try with_reducible rfl)
  simp only [Act.put, List.setIfInBounds_toArray, List.set_cons_zero, List.set_cons_succ]
  refine held.wpLeft.take (i := 8) (v := ?_) rfl (by kernel_rfl) (by kernel_rfl) (by kernel_rfl) (by kernel_rfl) (by kernel_rfl) (fun _ _ _ h => h) (by rfl) ?_ hS ?_
  rotate_left
  · (intro w hSw; obtain ⟨s1, s2⟩ := hSw; go_simp; try with_reducible rfl)
  simp only [Act.put, List.setIfInBounds_toArray, List.set_cons_zero, List.set_cons_succ]
  refine held.wpLeft.take (i := 9) (v := ?_) rfl (by kernel_rfl) (by kernel_rfl) (by kernel_rfl) (by kernel_rfl) (by kernel_rfl) (fun _ _ _ h => h) (by rfl) ?_ hS ?_
  rotate_left
  · (intro w hSw; obtain ⟨s1, s2⟩ := hSw; go_simp; try with_reducible rfl)
  simp only [Act.put, List.setIfInBounds_toArray, List.set_cons_zero, List.set_cons_succ]
  refine held.wpLeft.one (i := 1) (by kernel_rfl) rfl (fun K hK => ?_)
  go_simp
  refine HCC.out.mono ?_
  rintro e w6 ⟨v6, rfl, hown6, hb6⟩
  obtain ⟨a6, c6, rfl⟩ := own_slice hown6
  have g25 := (hb6.cell (show (⟨bp, 25, none⟩ : Addr).block < _ from hbl5)).trans f25
  have g27 := (hb6.cell (show (⟨bp, 27, none⟩ : Addr).block < _ from hbl5)).trans f27
  refine hK.out _ _ (fun _ => ⟨g25, g27⟩) ?_
  clear hK K
  have hM6 := HMD.out.below hb6
  have hW6 := HWD.out.below hb6 HWD.out.lt
  have hB6 := HBD.out.trans (hb6.mono (Nat.le_trans HMD.out.hB (Nat.le_of_lt HMD.out.obj.lt)))
  obtain ⟨a0, a1, a2', a3, a4⟩ := whole5 hW6
  have y0 := hW6.frozen 0
  have y1 := hW6.frozen 1
  have y2 := hW6.frozen 2
  have y3 := hW6.frozen 3
  have y4 := hW6.frozen 4
  have hs6 := hb6.size
  have HO6 : Hid (w6.ownsRow w.heap.size 3 1 (.slice a6 (clz ks).length c6) (clz ks).length ((clz ks).map (Value.int .i64))) := Lib.hid (hown6.mono (by have := HWD.out.lt; have := HRB.out; omega))
  have HO6B : Hid (∀ b, (Value.slice a6 (clz ks).length c6).ownBlock = some b → rb < b) := Lib.hid fun b hb => by
    have := (hown6.lt b hb).1
    have := HWD.out.lt
    omega
  have HM6 := Lib.hid hM6
  have HW6 := Lib.hid hW6
  have HB6 := Lib.hid hB6
  clear hown6 hb6 hM6 hW6 hB6 HCC HMD HWD HBD hS f25 f27
  refine held.wpLeft.one (i := 10) (by kernel_rfl) rfl (fun K hK => ?_)
  go_simp
  refine hK.out _ _ (fun _ => ⟨g25, g27⟩) ?_
  clear hK K
  refine held.wpLeft.one (i := 11) (by kernel_rfl) rfl (fun K hK => ?_)
  go_simp
  refine hK.out _ _ (fun h => absurd rfl h) ?_
  clear hK K
  refine held.wpLeft.done (by kernel_rfl) ?_
  have hG := set5_grown w6 rb (.int .i64 2) (.slice none 0 0) (.slice a6 (clz ks).length c6) (.slice (some ⟨gg, 0, none⟩) (s.logn + 1) cap) (.int .i64 s.conflict)
  have hW7 := set5_whole HW6.out (.int .i64 2) (.slice none 0 0) (.slice a6 (clz ks).length c6) (.slice (some ⟨gg, 0, none⟩) (s.logn + 1) cap) (.int .i64 s.conflict)
  go_wp2_with fail
  generalize ((((w6.setCell ⟨rb, 0, none⟩ (.int .i64 2)).setCell ⟨rb, 1, none⟩ (.slice none 0 0)).setCell ⟨rb, 2, none⟩ (.slice a6 (clz ks).length c6)).setCell ⟨rb, 3, none⟩ (.slice (some ⟨gg, 0, none⟩) (s.logn + 1) cap)).setCell ⟨rb, 4, none⟩ (.int .i64 s.conflict) = w7 at *
  obtain ⟨k0, k1, k2, k3, k4⟩ := whole5 hW7
  refine bodyPost_ret (v := .agg #[.int .i64 2, .slice none 0 0, .slice a6 (clz ks).length c6, .slice (some ⟨gg, 0, none⟩) (s.logn + 1) cap, .int .i64 s.conflict]) (by simp [results, Tryd.results31, go_sem, k0, k1, k2, k3, k4]) rfl ?_
  have hbr : rb ≠ bp := by have := HRB.out; omega
  refine ⟨_, _, F2, rfl, HM6.out.off hG hbr HF2.out.1 HF2.out.2, HV2.out, own_keep HO6.out hG (fun b hb e => ?_), HB6.out.grown hG (by have := HM6.out.hB; have := HM6.out.obj.lt; omega) (fun k hk => by cases hk; have := HRB.out; omega)⟩
  have := HO6B.out b hb
  cases e
  omega
end
end Go.Proofs.YtojjjndhabjhdaaDoor.satCe
namespace Go.Proofs.YtojjjndhabjhdaaDoor.satCf
set_option linter.unusedSimpArgs false
set_option linter.unusedVariables false
open Go.ChangeShapes Go.WideShapes Go.ChangeAt Go.RowKit proofP proofQ owns cls satP satQ satR satS satA satF satB satC satD satE satG satH satI satJ satK satM satN satU satV satO satW satX satY satCd satCe
attribute [local go_sem ↓] Go.wp_at_zero Go.wp_at_succ

theorem infoB : (Tryd.prog.info? 4).map (fun i => (i.zero, i.size, i.bytes)) = some (some (.bool false), 1, 1) := by kernel_rfl
section
variable {w w' : World} {B bp : Nat} {s : SS} {F : Ix → Ent}
/-- the model, so many of its first places made out -/
def mdl (vt : List Nat) (V k : Nat) : List Value := (List.range V).map fun i => .bool (decide (i < k) && decide (0 < val vt (2 * (i + 1) + 1)))
theorem mdl_step (vt : List Nat) {V k : Nat} (b : Bool) (hb : b = decide (0 < val vt (2 * (k + 1) + 1))) : (mdl vt V k).set k (.bool b) = mdl vt V (k + 1) := by
  unfold mdl
  rw [range_set]
  refine List.map_congr_left fun i _ => ?_
  by_cases e : i = k
  · subst e; rw [if_pos rfl, hb]; simp
  · rw [if_neg e]
    have : decide (i < k) = decide (i < k + 1) := by simp; omega
    rw [this]
def FdP (B bp : Nat) (s : SS) (F : Ix → Ent) (w : World) (e : Ending) (w' : World) : Prop :=
  ∃ lv mv, e = .returned (.agg #[.int .i64 1, mv, .slice none 0 0, lv, .int .i64 s.conflict]) ∧ Mem w' B bp s F ∧ (F .log).v = lv ∧ w'.ownsRow w.heap.size 4 1 mv s.V (mdl s.vt s.V s.V) ∧ Below B w w'
/-- while the model is made -/
def MRel (B bp : Nat) (s : SS) (F : Ix → Ent) (w : World) (rb g : Nat) (k : Nat) (wr : World) : Prop :=
  Mem wr B bp s F ∧ Whole wr rb 26 [.int .i64 0, .slice none 0 0, .slice none 0 0, .slice none 0 0, .int .i64 0] ∧ wr.ownsRow (rb + 1) 4 1 (.slice (some ⟨g, 0, none⟩) s.V s.V) s.V (mdl s.vt s.V k) ∧ Below B w wr
set_option maxHeartbeats 4000000 in
set_option maxRecDepth 100000 in
theorem found_any (h : Mem w B bp s F) (hV : s.V ≤ 20000) :
    Calls Tryd.prog 37 #[.pointer (some ⟨bp, 0, none⟩)] w (FdP B bp s F w) := by
  have hB := h.hB
  have hbl := h.obj.lt
  have hA : Below w.heap.size w (w.alloc (.cells #[.int .i64 0, .slice none 0 0, .slice none 0 0, .slice none 0 0, .int .i64 0] 26)) := (Below.refl _ _).alloc (Nat.le_refl _) _
  have hW0 := Whole.new w 26 [.int .i64 0, .slice none 0 0, .slice none 0 0, .slice none 0 0, .int .i64 0]
  change Whole (w.alloc (.cells #[.int .i64 0, .slice none 0 0, .slice none 0 0, .slice none 0 0, .int .i64 0] 26)) _ _ _ at hW0
  have hM0 := h.below hA
  have f0 : (w.alloc (.cells #[.int .i64 0, .slice none 0 0, .slice none 0 0, .slice none 0 0, .int .i64 0] 26)).cell? ⟨bp, 0, none⟩ = some (.int .i64 s.V) := hM0.fld 0
  have HAH := Lib.hid h.ahead
  have HM0 := Lib.hid hM0
  have HW0 := Lib.hid hW0
  have HBA : Hid (Below B w (w.alloc (.cells #[.int .i64 0, .slice none 0 0, .slice none 0 0, .slice none 0 0, .int .i64 0] 26))) := Lib.hid (hA.mono (by omega))
  have hszA : (w.alloc (.cells #[.int .i64 0, .slice none 0 0, .slice none 0 0, .slice none 0 0, .int .i64 0] 26)).heap.size = w.heap.size + 1 := by simp
  clear h hA hW0 hM0
  obtain ⟨i0, hi, hz0, hz1, hz2⟩ := info_parts infoB
  go_enter Tryd.func37, Tryd.ntmps37
  go_wp2_with (at_make; refine wpList_make_full _ rfl _ _ 24 rfl (w.heap.size + 1) 4 i0 (.bool false) 1 Tryd.underlying24 hi hz0 hz1 .i64 .i64 _ _ s.V rfl rfl rfl rfl ?c3 ?c4 ?c5 ?_)
  case c3 => rw [hz2]; omega
  case c4 => unfold maxLen; omega
  case c5 => omega
  generalize (w.alloc (.cells #[.int .i64 0, .slice none 0 0, .slice none 0 0, .slice none 0 0, .int .i64 0] 26)) = w0 at *
  intro w1 hown1 hgrow1
  rw [toList_madeCells_one] at hown1
  have hm0 : mdl s.vt s.V 0 = List.replicate s.V (.bool false) := by
    unfold mdl
    apply List.ext_getElem
    · simp
    · intro j h1 h2; simp
  have HR0 : Hid (MRel B bp s F w w.heap.size (w.heap.size + 1) 0 w1) := Lib.hid ⟨HM0.out.below ⟨hgrow1.os, hgrow1.tape, hgrow1.output, hgrow1.size, fun k hk => hgrow1.block k hk (by simp)⟩, HW0.out.kept hgrow1 (by simp), by rw [hm0]; exact hown1, HBA.out.grown hgrow1 (by omega) (by intro k hk; cases hk)⟩
  clear hown1 hgrow1 hm0 HM0 HW0 HBA f0
  generalize hrbe : w.heap.size = rb at *
  have HRB := Lib.hid hrbe
  clear hrbe
  go_wp2
  go_loopw [12] (fun kv wr => ∃ k : Nat, kv = .int .i64 k ∧ k ≤ s.V ∧ MRel B bp s F w rb (rb + 1) k wr) (fun kv _ => s.V - (intOf kv).toNat)
  case atStart => exact ⟨0, rfl, Nat.zero_le _, HR0.out⟩
  case round =>
    obtain ⟨k, rfl, hk, M, hW, hO, hb⟩ := hrel
    clear HR0
    by_cases hlt : k < s.V
    · obtain ⟨gV, cV, hVv, f7, qV, nV, lV⟩ := M.valAt
      have q7 := qV (2 * (k + 1) + 1) (by omega)
      have hx : 2 * (k + 1) + 1 < 2 * s.V + 2 := by omega
      have q0 := hO.cellAt k (by omega)
      rw [show mdl s.vt s.V k = (List.range s.V).map fun i => .bool (decide (i < k) && decide (0 < val s.vt (2 * (i + 1) + 1))) from rfl, range_at hlt] at q0
      have z0 := hO.frozenAt k
      have hgb : rb + 1 ≠ bp := by omega
      have hE : ∀ b : Bool, b = decide (0 < val s.vt (2 * (k + 1) + 1)) → MRel B bp s F w rb (rb + 1) (k + 1) (wr.setCell ⟨rb + 1, k, none⟩ (.bool b)) := fun b hb' => by
        obtain ⟨s1, s2⟩ := hO.stored k (.bool b)
        refine ⟨M.off s2 hgb (fun q e => by have := HAH.out.1 q _ e; omega) (fun i hi e => by have := HAH.out.2 i hi; omega), hW.kept s2 (fun e => by cases e), ?_, hb.setCell (by show B ≤ rb + 1; omega) _⟩
        rw [← mdl_step s.vt b hb']
        exact s1
      have HE := Lib.hid hE
      have hidx : IntKind.i64.wrap ((2 : Int) * ((k : Int) + 1) + 1) = (2 : Int) * ((k : Int) + 1) + 1 := IntWalk.i64_in _ (by omega)
      generalize (decide (k < k) && decide (0 < val s.vt (2 * (k + 1) + 1))) = old at q0
      generalize val s.vt (2 * (k + 1) + 1) = z at *
      clear M hW hO hb hVv qV hE
      go_wp2
      go_roundw
      case rel => exact ⟨k + 1, by go_num, by omega, HE.out _ rfl⟩
      case measure => simp [intOf]; omega
    · obtain rfl : k = s.V := by omega
      obtain ⟨aL, cL, hLv, f25⟩ := M.logAt
      have f27 : wr.cell? ⟨bp, 27, none⟩ = some (.int .i64 s.conflict) := M.fld 27
      have hBel : Below wr.heap.size wr wr.drew := (Below.refl _ _).drew
      have g25 := (hBel.cell (show (⟨bp, 25, none⟩ : Addr).block < _ from M.obj.lt)).trans f25
      have g27 := (hBel.cell (show (⟨bp, 27, none⟩ : Addr).block < _ from M.obj.lt)).trans f27
      have hS := And.intro g25 g27
      have HMD := Lib.hid (M.below hBel)
      have HWD := Lib.hid (hW.below hBel hW.lt)
      have HOD := Lib.hid (own_keep hO (grown_below hBel none) (fun b hb e => by cases e))
      have HBD := Lib.hid (hb.trans (hBel.mono (by have := M.hB; have := M.obj.lt; omega)))
      have HLV := Lib.hid hLv
      have hrb : rb < wr.heap.size := hW.lt
      clear M hW hO hb hLv f25 f27 hBel
      go_wp2_with fail
      refine held.region (fun w' => w'.cell? ⟨bp, 25, none⟩ = some (.slice aL s.logn cL) ∧ w'.cell? ⟨bp, 27, none⟩ = some (.int .i64 s.conflict)) 10 (by kernel_rfl) ?_
      generalize wr.drew = w5 at *
      refine held.wpLeft.take (i := 0) (v := ?_) rfl (by kernel_rfl) (by kernel_rfl) (by kernel_rfl) (by kernel_rfl) (by kernel_rfl) (fun _ _ _ h => h) (by rfl) ?_ hS ?_
      rotate_left
      · (intro w hSw; obtain ⟨s1, s2⟩ := hSw; go_simp; try with_reducible rfl)
      simp only [Act.put, List.setIfInBounds_toArray, List.set_cons_zero, List.set_cons_succ]
      refine held.wpLeft.take (i := 1) (v := ?_) rfl (by kernel_rfl) (by kernel_rfl) (by kernel_rfl) (by kernel_rfl) (by kernel_rfl) (fun _ _ _ h => h) (by rfl) ?_ hS ?_
      rotate_left
      · (intro w hSw; obtain ⟨s1, s2⟩ := hSw; go_simp; try with_reducible rfl)
      simp only [Act.put, List.setIfInBounds_toArray, List.set_cons_zero, List.set_cons_succ]
      refine held.wpLeft.take (i := 2) (v := ?_) rfl (by kernel_rfl) (by kernel_rfl) (by kernel_rfl) (by kernel_rfl) (by kernel_rfl) (fun _ _ _ h => h) (by rfl) ?_ hS ?_
      rotate_left
      · (intro w hSw; obtain ⟨s1, s2⟩ := hSw; go_simp; try with_reducible rfl)
      simp only [Act.put, List.setIfInBounds_toArray, List.set_cons_zero, List.set_cons_succ]
      refine held.wpLeft.take (i := 3) (v := ?_) rfl (by kernel_rfl) (by kernel_rfl) (by kernel_rfl) (by kernel_rfl) (by kernel_rfl) (fun _ _ _ h => h) (by rfl) ?_ hS ?_
      rotate_left
      · (intro w hSw; obtain ⟨s1, s2⟩ := hSw; go_simp; try with_reducible rfl)
      simp only [Act.put, List.setIfInBounds_toArray, List.set_cons_zero, List.set_cons_succ]
      refine held.wpLeft.take (i := 4) (v := ?_) rfl (by kernel_rfl) (by kernel_rfl) (by kernel_rfl) (by kernel_rfl) (by kernel_rfl) (fun _ _ _ h => h) (by rfl) ?_ hS ?_
      rotate_left
      · (intro w hSw; obtain ⟨s1, s2⟩ := hSw; go_simp; try with_reducible rfl)
      simp only [Act.put, List.setIfInBounds_toArray, List.set_cons_zero, List.set_cons_succ]
      refine held.wpLeft.take (i := 5) (v := ?_) rfl (by kernel_rfl) (by kernel_rfl) (by kernel_rfl) (by kernel_rfl) (by kernel_rfl) (fun _ _ _ h => h) (by rfl) ?_ hS ?_
      rotate_left
      · (intro w hSw; obtain ⟨s1, s2⟩ := hSw; go_simp; try with_reducible rfl)
      simp only [Act.put, List.setIfInBounds_toArray, List.set_cons_zero, List.set_cons_succ]
      refine held.wpLeft.take (i := 6) (v := ?_) rfl (by kernel_rfl) (by kernel_rfl) (by kernel_rfl) (by kernel_rfl) (by kernel_rfl) (fun _ _ _ h => h) (by rfl) ?_ hS ?_
      rotate_left
      · (intro w hSw; obtain ⟨s1, s2⟩ := hSw; go_simp; try with_reducible rfl)
      simp only [Act.put, List.setIfInBounds_toArray, List.set_cons_zero, List.set_cons_succ]
      refine held.wpLeft.take (i := 7) (v := ?_) rfl (by kernel_rfl) (by kernel_rfl) (by kernel_rfl) (by kernel_rfl) (by kernel_rfl) (fun _ _ _ h => h) (by rfl) ?_ hS ?_
      rotate_left
      · (intro w hSw; obtain ⟨s1, s2⟩ := hSw; go_simp; try with_reducible rfl)
      simp only [Act.put, List.setIfInBounds_toArray, List.set_cons_zero, List.set_cons_succ]
      refine held.wpLeft.take (i := 8) (v := ?_) rfl (by kernel_rfl) (by kernel_rfl) (by kernel_rfl) (by kernel_rfl) (by kernel_rfl) (fun _ _ _ h => h) (by rfl) ?_ hS ?_
      rotate_left
      · (intro w hSw; obtain ⟨s1, s2⟩ := hSw; go_simp; try with_reducible rfl)
      simp only [Act.put, List.setIfInBounds_toArray, List.set_cons_zero, List.set_cons_succ]
      refine held.wpLeft.one (i := 9) (by kernel_rfl) rfl (fun K hK => ?_)
      go_simp
      refine hK.out _ _ (fun _ => hS) ?_
      clear hK K
      obtain ⟨a0, a1, a2, a3, a4⟩ := whole5 HWD.out
      have y0 := HWD.out.frozen 0
      have y1 := HWD.out.frozen 1
      have y2 := HWD.out.frozen 2
      have y3 := HWD.out.frozen 3
      have y4 := HWD.out.frozen 4
      refine held.wpLeft.one (i := 10) (by kernel_rfl) rfl (fun K hK => ?_)
      go_simp
      refine hK.out _ _ (fun h => absurd rfl h) ?_
      clear hK K
      refine held.wpLeft.done (by kernel_rfl) ?_
      have hG := set5_grown w5 rb (.int .i64 1) (.slice (some ⟨rb + 1, 0, none⟩) s.V s.V) (.slice none 0 0) (.slice aL s.logn cL) (.int .i64 s.conflict)
      have hW7 := set5_whole HWD.out (.int .i64 1) (.slice (some ⟨rb + 1, 0, none⟩) s.V s.V) (.slice none 0 0) (.slice aL s.logn cL) (.int .i64 s.conflict)
      go_wp2_with fail
      generalize ((((w5.setCell ⟨rb, 0, none⟩ (.int .i64 1)).setCell ⟨rb, 1, none⟩ (.slice (some ⟨rb + 1, 0, none⟩) s.V s.V)).setCell ⟨rb, 2, none⟩ (.slice none 0 0)).setCell ⟨rb, 3, none⟩ (.slice aL s.logn cL)).setCell ⟨rb, 4, none⟩ (.int .i64 s.conflict) = w7 at *
      obtain ⟨k0, k1, k2, k3, k4⟩ := whole5 hW7
      refine bodyPost_ret (v := .agg #[.int .i64 1, .slice (some ⟨rb + 1, 0, none⟩) s.V s.V, .slice none 0 0, .slice aL s.logn cL, .int .i64 s.conflict]) (by simp [results, Tryd.results37, go_sem, k0, k1, k2, k3, k4]) rfl ?_
      have hbr : rb ≠ bp := by have := HRB.out; omega
      refine ⟨_, _, rfl, HMD.out.off hG hbr (fun q e => by have := HAH.out.1 q _ e; omega) (fun i hi e => by have := HAH.out.2 i hi; omega), HLV.out, own_keep (HOD.out.mono (by have := HRB.out; omega)) hG (fun b hb e => ?_), HBD.out.grown hG (by have := HMD.out.hB; have := HMD.out.obj.lt; omega) (fun k hk => by cases hk; have := HRB.out; omega)⟩
      have h1 : rb + 1 = b := Option.some.inj hb
      have h2 : rb = b := Option.some.inj e
      omega
end
end Go.Proofs.YtojjjndhabjhdaaDoor.satCf
