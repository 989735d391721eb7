/-
  Contract of newQueue.
-/
import Derived.Test.YtojjjndhabjhdaaDoorFjM
namespace Go.Proofs.YtojjjndhabjhdaaDoor.satLc
set_option linter.unusedSimpArgs false
set_option linter.unusedVariables false
open Go.ChangeShapes Go.WideShapes Go.ChangeAt Go.RowKit proofP proofQ owns cls satP satQ satR satS satA satF satB satC satD satE satG satH satI satJ satK satM satN satU satV satO satW satX satZ satSa satSb satSc satCa satCb satCc satCd satCe satRi satRj satRk satSd satSe satLa
attribute [local go_sem ↓] Go.wp_at_zero Go.wp_at_succ
attribute [local go_sem] run_store_float

theorem infoF : (Tryd.prog.info? 50).map (fun i => (i.zero, i.size, i.bytes)) = some (some (.float .f64 0), 1, 8) := by kernel_rfl
section
variable {w : World}
/-- a row made at lo -/
def MkRow (T : TypeId) (n : Nat) (z : Value) (lo hi : Nat) (v : Value) (w : World) : Prop := lo < hi ∧ v = .slice (some ⟨lo, 0, none⟩) n n ∧ lo < w.heap.size ∧ w.ownsRow lo T 1 v n (List.replicate n z)
/-- the queue's own cells made at lo -/
def Mk62 (lo hi : Nat) (v : Value) (w : World) : Prop := lo < hi ∧ v = .pointer (some ⟨lo, 0, none⟩) ∧ Whole w lo 52 [.slice none 0 0, .slice none 0 0, .slice none 0 0, .float .f64 0]
theorem MkRow.keep {T : TypeId} {n : Nat} {z : Value} {lo hi : Nat} {v : Value} {w w' : World} (h : MkRow T n z lo hi v w) (hb : Below w.heap.size w w') : MkRow T n z lo hi v w' := by
  obtain ⟨h1, h2, h3, h4⟩ := h
  exact ⟨h1, h2, Nat.lt_of_lt_of_le h3 hb.size, own_keep h4 (grown_below hb none) (fun b _ e => by cases e)⟩
theorem Mk62.keep {lo hi : Nat} {v : Value} {w w' : World} (h : Mk62 lo hi v w) (hb : Below w.heap.size w w') : Mk62 lo hi v w' := by
  obtain ⟨h1, h2, h3⟩ := h
  exact ⟨h1, h2, h3.below hb h3.lt⟩
/-- where the made things lie -/
def qd (i : Nat) : Nat := if i = 2 then 7 else if i = 5 then 10 else if i = 6 then 11 else 3
def QR (V i lo hi : Nat) (f : Nat → Value) (w : World) : Prop := if i = 2 then MkRow 3 (V + 1) (.int .i64 0) lo hi (f 7) w else if i = 5 then MkRow 50 (V + 1) (.float .f64 0) lo hi (f 10) w
  else if i = 6 then hi = lo ∧ f 11 = .agg #[.slice none 0 0, f 7, f 10, .float .f64 4607182418800017408] else Mk62 lo hi (f 3) w
def set4 (w : World) (b : Nat) (x0 x1 x2 x3 : Value) : World := (((w.setCell ⟨b, 0, none⟩ x0).setCell ⟨b, 1, none⟩ x1).setCell ⟨b, 2, none⟩ x2).setCell ⟨b, 3, none⟩ x3
theorem set4_grown (w : World) (b : Nat) (x0 x1 x2 x3 : Value) : w.grownBy (set4 w b x0 x1 x2 x3) (some b) := gs (gs (gs (set_grown _ _ _ _) (set_grown _ _ _ _)) (set_grown _ _ _ _)) (set_grown _ _ _ _)
theorem set4_whole {w : World} {b : Nat} {t : TypeId} {a0 a1 a2 a3 : Value} (h : Whole w b t [a0, a1, a2, a3]) (x0 x1 x2 x3 : Value) : Whole (set4 w b x0 x1 x2 x3) b t [x0, x1, x2, x3] :=
  (((h.set 0 x0).1.set 1 x1).1.set 2 x2).1.set 3 x3 |>.1
/-- the places, so many of them made out -/
def plc (V k : Nat) : List Value := (List.range (V + 1)).map fun j => if j ≤ k then .int .i64 ((j : Int) - 1) else .int .i64 0
def hps (k : Nat) : List Value := (List.range k).map fun i => .int .i64 ((i + 1 : Nat) : Int)
/-- the queue while it is made -/
def QM (w : World) (V gP gW gQ k : Nat) (wr : World) : Prop :=
  ∃ aH cH, Whole wr gQ 52 [.slice aH k cH, .slice (some ⟨gP, 0, none⟩) (V + 1) (V + 1), .slice (some ⟨gW, 0, none⟩) (V + 1) (V + 1), .float .f64 4607182418800017408] ∧
    wr.ownsRow w.heap.size 3 1 (.slice aH k cH) k (hps k) ∧ wr.ownsRow w.heap.size 3 1 (.slice (some ⟨gP, 0, none⟩) (V + 1) (V + 1)) (V + 1) (plc V k) ∧ wr.ownsRow w.heap.size 50 1 (.slice (some ⟨gW, 0, none⟩) (V + 1) (V + 1)) (V + 1) (List.replicate (V + 1) (.float .f64 0)) ∧
    Whole wr w.heap.size 52 [.slice none 0 0, .slice none 0 0, .slice none 0 0, .float .f64 0] ∧ (∀ b, (Value.slice aH k cH).ownBlock = some b → b ≠ gP ∧ b ≠ gW ∧ b ≠ gQ ∧ b ≠ w.heap.size) ∧ Below w.heap.size w wr
/-- what newQueue answers -/
def NqP (V : Nat) (w : World) (e : Ending) (w' : World) : Prop :=
  ∃ aH cH gP gW, e = .returned (.agg #[.slice aH V cH, .slice (some ⟨gP, 0, none⟩) (V + 1) (V + 1), .slice (some ⟨gW, 0, none⟩) (V + 1) (V + 1), .float .f64 4607182418800017408]) ∧
    w'.ownsRow w.heap.size 3 1 (.slice aH V cH) V (hps V) ∧ w'.ownsRow w.heap.size 3 1 (.slice (some ⟨gP, 0, none⟩) (V + 1) (V + 1)) (V + 1) ((List.range (V + 1)).map fun (j : Nat) => Value.int .i64 ((j : Int) - 1)) ∧
    w'.ownsRow w.heap.size 50 1 (.slice (some ⟨gW, 0, none⟩) (V + 1) (V + 1)) (V + 1) (List.replicate (V + 1) (.float .f64 0)) ∧ (∀ b, (Value.slice aH V cH).ownBlock = some b → b ≠ gP ∧ b ≠ gW) ∧ gP ≠ gW ∧ Below w.heap.size w w'
set_option maxHeartbeats 4000000 in
set_option maxRecDepth 100000 in
theorem newQueue_any (w : World) (V : Nat) (hV : V ≤ 20000) :
    Calls Tryd.prog 26 #[.int .i64 V] w (NqP V w) := by
  obtain ⟨i0, hi0, hz0, hz1, hz2⟩ := info_parts infoI
  obtain ⟨i1, hi1, hy0, hy1, hy2⟩ := info_parts infoF
  have hwr : IntKind.i64.wrap ((V : Int) + 1) = (V : Int) + 1 := IntWalk.i64_in _ (by omega)
  go_enter Tryd.func26, Tryd.ntmps26
  go_wp2
  refine wp_region_held (S := fun _ => True) (by kernel_rfl) ?_
  change wpAnyH _ _ _ _ _ 9 _ _ (World.drew _)
  refine wpAnyH_take (i := 0) (v := ?_) rfl (by kernel_rfl) (by kernel_rfl) (by kernel_rfl) (fun _ _ _ h => h) (.inl ⟨by rfl, ?_⟩) trivial ?_
  rotate_left
  · (intro w hSw; go_simp; try with_reducible rfl)
  simp only [Act.put, List.setIfInBounds_toArray, List.set_cons_zero, List.set_cons_succ]
  refine wpAnyH_take (i := 1) (v := ?_) rfl (by kernel_rfl) (by kernel_rfl) (by kernel_rfl) (fun _ _ _ h => h) (.inl ⟨by rfl, ?_⟩) trivial ?_
  rotate_left
  · (intro w hSw; go_simp; try with_reducible rfl)
  simp only [Act.put, List.setIfInBounds_toArray, List.set_cons_zero, List.set_cons_succ]
  refine wpAnyH_take (i := 3) (v := ?_) rfl (by kernel_rfl) (by kernel_rfl) (by kernel_rfl) (fun _ _ _ h => h) (.inl ⟨by rfl, ?_⟩) trivial ?_
  rotate_left
  · (intro w hSw; go_simp; try with_reducible rfl)
  simp only [Act.put, List.setIfInBounds_toArray, List.set_cons_zero, List.set_cons_succ]
  refine wpAnyH_take (i := 4) (v := ?_) rfl (by kernel_rfl) (by kernel_rfl) (by kernel_rfl) (fun _ _ _ h => h) (.inl ⟨by rfl, ?_⟩) trivial ?_
  rotate_left
  · (intro w hSw; go_simp; try with_reducible rfl)
  simp only [Act.put, List.setIfInBounds_toArray, List.set_cons_zero, List.set_cons_succ]
  generalize hw1 : (w.alloc (.cells #[.slice none 0 0, .slice none 0 0, .slice none 0 0, .float .f64 0] 52)).drew = w1 at *
  have hru : ∀ i, i ∈ [2, 5, 6, 7] → ∀ lo hi vals vals' w w', QR V i lo hi vals w → hi ≤ w.heap.size → Below w.heap.size w w' → (∀ k, k ∈ [2, 5, 6, 7] → (k = i ∨ (i = 6 ∧ (k = 2 ∨ k = 5))) → vals' (qd k) = vals (qd k)) → QR V i lo hi vals' w' := by
    intro i hi lo hh vals vals' w w' h hw hb he
    simp only [List.mem_cons, List.not_mem_nil, or_false] at hi
    rcases hi with rfl | rfl | rfl | rfl
    · have e := he 2 (by simp) (.inl rfl)
      show MkRow _ _ _ _ _ (vals' 7) _
      rw [show vals' 7 = vals 7 from e]
      exact MkRow.keep h hb
    · have e := he 5 (by simp) (.inl rfl)
      show MkRow _ _ _ _ _ (vals' 10) _
      rw [show vals' 10 = vals 10 from e]
      exact MkRow.keep h hb
    · have e1 := he 2 (by simp) (.inr ⟨rfl, .inl rfl⟩)
      have e2 := he 5 (by simp) (.inr ⟨rfl, .inr rfl⟩)
      have e3 := he 6 (by simp) (.inl rfl)
      obtain ⟨h1, h2⟩ := h
      refine ⟨h1, ?_⟩
      rw [show vals' 11 = vals 11 from e3, show vals' 7 = vals 7 from e1, show vals' 10 = vals 10 from e2]
      exact h2
    · have e := he 7 (by simp) (.inl rfl)
      show Mk62 _ _ (vals' 3) _
      rw [show vals' 3 = vals 3 from e]
      exact Mk62.keep h hb
  refine held3.makers0 9 #[true, true, true, true, true, true, true, true, false] [2, 5, 6, 7] qd (fun f => { tmps := #[.int .i64 V, undef, .pointer (some ⟨w.heap.size, 0, none⟩), f 3, undef, .int .i64 V, .int .i64 ((V : Int) + 1), f 7, .int .i64 V, .int .i64 ((V : Int) + 1), f 10, f 11, undef, undef, undef, undef, undef, undef, undef, undef, undef, undef, undef, undef, undef, undef, undef, undef, undef, undef, undef, undef, undef], defers := [] }) (QR V) 1 (fun _ => undef) rfl rfl rfl rfl (by decide) (by kernel_rfl) trivial ?_ ?_ ?_
  · intro i hi vals lo hh w' hb hS hn
    simp only [List.mem_cons, List.not_mem_nil, or_false] at hi
    rcases hi with rfl | rfl | rfl | rfl
    · refine held3.op_make rfl rfl _ _ _ rfl 3 i0 _ Tryd.underlying23 hi0 hz0 rfl hz1 (V + 1) rfl rfl (by rw [hz2]; omega) (by unfold maxLen; omega) fun w2 ho hg => ?_
      refine ⟨_, rfl, ?_, held3.grown_below0 hg, trivial⟩
      have hlt := (ho.lt w'.heap.size rfl).2
      exact ⟨hlt, rfl, hlt, ho⟩
    · refine held3.op_make rfl rfl _ _ _ rfl 50 i1 _ Tryd.underlying49 hi1 hy0 rfl hy1 (V + 1) rfl rfl (by rw [hy2]; omega) (by unfold maxLen; omega) fun w2 ho hg => ?_
      refine ⟨_, rfl, ?_, held3.grown_below0 hg, trivial⟩
      have hlt := (ho.lt w'.heap.size rfl).2
      exact ⟨hlt, rfl, hlt, ho⟩
    · refine wpOp_step rfl fun K' hK => ?_
      have e2 := (hn 2 (List.contains_iff_mem.1 (by kernel_rfl)) (by simp)).1
      have e5 := (hn 5 (List.contains_iff_mem.1 (by kernel_rfl)) (by simp)).1
      obtain ⟨_, h2, _⟩ := e2
      obtain ⟨_, h5, _⟩ := e5
      change vals 7 = _ at h2
      change vals 10 = _ at h5
      go_simp
      refine hK _ _ ⟨.agg #[.slice none 0 0, .slice (some ⟨lo 2, 0, none⟩) (V + 1) (V + 1), .slice (some ⟨lo 5, 0, none⟩) (V + 1) (V + 1), .float .f64 4607182418800017408], by rw [← h2, ← h5]; rfl, ⟨rfl, ?_⟩, Below.refl _ _, trivial⟩
      show Value.agg _ = .agg #[.slice none 0 0, vals 7, vals 10, .float .f64 4607182418800017408]
      rw [h2, h5]
    · refine wpOp_step rfl fun K' hK => ?_
      go_simp
      refine hK _ _ ⟨.pointer (some ⟨w'.heap.size, 0, none⟩), rfl, ⟨by simp, rfl, Whole.new w' 52 [.slice none 0 0, .slice none 0 0, .slice none 0 0, .float .f64 0]⟩, (Below.refl _ _).alloc (Nat.le_refl _) _, trivial⟩
  · intro i hi lo hh vals vals' w w' h hw hb he
    refine hru i hi lo hh vals vals' w w' h hw hb fun k hk hki => he k hk ?_
    rcases hki with hki | ⟨rfl, rfl | rfl⟩
    · exact .inl hki
    · exact .inr (List.contains_iff_mem.1 (by kernel_rfl))
    · exact .inr (List.contains_iff_mem.1 (by kernel_rfl))
  · intro vals lo hh w2 hR hd hb hS
    obtain ⟨⟨r1, r2, r3, r4⟩, r5, r6, r7⟩ := hR 2 (by simp)
    obtain ⟨⟨s1, s2, s3, s4⟩, s5, s6, s7⟩ := hR 5 (by simp)
    obtain ⟨⟨t1, t2⟩, _⟩ := hR 6 (by simp)
    obtain ⟨⟨u1, u2, u3⟩, u5, u6, u7⟩ := hR 7 (by simp)
    change vals 7 = _ at r2
    change vals 10 = _ at s2
    change vals 11 = _ at t2
    change vals 3 = _ at u2
    have d25 := hd 2 (by simp) 5 (by simp) (by omega)
    have d27 := hd 2 (by simp) 7 (by simp) (by omega)
    have d57 := hd 5 (by simp) 7 (by simp) (by omega)
    dsimp only
    rw [t2, r2, s2, u2]
    rw [r2] at r4
    rw [s2] at s4
    clear hR hd hru t1 t2 r2 s2 u2
    generalize lo 2 = gP at *
    generalize lo 5 = gW at *
    generalize lo 7 = gQ at *
    have a0 := u3.cell 0
    have a1 := u3.cell 1
    have a2 := u3.cell 2
    have a3 := u3.cell 3
    change w2.cell? ⟨gQ, 0, none⟩ = some (.slice none 0 0) at a0
    change w2.cell? ⟨gQ, 1, none⟩ = some (.slice none 0 0) at a1
    change w2.cell? ⟨gQ, 2, none⟩ = some (.slice none 0 0) at a2
    change w2.cell? ⟨gQ, 3, none⟩ = some (.float .f64 0) at a3
    have y0 := u3.frozen 0
    have y1 := u3.frozen 1
    have y2 := u3.frozen 2
    have y3 := u3.frozen 3
    have hs1 : w1.heap.size = w.heap.size + 1 := by rw [← hw1]; simp
    have hn1 : gP ≠ gQ := by omega
    have hn2 : gW ≠ gQ := by omega
    have hn3 : gP ≠ gW := by omega
    have hn4 : w.heap.size ≠ gQ := by omega
    have hgq0 : w.heap.size < gQ := by omega
    have hgp0 : w.heap.size < gP := by omega
    have hgw0 : w.heap.size < gW := by omega
    have hW0 := (Whole.new w 52 [.slice none 0 0, .slice none 0 0, .slice none 0 0, .float .f64 0])
    have hbA : Below (w.heap.size + 1) (w.alloc (.cells #[.slice none 0 0, .slice none 0 0, .slice none 0 0, .float .f64 0] 52)) w2 := by
      refine (Below.refl _ _).drew.trans ?_
      rw [hw1]
      exact hb.mono (by omega)
    have hWR := hW0.below hbA (by simp)
    have hW3 := set4_whole u3 (.slice none 0 0) (.slice (some ⟨gP, 0, none⟩) (V + 1) (V + 1)) (.slice (some ⟨gW, 0, none⟩) (V + 1) (V + 1)) (.float .f64 4607182418800017408)
    have hG3 := set4_grown w2 gQ (.slice none 0 0) (.slice (some ⟨gP, 0, none⟩) (V + 1) (V + 1)) (.slice (some ⟨gW, 0, none⟩) (V + 1) (V + 1)) (.float .f64 4607182418800017408)
    have hP3 := own_keep r4 hG3 (fun b hb e => by have h1 : gP = b := Option.some.inj hb; have h2 : gQ = b := Option.some.inj e; omega)
    have hF3 := own_keep s4 hG3 (fun b hb e => by have h1 : gW = b := Option.some.inj hb; have h2 : gQ = b := Option.some.inj e; omega)
    have hR3 := hWR.kept hG3 (fun e => by cases e; exact hn4 rfl)
    have hb3 : Below w.heap.size w (set4 w2 gQ (.slice none 0 0) (.slice (some ⟨gP, 0, none⟩) (V + 1) (V + 1)) (.slice (some ⟨gW, 0, none⟩) (V + 1) (V + 1)) (.float .f64 4607182418800017408)) := ((((Below.refl _ _).alloc (Nat.le_refl _) _).trans (hbA.mono (by omega))).grown hG3 (by have := hbA.size; simp at this; omega) (fun k hk => by cases hk; omega))
    have hC3 := hP3.cellAt 0 (by omega)
    have hZ3 := hP3.frozenAt 0
    have hQ1 := hW3.cell 1
    have hQM : ∀ w4, w4 = (set4 w2 gQ (.slice none 0 0) (.slice (some ⟨gP, 0, none⟩) (V + 1) (V + 1)) (.slice (some ⟨gW, 0, none⟩) (V + 1) (V + 1)) (.float .f64 4607182418800017408)).setCell ⟨gP, 0, none⟩ (.int .i64 (-1)) → QM w V gP gW gQ 0 w4 := by
      rintro w4 rfl
      obtain ⟨v1, v2⟩ := hP3.stored 0 (.int .i64 (-1))
      have ePl : (List.replicate (V + 1) (Value.int .i64 0)).set 0 (.int .i64 (-1)) = plc V 0 := by
        unfold plc
        apply List.ext_getElem?
        intro j
        rw [List.getElem?_set]
        by_cases e : 0 = j
        · subst e; simp
        · rw [if_neg e]
          by_cases hj : j < V + 1
          · rw [List.getElem?_replicate, if_pos hj, List.getElem?_map, List.getElem?_range hj]
            simp; omega
          · rw [List.getElem?_eq_none (by simp; omega), List.getElem?_eq_none (by simp; omega)]
      rw [ePl] at v1
      exact ⟨none, 0, hW3.kept v2 (fun e => hn1 (Option.some.inj e)), ⟨rfl, .inl ⟨rfl, rfl⟩⟩, v1.mono (by omega), (own_keep hF3 v2 (fun b hb e => by have h1 : gW = b := Option.some.inj hb; have h2 : gP = b := Option.some.inj e; omega)).mono (by omega), hR3.kept v2 (fun e => by have := Option.some.inj e; omega), fun b hb => (by cases hb), hb3.setCell (by show w.heap.size ≤ gP; omega) _⟩
    have HQM := Lib.hid (hQM _ rfl)
    unfold set4 at hC3 hZ3 hQ1 HQM
    have c0 : ((((w2.setCell ⟨gQ, 0, none⟩ (.slice none 0 0)).setCell ⟨gQ, 1, none⟩ (.slice (some ⟨gP, 0, none⟩) (V + 1) (V + 1))).setCell ⟨gQ, 2, none⟩ (.slice (some ⟨gW, 0, none⟩) (V + 1) (V + 1))).setCell ⟨gQ, 3, none⟩ (.float .f64 4607182418800017408)).cell? ⟨gP, 0, none⟩ = some (.int .i64 0) := by rw [hC3]; simp
    refine wpAnyH_all (rs := [8]) (by kernel_rfl) (by simp) fun i hi => ?_
    obtain rfl : i = 8 := by simpa using hi
    refine wpOp_step rfl fun K' hK => ?_
    clear hQM hC3 hW3 hG3 hP3 hF3 hR3 hb3 hWR hbA hW0 u3 r4 s4 r1 s1 u1 hb hw1 hs1
    go_simp
    refine hK _ _ ⟨trivial, wpAnyH_done (by kernel_rfl) ?_ _⟩
    clear hK K'
    generalize (((w2.setCell ⟨gQ, 0, none⟩ (.slice none 0 0)).setCell ⟨gQ, 1, none⟩ (.slice (some ⟨gP, 0, none⟩) (V + 1) (V + 1))).setCell ⟨gQ, 2, none⟩ (.slice (some ⟨gW, 0, none⟩) (V + 1) (V + 1))).setCell ⟨gQ, 3, none⟩ (.float .f64 4607182418800017408) = w3 at *
    clear a0 a1 a2 a3 y0 y1 y2 y3 r3 s3 r5 r6 r7 s5 s6 s7 u5 u6 u7 d25 d27 d57
    change w3.cell? ⟨gQ, 1, none⟩ = some (.slice (some ⟨gP, 0, none⟩) (V + 1) (V + 1)) at hQ1
    go_wp2
    generalize w3.setCell ⟨gP, 0, none⟩ (.int .i64 (-1)) = w4 at *
    clear c0 hZ3 hQ1
    go_loopw [4] (fun iv wr => ∃ k : Nat, iv = .int .i64 ((k : Int) + 1) ∧ k ≤ V ∧ QM w V gP gW gQ k wr) (fun iv _ => V + 1 - (intOf iv).toNat)
    case atStart => exact ⟨0, rfl, Nat.zero_le _, HQM.out⟩
    case round =>
      obtain ⟨k, rfl, hk, aH, cH, q1, q2, q3, q4, q5, q6, q7⟩ := hrel
      clear HQM
      by_cases hlt : k < V
      · have hB : w.heap.size ≤ wr.heap.size := q7.size
        have f0 : wr.cell? ⟨gQ, 0, none⟩ = some (.slice aH k cH) := q1.cell 0
        have hA : Below wr.heap.size wr (wr.alloc (.cells #[.int .i64 ((k : Int) + 1)] 3)) := (Below.refl _ _).alloc (Nat.le_refl _) _
        have HO := Lib.hid (own_keep q2 (grown_below hA none) (fun b hb e => by cases e))
        have HW := Lib.hid (q1.below hA q1.lt)
        have HP := Lib.hid (own_keep q3 (grown_below hA none) (fun b hb e => by cases e))
        have HF := Lib.hid (own_keep q4 (grown_below hA none) (fun b hb e => by cases e))
        have HR := Lib.hid (q5.below hA q5.lt)
        have HB7 := Lib.hid (q7.trans (hA.mono hB))
        have HN := Lib.hid q6
        clear q1 q2 q3 q4 q5 q6 q7 hA
        go_wp2_with (at_builtin; (refine wpList_append_own_at _ rfl _ _ 23 rfl w.heap.size 3 i0 (.int .i64 0) 1 8 Tryd.underlying23 hi0 hz0 hz1 hz2 rfl (by decide) (.slice aH k cH) k (hps k) rfl ?c0 ⟨wr.heap.size, 0, none⟩ 1 1 [.int .i64 ((k : Int) + 1)] rfl rfl (new_one _ _ _) ?c2 ?c3 ?c4 ?c5 ?_))
        case c0 => exact HO.out
        case c2 => simp [Value.oneCell']
        case c3 => unfold maxLen; omega
        case c4 => omega
        case c5 => simp; omega
        intro v' w6 hown6 hgrow6 _ hat
        obtain ⟨g', cap', rfl, hg1, hg2, _, _⟩ := own_form hown6 (by omega)
        have hw6 := HW.out.kept hgrow6 (fun e => (HN.out _ e).2.2.1 rfl)
        have hp6 := own_keep HP.out hgrow6 (fun b hb e => by have h1 : gP = b := Option.some.inj hb; exact (HN.out _ e).1 h1.symm)
        have hf6 := own_keep HF.out hgrow6 (fun b hb e => by have h1 : gW = b := Option.some.inj hb; exact (HN.out _ e).2.1 h1.symm)
        have hr6 := HR.out.kept hgrow6 (fun e => (HN.out _ e).2.2.2 rfl)
        have hb6 := HB7.out.grown hgrow6 (by simp; omega) (fun b hb => (HO.out.lt b hb).1)
        have hgn : g' ≠ gP ∧ g' ≠ gW ∧ g' ≠ gQ ∧ g' ≠ w.heap.size := by
          have lP := (HP.out.lt gP rfl).2
          have lW := (HF.out.lt gW rfl).2
          have lQ := HW.out.lt
          have lR := HR.out.lt
          rcases hat with hat | hat
          · exact HN.out _ hat.symm
          · have : g' = wr.heap.size + 1 := by simpa [Value.ownBlock] using hat
            simp at lP lW lQ lR
            omega
        have e0 : w6.cell? ⟨gQ, 0, none⟩ = some (.slice aH k cH) := hw6.cell 0
        have e1 : w6.cell? ⟨gQ, 1, none⟩ = some (.slice (some ⟨gP, 0, none⟩) (V + 1) (V + 1)) := hw6.cell 1
        have z0 := hw6.frozen 0
        have ep := hp6.cellAt (k + 1) (by omega)
        have zp := hp6.frozenAt (k + 1)
        have hold : (plc V k)[k + 1]? = some (.int .i64 0) := by
          unfold plc
          rw [range_at (by omega), if_neg (by omega)]
        rw [hold] at ep
        have hgs : w6.grownBy (w6.setCell ⟨gQ, 0, none⟩ (.slice (some ⟨g', 0, none⟩) (k + 1) cap')) (some gQ) := set_grown _ _ _ _
        have hw7 : Whole (w6.setCell ⟨gQ, 0, none⟩ (.slice (some ⟨g', 0, none⟩) (k + 1) cap')) gQ 52 [.slice (some ⟨g', 0, none⟩) (k + 1) cap', .slice (some ⟨gP, 0, none⟩) (V + 1) (V + 1), .slice (some ⟨gW, 0, none⟩) (V + 1) (V + 1), .float .f64 4607182418800017408] := (hw6.set 0 (.slice (some ⟨g', 0, none⟩) (k + 1) cap')).1
        have ho7 := own_keep hown6 hgs (fun b hb e => by have h1 : g' = b := Option.some.inj hb; have h2 : gQ = b := Option.some.inj e; omega)
        have hp7 := own_keep hp6 hgs (fun b hb e => by have h1 : gP = b := Option.some.inj hb; have h2 : gQ = b := Option.some.inj e; omega)
        have hf7 := own_keep hf6 hgs (fun b hb e => by have h1 : gW = b := Option.some.inj hb; have h2 : gQ = b := Option.some.inj e; omega)
        have hr7 := hr6.kept hgs (fun e => by have h2 : gQ = w.heap.size := Option.some.inj e; omega)
        obtain ⟨v1, v2⟩ := hp7.stored (k + 1) (.int .i64 (k : Int))
        have hgq : w.heap.size ≤ gQ := by omega
        have hgp := (hp6.lt gP rfl).1
        have hREL : QM w V gP gW gQ (k + 1) ((w6.setCell ⟨gQ, 0, none⟩ (.slice (some ⟨g', 0, none⟩) (k + 1) cap')).setCell ⟨gP, k + 1, none⟩ (.int .i64 (k : Int))) := by
          refine ⟨_, _, hw7.kept v2 (fun e => by have h2 : gP = gQ := Option.some.inj e; omega), ?_, ?_, own_keep hf7 v2 (fun b hb e => by have h1 : gW = b := Option.some.inj hb; have h2 : gP = b := Option.some.inj e; omega), hr7.kept v2 (fun e => by have h2 : gP = w.heap.size := Option.some.inj e; omega), fun b hb => by have h1 : g' = b := Option.some.inj hb; rw [← h1]; exact hgn, (hb6.setCell hgq _).setCell hgp _⟩
          · have := own_keep ho7 v2 (fun b hb e => by have h1 : g' = b := Option.some.inj hb; have h2 : gP = b := Option.some.inj e; omega)
            rw [show hps k ++ [Value.int .i64 ((k : Int) + 1)] = hps (k + 1) from by unfold hps; rw [List.range_succ, List.map_append]; rfl] at this
            exact this
          · rw [show (plc V k).set (k + 1) (.int .i64 (k : Int)) = plc V (k + 1) from ?_] at v1
            · exact v1
            · unfold plc
              rw [range_set]
              refine List.map_congr_left fun j _ => ?_
              by_cases e : j = k + 1
              · subst e; rw [if_pos rfl, if_pos (Nat.le_refl _)]; congr 1; omega
              · rw [if_neg e]
                by_cases e2 : j ≤ k
                · rw [if_pos e2, if_pos (by omega)]
                · rw [if_neg e2, if_neg (by omega)]
        have HREL := Lib.hid hREL
        have hwk : IntKind.i64.wrap ((k : Int) + 1 - 1) = (k : Int) := by rw [show (k : Int) + 1 - 1 = (k : Int) by omega]; exact IntWalk.i64_in _ (by omega)
        have hks : (k : Int) + 1 - 1 = (k : Int) := by omega
        clear hREL v1 v2 ho7 hp7 hf7 hr7 hw7 hgs hw6 hp6 hf6 hr6 hb6 hown6 hgrow6 hat HO HW HP HF HR HB7 HN hold
        go_wp2
        go_roundw
        case rel => exact ⟨k + 1, by go_num, by omega, HREL.out⟩
        case measure => simp [intOf]; omega
      · obtain rfl : k = V := by omega
        have f0 : wr.cell? ⟨gQ, 0, none⟩ = some (.slice aH k cH) := q1.cell 0
        have f1 : wr.cell? ⟨gQ, 1, none⟩ = some (.slice (some ⟨gP, 0, none⟩) (k + 1) (k + 1)) := q1.cell 1
        have f2 : wr.cell? ⟨gQ, 2, none⟩ = some (.slice (some ⟨gW, 0, none⟩) (k + 1) (k + 1)) := q1.cell 2
        have f3 : wr.cell? ⟨gQ, 3, none⟩ = some (.float .f64 4607182418800017408) := q1.cell 3
        generalize hrb : w.heap.size = rb at *
        have r0 : wr.cell? ⟨rb, 0, none⟩ = some (.slice none 0 0) := q5.cell 0
        have r1 : wr.cell? ⟨rb, 1, none⟩ = some (.slice none 0 0) := q5.cell 1
        have r2 : wr.cell? ⟨rb, 2, none⟩ = some (.slice none 0 0) := q5.cell 2
        have r3 : wr.cell? ⟨rb, 3, none⟩ = some (.float .f64 0) := q5.cell 3
        have y0 := q5.frozen 0
        have y1 := q5.frozen 1
        have y2 := q5.frozen 2
        have y3 := q5.frozen 3
        have hW7 := set4_whole q5 (.slice aH k cH) (.slice (some ⟨gP, 0, none⟩) (k + 1) (k + 1)) (.slice (some ⟨gW, 0, none⟩) (k + 1) (k + 1)) (.float .f64 4607182418800017408)
        have hG7 := set4_grown wr rb (.slice aH k cH) (.slice (some ⟨gP, 0, none⟩) (k + 1) (k + 1)) (.slice (some ⟨gW, 0, none⟩) (k + 1) (k + 1)) (.float .f64 4607182418800017408)
        have HFIN : Hid (NqP k w (.returned (.agg #[.slice aH k cH, .slice (some ⟨gP, 0, none⟩) (k + 1) (k + 1), .slice (some ⟨gW, 0, none⟩) (k + 1) (k + 1), .float .f64 4607182418800017408])) (set4 wr rb (.slice aH k cH) (.slice (some ⟨gP, 0, none⟩) (k + 1) (k + 1)) (.slice (some ⟨gW, 0, none⟩) (k + 1) (k + 1)) (.float .f64 4607182418800017408))) := Lib.hid
          ⟨aH, cH, gP, gW, rfl, by rw [hrb]; exact own_keep q2 hG7 (fun b hb e => by have h2 : rb = b := Option.some.inj e; exact (q6 b hb).2.2.2 h2.symm), by
            rw [hrb]
            have := own_keep q3 hG7 (fun b hb e => by have h1 : gP = b := Option.some.inj hb; have h2 : rb = b := Option.some.inj e; omega)
            rw [show plc k k = (List.range (k + 1)).map (fun (j : Nat) => Value.int .i64 ((j : Int) - 1)) from List.map_congr_left fun j hj => if_pos (by have := List.mem_range.1 hj; omega)] at this
            exact this, by rw [hrb]; exact own_keep q4 hG7 (fun b hb e => by have h1 : gW = b := Option.some.inj hb; have h2 : rb = b := Option.some.inj e; omega), fun b hb => ⟨(q6 b hb).1, (q6 b hb).2.1⟩, hn3, by rw [hrb]; exact q7.grown hG7 (by rw [← hrb]; exact q7.size) (fun b hb => by cases hb; exact Nat.le_refl _)⟩
        have k0 := hW7.cell 0
        have k1 := hW7.cell 1
        have k2 := hW7.cell 2
        have k3 := hW7.cell 3
        clear q1 q2 q3 q4 q5 q6 q7 hG7 hW7
        go_wp2
        unfold set4 at HFIN k0 k1 k2 k3
        generalize (((wr.setCell ⟨rb, 0, none⟩ (.slice aH k cH)).setCell ⟨rb, 1, none⟩ (.slice (some ⟨gP, 0, none⟩) (k + 1) (k + 1))).setCell ⟨rb, 2, none⟩ (.slice (some ⟨gW, 0, none⟩) (k + 1) (k + 1))).setCell ⟨rb, 3, none⟩ (.float .f64 4607182418800017408) = w9 at *
        change w9.cell? ⟨rb, 0, none⟩ = some (.slice aH k cH) at k0
        change w9.cell? ⟨rb, 1, none⟩ = some (.slice (some ⟨gP, 0, none⟩) (k + 1) (k + 1)) at k1
        change w9.cell? ⟨rb, 2, none⟩ = some (.slice (some ⟨gW, 0, none⟩) (k + 1) (k + 1)) at k2
        change w9.cell? ⟨rb, 3, none⟩ = some (.float .f64 4607182418800017408) at k3
        refine bodyPost_ret (v := .agg #[.slice aH k cH, .slice (some ⟨gP, 0, none⟩) (k + 1) (k + 1), .slice (some ⟨gW, 0, none⟩) (k + 1) (k + 1), .float .f64 4607182418800017408]) (by simp [results, Tryd.results26, go_sem, k0, k1, k2, k3]) rfl ?_
        exact HFIN.out
end
end Go.Proofs.YtojjjndhabjhdaaDoor.satLc
