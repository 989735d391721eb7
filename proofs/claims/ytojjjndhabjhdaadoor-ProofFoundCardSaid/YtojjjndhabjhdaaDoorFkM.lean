/-
  A fresh search: its assumptions; what it is.
  IndexFunc and ContainsFunc of a closure with one capture. Printed by gen_satLf.py.
  Contract of checked.
-/
import Derived.Test.YtojjjndhabjhdaaDoorSatLd
namespace Go.Proofs.YtojjjndhabjhdaaDoor.satLe
set_option linter.unusedSimpArgs false
set_option linter.unusedVariables false
open Go.ChangeShapes Go.WideShapes Go.ChangeAt Go.RowKit proofP proofQ owns cls satP satQ satR satS satA satF satB satC satD satE satG satH satI satJ satK satM satN satU satV satO satW satX satZ satSa satSb satSc satCa satCb satCc satCd satCe satRi satRj satRk satSd satSe satLa satLc satLd

section
variable {w w' : World} {B bp : Nat} {s : SS} {F : Ix → Ent} {l : List Nat}
def _root_.Go.Proofs.YtojjjndhabjhdaaDoor.satA.SS.wn (s : SS) (l : List Nat) : SS := { s with wanted := l, tmp := updN s.tmp 1 [] }
/-- the assumptions are laid in -/
theorem _root_.Go.Proofs.YtojjjndhabjhdaaDoor.satA.Mem.setWanted (h : Mem w B bp s F) (ht : s.tmp 1 = l) : ∃ F', Mem (w.setCell ⟨bp, 5, none⟩ (F (.tmp 1)).v) B bp (s.wn l) F' :=
  ⟨_, h.mvf (.tmp 1) .wanted (by simp) rfl (s' := s.wn l) (fun i hi => ⟨by simp, by simp⟩) rfl rfl rfl rfl 5 (by rfl) (by
    show l.map iv = (s.tmp 1).map iv
    rw [ht]) (by
    show (updN s.tmp 1 [] 1).map iv = []
    rw [updN_same]; rfl) (by
    intro i h1 h2
    cases i <;> first
      | rfl
      | exact absurd rfl h2
      | (show (updN s.tmp 1 [] _).map iv = (s.tmp _).map iv
         rw [updN_other _ _ (fun e => h1 (by rw [e]))]))⟩
theorem st0 {V : Nat} {r k b : Int} {re : Bool} {tmp : Nat → List Nat} (hr : 0 ≤ r) (hk : 0 ≤ k ∧ k ≤ 9223372036854775807) (hn : l.Nodup) (hl : ∀ c, c ∈ l → 2 ≤ c ∧ c < 2 * V + 2) : St0 (((nS V r k re b).tm tmp).wn l) := by
  refine ⟨rfl, rfl, ⟨?_, ?_, ?_⟩, ⟨?_, ?_⟩, fun v hv => rfl, rfl, rfl, ⟨hn, hl⟩, ⟨?_, rfl⟩, hk, rfl, rfl, hr, ?_⟩
  · show (List.replicate (V + 1) _).length = V + 1
    simp
  · intro v hv
    change v ∈ List.replicate (V + 1) (Value.float .f64 0) at hv
    rw [List.eq_of_mem_replicate hv]
    exact ⟨0, rfl, Nat.zero_le _⟩
  · exact ⟨4607182418800017408, rfl, by unfold FP; decide⟩
  · intro i u hu
    change ((List.range V).map (· + 1))[i]? = some u at hu
    have hi : i < V := by have := (List.getElem?_eq_some_iff.1 hu).1; simpa using this
    rw [range_at hi] at hu
    cases hu
    refine ⟨⟨by omega, by show i + 1 ≤ V; omega⟩, ?_⟩
    show ((i + 1 : Nat) : Int) - 1 = _
    omega
  · intro u h1 h2
    refine ⟨fun _ => ⟨u - 1, ?_, ?_⟩, fun h => absurd trivial h⟩
    · show (u : Int) - 1 = _
      omega
    · change u ≤ V at h2
      show ((List.range V).map (· + 1))[u - 1]? = some u
      rw [range_at (by omega)]
      congr 1; omega
  · show (List.replicate (3 * V + 2) (0 : Int)).length = 3 * V + 2
    simp
  · by_cases e : r = 0
    · exact .inl e
    · exact .inr (by show 1 ≤ r; omega)
end
end Go.Proofs.YtojjjndhabjhdaaDoor.satLe
namespace Go.Proofs.YtojjjndhabjhdaaDoor.satLf
set_option linter.unusedSimpArgs false
set_option linter.unusedVariables false
open Go.ChangeShapes Go.WideShapes Go.ChangeAt Go.RowKit proofP proofQ owns cls satP satQ satR satA satF satB satC satD satE satG satH satI satJ satK satM satN satU
attribute [local go_sem ↓] Go.wp_at_zero Go.wp_at_succ

set_option maxHeartbeats 1000000 in
set_option maxRecDepth 100000 in
/-- slices.IndexFunc of a closure that does what p says -/
theorem index1 {w : World} {B : Nat} {av : Value} {l : List Int} (fid : FuncId) (k1 : Value) (p : Int → Bool) (hcf : ∀ x w, (callFunc fid #[.int .i64 x, k1]).run Tryd.prog w = .ok (.enter fid #[.int .i64 x, k1]) w) (ha : IntsAt w B av l) (hB : B ≤ w.heap.size)
    (hc : ∀ x, x ∈ l → ∀ w1, Below w.heap.size w w1 → Calls Tryd.prog fid #[.int .i64 x, k1] w1 fun e w' => e = .returned (.bool (p x)) ∧ Below w1.heap.size w1 w') :
    Calls Tryd.prog 49 #[av, .func (.func fid) #[] #[k1]] w fun e w' => (∃ z : Int, e = .returned (.int .i64 z) ∧ decide (0 ≤ z) = l.any p) ∧ Below w.heap.size w w' := by
  have HCC := Lib.hid hc
  obtain ⟨ao, cap, b, off, rfl, hcm, ha, hc, h64⟩ := ha
  have HA := Lib.hid ha
  have HC := Lib.hid hc
  unfold maxLen at hcm
  clear ha hc h64
  go_enter Tryd.func49, Tryd.ntmps49
  go_wp2
  go_loopw [8] (fun it wr => ∃ k : Nat, k ≤ l.length ∧ it = .int .i64 k ∧ Below w.heap.size w wr ∧ Hid (∀ j, j < k → p (l.getD j 0) = false)) (fun it _ => l.length - (intOf it).toNat)
  case atStart => exact ⟨0, Nat.zero_le _, rfl, Below.refl _ _, Lib.hid (fun j hj => absurd hj (Nat.not_lt_zero _))⟩
  case round =>
    obtain ⟨k, hk, rfl, hb, hg⟩ := hrel
    have HB := Lib.hid hb
    have hws := hb.size
    by_cases hlt : k < l.length
    · obtain ⟨rfl, hbB⟩ := HA.out (by intro h0; rw [h0] at hlt; simp at hlt)
      have q : wr.cell? ⟨b, off + k, none⟩ = some (.int .i64 (l.getD k 0)) := by rw [hb.cell (show (⟨b, off + k, none⟩ : Addr).block < w.heap.size from by show b < _; omega)]; exact HC.out k hlt
      have hmem : l.getD k 0 ∈ l := by rw [List.getD_eq_getElem?_getD, List.getElem?_eq_getElem hlt]; exact List.getElem_mem hlt
      have HCL := Lib.hid (HCC.out _ hmem wr hb)
      have HT : Hid (p (l.getD k 0) = true → l.any p = true) := Lib.hid (fun h => List.any_eq_true.2 ⟨_, hmem, h⟩)
      have HF : Hid (p (l.getD k 0) = false → ∀ j, j < k + 1 → p (l.getD j 0) = false) := Lib.hid (fun h j hj => by
        by_cases e : j = k
        · rw [e]; exact h
        · exact hg.out j (by omega))
      generalize p (l.getD k 0) = r at *
      generalize l.getD k 0 = x at *
      clear hb hg hmem
      cases r
      · have HF2 := Lib.hid (HF.out rfl)
        clear HF HT
        go_wp2_with fail
        refine HCL.out.mono ?_
        rintro e w1 ⟨rfl, hb1⟩
        have HB1 := Lib.hid (HB.out.trans (hb1.mono hws))
        clear hb1
        go_wp2
        go_roundw
        case rel => exact ⟨k + 1, by omega, by go_num, HB1.out, HF2⟩
        case measure => simp [intOf]; omega
      · have HT2 := Lib.hid (HT.out rfl)
        clear HF HT
        go_wp2_with fail
        refine HCL.out.mono ?_
        rintro e w1 ⟨rfl, hb1⟩
        have HB1 := Lib.hid (HB.out.trans (hb1.mono hws))
        clear hb1
        go_wp2
        go_ret
        exact ⟨⟨_, rfl, by rw [HT2.out, decide_eq_true (by omega)]⟩, HB1.out⟩
    · obtain rfl : k = l.length := by omega
      have HE : Hid (l.any p = false) := Lib.hid (by
        rw [List.any_eq_false]
        intro c hl
        obtain ⟨j, hj, rfl⟩ := List.mem_iff_getElem.1 hl
        have := hg.out j hj
        rw [List.getD_eq_getElem?_getD, List.getElem?_eq_getElem hj] at this
        simpa using this)
      clear hg hb
      go_wp2
      go_ret
      exact ⟨⟨-1, rfl, by rw [HE.out]; rfl⟩, HB.out⟩
theorem contains1 {w : World} {B : Nat} {av : Value} {l : List Int} (fid : FuncId) (k1 : Value) (p : Int → Bool) (hcf : ∀ x w, (callFunc fid #[.int .i64 x, k1]).run Tryd.prog w = .ok (.enter fid #[.int .i64 x, k1]) w) (ha : IntsAt w B av l) (hB : B ≤ w.heap.size)
    (hc : ∀ x, x ∈ l → ∀ w1, Below w.heap.size w w1 → Calls Tryd.prog fid #[.int .i64 x, k1] w1 fun e w' => e = .returned (.bool (p x)) ∧ Below w1.heap.size w1 w') :
    Calls Tryd.prog 25 #[av, .func (.func fid) #[] #[k1]] w fun e w' => e = .returned (.bool (l.any p)) ∧ Below w.heap.size w w' := by
  have HI := Lib.hid (index1 fid k1 p hcf ha hB hc)
  obtain ⟨ao, cap, b, off, rfl, hcm, _, _, _⟩ := ha
  clear hc hcf
  go_enter Tryd.func25, Tryd.ntmps25
  go_wp2_with fail
  refine HI.out.mono ?_
  rintro e w1 ⟨⟨z, rfl, hz⟩, hb⟩
  have HB := Lib.hid hb
  have HZ := Lib.hid hz
  clear hb HI
  clear hz
  go_wp2
  go_ret
  exact ⟨by rw [← HZ.out]; rfl, HB.out⟩

set_option maxHeartbeats 1000000 in
set_option maxRecDepth 100000 in
/-- slices.IndexFunc of a closure that does what p says -/
theorem indexC {w : World} {B : Nat} {av : Value} {l : List Int} (fid : FuncId) (k1 : Value) (p : Int → Bool) (hcf : ∀ x w, (callFunc fid #[.int .i64 x, k1]).run Tryd.prog w = .ok (.enter fid #[.int .i64 x, k1]) w) (ha : IntsAt w B av l) (hB : B ≤ w.heap.size)
    (hc : ∀ x, x ∈ l → ∀ w1, Below w.heap.size w w1 → Calls Tryd.prog fid #[.int .i64 x, k1] w1 fun e w' => e = .returned (.bool (p x)) ∧ Below w1.heap.size w1 w') :
    Calls Tryd.prog 48 #[av, .func (.func fid) #[] #[k1]] w fun e w' => (∃ z : Int, e = .returned (.int .i64 z) ∧ decide (0 ≤ z) = l.any p) ∧ Below w.heap.size w w' := by
  have HCC := Lib.hid hc
  obtain ⟨ao, cap, b, off, rfl, hcm, ha, hc, h64⟩ := ha
  have HA := Lib.hid ha
  have HC := Lib.hid hc
  unfold maxLen at hcm
  clear ha hc h64
  go_enter Tryd.func48, Tryd.ntmps48
  go_wp2
  go_loopw [8] (fun it wr => ∃ k : Nat, k ≤ l.length ∧ it = .int .i64 k ∧ Below w.heap.size w wr ∧ Hid (∀ j, j < k → p (l.getD j 0) = false)) (fun it _ => l.length - (intOf it).toNat)
  case atStart => exact ⟨0, Nat.zero_le _, rfl, Below.refl _ _, Lib.hid (fun j hj => absurd hj (Nat.not_lt_zero _))⟩
  case round =>
    obtain ⟨k, hk, rfl, hb, hg⟩ := hrel
    have HB := Lib.hid hb
    have hws := hb.size
    by_cases hlt : k < l.length
    · obtain ⟨rfl, hbB⟩ := HA.out (by intro h0; rw [h0] at hlt; simp at hlt)
      have q : wr.cell? ⟨b, off + k, none⟩ = some (.int .i64 (l.getD k 0)) := by rw [hb.cell (show (⟨b, off + k, none⟩ : Addr).block < w.heap.size from by show b < _; omega)]; exact HC.out k hlt
      have hmem : l.getD k 0 ∈ l := by rw [List.getD_eq_getElem?_getD, List.getElem?_eq_getElem hlt]; exact List.getElem_mem hlt
      have HCL := Lib.hid (HCC.out _ hmem wr hb)
      have HT : Hid (p (l.getD k 0) = true → l.any p = true) := Lib.hid (fun h => List.any_eq_true.2 ⟨_, hmem, h⟩)
      have HF : Hid (p (l.getD k 0) = false → ∀ j, j < k + 1 → p (l.getD j 0) = false) := Lib.hid (fun h j hj => by
        by_cases e : j = k
        · rw [e]; exact h
        · exact hg.out j (by omega))
      generalize p (l.getD k 0) = r at *
      generalize l.getD k 0 = x at *
      clear hb hg hmem
      cases r
      · have HF2 := Lib.hid (HF.out rfl)
        clear HF HT
        go_wp2_with fail
        refine HCL.out.mono ?_
        rintro e w1 ⟨rfl, hb1⟩
        have HB1 := Lib.hid (HB.out.trans (hb1.mono hws))
        clear hb1
        go_wp2
        go_roundw
        case rel => exact ⟨k + 1, by omega, by go_num, HB1.out, HF2⟩
        case measure => simp [intOf]; omega
      · have HT2 := Lib.hid (HT.out rfl)
        clear HF HT
        go_wp2_with fail
        refine HCL.out.mono ?_
        rintro e w1 ⟨rfl, hb1⟩
        have HB1 := Lib.hid (HB.out.trans (hb1.mono hws))
        clear hb1
        go_wp2
        go_ret
        exact ⟨⟨_, rfl, by rw [HT2.out, decide_eq_true (by omega)]⟩, HB1.out⟩
    · obtain rfl : k = l.length := by omega
      have HE : Hid (l.any p = false) := Lib.hid (by
        rw [List.any_eq_false]
        intro c hl
        obtain ⟨j, hj, rfl⟩ := List.mem_iff_getElem.1 hl
        have := hg.out j hj
        rw [List.getD_eq_getElem?_getD, List.getElem?_eq_getElem hj] at this
        simpa using this)
      clear hg hb
      go_wp2
      go_ret
      exact ⟨⟨-1, rfl, by rw [HE.out]; rfl⟩, HB.out⟩
theorem containsC {w : World} {B : Nat} {av : Value} {l : List Int} (fid : FuncId) (k1 : Value) (p : Int → Bool) (hcf : ∀ x w, (callFunc fid #[.int .i64 x, k1]).run Tryd.prog w = .ok (.enter fid #[.int .i64 x, k1]) w) (ha : IntsAt w B av l) (hB : B ≤ w.heap.size)
    (hc : ∀ x, x ∈ l → ∀ w1, Below w.heap.size w w1 → Calls Tryd.prog fid #[.int .i64 x, k1] w1 fun e w' => e = .returned (.bool (p x)) ∧ Below w1.heap.size w1 w') :
    Calls Tryd.prog 24 #[av, .func (.func fid) #[] #[k1]] w fun e w' => e = .returned (.bool (l.any p)) ∧ Below w.heap.size w w' := by
  have HI := Lib.hid (indexC fid k1 p hcf ha hB hc)
  obtain ⟨ao, cap, b, off, rfl, hcm, _, _, _⟩ := ha
  clear hc hcf
  go_enter Tryd.func24, Tryd.ntmps24
  go_wp2_with fail
  refine HI.out.mono ?_
  rintro e w1 ⟨⟨z, rfl, hz⟩, hb⟩
  have HB := Lib.hid hb
  have HZ := Lib.hid hz
  clear hb HI
  clear hz
  go_wp2
  go_ret
  exact ⟨by rw [← HZ.out]; rfl, HB.out⟩

end Go.Proofs.YtojjjndhabjhdaaDoor.satLf
namespace Go.Proofs.YtojjjndhabjhdaaDoor.satLg
set_option linter.unusedSimpArgs false
set_option linter.unusedVariables false
open Go.ChangeShapes Go.WideShapes Go.ChangeAt Go.RowKit proofP proofQ owns cls satP satQ satR satA satF satB satC satD satE satG satH satI satJ satK satM satN satU satLf
attribute [local go_sem ↓] Go.wp_at_zero Go.wp_at_succ

/-- a literal that is refused -/
def badl (V l : Int) : Bool := decide (l = 0) || (decide (l < -V) || decide (V < l))
set_option maxRecDepth 100000 in
theorem badl_any {w : World} (V l : Int) (b1 : Nat) (hV : 0 ≤ V ∧ V ≤ 20000) (h1 : w.cell? ⟨b1, 0, none⟩ = some (.int .i64 V)) :
    Calls Tryd.prog 23 #[.int .i64 l, .pointer (some ⟨b1, 0, none⟩)] w fun e w' => e = .returned (.bool (badl V l)) ∧ w' = w := by
  have hwr : IntKind.i64.wrap (-V) = -V := IntWalk.i64_in _ (by omega)
  unfold badl
  by_cases e1 : l = 0
  · subst e1
    rw [show (decide ((0 : Int) = 0) || (decide ((0 : Int) < -V) || decide (V < 0))) = true from by simp]
    go_enter Tryd.func23, Tryd.ntmps23
    go_wp2
    go_ret
    exact ⟨rfl, rfl⟩
  · have hb : (l == 0) = false := beq_eq_false_iff_ne.2 e1
    rw [decide_eq_false e1, Bool.false_or]
    clear e1
    by_cases e2 : l < -V
    · rw [decide_eq_true e2, Bool.true_or]
      go_enter Tryd.func23, Tryd.ntmps23
      go_wp2
      go_ret
      exact ⟨rfl, rfl⟩
    · rw [decide_eq_false e2, Bool.false_or]
      go_enter Tryd.func23, Tryd.ntmps23
      go_wp2
      go_ret
      exact ⟨rfl, rfl⟩
/-- which error: 0 none, 1 a number out of range, 2 too many clauses -/
def chk (V : Int) (cs : List (List Int)) (asm : List Int) (r k b : Int) : Nat :=
  if V < 0 ∨ 20000 < V then 1 else if (cs.any fun c => c.any (badl V)) = true then 1 else if asm.any (badl V) = true then 1 else if r < 0 ∨ k < 0 ∨ b < 0 then 1 else if 200000 < cs.length then 2 else 0
def errv (e1 e2 : Value) (n : Nat) : Value := if n = 0 then Value.nilIface else if n = 1 then e1 else e2
set_option maxHeartbeats 4000000 in
set_option maxRecDepth 100000 in
theorem checked_any {w : World} {B : Nat} {cv av : Value} {cs : List (List Int)} {asm : List Int} (V r k b : Int) (re : Bool) (e1 e2 : Value) (hc : ClsAt w B cv cs) (ha : IntsAt w B av asm) (hB : B ≤ w.heap.size) (hg : 1 < w.heap.size) (g9 : w.cell? ⟨0, 0, none⟩ = some e1) (g11 : w.cell? ⟨1, 0, none⟩ = some e2) :
    Calls Tryd.prog 10 #[cv, .int .i64 V, av, .agg #[.int .i64 r, .int .i64 k, .bool re, .int .i64 b]] w fun e w' => e = .returned (errv e1 e2 (chk V cs asm r k b)) ∧ Below w.heap.size w w' := by
  have hA : Below w.heap.size w ((w.alloc (.cells #[.int .i64 V] 3)).alloc (.cells #[.int .i64 r, .int .i64 k, .bool re, .int .i64 b] 36)) := ((Below.refl _ _).alloc (Nat.le_refl _) _).alloc (by simp) _
  have gA9 := (hA.cell (show (⟨0, 0, none⟩ : Addr).block < _ from by show 0 < _; omega)).trans g9
  have gA11 := (hA.cell (show (⟨1, 0, none⟩ : Addr).block < _ from hg)).trans g11
  have HA := Lib.hid hA
  clear hA
  by_cases h1 : V < 0
  · have he : chk V cs asm r k b = 1 := by unfold chk; rw [if_pos (.inl h1)]
    rw [he]
    show Calls _ _ _ _ fun e w' => e = .returned e1 ∧ _
    clear he hc ha g11 gA11
    go_enter Tryd.func10, Tryd.ntmps10
    go_wp2
    go_ret
    exact ⟨rfl, HA.out⟩
  · by_cases h2 : 20000 < V
    · have he : chk V cs asm r k b = 1 := by unfold chk; rw [if_pos (.inr h2)]
      rw [he]
      show Calls _ _ _ _ fun e w' => e = .returned e1 ∧ _
      clear he hc ha g11 gA11
      go_enter Tryd.func10, Tryd.ntmps10
      go_wp2
      go_ret
      exact ⟨rfl, HA.out⟩
    · have hVr : 0 ≤ V ∧ V ≤ 20000 := by omega
      have HCH : Hid (chk V cs asm r k b = if (cs.any fun c => c.any (badl V)) = true then 1 else if asm.any (badl V) = true then 1 else if r < 0 ∨ k < 0 ∨ b < 0 then 1 else if 200000 < cs.length then 2 else 0) := Lib.hid (by unfold chk; rw [if_neg (by omega)])
      obtain ⟨ac, capc, bc, offc, vs, rfl, hmc, hac, hcc, hnc⟩ := hc
      have cV : ((w.alloc (.cells #[.int .i64 V] 3)).alloc (.cells #[.int .i64 r, .int .i64 k, .bool re, .int .i64 b] 36)).cell? ⟨w.heap.size, 0, none⟩ = some (.int .i64 V) := by simp
      have hWo := Whole.new (w.alloc (.cells #[.int .i64 V] 3)) 36 [.int .i64 r, .int .i64 k, .bool re, .int .i64 b]
      have hszI : (w.alloc (.cells #[.int .i64 V] 3)).heap.size = w.heap.size + 1 := by simp
      rw [hszI] at hWo
      have cR : ((w.alloc (.cells #[.int .i64 V] 3)).alloc (.cells #[.int .i64 r, .int .i64 k, .bool re, .int .i64 b] 36)).cell? ⟨w.heap.size + 1, 0, none⟩ = some (.int .i64 r) := hWo.cell 0
      have cK : ((w.alloc (.cells #[.int .i64 V] 3)).alloc (.cells #[.int .i64 r, .int .i64 k, .bool re, .int .i64 b] 36)).cell? ⟨w.heap.size + 1, 1, none⟩ = some (.int .i64 k) := hWo.cell 1
      have cB : ((w.alloc (.cells #[.int .i64 V] 3)).alloc (.cells #[.int .i64 r, .int .i64 k, .bool re, .int .i64 b] 36)).cell? ⟨w.heap.size + 1, 3, none⟩ = some (.int .i64 b) := hWo.cell 3
      clear hWo hszI
      unfold maxLen at hmc
      have HAC := Lib.hid hac
      have HCC := Lib.hid hcc
      have HNC := Lib.hid hnc
      have HAI := Lib.hid ha
      clear ha hac hcc hnc
      go_enter Tryd.func10, Tryd.ntmps10
      go_wp2
      have hszA : ((w.alloc (.cells #[.int .i64 V] 3)).alloc (.cells #[.int .i64 r, .int .i64 k, .bool re, .int .i64 b] 36)).heap.size = w.heap.size + 2 := by simp
      generalize (w.alloc (.cells #[.int .i64 V] 3)).alloc (.cells #[.int .i64 r, .int .i64 k, .bool re, .int .i64 b] 36) = wA at *
      go_loopw [22] (fun it wr => ∃ j : Nat, j ≤ cs.length ∧ it = .int .i64 j ∧ Below wA.heap.size wA wr ∧ Hid (∀ i, i < j → (cs.getD i []).any (badl V) = false)) (fun it _ => cs.length - (intOf it).toNat)
      case atStart => exact ⟨0, Nat.zero_le _, rfl, Below.refl _ _, Lib.hid fun i hi => absurd hi (Nat.not_lt_zero _)⟩
      case round =>
        obtain ⟨j, hj, rfl, hb, hg0⟩ := hrel
        have hws := hb.size
        by_cases hlt : j < cs.length
        · obtain ⟨rfl, hbB⟩ := HAC.out (by intro h0; rw [h0] at hlt; simp at hlt)
          have q : wr.cell? ⟨bc, offc + j, none⟩ = some (vs j) := by
            rw [hb.cell (show (⟨bc, offc + j, none⟩ : Addr).block < wA.heap.size from by show bc < _; omega), HA.out.cell (show (⟨bc, offc + j, none⟩ : Addr).block < w.heap.size from by show bc < _; omega)]
            exact HCC.out j hlt
          have hI := ((HNC.out j hlt).keep (HA.out.mono hB)).keep (hb.mono (by omega))
          have HCT := Lib.hid (containsC 23 (.pointer (some ⟨w.heap.size, 0, none⟩)) (badl V) (fun x w => run_enter Tryd.func23 (by kernel_rfl) (by kernel_rfl) _ _) hI (by omega) (fun x hx w1 hb1 => (badl_any V x w.heap.size hVr ((hb1.cell (by show w.heap.size < _; omega)).trans ((hb.cell (by show w.heap.size < _; omega)).trans cV))).mono (by rintro e w' ⟨rfl, rfl⟩; exact ⟨rfl, Below.refl _ _⟩)))
          have hmem : cs.getD j [] ∈ cs := by rw [List.getD_eq_getElem?_getD, List.getElem?_eq_getElem hlt]; exact List.getElem_mem hlt
          have HT : Hid ((cs.getD j []).any (badl V) = true → chk V cs asm r k b = 1) := Lib.hid fun h => by rw [HCH.out, if_pos (List.any_eq_true.2 ⟨_, hmem, h⟩)]
          have HF : Hid ((cs.getD j []).any (badl V) = false → ∀ i, i < j + 1 → (cs.getD i []).any (badl V) = false) := Lib.hid (fun h i hi => by
            by_cases e : i = j
            · rw [e]; exact h
            · exact hg0.out i (by omega))
          have HB := Lib.hid hb
          generalize (cs.getD j []).any (badl V) = bb at *
          generalize cs.getD j [] = cj at *
          clear hb hg0 hmem hI
          cases bb
          · have HF2 := Lib.hid (HF.out rfl)
            clear HF HT
            go_wp2_with fail
            refine HCT.out.mono ?_
            rintro e w1 ⟨rfl, hb1⟩
            have HB1 := Lib.hid (HB.out.trans (hb1.mono hws))
            clear hb1
            go_wp2
            go_roundw
            case rel => exact ⟨j + 1, by omega, by go_num, HB1.out, HF2⟩
            case measure => simp [intOf]; omega
          · have HT2 := Lib.hid (HT.out rfl)
            clear HF HT
            go_wp2_with fail
            refine HCT.out.mono ?_
            rintro e w1 ⟨rfl, hb1⟩
            have hB1 := HB.out.trans (hb1.mono hws)
            have n9 : w1.cell? ⟨0, 0, none⟩ = some e1 := (hB1.cell (show (⟨0, 0, none⟩ : Addr).block < _ from by show 0 < _; omega)).trans gA9
            have HB1 := Lib.hid (HA.out.trans (hB1.mono (by omega)))
            clear hb1 hB1
            go_wp2
            go_ret
            exact ⟨by rw [HT2.out]; rfl, HB1.out⟩
        · obtain rfl : j = cs.length := by omega
          have HNO : Hid ((cs.any fun c => c.any (badl V)) = false) := Lib.hid (by
            rw [List.any_eq_false]
            intro c hl
            obtain ⟨i, hi, rfl⟩ := List.mem_iff_getElem.1 hl
            have := hg0.out i hi
            rw [List.getD_eq_getElem?_getD, List.getElem?_eq_getElem hi] at this
            simpa using this)
          have hI := (HAI.out.keep (HA.out.mono hB)).keep (hb.mono (by omega))
          have HCT := Lib.hid (contains1 23 (.pointer (some ⟨w.heap.size, 0, none⟩)) (badl V) (fun x w => run_enter Tryd.func23 (by kernel_rfl) (by kernel_rfl) _ _) hI (by omega) (fun x hx w1 hb1 => (badl_any V x w.heap.size hVr ((hb1.cell (by show w.heap.size < _; omega)).trans ((hb.cell (by show w.heap.size < _; omega)).trans cV))).mono (by rintro e w' ⟨rfl, rfl⟩; exact ⟨rfl, Below.refl _ _⟩)))
          have HB := Lib.hid hb
          clear hg0 hb hI
          have HC2 : Hid (chk V cs asm r k b = if asm.any (badl V) = true then 1 else if r < 0 ∨ k < 0 ∨ b < 0 then 1 else if 200000 < cs.length then 2 else 0) := Lib.hid (by rw [HCH.out, HNO.out]; rfl)
          generalize asm.any (badl V) = bb at *
          go_wp2_with fail
          refine HCT.out.mono ?_
          rintro e w1 ⟨rfl, hb1⟩
          have hB1 := HB.out.trans (hb1.mono hws)
          have n9 : w1.cell? ⟨0, 0, none⟩ = some e1 := (hB1.cell (show (⟨0, 0, none⟩ : Addr).block < _ from by show 0 < _; omega)).trans gA9
          have n11 : w1.cell? ⟨1, 0, none⟩ = some e2 := (hB1.cell (show (⟨1, 0, none⟩ : Addr).block < _ from by show 1 < _; omega)).trans gA11
          have HB1 := Lib.hid (HA.out.trans (hB1.mono (by omega)))
          have HBx := Lib.hid hB1
          clear hb1 hB1 HCT
          cases bb
          · have HC3 : Hid (chk V cs asm r k b = if r < 0 ∨ k < 0 ∨ b < 0 then 1 else if 200000 < cs.length then 2 else 0) := Lib.hid (by rw [HC2.out]; rfl)
            have nR := (HBx.out.cell (show (⟨w.heap.size + 1, 0, none⟩ : Addr).block < _ from by show w.heap.size + 1 < _; omega)).trans cR
            have nK := (HBx.out.cell (show (⟨w.heap.size + 1, 1, none⟩ : Addr).block < _ from by show w.heap.size + 1 < _; omega)).trans cK
            have nB := (HBx.out.cell (show (⟨w.heap.size + 1, 3, none⟩ : Addr).block < _ from by show w.heap.size + 1 < _; omega)).trans cB
            clear cR cK cB
            by_cases o1 : r < 0
            · have HT2 : Hid (chk V cs asm r k b = 1) := Lib.hid (by rw [HC3.out, if_pos (.inl o1)])
              go_wp2
              go_ret
              exact ⟨by rw [HT2.out]; rfl, HB1.out⟩
            · by_cases o2 : k < 0
              · have HT2 : Hid (chk V cs asm r k b = 1) := Lib.hid (by rw [HC3.out, if_pos (.inr (.inl o2))])
                go_wp2
                go_ret
                exact ⟨by rw [HT2.out]; rfl, HB1.out⟩
              · by_cases o3 : b < 0
                · have HT2 : Hid (chk V cs asm r k b = 1) := Lib.hid (by rw [HC3.out, if_pos (.inr (.inr o3))])
                  go_wp2
                  go_ret
                  exact ⟨by rw [HT2.out]; rfl, HB1.out⟩
                · by_cases o4 : 200000 < cs.length
                  · have HT2 : Hid (chk V cs asm r k b = 2) := Lib.hid (by rw [HC3.out, if_neg (by omega), if_pos o4])
                    have o5 : (200000 : Int) < (cs.length : Int) := by omega
                    clear o4
                    go_wp2
                    go_ret
                    exact ⟨by rw [HT2.out]; rfl, HB1.out⟩
                  · have HT2 : Hid (chk V cs asm r k b = 0) := Lib.hid (by rw [HC3.out, if_neg (by omega), if_neg o4])
                    have o5 : ¬ (200000 : Int) < (cs.length : Int) := by omega
                    clear o4
                    go_wp2
                    go_ret
                    exact ⟨by rw [HT2.out]; rfl, HB1.out⟩
          · have HT2 : Hid (chk V cs asm r k b = 1) := Lib.hid (by rw [HC2.out]; rfl)
            go_wp2
            go_ret
            exact ⟨by rw [HT2.out]; rfl, HB1.out⟩
end Go.Proofs.YtojjjndhabjhdaaDoor.satLg
