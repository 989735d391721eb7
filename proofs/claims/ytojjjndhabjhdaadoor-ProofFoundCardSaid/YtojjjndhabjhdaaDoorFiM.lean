/-
  What a run answers; its memory.
  How a run ends.
-/
import Derived.Test.YtojjjndhabjhdaaDoorSatSd
import Derived.Test.YtojjjndhabjhdaaDoorSatRk
namespace Go.Proofs.YtojjjndhabjhdaaDoor.satSe
set_option linter.unusedSimpArgs false
set_option linter.unusedVariables false
open Go.ChangeShapes Go.WideShapes Go.ChangeAt Go.RowKit proofP proofQ owns cls satP satQ satR satS satA satF satB satC satD satE satG satH satI satJ satK satM satN satU satV satO satW satX satZ satSa satSb satSc satCa satCb satCc satCd satCe satCf satRi satRj satRk satSd

def _root_.Go.Proofs.YtojjjndhabjhdaaDoor.satA.SS.rsl (s : SS) (r : List Value) (v : Value) : SS := { s with res := r, resv := v }
def zres : List Value := [.int .i64 0, .slice none 0 0, .slice none 0 0, .slice none 0 0, .int .i64 0]
/-- a later world: blocks from B on are as they were -/
def Low (B : Nat) (w w2 : World) : Prop := w.heap.size ≤ w2.heap.size ∧ ∀ k, B ≤ k → k < w.heap.size → w2.heap[k]? = w.heap[k]?
theorem Low.refl (B : Nat) (w : World) : Low B w w := ⟨Nat.le_refl _, fun _ _ _ => rfl⟩
theorem Low.trans {B : Nat} {w w1 w2 : World} (h : Low B w w1) (k : Low B w1 w2) : Low B w w2 :=
  ⟨Nat.le_trans h.1 k.1, fun i h1 h2 => (k.2 i h1 (Nat.lt_of_lt_of_le h2 h.1)).trans (h.2 i h1 h2)⟩
theorem Low.mono {B B' : Nat} {w w2 : World} (hB : B ≤ B') (h : Low B w w2) : Low B' w w2 := ⟨h.1, fun i h1 h2 => h.2 i (Nat.le_trans hB h1) h2⟩
theorem Low.below {B : Nat} {w w2 : World} (h : Below w.heap.size w w2) : Low B w w2 := ⟨h.size, fun i _ h2 => h.block i h2⟩
theorem Low.grown {B rb : Nat} {w w2 : World} (h : w.grownBy w2 (some rb)) (hr : rb < B) : Low B w w2 := ⟨h.size, fun i h1 h2 => h.block i h2 (by intro e; cases e; omega)⟩
theorem Low.row {B : Nat} {w w2 : World} {e : TypeId} {v : Value} {n : Nat} {xs : List Value} (hl : Low B w w2) (h : w.ownsRow B e 1 v n xs) : w2.ownsRow B e 1 v n xs := by
  refine ⟨h.1, ?_⟩
  rcases h.2 with h1 | ⟨g, cap, cur, hv, hb, r⟩
  · exact .inl h1
  · exact .inr ⟨g, cap, cur, hv, hb, (hl.2 g hb (Array.getElem?_eq_some_iff.1 r.1).1).trans r.1, r.2⟩
/-- clauses that stay, whatever is written below -/
def Nil0 (v : Value) : Prop := ∀ n c, v = .slice none n c → n = 0 ∧ c = 0
/-- nil clauses are empty -/
def NilC (w : World) (v : Value) : Prop := ∀ b off n cap, v = .slice (some ⟨b, off, none⟩) n cap → ∀ i, i < n → ∀ u, w.cell? ⟨b, off + i, none⟩ = some u → Nil0 u
def ClsK (B : Nat) (w : World) (v : Value) (l : List (List Int)) : Prop := ∀ w2, Low B w w2 → ClsAt w2 w2.heap.size v l ∧ NilC w2 v
theorem ClsK.at {B : Nat} {w : World} {v : Value} {l : List (List Int)} (h : ClsK B w v l) : ClsAt w w.heap.size v l := (h w (Low.refl _ _)).1
theorem ClsK.nil {B : Nat} {w : World} {v : Value} {l : List (List Int)} (h : ClsK B w v l) : NilC w v := (h w (Low.refl _ _)).2
theorem ClsK.low {B : Nat} {w w2 : World} {v : Value} {l : List (List Int)} (h : ClsK B w v l) (k : Low B w w2) : ClsK B w2 v l := fun w3 k3 => h w3 (k.trans k3)
theorem ClsK.mono {B B' : Nat} {w : World} {v : Value} {l : List (List Int)} (h : ClsK B w v l) (hB : B' ≤ B) : ClsK B' w v l := fun w3 k3 => h w3 (k3.mono hB)
section
variable {w w' : World} {B bp : Nat} {s : SS} {F : Ix → Ent}
theorem five_row (w : World) (a0 a1 a2 a3 a4 : Value) (T : TypeId) : (w.alloc (.cells #[a0, a1, a2, a3, a4] T)).ownsRow w.heap.size T 1 (.slice (some ⟨w.heap.size, 0, none⟩) 5 5) 5 [a0, a1, a2, a3, a4] :=
  ⟨rfl, .inr ⟨w.heap.size, 5, #[a0, a1, a2, a3, a4], rfl, Nat.le_refl _, heap_alloc_new w _, Nat.le_refl _, by unfold maxLen; omega, rfl, rfl⟩⟩
/-- the answer's cells are made -/
theorem _root_.Go.Proofs.YtojjjndhabjhdaaDoor.satA.Mem.newRes (h : Mem w B bp s F) : ∃ F', Mem (w.alloc (.cells #[.int .i64 0, .slice none 0 0, .slice none 0 0, .slice none 0 0, .int .i64 0] 26)) B bp (s.rsl zres (.slice (some ⟨w.heap.size, 0, none⟩) 5 5)) F' ∧ ∀ k, k ≠ .res → (F' k).v = (F k).v := by
  have hb : Below w.heap.size w (w.alloc (.cells #[.int .i64 0, .slice none 0 0, .slice none 0 0, .slice none 0 0, .int .i64 0] 26)) := (Below.refl _ _).alloc (Nat.le_refl _) _
  have hBw : B ≤ w.heap.size := Nat.le_trans h.hB (Nat.le_of_lt h.obj.lt)
  obtain ⟨O1, W1, R1, n1, n2⟩ := h.grow (k := .res) (v' := .slice (some ⟨w.heap.size, 0, none⟩) 5 5) (xs' := zres) (grown_below hb _) ((five_row w _ _ _ _ _ _).mono hBw) (.inr (.inr ⟨_, rfl, Nat.le_refl _⟩))
  have hne : ∀ j, (upd F .res ⟨ty .res, .slice (some ⟨w.heap.size, 0, none⟩) 5 5, zres⟩ j).v.ownBlock ≠ some bp := by
    intro j
    by_cases e : j = .res
    · subst e; rw [upd_same]; exact n1
    · rw [upd_other _ _ e]; exact h.ne j
  refine ⟨_, ⟨O1, W1, h.hB, hne, fun j => ?_, fun j => ?_, fun i hi => ?_, fun i hi => ?_, h.rj, by rw [upd_same]; rfl⟩, fun k hk => by rw [upd_other _ _ hk]⟩
  · by_cases e : j = .res
    · subst e; rw [upd_same]
    · rw [upd_other _ _ e]; exact h.te j
  · by_cases e : j = .res
    · subst e; rw [upd_same]; rfl
    · rw [upd_other _ _ e, h.xs j]
      cases j <;> first | rfl | exact absurd rfl e
  · rw [upd_other _ _ (by simp)]
    exact R1 i hi
  · refine ⟨(h.rb i hi).1, (h.rb i hi).2.1, fun j => ?_⟩
    by_cases e : j = .res
    · subst e; rw [upd_same]; exact n2 i hi
    · rw [upd_other _ _ e]; exact (h.rb i hi).2.2 j
/-- .. and written -/
theorem _root_.Go.Proofs.YtojjjndhabjhdaaDoor.satA.Mem.setRes (h : Mem w B bp s F) {rb : Nat} (hv : s.resv = .slice (some ⟨rb, 0, none⟩) 5 5) (hr : s.res = zres) (x0 x1 x2 x3 x4 : Value) :
    (w.cell? ⟨rb, 0, none⟩ = some (.int .i64 0) ∧ w.cell? ⟨rb, 1, none⟩ = some (.slice none 0 0) ∧ w.cell? ⟨rb, 2, none⟩ = some (.slice none 0 0) ∧ w.cell? ⟨rb, 3, none⟩ = some (.slice none 0 0) ∧ w.cell? ⟨rb, 4, none⟩ = some (.int .i64 0)) ∧ (∀ j, w.frozen? ⟨rb, j, none⟩ = false) ∧
      w.grownBy (((((w.setCell ⟨rb, 0, none⟩ x0).setCell ⟨rb, 1, none⟩ x1).setCell ⟨rb, 2, none⟩ x2).setCell ⟨rb, 3, none⟩ x3).setCell ⟨rb, 4, none⟩ x4) (some rb) ∧
      ∃ F', Mem (((((w.setCell ⟨rb, 0, none⟩ x0).setCell ⟨rb, 1, none⟩ x1).setCell ⟨rb, 2, none⟩ x2).setCell ⟨rb, 3, none⟩ x3).setCell ⟨rb, 4, none⟩ x4) B bp (s.rsl [x0, x1, x2, x3, x4] s.resv) F' ∧ fvs F' = fvs F ∧ B ≤ rb ∧ (((((w.setCell ⟨rb, 0, none⟩ x0).setCell ⟨rb, 1, none⟩ x1).setCell ⟨rb, 2, none⟩ x2).setCell ⟨rb, 3, none⟩ x3).setCell ⟨rb, 4, none⟩ x4).cell? ⟨rb, 0, none⟩ = some x0 ∧ (((((w.setCell ⟨rb, 0, none⟩ x0).setCell ⟨rb, 1, none⟩ x1).setCell ⟨rb, 2, none⟩ x2).setCell ⟨rb, 3, none⟩ x3).setCell ⟨rb, 4, none⟩ x4).cell? ⟨rb, 1, none⟩ = some x1 ∧ (((((w.setCell ⟨rb, 0, none⟩ x0).setCell ⟨rb, 1, none⟩ x1).setCell ⟨rb, 2, none⟩ x2).setCell ⟨rb, 3, none⟩ x3).setCell ⟨rb, 4, none⟩ x4).cell? ⟨rb, 2, none⟩ = some x2 ∧ (((((w.setCell ⟨rb, 0, none⟩ x0).setCell ⟨rb, 1, none⟩ x1).setCell ⟨rb, 2, none⟩ x2).setCell ⟨rb, 3, none⟩ x3).setCell ⟨rb, 4, none⟩ x4).cell? ⟨rb, 3, none⟩ = some x3 ∧ (((((w.setCell ⟨rb, 0, none⟩ x0).setCell ⟨rb, 1, none⟩ x1).setCell ⟨rb, 2, none⟩ x2).setCell ⟨rb, 3, none⟩ x3).setCell ⟨rb, 4, none⟩ x4).cell? ⟨rb, 4, none⟩ = some x4 := by
  have hv' : (F .res).v = .slice (some ⟨rb, 0, none⟩) 5 5 := h.rv.trans hv
  have hx : (F .res).xs = zres := by rw [h.xs]; exact hr
  have hc : ∀ j, j < 5 → w.cell? ⟨rb, j, none⟩ = zres[j]? := fun j hj => by
    rw [h.own.cell hv' j (by rw [hx]; exact hj), hx]
  have hB := ((h.own.1 .res).lt rb (by rw [hv']; rfl)).1
  have step : ∀ {w : World} {F : Ix → Ent} {r : List Value} (j : Nat) (x : Value), Mem w B bp (s.rsl r s.resv) F → (F .res).v = .slice (some ⟨rb, 0, none⟩) 5 5 → ∃ F', Mem (w.setCell ⟨rb, j, none⟩ x) B bp (s.rsl (r.set j x) s.resv) F' ∧ fvs F' = fvs F ∧ (F' .res).v = .slice (some ⟨rb, 0, none⟩) 5 5 := by
    intro w F r j x M hvv
    obtain ⟨M2, _⟩ := M.write hvv j x (s' := s.rsl (r.set j x) s.resv) rfl (by intro i hi; cases i <;> first | rfl | exact absurd rfl hi) rfl rfl rfl rfl rfl
    exact ⟨_, M2, fvs_set _ _ _, by rw [upd_same]; exact hvv⟩
  have M0 : Mem w B bp (s.rsl zres s.resv) F := h.like rfl (by intro k; cases k <;> first | rfl | exact hr.symm) rfl rfl rfl rfl
  obtain ⟨F1, M1, k1, v1⟩ := step 0 x0 M0 hv'
  obtain ⟨F2, M2, k2, v2⟩ := step 1 x1 M1 v1
  obtain ⟨F3, M3, k3, v3⟩ := step 2 x2 M2 v2
  obtain ⟨F4, M4, k4, v4⟩ := step 3 x3 M3 v3
  obtain ⟨F5, M5, k5, v5⟩ := step 4 x4 M4 v4
  have hx5 : (F5 .res).xs = [x0, x1, x2, x3, x4] := M5.xs .res
  have hc5 : ∀ j, j < 5 → (((((w.setCell ⟨rb, 0, none⟩ x0).setCell ⟨rb, 1, none⟩ x1).setCell ⟨rb, 2, none⟩ x2).setCell ⟨rb, 3, none⟩ x3).setCell ⟨rb, 4, none⟩ x4).cell? ⟨rb, j, none⟩ = [x0, x1, x2, x3, x4][j]? := fun j hj => by
    rw [M5.own.cell v5 j (by rw [hx5]; exact hj), hx5]
  exact ⟨⟨hc 0 (by omega), hc 1 (by omega), hc 2 (by omega), hc 3 (by omega), hc 4 (by omega)⟩, fun j => h.own.frozen hv' j, set5_grown w rb x0 x1 x2 x3 x4, F5, M5, k5.trans (k4.trans (k3.trans (k2.trans k1))), hB, hc5 0 (by omega), hc5 1 (by omega), hc5 2 (by omega), hc5 3 (by omega), hc5 4 (by omega)⟩
/-- the log, read as clauses -/
theorem _root_.Go.Proofs.YtojjjndhabjhdaaDoor.satA.Mem.logCls (h : Mem w B bp s F) (hV : s.V ≤ 20000) (hl : ∀ i, i < s.logn → ∃ K, s.lg i = clz K ∧ ∀ x, x ∈ K → 2 ≤ x ∧ x < 2 * s.V + 2) : ClsK B w (F .log).v s.logs := by
  intro w2 hw2
  have h1 := hw2.row (h.ownAt .log rfl)
  rw [show cont s (fvs F) .log = (List.range s.logn).map fun i => fvs F (.lit i) from rfl, List.length_map, List.length_range] at h1
  have h2 : s.logs.length = s.logn := by unfold SS.logs; rw [List.length_map, List.length_range]
  refine ⟨ClsAt.ofRow (l := s.logs) (vl := (List.range s.logn).map fun i => fvs F (.lit i)) (by rw [h2]; exact h1) fun i hi => ?_, fun b off n cap he i hi u hu => ?_⟩
  rotate_left
  · obtain ⟨rfl, rfl⟩ : off = 0 ∧ n = s.logn := by
      rcases h1.2 with ⟨e, _⟩ | ⟨g, cap2, cur, e, _⟩
      · rw [e] at he; cases he
      · rw [e] at he; cases he; exact ⟨rfl, rfl⟩
    rw [he] at h1
    have h4 := World.ownsRow.cellAt h1 i (by omega)
    rw [Nat.zero_add, h4, List.getElem?_map, List.getElem?_range hi] at hu
    simp only [Option.map_some, Option.some.injEq] at hu
    subst hu
    have h3 := hw2.row (h.ownAt (.lit i) rfl)
    rw [show cont s (fvs F) (.lit i) = (s.lg i).map zv from rfl, List.length_map] at h3
    intro n c e
    change (F (.lit i)).v = _ at e
    rcases h3.2 with ⟨e2, _⟩ | ⟨g, cap2, cur, e2, _⟩
    · rw [e2] at e; cases e; exact ⟨rfl, rfl⟩
    · rw [e2] at e; cases e
  rw [h2] at hi
  have e1 : ((List.range s.logn).map fun i => fvs F (.lit i)).getD i undef = (F (.lit i)).v := by
    rw [List.getD_eq_getElem?_getD, List.getElem?_map, List.getElem?_range hi]; rfl
  have e2 : s.logs.getD i [] = s.lg i := by
    unfold SS.logs
    rw [List.getD_eq_getElem?_getD, List.getElem?_map, List.getElem?_range hi]; rfl
  rw [e1, e2]
  have h3 := hw2.row (h.ownAt (.lit i) rfl)
  rw [show cont s (fvs F) (.lit i) = (s.lg i).map zv from rfl, List.length_map] at h3
  refine IntsAt.ofRow h3 fun x hx => ?_
  obtain ⟨K, e, hK⟩ := hl i hi
  rw [e] at hx
  obtain ⟨c, hc, rfl⟩ := clz_mem.1 hx
  have := hK c hc
  unfold In64 litOf
  split <;> omega
end
/-- a log that proves what it says -/
def LogOk (cs : List (List Int)) (V : Nat) (logs : List (List Int)) : Prop := ∀ i, i < logs.length → pl (cs ++ logs.take i) (logs.getD i []) = true ∧ ∃ K, logs.getD i [] = clz K ∧ K.Nodup ∧ ∀ x, x ∈ K → 2 ≤ x ∧ x < 2 * V + 2
/-- a clause has a true code -/
def Sats (T : List Nat) (c : List Int) : Prop := ∃ x, x ∈ rowOf c ∧ x ∈ T
/-- so many conflicts at most -/
def cmax : Int := 37748736
def RunOut (cs : List (List Int)) (wanted : List Nat) (V : Nat) (bud rst : Int) (B : Nat) (w : World) (e : Ending) (w' : World) : Prop :=
  ∃ (st conf : Int) (mv cv lv : Value) (logs : List (List Int)), e = .returned (.agg #[.int .i64 st, mv, cv, lv, .int .i64 conf]) ∧ ClsK B w' lv logs ∧ LogOk cs V logs ∧ Below B w w' ∧ 0 ≤ conf ∧ conf ≤ cmax ∧ ((logs.length : Int) ≤ cmax + 1 ∧ (rst = 0 → (logs.length : Int) ≤ 2 ^ V + 1)) ∧
    ((st = 1 ∧ cv = .slice none 0 0 ∧ ∃ T, w'.ownsRow w.heap.size 4 1 mv V (mdl T V V) ∧ (∀ x, x ∈ T → 2 ≤ x ∧ x < 2 * V + 2) ∧ (∀ x, x ∈ T → opp x ∉ T) ∧ (∀ v, 1 ≤ v → v ≤ V → 2 * v ∈ T ∨ 2 * v + 1 ∈ T) ∧ (∀ c, c ∈ cs → Sats T c) ∧ ∀ a, a ∈ wanted → a ∈ T) ∨
     (st = 2 ∧ mv = .slice none 0 0 ∧ ∃ K l, w'.ownsRow w.heap.size 3 1 cv (clz K).length ((clz K).map (Value.int .i64)) ∧ K.Nodup ∧ (∀ x, x ∈ K → x ∈ wanted) ∧ logs = l ++ [clz (K.map opp)]) ∨
     (st = 3 ∧ mv = .slice none 0 0 ∧ cv = .slice none 0 0 ∧ bud < conf ∧ (rst = 0 → bud < 2 ^ V)))
theorem logok {cs : List (List Int)} {V n : Nat} {lg : Nat → List Int} (h : ∀ i, i < n → pl (cs ++ (List.range i).map lg) (lg i) = true ∧ ∃ K, lg i = clz K ∧ K.Nodup ∧ ∀ x, x ∈ K → 2 ≤ x ∧ x < 2 * V + 2) : LogOk cs V ((List.range n).map lg) := by
  intro i hi
  rw [List.length_map, List.length_range] at hi
  have e1 : ((List.range n).map lg).getD i [] = lg i := by rw [List.getD_eq_getElem?_getD, List.getElem?_map, List.getElem?_range hi]; rfl
  have e2 : ((List.range n).map lg).take i = (List.range i).map lg := by
    rw [← List.map_take]
    congr 1
    apply List.ext_getElem?
    intro j
    rw [List.getElem?_take]
    by_cases hj : j < i
    · rw [if_pos hj, List.getElem?_range (by omega), List.getElem?_range hj]
    · rw [if_neg hj, List.getElem?_eq_none (by simp; omega)]
  rw [e1, e2]
  exact h i hi
end Go.Proofs.YtojjjndhabjhdaaDoor.satSe
namespace Go.Proofs.YtojjjndhabjhdaaDoor.satSf
set_option linter.unusedSimpArgs false
set_option linter.unusedVariables false
open Go.ChangeShapes Go.WideShapes Go.ChangeAt Go.RowKit proofP proofQ owns cls satP satQ satR satS satA satF satB satC satD satE satG satH satI satJ satK satM satN satU satV satO satW satX satZ satSa satSb satSc satCa satCb satCc satCd satCe satCf satRi satRj satRk satSd satSe

def set5 (w : World) (rb : Nat) (x0 x1 x2 x3 x4 : Value) : World := ((((w.setCell ⟨rb, 0, none⟩ x0).setCell ⟨rb, 1, none⟩ x1).setCell ⟨rb, 2, none⟩ x2).setCell ⟨rb, 3, none⟩ x3).setCell ⟨rb, 4, none⟩ x4
section
variable {w w3 : World} {B bp rb q : Nat} {X : SS} {F3 : Ix → Ent} {K : List Nat} {lv cv mv : Value} {cs : List (List Int)} {wanted : List Nat} {bud rst : Int}
theorem opp_map {K : List Nat} {V : Nat} (hn : K.Nodup) (hr : ∀ x, x ∈ K → 2 ≤ x ∧ x < 2 * V + 2) : (K.map opp).Nodup ∧ ∀ x, x ∈ K.map opp → 2 ≤ x ∧ x < 2 * V + 2 := by
  refine ⟨?_, fun x hx => ?_⟩
  · rw [List.Nodup, List.pairwise_map]
    exact hn.imp fun h e => h (opp_inj e)
  · obtain ⟨y, hy, rfl⟩ := List.mem_map.1 hx
    exact opp_rng2 (hr y hy)
theorem fin_unsat (M3 : Mem w3 B bp (X.lgs (X.logn + 1) (updN X.lg X.logn (clz (K.map opp)))) F3) (hlv : (F3 .log).v = lv) (hcv : w3.ownsRow q 3 1 cv (clz K).length ((clz K).map (Value.int .i64))) (hq : w.heap.size ≤ q ∧ rb < q) (hBw : B ≤ w.heap.size) (hrb : w.heap.size ≤ rb) (hrv : X.resv = .slice (some ⟨rb, 0, none⟩) 5 5) (hV : X.V ≤ 20000)
    (hlg : ∀ i, i < X.logn → pl (cs ++ (List.range i).map X.lg) (X.lg i) = true ∧ ∃ K, X.lg i = clz K ∧ K.Nodup ∧ ∀ x, x ∈ K → 2 ≤ x ∧ x < 2 * X.V + 2) (hpl : pl (cs ++ X.logs) (clz (K.map opp)) = true) (hKn : K.Nodup) (hKr : ∀ x, x ∈ K → 2 ≤ x ∧ x < 2 * X.V + 2) (hKw : ∀ x, x ∈ K → x ∈ wanted)
    (hB : Below B w w3) (hc : 0 ≤ X.conflict ∧ X.conflict ≤ cmax) (hln : (X.logn : Int) ≤ cmax ∧ (rst = 0 → (X.logn : Int) ≤ 2 ^ X.V)) (hrr : X.res = zres) :
    (∃ F', Mem (set5 w3 rb (.int .i64 2) (.slice none 0 0) cv lv (.int .i64 X.conflict)) B bp ((X.lgs (X.logn + 1) (updN X.lg X.logn (clz (K.map opp)))).rsl [.int .i64 2, .slice none 0 0, cv, lv, .int .i64 X.conflict] X.resv) F') ∧
    RunOut cs wanted X.V bud rst B w (.returned (.agg #[.int .i64 2, .slice none 0 0, cv, lv, .int .i64 X.conflict])) (set5 w3 rb (.int .i64 2) (.slice none 0 0) cv lv (.int .i64 X.conflict)) := by
  obtain ⟨_, _, hG, F4, M4, hF4, hBr, _⟩ := M3.setRes (rb := rb) (by dsimp only [SS.lgs]; exact hrv) (by dsimp only [SS.lgs]; exact hrr) (.int .i64 2) (.slice none 0 0) cv lv (.int .i64 X.conflict)
  have hom := opp_map hKn hKr
  have hlg2 : ∀ i, i < X.logn + 1 → pl (cs ++ (List.range i).map (updN X.lg X.logn (clz (K.map opp)))) (updN X.lg X.logn (clz (K.map opp)) i) = true ∧ ∃ K', updN X.lg X.logn (clz (K.map opp)) i = clz K' ∧ K'.Nodup ∧ ∀ x, x ∈ K' → 2 ≤ x ∧ x < 2 * X.V + 2 := by
    intro i hi
    rw [range_upd_lt X.lg X.logn _ (fun x => x) i (by omega)]
    by_cases e : i = X.logn
    · subst e
      rw [updN_same]
      exact ⟨hpl, _, rfl, hom.1, hom.2⟩
    · rw [updN_other _ _ e]
      exact hlg i (by omega)
  have hlogs : SS.logs ((X.lgs (X.logn + 1) (updN X.lg X.logn (clz (K.map opp)))).rsl [.int .i64 2, .slice none 0 0, cv, lv, .int .i64 X.conflict] X.resv) = X.logs ++ [clz (K.map opp)] := logs_snoc X.lg X.logn _
  have hcl := M4.logCls (by dsimp only [SS.lgs, SS.rsl]; exact hV) (by
    dsimp only [SS.lgs, SS.rsl]
    intro i hi
    obtain ⟨_, K', h1, _, h3⟩ := hlg2 i hi
    exact ⟨K', h1, h3⟩)
  rw [show (F4 .log).v = lv from (congrFun hF4 .log).trans hlv] at hcl
  have hlo : LogOk cs X.V (X.logs ++ [clz (K.map opp)]) := by
    have := logok hlg2
    rwa [logs_snoc X.lg X.logn] at this
  have hLn : X.logs.length = X.logn := by unfold SS.logs; rw [List.length_map, List.length_range]
  refine ⟨⟨F4, M4⟩, 2, X.conflict, .slice none 0 0, cv, lv, X.logs ++ [clz (K.map opp)], rfl, by rw [← hlogs]; exact hcl, hlo, hB.grown hG (by have := hB.size; omega) (fun k hk => by cases hk; omega), hc.1, hc.2, ⟨by have := hln.1; rw [List.length_append, hLn]; simp; omega, fun h0 => by have := hln.2 h0; rw [List.length_append, hLn]; simp; omega⟩, .inr (.inl ⟨rfl, rfl, K, X.logs, own_keep (hcv.mono hq.1) hG (fun b hb e => ?_), hKn, hKw, rfl⟩)⟩
  have h1 := (hcv.lt b hb).1
  cases e
  omega
theorem fin_sat (M3 : Mem w3 B bp X F3) (hlv : (F3 .log).v = lv) (hcv : w3.ownsRow q 4 1 mv X.V (mdl X.vt X.V X.V)) (hq : w.heap.size ≤ q ∧ rb < q) (hBw : B ≤ w.heap.size) (hrb : w.heap.size ≤ rb) (hrv : X.resv = .slice (some ⟨rb, 0, none⟩) 5 5) (hV : X.V ≤ 20000)
    (hlg : ∀ i, i < X.logn → pl (cs ++ (List.range i).map X.lg) (X.lg i) = true ∧ ∃ K, X.lg i = clz K ∧ K.Nodup ∧ ∀ x, x ∈ K → 2 ≤ x ∧ x < 2 * X.V + 2) (h1 : ∀ x, x ∈ X.vt → 2 ≤ x ∧ x < 2 * X.V + 2) (h2 : ∀ x, x ∈ X.vt → opp x ∉ X.vt) (h3 : ∀ v, 1 ≤ v → v ≤ X.V → 2 * v ∈ X.vt ∨ 2 * v + 1 ∈ X.vt) (h4 : ∀ c, c ∈ cs → Sats X.vt c) (h5 : ∀ a, a ∈ wanted → a ∈ X.vt)
    (hB : Below B w w3) (hc : 0 ≤ X.conflict ∧ X.conflict ≤ cmax) (hln : (X.logn : Int) ≤ cmax ∧ (rst = 0 → (X.logn : Int) ≤ 2 ^ X.V)) (hrr : X.res = zres) :
    RunOut cs wanted X.V bud rst B w (.returned (.agg #[.int .i64 1, mv, .slice none 0 0, lv, .int .i64 X.conflict])) (set5 w3 rb (.int .i64 1) mv (.slice none 0 0) lv (.int .i64 X.conflict)) := by
  obtain ⟨_, _, hG, F4, M4, hF4, hBr, _⟩ := M3.setRes (rb := rb) hrv hrr (.int .i64 1) mv (.slice none 0 0) lv (.int .i64 X.conflict)
  have hlogs : SS.logs (X.rsl [.int .i64 1, mv, .slice none 0 0, lv, .int .i64 X.conflict] X.resv) = X.logs := rfl
  have hcl := M4.logCls hV (fun i hi => by
    obtain ⟨_, K', h1, _, h3⟩ := hlg i hi
    exact ⟨K', h1, h3⟩)
  rw [show (F4 .log).v = lv from (congrFun hF4 .log).trans hlv] at hcl
  have hLn : X.logs.length = X.logn := by unfold SS.logs; rw [List.length_map, List.length_range]
  refine ⟨1, X.conflict, mv, .slice none 0 0, lv, X.logs, rfl, hcl, logok hlg, hB.grown hG (by have := hB.size; omega) (fun k hk => by cases hk; omega), hc.1, hc.2, ⟨by have := hln.1; rw [hLn]; omega, fun h0 => by have := hln.2 h0; rw [hLn]; omega⟩, .inl ⟨rfl, rfl, X.vt, own_keep (hcv.mono hq.1) hG (fun b hb e => ?_), h1, h2, h3, h4, h5⟩⟩
  have h1 := (hcv.lt b hb).1
  cases e
  omega
theorem fin_lim (M3 : Mem w3 B bp X F3) (hlv : (F3 .log).v = lv) (hBw : B ≤ w.heap.size) (hrb : w.heap.size ≤ rb) (hrv : X.resv = .slice (some ⟨rb, 0, none⟩) 5 5) (hV : X.V ≤ 20000)
    (hlg : ∀ i, i < X.logn → pl (cs ++ (List.range i).map X.lg) (X.lg i) = true ∧ ∃ K, X.lg i = clz K ∧ K.Nodup ∧ ∀ x, x ∈ K → 2 ≤ x ∧ x < 2 * X.V + 2)
    (hB : Below B w w3) (hc : 0 ≤ X.conflict ∧ X.conflict ≤ cmax) (hln : (X.logn : Int) ≤ cmax ∧ (rst = 0 → (X.logn : Int) ≤ 2 ^ X.V)) (hrr : X.res = zres) (hbd : bud < X.conflict) (hrs : rst = 0 → bud < 2 ^ X.V) :
    RunOut cs wanted X.V bud rst B w (.returned (.agg #[.int .i64 3, .slice none 0 0, .slice none 0 0, lv, .int .i64 X.conflict])) (set5 w3 rb (.int .i64 3) (.slice none 0 0) (.slice none 0 0) lv (.int .i64 X.conflict)) := by
  obtain ⟨_, _, hG, F4, M4, hF4, hBr, _⟩ := M3.setRes (rb := rb) hrv hrr (.int .i64 3) (.slice none 0 0) (.slice none 0 0) lv (.int .i64 X.conflict)
  have hcl := M4.logCls hV (fun i hi => by
    obtain ⟨_, K', h1, _, h3⟩ := hlg i hi
    exact ⟨K', h1, h3⟩)
  rw [show (F4 .log).v = lv from (congrFun hF4 .log).trans hlv] at hcl
  have hLn : X.logs.length = X.logn := by unfold SS.logs; rw [List.length_map, List.length_range]
  exact ⟨3, X.conflict, .slice none 0 0, .slice none 0 0, lv, X.logs, rfl, hcl, logok hlg, hB.grown hG (by have := hB.size; omega) (fun k hk => by cases hk; omega), hc.1, hc.2, ⟨by have := hln.1; rw [hLn]; omega, fun h0 => by have := hln.2 h0; rw [hLn]; omega⟩, .inr (.inr ⟨rfl, rfl, rfl, hbd, hrs⟩)⟩
end
end Go.Proofs.YtojjjndhabjhdaaDoor.satSf
