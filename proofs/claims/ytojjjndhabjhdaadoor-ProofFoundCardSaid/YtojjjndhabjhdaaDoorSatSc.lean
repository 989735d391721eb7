/-
  Contract of (*search).forget.
-/
import Derived.Test.YtojjjndhabjhdaaDoorSatSb
import Derived.Test.YtojjjndhabjhdaaDoorFgM
import Derived.LaidEqlPtr
namespace Go.Proofs.YtojjjndhabjhdaaDoor.satSc
set_option linter.unusedSimpArgs false
set_option linter.unusedVariables false
open Go.ChangeShapes Go.WideShapes Go.ChangeAt Go.RowKit proofP proofQ owns cls satP satQ satR satS satA satF satB satC satD satE satG satH satI satJ satK satM satN satU satV satO satSa satSb satCd satCe
attribute [local go_sem ↓] Go.wp_at_zero Go.wp_at_succ

section
variable {w w' wr : World} {B bp : Nat} {s : SS} {F : Ix → Ent} {g cap N : Nat}
set_option maxRecDepth 100000 in
set_option maxHeartbeats 1000000 in
theorem reverse_any (h : Mem w B bp s F) (hl : ∀ i, i ∈ s.learned → i < s.n) (hv : (F .learned).v = .slice (some ⟨g, 0, none⟩) N cap) (hN : s.learned.length = N) (hN0 : 0 < N) (hN2 : N ≤ 1000000000) :
    Calls Tryd.prog 79 #[.slice (some ⟨g, 0, none⟩) N cap] w fun e w' => e = .returned (.tuple #[]) ∧ LS B bp s F w w' := by
  have HR0 := Lib.hid (LS.start h)
  have HLN := Lib.hid hl
  have HV := Lib.hid hv
  have HNN := Lib.hid hN
  clear h hl hv hN
  obtain ⟨q, hq⟩ : ∃ q : Nat, (N : Int) - 1 = (q : Int) := ⟨N - 1, by omega⟩
  have hqN : q + 1 = N := by omega
  have HQ := Lib.hid hqN
  have hqN2 : q < N := by omega
  clear hqN
  go_enter Tryd.func79, Tryd.ntmps79
  go_wp2
  go_loopw [2, 3] (fun iv jv wx => ∃ i j : Nat, iv = .int .i64 i ∧ jv = .int .i64 j ∧ i + j = q ∧ LS B bp s F w wx) (fun _ jv _ => (intOf jv).toNat)
  case atStart => exact ⟨0, q, rfl, rfl, by omega, HR0.out⟩
  case round =>
    obtain ⟨i, j, rfl, rfl, hij, hL⟩ := hrel
    clear HR0
    have HL := Lib.hid hL
    have HIJ := Lib.hid hij
    have hjN : j < N := by omega
    clear hL hij
    by_cases hlt : i < j
    · have hiN : i < N := by omega
      obtain ⟨t, ht⟩ : ∃ t : Nat, j = t + 1 := ⟨j - 1, by omega⟩
      have e1 : (j : Int) - 1 = (t : Int) := by omega
      have htN : t < N := by omega
      have HT := Lib.hid ht
      clear ht
      obtain ⟨⟨x, hx, hxn, c1, k1⟩, z1⟩ := HL.out.at HLN.out HV.out HNN.out hiN
      obtain ⟨⟨y, hy, hyn, c2, k2⟩, z2⟩ := HL.out.at HLN.out HV.out HNN.out hjN
      have HA : Hid (LS B bp s F w ((wr.setCell ⟨g, i, none⟩ (.pointer (some ⟨s.rp y, 0, none⟩))).setCell ⟨g, j, none⟩ (.pointer (some ⟨s.rp x, 0, none⟩))).drew) := Lib.hid ((HL.out.put HV.out HNN.out (by omega) hy).put HV.out HNN.out (by omega) hx).drew
      have n1 : i ≠ j := by omega
      have n2 : j ≠ i := by omega
      clear k1 k2 HL
      generalize s.rp x = rx at *
      generalize s.rp y = ry at *
      go_wp2
      go_region
      go_wp2
      go_roundw
      case rel => exact ⟨i + 1, t, by go_num, rfl, by have := HIJ.out; have := HT.out; omega, HA.out⟩
      case measure => have := HT.out; simp [intOf]; omega
    · go_wp2
      go_end0
      exact ⟨rfl, HL.out⟩

def mvd (F : Ix → Ent) (k k2 : Ix) : Ix → Ent := upd (upd F k2 ⟨ty k2, (F k).v, (F k).xs⟩) k ⟨ty k, .slice none 0 0, []⟩
/-- a row's content goes over to another one -/
theorem mv_core (h : Mem w B bp s F) (k k2 : Ix) (hne : k ≠ k2) (hty : ty k = ty k2) {s' : SS} (hk : ∀ i, i < s.n → k ≠ .row i ∧ k2 ≠ .row i) (hn : s'.n = s.n) (hp : s'.rp = s.rp) (hs : s'.spread = s.spread) (hgo : s'.gone = s.gone)
    (hc1 : cont s' (fvs (mvd F k k2)) k2 = cont s (fvs F) k) (hc0 : cont s' (fvs (mvd F k k2)) k = []) (ho : ∀ i, i ≠ k → i ≠ k2 → cont s' (fvs (mvd F k k2)) i = cont s (fvs F) i) :
    Owns w B (mvd F k k2) ∧ (∀ i, (mvd F k k2 i).v.ownBlock ≠ some bp) ∧ (∀ i, (mvd F k k2 i).e = ty i) ∧ (∀ i, (mvd F k k2 i).xs = cont s' (fvs (mvd F k k2)) i) ∧ (∀ i, i < s'.n → Whole w (s'.rp i) 75 [(mvd F k k2 (.row i)).v, zv (s'.spread i), .bool (s'.gone i)]) ∧
      (∀ i, i < s'.n → B ≤ s'.rp i ∧ s'.rp i ≠ bp ∧ ∀ q, (mvd F k k2 q).v.ownBlock ≠ some (s'.rp i)) ∧ ∀ i j, i < s'.n → j < s'.n → s'.rp i = s'.rp j → i = j := by
  generalize hG : mvd F k k2 = G at *
  unfold mvd at hG
  have gk : G k = ⟨ty k, .slice none 0 0, []⟩ := by rw [← hG, upd_same]
  have gk2 : G k2 = ⟨ty k2, (F k).v, (F k).xs⟩ := by rw [← hG, upd_other _ _ (fun e => hne e.symm), upd_same]
  have go : ∀ i, i ≠ k → i ≠ k2 → G i = F i := fun i h1 h2 => by rw [← hG, upd_other _ _ h1, upd_other _ _ h2]
  have hv : ∀ i b, (G i).v.ownBlock = some b → ∃ j, (F j).v.ownBlock = some b ∧ ((i = k2 ∧ j = k) ∨ (i ≠ k ∧ i ≠ k2 ∧ i = j)) := by
    intro i b hb
    by_cases e1 : i = k
    · subst e1; rw [gk] at hb; cases hb
    · by_cases e2 : i = k2
      · subst e2; rw [gk2] at hb; exact ⟨k, hb, .inl ⟨rfl, rfl⟩⟩
      · rw [go i e1 e2] at hb; exact ⟨i, hb, .inr ⟨e1, e2, rfl⟩⟩
  have hO : Owns w B G := by
    refine ⟨fun j => ?_, fun i j b hi hj => ?_⟩
    · by_cases e1 : j = k
      · subst e1; rw [gk]; exact World.ownsRow_nil _ _ _ _
      · by_cases e2 : j = k2
        · subst e2; rw [gk2, ← hty, ← h.te k]; exact h.own.1 k
        · rw [go j e1 e2]; exact h.own.1 j
    · obtain ⟨i', hi', ci⟩ := hv i b hi
      obtain ⟨j', hj', cj⟩ := hv j b hj
      have e := h.own.2 i' j' b hi' hj'
      subst e
      rcases ci with ⟨rfl, rfl⟩ | ⟨a1, a2, rfl⟩ <;> rcases cj with ⟨rfl, e2⟩ | ⟨b1, b2, rfl⟩
      · rfl
      · exact absurd rfl b1
      · exact absurd e2 a1
      · rfl
  have hne' : ∀ i, (G i).v.ownBlock ≠ some bp := fun i e => by
    obtain ⟨j, hj, _⟩ := hv i bp e
    exact h.ne j hj
  have hte : ∀ i, (G i).e = ty i := fun i => by
    by_cases e1 : i = k
    · subst e1; rw [gk]
    · by_cases e2 : i = k2
      · subst e2; rw [gk2]
      · rw [go i e1 e2]; exact h.te i
  have hxs : ∀ i, (G i).xs = cont s' (fvs G) i := fun i => by
    by_cases e1 : i = k
    · subst e1; rw [gk, hc0]
    · by_cases e2 : i = k2
      · subst e2; rw [gk2, hc1]; exact h.xs k
      · rw [go i e1 e2, ho i e1 e2]; exact h.xs i
  have hrw : ∀ i, i < s'.n → Whole w (s'.rp i) 75 [(G (.row i)).v, zv (s'.spread i), .bool (s'.gone i)] := fun i hi => by
    have := hk i (by omega)
    rw [hp, hs, hgo, go _ (fun e => this.1 e.symm) (fun e => this.2 e.symm)]
    exact h.rw i (by omega)
  have hrb : ∀ i, i < s'.n → B ≤ s'.rp i ∧ s'.rp i ≠ bp ∧ ∀ q, (G q).v.ownBlock ≠ some (s'.rp i) := fun i hi => by
    rw [hp]
    refine ⟨(h.rb i (by omega)).1, (h.rb i (by omega)).2.1, fun q e => ?_⟩
    obtain ⟨j, hj, _⟩ := hv q _ e
    exact (h.rb i (by omega)).2.2 j hj
  have hrj : ∀ i j, i < s'.n → j < s'.n → s'.rp i = s'.rp j → i = j := fun i j hi hj => by rw [hp]; exact h.rj i j (by omega) (by omega)
  exact ⟨hO, hne', hte, hxs, hrw, hrb, hrj⟩
theorem _root_.Go.Proofs.YtojjjndhabjhdaaDoor.satA.Mem.mv (h : Mem w B bp s F) (k k2 : Ix) (hne : k ≠ k2) (hty : ty k = ty k2) {s' : SS} (hk : ∀ i, i < s.n → k ≠ .row i ∧ k2 ≠ .row i) (hn : s'.n = s.n) (hp : s'.rp = s.rp) (hs : s'.spread = s.spread) (hgo : s'.gone = s.gone)
    (hf : fields s' (fvs (mvd F k k2)) = fields s (fvs F)) (hc1 : cont s' (fvs (mvd F k k2)) k2 = cont s (fvs F) k) (hc0 : cont s' (fvs (mvd F k k2)) k = []) (ho : ∀ i, i ≠ k → i ≠ k2 → cont s' (fvs (mvd F k k2)) i = cont s (fvs F) i) (hkr : k ≠ .res := by simp) (hkr2 : k2 ≠ .res := by simp) (hrs : s'.resv = s.resv := by rfl) : Mem w B bp s' (mvd F k k2) := by
  obtain ⟨hO, hne', hte, hxs, hrw, hrb, hrj⟩ := mv_core h k k2 hne hty hk hn hp hs hgo hc1 hc0 ho
  exact ⟨hO, by rw [hf]; exact h.obj, h.hB, hne', hte, hxs, hrw, hrb, hrj, by unfold mvd; rw [upd_other _ _ (fun e => hkr e.symm), upd_other _ _ (fun e => hkr2 e.symm)]; exact h.rv.trans hrs.symm⟩
theorem _root_.Go.Proofs.YtojjjndhabjhdaaDoor.satA.Mem.mvf (h : Mem w B bp s F) (k k2 : Ix) (hne : k ≠ k2) (hty : ty k = ty k2) {s' : SS} (hk : ∀ i, i < s.n → k ≠ .row i ∧ k2 ≠ .row i) (hn : s'.n = s.n) (hp : s'.rp = s.rp) (hs : s'.spread = s.spread) (hgo : s'.gone = s.gone) (f : Nat)
    (hf : fields s' (fvs (mvd F k k2)) = (fields s (fvs F)).set f (F k).v) (hc1 : cont s' (fvs (mvd F k k2)) k2 = cont s (fvs F) k) (hc0 : cont s' (fvs (mvd F k k2)) k = []) (ho : ∀ i, i ≠ k → i ≠ k2 → cont s' (fvs (mvd F k k2)) i = cont s (fvs F) i) (hkr : k ≠ .res := by simp) (hkr2 : k2 ≠ .res := by simp) (hrs : s'.resv = s.resv := by rfl) : Mem (w.setCell ⟨bp, f, none⟩ (F k).v) B bp s' (mvd F k k2) := by
  obtain ⟨hO, hne', hte, hxs, hrw, hrb, hrj⟩ := mv_core h k k2 hne hty hk hn hp hs hgo hc1 hc0 ho
  obtain ⟨W1, G1⟩ := h.obj.set f (F k).v
  exact ⟨hO.apart G1 (fun q b hq e => hne' q (by rw [hq]; exact e.symm)), by rw [hf]; exact W1, h.hB, hne', hte, hxs, fun i hi => (hrw i hi).kept G1 (by intro e; cases e; exact (hrb i hi).2.1 rfl), hrb, hrj, by unfold mvd; rw [upd_other _ _ (fun e => hkr e.symm), upd_other _ _ (fun e => hkr2 e.symm)]; exact h.rv.trans hrs.symm⟩

def _root_.Go.Proofs.YtojjjndhabjhdaaDoor.satA.SS.fg (s : SS) (gone : Nat → Bool) : SS := { s with gone := gone }
def _root_.Go.Proofs.YtojjjndhabjhdaaDoor.satA.SS.rm (s : SS) (room : Int) : SS := { s with room := room }
/-- the watching list behind the last code is free -/
theorem _root_.Go.Proofs.YtojjjndhabjhdaaDoor.satA.Mem.freeKeep (h : Mem w B bp s F) : ∃ F', Mem w B bp (s.wt (updN s.W (2 * s.V + 2) [])) F' ∧ (F' (.watch (2 * s.V + 2))).v = .slice none 0 0 ∧ ∀ k, k ≠ .watch (2 * s.V + 2) → (F' k).v = (F k).v :=
  ⟨_, h.keep (.watch (2 * s.V + 2)) (v' := .slice none 0 0) (xs' := []) (grown_self _ _) (World.ownsRow_nil _ _ _ _) (.inr (.inl rfl)) (by simp) rfl (by show ((updN s.W (2 * s.V + 2) []) (2 * s.V + 2)).map (pv s.rp) = []; rw [updN_same]; rfl) (by
    intro i hi
    cases i <;> first
      | rfl
      | (show ((updN s.W (2 * s.V + 2) []) _).map (pv s.rp) = (s.W _).map (pv s.rp)
         rw [updN_other _ _ (fun e => hi (by rw [e]))])
      | (refine List.map_congr_left fun c hc => fvs_other F _ ?_
         intro e; cases e; exact absurd (List.mem_range.1 hc) (Nat.lt_irrefl _))) rfl rfl rfl rfl, by rw [upd_same], fun k hk => by rw [upd_other _ _ hk]⟩
theorem _root_.Go.Proofs.YtojjjndhabjhdaaDoor.satA.Mem.newKeep (h : Mem w B bp s F) {v : Value} (hn : (F (.watch (2 * s.V + 2))).v = .slice none 0 0) (hb : Below w.heap.size w w') (hr : w'.ownsRow w.heap.size 73 1 v 0 []) :
    ∃ F', Mem w' B bp (s.wt (updN s.W (2 * s.V + 2) [])) F' ∧ (F' (.watch (2 * s.V + 2))).v = v ∧ ∀ k, k ≠ .watch (2 * s.V + 2) → (F' k).v = (F k).v :=
  ⟨_, h.adopt (.watch (2 * s.V + 2)) (v := v) (xs := []) (by rw [hn]; rfl) hb hr (by simp) rfl (by show ((updN s.W (2 * s.V + 2) []) (2 * s.V + 2)).map (pv s.rp) = _; rw [updN_same]; rfl) (by
    intro i hi
    cases i <;> first
      | rfl
      | (show ((updN s.W (2 * s.V + 2) []) _).map (pv s.rp) = (s.W _).map (pv s.rp)
         rw [updN_other _ _ (fun e => hi (by rw [e]))])
      | (refine List.map_congr_left fun c hc => fvs_other F _ ?_
         intro e; cases e; exact absurd (List.mem_range.1 hc) (Nat.lt_irrefl _))) rfl rfl rfl rfl, by rw [upd_same], fun k hk => by rw [upd_other _ _ hk]⟩
theorem _root_.Go.Proofs.YtojjjndhabjhdaaDoor.satA.Mem.appKeep (h : Mem w B bp s F) {n g' cap' i : Nat} {w1 w2 : World} (hn : (s.W (2 * s.V + 2)).length = n) (hb : Below w.heap.size w w1) (hown : w2.ownsRow B 73 1 (.slice (some ⟨g', 0, none⟩) (n + 1) cap') (n + 1) (cont s (fvs F) (.watch (2 * s.V + 2)) ++ [pv s.rp i])) (hgrow : w1.grownBy w2 (F (.watch (2 * s.V + 2))).v.ownBlock) (hg1 : some g' = (F (.watch (2 * s.V + 2))).v.ownBlock ∨ w1.heap.size ≤ g') :
    ∃ F', Mem w2 B bp (s.wt (updN s.W (2 * s.V + 2) (s.W (2 * s.V + 2) ++ [i]))) F' ∧ (F' (.watch (2 * s.V + 2))).v = .slice (some ⟨g', 0, none⟩) (n + 1) cap' ∧ (∀ k, k ≠ .watch (2 * s.V + 2) → (F' k).v = (F k).v) ∧ Below B w w2 := by
  have hBw : B ≤ w.heap.size := Nat.le_trans h.hB (Nat.le_of_lt h.obj.lt)
  refine ⟨_, (h.below hb).keep (.watch (2 * s.V + 2)) (v' := .slice (some ⟨g', 0, none⟩) (n + 1) cap') (xs' := cont s (fvs F) (.watch (2 * s.V + 2)) ++ [pv s.rp i]) hgrow (by
    have : (cont s (fvs F) (.watch (2 * s.V + 2)) ++ [pv s.rp i]).length = n + 1 := by simp [cont, hn]
    rw [this]; exact hown) (hg1.elim (fun e => .inl (show (Value.slice (some ⟨g', 0, none⟩) (n + 1) cap').ownBlock = _ from e)) (fun e => .inr (.inr ⟨g', rfl, e⟩))) (by simp) rfl (by show ((updN s.W (2 * s.V + 2) (s.W (2 * s.V + 2) ++ [i])) (2 * s.V + 2)).map (pv s.rp) = _; rw [updN_same]; simp [cont]) (by
    intro q hq
    cases q <;> first
      | rfl
      | (show ((updN s.W (2 * s.V + 2) (s.W (2 * s.V + 2) ++ [i])) _).map (pv s.rp) = (s.W _).map (pv s.rp)
         rw [updN_other _ _ (fun e => hq (by rw [e]))])
      | (refine List.map_congr_left fun c hc => fvs_other F _ ?_
         intro e; cases e; exact absurd (List.mem_range.1 hc) (Nat.lt_irrefl _))) rfl rfl rfl rfl, by rw [upd_same], fun k hk => by rw [upd_other _ _ hk], (hb.mono hBw).grown hgrow (by have := hb.size; omega) (fun i hi => ((h.own.1 (.watch (2 * s.V + 2))).lt i hi).1)⟩
theorem _root_.Go.Proofs.YtojjjndhabjhdaaDoor.satA.Mem.setRoom (h : Mem w B bp s F) (z : Int) : Mem (w.setCell ⟨bp, 22, none⟩ (.int .i64 z)) B bp (s.rm z) F :=
  h.field 22 (.int .i64 z) rfl (by intro k; cases k <;> rfl) rfl rfl rfl rfl
def FgP (B bp : Nat) (s : SS) (w w' : World) : Prop :=
  ∃ kept gone room F', Mem w' B bp (((s.ln kept).fg gone).rm room) F' ∧ (∀ i, i ∈ kept → i ∈ s.learned) ∧ (∀ i, i ∉ s.learned → gone i = s.gone i) ∧ (∀ i, gone i = false → s.gone i = false) ∧ 0 ≤ room ∧ room ≤ 9223372036854775807 ∧ kept.length ≤ s.learned.length ∧ Below B w w'
/-- while it is chosen which rows are kept -/
def KRel (B bp : Nat) (s : SS) (F : Ix → Ent) (w : World) (l : List Nat) (k : Nat) (v : Value) (wr : World) : Prop :=
  ∃ kept gone F', Mem wr B bp (((s.ln l).wt (updN s.W (2 * s.V + 2) kept)).fg gone) F' ∧ (F' (.watch (2 * s.V + 2))).v = v ∧ kept.length ≤ k ∧ (∀ i, i ∈ kept → i ∈ s.learned) ∧ (∀ i, i ∉ s.learned → gone i = s.gone i) ∧ (∀ i, gone i = false → s.gone i = false) ∧ (F' .learned).v = (F .learned).v ∧ Below B w wr
theorem under84 : Tryd.prog.underlying 73 = some (.pointer 75) := by kernel_rfl
theorem info84 : ∃ j, Tryd.prog.info? 75 = some j ∧ j.size ≠ 0 := by
  have h : (Tryd.prog.info? 75).map (fun i => i.size) = some 3 := by kernel_rfl
  cases hj : Tryd.prog.info? 75 with
  | none => rw [hj] at h; cases h
  | some j => rw [hj] at h; exact ⟨j, rfl, by have : j.size = 3 := Option.some.inj h; omega⟩
theorem eql_none (a : Addr) (w : World) : Sem.run Tryd.prog (binOp .eql 73 (.pointer none) (.pointer (some a))) w = .ok (.bool false) w := by
  have h : ∀ d : Nat, (Op.equalIn (d + 1) 73 (.pointer none) (.pointer (some a))).run Tryd.prog w = .ok false w := fun d => by
    simp [Op.equalIn, run_underlying under84]
  simp only [binOp]
  simp [Op.equal, Op.maxDepth, h 9999]
theorem eql_same (a : Addr) (w : World) : Sem.run Tryd.prog (binOp .eql 73 (.pointer (some a)) (.pointer (some a))) w = .ok (.bool true) w := by
  obtain ⟨j, hj, _⟩ := info84
  exact run_eql_ptr_same w a under84 hj
theorem eql_other (h : Mem w B bp s F) {i j : Nat} (hi : i < s.n) (hj : j < s.n) (hne : s.rp i ≠ s.rp j) (n : Nat) : Sem.run Tryd.prog (binOp .eql 73 (.pointer (some ⟨s.rp i, 0, none⟩)) (.pointer (some ⟨s.rp j, 0, none⟩))) (w.drewN n) = .ok (.bool false) (w.drewN n) := by
  obtain ⟨q, hq, hsz⟩ := info84
  have M := h.below (Go.Joins.below_draws _ _ n)
  exact run_eql_ptr_other _ under84 hq hsz (fun e => hne (congrArg Addr.block e)) (M.rw i hi) (M.rw j hj)
set_option maxHeartbeats 4000000 in
set_option maxRecDepth 100000 in
theorem forget_any (h : Mem w B bp s F) (hl : ∀ i, i ∈ s.learned → i < s.n) (hlen : s.learned.length ≤ 1000000000) (hV : s.V ≤ 20000) (hR : ∀ i, i < s.n → 2 ≤ (s.row i).length ∧ ∀ x, x ∈ s.row i → x < 2 * s.V + 2) (hrb : ∀ v i, s.rsn v = some i → i < s.n) (hW : s.W (2 * s.V + 2) = []) (hr0 : 0 ≤ s.room) (hr1 : s.room ≤ 9223372036854775807) :
    Calls Tryd.prog 57 #[.pointer (some ⟨bp, 0, none⟩)] w fun e w' => e = .returned (.tuple #[]) ∧ FgP B bp s w w' := by
  have f2 : w.cell? ⟨bp, 2, none⟩ = some (.int .i64 s.keep) := h.fld 2
  have f22 : w.cell? ⟨bp, 22, none⟩ = some (.int .i64 s.room) := h.fld 22
  have f21 : w.cell? ⟨bp, 21, none⟩ = some (F .learned).v := h.fld 21
  obtain ⟨aL, cL, hLv⟩ := h.own.value .learned
  rw [h.xs, show (cont s (fvs F) .learned).length = s.learned.length from by simp [cont]] at hLv
  have HSAME : Hid (∀ n, FgP B bp s w (w.drewN n)) := Lib.hid fun n => ⟨s.learned, s.gone, s.room, F, (h.below (Go.Joins.below_draws _ _ n)).like rfl (by intro k; cases k <;> rfl) rfl rfl rfl rfl, fun _ h => h, fun _ _ => rfl, fun _ h => h, hr0, hr1, Nat.le_refl _, Go.Joins.below_draws _ _ n⟩
  by_cases hk0 : s.keep = 0
  · rw [hk0] at f2
    rw [hLv] at f21
    clear h hl hR hW
    go_enter Tryd.func57, Tryd.ntmps57
    go_wp2_with fail
    go_quiet (fail)
    have HX := Lib.hid (HSAME.out nq)
    generalize w.drewN nq = w1 at *
    go_wp2
    refine bodyPost_ret (results_none rfl _ _ _) rfl ?_
    exact ⟨rfl, HX.out⟩
  · have hk1 : (s.keep == 0) = false := beq_eq_false_iff_ne.2 hk0
    by_cases hlr : (s.learned.length : Int) ≤ s.room
    · rw [hLv] at f21
      clear h hl hR hW
      go_enter Tryd.func57, Tryd.ntmps57
      go_wp2_with fail
      go_quiet (fail)
      have HX := Lib.hid (HSAME.out nq)
      generalize w.drewN nq = w1 at *
      go_wp2
      refine bodyPost_ret (results_none rfl _ _ _) rfl ?_
      exact ⟨rfl, HX.out⟩
    · have hN0 : 0 < s.learned.length := by omega
      obtain ⟨g, cap, hv, _⟩ := h.at .learned (n := s.learned.length) (by simp [cont]) hN0
      rw [hv] at f21
      have HREV : Hid (∀ w1, LS B bp s F w w1 → Calls Tryd.prog 79 #[.slice (some ⟨g, 0, none⟩) s.learned.length cap] w1 fun e w' => e = .returned (.tuple #[]) ∧ LS B bp s F w w') := Lib.hid fun w1 hL => by
        obtain ⟨l, F', M, q1, q2, q3, q4⟩ := hL
        refine (reverse_any M (fun i hi => hl i (q3 i hi)) ((congrFun q1 .learned).trans hv) q2 hN0 hlen).mono ?_
        rintro e w2 ⟨he, hL2⟩
        exact ⟨he, LS.on q1 q2 q3 q4 hL2⟩
      have HSRT : Hid (∀ w1, LS B bp s F w w1 → Calls Tryd.prog 80 #[.slice (some ⟨g, 0, none⟩) s.learned.length cap, .func (.func 81) #[] #[]] w1 fun e w' => e = .returned (.tuple #[]) ∧ LS B bp s F w w') := Lib.hid fun w1 hL => by
        obtain ⟨l, F', M, q1, q2, q3, q4⟩ := hL
        refine (sort_any M (fun i hi => hl i (q3 i hi)) ((congrFun q1 .learned).trans hv) q2 hlen).mono ?_
        rintro e w2 ⟨he, hL2⟩
        exact ⟨he, LS.on q1 q2 q3 q4 hL2⟩
      have HF21 : Hid (∀ w1, LS B bp s F w w1 → w1.cell? ⟨bp, 21, none⟩ = some (.slice (some ⟨g, 0, none⟩) s.learned.length cap)) := Lib.hid fun w1 hL => by
        obtain ⟨l, F', M, q1, q2, q3, q4⟩ := hL
        have h1 : w1.cell? ⟨bp, 21, none⟩ = some (F' .learned).v := M.fld 21
        rw [h1, ← hv]
        exact congrArg some (congrFun q1 .learned)
      have HLS := Lib.hid (LS.start h)
      have HHL := Lib.hid hl
      have HRR := Lib.hid hR
      have HRB := Lib.hid hrb
      have HWW := Lib.hid hW
      have HV := Lib.hid hv
      have hB := h.hB
      clear h hl hR hW HSAME hLv hv hrb
      obtain ⟨i0, hi0, hz0, hz1, hz2⟩ := info_parts infoR
      go_enter Tryd.func57, Tryd.ntmps57
      go_wp2_with fail
      go_quiet (fail)
      have HL := Lib.hid (HLS.out.draws nq)
      generalize w.drewN nq = w1 at *
      clear f2 f22 f21 HLS
      have f21 := HF21.out _ HL.out
      have HC := Lib.hid (HREV.out _ HL.out)
      go_wp2_with fail
      refine HC.out.mono ?_
      rintro e w2 ⟨rfl, hL⟩
      clear HL HC f21 HREV
      have HL := Lib.hid hL
      clear hL
      have f21 := HF21.out _ HL.out
      have HC := Lib.hid (HSRT.out _ HL.out)
      go_wp2_with fail
      refine HC.out.mono ?_
      rintro e w3 ⟨rfl, hL⟩
      clear HL HC f21 HSRT
      have f21 := HF21.out _ hL
      obtain ⟨l, F3, M3, q1, q2, q3, q4⟩ := hL
      obtain ⟨F4, M4, V4, K4⟩ := M3.freeKeep
      have hbl := M3.obj.lt
      have HM4 := Lib.hid M4
      have HV4 := Lib.hid V4
      have HK4 := Lib.hid K4
      have HQ1 := Lib.hid q1
      have HQ2 := Lib.hid q2
      have HQ3 := Lib.hid q3
      have HQ4 := Lib.hid q4
      clear M3 M4 V4 K4 q1 q2 q3 q4 HF21
      go_wp2_with (at_make; refine wpList_make_own _ rfl _ _ 48 rfl w3.heap.size 73 i0 (.pointer none) 1 Tryd.underlying48 hi0 hz0 hz1 .i64 .i64 _ s.learned.length rfl rfl rfl ?c1 ?c2 ?c3 ?_)
      case c1 => rw [hz2]; omega
      case c2 => unfold maxLen; omega
      case c3 => exact Nat.le_refl _
      intro w4 hown4 hgrow4
      have hb4 : Below w3.heap.size w3 w4 := below_grown hgrow4 (Nat.le_refl _) (by intro k hk; cases hk)
      obtain ⟨F5, M5, V5, K5⟩ := HM4.out.newKeep HV4.out hb4 hown4
      have HR0 : Hid (KRel B bp s F w l 0 (.slice (some ⟨w3.heap.size, 0, none⟩) 0 s.learned.length) w4) := Lib.hid ⟨[], s.gone, F5, M5.like rfl (by
        intro k
        cases k <;> first
          | rfl
          | (show ((updN s.W (2 * s.V + 2) []) _).map (pv s.rp) = (updN (updN s.W (2 * s.V + 2) []) (2 * s.V + 2) [] _).map (pv s.rp)
             congr 1
             unfold updN
             split <;> rfl)) rfl rfl rfl rfl, V5, by simp, by simp, fun _ _ => rfl, fun _ h => h, (K5 _ (by simp)).trans ((HK4.out _ (by simp)).trans (congrFun HQ1.out .learned)), HQ4.out.trans (hb4.mono (by omega))⟩
      have f21b := (hb4.cell (show (⟨bp, 21, none⟩ : Addr).block < _ from hbl)).trans f21
      generalize w3.heap.size = gk at *
      clear hown4 hgrow4 hb4 M5 V5 K5 HM4 HV4 HK4 f21
      go_wp2
      go_loopw [2, 44] (fun kv it wx => ∃ k : Nat, it = .int .i64 k ∧ k ≤ s.learned.length ∧ (∃ ao n c, kv = .slice ao n c) ∧ KRel B bp s F w l k kv wx) (fun _ it _ => s.learned.length - (intOf it).toNat)
      case atStart => exact ⟨0, rfl, Nat.zero_le _, ⟨_, _, _, rfl⟩, HR0.out⟩
      case round =>
        obtain ⟨k, rfl, hk, ⟨ao, nk, ck, rfl⟩, kept, gone, F6, M, V6, hkl, hsub, hgo1, hgo2, hv6, hb⟩ := hrel
        clear HR0 f21b
        obtain rfl : nk = kept.length := by
          obtain ⟨a2, c2, e2⟩ := M.own.value (.watch (2 * s.V + 2))
          rw [M.xs, show (cont (((s.ln l).wt (updN s.W (2 * s.V + 2) kept)).fg gone) (fvs F6) (.watch (2 * s.V + 2))).length = kept.length from by
            show ((updN s.W (2 * s.V + 2) kept (2 * s.V + 2)).map (pv s.rp)).length = _
            rw [updN_same]; simp] at e2
          rw [V6] at e2
          simp only [Value.slice.injEq] at e2
          exact e2.2.1
        have hwb := M.obj.lt
        by_cases hlt : k < s.learned.length
        · have hkl2 : k < l.length := by have := HQ2.out; omega
          have him := HQ3.out _ (getD_mem' hkl2)
          have hin := HHL.out _ him
          have hv6' : (F6 .learned).v = .slice (some ⟨g, 0, none⟩) s.learned.length cap := hv6.trans HV.out
          have hx6 : (F6 .learned).xs = l.map (pv s.rp) := M.xs _
          have q := M.own.cell hv6' k (by rw [hx6]; simpa using hkl2)
          rw [hx6, List.getElem?_map, List.getElem?_eq_getElem hkl2] at q
          have hgd : l[k] = l.getD k 0 := by rw [List.getD_eq_getElem?_getD, List.getElem?_eq_getElem hkl2]; rfl
          rw [hgd] at q
          change wr.cell? ⟨g, k, none⟩ = some (.pointer (some ⟨s.rp (l.getD k 0), 0, none⟩)) at q
          clear hgd hx6 hv6'
          generalize l.getD k 0 = i at *
          obtain ⟨h2, hcr⟩ := HRR.out i hin
          obtain ⟨gC, cC, hCv, r0, qC, zC, nC, nCR, bC, lC, lR, nR⟩ := M.rowAt (i := i) hin (by exact Nat.lt_of_lt_of_le (by decide) h2)
          have qy := qC 0 (by exact Nat.lt_of_lt_of_le (by decide) h2)
          change wr.cell? ⟨s.rp i, 0, none⟩ = some (.slice (some ⟨gC, 0, none⟩) (s.row i).length cC) at r0
          change wr.cell? ⟨gC, 0, none⟩ = some (.int .i64 ((s.row i).getD 0 0 : Nat)) at qy
          have hyr := hcr _ (getD_mem' (l := s.row i) (k := 0) (by omega))
          have hrl : 0 < (s.row i).length := by omega
          obtain ⟨gR, cR, hRv, f9, qR, nR2, lR2⟩ := M.rsnAt
          change wr.cell? ⟨bp, 9, none⟩ = some (.slice (some ⟨gR, 0, none⟩) (s.V + 1) cR) at f9
          generalize (s.row i).getD 0 0 = y at *
          obtain ⟨v, hv2⟩ : ∃ v : Nat, (y : Int) / 2 = (v : Int) := ⟨y / 2, by omega⟩
          have hvV : v < s.V + 1 := by omega
          have q9 := qR v (by show v ≤ s.V; omega)
          change wr.cell? ⟨gR, v, none⟩ = some (rv s.rp (s.rsn v)) at q9
          have f22 : wr.cell? ⟨bp, 22, none⟩ = some (.int .i64 s.room) := M.fld 22
          have HM := Lib.hid M
          have HV6 := Lib.hid V6
          have HSUB := Lib.hid hsub
          have HGO1 := Lib.hid hgo1
          have HGO2 := Lib.hid hgo2
          have HV6L := Lib.hid hv6
          have HB6 := Lib.hid hb
          generalize (s.row i).length = L at *
          clear M V6 hsub hgo1 hgo2 hv6 hb hCv qC zC hRv qR hcr
          generalize s.V + 1 = VV at f9 hvV
          go_upto_region 7 with (fail)
          go_cut [72] (fun c wx => ∃ r, c = .bool r ∧ Below wr.heap.size wr wx)
          case first =>
            cases hrs : s.rsn (v) with
            | none =>
              rw [hrs] at q9
              change wr.cell? ⟨gR, v, none⟩ = some (.pointer none) at q9
              have heq := eql_none ⟨s.rp i, 0, none⟩
              go_wp2_with fail
              go_quiet (fail)
              go_wp2
              go_meet
              case rel => exact ⟨_, rfl, Go.Joins.below_draws _ _ _⟩
            | some j =>
              rw [hrs] at q9
              change wr.cell? ⟨gR, v, none⟩ = some (.pointer (some ⟨s.rp j, 0, none⟩)) at q9
              by_cases hpe : s.rp j = s.rp i
              · rw [hpe] at q9
                have heq := eql_same ⟨s.rp i, 0, none⟩
                go_wp2_with fail
                go_quiet (fail)
                go_wp2
                go_meet
                case rel => exact ⟨_, rfl, Go.Joins.below_draws _ _ _⟩
              · have heq := eql_other HM.out (i := j) (j := i) (HRB.out v j hrs) hin hpe
                change ∀ n, Sem.run _ (binOp .eql 73 (.pointer (some ⟨s.rp j, 0, none⟩)) (.pointer (some ⟨s.rp i, 0, none⟩))) (wr.drewN n) = .ok (.bool false) (wr.drewN n) at heq
                go_wp2_with fail
                go_quiet (fail)
                go_wp2
                go_meet
                case rel => exact ⟨_, rfl, Go.Joins.below_draws _ _ _⟩
          case rest =>
            obtain ⟨r, rfl, hb2⟩ := hcut
            have HM7 := Lib.hid (HM.out.below hb2)
            have HB7 := Lib.hid (HB6.out.trans (hb2.mono (by have := HM.out.hB; omega)))
            have hbl7 := HM7.out.obj.lt
            obtain ⟨_, _, r2, lRw, zr⟩ := HM7.out.obji (i := i) hin
            change wc.cell? ⟨s.rp i, 2, none⟩ = some (.bool (gone i)) at r2
            have z2 := zr 2
            change wc.frozen? ⟨s.rp i, 2, none⟩ = false at z2
            clear f9 q9 q r0 qy hb2 f22 HM HB6 zr
            cases r
            · have HREL : Hid (KRel B bp s F w l (k + 1) (.slice ao kept.length ck) (wc.setCell ⟨s.rp i, 2, none⟩ (.bool true))) := Lib.hid ⟨kept, updN gone i true, F6, HM7.out.mark hin, HV6.out, by omega, HSUB.out, fun q hq => by rw [updN_other _ _ (fun e => hq (by rw [e]; exact him))]; exact HGO1.out q hq, fun q hq => by
                by_cases e : q = i
                · subst e; rw [updN_same] at hq; cases hq
                · rw [updN_other _ _ e] at hq; exact HGO2.out q hq, HV6L.out, HB7.out.trans ((Below.refl _ _).setCell (HM7.out.rb i hin).1 _)⟩
              generalize gone i = gi at r2
              clear HM7 HB7 HSUB HGO1 HGO2 HV6L HV6
              go_wp2
              go_roundw
              case rel => exact ⟨k + 1, by go_num, by omega, ⟨_, _, _, rfl⟩, HREL.out⟩
              case measure => simp [intOf]; omega
            · have HO := Lib.hid ((HM7.out.below ((Below.refl _ _).alloc (Nat.le_refl _) (.cells #[.pointer (some ⟨s.rp i, 0, none⟩)] 73))).ownAt (.watch (2 * s.V + 2)) rfl)
              have hxl2 : (cont (((s.ln l).wt (updN s.W (2 * s.V + 2) kept)).fg gone) (fvs F6) (.watch (2 * s.V + 2))).length = kept.length := by
                show ((updN s.W (2 * s.V + 2) kept (2 * s.V + 2)).map (pv s.rp)).length = _
                rw [updN_same]; simp
              rw [hxl2, HV6.out] at HO
              have hwk : (((s.ln l).wt (updN s.W (2 * s.V + 2) kept)).fg gone).W (2 * (((s.ln l).wt (updN s.W (2 * s.V + 2) kept)).fg gone).V + 2) = kept := by
                show updN s.W (2 * s.V + 2) kept (2 * s.V + 2) = kept
                rw [updN_same]
              have HWK := Lib.hid hwk
              clear r2 z2 lRw hwk
              go_wp2_with (at_builtin; (refine wpList_append_own_at _ rfl _ _ 48 rfl B 73 i0 (.pointer none) 1 8 Tryd.underlying48 hi0 hz0 hz1 hz2 rfl (by decide) (.slice ao kept.length ck) kept.length (cont (((s.ln l).wt (updN s.W (2 * s.V + 2) kept)).fg gone) (fvs F6) (.watch (2 * s.V + 2))) rfl ?d0 ⟨wc.heap.size, 0, none⟩ 1 1 [.pointer (some ⟨s.rp i, 0, none⟩)] rfl rfl (new_one _ _ _) ?d2 ?d3 ?d4 ?d5 ?_))
              case d0 => exact HO.out
              case d2 => simp [Value.oneCell']
              case d3 => unfold maxLen; omega
              case d4 => omega
              case d5 => simp; omega
              intro v' w5 hown5 hgrow5 _ hat
              obtain ⟨g', cap', rfl, _, _, _, _⟩ := own_form hown5 (by omega)
              obtain ⟨F7, M7, V7, K7, B7⟩ := HM7.out.appKeep (i := i) (n := kept.length) (by rw [HWK.out]) ((Below.refl _ _).alloc (Nat.le_refl _) (.cells #[.pointer (some ⟨s.rp i, 0, none⟩)] 73)) hown5 (by
                show World.grownBy _ _ (F6 (.watch (2 * s.V + 2))).v.ownBlock
                rw [HV6.out]; exact hgrow5) (by
                show some g' = (F6 (.watch (2 * s.V + 2))).v.ownBlock ∨ _
                rw [HV6.out]
                rcases hat with hat | hat
                · exact .inl hat
                · exact .inr (by have : g' = wc.heap.size + 1 := by simpa [Value.ownBlock] using hat
                                 rw [this]; simp))
              have HREL : Hid (KRel B bp s F w l (k + 1) (.slice (some ⟨g', 0, none⟩) (kept.length + 1) cap') w5) := Lib.hid ⟨kept ++ [i], gone, F7, by
                have e : updN (((s.ln l).wt (updN s.W (2 * s.V + 2) kept)).fg gone).W (2 * s.V + 2) ((((s.ln l).wt (updN s.W (2 * s.V + 2) kept)).fg gone).W (2 * s.V + 2) ++ [i]) = updN s.W (2 * s.V + 2) (kept ++ [i]) := by
                  funext c
                  show updN (updN s.W (2 * s.V + 2) kept) (2 * s.V + 2) (updN s.W (2 * s.V + 2) kept (2 * s.V + 2) ++ [i]) c = _
                  rw [updN_same]
                  unfold updN
                  split <;> rfl
                have := M7
                rw [show (2 * (((s.ln l).wt (updN s.W (2 * s.V + 2) kept)).fg gone).V + 2) = 2 * s.V + 2 from rfl, e] at this
                exact this, V7, by simp; omega, fun q hq => by
                rcases List.mem_append.1 hq with hq | hq
                · exact HSUB.out q hq
                · simp at hq; subst hq; exact him, HGO1.out, HGO2.out, (K7 _ (by simp)).trans HV6L.out, HB7.out.trans B7⟩
              clear M7 V7 K7 B7 hown5 hgrow5 hat HO HM7 HB7 HSUB HGO1 HGO2 HV6L HV6 HWK
              go_wp2
              go_roundw
              case rel => exact ⟨k + 1, by go_num, by omega, ⟨_, _, _, rfl⟩, HREL.out⟩
              case measure => simp [intOf]; omega
        · obtain rfl : k = s.learned.length := by omega
          have hMV := M.mvf (.watch (2 * s.V + 2)) .learned (by simp) rfl (s' := (((s.ln kept).wt (updN s.W (2 * s.V + 2) [])).fg gone)) (fun i hi => ⟨by simp, by simp⟩) rfl rfl rfl rfl 21 rfl (by
            show kept.map (pv s.rp) = (updN s.W (2 * s.V + 2) kept (2 * s.V + 2)).map (pv s.rp)
            rw [updN_same]) (by
            show (updN s.W (2 * s.V + 2) [] (2 * s.V + 2)).map (pv s.rp) = []
            rw [updN_same]; rfl) (by
            intro i h1 h2
            cases i <;> first
              | rfl
              | exact absurd rfl h2
              | (show (updN s.W (2 * s.V + 2) [] _).map (pv s.rp) = (updN s.W (2 * s.V + 2) kept _).map (pv s.rp)
                 rw [updN_other _ _ (fun e => h1 (by rw [e])), updN_other _ _ (fun e => h1 (by rw [e]))])
              | (refine List.map_congr_left fun c hc => ?_
                 have hc := List.mem_range.1 hc
                 change c < 2 * s.V + 2 at hc
                 unfold fvs mvd
                 rw [upd_other _ _ (by intro e; cases e; omega), upd_other _ _ (by simp)]))
          rw [V6] at hMV
          have hWs : updN s.W (2 * s.V + 2) [] = s.W := by
            funext c
            unfold updN
            split
            · rename_i e; rw [e, HWW.out]
            · rfl
          have hMV2 : Mem (wr.setCell ⟨bp, 21, none⟩ (.slice ao kept.length ck)) B bp ((s.ln kept).fg gone) (mvd F6 (.watch (2 * s.V + 2)) .learned) := hMV.like rfl (by
            intro q
            cases q <;> first
              | rfl
              | (show (s.W _).map (pv s.rp) = (updN s.W (2 * s.V + 2) [] _).map (pv s.rp)
                 rw [hWs])) rfl rfl rfl rfl
          have f21o : wr.cell? ⟨bp, 21, none⟩ = some (F6 .learned).v := M.fld 21
          have z21 : wr.frozen? ⟨bp, 21, none⟩ = false := M.obj.frozen 21
          have f22 : (wr.setCell ⟨bp, 21, none⟩ (.slice ao kept.length ck)).cell? ⟨bp, 22, none⟩ = some (.int .i64 s.room) := hMV2.fld 22
          have z22 : (wr.setCell ⟨bp, 21, none⟩ (.slice ao kept.length ck)).frozen? ⟨bp, 22, none⟩ = false := hMV2.obj.frozen 22
          have hB8 : Below B w (wr.setCell ⟨bp, 21, none⟩ (.slice ao kept.length ck)) := hb.trans ((Below.refl _ _).setCell hB _)
          have HM8 := Lib.hid hMV2
          have HB8 := Lib.hid hB8
          generalize (F6 .learned).v = ov at *
          clear M hMV hMV2 hB8 hv6 V6 hb hWs
          obtain ⟨rn, hrn⟩ : ∃ rn : Nat, s.room = (rn : Int) := ⟨s.room.toNat, by omega⟩
          obtain ⟨dv, hdv, hdl⟩ : ∃ dv : Nat, Int.tdiv (rn : Int) 8 = (dv : Int) ∧ dv ≤ rn := ⟨rn / 8, by rw [Int.tdiv_eq_ediv_of_nonneg (by omega)]; omega, by omega⟩
          have hrnb : rn ≤ 1000000000 := by omega
          rw [hrn] at f22
          have HRS : Hid (∀ w', Mem w' B bp ((((s.ln kept).fg gone)).rm ((rn : Int) + ((dv : Int) + 1))) (mvd F6 (.watch (2 * s.V + 2)) .learned) → Below B w w' → FgP B bp s w w') := Lib.hid fun w' hm hb => ⟨kept, gone, _, _, hm, hsub, hgo1, hgo2, by omega, by omega, by omega, hb⟩
          clear hsub hgo1 hgo2 hrn hr0 hr1 hlr
          go_wp2_with fail
          generalize (wr.setCell ⟨bp, 21, none⟩ (.slice ao kept.length ck)) = w8 at *
          have hM9 := (HM8.out.setRoom ((rn : Int) + ((dv : Int) + 1))).below (Below.refl _ _).drew
          have hB9 : Below B w (w8.setCell ⟨bp, 22, none⟩ (.int .i64 ((rn : Int) + ((dv : Int) + 1)))).drew := (HB8.out.trans ((Below.refl _ _).setCell hB _)).drew
          have HFIN := Lib.hid (HRS.out _ hM9 hB9)
          clear hM9 hB9 HM8 HB8 HRS
          go_region
          go_wp2
          go_end0
          exact ⟨rfl, HFIN.out⟩
end
end Go.Proofs.YtojjjndhabjhdaaDoor.satSc
