/-
  Plain: what holds while clauses are loaded.
  Contract of (*search).load.
  A statement whose order is open and that makes things, each in memory of its own: the makers in any order.
-/
import Derived.Test.YtojjjndhabjhdaaDoorFiM
import Derived.Test.YtojjjndhabjhdaaDoorFbM
import Derived.Below
import Derived.OwnWalk
import Derived.RegionTactic
namespace Go.Proofs.YtojjjndhabjhdaaDoor.satLa
set_option linter.unusedSimpArgs false
set_option linter.unusedVariables false
open proofP proofQ owns cls satP satQ satR satS satA satF satB satC satD satE satG satH satI satJ satK satM satN satU satV satO satW satX satZ satSa satSb satSc satCa satCb satCc satCd satCe satRi satRj satRk satSd satSe

/-- two neighbours of a row are opposites -/
def nb (r : List Nat) (q : Nat) : Prop := ∃ t, 1 ≤ t ∧ t < q ∧ r.getD t 0 = opp (r.getD (t - 1) 0)
theorem nb_taut {r : List Nat} (h : r.Pairwise (· < ·)) (ht : taut r) : nb r r.length := by
  have hp : ∀ a b, a < b → b < r.length → r.getD a 0 < r.getD b 0 := by
    intro a b hab hb
    have := List.pairwise_iff_getElem.1 h a b (by omega) hb hab
    rw [List.getD_eq_getElem?_getD, List.getElem?_eq_getElem (by omega), List.getD_eq_getElem?_getD, List.getElem?_eq_getElem hb]; exact this
  obtain ⟨x, hx, hx'⟩ := ht
  have key : ∀ y, y % 2 = 0 → y ∈ r → y + 1 ∈ r → nb r r.length := by
    intro y hy h1 h2
    obtain ⟨a, ha, ea⟩ := mem_get.1 h1
    obtain ⟨b, hb, eb⟩ := mem_get.1 h2
    have hab : a < b := by
      rcases Nat.lt_trichotomy a b with h' | h' | h'
      · exact h'
      · subst h'; omega
      · have := hp b a h' ha; omega
    have hb1 : b = a + 1 := by
      by_cases e : b = a + 1
      · exact e
      · have h1 := hp a (a + 1) (by omega) (by omega)
        have h2 := hp (a + 1) b (by omega) hb
        omega
    refine ⟨b, by omega, hb, ?_⟩
    rw [hb1, Nat.add_sub_cancel, ea, ← hb1, eb]
    unfold opp; rw [if_pos hy]
  by_cases hx2 : x % 2 = 0
  · exact key x hx2 hx (by have : opp x = x + 1 := by unfold opp; rw [if_pos hx2]
                           rw [← this]; exact hx')
  · have e : opp x = x - 1 := by unfold opp; rw [if_neg hx2]
    rw [e] at hx'
    exact key (x - 1) (by omega) hx' (by rw [Nat.sub_add_cancel (by omega)]; exact hx)
theorem taut_at {r : List Nat} {t : Nat} (h1 : 1 ≤ t) (h2 : t < r.length) (h : r.getD t 0 = opp (r.getD (t - 1) 0)) : taut r :=
  ⟨r.getD (t - 1) 0, get_mem (by omega), by rw [← h]; exact get_mem h2⟩

/-- all but what loading changes -/
def Ld (s0 s : SS) : Prop := ∃ n row gone sp rp W vt trail lvl rsn phase empty tmp, s = { s0 with n := n, row := row, gone := gone, spread := sp, rp := rp, W := W, vt := vt, trail := trail, lvl := lvl, rsn := rsn, phase := phase, empty := empty, tmp := tmp }
/-- a search that was just made -/
structure St0 (s : SS) : Prop where
  st : s.starts = []
  hd : s.head = 0
  wf : WF s
  q : QI s.V (fun _ => True) s.heap s.place
  sn : ∀ v, v ≤ s.V → s.seen v = false
  ln : s.learned = []
  lg : s.logn = 0
  wn : s.wanted.Nodup ∧ ∀ c, c ∈ s.wanted → 2 ≤ c ∧ c < 2 * s.V + 2
  sm : s.stamps.length = 3 * s.V + 2 ∧ s.stamp = 0
  ro : 0 ≤ s.room ∧ s.room ≤ 9223372036854775807
  cf : s.conflict = 0
  sc : s.since = 0
  pz : 0 ≤ s.pause
  rs : s.restart = 0 ∨ 1 ≤ s.pause
structure LI (CS : List (List Int)) (s0 : SS) (done : List (List Int)) (cls : Nat → List Int) (s : SS) : Prop where
  ld : Ld s0 s
  G : PGd cls CS s
  og : ∀ c, c ∈ done → taut (rowOf c) ∨ (∃ x, x ∈ rowOf c ∧ x ∈ s.trail) ∨ (∃ i, i < s.n ∧ cls i = c ∧ s.gone i = false) ∨ s.empty = true
  em : s.empty = true → pl CS [] = true
  nl : s.n ≤ done.length
section
variable {CS done : List (List Int)} {s0 s : SS} {cls : Nat → List Int} {c : List Int} {x : Nat}
theorem Ld.starts (h : Ld s0 s) : s.starts = s0.starts := by obtain ⟨_, _, _, _, _, _, _, _, _, _, _, _, _, rfl⟩ := h; rfl
theorem Ld.V (h : Ld s0 s) : s.V = s0.V := by obtain ⟨_, _, _, _, _, _, _, _, _, _, _, _, _, rfl⟩ := h; rfl
theorem Ld.wanted (h : Ld s0 s) : s.wanted = s0.wanted := by obtain ⟨_, _, _, _, _, _, _, _, _, _, _, _, _, rfl⟩ := h; rfl
theorem Ld.budget (h : Ld s0 s) : s.budget = s0.budget := by obtain ⟨_, _, _, _, _, _, _, _, _, _, _, _, _, rfl⟩ := h; rfl
theorem Ld.head (h : Ld s0 s) : s.head = s0.head := by obtain ⟨_, _, _, _, _, _, _, _, _, _, _, _, _, rfl⟩ := h; rfl
theorem Ld.logn (h : Ld s0 s) : s.logn = s0.logn := by obtain ⟨_, _, _, _, _, _, _, _, _, _, _, _, _, rfl⟩ := h; rfl
theorem Ld.conflict (h : Ld s0 s) : s.conflict = s0.conflict := by obtain ⟨_, _, _, _, _, _, _, _, _, _, _, _, _, rfl⟩ := h; rfl
/-- one more is read; nothing of the state changes but the rows of the call's own -/
theorem LI.same (L : LI CS s0 done cls s) (tmp : Nat → List Nat) (h : taut (rowOf c) ∨ (∃ x, x ∈ rowOf c ∧ x ∈ s.trail) ∨ s.empty = true) : LI CS s0 (done ++ [c]) cls (s.tm tmp) := by
  refine ⟨?_, ⟨L.G.B, L.G.R, L.G.Y, L.G.wt, L.G.vt, L.G.ph, L.G.rb, L.G.hn, L.G.hV, L.G.hs⟩, fun c' hc' => ?_, L.em, ?_⟩
  · obtain ⟨n, row, gone, sp, rp, W, vt, trail, lvl, rsn, phase, empty, tm, rfl⟩ := L.ld
    exact ⟨n, row, gone, sp, rp, W, vt, trail, lvl, rsn, phase, empty, tmp, rfl⟩
  · rcases List.mem_append.1 hc' with hc' | hc'
    · exact L.og c' hc'
    · simp at hc'
      subst hc'
      rcases h with h | h | h
      · exact .inl h
      · exact .inr (.inl h)
      · exact .inr (.inr (.inr h))
  · have := L.nl
    show s.n ≤ _
    simp; omega
theorem LI.tms (L : LI CS s0 done cls s) (tmp : Nat → List Nat) : LI CS s0 done cls (s.tm tmp) := by
  refine ⟨?_, ⟨L.G.B, L.G.R, L.G.Y, L.G.wt, L.G.vt, L.G.ph, L.G.rb, L.G.hn, L.G.hV, L.G.hs⟩, L.og, L.em, L.nl⟩
  obtain ⟨n, row, gone, sp, rp, W, vt, trail, lvl, rsn, phase, empty, tm, rfl⟩ := L.ld
  exact ⟨n, row, gone, sp, rp, W, vt, trail, lvl, rsn, phase, empty, tmp, rfl⟩
/-- the clauses can't all be true -/
theorem LI.fail (L : LI CS s0 done cls s) (h : pl CS [] = true) : LI CS s0 (done ++ [c]) cls { s with empty := true } := by
  refine ⟨?_, ⟨L.G.B, L.G.R, L.G.Y, L.G.wt, L.G.vt, L.G.ph, L.G.rb, L.G.hn, L.G.hV, L.G.hs⟩, fun c' hc' => .inr (.inr (.inr rfl)), fun _ => h, ?_⟩
  · obtain ⟨n, row, gone, sp, rp, W, vt, trail, lvl, rsn, phase, empty, tm, rfl⟩ := L.ld
    exact ⟨n, row, gone, sp, rp, W, vt, trail, lvl, rsn, phase, true, tm, rfl⟩
  · have := L.nl
    show s.n ≤ _
    simp; omega
theorem pl_nil (hc : c ∈ CS) (h : rowOf c = []) : pl CS [] = true := by
  refine pl_iff.2 (.inr ⟨c, hc, fun l hl hlit => ?_⟩)
  have := (row_is c (code l)).2 ⟨l, hl, hlit, rfl⟩
  rw [h] at this
  simp at this
theorem unit_d (hc : c ∈ CS) (h : rowOf c = [x]) : D CS [] x :=
  unitD (row_is c) hc (by rw [h]; simp) fun y hy hne => by rw [h] at hy; simp at hy; exact absurd hy hne
theorem LI.pl1 (L : LI CS s0 done cls s) (h0 : s0.starts = []) (hc : c ∈ CS) (h : rowOf c = [x]) (hx : opp x ∈ s.trail) : pl CS [] = true := by
  obtain ⟨p, hp⟩ := mem_at.1 hx
  have hz : D CS [] (opp x) := L.G.Y.zero L.G.B L.G.R p _ hp (by
    have hs : s.starts = [] := L.ld.starts.trans h0
    have h1 := L.G.B.lv p _ hp 0
    rw [hs] at h1
    by_cases e : s.lvl (opp x / 2) = 0
    · exact e
    · obtain ⟨t, ht, _⟩ := h1.1 (by omega)
      simp at ht)
  exact pl_iff.2 (clashD (by have := (row_is c).rng (x := x) (by rw [h]; simp); omega) (unit_d hc h) hz)
/-- a code alone is set -/
theorem LI.set (L : LI CS s0 done cls s) (h0 : s0.starts = []) (hc : c ∈ CS) (h : rowOf c = [x]) (hx : 2 ≤ x ∧ x < 2 * s.V + 2) (h1 : x ∉ s.trail) (h2 : opp x ∉ s.trail) : LI CS s0 (done ++ [c]) cls (s.put x none) := by
  have hs : s.starts = [] := L.ld.starts.trans h0
  refine ⟨?_, ⟨L.G.B.set hx h1 h2, L.G.R, L.G.Y.set L.G.B h1 h2 (.inr ⟨rfl, .inl ⟨hs, unit_d hc h⟩⟩), L.G.wt, by show s.vt ++ [x] = s.trail ++ [x]; rw [L.G.vt], fun v => ?_, fun v i hv => ?_, L.G.hn, L.G.hV, L.G.hs⟩, fun c' hc' => ?_, L.em, ?_⟩
  · obtain ⟨n, row, gone, sp, rp, W, vt, trail, lvl, rsn, phase, empty, tm, rfl⟩ := L.ld
    exact ⟨n, row, gone, sp, rp, W, _, _, _, _, _, empty, tm, rfl⟩
  · show updN s.phase (x / 2) (x % 2) v ≤ 1
    unfold updN
    split
    · omega
    · exact L.G.ph v
  · change updN s.rsn (x / 2) none v = some i at hv
    unfold updN at hv
    split at hv
    · cases hv
    · exact L.G.rb v i hv
  · rcases List.mem_append.1 hc' with hc' | hc'
    · rcases L.og c' hc' with k | ⟨y, k1, k2⟩ | k
      · exact .inl k
      · exact .inr (.inl ⟨y, k1, List.mem_append_left _ k2⟩)
      · exact .inr (.inr k)
    · simp at hc'
      subst hc'
      exact .inr (.inl ⟨x, by rw [h]; simp, List.mem_append_right _ (by simp)⟩)
  · have := L.nl
    show s.n ≤ _
    simp; omega
/-- a row of two codes or more -/
theorem LI.row (L : LI CS s0 done cls s) (hc : c ∈ CS) (h2 : 2 ≤ (rowOf c).length) (hr : ∀ x, x ∈ rowOf c → x < 2 * s.V + 2) (ht : ¬ taut (rowOf c)) (hd : done.length < 1000000000) (ri : Nat) (sp : Int) : LI CS s0 (done ++ [c]) (updN cls s.n c) ((s.nr (rowOf c) ri sp).wt (satS.watched s.W s.n (rowOf c))) := by
  have hn := L.nl
  refine ⟨?_, ⟨L.G.B, L.G.R.add (row_nodup c) h2 (fun x hx => ⟨((row_is c).rng hx).1, hr x hx⟩) ht (row_is c) hc, L.G.Y.add, L.G.wt.add (row_nodup c) h2, L.G.vt, L.G.ph, fun v i hv => Nat.lt_succ_of_lt (L.G.rb v i hv), by show s.n + 1 ≤ 1000000000; omega, L.G.hV, L.G.hs⟩, fun c' hc' => ?_, L.em, ?_⟩
  · obtain ⟨n, row, gone, sp', rp, W, vt, trail, lvl, rsn, phase, empty, tm, rfl⟩ := L.ld
    exact ⟨_, _, _, _, _, _, vt, trail, lvl, rsn, phase, empty, _, rfl⟩
  · rcases List.mem_append.1 hc' with hc' | hc'
    · rcases L.og c' hc' with k | k | ⟨i, k1, k2, k3⟩ | k
      · exact .inl k
      · exact .inr (.inl k)
      · refine .inr (.inr (.inl ⟨i, Nat.lt_succ_of_lt k1, ?_, ?_⟩))
        · rw [updN_other _ _ (by omega)]; exact k2
        · show updN s.gone s.n false i = false
          rw [updN_other _ _ (by omega)]; exact k3
      · exact .inr (.inr (.inr k))
    · simp at hc'
      subst hc'
      refine .inr (.inr (.inl ⟨s.n, Nat.lt_succ_self _, updN_same _ _ _, ?_⟩))
      show updN s.gone s.n false s.n = false
      rw [updN_same]
  · show s.n + 1 ≤ _
    simp; omega
/-- all is loaded -/
theorem LI.ri (L : LI CS s0 CS cls s) (S : St0 s0) (he : s.empty = false) : RI CS s.n cls s.head s ∧ CN 0 s := by
  have G := L.G
  have hog := L.og
  obtain ⟨n, row, gone, sp, rp, W, vt, trail, lvl, rsn, phase, empty, tm, rfl⟩ := L.ld
  have hst : s0.starts = [] := S.st
  have hhd : s0.head = 0 := S.hd
  have hlg := S.lg
  refine ⟨?_, ?_⟩
  · constructor <;> try dsimp only
    case G =>
      have e : CS ++ (List.range s0.logn).map s0.lg = CS := by rw [hlg, List.range_zero, List.map_nil, List.append_nil]
      show PGd cls (CS ++ (List.range s0.logn).map s0.lg) _
      rw [e]
      exact G
    case pro =>
      rw [hhd]
      intro i hi hg j hj ho
      simp at ho
    case hl => rw [hhd]; exact Nat.zero_le _
    case top => intro t ht; rw [hst] at ht; simp at ht
    case cur => intro t ht; rw [hst] at ht; simp at ht
    case wf => exact ⟨S.wf.len, S.wf.fp, S.wf.st⟩
    case q => exact ⟨fun _ => True, S.q, fun _ _ _ _ _ => trivial⟩
    case sn => exact S.sn
    case lr => intro i hi; rw [S.ln] at hi; simp at hi
    case ll => rw [S.ln]; exact Nat.zero_le _
    case ai => intro j c a h1 h2; rw [hst] at h2; simp at h2
    case di => intro p x h1; rw [hst] at h1; simp at h1
    case sl => rw [hst]; exact SL.nil _
    case wn => exact S.wn
    case st => exact ⟨S.sm.1, by rw [S.sm.2]; exact Int.le_refl _, by rw [S.sm.2]; exact Int.natCast_nonneg _⟩
    case ro => exact S.ro
    case lg => intro i hi; rw [hlg] at hi; omega
    case og =>
      intro c hc
      rcases hog c hc with k | ⟨x, k1, k2⟩ | k | k
      · exact .inl k
      · obtain ⟨p, hp⟩ := mem_at.1 k2
        exact .inr (.inl ⟨p, x, k1, hp, fun t ht => by rw [hst] at ht; simp at ht⟩)
      · exact .inr (.inr k)
      · rw [he] at k; cases k
    case nn => exact ⟨Nat.le_refl _, Nat.le_add_right _ _⟩
  · constructor <;> try dsimp only
    case c0 => rw [hlg, S.cf]; exact Int.le_refl _
    case cm => rw [S.cf, S.sc]; simp
    case sc => rw [S.sc]; exact ⟨Int.le_refl _, Int.natCast_nonneg _⟩
    case pz => exact S.pz
    case rs =>
      by_cases k : s0.restart = 0
      · exact .inl ⟨k, rfl⟩
      · rcases S.rs with k' | k'
        · exact absurd k' k
        · exact .inr ⟨k, by simpa using k'⟩
    case m35 => omega
end
end Go.Proofs.YtojjjndhabjhdaaDoor.satLa
namespace Go.Proofs.YtojjjndhabjhdaaDoor.satLb
set_option linter.unusedSimpArgs false
set_option linter.unusedVariables false
open Go.ChangeShapes Go.WideShapes Go.ChangeAt Go.RowKit proofP proofQ owns cls satP satQ satR satS satA satF satB satC satD satE satG satH satI satJ satK satM satN satU satV satO satW satX satZ satSa satSb satSc satCa satCb satCc satCd satCe satRi satRj satRk satSd satSe satLa
attribute [local go_sem ↓] Go.wp_at_zero Go.wp_at_succ

section
variable {w w' wr : World} {B bp : Nat} {s s0 : SS} {F F' : Ix → Ent} {CS done : List (List Int)} {c : List Int} {cls : Nat → List Int} {v : Value}
theorem LI.idx (L : LI CS s0 done cls s) (S : St0 s0) : Idx s := by
  refine ⟨fun c i hi => (L.G.wt.wat c i hi).1, fun i hi => ?_, fun v i hi => L.G.rb v i hi⟩
  have : s.learned = s0.learned := by obtain ⟨_, _, _, _, _, _, _, _, _, _, _, _, _, rfl⟩ := L.ld; rfl
  rw [this, S.ln] at hi
  simp at hi
/-- what load leaves -/
def LoP (B bp : Nat) (CS : List (List Int)) (s0 : SS) (done : List (List Int)) (c : List Int) (w w' : World) : Prop := ∃ s' F' cls', Mem w' B bp s' F' ∧ LI CS s0 (done ++ [c]) cls' s' ∧ Below B w w'
set_option maxHeartbeats 4000000 in
set_option maxRecDepth 100000 in
theorem load_any (M : Mem w B bp s F) (L : LI CS s0 done cls s) (S : St0 s0) (hc : c ∈ CS) (hr : ∀ x, x ∈ rowOf c → x < 2 * s.V + 2) (hd : done.length < 1000000) (hv : (F (.tmp 1)).v = v) (ht : s.tmp 1 = rowOf c) :
    Calls Tryd.prog 13 #[.pointer (some ⟨bp, 0, none⟩), v] w fun e w' => e = .returned (.tuple #[]) ∧ LoP B bp CS s0 done c w w' := by
  have ho := M.ownAt (.tmp 1) (xs := (rowOf c).map iv) (by show (s.tmp 1).map iv = _; rw [ht])
  rw [List.length_map, hv] at ho
  change w.ownsRow B 3 1 v (rowOf c).length ((rowOf c).map iv) at ho
  have hB := M.hB
  have hV : s.V ≤ 20000 := L.G.hV
  have hbl := M.obj.lt
  have hL1 := nodup_bound (row_nodup c) hr
  have HSO := Lib.hid (row_sorted c)
  have HRG : Hid (∀ x, x ∈ rowOf c → 2 ≤ x ∧ x < 2 * s.V + 2) := Lib.hid fun x hx => ⟨((row_is c).rng hx).1, hr x hx⟩
  obtain ⟨L0, hL0⟩ : ∃ n, n = (rowOf c).length := ⟨_, rfl⟩
  have HL0 := Lib.hid hL0
  have HM := Lib.hid M
  have HL := Lib.hid L
  have HS := Lib.hid S
  have HT := Lib.hid ht
  have HV := Lib.hid hv
  have hLb : L0 ≤ 40002 := by omega
  rw [← hL0] at ho
  obtain ⟨a0, c0, rfl⟩ := own_slice ho
  have hnb0 : ¬ nb (rowOf c) 1 := fun ⟨t, h1, h2, _⟩ => by omega
  have HNB0 := Lib.hid hnb0
  have HHV := Lib.hid hv
  have HCI := Lib.hid hc
  clear M L S hc hr ht hv hL0 hL1 ho hnb0 HV
  go_enter Tryd.func13, Tryd.ntmps13
  go_wp2
  go_loopw [4] (fun it wr => ∃ k : Nat, 1 ≤ k ∧ (k ≤ L0 ∨ k = 1) ∧ it = .int .i64 k ∧ ¬ nb (rowOf c) k ∧ Mem wr B bp s F ∧ Below B w wr) (fun it _ => L0 - (intOf it).toNat)
  case atStart => exact ⟨1, Nat.le_refl _, .inr rfl, rfl, HNB0.out, HM.out, Below.refl _ _⟩
  case round =>
    obtain ⟨k, hk1, hk2, rfl, hnb, M, hb⟩ := hrel
    have HNB := Lib.hid hnb
    clear HNB0 HM hnb
    have hv := HHV.out
    have hx : (F (.tmp 1)).xs = (rowOf c).map iv := by rw [M.xs]; show (s.tmp 1).map iv = _; rw [HT.out]
    by_cases hlt : k < L0
    · have hltr : k < (rowOf c).length := by rw [← HL0.out]; exact hlt
      have hox := M.ownAt (.tmp 1) (xs := (rowOf c).map iv) (by show (s.tmp 1).map iv = _; rw [HT.out])
      rw [List.length_map] at hox
      obtain ⟨g, cap, hgv, _, _, _, _⟩ := own_form hox (by omega)
      rw [hgv] at hv
      simp only [Value.slice.injEq] at hv
      obtain ⟨rfl, hle, rfl⟩ := hv
      obtain ⟨q, rfl⟩ : ∃ q, k = q + 1 := ⟨k - 1, by omega⟩
      have c1 := M.own.cell hgv (q + 1) (by rw [hx]; simpa using hltr)
      have c0 := M.own.cell hgv q (by rw [hx]; simp; omega)
      rw [hx, getD_iv hltr] at c1
      rw [hx, getD_iv (by omega)] at c0
      have hrg := HRG.out ((rowOf c).getD q 0) (get_mem (by omega))
      have hxor := xor1 ((rowOf c).getD q 0) (by omega)
      have hqm : IntKind.i64.wrap ((q : Int) + 1 - 1) = (q : Int) := by rw [show (q : Int) + 1 - 1 = (q : Int) by omega]; exact IntWalk.i64_in _ (by omega)
      have hqL : q < L0 := by omega
      have hqLI : (q : Int) + 1 < (L0 : Int) := by omega
      by_cases he : (rowOf c).getD (q + 1) 0 = opp ((rowOf c).getD q 0)
      · have HFIN : Hid (∀ n, LoP B bp CS s0 done c w (wr.drewN n)) := Lib.hid fun n => ⟨_, F, cls, (M.below (Go.Joins.below_draws _ _ _)), (HL.out.same s.tmp (.inl (taut_at (t := q + 1) (by omega) hltr (by simpa using he)))), hb.trans (Go.Joins.below_draws _ _ _)⟩
        clear M hb hx hox hgv hltr hrg
        generalize (rowOf c).getD q 0 = x0 at *
        generalize (rowOf c).getD (q + 1) 0 = x1 at *
        have q1 : ((x1 : Int) == ((opp x0 : Nat) : Int)) = true := by rw [he]; simp
        generalize opp x0 = x2 at *
        clear he
        go_wp2_with fail
        go_quiet (fail)
        have HX := Lib.hid (HFIN.out nq)
        generalize wr.drewN nq = w5 at *
        go_wp2
        refine bodyPost_ret (results_none rfl _ _ _) rfl ?_
        exact ⟨rfl, HX.out⟩
      · have HNX : Hid (∀ n, ∃ k : Nat, 1 ≤ k ∧ (k ≤ L0 ∨ k = 1) ∧ Value.int .i64 ((q : Int) + 1 + 1) = .int .i64 k ∧ ¬ nb (rowOf c) k ∧ Mem (wr.drewN n) B bp s F ∧ Below B w (wr.drewN n)) := Lib.hid fun n => ⟨q + 2, by omega, .inl (by omega), by go_num, fun ⟨t, h1, h2, h3⟩ => by
            by_cases e : t = q + 1
            · subst e
              exact he (by simpa using h3)
            · exact HNB.out ⟨t, h1, by omega, h3⟩, M.below (Go.Joins.below_draws _ _ _), hb.trans (Go.Joins.below_draws _ _ _)⟩
        clear M hb hx hox hgv hltr hrg
        generalize (rowOf c).getD q 0 = x0 at *
        generalize (rowOf c).getD (q + 1) 0 = x1 at *
        have q1 : ((x1 : Int) == ((opp x0 : Nat) : Int)) = false := by rw [beq_eq_false_iff_ne]; omega
        generalize opp x0 = x2 at *
        clear he
        go_wp2_with fail
        go_quiet (fail)
        have HX := Lib.hid (HNX.out nq)
        generalize wr.drewN nq = w5 at *
        go_wp2
        go_roundw
        case rel => exact HX.out
        case measure => simp [intOf]; omega
    · have hnt : ¬ taut (rowOf c) := fun h => by
        have hn := nb_taut HSO.out h
        rw [← HL0.out] at hn
        rcases hk2 with e | e
        · rw [show k = L0 by omega] at HNB; exact HNB.out hn
        · obtain ⟨t, h1, h2, _⟩ := hn; omega
      have hkL : decide ((k : Int) < (L0 : Int)) = false := decide_eq_false (by omega)
      rcases (show L0 = 0 ∨ L0 = 1 ∨ 2 ≤ L0 by omega) with h0 | h0 | h0
      · subst h0
        have hrn : rowOf c = [] := List.length_eq_zero_iff.1 HL0.out.symm
        have M2 : Mem (wr.setCell ⟨bp, 26, none⟩ (.bool true)) B bp { s with empty := true } F := M.field 26 (.bool true) rfl (by intro i; cases i <;> rfl) rfl rfl rfl rfl
        have HFIN : Hid (LoP B bp CS s0 done c w (wr.setCell ⟨bp, 26, none⟩ (.bool true))) := Lib.hid ⟨_, F, cls, M2, HL.out.fail (pl_nil HCI.out hrn), hb.setCell hB _⟩
        have z26 := M.obj.frozen 26
        have f26 : wr.cell? ⟨bp, 26, none⟩ = some (.bool s.empty) := M.fld 26
        clear M M2 hb hx hv hrn hnt
        go_wp2
        go_end0
        exact ⟨rfl, HFIN.out⟩
      · subst h0
        obtain ⟨x, hrx⟩ : ∃ x, rowOf c = [x] := List.length_eq_one_iff.1 HL0.out.symm
        have hxr := HRG.out x (by rw [hrx]; simp)
        have hox := M.ownAt (.tmp 1) (xs := (rowOf c).map iv) (by show (s.tmp 1).map iv = _; rw [HT.out])
        rw [List.length_map] at hox
        obtain ⟨g, cap, hgv, _, _, _, _⟩ := own_form hox (by rw [hrx]; simp)
        rw [hgv] at hv
        simp only [Value.slice.injEq] at hv
        obtain ⟨rfl, hle, rfl⟩ := hv
        have q0 := M.own.cell hgv 0 (by rw [hx, hrx]; simp)
        rw [hx, hrx] at q0
        change wr.cell? ⟨g, 0, none⟩ = some (.int .i64 (x : Nat)) at q0
        obtain ⟨gV, cV, hVv, f7, qV, _, _⟩ := M.valAt
        have q7 := qV x hxr.2
        have hvt : s.vt = s.trail := HL.out.G.vt
        rw [hvt] at q7
        have hx3 := hxr.2
        have z26 := M.obj.frozen 26
        have f26 : wr.cell? ⟨bp, 26, none⟩ = some (.bool s.empty) := M.fld 26
        by_cases hin : x ∈ s.trail
        · rw [val_pos hin] at q7
          have HFIN : Hid (∀ n m, LoP B bp CS s0 done c w ((wr.drewN n).drewN m)) := Lib.hid fun n m => ⟨_, F, cls, (M.below (Go.Joins.below_draws _ _ _)).below (Go.Joins.below_draws _ _ _), HL.out.same s.tmp (.inr (.inl ⟨x, by rw [hrx]; simp, hin⟩)), (hb.trans (Go.Joins.below_draws _ _ _)).trans (Go.Joins.below_draws _ _ _)⟩
          clear M hb hx hox hgv hle hVv qV hnt hrx hin
          generalize 2 * s.V + 2 = N at *
          go_wp2_with fail
          go_quiet (fail)
          go_wp2_with fail
          go_quiet (fail)
          go_wp2
          go_end0
          exact ⟨rfl, HFIN.out _ _⟩
        · by_cases hon : opp x ∈ s.trail
          · rw [val_neg hin hon] at q7
            have M2 : ∀ n, Mem ((wr.drewN n).setCell ⟨bp, 26, none⟩ (.bool true)) B bp { s with empty := true } F := fun n => (M.below (Go.Joins.below_draws _ _ _)).field 26 (.bool true) rfl (by intro i; cases i <;> rfl) rfl rfl rfl rfl
            have HFIN : Hid (∀ n, LoP B bp CS s0 done c w ((wr.drewN n).setCell ⟨bp, 26, none⟩ (.bool true))) := Lib.hid fun n => ⟨_, F, cls, M2 n, HL.out.fail (HL.out.pl1 HS.out.st HCI.out hrx hon), (hb.trans (Go.Joins.below_draws _ _ _)).setCell hB _⟩
            clear M M2 hb hx hox hgv hle hVv qV hnt hrx hin hon
            generalize 2 * s.V + 2 = N at *
            have HZ : Hid (∀ n, (wr.drewN n).frozen? ⟨bp, 26, none⟩ = false ∧ (wr.drewN n).cell? ⟨bp, 26, none⟩ = some (.bool s.empty)) := Lib.hid fun n => ⟨by simpa using z26, by simpa using f26⟩
            go_wp2_with fail
            go_quiet (fail)
            have HX := Lib.hid (HFIN.out nq)
            obtain ⟨z26', f26'⟩ := HZ.out nq
            generalize wr.drewN nq = w5 at *
            go_wp2
            go_end0
            exact ⟨rfl, HX.out⟩
          · rw [val_zero hin hon] at q7
            have htl := HL.out.G.B.len
            have hst0 : s.starts = [] := HL.out.ld.starts.trans HS.out.st
            have HSE : Hid (∀ n m, Calls Tryd.prog 29 #[.pointer (some ⟨bp, 0, none⟩), .int .i64 x, .pointer none] ((wr.drewN n).drewN m) fun e w' => e = .returned (.tuple #[]) ∧ SetP B bp s F x none ((wr.drewN n).drewN m) w') := Lib.hid fun n m =>
              set_any ((M.below (Go.Joins.below_draws _ _ _)).below (Go.Joins.below_draws _ _ _)) hV x none hxr (by rw [hvt]; exact hin) (by rw [hvt]; exact hon) (by omega) (by rw [hst0]; exact Nat.zero_le _)
            have HFIN : Hid (∀ n m w', SetP B bp s F x none ((wr.drewN n).drewN m) w' → LoP B bp CS s0 done c w w') := Lib.hid fun n m w' ⟨F', M', _, hb'⟩ => ⟨_, F', cls, M', HL.out.set HS.out.st HCI.out hrx hxr hin hon, ((hb.trans (Go.Joins.below_draws _ _ _)).trans (Go.Joins.below_draws _ _ _)).trans hb'⟩
            clear M hb hx hox hgv hle hVv qV hnt hrx hin hon hst0
            generalize 2 * s.V + 2 = N at *
            go_wp2_with fail
            go_quiet (fail)
            have e1 := HSE.out nq
            have e2 := HFIN.out nq
            have q0' : (wr.drewN nq).cell? ⟨g, 0, none⟩ = some (.int .i64 (x : Nat)) := by simpa using q0
            have q7' : (wr.drewN nq).cell? ⟨gV, x, none⟩ = some (.int .i8 0) := by simpa using q7
            have f7' : (wr.drewN nq).cell? ⟨bp, 7, none⟩ = some (.slice (some ⟨gV, 0, none⟩) N cV) := by simpa using f7
            have HSE2 := Lib.hid e1
            have HFIN2 := Lib.hid e2
            clear HSE HFIN e1 e2 q0 q7 f7
            generalize wr.drewN nq = w5 at *
            go_wp2_with fail
            go_quiet (fail)
            have HSE3 := Lib.hid (HSE2.out nq)
            have HFIN3 := Lib.hid (HFIN2.out nq)
            have q0 : (w5.drewN nq).cell? ⟨g, 0, none⟩ = some (.int .i64 (x : Nat)) := by simpa using q0'
            clear HSE2 HFIN2 q0' q7' f7'
            generalize w5.drewN nq = w6 at *
            go_wp2_with fail
            refine HSE3.out.mono ?_
            rintro e w7 ⟨rfl, hS⟩
            have HX := Lib.hid (HFIN3.out w7 hS)
            clear hS
            go_wp2
            go_end0
            exact ⟨rfl, HX.out⟩
      · have hox := M.ownAt (.tmp 1) (xs := (rowOf c).map iv) (by show (s.tmp 1).map iv = _; rw [HT.out])
        rw [List.length_map] at hox
        obtain ⟨g, cap, hgv, _, _, _, _⟩ := own_form hox (by rw [← HL0.out]; omega)
        have hx0 := HRG.out ((rowOf c).getD 0 0) (get_mem (by rw [← HL0.out]; omega))
        have hx1 := HRG.out ((rowOf c).getD 1 0) (get_mem (by rw [← HL0.out]; omega))
        obtain ⟨F2, M2, V2, K2⟩ := M.newRow (LI.idx HL.out HS.out) 0
        rw [hv] at M2 V2
        rw [HT.out] at M2
        change Mem (wr.alloc (.cells #[.slice a0 L0 c0, .int .i64 0, .bool false] 75)) B bp (s.nr (rowOf c) wr.heap.size 0) F2 at M2
        have eR : (s.nr (rowOf c) wr.heap.size 0).row s.n = rowOf c := updN_same _ _ _
        have eP : pv (s.nr (rowOf c) wr.heap.size 0).rp s.n = .pointer (some ⟨wr.heap.size, 0, none⟩) := by
          show Value.pointer (some ⟨updN s.rp s.n wr.heap.size s.n, 0, none⟩) = _
          rw [updN_same]
        have hne : (rowOf c).getD 0 0 ≠ (rowOf c).getD 1 0 := fun e => by
          have := nodup_get.1 (row_nodup c) 0 1 (by rw [← HL0.out]; omega) (by rw [← HL0.out]; omega) e
          omega
        have hWA := watch_any M2 (by exact hV) s.n (Nat.lt_succ_self _) (by rw [eR, ← HL0.out]; exact h0) (by rw [eR]; exact hx0.2) (by rw [eR]; exact hx1.2) (by rw [eR]; exact hne) (fun x => HL.out.G.watLen x)
        rw [eP] at hWA
        have HWA := Lib.hid hWA
        have hBw : B ≤ wr.heap.size := by have := M.hB; have := M.obj.lt; omega
        have HFIN : Hid (∀ w', WatP B bp (s.nr (rowOf c) wr.heap.size 0) F2 s.n (wr.alloc (.cells #[.slice a0 L0 c0, .int .i64 0, .bool false] 75)) w' → LoP B bp CS s0 done c w w') := Lib.hid fun w' ⟨F', M', _, hb'⟩ => by
          rw [eR] at M'
          exact ⟨_, F', updN cls s.n c, M', HL.out.row HCI.out (by rw [← HL0.out]; exact h0) (fun x hx => (HRG.out x hx).2) hnt (by omega) wr.heap.size 0, (hb.alloc hBw _).trans hb'⟩
        have hl0 : ((L0 : Int) == 0) = false := beq_eq_false_iff_ne.2 (by omega)
        have hl1 : ((L0 : Int) == 1) = false := beq_eq_false_iff_ne.2 (by omega)
        clear M M2 hb hx hox hgv hv V2 K2 hx0 hx1 eR eP hne hWA hnt
        go_wp2_with fail
        refine HWA.out.mono ?_
        rintro e w7 ⟨rfl, hS⟩
        have HX := Lib.hid (HFIN.out w7 hS)
        clear hS
        go_wp2
        go_end0
        exact ⟨rfl, HX.out⟩
end
end Go.Proofs.YtojjjndhabjhdaaDoor.satLb
namespace Go.Proofs.YtojjjndhabjhdaaDoor.held3
set_option linter.unusedSimpArgs false
set_option linter.unusedVariables false
open Go Go.RowKit held

section
variable {P : Program} {md : Region.Mode} {ops : Array Oper} {Q : Exit → Act → World → Prop} {S : World → Prop}
def updV (f : Nat → Value) (k : Nat) (v : Value) : Nat → Value := fun j => if j = k then v else f j
theorem updV_other (f : Nat → Value) {k j : Nat} (v : Value) (h : j ≠ k) : updV f k v j = f j := by simp [updV, h]
theorem set_at {l : Array Bool} {i j : Nat} (hj : j < l.size) : (l.setIfInBounds i true).getD j true = if j = i then true else l.getD j true := by
  have h1 : j < (l.setIfInBounds i true).size := by simpa using hj
  by_cases e : j = i
  · subst e
    rw [if_pos rfl, Array.getD_eq_getD_getElem?, Array.getElem?_setIfInBounds_self_of_lt hj]; rfl
  · rw [if_neg e, Array.getD_eq_getD_getElem?, Array.getElem?_setIfInBounds_ne (Ne.symm e), ← Array.getD_eq_getD_getElem?]
theorem getD_tf {l : Array Bool} {k : Nat} (h : k < l.size) : l.getD k false = l.getD k true := by
  simp [Array.getD, h]
theorem arr_ext {l l' : Array Bool} (h : l.size = l'.size) (he : ∀ j, j < l.size → l.getD j true = l'.getD j true) : l = l' := by
  apply Array.ext h
  intro j h1 h2
  have := he j h1
  simpa [Array.getD, h1, h2] using this
theorem needs_of {i k : Nat} (h : k ∈ needs md ops i) : ∃ o e, ops[i]? = some o ∧ e ∈ o.after ∧ Region.binds md e = true ∧ e.on = k := by
  unfold needs at h
  cases ho : ops[i]? with
  | none => rw [ho] at h; simp at h
  | some o =>
    rw [ho] at h
    obtain ⟨e, he, rfl⟩ := List.mem_map.1 h
    rw [List.mem_filter] at he
    exact ⟨o, e, rfl, by simpa using he.1, he.2, rfl⟩
theorem least {l : List Nat} (h : l ≠ []) : ∃ t, t ∈ l ∧ ∀ k, k ∈ l → t ≤ k := by
  induction l with
  | nil => exact absurd rfl h
  | cons a l ih =>
    by_cases e : l = []
    · subst e; exact ⟨a, by simp, fun k hk => by simp at hk; omega⟩
    · obtain ⟨t, h1, h2⟩ := ih e
      by_cases h3 : a ≤ t
      · exact ⟨a, by simp, fun k hk => by
          rcases List.mem_cons.1 hk with rfl | hk
          · exact Nat.le_refl _
          · exact Nat.le_trans h3 (h2 k hk)⟩
      · exact ⟨t, List.mem_cons_of_mem _ h1, fun k hk => by
          rcases List.mem_cons.1 hk with rfl | hk
          · omega
          · exact h2 k hk⟩
theorem makers {N : Nat} {l1 : Array Bool} {G : List Nat} {d : Nat → Nat} {fr : (Nat → Value) → Act} {R : Nat → Nat → Nat → (Nat → Value) → World → Prop} {w0 : World} {f0 : Nat}
    (hN : l1.size = N) (hops : ops.size = N) (hdn : ∀ i, i ∈ G → ∀ j, j ∈ G → d i = d j → i = j)
    (hG1 : ∀ i, i ∈ G → i < N ∧ ∀ k, k ∈ needs md ops i → k < i ∧ (k ∈ G ∨ l1.getD k true = true))
    (hG2 : ∀ i, i < N → l1.getD i true = false → (∀ k, k ∈ G → k ∈ needs md ops i) ∨ ∃ k, k ∈ needs md ops i ∧ k < N ∧ k ∉ G ∧ l1.getD k true = false)
    (hrun : ∀ i, i ∈ G → ∀ (vals : Nat → Value) (lo hi : Nat → Nat) (w : World), Below w0.heap.size w0 w → S w → (∀ k, k ∈ needs md ops i → k ∈ G → R k (lo k) (hi k) vals w ∧ w0.heap.size ≤ lo k ∧ lo k ≤ hi k ∧ hi k ≤ w.heap.size) → wpOp P ops Q i (fun a' w' => ∃ v, a' = fr (updV vals (d i) v) ∧ R i w.heap.size w'.heap.size (updV vals (d i) v) w' ∧ Below w.heap.size w w' ∧ S w') (fr vals) w)
    (hR : ∀ i, i ∈ G → ∀ lo hi vals vals' w w', R i lo hi vals w → hi ≤ w.heap.size → Below w.heap.size w w' → (∀ k, k ∈ G → (k = i ∨ k ∈ needs md ops i) → vals' (d k) = vals (d k)) → R i lo hi vals' w')
    (hend : ∀ (vals : Nat → Value) (lo hi : Nat → Nat) (w : World), (∀ i, i ∈ G → R i (lo i) (hi i) vals w ∧ w0.heap.size ≤ lo i ∧ lo i ≤ hi i ∧ hi i ≤ w.heap.size) → (∀ i, i ∈ G → ∀ j, j ∈ G → i ≠ j → hi i ≤ lo j ∨ hi j ≤ lo i) → Below w0.heap.size w0 w → S w → wpAnyH P md ops Q S f0 l1 (fr vals) w) :
    ∀ (n : Nat) (todo : List Nat), todo.length = n → ∀ (vals : Nat → Value) (lo hi : Nat → Nat) (listed : Array Bool) (w : World), todo.Nodup → (∀ i, i ∈ todo → i ∈ G) → listed.size = N → (∀ j, j < N → listed.getD j true = if j ∈ todo then false else l1.getD j true) → (∀ j, j ∈ G → j ∉ todo → ∀ k, k ∈ needs md ops j → k ∉ todo) →
      (∀ i, i ∈ G → i ∉ todo → R i (lo i) (hi i) vals w ∧ w0.heap.size ≤ lo i ∧ lo i ≤ hi i ∧ hi i ≤ w.heap.size) → (∀ i, i ∈ G → i ∉ todo → ∀ j, j ∈ G → j ∉ todo → i ≠ j → hi i ≤ lo j ∨ hi j ≤ lo i) → Below w0.heap.size w0 w → S w →
      wpAnyH P md ops Q S (f0 + n) listed (fr vals) w := by
  intro n
  induction n with
  | zero =>
    intro todo hn vals lo hi listed w _ _ hls hl _ hv hd hb hS
    have ht : todo = [] := List.length_eq_zero_iff.1 hn
    subst ht
    have : listed = l1 := arr_ext (by rw [hls, hN]) fun j hj => by rw [hl j (by omega)]; simp
    subst this
    exact hend vals lo hi w (fun i hi' => hv i hi' (by simp)) (fun i h1 j h2 => hd i h1 (by simp) j h2 (by simp)) hb hS
  | succ n ih =>
    intro todo hn vals lo hi listed w hnd hsub hls hl hsh hv hd hb hS
    obtain ⟨t0, ht0, htm⟩ := least (l := todo) (by intro e; rw [e] at hn; simp at hn)
    have hg : ∀ k, k < N → listed.getD k false = listed.getD k true := fun k hk => getD_tf (by omega)
    refine ⟨fun h0 => ?_, fun i hi' => ?_⟩
    · have hin := (hG1 t0 (hsub t0 ht0))
      obtain ⟨o, ho⟩ : ∃ o, ops[t0]? = some o := ⟨_, Array.getElem?_eq_getElem (by omega)⟩
      have : t0 ∈ Region.ready md ops listed := mem_ready.2 ⟨by rw [hl t0 hin.1, if_pos ht0], o, ho, fun e he hb' => by
        have hk : e.on ∈ needs md ops t0 := by
          unfold needs
          rw [ho]
          exact List.mem_map.2 ⟨e, List.mem_filter.2 ⟨by simpa using he, hb'⟩, rfl⟩
        obtain ⟨k1, k2⟩ := hin.2 _ hk
        have hkn : e.on ∉ todo := fun h => by have := htm _ h; omega
        rw [hg _ (by omega), hl _ (by omega), if_neg hkn]
        rcases k2 with k2 | k2
        · cases e1 : l1.getD e.on true with
          | true => rfl
          | false =>
            rcases hG2 e.on (by omega) e1 with h | ⟨k, h1, h2, h3, h4⟩
            · have := ((hG1 _ k2).2 _ (h _ k2)).1; omega
            · rcases ((hG1 _ k2).2 _ h1).2 with h5 | h5
              · exact absurd h5 h3
              · rw [h5] at h4; cases h4
        · exact k2⟩
      rw [h0] at this
      simp at this
    · obtain ⟨h1, o, ho, h2⟩ := mem_ready.1 hi'
      have hiN : i < N := by
        by_cases e : i < N
        · exact e
        · rw [Array.getElem?_eq_none (by omega)] at ho; cases ho
      have hneed : ∀ k, k ∈ needs md ops i → k < N → listed.getD k true = true := fun k hk hkN => by
        obtain ⟨o', e, ho', he, hb', rfl⟩ := needs_of hk
        rw [ho] at ho'
        cases ho'
        rw [← hg _ hkN]; exact h2 e he hb'
      have hit : i ∈ todo := by
        by_cases e : i ∈ todo
        · exact e
        · rw [hl i hiN, if_neg e] at h1
          rcases hG2 i hiN h1 with h | ⟨k, k1, k2, k3, k4⟩
          · have := hneed t0 (h t0 (hsub t0 ht0)) (hG1 t0 (hsub t0 ht0)).1
            rw [hl t0 (hG1 t0 (hsub t0 ht0)).1, if_pos ht0] at this
            cases this
          · have := hneed k k1 k2
            rw [hl k k2, if_neg (fun h => k3 (hsub _ h)), k4] at this
            cases this
      have hiG := hsub i hit
      have hnt : ∀ k, k ∈ needs md ops i → k ∉ todo := fun k hk hkt => by
        have hkN : k < N := by have := ((hG1 i hiG).2 k hk).1; omega
        have := hneed k hk hkN
        rw [hl k hkN, if_pos hkt] at this
        cases this
      refine wpOp_mono (fun a' w' h => ?_) (hrun i hiG vals lo hi w hb hS fun k hk hkG => hv k hkG (hnt k hk))
      obtain ⟨v, rfl, hRv, hbw, hS'⟩ := h
      refine ⟨hS', ih (todo.erase i) (by rw [List.length_erase_of_mem hit]; omega) (updV vals (d i) v) (fun j => if j = i then w.heap.size else lo j) (fun j => if j = i then w'.heap.size else hi j) _ w' (hnd.erase i) (fun j hj => hsub j (List.mem_of_mem_erase hj)) (by simpa using hls) (fun j hj => ?_) (fun j hj hjt k hk hkt => ?_) (fun j hj hjt => ?_) (fun j hj hjt k hk hkt hjk => ?_) (hb.trans (hbw.mono (by have := hb.size; omega))) hS'⟩
      · rw [set_at (by omega)]
        by_cases e : j = i
        · subst e
          rw [if_pos rfl, if_neg (fun h => by have := (List.Nodup.mem_erase_iff hnd).1 h; exact this.1 rfl)]
          by_cases e1 : l1.getD j true = true
          · exact e1.symm
          · have e2 : l1.getD j true = false := by simpa using e1
            rcases hG2 j hj e2 with h | ⟨k, k1, k2, k3, k4⟩
            · have := ((hG1 j hiG).2 j (h j hiG)).1
              omega
            · rcases ((hG1 j hiG).2 k k1).2 with h5 | h5
              · exact absurd h5 k3
              · rw [h5] at k4; cases k4
        · rw [if_neg e, hl j hj]
          by_cases e1 : j ∈ todo
          · rw [if_pos e1, if_pos ((List.Nodup.mem_erase_iff hnd).2 ⟨e, e1⟩)]
          · rw [if_neg e1, if_neg (fun h => e1 (List.mem_of_mem_erase h))]
      · have hkt2 := List.mem_of_mem_erase hkt
        by_cases e : j = i
        · subst e; exact hnt k hk hkt2
        · exact hsh j hj (fun h => hjt ((List.Nodup.mem_erase_iff hnd).2 ⟨e, h⟩)) k hk hkt2
      · have hsz := hbw.size
        by_cases e : j = i
        · subst e
          simp only [if_true]
          exact ⟨hRv, hb.size, hsz, Nat.le_refl _⟩
        · have hjn : j ∉ todo := fun h => hjt ((List.Nodup.mem_erase_iff hnd).2 ⟨e, h⟩)
          obtain ⟨r1, r2, r3, r4⟩ := hv j hj hjn
          simp only [if_neg e]
          refine ⟨hR j hj _ _ _ _ _ _ r1 r4 hbw fun k hkG hk => updV_other _ _ fun h => ?_, r2, r3, Nat.le_trans r4 hsz⟩
          have hki : k = i := hdn k hkG i hiG h
          rcases hk with hk | hk
          · exact e (hk.symm.trans hki)
          · exact hsh j hj hjn k hk (hki ▸ hit)
      · by_cases e : j = i
        · have ek : k ≠ i := fun h => hjk (e.trans h.symm)
          have hkn : k ∉ todo := fun h => hkt ((List.Nodup.mem_erase_iff hnd).2 ⟨ek, h⟩)
          rw [if_pos e, if_pos e, if_neg ek, if_neg ek]
          exact .inr (hv k hk hkn).2.2.2
        · have hjn : j ∉ todo := fun h => hjt ((List.Nodup.mem_erase_iff hnd).2 ⟨e, h⟩)
          by_cases ek : k = i
          · rw [if_neg e, if_neg e, if_pos ek, if_pos ek]
            exact .inl (hv j hj hjn).2.2.2
          · have hkn : k ∉ todo := fun h => hkt ((List.Nodup.mem_erase_iff hnd).2 ⟨ek, h⟩)
            rw [if_neg e, if_neg e, if_neg ek, if_neg ek]
            exact hd j hj hjn k hk hkn hjk
/-- .. from where none of them has come up; what is reckoned, as Bools -/
theorem makers0 {a : Act} {w : World} {listed : Array Bool} (N : Nat) (l1 : Array Bool) (G : List Nat) (d : Nat → Nat) (fr : (Nat → Value) → Act) (R : Nat → Nat → Nat → (Nat → Value) → World → Prop) (f0 : Nat) (vals : Nat → Value)
    (ha : a = fr vals) (hN : l1.size = N) (hops : ops.size = N) (hls : listed.size = N) (hGn : G.Nodup)
    (hB : (((List.range N).all fun j => listed.getD j true == (!(G.contains j) && l1.getD j true)) && (G.all fun i => G.all fun j => !(d i == d j) || i == j) && (G.all fun i => decide (i < N) && (needs md ops i).all fun k => decide (k < i) && (G.contains k || l1.getD k true)) &&
      ((List.range N).all fun i => l1.getD i true || G.all (fun k => (needs md ops i).contains k) || (needs md ops i).any fun k => decide (k < N) && !(G.contains k) && !(l1.getD k true)) && (G.all fun j => !(listed.getD j true))) = true)
    (hS : S w)
    (hrun : ∀ i, i ∈ G → ∀ (vals : Nat → Value) (lo hi : Nat → Nat) (w' : World), Below w.heap.size w w' → S w' → (∀ k, k ∈ needs md ops i → k ∈ G → R k (lo k) (hi k) vals w' ∧ w.heap.size ≤ lo k ∧ lo k ≤ hi k ∧ hi k ≤ w'.heap.size) → wpOp P ops Q i (fun a' w2 => ∃ v, a' = fr (updV vals (d i) v) ∧ R i w'.heap.size w2.heap.size (updV vals (d i) v) w2 ∧ Below w'.heap.size w' w2 ∧ S w2) (fr vals) w')
    (hR : ∀ i, i ∈ G → ∀ lo hi vals vals' w w', R i lo hi vals w → hi ≤ w.heap.size → Below w.heap.size w w' → (∀ k, k ∈ G → (k = i ∨ k ∈ needs md ops i) → vals' (d k) = vals (d k)) → R i lo hi vals' w')
    (hend : ∀ (vals : Nat → Value) (lo hi : Nat → Nat) (w' : World), (∀ i, i ∈ G → R i (lo i) (hi i) vals w' ∧ w.heap.size ≤ lo i ∧ lo i ≤ hi i ∧ hi i ≤ w'.heap.size) → (∀ i, i ∈ G → ∀ j, j ∈ G → i ≠ j → hi i ≤ lo j ∨ hi j ≤ lo i) → Below w.heap.size w w' → S w' → wpAnyH P md ops Q S f0 l1 (fr vals) w') :
    wpAnyH P md ops Q S (f0 + G.length) listed a w := by
  subst ha
  simp only [Bool.and_eq_true, List.all_eq_true, Bool.or_eq_true, List.any_eq_true, decide_eq_true_eq, List.mem_range, Bool.not_eq_true', beq_eq_false_iff_ne, beq_iff_eq, List.contains_iff_mem] at hB
  obtain ⟨⟨⟨⟨b1, b2⟩, b3⟩, b4⟩, _⟩ := hB
  refine makers (w0 := w) (R := R) (d := d) (f0 := f0) hN hops (fun i hi j hj e => ?_) (fun i hi => b3 i hi) (fun i hi e => ?_) hrun hR hend G.length G rfl vals (fun _ => 0) (fun _ => 0) listed w hGn (fun _ h => h) hls (fun j hj => ?_) (fun j h1 h2 => absurd h1 h2) (fun i h1 h2 => absurd h1 h2) (fun i h1 h2 => absurd h1 h2) (Below.refl _ _) hS
  · rcases b2 i hi j hj with h | h
    · exact absurd e h
    · exact h
  · rcases b4 i hi with (h | h) | ⟨k, hk, ⟨h1, h2⟩, h3⟩
    · rw [e] at h; cases h
    · exact .inl h
    · exact .inr ⟨k, hk, h1, by simpa using h2, h3⟩
  · rw [b1 j hj]
    by_cases e : j ∈ G
    · rw [if_pos e]
      have : G.contains j = true := by simpa using e
      rw [this]; rfl
    · rw [if_neg e]
      have : G.contains j = false := by simpa using e
      rw [this]; simp
/-- one is taken first, and its slot is named -/
theorem takeD {i d : Nat} {oi : Oper} {v : Value} {fuel : Nat} {listed : Array Bool} {a : Act} {w : World} (hi : ops[i]? = some oi) (hd : oi.dst = some d)
    (hs : Region.noSelect ops = true) (hf : Region.free md ops listed i = true) (hr : (Region.ready md ops listed).contains i = true)
    (hQ : ∀ c a w, Q (.panic c) (a.put oi.dst v) w → Q (.panic c) a w) (hw : Region.wanted oi (yielded ops a.tmps) = true) (hy : ∀ w, S w → (execOp a.eval oi).run P w = .ok (.value v) w) (hS : S w)
    (h : wpAnyH P md ops Q S fuel (listed.setIfInBounds i true) { tmps := a.tmps.setIfInBounds d v, defers := a.defers } w) : wpAnyH P md ops Q S (fuel + 1) listed a w :=
  wpAnyH_take hi hs hf hr hQ (.inl ⟨hw, hy⟩) hS (by rw [hd]; exact h)
/-- a slice is made -/
theorem op_make {w : World} {o : Oper} {a : Act} {K : Act → World → Prop} {j : Nat} (ho : ops[j]? = some o) (hgd : o.guard = none) (l c : Operand) (t : TypeId) (hop : o.op = Op.makeSlice t l c)
    (e : TypeId) (i : TypeInfo) (z : Value) (h1 : P.underlying t = some (.slice e)) (h2 : P.info? e = some i) (h3 : i.zero = some z) (hzc : z.cells = #[z]) (h4 : i.size = 1) (n : Nat) (hl : a.eval l = .int .i64 (n : Int)) (hc : a.eval c = .int .i64 (n : Int)) (b2 : i.bytes * n ≤ 281474976710656) (b3 : n ≤ maxLen)
    (h : ∀ w', w'.ownsRow w.heap.size e 1 (.slice (some ⟨w.heap.size, 0, none⟩) n n) n (List.replicate n z) → w.grownBy w' none → K (a.put o.dst (.slice (some ⟨w.heap.size, 0, none⟩) n n)) w') : wpOp P ops Q j K a w := by
  refine wpOp_step ho fun K' hK => ?_
  have hw : Region.wanted o (yielded ops a.tmps) = true := by simp [Region.wanted, hgd]
  rw [if_pos hw]
  obtain ⟨w', hrun, r1, r2⟩ := run_make_full (P := P) w w.heap.size t e i z 1 h1 h2 h3 h4 .i64 .i64 n b2 b3 (Nat.le_refl _)
  rw [Nat.mul_one, hzc, toList_madeCells_one] at r1
  unfold Oper.wp
  simp [execOp, hop, hl, hc, hrun, Result.andThen]
  exact hK _ _ (h w' r1 r2)
theorem grown_below0 {w w' : World} (h : w.grownBy w' none) : Below w.heap.size w w' := ⟨h.os, h.tape, h.output, h.size, fun k hk => h.block k hk (by simp)⟩
end
end Go.Proofs.YtojjjndhabjhdaaDoor.held3
