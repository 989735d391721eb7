/-
  Plain: the loop's invariant, behind beginning again, and behind a decision.
-/
import Derived.Test.YtojjjndhabjhdaaDoorFhM
namespace Go.Proofs.YtojjjndhabjhdaaDoor.satRk
set_option linter.unusedSimpArgs false
set_option linter.unusedVariables false
open proofP proofQ owns cls satP satQ satR satS satA satF satB satC satD satE satG satH satI satJ satK satM satN satU satV satO satW satX satZ satCa satCb satCc satSa satSb satSc satCd satCe satRi satRj

section
variable {cs : List (List Int)} {n0 : Nat} {cls : Nat → List Int} {h : Nat} {s : SS} {P P' : Nat → Prop} {t : Nat} {rsn : Nat → Option Nat} {hp : List Nat} {pl : Nat → Int}
/-- neither how long since, nor how long it is to be, is told -/
theorem RI.since (R : RI cs n0 cls h s) (a b : Int) : RI cs n0 cls h (s.sc a b) := by
  constructor <;> try dsimp only [SS.sc, SS.logs]
  case G => exact ⟨R.G.B, R.G.R, R.G.Y, R.G.wt, R.G.vt, R.G.ph, R.G.rb, R.G.hn, R.G.hV, R.G.hs⟩
  case pro => exact R.pro
  case hl => exact R.hl
  case top => exact R.top
  case cur => exact R.cur
  case wf => exact ⟨R.wf.len, R.wf.fp, R.wf.st⟩
  case q => exact R.q
  case sn => exact R.sn
  case lr => exact R.lr
  case ll => exact R.ll
  case ai => exact R.ai
  case di => exact R.di
  case sl => exact R.sl
  case wn => exact R.wn
  case st => exact R.st
  case ro => exact R.ro
  case lg => exact R.lg
  case og => exact R.og
  case nn => exact R.nn
/-- nor how many conflicts, nor the answer -/
theorem RI.conf (R : RI cs n0 cls h s) (z : Int) (r : List Value) (v : Value) : RI cs n0 cls h { s with conflict := z, res := r, resv := v } := by
  constructor <;> try dsimp only [SS.logs]
  case G => exact ⟨R.G.B, R.G.R, R.G.Y, R.G.wt, R.G.vt, R.G.ph, R.G.rb, R.G.hn, R.G.hV, R.G.hs⟩
  case pro => exact R.pro
  case hl => exact R.hl
  case top => exact R.top
  case cur => exact R.cur
  case wf => exact ⟨R.wf.len, R.wf.fp, R.wf.st⟩
  case q => exact R.q
  case sn => exact R.sn
  case lr => exact R.lr
  case ll => exact R.ll
  case ai => exact R.ai
  case di => exact R.di
  case sl => exact R.sl
  case wn => exact R.wn
  case st => exact R.st
  case ro => exact R.ro
  case lg => exact R.lg
  case og => exact R.og
  case nn => exact R.nn
theorem open_take (hP : ∀ u, 1 ≤ u → u ≤ s.V → 2 * u ∉ s.trail → 2 * u + 1 ∉ s.trail → P u) : ∀ u, 1 ≤ u → u ≤ s.V → 2 * u ∉ s.trail.take t → 2 * u + 1 ∉ s.trail.take t → P u ∨ ∃ p y, t ≤ p ∧ s.trail[p]? = some y ∧ y / 2 = u := by
  intro u h1 h2 h3 h4
  have key : ∀ y, y / 2 = u → y ∉ s.trail.take t → y ∈ s.trail → ∃ p y, t ≤ p ∧ s.trail[p]? = some y ∧ y / 2 = u := by
    intro y hy hn hm
    obtain ⟨p, hpy⟩ := mem_at.1 hm
    refine ⟨p, y, ?_, hpy, hy⟩
    by_cases e : t ≤ p
    · exact e
    · exact absurd (mem_take.2 ⟨p, by omega, hpy⟩) hn
  by_cases e1 : 2 * u ∈ s.trail
  · exact .inr (key _ (by omega) h3 e1)
  · by_cases e2 : 2 * u + 1 ∈ s.trail
    · exact .inr (key _ (by omega) h4 e2)
    · exact .inl (hP u h1 h2 e1 e2)
/-- all is begun again -/
theorem RI.restart (R : RI cs n0 cls h s) (ht : s.starts[0]? = some t) (hP : ∀ u, 1 ≤ u → u ≤ s.V → 2 * u ∉ s.trail → 2 * u + 1 ∉ s.trail → P u) (hQ : QI s.V (fun u => P u ∨ ∃ p x, t ≤ p ∧ s.trail[p]? = some x ∧ x / 2 = u) hp pl)
    (hr : ∀ p x, s.trail[p]? = some x → p < t → rsn (x / 2) = s.rsn (x / 2)) (hr2 : ∀ v i, rsn v = some i → s.rsn v = some i) : RI cs n0 cls t (s.bk t 0 rsn hp pl) ∧ (s.trail.take t).length = t := by
  have hth := R.top t (mem_at.2 ⟨0, ht⟩)
  have htl : (s.trail.take t).length = t := by rw [List.length_take]; have := R.hl; omega
  refine ⟨?_, htl⟩
  constructor <;> try dsimp only [SS.bk, SS.bl, SS.val, SS.lrp, SS.tr, SS.sts, SS.hd, SS.qu, SS.logs]
  case G => exact ⟨R.G.B.back ht, R.G.R, R.G.Y.back R.G.B ht hr, R.G.wt, rfl, R.G.ph, fun v i hv => R.G.rb v i (hr2 v i hv), R.G.hn, R.G.hV, by rw [List.take_zero]; exact Nat.zero_le _⟩
  case pro => exact R.pro.back R.G.B ht hth
  case hl => omega
  case top => intro t' ht'; simp at ht'
  case cur => intro t' ht'; simp at ht'
  case wf => exact ⟨R.wf.len, R.wf.fp, R.wf.st⟩
  case q => exact ⟨fun u => P u ∨ ∃ p x, t ≤ p ∧ s.trail[p]? = some x ∧ x / 2 = u, hQ, open_take (t := t) hP⟩
  case sn => exact R.sn
  case lr => exact R.lr
  case ll => exact R.ll
  case ai => intro j c a h1 h2; simp at h2
  case di => intro p x h1; simp at h1
  case sl => rw [List.take_zero]; exact SL.nil _
  case wn => exact R.wn
  case st => exact R.st
  case ro => exact R.ro
  case lg => exact R.lg
  case og =>
    intro c hc
    rcases R.og c hc with h1 | ⟨p, x, h1, h2, h3⟩ | h1
    · exact .inl h1
    · exact .inr (.inl ⟨p, x, h1, take_at.2 ⟨h3 t (mem_at.2 ⟨0, ht⟩), h2⟩, fun t' ht' => by simp at ht'⟩)
    · exact .inr (.inr h1)
  case nn => exact R.nn
/-- levels of assumptions that are true already -/
theorem base_nst (hB : Base s.V s.trail s.starts s.lvl) (m : Nat) : Base s.V s.trail (nst s m) s.lvl := by
  induction m with
  | zero => unfold nst; simpa using hB
  | succ m ih => rw [nst_succ]; exact ih.start
theorem why_nst {n : Nat} {row : Nat → List Nat} {cl : List (List Int)} {rsn : Nat → Option Nat} (hY : Why n row cl s.trail s.starts s.lvl rsn) (m : Nat) : Why n row cl s.trail (nst s m) s.lvl rsn := by
  induction m with
  | zero => unfold nst; simpa using hY
  | succ m ih => rw [nst_succ]; exact ih.start
theorem mem_nst {m x : Nat} (hx : x ∈ nst s m) : x ∈ s.starts ∨ x = s.trail.length := by
  unfold nst at hx
  rcases List.mem_append.1 hx with h | h
  · exact .inl h
  · exact .inr (List.eq_of_mem_replicate h)
theorem getD_some {l : List Nat} {j : Nat} (h : j < l.length) : l[j]? = some (l.getD j 0) := by rw [List.getD_eq_getElem?_getD, List.getElem?_eq_getElem h]; rfl
theorem ai_nst (h : AI s.wanted s.trail s.starts) : ∀ m, (∀ i, i < m → s.wanted.getD (s.starts.length + i) 0 ∈ s.trail) → AI s.wanted s.trail (nst s m) := by
  intro m
  induction m with
  | zero => intro _; unfold nst; simpa using h
  | succ m ih =>
    intro hm
    rw [nst_succ]
    refine (ih fun i hi => hm i (by omega)).snoc (List.prefix_refl _) fun c hc => ?_
    rw [nst_len] at hc
    have := hm m (by omega)
    rw [List.getD_eq_getElem?_getD, hc] at this
    obtain ⟨q, hq⟩ := mem_at.1 this
    exact ⟨q, hq, Nat.le_of_lt (at_lt hq)⟩
theorem di_nst (h : DI s.wanted s.trail s.starts) (m : Nat) : DI s.wanted s.trail (nst s m) := by
  induction m with
  | zero => unfold nst; simpa using h
  | succ m ih => rw [nst_succ]; exact ih.free
theorem sl_nst {wn : Nat} (h : SL wn s.starts) : ∀ m, s.starts.length + m ≤ wn → SL wn (nst s m) := by
  intro m
  induction m with
  | zero => intro _; unfold nst; simpa using h
  | succ m ih => intro hm; rw [nst_succ]; exact (ih (by omega)).free (by rw [nst_len]; omega) _
/-- a level more -/
theorem RI.dec (R : RI cs n0 cls s.trail.length s) (hVs : s.V ≤ 10000) (m : Nat) (hm : ∀ i, i < m → s.wanted.getD (s.starts.length + i) 0 ∈ s.trail) {c : Nat} (hc : 2 ≤ c ∧ c < 2 * s.V + 2) (h1 : c ∉ s.trail) (h2 : opp c ∉ s.trail) (hw : s.starts.length + m < s.wanted.length → c ∈ s.wanted ∧ s.wanted[s.starts.length + m]? = some c)
    (hQ : QI s.V P hp pl) (hP : ∀ u, 1 ≤ u → u ≤ s.V → 2 * u ∉ s.trail ++ [c] → 2 * u + 1 ∉ s.trail ++ [c] → P u) :
    RI cs n0 cls s.trail.length (((((s.sts (nst s m)).qu hp pl).sts (nst s m ++ [s.trail.length])).put c none)) ∧ (nst s m ++ [s.trail.length]).length = s.starts.length + m + 1 := by
  have hml : ∀ i, i < m → s.starts.length + i < s.wanted.length := fun i hi => by
    by_cases e : s.starts.length + i < s.wanted.length
    · exact e
    · have := hm i hi
      rw [List.getD_eq_getElem?_getD, List.getElem?_eq_none (by omega)] at this
      have := (R.G.B.rng _ this).1
      simp at this
  have hnl : (nst s m ++ [s.trail.length]).length = s.starts.length + m + 1 := by rw [List.length_append, nst_len]; rfl
  have hB := base_nst R.G.B m
  have hpre : s.trail <+: s.trail ++ [c] := List.prefix_append _ _
  have hle : ∀ x, x ∈ nst s m ++ [s.trail.length] → x ≤ s.trail.length := fun x hx => by
    rcases List.mem_append.1 hx with hx | hx
    · rcases mem_nst hx with hx | hx
      · exact Nat.le_of_lt (R.cur x hx)
      · omega
    · simp at hx; omega
  refine ⟨?_, hnl⟩
  constructor <;> try dsimp only [SS.put, SS.val, SS.lrp, SS.tr, SS.sts, SS.hd, SS.qu, SS.logs]
  case G =>
    refine ⟨hB.start.set hc h1 h2, R.G.R, (why_nst R.G.Y m).start.set hB.start h1 h2 (.inr ⟨rfl, .inr (by simp)⟩), R.G.wt, by show s.vt ++ [c] = s.trail ++ [c]; rw [R.G.vt], fun v => ?_, fun v i hv => ?_, R.G.hn, R.G.hV, ?_⟩
    · show updN s.phase (c / 2) (c % 2) v ≤ 1
      unfold updN
      split
      · omega
      · exact R.G.ph v
    · change updN s.rsn (c / 2) none v = some i at hv
      unfold updN at hv
      split at hv
      · cases hv
      · exact R.G.rb v i hv
    · show (nst s m ++ [s.trail.length]).length ≤ 50000
      rw [hnl]
      have h3 := R.slen
      have h4 := R.wlen2
      have h5 := R.G.hV
      by_cases e : m = 0
      · omega
      · have := hml (m - 1) (by omega)
        omega
  case pro => exact R.pro.set (Nat.le_refl _) h1 h2
  case hl => rw [List.length_append]; omega
  case top => exact hle
  case cur => intro t' ht'; have := hle t' ht'; rw [List.length_append, List.length_singleton]; omega
  case wf => exact ⟨R.wf.len, R.wf.fp, R.wf.st⟩
  case q => exact ⟨P, hQ, hP⟩
  case sn => exact R.sn
  case lr => exact R.lr
  case ll => exact R.ll
  case ai =>
    refine (ai_nst R.ai m hm).snoc hpre fun c' hc' => ?_
    rw [nst_len] at hc'
    have := (hw (at_lt hc')).2
    rw [this] at hc'
    cases hc'
    exact ⟨s.trail.length, by simp, Nat.le_refl _⟩
  case di =>
    refine (di_nst R.di m).dec (fun x hx => hle x (List.mem_append_left _ hx)) fun hlt => ?_
    rw [nst_len] at hlt
    exact (hw hlt).1
  case sl =>
    by_cases e : s.starts.length + m < s.wanted.length
    · exact (sl_nst R.sl m (by omega)).free (by rw [nst_len]; exact e) _
    · by_cases e0 : m = 0
      · subst e0
        have : nst s 0 = s.starts := by unfold nst; simp
        rw [this]
        exact R.sl.dec R.cur
      · have h3 := hml (m - 1) (by omega)
        intro j a hj
        rcases snoc_at.1 hj with hj | ⟨rfl, rfl⟩
        · exact sl_nst R.sl m (by omega) j a hj
        · rw [nst_len]; omega
  case wn => exact R.wn
  case st => exact R.st
  case ro => exact R.ro
  case lg => exact R.lg
  case og =>
    intro c' hc'
    rcases R.og c' hc' with h3 | ⟨p, x, h3, h4, h5⟩ | h3
    · exact .inl h3
    · refine .inr (.inl ⟨p, x, h3, pre_at hpre h4, fun t' ht' => ?_⟩)
      have hpl := at_lt h4
      rcases List.mem_append.1 ht' with ht' | ht'
      · rcases mem_nst ht' with h6 | h6
        · exact h5 t' h6
        · omega
      · simp at ht'; omega
    · exact .inr (.inr h3)
  case nn => exact R.nn
theorem msr_dec (R : RI cs n0 cls s.trail.length s) (m : Nat) (c : Nat) : msr s.V s.starts s.trail.length ≤ msr s.V (nst s m ++ [s.trail.length]) (s.trail ++ [c]).length := by
  rw [List.length_append, List.length_singleton]
  show _ ≤ msr s.V (nst s m ++ [s.trail.length]) s.trail.length + _
  rw [msr_congr (s := s.starts) (s' := nst s m ++ [s.trail.length]) s.trail.length fun p hp => ?_]
  · exact Nat.le_add_right _ _
  · constructor
    · intro h; exact List.mem_append_left _ (List.mem_append_left _ h)
    · intro h
      rcases List.mem_append.1 h with h | h
      · rcases mem_nst h with h | h
        · exact h
        · omega
      · simp at h; omega
theorem CN.dec {m0 : Nat} (C : CN m0 s) (R : RI cs n0 cls s.trail.length s) (m : Nat) (c : Nat) (hp : List Nat) (pl : Nat → Int) : CN m0 (((((s.sts (nst s m)).qu hp pl).sts (nst s m ++ [s.trail.length])).put c none)) := by
  have h := msr_dec R m c
  constructor <;> try dsimp only [SS.put, SS.val, SS.lrp, SS.tr, SS.sts, SS.hd, SS.qu]
  case c0 => exact C.c0
  case cm => exact C.cm
  case sc => exact ⟨C.sc.1, Int.le_trans C.sc.2 (Int.ofNat_le.2 h)⟩
  case pz => exact C.pz
  case rs => exact C.rs
  case m35 => exact C.m35
/-- without beginning again there are few conflicts -/
theorem CN.lim {m : Nat} (C : CN m s) (B : Base s.V s.trail s.starts s.lvl) (hr : s.restart = 0) : s.conflict + 1 ≤ 2 ^ s.V := by
  have h1 := C.sc.2
  have h2 := msr_lt s.V s.starts s.trail.length B.len
  have h3 := C.cm
  have hm : m = 0 := by
    rcases C.rs with h | h
    · exact h.2
    · exact absurd hr h.1
  subst hm
  have h4 : s.since < (2 ^ s.V : Nat) := by
    have : ((msr s.V s.starts s.trail.length : Nat) : Int) < ((2 ^ s.V : Nat) : Int) := Int.ofNat_lt.2 h2
    omega
  have e : ((2 ^ s.V : Nat) : Int) = (2 : Int) ^ s.V := by simp
  rw [← e]
  simp only [Int.natCast_zero, Int.zero_mul, Int.zero_add] at h3
  omega
theorem pow35 : ∀ m : Nat, m ≤ 35 → m ≠ 35 → m + 1 ≤ 35 := fun m h1 h2 => by omega
/-- how many times all may be begun again -/
theorem CN.more {m : Nat} (C : CN m s) (hV : s.V ≤ 20) (B : Base s.V s.trail s.starts s.lvl) (hr : s.restart ≠ 0) (hp : s.pause ≤ s.since) : m + 1 ≤ 35 ∧ s.pause < 2097152 ∧ (3 : Int) ^ (m + 1) ≤ (s.pause + (s.pause / 2 + 1)) * 2 ^ (m + 1) ∧ s.conflict ≤ ((m + 1 : Nat) : Int) * 2 ^ s.V := by
  have h1 := C.sc.2
  have h2 := msr_lt s.V s.starts s.trail.length B.len
  have h3 : 2 ^ s.V ≤ 2 ^ 20 := Nat.pow_le_pow_right (by omega) hV
  have h4 : s.since < (2 ^ s.V : Nat) := by
    have : ((msr s.V s.starts s.trail.length : Nat) : Int) < ((2 ^ s.V : Nat) : Int) := Int.ofNat_lt.2 h2
    omega
  have h5 : s.since < 1048576 := by
    have : ((2 ^ s.V : Nat) : Int) ≤ ((2 ^ 20 : Nat) : Int) := Int.ofNat_le.2 h3
    have e : ((2 ^ 20 : Nat) : Int) = 1048576 := by decide
    omega
  have h6 : (3 : Int) ^ m ≤ s.pause * 2 ^ m := by
    rcases C.rs with h | h
    · exact absurd h.1 hr
    · exact h.2
  have hpos : (0 : Int) < 2 ^ m := Int.pow_pos (by decide)
  have hm : m ≠ 35 := by
    intro e
    subst e
    have : s.pause * 2 ^ 35 ≤ 1048576 * 2 ^ 35 := Int.mul_le_mul_of_nonneg_right (by omega) (by decide)
    have : (3 : Int) ^ 35 ≤ 1048576 * 2 ^ 35 := Int.le_trans h6 this
    exact absurd this (by decide)
  refine ⟨pow35 m C.m35 hm, by omega, ?_, ?_⟩
  · have e3 : (3 : Int) ^ (m + 1) = 3 ^ m * 3 := Int.pow_succ 3 m
    have e2 : (2 : Int) ^ (m + 1) = 2 ^ m * 2 := Int.pow_succ 2 m
    rw [e3, e2]
    have h7 : 3 * s.pause ≤ 2 * (s.pause + (s.pause / 2 + 1)) := by omega
    have h8 : (3 : Int) ^ m * 3 ≤ (s.pause * 2 ^ m) * 3 := Int.mul_le_mul_of_nonneg_right h6 (by decide)
    have h9 : (3 * s.pause) * 2 ^ m ≤ (2 * (s.pause + (s.pause / 2 + 1))) * 2 ^ m := Int.mul_le_mul_of_nonneg_right h7 (Int.le_of_lt hpos)
    have e4 : (s.pause * 2 ^ m) * 3 = (3 * s.pause) * 2 ^ m := by rw [Int.mul_comm, ← Int.mul_assoc]
    have e5 : (s.pause + (s.pause / 2 + 1)) * (2 ^ m * 2) = (2 * (s.pause + (s.pause / 2 + 1))) * 2 ^ m := by
      rw [Int.mul_comm 2 (s.pause + (s.pause / 2 + 1)), Int.mul_assoc, Int.mul_comm 2 (2 ^ m)]
    omega
  · have h7 := C.cm
    have e : ((m + 1 : Nat) : Int) * 2 ^ s.V = (m : Int) * 2 ^ s.V + 2 ^ s.V := by
      rw [Int.natCast_add, Int.add_mul]; simp
    have e2 : ((2 ^ s.V : Nat) : Int) = (2 : Int) ^ s.V := by simp
    omega
end
end Go.Proofs.YtojjjndhabjhdaaDoor.satRk
