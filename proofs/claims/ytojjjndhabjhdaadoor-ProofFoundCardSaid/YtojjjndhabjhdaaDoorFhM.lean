/-
  Plain: what holds at the head of a search's loop.
  Plain: the loop's invariant, behind learning.
-/
import Derived.Test.YtojjjndhabjhdaaDoorFfM
import Derived.Test.YtojjjndhabjhdaaDoorSatSc
namespace Go.Proofs.YtojjjndhabjhdaaDoor.satRi
set_option linter.unusedSimpArgs false
set_option linter.unusedVariables false
open proofP proofQ owns cls satP satQ satR satS satA satF satB satC satD satE satG satH satI satJ satK satM satN satU satV satO satW satX satCa satCb satCc

def _root_.Go.Proofs.YtojjjndhabjhdaaDoor.satA.SS.logs (s : SS) : List (List Int) := (List.range s.logn).map s.lg
/-- an assumption stands at the beginning of its level, or ahead -/
def AI (wanted trail starts : List Nat) : Prop := ∀ (j c a : Nat), wanted[j]? = some c → starts[j]? = some a → ∃ q : Nat, trail[q]? = some c ∧ q ≤ a ∧ ∀ (k b : Nat), j < k → starts[k]? = some b → q < b
/-- the first levels begin with assumptions -/
def DI (wanted trail starts : List Nat) : Prop := ∀ (p x : Nat), p ∈ starts → trail[p]? = some x → (∀ (j a : Nat), starts[j]? = some a → a ≤ p → j < wanted.length) → x ∈ wanted
section
variable {wanted trail trail' starts : List Nat}
theorem pre_at {l l' : List Nat} (h : l <+: l') {p x : Nat} (hp : l[p]? = some x) : l'[p]? = some x := by
  obtain ⟨r, rfl⟩ := h
  rw [List.getElem?_append_left (at_lt hp)]; exact hp
theorem pre_at' {l l' : List Nat} (h : l <+: l') {p x : Nat} (hl : p < l.length) (hp : l'[p]? = some x) : l[p]? = some x := by
  obtain ⟨r, rfl⟩ := h
  rwa [List.getElem?_append_left hl] at hp
theorem AI.grow (h : AI wanted trail starts) (hp : trail <+: trail') : AI wanted trail' starts := by
  intro j c a h1 h2
  obtain ⟨q, h3, h4⟩ := h j c a h1 h2
  exact ⟨q, pre_at hp h3, h4⟩
theorem AI.back (h : AI wanted trail starts) {b t : Nat} (hb : starts[b]? = some t) : AI wanted (trail.take t) (starts.take b) := by
  intro j c a h1 h2
  obtain ⟨hj, h2⟩ := take_at.1 h2
  obtain ⟨q, h3, h4, h5⟩ := h j c a h1 h2
  exact ⟨q, take_at.2 ⟨h5 b t hj hb, h3⟩, h4, fun k b' hk hb' => h5 k b' hk (take_at.1 hb').2⟩
/-- a level more, whose assumption is true at once, or already -/
theorem AI.snoc (h : AI wanted trail starts) (hp : trail <+: trail') (hc : ∀ c, wanted[starts.length]? = some c → ∃ q : Nat, trail'[q]? = some c ∧ q ≤ trail.length) : AI wanted trail' (starts ++ [trail.length]) := by
  intro j c a h1 h2
  rcases snoc_at.1 h2 with h2 | ⟨rfl, rfl⟩
  · obtain ⟨q, h3, h4, h5⟩ := h j c a h1 h2
    refine ⟨q, pre_at hp h3, h4, fun k b hk hb => ?_⟩
    rcases snoc_at.1 hb with hb | ⟨rfl, rfl⟩
    · exact h5 k b hk hb
    · exact at_lt h3
  · obtain ⟨q, h3, h4⟩ := hc c h1
    refine ⟨q, h3, h4, fun k b hk hb => ?_⟩
    have := at_lt hb
    simp at this; omega
theorem DI.grow (h : DI wanted trail starts) (hp : trail <+: trail') (hs : ∀ s, s ∈ starts → s < trail.length) : DI wanted trail' starts := by
  intro p x h1 h2 h3
  exact h p x h1 (pre_at' hp (hs p h1) h2) h3
theorem DI.back (h : DI wanted trail starts) {b t : Nat} (hb : starts[b]? = some t) (hm : ∀ (j k a c : Nat), starts[j]? = some a → starts[k]? = some c → j ≤ k → a ≤ c) : DI wanted (trail.take t) (starts.take b) := by
  intro p x h1 h2 h3
  obtain ⟨hpt, h2⟩ := take_at.1 h2
  refine h p x (List.mem_of_mem_take h1) h2 fun j a hj ha => ?_
  by_cases e : j < b
  · exact h3 j a (take_at.2 ⟨e, hj⟩) ha
  · have := hm b j t a hb hj (by omega); omega
theorem DI.free (h : DI wanted trail starts) : DI wanted trail (starts ++ [trail.length]) := by
  intro p x h1 h2 h3
  rcases List.mem_append.1 h1 with h1 | h1
  · exact h p x h1 h2 fun j a hj ha => h3 j a (snoc_at.2 (.inl hj)) ha
  · simp at h1
    subst h1
    have := at_lt h2; omega
theorem DI.dec (h : DI wanted trail starts) (hs : ∀ s, s ∈ starts → s ≤ trail.length) {c : Nat} (hc : starts.length < wanted.length → c ∈ wanted) : DI wanted (trail ++ [c]) (starts ++ [trail.length]) := by
  intro p x h1 h2 h3
  have hpl : p ≤ trail.length := by
    rcases List.mem_append.1 h1 with h1 | h1
    · exact hs p h1
    · simp at h1; omega
  by_cases e : p = trail.length
  · subst e
    simp at h2
    subst h2
    exact hc (h3 starts.length trail.length (snoc_at.2 (.inr ⟨rfl, rfl⟩)) (Nat.le_refl _))
  · rcases snoc_at.1 h2 with h2 | ⟨h2, _⟩
    · rcases List.mem_append.1 h1 with h1 | h1
      · exact h p x h1 h2 fun j a hj ha => h3 j a (snoc_at.2 (.inl hj)) ha
      · simp at h1; exact absurd h1 e
    · exact absurd h2 e
end

/-- what stands at the loop's head; h: up to where the trail was propagated -/
structure RI (cs : List (List Int)) (n0 : Nat) (cls : Nat → List Int) (h : Nat) (s : SS) : Prop where
  G : PGd cls (cs ++ s.logs) s
  pro : Pro s.n s.row s.gone s.trail h s.lvl
  hl : h ≤ s.trail.length
  top : ∀ t, t ∈ s.starts → t ≤ h
  cur : ∀ t, t ∈ s.starts → t < s.trail.length
  wf : WF s
  q : ∃ P, QI s.V P s.heap s.place ∧ ∀ u, 1 ≤ u → u ≤ s.V → 2 * u ∉ s.trail → 2 * u + 1 ∉ s.trail → P u
  sn : ∀ v, v ≤ s.V → s.seen v = false
  lr : ∀ i, i ∈ s.learned → n0 ≤ i ∧ i < s.n
  ll : s.learned.length ≤ s.logn
  ai : AI s.wanted s.trail s.starts
  di : DI s.wanted s.trail s.starts
  sl : SL s.wanted.length s.starts
  wn : s.wanted.Nodup ∧ ∀ c, c ∈ s.wanted → 2 ≤ c ∧ c < 2 * s.V + 2
  st : s.stamps.length = 3 * s.V + 2 ∧ 0 ≤ s.stamp ∧ s.stamp ≤ s.logn
  ro : 0 ≤ s.room ∧ s.room ≤ 9223372036854775807
  lg : ∀ i, i < s.logn → pl (cs ++ (List.range i).map s.lg) (s.lg i) = true ∧ ∃ K, s.lg i = clz K ∧ K.Nodup ∧ ∀ x, x ∈ K → 2 ≤ x ∧ x < 2 * s.V + 2
  og : ∀ c, c ∈ cs → taut (rowOf c) ∨ (∃ p x : Nat, x ∈ rowOf c ∧ s.trail[p]? = some x ∧ ∀ t, t ∈ s.starts → p < t) ∨ ∃ i, i < n0 ∧ cls i = c ∧ s.gone i = false
  nn : n0 ≤ s.n ∧ s.n ≤ n0 + s.logn

/-- how many conflicts there may be; m: so many times all was begun again -/
structure CN (m : Nat) (s : SS) : Prop where
  c0 : (s.logn : Int) ≤ s.conflict
  cm : s.conflict ≤ m * 2 ^ s.V + s.since
  sc : 0 ≤ s.since ∧ s.since ≤ msr s.V s.starts s.trail.length
  pz : 0 ≤ s.pause
  rs : (s.restart = 0 ∧ m = 0) ∨ (s.restart ≠ 0 ∧ (3 : Int) ^ m ≤ s.pause * 2 ^ m)
  m35 : m ≤ 35
section
variable {cs : List (List Int)} {n0 : Nat} {cls : Nat → List Int} {h : Nat} {s st : SS}
theorem RI.wk (R : RI cs n0 cls h s) : s.W (2 * s.V + 2) = [] := by
  cases hw : s.W (2 * s.V + 2) with
  | nil => rfl
  | cons i l =>
    obtain ⟨hi, hc⟩ := R.G.wt.wat (2 * s.V + 2) i (by rw [hw]; simp)
    have h2 := R.G.R.two i hi
    rcases hc with hc | hc
    · have := R.G.R.rng i hi _ (get_mem (i := 0) (by omega)); omega
    · have := R.G.R.rng i hi _ (get_mem (i := 1) (by omega)); omega
theorem RI.wlen2 (R : RI cs n0 cls h s) : s.wanted.length ≤ 2 * s.V := by
  have hnd : (s.wanted.map fun x => x - 2).Nodup := by
    have h := R.wn.1
    rw [List.Nodup, List.pairwise_iff_getElem] at h ⊢
    intro i j hi hj hij e
    simp only [List.length_map] at hi hj
    simp only [List.getElem_map] at e
    have a := (R.wn.2 _ (List.getElem_mem hi)).1
    have b := (R.wn.2 _ (List.getElem_mem hj)).1
    exact h i j hi hj hij (by omega)
  have := nodup_bound hnd (m := 2 * s.V) (fun x hx => by
    obtain ⟨y, hy, rfl⟩ := List.mem_map.1 hx
    have := R.wn.2 y hy; omega)
  simpa using this
theorem RI.slen (R : RI cs n0 cls h s) : s.starts.length ≤ 3 * s.V := by
  have h1 := R.sl.bound R.cur
  have h2 := R.G.B.len
  have h3 := R.wlen2
  omega
theorem RI.core (R : RI cs n0 cls h s) (hs : s.starts.length ≤ s.wanted.length) : ∀ p x, p ∈ s.starts → s.trail[p]? = some x → x ∈ s.wanted :=
  fun p x h1 h2 => R.di p x h1 h2 fun j a hj _ => by have := at_lt hj; omega
/-- what propagate leaves -/
theorem RI.prop (R : RI cs n0 cls h s) (hK : Kp s st) (G : PGd cls (cs ++ s.logs) st) {h' : Nat} (pro : Pro st.n st.row st.gone st.trail h' st.lvl) (hl : h' ≤ st.trail.length) (top : ∀ t, t ∈ st.starts → t ≤ h') : RI cs n0 cls h' st := by
  obtain ⟨⟨row, W, vt, trail, lvl, rsn, phase, head, rfl⟩, hp⟩ := hK
  refine ⟨G, pro, hl, top, fun t ht => ?_, ⟨R.wf.len, R.wf.fp, R.wf.st⟩, ?_, R.sn, R.lr, R.ll, R.ai.grow hp, R.di.grow hp R.cur, R.sl, R.wn, R.st, R.ro, R.lg, fun c hc => ?_, R.nn⟩
  · have := R.cur t ht
    have := hp.length_le
    show t < trail.length
    change s.trail.length ≤ trail.length at this
    omega
  · obtain ⟨P, h1, h2⟩ := R.q
    exact ⟨P, h1, fun u k1 k2 k3 k4 => h2 u k1 k2 (fun e => k3 (hp.subset e)) (fun e => k4 (hp.subset e))⟩
  · rcases R.og c hc with h1 | ⟨p, x, h1, h2, h3⟩ | h1
    · exact .inl h1
    · exact .inr (.inl ⟨p, x, h1, pre_at hp h2, h3⟩)
    · exact .inr (.inr h1)
theorem CN.prop {m : Nat} (C : CN m s) (hK : Kp s st) : CN m st := by
  obtain ⟨⟨row, W, vt, trail, lvl, rsn, phase, head, rfl⟩, hp⟩ := hK
  refine ⟨C.c0, C.cm, ⟨C.sc.1, Int.le_trans C.sc.2 ?_⟩, C.pz, C.rs, C.m35⟩
  have hl := hp.length_le
  change s.trail.length ≤ trail.length at hl
  have := msr_mono s.V s.starts s.trail.length (trail.length - s.trail.length)
  rw [show s.trail.length + (trail.length - s.trail.length) = trail.length from by omega] at this
  exact Int.ofNat_le.2 this
end
end Go.Proofs.YtojjjndhabjhdaaDoor.satRi
namespace Go.Proofs.YtojjjndhabjhdaaDoor.satRj
set_option linter.unusedSimpArgs false
set_option linter.unusedVariables false
open proofP proofQ owns cls satP satQ satR satS satA satF satB satC satD satE satG satH satI satJ satK satM satN satU satV satO satW satX satZ satCa satCb satCc satSa satSb satSc satCd satCe satRi

/-- what analyze, the log, fade leave -/
def _root_.Go.Proofs.YtojjjndhabjhdaaDoor.satA.SS.ld (s : SS) (seen : Nat → Bool) (hp : List Nat) (pl : Nat → Int) (wt : List Value) (st : Value) (tmp : Nat → List Nat) (c : List Int) (since : Int) : SS :=
  { s with seen := seen, heap := hp, place := pl, weight := wt, step := st, tmp := tmp, logn := s.logn + 1, lg := updN s.lg s.logn c, since := since }
/-- the codes of the call's own become a row -/
def _root_.Go.Proofs.YtojjjndhabjhdaaDoor.satA.SS.nr (s : SS) (K : List Nat) (ri : Nat) (sp : Int) : SS := { s with n := s.n + 1, row := updN s.row s.n K, rp := updN s.rp s.n ri, spread := updN s.spread s.n sp, gone := updN s.gone s.n false, tmp := updN s.tmp 1 [] }
theorem range_upd_lt {α β : Type} (f : Nat → α) (n : Nat) (c : α) (g : α → β) : ∀ i, i ≤ n → (List.range i).map (updN f n c) = (List.range i).map f := fun i hi => List.map_congr_left fun j hj => updN_other _ _ (by have := List.mem_range.1 hj; omega)
theorem logs_snoc (lg : Nat → List Int) (n : Nat) (c : List Int) : (List.range (n + 1)).map (updN lg n c) = (List.range n).map lg ++ [c] := by
  rw [List.range_succ, List.map_append, range_upd_lt lg n c (fun x => x) n (Nat.le_refl _)]
  simp [updN_same]
theorem rowof_clz {K : List Nat} (h : ∀ x, x ∈ K → 2 ≤ x ∧ x < 40002) : RowOf K (clz K) := by
  intro x
  constructor
  · intro hx
    exact ⟨litOf x, clz_mem.2 ⟨x, hx, rfl⟩, litOf_lit x (h x hx).1 (h x hx).2, code_litOf x (h x hx).1⟩
  · rintro ⟨l, hl, _, rfl⟩
    obtain ⟨y, hy, rfl⟩ := clz_mem.1 hl
    rw [code_litOf y (h y hy).1]; exact hy
theorem clz_perm {K K' : List Nat} (h : ∀ x, x ∈ K' ↔ x ∈ K) {c : List Int} (hc : RowOf K c) : RowOf K' c := fun x => (h x).trans (hc x)
theorem lrn_new {trail starts : List Nat} {lvl : Nat → Nat} {cl cl' : List (List Int)} {code : Nat} {ks : List Nat} {c : List Int} {V : Nat} (h : Lrn trail starts lvl cl code ks) (hB : Base V trail starts lvl) (hc : RowOf (opp code :: ks) c) (hm : c ∈ cl') : Lrn trail starts lvl cl' code ks := by
  refine ⟨h.pc, h.nd, h.pk, fun fr h1 h2 => ?_⟩
  have hr := (h.rng hB (opp code) (by simp)).1
  refine clashD hr (unitD hc hm (by simp) fun y hy hne => ?_) (by rw [opp_opp]; exact h2)
  rcases List.mem_cons.1 hy with rfl | hy
  · exact absurd rfl hne
  · exact h1 y hy
section
variable {cs : List (List Int)} {n0 : Nat} {cls : Nat → List Int} {h : Nat} {s : SS} {code : Nat} {ks : List Nat} {seen : Nat → Bool} {hp hp2 : List Nat} {pl pl2 : Nat → Int} {wt : List Value} {st : Value} {tmp : Nat → List Nat} {rsn : Nat → Option Nat} {P : Nat → Prop} {t b : Nat}
theorem open_back (hP : ∀ u, 1 ≤ u → u ≤ s.V → 2 * u ∉ s.trail → 2 * u + 1 ∉ s.trail → P u) {x : Nat} : ∀ u, 1 ≤ u → u ≤ s.V → 2 * u ∉ s.trail.take t ++ [x] → 2 * u + 1 ∉ s.trail.take t ++ [x] → P u ∨ ∃ p y, t ≤ p ∧ s.trail[p]? = some y ∧ y / 2 = u := by
  intro u h1 h2 h3 h4
  have key : ∀ y, y / 2 = u → y ∉ s.trail.take t ++ [x] → y ∈ s.trail → ∃ p y, t ≤ p ∧ s.trail[p]? = some y ∧ y / 2 = u := by
    intro y hy hn hm
    obtain ⟨p, hpy⟩ := mem_at.1 hm
    refine ⟨p, y, ?_, hpy, hy⟩
    by_cases e : t ≤ p
    · exact e
    · exact absurd (List.mem_append_left _ (mem_take.2 ⟨p, by omega, hpy⟩)) hn
  by_cases e1 : 2 * u ∈ s.trail
  · exact .inr (key _ (by omega) h3 e1)
  · by_cases e2 : 2 * u + 1 ∈ s.trail
    · exact .inr (key _ (by omega) h4 e2)
    · exact .inl (hP u h1 h2 e1 e2)
theorem lg_learn (R : RI cs n0 cls h s) (hLn : Lrn s.trail s.starts s.lvl (cs ++ s.logs) code ks) : ∀ i, i < s.logn + 1 → proofP.pl (cs ++ (List.range i).map (updN s.lg s.logn (clz (opp code :: ks)))) (updN s.lg s.logn (clz (opp code :: ks)) i) = true ∧ ∃ K, updN s.lg s.logn (clz (opp code :: ks)) i = clz K ∧ K.Nodup ∧ ∀ x, x ∈ K → 2 ≤ x ∧ x < 2 * s.V + 2 := by
  intro i hi
  rw [range_upd_lt s.lg s.logn _ (fun x => x) i (by omega)]
  by_cases e : i = s.logn
  · subst e
    rw [updN_same]
    exact ⟨hLn.plain R.G.B R.G.hV (fun x hx => clz_mem.2 ⟨x, hx, rfl⟩), _, rfl, hLn.nodup, hLn.rng R.G.B⟩
  · rw [updN_other _ _ e]
    exact R.lg i (by omega)
theorem og_learn (R : RI cs n0 cls h s) (ht : s.starts[b]? = some t) {x : Nat} {cls' : Nat → List Int} {gone' : Nat → Bool} (hc : ∀ i, i < n0 → cls' i = cls i) (hg : ∀ i, i < n0 → gone' i = s.gone i) :
    ∀ c, c ∈ cs → taut (rowOf c) ∨ (∃ p y : Nat, y ∈ rowOf c ∧ (s.trail.take t ++ [x])[p]? = some y ∧ ∀ t', t' ∈ s.starts.take b → p < t') ∨ ∃ i, i < n0 ∧ cls' i = c ∧ gone' i = false := by
  intro c hcm
  rcases R.og c hcm with h1 | ⟨p, y, h1, h2, h3⟩ | ⟨i, h1, h2, h3⟩
  · exact .inl h1
  · exact .inr (.inl ⟨p, y, h1, snoc_at.2 (.inl (take_at.2 ⟨h3 t (mem_at.2 ⟨b, ht⟩), h2⟩)), fun t' ht' => h3 t' (List.mem_of_mem_take ht')⟩)
  · exact .inr (.inr ⟨i, h1, by rw [hc i h1]; exact h2, by rw [hg i h1]; exact h3⟩)
/-- a clause of one code was learned -/
theorem RI.learnOne (R : RI cs n0 cls h s) (hLn : Lrn s.trail s.starts s.lvl (cs ++ s.logs) code []) (ht : s.starts[0]? = some t) (hP : ∀ u, 1 ≤ u → u ≤ s.V → 2 * u ∉ s.trail → 2 * u + 1 ∉ s.trail → P u) (hQ : QI s.V (fun u => P u ∨ ∃ p x, t ≤ p ∧ s.trail[p]? = some x ∧ x / 2 = u) hp2 pl2)
    (hW : WF (s.an seen hp pl wt st tmp)) (hsn : ∀ v, v ≤ s.V → seen v = false) (hr : ∀ p x, s.trail[p]? = some x → p < t → rsn (x / 2) = s.rsn (x / 2)) (hr2 : ∀ v i, rsn v = some i → s.rsn v = some i) (since : Int) (hn : n0 + s.logn + 1 ≤ 1000000000) :
    RI cs n0 cls t (((s.ld seen hp pl wt st tmp (clz [opp code]) since).bk t 0 rsn hp2 pl2).put (opp code) none) ∧ msr s.V s.starts s.trail.length < msr s.V [] (s.trail.take t ++ [opp code]).length ∧ opp code ∉ s.trail.take t ∧ opp (opp code) ∉ s.trail.take t := by
  have hcl : ∀ x, x ∈ cs ++ s.logs → x ∈ cs ++ (s.logs ++ [clz [opp code]]) := fun x hx => by
    rcases List.mem_append.1 hx with hx | hx <;> simp [hx]
  have hrg := hLn.rng R.G.B
  have hV := R.G.hV
  have hRO : RowOf [opp code] (clz [opp code]) := rowof_clz fun x hx => by have := hrg x hx; omega
  have hD : D (cs ++ (s.logs ++ [clz [opp code]])) [] (opp code) := unitD hRO (by simp) (by simp) fun y hy hne => by simp at hy; exact absurd hy hne
  have hth := R.top t (mem_at.2 ⟨0, ht⟩)
  obtain ⟨b1, b2, b3, ⟨b4, b5⟩, b6, b7⟩ := learnedOne R.G.B (R.G.Y.mono hcl (Nat.le_refl _)) R.pro (lrn_new hLn R.G.B hRO (by simp)) ht hth hD hr
  have htl : (s.trail.take t).length = t := by simp; omega
  have htl1 : (s.trail.take t ++ [opp code]).length = t + 1 := by simp [htl]
  have hlogs : SS.logs (((s.ld seen hp pl wt st tmp (clz [opp code]) since).bk t 0 rsn hp2 pl2).put (opp code) none) = s.logs ++ [clz [opp code]] := logs_snoc s.lg s.logn _
  have hms : msr s.V s.starts s.trail.length < msr s.V [] (s.trail.take t ++ [opp code]).length := by rw [htl1]; exact b6
  have e0 : (s.starts.take 0).length = 0 := by simp
  refine ⟨?_, hms, b4, b5⟩
  constructor <;> dsimp only [SS.put, SS.bk, SS.bl, SS.ld, SS.val, SS.lrp, SS.tr, SS.sts, SS.hd, SS.qu, SS.logs]
  case pro =>
    show Pro s.n s.row s.gone (s.trail.take t ++ [opp code]) t (updN s.lvl (opp code / 2) (s.starts.take 0).length)
    rw [e0]; exact b3
  case hl => show t ≤ (s.trail.take t ++ [opp code]).length; omega
  case wf => exact ⟨hW.len, hW.fp, hW.st⟩
  case q => exact ⟨fun u => P u ∨ ∃ p x, t ≤ p ∧ s.trail[p]? = some x ∧ x / 2 = u, hQ, open_back (x := opp code) (t := t) hP⟩
  case sn => exact hsn
  case lr => exact R.lr
  case ll => exact Nat.le_succ_of_le R.ll
  case sl =>
    show SL s.wanted.length (s.starts.take 0)
    rw [List.take_zero]; exact SL.nil _
  case wn => exact R.wn
  case ro => exact R.ro
  case nn => exact ⟨R.nn.1, by have := R.nn.2; show s.n ≤ n0 + (s.logn + 1); omega⟩
  case G =>
    rw [logs_snoc s.lg s.logn]
    refine ⟨?_, R.G.R.mono hcl, ?_, R.G.wt, rfl, fun v => ?_, fun v i hv => ?_, R.G.hn, R.G.hV, Nat.zero_le _⟩
    · show Base s.V (s.trail.take t ++ [opp code]) (s.starts.take 0) (updN s.lvl (opp code / 2) (s.starts.take 0).length)
      rw [e0, List.take_zero]; exact b1
    · show Why s.n s.row _ (s.trail.take t ++ [opp code]) (s.starts.take 0) (updN s.lvl (opp code / 2) (s.starts.take 0).length) (updN rsn (opp code / 2) none)
      rw [e0, List.take_zero]; exact b2
    · show updN s.phase (opp code / 2) (opp code % 2) v ≤ 1
      unfold updN
      split
      · omega
      · exact R.G.ph v
    · change updN rsn (opp code / 2) none v = some i at hv
      unfold updN at hv
      split at hv
      · cases hv
      · exact R.G.rb v i (hr2 v i hv)
  case top =>
    intro t' ht'
    change t' ∈ s.starts.take 0 at ht'
    simp at ht'
  case cur =>
    intro t' ht'
    change t' ∈ s.starts.take 0 at ht'
    simp at ht'
  case ai =>
    intro j c a h1 h2
    change (s.starts.take 0)[j]? = some a at h2
    simp at h2
  case di =>
    intro p x h1
    change p ∈ s.starts.take 0 at h1
    simp at h1
  case st =>
    refine ⟨R.st.1, R.st.2.1, ?_⟩
    have := R.st.2.2
    show s.stamp ≤ ((s.logn + 1 : Nat) : Int)
    omega
  case lg => exact lg_learn R hLn
  case og => exact og_learn R ht (fun _ _ => rfl) (fun _ _ => rfl)
/-- .. of more codes -/
theorem RI.learnMany (R : RI cs n0 cls h s) (hLn : Lrn s.trail s.starts s.lvl (cs ++ s.logs) code ks) {K : List Nat} (hK : ∀ x, x ∈ K ↔ x ∈ opp code :: ks) (hKn : K.Nodup) (h2 : 2 ≤ K.length) (h0 : K.getD 0 0 = opp code) (hmax : ∀ x, x ∈ ks → s.lvl (x / 2) ≤ s.lvl (K.getD 1 0 / 2)) (hb : s.lvl (K.getD 1 0 / 2) = b) (ht : s.starts[b]? = some t)
    (hP : ∀ u, 1 ≤ u → u ≤ s.V → 2 * u ∉ s.trail → 2 * u + 1 ∉ s.trail → P u) (hQ : QI s.V (fun u => P u ∨ ∃ p x, t ≤ p ∧ s.trail[p]? = some x ∧ x / 2 = u) hp2 pl2)
    (hW : WF (s.an seen hp pl wt st tmp)) (hsn : ∀ v, v ≤ s.V → seen v = false) (hr : ∀ p x, s.trail[p]? = some x → p < t → rsn (x / 2) = s.rsn (x / 2)) (hr2 : ∀ v i, rsn v = some i → s.rsn v = some i) (since : Int) (hn : n0 + s.logn + 1 ≤ 1000000000)
    (ri : Nat) (sp : Int) (tmp2 : Nat → List Nat) {stl : List Int} (hstl : stl.length = s.stamps.length) {kept : List Nat} {gone : Nat → Bool} {room : Int} (hkept : ∀ i, i ∈ kept → i ∈ s.learned ++ [s.n]) (hg1 : ∀ i, i ∉ s.learned ++ [s.n] → gone i = updN s.gone s.n false i) (hg2 : ∀ i, gone i = false → updN s.gone s.n false i = false)
    (hroom : 0 ≤ room ∧ room ≤ 9223372036854775807) (hkl : kept.length ≤ (s.learned ++ [s.n]).length) :
    RI cs n0 (updN cls s.n (clz (opp code :: ks))) t (((((((((s.ld seen hp pl wt st tmp2 (clz (opp code :: ks)) since).sm (s.stamp + 1) stl).nr K ri sp).bk t b rsn hp2 pl2).wt (satS.watched s.W s.n K)).ln (s.learned ++ [s.n])).put (opp code) (some s.n)).ln kept).fg gone |>.rm room) ∧
      msr s.V s.starts s.trail.length < msr s.V (s.starts.take b) (s.trail.take t ++ [opp code]).length := by
  have hcl : ∀ x, x ∈ cs ++ s.logs → x ∈ cs ++ (s.logs ++ [clz (opp code :: ks)]) := fun x hx => by
    rcases List.mem_append.1 hx with hx | hx <;> simp [hx]
  have hrg := hLn.rng R.G.B
  have hV := R.G.hV
  have hRO : RowOf (opp code :: ks) (clz (opp code :: ks)) := rowof_clz fun x hx => by have := hrg x hx; omega
  have hROK : RowOf K (clz (opp code :: ks)) := clz_perm hK hRO
  have hth := R.top t (mem_at.2 ⟨b, ht⟩)
  obtain ⟨b1, b2, b3, b4, ⟨b5, b6⟩, b7, b8, b9, b10⟩ := learned R.G.B (R.G.R.mono hcl) (R.G.Y.mono hcl (Nat.le_refl _)) R.pro (lrn_new hLn R.G.B hRO (by simp)) hK hKn h2 h0 hmax hb ht hth hROK (by simp) hr
  have htl : (s.trail.take t).length = t := by simp; omega
  have htl1 : (s.trail.take t ++ [opp code]).length = t + 1 := by simp [htl]
  have hsl : (s.starts.take b).length = b := by simp; omega
  have hpre : s.trail.take t <+: s.trail.take t ++ [opp code] := List.prefix_append _ _
  refine ⟨?_, by rw [htl1]; exact b7⟩
  constructor <;> dsimp only [SS.put, SS.bk, SS.bl, SS.ld, SS.val, SS.lrp, SS.tr, SS.sts, SS.hd, SS.qu, SS.logs, SS.nr, SS.sm, SS.wt, SS.ln, SS.fg, SS.rm]
  case G =>
    rw [logs_snoc s.lg s.logn]
    refine ⟨?_, b1, ?_, (R.G.wt.add hKn h2).forget hg2, rfl, fun v => ?_, fun v i hv => ?_, ?_, R.G.hV, ?_⟩
    · show Base s.V (s.trail.take t ++ [opp code]) (s.starts.take b) (updN s.lvl (opp code / 2) (s.starts.take b).length)
      rw [hsl]; exact b2
    · show Why (s.n + 1) (updN s.row s.n K) _ (s.trail.take t ++ [opp code]) (s.starts.take b) (updN s.lvl (opp code / 2) (s.starts.take b).length) (updN rsn (opp code / 2) (some s.n))
      rw [hsl]; exact b3
    · show updN s.phase (opp code / 2) (opp code % 2) v ≤ 1
      unfold updN
      split
      · omega
      · exact R.G.ph v
    · change updN rsn (opp code / 2) (some s.n) v = some i at hv
      show i < s.n + 1
      unfold updN at hv
      split at hv
      · cases hv; omega
      · have := R.G.rb v i (hr2 v i hv); omega
    · have := R.nn.2
      show s.n + 1 ≤ 1000000000
      omega
    · show (s.starts.take b).length ≤ 50000
      have := R.G.hs
      omega
  case pro => rw [hsl]; exact b4.forget hg2
  case hl => omega
  case top => intro t' ht'; have := b8 t' ht'; omega
  case cur => intro t' ht'; have := b8 t' ht'; omega
  case wf => exact ⟨hW.len, hW.fp, hW.st⟩
  case q => exact ⟨fun u => P u ∨ ∃ p x, t ≤ p ∧ s.trail[p]? = some x ∧ x / 2 = u, hQ, open_back (x := opp code) (t := t) hP⟩
  case sn => exact hsn
  case lr =>
    intro i hi
    have hnn := R.nn.1
    rcases List.mem_append.1 (hkept i hi) with h | h
    · have := R.lr i h; omega
    · simp at h; omega
  case ll =>
    have := R.ll
    rw [List.length_append] at hkl
    simp at hkl; omega
  case ai => exact (R.ai.back ht).grow hpre
  case di => exact (R.di.back ht R.G.B.mono).grow hpre (fun q hq => by have := b8 q hq; omega)
  case sl => exact R.sl.take b
  case wn => exact R.wn
  case st =>
    have h1 := R.st.2.1
    have h2 := R.st.2.2
    exact ⟨hstl.trans R.st.1, by omega, by omega⟩
  case ro => exact hroom
  case lg => exact lg_learn R hLn
  case og =>
    have hnn := R.nn.1
    refine og_learn R ht (fun i hi => updN_other _ _ (by omega)) (fun i hi => ?_)
    rw [hg1 i (fun hm => ?_), updN_other _ _ (by omega)]
    rcases List.mem_append.1 hm with h | h
    · have := R.lr i h; omega
    · simp at h; omega
  case nn =>
    have h1 := R.nn.1
    have h2 := R.nn.2
    omega
end
/-- how the state stands to the one ahead of learning -/
def After (cs : List (List Int)) (n0 : Nat) (s s' : SS) : Prop :=
  ∃ cls' h, RI cs n0 cls' h s' ∧ s'.head = h ∧ s'.V = s.V ∧ s'.wanted = s.wanted ∧ s'.restart = s.restart ∧ s'.keep = s.keep ∧ s'.budget = s.budget ∧ s'.conflict = s.conflict ∧ s'.pause = s.pause ∧ s'.since = s.since + 1 ∧ s'.logn = s.logn + 1 ∧ s'.resv = s.resv ∧ s'.res = s.res ∧ msr s.V s.starts s.trail.length < msr s.V s'.starts s'.trail.length
theorem afterOne {cs : List (List Int)} {n0 : Nat} {cls : Nat → List Int} {s : SS} {code : Nat} {seen : Nat → Bool} {hp hp2 : List Nat} {pl pl2 : Nat → Int} {wt : List Value} {st : Value} {tmp : Nat → List Nat} {rsn : Nat → Option Nat} {t : Nat} (h : RI cs n0 cls t (((s.ld seen hp pl wt st tmp (clz [opp code]) (s.since + 1)).bk t 0 rsn hp2 pl2).put (opp code) none)) (h2 : msr s.V s.starts s.trail.length < msr s.V [] (s.trail.take t ++ [opp code]).length) :
    After cs n0 s (((s.ld seen hp pl wt st tmp (clz [opp code]) (s.since + 1)).bk t 0 rsn hp2 pl2).put (opp code) none) := by
  refine ⟨cls, t, h, ?_, ?_, ?_, ?_, ?_, ?_, ?_, ?_, ?_, ?_, ?_, ?_, ?_⟩ <;> dsimp only [SS.put, SS.bk, SS.bl, SS.ld, SS.val, SS.lrp, SS.tr, SS.sts, SS.hd, SS.qu, SS.nr, SS.sm, SS.wt, SS.ln, SS.fg, SS.rm]
  rw [List.take_zero]; exact h2
theorem afterMany {cs : List (List Int)} {n0 : Nat} {cls : Nat → List Int} {s : SS} {code : Nat} {c : List Int} {K : List Nat} {seen : Nat → Bool} {hp hp2 : List Nat} {pl pl2 : Nat → Int} {wt : List Value} {st : Value} {tmp : Nat → List Nat} {rsn : Nat → Option Nat} {t b ri : Nat} {sp z room : Int} {stl : List Int} {W' : Nat → List Nat} {l kept : List Nat} {gone : Nat → Bool} {r : Option Nat}
    (h : RI cs n0 cls t (((((((((s.ld seen hp pl wt st tmp c (s.since + 1)).sm z stl).nr K ri sp).bk t b rsn hp2 pl2).wt W').ln l).put (opp code) r).ln kept).fg gone |>.rm room)) (h2 : msr s.V s.starts s.trail.length < msr s.V (s.starts.take b) (s.trail.take t ++ [opp code]).length) :
    After cs n0 s (((((((((s.ld seen hp pl wt st tmp c (s.since + 1)).sm z stl).nr K ri sp).bk t b rsn hp2 pl2).wt W').ln l).put (opp code) r).ln kept).fg gone |>.rm room) := by
  refine ⟨cls, t, h, ?_, ?_, ?_, ?_, ?_, ?_, ?_, ?_, ?_, ?_, ?_, ?_, ?_⟩ <;> dsimp only [SS.put, SS.bk, SS.bl, SS.ld, SS.val, SS.lrp, SS.tr, SS.sts, SS.hd, SS.qu, SS.nr, SS.sm, SS.wt, SS.ln, SS.fg, SS.rm]
  exact h2
end Go.Proofs.YtojjjndhabjhdaaDoor.satRj
