/-
  Contract of (*search).run.
-/
import Derived.Test.YtojjjndhabjhdaaDoorFiM
import Derived.Test.YtojjjndhabjhdaaDoorSatL
namespace Go.Proofs.YtojjjndhabjhdaaDoor.satSg
set_option linter.unusedSimpArgs false
set_option linter.unusedVariables false
open Go.ChangeShapes Go.WideShapes Go.ChangeAt Go.RowKit proofP proofQ owns cls satP satQ satR satS satA satF satB satC satD satE satG satH satI satJ satK satL satM satN satU satV satO satW satX satZ satSa satSb satSc satCa satCb satCc satCd satCe satCf satRi satRj satRk satSd satSe satSf
attribute [local go_sem ↓] Go.wp_at_zero Go.wp_at_succ

/-- a field's number -/
def intAt (wr : World) (bp f : Nat) : Int := match wr.cell? ⟨bp, f, none⟩ with
  | some (.int _ z) => z
  | _ => 0
/-- how far a search is from its end -/
def mea0 (V : Nat) (c p : Int) (l : Nat) : Nat := ((cmax + 10 - c).toNat + (2097152 - p).toNat) * (3 * V + 2) + (3 * V + 1 - l)
def mea (V : Nat) (wr : World) (bp : Nat) : Nat := mea0 V (intAt wr bp 27) (intAt wr bp 23) (lenAt wr bp)
section
variable {w w' wr : World} {B bp rb : Nat} {s s' : SS} {F F' : Ix → Ent} {cs : List (List Int)} {n0 : Nat} {cls : Nat → List Int} {h : Nat}
theorem mea_is (h : Mem w B bp s F) (V : Nat) : mea V w bp = mea0 V s.conflict s.pause s.starts.length := by
  have f27 : w.cell? ⟨bp, 27, none⟩ = some (.int .i64 s.conflict) := h.fld 27
  have f23 : w.cell? ⟨bp, 23, none⟩ = some (.int .i64 s.pause) := h.fld 23
  obtain ⟨a, c, f12⟩ := h.stAt
  unfold mea intAt lenAt
  rw [f27, f23, f12]
theorem mea_conf {V : Nat} {c p : Int} {l l' : Nat} (hc : c + 1 ≤ cmax + 9) : mea0 V (c + 1) p l' < mea0 V c p l := by
  unfold mea0
  obtain ⟨a, ha⟩ : ∃ a : Nat, (cmax + 10 - (c + 1)).toNat = a := ⟨_, rfl⟩
  have h1 : (cmax + 10 - c).toNat = a + 1 := by omega
  rw [ha, h1]
  generalize (2097152 - p).toNat = q
  have : (a + 1 + q) * (3 * V + 2) = (a + q) * (3 * V + 2) + (3 * V + 2) := by rw [show a + 1 + q = (a + q) + 1 from by omega, Nat.add_mul, Nat.one_mul]
  omega
theorem mea_again {V : Nat} {c p p' : Int} {l l' : Nat} (hp : p < p') (hq : p < 2097152) : mea0 V c p' l' < mea0 V c p l := by
  unfold mea0
  generalize (cmax + 10 - c).toNat = a
  obtain ⟨q, hq2⟩ : ∃ q : Nat, (2097152 - p').toNat = q := ⟨_, rfl⟩
  obtain ⟨r, hr⟩ : ∃ r : Nat, (2097152 - p).toNat = q + 1 + r := ⟨(2097152 - p).toNat - (q + 1), by omega⟩
  rw [hq2, hr]
  have : (a + (q + 1 + r)) * (3 * V + 2) = (a + q) * (3 * V + 2) + ((3 * V + 2) + r * (3 * V + 2)) := by
    rw [show a + (q + 1 + r) = (a + q) + (1 + r) from by omega, Nat.add_mul, Nat.add_mul 1 r, Nat.one_mul]
  omega
theorem mea_dec {V : Nat} {c p : Int} {l l' : Nat} (h1 : l < l') (h2 : l' ≤ 3 * V) : mea0 V c p l' < mea0 V c p l := by
  unfold mea0; omega
theorem CN.bound {m : Nat} (C : CN m s) (hV : s.V ≤ 20) (hB : Base s.V s.trail s.starts s.lvl) : s.conflict + 1 ≤ cmax ∧ s.since < 1048576 := by
  have h1 := C.sc.2
  have h2 := msr_lt s.V s.starts s.trail.length hB.len
  have h3 : 2 ^ s.V ≤ 2 ^ 20 := Nat.pow_le_pow_right (by omega) hV
  have e20 : ((2 ^ 20 : Nat) : Int) = 1048576 := by decide
  have h4 : s.since < 1048576 := by
    have a : ((msr s.V s.starts s.trail.length : Nat) : Int) < ((2 ^ s.V : Nat) : Int) := Int.ofNat_lt.2 h2
    have b : ((2 ^ s.V : Nat) : Int) ≤ ((2 ^ 20 : Nat) : Int) := Int.ofNat_le.2 h3
    omega
  refine ⟨?_, h4⟩
  have h5 := C.cm
  have h6 : (m : Int) * 2 ^ s.V ≤ 35 * 1048576 := by
    have a : m * 2 ^ s.V ≤ 35 * 2 ^ 20 := Nat.mul_le_mul C.m35 h3
    have b : ((m * 2 ^ s.V : Nat) : Int) ≤ ((35 * 2 ^ 20 : Nat) : Int) := Int.ofNat_le.2 a
    rw [Int.natCast_mul] at b
    have e : ((2 ^ s.V : Nat) : Int) = (2 : Int) ^ s.V := by simp
    rw [e] at b
    have e2 : ((35 * 2 ^ 20 : Nat) : Int) = 35 * 1048576 := by decide
    omega
  unfold cmax
  omega
/-- when all is set, each clause has a true code -/
theorem RI.sat (R : RI cs n0 cls s.trail.length s) (hall : ∀ v, 1 ≤ v → v ≤ s.V → 2 * v ∈ s.trail ∨ 2 * v + 1 ∈ s.trail) (hcs : ∀ c, c ∈ cs → ∀ x, x ∈ rowOf c → x < 2 * s.V + 2) : ∀ c, c ∈ cs → Sats s.trail c := by
  intro c hc
  rcases R.og c hc with ⟨x, h1, h2⟩ | ⟨p, x, h1, h2, _⟩ | ⟨i, h1, h2, h3⟩
  · have hx := (row_is c).rng h1
    have hx2 := hcs c hc x h1
    rcases hall (x / 2) (by omega) (by omega) with h | h
    · by_cases e : x % 2 = 0
      · exact ⟨x, h1, by rwa [show 2 * (x / 2) = x from by omega] at h⟩
      · refine ⟨opp x, h2, ?_⟩
        unfold opp
        rw [if_neg e, show x - 1 = 2 * (x / 2) from by omega]; exact h
    · by_cases e : x % 2 = 0
      · refine ⟨opp x, h2, ?_⟩
        unfold opp
        rw [if_pos e, show x + 1 = 2 * (x / 2) + 1 from by omega]; exact h
      · exact ⟨x, h1, by rwa [show 2 * (x / 2) + 1 = x from by omega] at h⟩
  · exact ⟨x, h1, mem_at.2 ⟨p, h2⟩⟩
  · have hin : i < s.n := Nat.lt_of_lt_of_le h1 R.nn.1
    obtain ⟨x, h4, h5⟩ := full R.G.B R.G.R R.pro hall hin h3
    refine ⟨x, ?_, h5⟩
    have h6 := (R.G.R.of i hin x).1 h4
    rw [h2] at h6
    exact (row_is c x).2 h6
theorem lost_core (R : RI cs n0 cls h s) {i : Nat} (hi : i < s.n) {core : List Nat} (hr : ∀ x, x ∈ core → x ∈ s.trail) (hc : ∀ fr, (∀ c, c ∈ core → D (cs ++ s.logs) fr c) → ∀ y, y ∈ s.row i → D (cs ++ s.logs) fr (opp y)) : pl (cs ++ s.logs) (clz (core.map opp)) = true :=
  core_plain R.G.hV (fun x hx => R.G.B.rng x (hr x hx)) (fun x hx => clz_mem.2 ⟨opp x, List.mem_map.2 ⟨x, hx, rfl⟩, rfl⟩) fun fr h => row_clash R.G.R hi (hc fr h)
theorem false_core (R : RI cs n0 cls h s) {code : Nat} (hcr : 2 ≤ code ∧ code < 2 * s.V + 2) {core : List Nat} (hr : ∀ x, x ∈ core → x ∈ s.trail) (hc : ∀ fr, (∀ c, c ∈ core → D (cs ++ s.logs) fr c) → D (cs ++ s.logs) fr (opp code)) : pl (cs ++ s.logs) (clz ((core ++ [code]).map opp)) = true :=
  core_plain R.G.hV (fun x hx => by
    rcases List.mem_append.1 hx with hx | hx
    · exact R.G.B.rng x (hr x hx)
    · simp at hx; subst hx; exact hcr) (fun x hx => clz_mem.2 ⟨opp x, List.mem_map.2 ⟨x, hx, rfl⟩, rfl⟩) fun fr h => clashD hcr.1 (h code (by simp)) (hc fr fun c hc' => h c (List.mem_append_left _ hc'))
/-- the numbers are within their bounds -/
theorem nums (R : RI cs n0 cls h s) {m : Nat} (C : CN m s) (hV : s.V ≤ 20) : (0 ≤ s.conflict ∧ s.conflict ≤ cmax) ∧ ((s.logn : Int) ≤ cmax ∧ (s.restart = 0 → (s.logn : Int) ≤ 2 ^ s.V)) := by
  have h1 := CN.bound C hV R.G.B
  have h2 := C.c0
  exact ⟨⟨by omega, by omega⟩, by omega, fun h => by have := CN.lim C R.G.B h; omega⟩
/-- what again leaves -/
theorem again_out {P : Nat → Prop} {m : Nat} (R : RI cs n0 cls s.trail.length s) (C : CN m s) (hV : s.V ≤ 20) (hP : ∀ u, 1 ≤ u → u ≤ s.V → 2 * u ∉ s.trail → 2 * u + 1 ∉ s.trail → P u) (hhd : s.head = s.trail.length) (A : AgP B bp s F P w w') :
    ∃ m2 s2 F2, Mem w' B bp s2 F2 ∧ RI cs n0 cls s2.trail.length s2 ∧ CN m2 s2 ∧ Below B w w' ∧ s2.V = s.V ∧ s2.wanted = s.wanted ∧ (s2.budget = s.budget ∧ s2.restart = s.restart) ∧ s2.resv = s.resv ∧ s2.res = s.res ∧ s2.head = s2.trail.length ∧ ∀ l', s2.starts.length < l' → l' ≤ 3 * s.V → mea0 s.V s2.conflict s2.pause l' < mea0 s.V s.conflict s.pause s.starts.length := by
  rcases A with ⟨_, M, hb⟩ | ⟨hr, hp, s1, F1, M, hb, h⟩
  · exact ⟨m, s, F, M, R, C, hb, rfl, rfl, ⟨rfl, rfl⟩, rfl, rfl, hhd, fun l' h1 h2 => mea_dec h1 h2⟩
  · obtain ⟨k1, k2, k3, k4⟩ := CN.more C hV R.G.B hr hp
    have hpz := C.pz
    rcases h with ⟨hst, rfl, rfl⟩ | ⟨t, rsn, hp', pl', ht, rfl, hQ, hr1, hr2⟩
    · exact ⟨m + 1, _, _, M, RI.since R 0 (s1.pause + (s1.pause / 2 + 1)), ⟨C.c0, by show s1.conflict ≤ _ + 0; rw [Int.add_zero]; exact k4, ⟨Int.le_refl _, Int.natCast_nonneg _⟩, by show 0 ≤ s1.pause + (s1.pause / 2 + 1); omega, .inr ⟨hr, k3⟩, k1⟩, hb, rfl, rfl, ⟨rfl, rfl⟩, rfl, rfl, hhd, fun l' _ _ => mea_again (by show s1.pause < s1.pause + (s1.pause / 2 + 1); omega) k2⟩
    · obtain ⟨R2, e⟩ := RI.restart R ht hP hQ hr1 hr2
      have R3 : RI cs n0 cls ((s.bk t 0 rsn hp' pl').sc 0 (s.pause + (s.pause / 2 + 1))).trail.length ((s.bk t 0 rsn hp' pl').sc 0 (s.pause + (s.pause / 2 + 1))) := by
        have := RI.since R2 0 (s.pause + (s.pause / 2 + 1))
        rw [show ((s.bk t 0 rsn hp' pl').sc 0 (s.pause + (s.pause / 2 + 1))).trail.length = t from e]
        exact this
      refine ⟨m + 1, _, _, M, R3, ?_, hb, (by dsimp only [SS.bk, SS.bl, SS.val, SS.lrp, SS.tr, SS.sts, SS.hd, SS.qu, SS.sc]), (by dsimp only [SS.bk, SS.bl, SS.val, SS.lrp, SS.tr, SS.sts, SS.hd, SS.qu, SS.sc]), ⟨(by dsimp only [SS.bk, SS.bl, SS.val, SS.lrp, SS.tr, SS.sts, SS.hd, SS.qu, SS.sc]), (by dsimp only [SS.bk, SS.bl, SS.val, SS.lrp, SS.tr, SS.sts, SS.hd, SS.qu, SS.sc])⟩, (by dsimp only [SS.bk, SS.bl, SS.val, SS.lrp, SS.tr, SS.sts, SS.hd, SS.qu, SS.sc]), (by dsimp only [SS.bk, SS.bl, SS.val, SS.lrp, SS.tr, SS.sts, SS.hd, SS.qu, SS.sc]), (by dsimp only [SS.bk, SS.bl, SS.val, SS.lrp, SS.tr, SS.sts, SS.hd, SS.qu, SS.sc]; exact e.symm), fun l' _ _ => ?_⟩
      rotate_left
      · dsimp only [SS.bk, SS.bl, SS.val, SS.lrp, SS.tr, SS.sts, SS.hd, SS.qu, SS.sc]
        exact mea_again (by omega) k2
      constructor <;> try dsimp only [SS.bk, SS.bl, SS.val, SS.lrp, SS.tr, SS.sts, SS.hd, SS.qu, SS.sc]
      · exact C.c0
      · rw [Int.add_zero]; exact k4
      · exact ⟨Int.le_refl _, Int.natCast_nonneg _⟩
      · omega
      · exact .inr ⟨hr, k3⟩
      · exact k1
theorem pgd_nst {cl : List (List Int)} (G : PGd cls cl s) (m : Nat) (hl : s.starts.length + m ≤ 50000) : PGd cls cl (s.sts (nst s m)) :=
  ⟨base_nst G.B m, G.R, why_nst G.Y m, G.wt, G.vt, G.ph, G.rb, G.hn, G.hV, by show (nst s m).length ≤ 50000; rw [nst_len]; exact hl⟩
/-- nothing is open any more -/
theorem all_set {P P' : Nat → Prop} {hp : List Nat} {pl : Nat → Int} (hP : ∀ u, 1 ≤ u → u ≤ s.V → 2 * u ∉ s.trail → 2 * u + 1 ∉ s.trail → P u) (hQ : QI s.V P' hp pl) (h0 : hp = []) (hs : ∀ u, P u → ¬ P' u → 2 * u ∈ s.trail ∨ 2 * u + 1 ∈ s.trail) : ∀ v, 1 ≤ v → v ≤ s.V → 2 * v ∈ s.trail ∨ 2 * v + 1 ∈ s.trail := by
  intro v h1 h2
  have hn : ¬ P' v := fun hv => by
    obtain ⟨i, _, hi⟩ := (hQ.pl v h1 h2).1 hv
    rw [h0] at hi
    simp at hi
  by_cases e1 : 2 * v ∈ s.trail
  · exact .inl e1
  · by_cases e2 : 2 * v + 1 ∈ s.trail
    · exact .inr e2
    · exact hs v (hP v h1 h2 e1 e2) hn
theorem all_wanted (R : RI cs n0 cls h s) {m : Nat} (hm : ∀ i, i < m → s.wanted.getD (s.starts.length + i) 0 ∈ s.trail) (hge : s.wanted.length ≤ s.starts.length + m) : ∀ a, a ∈ s.wanted → a ∈ s.trail := by
  intro a ha
  obtain ⟨j, hj⟩ := mem_at.1 ha
  have hjl := at_lt hj
  by_cases e : j < s.starts.length
  · obtain ⟨q, hq, _⟩ := R.ai j a _ hj (List.getElem?_eq_getElem e)
    exact mem_at.2 ⟨q, hq⟩
  · have := hm (j - s.starts.length) (by omega)
    rw [show s.starts.length + (j - s.starts.length) = j from by omega, List.getD_eq_getElem?_getD, hj] at this
    exact this
def RRel (B bp : Nat) (cs : List (List Int)) (n0 : Nat) (s0 : SS) (rb : Nat) (w wr : World) : Prop :=
  ∃ m cls s F, Mem wr B bp s F ∧ RI cs n0 cls s.head s ∧ CN m s ∧ s.V = s0.V ∧ s.wanted = s0.wanted ∧ (s.budget = s0.budget ∧ s.restart = s0.restart) ∧ s.resv = .slice (some ⟨rb, 0, none⟩) 5 5 ∧ s.res = zres ∧ Below B w wr
set_option maxHeartbeats 1000000 in
/-- a decision made: the loop goes on -/
theorem dec_out {s2 : SS} {F3 : Ix → Ent} {m0 m : Nat} {hp : List Nat} {pl : Nat → Int} {P : Nat → Prop} {c rb : Nat} {s0 : SS} {w0 : World} (R : RI cs n0 cls s2.trail.length s2) (C : CN m0 s2) (hV : s2.V ≤ 20) (hd : s2.head = s2.trail.length) (hm : ∀ i, i < m → s2.wanted.getD (s2.starts.length + i) 0 ∈ s2.trail) (hc : 2 ≤ c ∧ c < 2 * s2.V + 2) (h1 : c ∉ s2.trail) (h2 : opp c ∉ s2.trail) (hw : s2.starts.length + m < s2.wanted.length → c ∈ s2.wanted ∧ s2.wanted[s2.starts.length + m]? = some c)
    (hQ : QI s2.V P hp pl) (hP : ∀ u, 1 ≤ u → u ≤ s2.V → 2 * u ∉ s2.trail ++ [c] → 2 * u + 1 ∉ s2.trail ++ [c] → P u) (DP : DecP B bp ((s2.sts (nst s2 m)).qu hp pl) F3 c w w')
    (e1 : s2.V = s0.V) (e2 : s2.wanted = s0.wanted) (e3 : s2.budget = s0.budget ∧ s2.restart = s0.restart) (e4 : s2.resv = .slice (some ⟨rb, 0, none⟩) 5 5) (e5 : s2.res = zres) (hb : Below B w0 w) {M0 : Nat} (hM : ∀ l', s2.starts.length < l' → l' ≤ 3 * s2.V → mea0 s2.V s2.conflict s2.pause l' < M0) :
    RRel B bp cs n0 s0 rb w0 w' ∧ mea s2.V w' bp < M0 := by
  obtain ⟨F', M, _, hb2⟩ := DP
  obtain ⟨R2, hl⟩ := RI.dec R (by omega) m hm hc h1 h2 hw hQ hP
  have C2 := CN.dec C R m c hp pl
  have M' : Mem w' B bp (((((s2.sts (nst s2 m)).qu hp pl).sts (nst s2 m ++ [s2.trail.length])).put c none)) F' := M
  have hs := R2.slen
  dsimp only [SS.put, SS.bk, SS.bl, SS.ld, SS.val, SS.lrp, SS.tr, SS.sts, SS.hd, SS.qu, SS.nr, SS.sm, SS.wt, SS.ln, SS.fg, SS.rm, SS.rsl, SS.lgs, SS.se, SS.tm, SS.sc] at hs
  rw [hl] at hs
  refine ⟨⟨m0, cls, _, F', M', ?_, C2, ?_, ?_, ?_, ?_, ?_, hb.trans hb2⟩, ?_⟩
  · rw [show SS.head (((((s2.sts (nst s2 m)).qu hp pl).sts (nst s2 m ++ [s2.trail.length])).put c none)) = s2.trail.length from by dsimp only [SS.put, SS.bk, SS.bl, SS.ld, SS.val, SS.lrp, SS.tr, SS.sts, SS.hd, SS.qu, SS.nr, SS.sm, SS.wt, SS.ln, SS.fg, SS.rm, SS.rsl, SS.lgs, SS.se, SS.tm, SS.sc]; exact hd]
    exact R2
  · dsimp only [SS.put, SS.bk, SS.bl, SS.ld, SS.val, SS.lrp, SS.tr, SS.sts, SS.hd, SS.qu, SS.nr, SS.sm, SS.wt, SS.ln, SS.fg, SS.rm, SS.rsl, SS.lgs, SS.se, SS.tm, SS.sc]; exact e1
  · dsimp only [SS.put, SS.bk, SS.bl, SS.ld, SS.val, SS.lrp, SS.tr, SS.sts, SS.hd, SS.qu, SS.nr, SS.sm, SS.wt, SS.ln, SS.fg, SS.rm, SS.rsl, SS.lgs, SS.se, SS.tm, SS.sc]; exact e2
  · dsimp only [SS.put, SS.bk, SS.bl, SS.ld, SS.val, SS.lrp, SS.tr, SS.sts, SS.hd, SS.qu, SS.nr, SS.sm, SS.wt, SS.ln, SS.fg, SS.rm, SS.rsl, SS.lgs, SS.se, SS.tm, SS.sc]; exact e3
  · dsimp only [SS.put, SS.bk, SS.bl, SS.ld, SS.val, SS.lrp, SS.tr, SS.sts, SS.hd, SS.qu, SS.nr, SS.sm, SS.wt, SS.ln, SS.fg, SS.rm, SS.rsl, SS.lgs, SS.se, SS.tm, SS.sc]; exact e4
  · dsimp only [SS.put, SS.bk, SS.bl, SS.ld, SS.val, SS.lrp, SS.tr, SS.sts, SS.hd, SS.qu, SS.nr, SS.sm, SS.wt, SS.ln, SS.fg, SS.rm, SS.rsl, SS.lgs, SS.se, SS.tm, SS.sc]; exact e5
  · rw [mea_is M' s2.V]
    dsimp only [SS.put, SS.bk, SS.bl, SS.ld, SS.val, SS.lrp, SS.tr, SS.sts, SS.hd, SS.qu, SS.nr, SS.sm, SS.wt, SS.ln, SS.fg, SS.rm, SS.rsl, SS.lgs, SS.se, SS.tm, SS.sc]
    exact hM _ (by rw [hl]; omega) (by rw [hl]; exact hs)
set_option maxHeartbeats 8000000 in
set_option maxRecDepth 100000 in
theorem run_any (M : Mem w B bp s F) (hV : s.V ≤ 20) (hn0 : n0 ≤ 1000000) (hE : s.empty = true → pl cs [] = true ∧ s.logn = 0 ∧ s.conflict = 0) (hR : s.empty = false → RI cs n0 cls s.head s ∧ CN 0 s) (hcs : ∀ c, c ∈ cs → ∀ x, x ∈ rowOf c → x < 2 * s.V + 2) :
    Calls Tryd.prog 14 #[.pointer (some ⟨bp, 0, none⟩)] w (RunOut cs s.wanted s.V s.budget s.restart B w) := by
  obtain ⟨F0, M0, K0⟩ := M.newRes
  have hB := M.hB
  have hbl := M.obj.lt
  have hBw : B ≤ w.heap.size := by omega
  have f26 : (w.alloc (.cells #[.int .i64 0, .slice none 0 0, .slice none 0 0, .slice none 0 0, .int .i64 0] 26)).cell? ⟨bp, 26, none⟩ = some (.bool s.empty) := M0.fld 26
  have hb0 : Below B w (w.alloc (.cells #[.int .i64 0, .slice none 0 0, .slice none 0 0, .slice none 0 0, .int .i64 0] 26)) := (Below.refl _ _).alloc hBw _
  have hs0 : (w.alloc (.cells #[.int .i64 0, .slice none 0 0, .slice none 0 0, .slice none 0 0, .int .i64 0] 26)).heap.size = w.heap.size + 1 := by simp
  have HM0 := Lib.hid M0
  have HB0 := Lib.hid hb0
  have HCS := Lib.hid hcs
  clear M M0 K0 hb0 hcs
  cases he : s.empty with
  | true =>
    rw [he] at f26
    obtain ⟨hp1, hp2, hp3⟩ := hE he
    have HRF := Lib.hid (refuted_any HM0.out (e := 3) (v := .slice none 0 0) (R := 0) (ks := []) (World.ownsRow_nil _ _ _ _) (by simp) (by simp) (by dsimp only [SS.put, SS.bk, SS.bl, SS.ld, SS.val, SS.lrp, SS.tr, SS.sts, SS.hd, SS.qu, SS.nr, SS.sm, SS.wt, SS.ln, SS.fg, SS.rm, SS.rsl, SS.lgs, SS.se, SS.tm, SS.sc]; omega) (by intro b hb; cases hb))
    have HP2 := Lib.hid hp2
    have HP3 := Lib.hid hp3
    clear hE hR hp2 hp3
    go_enter Tryd.func14, Tryd.ntmps14
    go_wp2_with fail
    refine HRF.out.mono ?_
    rintro e w3 ⟨lv, cv, F3, rfl, M3, hlv, hcv, hb3⟩
    generalize hrbe : w.heap.size = rb at *
    have HRB := Lib.hid hrbe
    clear hrbe
    obtain ⟨a5, c5, rfl⟩ := own_slice hcv
    obtain ⟨a6, c6, hl6, _⟩ := M3.logAt
    rw [hlv] at hl6
    dsimp only [SS.put, SS.bk, SS.bl, SS.ld, SS.val, SS.lrp, SS.tr, SS.sts, SS.hd, SS.qu, SS.nr, SS.sm, SS.wt, SS.ln, SS.fg, SS.rm, SS.rsl, SS.lgs, SS.se, SS.tm, SS.sc] at hl6
    subst hl6
    rw [show (s.rsl zres (.slice (some ⟨rb, 0, none⟩) 5 5)).conflict = s.conflict from rfl]
    obtain ⟨hce, hfr, _, _, _, _, _, hk0, hk1, hk2, hk3, hk4⟩ := M3.setRes (rb := rb) (rfl) (rfl) (.int .i64 2) (.slice none 0 0) (.slice a5 (clz []).length c5) (.slice a6 (s.logn + 1) c6) (.int .i64 s.conflict)
    have HCE := Lib.hid hce
    have HFR := Lib.hid hfr
    have HKC := Lib.hid (And.intro hk0 (And.intro hk1 (And.intro hk2 (And.intro hk3 hk4))))
    clear hce hfr hk0 hk1 hk2 hk3 hk4
    have HRO : Hid (RunOut cs s.wanted s.V s.budget s.restart B w (.returned (.agg #[.int .i64 2, .slice none 0 0, .slice a5 (clz []).length c5, .slice a6 (s.logn + 1) c6, .int .i64 s.conflict])) (set5 w3 rb (.int .i64 2) (.slice none 0 0) (.slice a5 (clz []).length c5) (.slice a6 (s.logn + 1) c6) (.int .i64 s.conflict))) := Lib.hid
      (fin_unsat (X := s.rsl zres (.slice (some ⟨rb, 0, none⟩) 5 5)) (K := []) M3 hlv hcv ⟨by have := HRB.out; omega, by omega⟩ (by have := HRB.out; omega) (by have := HRB.out; omega) rfl (by dsimp only [SS.put, SS.bk, SS.bl, SS.ld, SS.val, SS.lrp, SS.tr, SS.sts, SS.hd, SS.qu, SS.nr, SS.sm, SS.wt, SS.ln, SS.fg, SS.rm, SS.rsl, SS.lgs, SS.se, SS.tm, SS.sc]; omega) (by dsimp only [SS.put, SS.bk, SS.bl, SS.ld, SS.val, SS.lrp, SS.tr, SS.sts, SS.hd, SS.qu, SS.nr, SS.sm, SS.wt, SS.ln, SS.fg, SS.rm, SS.rsl, SS.lgs, SS.se, SS.tm, SS.sc]; intro i hi; have := HP2.out; omega) (by
        have e : SS.logs (s.rsl zres (.slice (some ⟨rb, 0, none⟩) 5 5)) = [] := by dsimp only [SS.logs, SS.put, SS.bk, SS.bl, SS.ld, SS.val, SS.lrp, SS.tr, SS.sts, SS.hd, SS.qu, SS.nr, SS.sm, SS.wt, SS.ln, SS.fg, SS.rm, SS.rsl, SS.lgs, SS.se, SS.tm, SS.sc]; rw [HP2.out]; rfl
        rw [e, List.append_nil]
        show pl cs (clz []) = true
        rw [srt_nil]
        exact hp1) (by simp) (by simp) (by simp) (HB0.out.trans hb3) (by dsimp only [SS.put, SS.bk, SS.bl, SS.ld, SS.val, SS.lrp, SS.tr, SS.sts, SS.hd, SS.qu, SS.nr, SS.sm, SS.wt, SS.ln, SS.fg, SS.rm, SS.rsl, SS.lgs, SS.se, SS.tm, SS.sc]; rw [HP3.out]; unfold cmax; omega) ⟨by dsimp only [SS.put, SS.bk, SS.bl, SS.ld, SS.val, SS.lrp, SS.tr, SS.sts, SS.hd, SS.qu, SS.nr, SS.sm, SS.wt, SS.ln, SS.fg, SS.rm, SS.rsl, SS.lgs, SS.se, SS.tm, SS.sc]; rw [HP2.out]; unfold cmax; decide, fun _ => by dsimp only [SS.put, SS.bk, SS.bl, SS.ld, SS.val, SS.lrp, SS.tr, SS.sts, SS.hd, SS.qu, SS.nr, SS.sm, SS.wt, SS.ln, SS.fg, SS.rm, SS.rsl, SS.lgs, SS.se, SS.tm, SS.sc]; rw [HP2.out]; exact Int.le_of_lt (Int.pow_pos (by omega))⟩ rfl).2
    clear M3 hlv hcv hb3 HRF
    obtain ⟨a0, a1, a2, a3, a4⟩ := HCE.out
    have y0 := HFR.out 0
    have y1 := HFR.out 1
    have y2 := HFR.out 2
    have y3 := HFR.out 3
    have y4 := HFR.out 4
    obtain ⟨k0, k1, k2, k3, k4⟩ := HKC.out
    have hRO := HRO.out
    unfold set5 at hRO
    clear HCE HFR HKC HRO
    go_wp2_with fail
    generalize (((((w3.setCell ⟨rb, 0, none⟩ (.int .i64 2)).setCell ⟨rb, 1, none⟩ (.slice none 0 0)).setCell ⟨rb, 2, none⟩ (.slice a5 (clz []).length c5)).setCell ⟨rb, 3, none⟩ (.slice a6 (s.logn + 1) c6)).setCell ⟨rb, 4, none⟩ (.int .i64 s.conflict)) = w7 at *
    refine bodyPost_ret (v := .agg #[.int .i64 2, (.slice none 0 0), (.slice a5 (clz []).length c5), (.slice a6 (s.logn + 1) c6), .int .i64 s.conflict]) (by simp [results, Tryd.results14, go_sem, k0, k1, k2, k3, k4]) rfl ?_
    exact hRO
  | false =>
    rw [he] at f26
    obtain ⟨hri, hcn⟩ := hR he
    have HRR : Hid (RRel B bp cs n0 s w.heap.size w (w.alloc (.cells #[.int .i64 0, .slice none 0 0, .slice none 0 0, .slice none 0 0, .int .i64 0] 26))) := Lib.hid ⟨0, cls, s.rsl zres (.slice (some ⟨w.heap.size, 0, none⟩) 5 5), F0, HM0.out, RI.conf hri s.conflict zres (.slice (some ⟨w.heap.size, 0, none⟩) 5 5), ⟨hcn.c0, hcn.cm, hcn.sc, hcn.pz, hcn.rs, hcn.m35⟩, rfl, rfl, ⟨rfl, rfl⟩, rfl, rfl, HB0.out⟩
    clear hE hR hri hcn
    go_enter Tryd.func14, Tryd.ntmps14
    go_wp2_with fail
    generalize hrbe : w.heap.size = rb at *
    have HRB := Lib.hid hrbe
    clear hrbe
    go_loopw [] (fun wr => RRel B bp cs n0 s rb w wr) (fun wr => mea s.V wr bp)
    case atStart => exact HRR.out
    case round =>
      obtain ⟨m, cls1, s1, F1, M, R, C, eV, eW, eB, eRv, eRs, hb⟩ := hrel
      clear HRR HM0 HB0 f26 F0
      have HPR := Lib.hid (propagate_any M R.G R.pro R.hl R.top R.cur)
      have HME := Lib.hid (mea_is M s.V)
      have HR := Lib.hid R
      have HC := Lib.hid C
      have HB := Lib.hid hb
      have hbl1 := M.obj.lt
      have hsz1 : w.heap.size ≤ wr.heap.size := hb.size
      clear M R C hb
      go_wp2_with fail
      refine HPR.out.mono ?_
      rintro e w1 ⟨st, F2, M1, hb1, hK, G1, htop, hhl, hres⟩
      have eV1 : st.V = s.V := hK.V.trans eV
      have eW1 : st.wanted = s.wanted := by obtain ⟨⟨_, _, _, _, _, _, _, _, rfl⟩, _⟩ := hK; exact eW
      have eB1 : st.budget = s.budget ∧ st.restart = s.restart := by obtain ⟨⟨_, _, _, _, _, _, _, _, rfl⟩, _⟩ := hK; exact eB
      have eRv1 : st.resv = .slice (some ⟨rb, 0, none⟩) 5 5 := by obtain ⟨⟨_, _, _, _, _, _, _, _, rfl⟩, _⟩ := hK; exact eRv
      have eRs1 : st.res = zres := by obtain ⟨⟨_, _, _, _, _, _, _, _, rfl⟩, _⟩ := hK; exact eRs
      have eM : mea0 s.V s1.conflict s1.pause s1.starts.length = mea0 s.V st.conflict st.pause st.starts.length := by obtain ⟨⟨_, _, _, _, _, _, _, _, rfl⟩, _⟩ := hK; rfl
      have hbw1 := HB.out.trans hb1
      have C1 : CN m st := HC.out.prop hK
      have HLM : Hid (st.restart = 0 → st.conflict + 1 ≤ 2 ^ st.V) := Lib.hid (CN.lim C1 G1.B)
      have HME1 : Hid (mea s.V wr bp = mea0 s.V st.conflict st.pause st.starts.length) := Lib.hid (HME.out.trans eM)
      have hbl2 := M1.obj.lt
      obtain ⟨aS, cS, f12⟩ := M1.stAt
      obtain ⟨aW, cW, f5, hWA⟩ := M1.wantAt
      clear hWA
      obtain ⟨nS, hnS⟩ : ∃ n, n = st.starts.length := ⟨_, rfl⟩
      obtain ⟨nW, hnW⟩ : ∃ n, n = st.wanted.length := ⟨_, rfl⟩
      rw [← hnS] at f12
      rw [← hnW] at f5
      rcases hres with ⟨rfl, hhd, pro⟩ | ⟨i, rfl, pro, hL⟩
      · have R1 : RI cs n0 cls1 st.trail.length st := HR.out.prop hK G1 pro (Nat.le_refl _) (fun t ht => by have := htop t ht; omega)
        obtain ⟨P, hQ, hP⟩ := R1.q
        have hcb := CN.bound C1 (by rw [eV1]; exact hV) R1.G.B
        have HAG := Lib.hid (again_any M1 R1.G.B R1.G.vt R1.wf R1.G.hV R1.G.hs P hQ (fun t ht => R1.cur t (mem_at.2 ⟨0, ht⟩)) ⟨C1.pz, fun h => by omega⟩)
        have HR1 := Lib.hid R1
        have HC1 := Lib.hid C1
        have HBW1 := Lib.hid hbw1
        have HP := Lib.hid hP
        have HHD := Lib.hid hhd
        clear HME HR HC eM hb1 hK G1 htop pro HPR eV eW eB eRv eRs M1 R1 C1 hbw1 hP hQ f12 f5 hnS hnW hcb hhd hhl
        go_wp2_with fail
        refine HAG.out.mono ?_
        rintro e w2 ⟨rfl, A⟩
        obtain ⟨m2, s2, F3, M2, R2, C2, hb2, eV2, eW2, eB2, eRv2, eRs2, hd2, hme2⟩ := again_out HR1.out HC1.out (by rw [eV1]; exact hV) HP.out HHD.out A
        rw [eV1] at eV2 hme2
        rw [eW1] at eW2
        rw [eB1.1, eB1.2] at eB2
        rw [eRv1] at eRv2
        rw [eRs1] at eRs2
        rw [← HME1.out] at hme2
        have HB2 := Lib.hid (HBW1.out.trans hb2)
        clear A hb2 HAG HR1 HC1 HBW1 HP HHD eV1 eW1 eB1 eRv1 eRs1 HME1 hbl2 aS cS aW cW nS nW
        obtain ⟨P2, hQ2, hP2⟩ := R2.q
        have hwl := R2.wlen2
        have hsl := R2.slen
        have htl := R2.G.B.len
        have HNX := Lib.hid (next_any M2 R2.wf R2.G.hV (by omega) (by omega) (by omega) (fun c hc => (R2.wn.2 c hc).2) R2.G.ph P2 hQ2)
        have hnm := nums R2 C2 (by rw [eV2]; exact hV)
        have HNM := Lib.hid hnm
        have hvt := R2.G.vt
        have HR2 := Lib.hid R2
        have HC2 := Lib.hid C2
        have HP2 := Lib.hid hP2
        have HQ2 := Lib.hid hQ2
        have HME2 := Lib.hid hme2
        have hbl2 := M2.obj.lt
        have HRL : Hid (rb < w2.heap.size) := Lib.hid ((M2.own.1 .res).lt rb (by rw [M2.rv]; exact congrArg Value.ownBlock eRv2)).2
        have hsz2 : w.heap.size ≤ w2.heap.size := HB2.out.size
        clear M2 R2 C2 hP2 hQ2 hme2 hnm
        go_wp2_with fail
        refine HNX.out.mono ?_
        rintro e w3 ⟨mm, hall, hb3, hcase⟩
        rw [hvt] at hall
        have hsz3 : w2.heap.size ≤ w3.heap.size := hb3.size
        have HB3 := Lib.hid (HB2.out.trans hb3)
        have HALL := Lib.hid hall
        clear hb3 hall HNX
        rcases hcase with ⟨hlt, hnin, rfl, F4, M3, hF4⟩ | ⟨hge, P', hp, pl, F4, M3, hQ', hPP, ⟨rfl, hp0, hset⟩ | ⟨v, hv1, hv2, hPv, hn1, hn2, rfl, hset⟩⟩
        · obtain ⟨c, hce⟩ : ∃ c, c = s2.wanted.getD (s2.starts.length + mm) 0 := ⟨_, rfl⟩
          rw [← hce, hvt] at hnin
          rw [← hce]
          have hcw : s2.wanted[s2.starts.length + mm]? = some c := by rw [hce]; exact getD_some hlt
          have hcm : c ∈ s2.wanted := mem_at.2 ⟨_, hcw⟩
          have hc2 := HR2.out.wn.2 c hcm
          have hcz : ((c : Int) == 0) = false := beq_eq_false_iff_ne.2 (by omega)
          have hnl : (nst s2 mm).length ≤ 50000 := by rw [nst_len]; omega
          obtain ⟨gV, cV, hVv, f7, qV, _, _⟩ := M3.valAt
          have q7 := qV c (by exact hc2.2)
          change w3.cell? ⟨bp, 7, none⟩ = some (.slice (some ⟨gV, 0, none⟩) (2 * s2.V + 2) cV) at f7
          change w3.cell? ⟨gV, c, none⟩ = some (.int .i8 (val s2.vt c)) at q7
          rw [hvt] at q7
          have hc3 := hc2.2
          by_cases hon : opp c ∈ s2.trail
          · rw [val_neg hnin hon] at q7
            have hmw : (nst s2 mm).length ≤ s2.wanted.length := by rw [nst_len]; omega
            have hPG := pgd_nst HR2.out.G mm (by omega)
            have hDD : ∀ p x, p ∈ nst s2 mm → s2.trail[p]? = some x → x ∈ s2.wanted := fun p x h1 h2 => di_nst HR2.out.di mm p x h1 h2 fun j a hj _ => by have := at_lt hj; omega
            have hA : Below w3.heap.size w3 (w3.alloc (.cells #[.int .i64 c] 3)) := (Below.refl _ _).alloc (Nat.le_refl _) _
            have hB3w : B ≤ w3.heap.size := by have := M3.hB; have := M3.obj.lt; omega
            have M4 := M3.below hA
            have HCO : Hid (Calls Tryd.prog 33 #[.pointer (some ⟨bp, 0, none⟩), .slice (some ⟨w3.heap.size, 0, none⟩) 1 1] (w3.alloc (.cells #[.int .i64 c] 3)) (CoP B bp (s2.sts (nst s2 mm)) F4 (cs ++ s2.logs) [c] (w3.alloc (.cells #[.int .i64 c] 3)))) := Lib.hid
              (core_any M4 hPG HR2.out.sn hDD [c] w3.heap.size 1 (by simp) (by simp) (fun j hj => by
                obtain rfl : j = 0 := by simpa using hj
                exact new_one w3 (.int .i64 c) 3 0 _ rfl) (fun e => by have := M3.ahead.1 .seen _ e; omega) (fun y hy => by simp at hy; subst hy; exact hon))
            have HBA : Hid (Below B w (w3.alloc (.cells #[.int .i64 c] 3))) := Lib.hid (HB3.out.trans (hA.mono hB3w))
            have HNI := Lib.hid hnin
            have HC2R := Lib.hid hc2
            have HCM := Lib.hid hcm
            have hsz3b : w.heap.size ≤ w3.heap.size ∧ rb < w3.heap.size := by have := HRL.out; omega
            have hlb : s2.logn ≤ 1000000000 := by
              have := HNM.out.2.1
              unfold cmax at this
              omega
            clear M3 M4 hF4 hA hnin hon hnl hVv qV hc2 hce hcw hcm hPG hDD hmw HME2 hlt
            generalize hN : 2 * s2.V + 2 = N at *
            have HN := Lib.hid hN
            clear hN
            go_wp2_with fail
            refine HCO.out.mono ?_
            rintro e w5 ⟨core, sn, tmp, F5, M5, ht5, rfl, hF5, hb5, hcw, hcn, hcd⟩
            have hcr := fun c (hc : c ∈ core) => HR2.out.G.B.rng c (hcw c hc).2
            have hcl0 := nodup_bound hcn (fun x hx => (hcr x hx).2)
            have hcl : core.length ≤ 40002 := by
              have := HR2.out.G.hV
              omega
            have hsz5a : w3.heap.size ≤ w5.heap.size := by have := hb5.size; simp at this; omega
            have HO := Lib.hid ((M5.below ((Below.refl _ _).alloc (Nat.le_refl _) (.cells #[.int .i64 c] 3))).ownAt (.tmp 2) rfl)
            have hxl2 : (cont (((s2.sts (nst s2 mm)).se sn).tm tmp) (fvs F5) (.tmp 2)).length = core.length := by
              show ((tmp 2).map iv).length = _
              rw [ht5]; simp
            rw [hxl2] at HO
            have HC5 : Hid (∀ c, c ∈ core → c ∈ s2.wanted ∧ c ∈ s2.trail) := Lib.hid hcw
            have HCN := Lib.hid hcn
            have HCD : Hid (∀ fr, (∀ c, c ∈ core → D (cs ++ s2.logs) fr c) → D (cs ++ s2.logs) fr (opp c)) := Lib.hid fun fr h => hcd fr h c (by simp)
            have HM5 := Lib.hid M5
            have HT5 := Lib.hid ht5
            have HB5 : Hid (Below B w w5) := Lib.hid (HBA.out.trans hb5)
            have HCR := Lib.hid hcr
            obtain ⟨u7, hu7⟩ : ∃ u, u = (F5 (.tmp 2)).v := ⟨_, rfl⟩
            have HU7 := Lib.hid hu7
            rw [← hu7] at HO ⊢
            obtain ⟨i0, hi0, hz0, hz1, hz2⟩ := info_parts infoI
            clear M5 ht5 hF5 hb5 hcw hcn hcd hcr hcl0 hxl2 HCO HBA hu7
            go_wp2_with (at_builtin; (refine wpList_append_own_at _ rfl _ _ 23 rfl B 3 i0 (.int .i64 0) 1 8 Tryd.underlying23 hi0 hz0 hz1 hz2 rfl (by decide) u7 core.length (cont (((s2.sts (nst s2 mm)).se sn).tm tmp) (fvs F5) (.tmp 2)) rfl ?c0 ⟨w5.heap.size, 0, none⟩ 1 1 [.int .i64 c] rfl rfl (new_oneE _ _ _ (by simp)) ?c2 ?c3 ?c4 ?c5 ?_))
            case c0 => exact HO.out
            case c2 => simp [Value.oneCell']
            case c3 => unfold maxLen; omega
            case c4 => omega
            case c5 => simp; omega
            intro v' w6 hown6 hgrow6 _ hat
            obtain ⟨g', cap', rfl, _, _, _, _⟩ := own_form hown6 (by omega)
            obtain ⟨F6, M6, V6, K6, B6⟩ := HM5.out.appTmp (j := 2) (c := c) (n := core.length) (by show (tmp 2).length = _; rw [HT5.out]) ((Below.refl _ _).alloc (Nat.le_refl _) (.cells #[.int .i64 c] 3)) hown6 (by rw [← HU7.out]; exact hgrow6) (by
              rw [← HU7.out]
              rcases hat with hat | hat
              · exact .inl hat
              · exact .inr (by have : g' = w5.heap.size + 1 := by simpa [Value.ownBlock] using hat
                               rw [this]; simp))
            change Mem w6 B bp ((((s2.sts (nst s2 mm)).se sn).tm tmp).tm (updN tmp 2 (tmp 2 ++ [c]))) F6 at M6
            obtain ⟨K, hK⟩ : ∃ K, K = core ++ [c] := ⟨_, rfl⟩
            have hk6 := M6.ownAt (.tmp 2) (xs := K.map iv) (by show ((updN tmp 2 (tmp 2 ++ [c])) 2).map iv = _; rw [updN_same, HT5.out, hK])
            rw [List.length_map, V6] at hk6
            have hKl : K.length = core.length + 1 := by rw [hK]; simp
            have hKr : ∀ x, x ∈ K → 2 ≤ x ∧ x < 2 * s2.V + 2 := fun x hx => by
              rw [hK] at hx
              rcases List.mem_append.1 hx with hx | hx
              · exact HCR.out x hx
              · simp at hx; subst hx; have := HC2R.out; have := HN.out; omega
            have hVb := HR2.out.G.hV
            have hKn : K.Nodup := by
              rw [hK, List.nodup_append]
              exact ⟨HCN.out, by simp, fun a ha b hb e => by simp at hb; subst hb; subst e; exact HNI.out (HC5.out _ ha).2⟩
            have hKw : ∀ x, x ∈ K → x ∈ s2.wanted := fun x hx => by
              rw [hK] at hx
              rcases List.mem_append.1 hx with hx | hx
              · exact (HC5.out x hx).1
              · simp at hx; subst hx; exact HCM.out
            have HPL : Hid (pl (cs ++ s2.logs) (clz (K.map opp)) = true) := Lib.hid (by
              rw [hK]
              exact false_core HR2.out ⟨HC2R.out.1, by have := HC2R.out; have := HN.out; omega⟩ (fun x hx => (HC5.out x hx).2) HCD.out)
            have HRF := Lib.hid (refuted_any M6 (e := 3) (v := .slice (some ⟨g', 0, none⟩) (core.length + 1) cap') (R := B) (ks := K) hk6 (by omega) (fun x hx => by have := (hKr x hx).2; omega) (by exact hlb) (fun b hb => ⟨fun e => M6.ne (.tmp 2) (by rw [V6, hb, e]), fun e => by have := M6.own.2 .log (.tmp 2) b e (by rw [V6]; exact hb); cases this⟩))
            have HKN := Lib.hid hKn
            have HKR := Lib.hid hKr
            have HKW := Lib.hid hKw
            have HB6 : Hid (Below B w w6) := Lib.hid (HB5.out.trans B6)
            have hsz6 : w5.heap.size ≤ w6.heap.size := B6.size
            clear M6 V6 K6 B6 hown6 hgrow6 hat HO HM5 HT5 HB5 HC5 HCN HCD HCR HU7 hk6 hKr hKn hKw hlb hK HNI HC2R HCM hi0 hz0 hz1 hz2
            go_wp2_with fail
            refine HRF.out.mono ?_
            rintro e w7 ⟨lv, cv, F7, rfl, M7, hlv, hcv, hb7⟩
            obtain ⟨a5, c5, rfl⟩ := own_slice hcv
            obtain ⟨a6, c6, hl6, _⟩ := M7.logAt
            rw [hlv] at hl6
            dsimp only [SS.put, SS.bk, SS.bl, SS.ld, SS.val, SS.lrp, SS.tr, SS.sts, SS.hd, SS.qu, SS.nr, SS.sm, SS.wt, SS.ln, SS.fg, SS.rm, SS.rsl, SS.lgs, SS.se, SS.tm, SS.sc] at hl6
            subst hl6
            rw [show ((((s2.sts (nst s2 mm)).se sn).tm tmp).tm (updN tmp 2 (tmp 2 ++ [c]))).conflict = s2.conflict from rfl]
            obtain ⟨hce, hfr, _, _, _, _, _, hk0, hk1, hk2, hk3, hk4⟩ := M7.setRes (rb := rb) (eRv2) (eRs2) (.int .i64 2) (.slice none 0 0) (.slice a5 (clz K).length c5) (.slice a6 (s2.logn + 1) c6) (.int .i64 s2.conflict)
            have HCE := Lib.hid hce
            have HFR := Lib.hid hfr
            have HKC := Lib.hid (And.intro hk0 (And.intro hk1 (And.intro hk2 (And.intro hk3 hk4))))
            clear hce hfr hk0 hk1 hk2 hk3 hk4
            have HRO : Hid (RunOut cs s2.wanted s2.V s2.budget s2.restart B w (.returned (.agg #[.int .i64 2, .slice none 0 0, .slice a5 (clz K).length c5, .slice a6 (s2.logn + 1) c6, .int .i64 s2.conflict])) (set5 w7 rb (.int .i64 2) (.slice none 0 0) (.slice a5 (clz K).length c5) (.slice a6 (s2.logn + 1) c6) (.int .i64 s2.conflict))) := Lib.hid
              (fin_unsat (X := (((s2.sts (nst s2 mm)).se sn).tm tmp).tm (updN tmp 2 (tmp 2 ++ [c]))) (K := K) M7 hlv hcv ⟨by omega, by omega⟩ (by have := HRB.out; omega) (by have := HRB.out; omega) eRv2 HR2.out.G.hV HR2.out.lg HPL.out HKN.out HKR.out HKW.out (HB6.out.trans hb7) HNM.out.1 HNM.out.2 eRs2).2
            rw [eV2, eW2, eB2.1, eB2.2] at HRO
            clear M7 hlv hcv hb7 HRF HPL HKN HKR HKW HB6 HR2 HC2
            obtain ⟨a0, a1, a2, a3, a4⟩ := HCE.out
            have y0 := HFR.out 0
            have y1 := HFR.out 1
            have y2 := HFR.out 2
            have y3 := HFR.out 3
            have y4 := HFR.out 4
            obtain ⟨k0, k1, k2, k3, k4⟩ := HKC.out
            have hRO := HRO.out
            unfold set5 at hRO
            clear HCE HFR HKC HRO
            go_wp2_with fail
            generalize (((((w7.setCell ⟨rb, 0, none⟩ (.int .i64 2)).setCell ⟨rb, 1, none⟩ (.slice none 0 0)).setCell ⟨rb, 2, none⟩ (.slice a5 (clz K).length c5)).setCell ⟨rb, 3, none⟩ (.slice a6 (s2.logn + 1) c6)).setCell ⟨rb, 4, none⟩ (.int .i64 s2.conflict)) = w9 at *
            refine bodyPost_ret (v := .agg #[.int .i64 2, (.slice none 0 0), (.slice a5 (clz K).length c5), (.slice a6 (s2.logn + 1) c6), .int .i64 s2.conflict]) (by simp [results, Tryd.results14, go_sem, k0, k1, k2, k3, k4]) rfl ?_
            exact hRO
          · rw [val_zero hnin hon] at q7
            have hPn : ∀ u, 1 ≤ u → u ≤ s2.V → 2 * u ∉ s2.trail ++ [c] → 2 * u + 1 ∉ s2.trail ++ [c] → P2 u := fun u h1 h2 h3 h4 => HP2.out u h1 h2 (fun e => h3 (List.mem_append_left _ e)) (fun e => h4 (List.mem_append_left _ e))
            have HDC := Lib.hid (decide_any M3 (by exact HR2.out.G.hV) c (by exact hc2) (by show c ∉ s2.vt; rw [hvt]; exact hnin) (by show opp c ∉ s2.vt; rw [hvt]; exact hon) (by show s2.trail.length ≤ 20000; omega) (by exact hnl))
            have HDO : Hid (∀ w', DecP B bp (s2.sts (nst s2 mm)) F4 c w3 w' → RRel B bp cs n0 s rb w w' ∧ mea s2.V w' bp < mea s.V wr bp) := Lib.hid fun w' DP => dec_out (hp := s2.heap) (pl := s2.place) HR2.out HC2.out (by rw [eV2]; exact hV) hd2 HALL.out hc2 hnin hon (fun _ => ⟨hcm, hcw⟩) HQ2.out hPn DP eV2 eW2 eB2 eRv2 eRs2 HB3.out (by rw [eV2]; exact HME2.out)
            clear M3 hnin hon hPn hnl hVv qV hc2 hce hcw hcm hF4
            generalize 2 * s2.V + 2 = N at *
            go_wp2_with fail
            refine HDC.out.mono ?_
            rintro e w4 ⟨rfl, DP⟩
            have HX := Lib.hid (HDO.out w4 DP)
            clear DP HDC HDO
            go_wp2
            go_roundw
            case rel => exact HX.out.1
            case measure =>
              have h := HX.out.2
              rw [eV2] at h
              exact h
        · rw [hvt] at hset
          have hAS := all_set HP2.out hQ' hp0 hset
          have hWT := all_wanted HR2.out HALL.out hge
          have HFD := Lib.hid (found_any M3 (by exact HR2.out.G.hV))
          have HST : Hid (∀ c, c ∈ cs → Sats s2.trail c) := Lib.hid (RI.sat HR2.out hAS (by rw [eV2]; exact HCS.out))
          have HAS := Lib.hid hAS
          have HWT := Lib.hid hWT
          have hsz3b : w.heap.size ≤ w3.heap.size ∧ rb < w3.heap.size := by have := HRL.out; omega
          clear M3 hset hAS hWT hge hp0 hPP hQ' HME2
          go_wp2_with fail
          refine HFD.out.mono ?_
          rintro e w4 ⟨lv, mv, rfl, M4, hlv, hmv, hb4⟩
          obtain ⟨a5, c5, rfl⟩ := own_slice hmv
          obtain ⟨a6, c6, hl6, _⟩ := M4.logAt
          rw [hlv] at hl6
          dsimp only [SS.put, SS.bk, SS.bl, SS.ld, SS.val, SS.lrp, SS.tr, SS.sts, SS.hd, SS.qu, SS.nr, SS.sm, SS.wt, SS.ln, SS.fg, SS.rm, SS.rsl, SS.lgs, SS.se, SS.tm, SS.sc] at hl6
          subst hl6
          rw [show ((s2.sts (nst s2 mm)).qu hp pl).V = s2.V from rfl, show ((s2.sts (nst s2 mm)).qu hp pl).vt = s2.trail from hvt] at hmv
          rw [show ((s2.sts (nst s2 mm)).qu hp pl).conflict = s2.conflict from rfl, show ((s2.sts (nst s2 mm)).qu hp pl).V = s2.V from rfl]
          obtain ⟨hce, hfr, _, _, _, _, _, hk0, hk1, hk2, hk3, hk4⟩ := M4.setRes (rb := rb) (eRv2) (eRs2) (.int .i64 1) (.slice a5 s2.V c5) (.slice none 0 0) (.slice a6 s2.logn c6) (.int .i64 s2.conflict)
          have HCE := Lib.hid hce
          have HFR := Lib.hid hfr
          have HKC := Lib.hid (And.intro hk0 (And.intro hk1 (And.intro hk2 (And.intro hk3 hk4))))
          clear hce hfr hk0 hk1 hk2 hk3 hk4
          have HRO : Hid (RunOut cs s2.wanted s2.V s2.budget s2.restart B w (.returned (.agg #[.int .i64 1, .slice a5 s2.V c5, .slice none 0 0, .slice a6 s2.logn c6, .int .i64 s2.conflict])) (set5 w4 rb (.int .i64 1) (.slice a5 s2.V c5) (.slice none 0 0) (.slice a6 s2.logn c6) (.int .i64 s2.conflict))) := Lib.hid
            (fin_sat (X := (s2.sts (nst s2 mm)).qu hp pl) M4 hlv (by rw [show ((s2.sts (nst s2 mm)).qu hp pl).vt = s2.trail from hvt]; exact hmv) ⟨hsz3b.1, hsz3b.2⟩ (by have := HRB.out; omega) (by have := HRB.out; omega) eRv2 HR2.out.G.hV HR2.out.lg (by rw [show ((s2.sts (nst s2 mm)).qu hp pl).vt = s2.trail from hvt]; exact HR2.out.G.B.rng) (by rw [show ((s2.sts (nst s2 mm)).qu hp pl).vt = s2.trail from hvt]; exact HR2.out.G.B.con) (by rw [show ((s2.sts (nst s2 mm)).qu hp pl).vt = s2.trail from hvt]; exact HAS.out) (by rw [show ((s2.sts (nst s2 mm)).qu hp pl).vt = s2.trail from hvt]; exact HST.out) (by rw [show ((s2.sts (nst s2 mm)).qu hp pl).vt = s2.trail from hvt]; exact HWT.out) (HB3.out.trans hb4) HNM.out.1 HNM.out.2 eRs2)
          rw [eV2, eW2, eB2.1, eB2.2] at HRO
          rw [eV2] at *
          clear M4 hlv hmv hb4 HFD HAS HST HWT HB3 HR2 HC2
          obtain ⟨a0, a1, a2, a3, a4⟩ := HCE.out
          have y0 := HFR.out 0
          have y1 := HFR.out 1
          have y2 := HFR.out 2
          have y3 := HFR.out 3
          have y4 := HFR.out 4
          obtain ⟨k0, k1, k2, k3, k4⟩ := HKC.out
          have hRO := HRO.out
          unfold set5 at hRO
          clear HCE HFR HKC HRO
          go_wp2_with fail
          generalize (((((w4.setCell ⟨rb, 0, none⟩ (.int .i64 1)).setCell ⟨rb, 1, none⟩ (.slice a5 s.V c5)).setCell ⟨rb, 2, none⟩ (.slice none 0 0)).setCell ⟨rb, 3, none⟩ (.slice a6 s2.logn c6)).setCell ⟨rb, 4, none⟩ (.int .i64 s2.conflict)) = w7 at *
          refine bodyPost_ret (v := .agg #[.int .i64 1, (.slice a5 s.V c5), (.slice none 0 0), (.slice a6 s2.logn c6), .int .i64 s2.conflict]) (by simp [results, Tryd.results14, go_sem, k0, k1, k2, k3, k4]) rfl ?_
          exact hRO
        · rw [hvt] at hset hn1 hn2
          obtain ⟨c, hce⟩ : ∃ c, c = 2 * v + s2.phase v := ⟨_, rfl⟩
          have hph := HR2.out.G.ph v
          rw [← hce]
          have hc2 : 2 ≤ c ∧ c < 2 * s2.V + 2 := by omega
          have hcn : c ∉ s2.trail := by
            rcases (show c = 2 * v ∨ c = 2 * v + 1 by omega) with e | e <;> rw [e] <;> assumption
          have hon : opp c ∉ s2.trail := by
            unfold opp
            rcases (show c = 2 * v ∨ c = 2 * v + 1 by omega) with e | e
            · rw [if_pos (by omega), e]; exact hn2
            · rw [if_neg (by omega), e]; exact hn1
          have hPn : ∀ u, 1 ≤ u → u ≤ s2.V → 2 * u ∉ s2.trail ++ [c] → 2 * u + 1 ∉ s2.trail ++ [c] → P' u := by
            intro u h1 h2 h3 h4
            have k3 : 2 * u ∉ s2.trail := fun e => h3 (List.mem_append_left _ e)
            have k4 : 2 * u + 1 ∉ s2.trail := fun e => h4 (List.mem_append_left _ e)
            by_cases e : P' u
            · exact e
            · rcases hset u (HP2.out u h1 h2 k3 k4) e with rfl | h | h
              · rcases (show c = 2 * u ∨ c = 2 * u + 1 by omega) with e | e
                · exact absurd (List.mem_append_right _ (by simp [e])) h3
                · exact absurd (List.mem_append_right _ (by simp [e])) h4
              · exact absurd h k3
              · exact absurd h k4
          have hnl : (nst s2 mm).length ≤ 50000 := by
            rw [nst_len]
            by_cases e : mm = 0
            · omega
            · have h1 : s2.starts.length + (mm - 1) < s2.wanted.length := by
                by_cases e : s2.starts.length + (mm - 1) < s2.wanted.length
                · exact e
                · have := HALL.out (mm - 1) (by omega)
                  rw [List.getD_eq_getElem?_getD, List.getElem?_eq_none (by omega)] at this
                  have := (HR2.out.G.B.rng _ this).1
                  simp at this
              omega
          have HDC := Lib.hid (decide_any M3 (by exact HR2.out.G.hV) c (by exact hc2) (by show c ∉ s2.vt; rw [hvt]; exact hcn) (by show opp c ∉ s2.vt; rw [hvt]; exact hon) (by show s2.trail.length ≤ 20000; omega) (by exact hnl))
          have HDO : Hid (∀ w', DecP B bp ((s2.sts (nst s2 mm)).qu hp pl) F4 c w3 w' → RRel B bp cs n0 s rb w w' ∧ mea s2.V w' bp < mea s.V wr bp) := Lib.hid fun w' DP => dec_out HR2.out HC2.out (by rw [eV2]; exact hV) hd2 HALL.out hc2 hcn hon (fun h => absurd h (by omega)) hQ' hPn DP eV2 eW2 eB2 eRv2 eRs2 HB3.out (by rw [eV2]; exact HME2.out)
          obtain ⟨gV, cV, hVv, f7, qV, _, _⟩ := M3.valAt
          have q7 := qV c (by exact hc2.2)
          change w3.cell? ⟨bp, 7, none⟩ = some (.slice (some ⟨gV, 0, none⟩) (2 * s2.V + 2) cV) at f7
          rw [show val ((s2.sts (nst s2 mm)).qu hp pl).vt c = 0 from val_zero (by show c ∉ s2.vt; rw [hvt]; exact hcn) (by show opp c ∉ s2.vt; rw [hvt]; exact hon)] at q7
          have hcz : ((c : Int) == 0) = false := beq_eq_false_iff_ne.2 (by omega)
          have hc3 := hc2.2
          clear M3 hset hcn hon hPn hnl hQ' hPP hge hVv qV hn1 hn2 hPv hc2 hce hph
          generalize 2 * s2.V + 2 = N at *
          go_wp2_with fail
          refine HDC.out.mono ?_
          rintro e w4 ⟨rfl, DP⟩
          have HX := Lib.hid (HDO.out w4 DP)
          clear DP HDC HDO
          go_wp2
          go_roundw
          case rel => exact HX.out.1
          case measure =>
            have h := HX.out.2
            rw [eV2] at h
            exact h
      · have hpv : pv st.rp i = .pointer (some ⟨st.rp i, 0, none⟩) := rfl
        rw [hpv]
        clear hpv
        have R1 : RI cs n0 cls1 (st.head - 1) st := HR.out.prop hK G1 pro (by omega) (fun t ht => by have := htop t ht; omega)
        clear HME HR HC eM hb1 hK G1 htop pro HPR eV eW eB eRv eRs
        by_cases hle : nS ≤ nW
        · have hle2 : decide ((nS : Int) ≤ (nW : Int)) = true := decide_eq_true (by omega)
          have HM1 := Lib.hid M1
          have HR1 := Lib.hid R1
          have HC1 := Lib.hid C1
          have HBW1 := Lib.hid hbw1
          have HL := Lib.hid hL
          have HLE : Hid (st.starts.length ≤ st.wanted.length) := Lib.hid (by omega)
          have hsz2 : w.heap.size ≤ w1.heap.size := hbw1.size
          clear M1 R1 C1 hbw1 hL hnS hnW
          go_wp2_with fail
          go_quiet (fail)
          have M2 : Mem (w1.drewN nq) B bp st F2 := HM1.out.below (Go.Joins.below_draws _ _ _)
          have HBW2 : Hid (Below B w (w1.drewN nq)) := Lib.hid (HBW1.out.trans (Go.Joins.below_draws _ _ _))
          have hsz3 : w.heap.size ≤ (w1.drewN nq).heap.size := HBW2.out.size
          generalize w1.drewN nq = w2 at *
          have h2 := HR1.out.G.R.two i HL.out.lt
          obtain ⟨g, cap, hgv, fr, hq, _, _, _, _, _, _, _⟩ := M2.rowAt HL.out.lt (by omega)
          have hrl : (st.row i).length ≤ 100000 := by
            have := nodup_bound (HR1.out.G.R.nd i HL.out.lt) (fun x hx => (HR1.out.G.R.rng i HL.out.lt x hx).2)
            have := HR1.out.G.hV
            omega
          have HCO := Lib.hid (core_any M2 HR1.out.G HR1.out.sn (HR1.out.core HLE.out) (st.row i) g cap (by omega) hrl hq (fun e => by have := M2.own.2 .seen (.row i) g e (by rw [hgv]; rfl); cases this) HL.out.all)
          generalize (st.row i).length = L at *
          clear M2 hgv hq hle2 f12 f5 h2
          go_wp2_with fail
          refine HCO.out.mono ?_
          rintro e w3 ⟨core, sn, tmp, F3, M3, ht3, rfl, hF3, hb3, hcw, hcn, hcd⟩
          have hk3 := M3.ownAt (.tmp 2) (xs := core.map iv) (by show (tmp 2).map iv = _; rw [ht3])
          rw [List.length_map] at hk3
          have hcr := fun c (hc : c ∈ core) => HR1.out.G.B.rng c (hcw c hc).2
          have hcl : core.length ≤ 100000 := by
            have := nodup_bound hcn (fun x hx => (hcr x hx).2)
            have := HR1.out.G.hV
            omega
          have hnm := nums HR1.out HC1.out (by rw [eV1]; exact hV)
          have hlb : st.logn ≤ 1000000000 := by
            have := hnm.2
            unfold cmax at this
            omega
          have hsz4 : rb < w3.heap.size := ((M3.own.1 .res).lt rb (by rw [M3.rv]; exact congrArg Value.ownBlock eRv1)).2
          have HRF := Lib.hid (refuted_any M3 (e := 3) (v := (F3 (.tmp 2)).v) (R := B) (ks := core) hk3 (by have := nodup_bound hcn (fun x hx => (hcr x hx).2); omega) (fun c hc => by have := (hcr c hc).2; omega) (by exact hlb) (fun b hb => ⟨fun e => M3.ne (.tmp 2) (by rw [hb, e]), fun e => by have := M3.own.2 .log (.tmp 2) b e hb; cases this⟩))
          have HPL := Lib.hid (lost_core HR1.out HL.out.lt (fun x hx => (hcw x hx).2) hcd)
          have HCW : Hid (∀ c, c ∈ core → c ∈ st.wanted) := Lib.hid fun c hc => (hcw c hc).1
          have HCN := Lib.hid hcn
          have HCR := Lib.hid hcr
          have HNM := Lib.hid hnm
          have HB3 : Hid (Below B w w3) := Lib.hid (HBW2.out.trans hb3)
          have hsz5 : w.heap.size ≤ w3.heap.size := HB3.out.size
          clear M3 ht3 hF3 hb3 hcw hcn hcd hk3 hcr hnm hcl hlb HCO HBW2 HBW1 HM1 fr hrl
          generalize (F3 (.tmp 2)).v = v3 at *
          go_wp2_with fail
          refine HRF.out.mono ?_
          rintro e w4 ⟨lv, cv, F4, rfl, M4, hlv, hcv, hb4⟩
          obtain ⟨a5, c5, rfl⟩ := own_slice hcv
          obtain ⟨a6, c6, hl6, _⟩ := M4.logAt
          rw [hlv] at hl6
          dsimp only [SS.put, SS.bk, SS.bl, SS.ld, SS.val, SS.lrp, SS.tr, SS.sts, SS.hd, SS.qu, SS.nr, SS.sm, SS.wt, SS.ln, SS.fg, SS.rm, SS.rsl, SS.lgs, SS.se, SS.tm, SS.sc] at hl6
          subst hl6
          rw [show ((st.se sn).tm tmp).conflict = st.conflict from rfl]
          obtain ⟨hce, hfr, _, _, _, _, _, hk0, hk1, hk2, hk3, hk4⟩ := M4.setRes (rb := rb) (eRv1) (eRs1) (.int .i64 2) (.slice none 0 0) (.slice a5 (clz core).length c5) (.slice a6 (st.logn + 1) c6) (.int .i64 st.conflict)
          have HCE := Lib.hid hce
          have HFR := Lib.hid hfr
          have HKC := Lib.hid (And.intro hk0 (And.intro hk1 (And.intro hk2 (And.intro hk3 hk4))))
          clear hce hfr hk0 hk1 hk2 hk3 hk4
          have HRO : Hid (RunOut cs st.wanted st.V st.budget st.restart B w (.returned (.agg #[.int .i64 2, .slice none 0 0, .slice a5 (clz core).length c5, .slice a6 (st.logn + 1) c6, .int .i64 st.conflict])) (set5 w4 rb (.int .i64 2) (.slice none 0 0) (.slice a5 (clz core).length c5) (.slice a6 (st.logn + 1) c6) (.int .i64 st.conflict))) := Lib.hid
            (fin_unsat (X := (st.se sn).tm tmp) (K := core) M4 hlv hcv ⟨hsz5, hsz4⟩ (by have := HRB.out; omega) (by have := HRB.out; omega) eRv1 HR1.out.G.hV HR1.out.lg HPL.out HCN.out HCR.out HCW.out (HB3.out.trans hb4) HNM.out.1 HNM.out.2 eRs1).2
          rw [eV1, eW1, eB1.1, eB1.2] at HRO
          clear M4 hlv hcv hb4 HRF HPL HCW HCN HCR HB3 HR1 HC1 HL
          obtain ⟨a0, a1, a2, a3, a4⟩ := HCE.out
          have y0 := HFR.out 0
          have y1 := HFR.out 1
          have y2 := HFR.out 2
          have y3 := HFR.out 3
          have y4 := HFR.out 4
          obtain ⟨k0, k1, k2, k3, k4⟩ := HKC.out
          have hRO := HRO.out
          unfold set5 at hRO
          clear HCE HFR HKC HRO
          go_wp2_with fail
          generalize (((((w4.setCell ⟨rb, 0, none⟩ (.int .i64 2)).setCell ⟨rb, 1, none⟩ (.slice none 0 0)).setCell ⟨rb, 2, none⟩ (.slice a5 (clz core).length c5)).setCell ⟨rb, 3, none⟩ (.slice a6 (st.logn + 1) c6)).setCell ⟨rb, 4, none⟩ (.int .i64 st.conflict)) = w7 at *
          refine bodyPost_ret (v := .agg #[.int .i64 2, (.slice none 0 0), (.slice a5 (clz core).length c5), (.slice a6 (st.logn + 1) c6), .int .i64 st.conflict]) (by simp [results, Tryd.results14, go_sem, k0, k1, k2, k3, k4]) rfl ?_
          exact hRO
        · have hle2 : decide ((nS : Int) ≤ (nW : Int)) = false := decide_eq_false (by omega)
          have HM1 := Lib.hid M1
          have HR1 := Lib.hid R1
          have HC1 := Lib.hid C1
          have HBW1 := Lib.hid hbw1
          have HL := Lib.hid hL
          have HLE : Hid (st.wanted.length < st.starts.length) := Lib.hid (by omega)
          have hnm := nums R1 C1 (by rw [eV1]; exact hV)
          have hcb := CN.bound C1 (by rw [eV1]; exact hV) R1.G.B
          have hc0 : 0 ≤ st.conflict := hnm.1.1
          have hc1 : st.conflict ≤ 37748735 := by have := hcb.1; unfold cmax at this; omega
          have hln : st.logn ≤ 37748736 := by have := hnm.2.1; unfold cmax at this; omega
          have hsi : 0 ≤ st.since ∧ st.since ≤ 1000000000000 := ⟨C1.sc.1, by have := hcb.2; omega⟩
          have HLN := Lib.hid hln
          have HLZ := Lib.hid hnm.2.2
          have HSI := Lib.hid hsi
          clear M1 R1 C1 hbw1 hL hnS hnW hnm hcb hln hsi
          go_wp2_with fail
          go_quiet (fail)
          have M2 : Mem (w1.drewN nq) B bp st F2 := HM1.out.below (Go.Joins.below_draws _ _ _)
          have HBW2 : Hid (Below B w (w1.drewN nq)) := Lib.hid (HBW1.out.trans (Go.Joins.below_draws _ _ _))
          generalize w1.drewN nq = w2 at *
          have f27 : w2.cell? ⟨bp, 27, none⟩ = some (.int .i64 st.conflict) := M2.fld 27
          have z27 := M2.obj.frozen 27
          have hwr : IntKind.i64.wrap (st.conflict + 1) = st.conflict + 1 := IntWalk.i64_in _ (by omega)
          have M3 : Mem (w2.setCell ⟨bp, 27, none⟩ (.int .i64 (st.conflict + 1))) B bp { st with conflict := st.conflict + 1, res := st.res, resv := st.resv } F2 := M2.field 27 (.int .i64 (st.conflict + 1)) rfl (by intro i; cases i <;> rfl) rfl rfl rfl rfl
          have R3 : RI cs n0 cls1 (st.head - 1) { st with conflict := st.conflict + 1, res := st.res, resv := st.resv } := RI.conf HR1.out (st.conflict + 1) st.res st.resv
          have HM3 := Lib.hid M3
          have HR3 := Lib.hid R3
          have HBW3 : Hid (Below B w (w2.setCell ⟨bp, 27, none⟩ (.int .i64 (st.conflict + 1)))) := Lib.hid (HBW2.out.setCell hB _)
          have f4 : (w2.setCell ⟨bp, 27, none⟩ (.int .i64 (st.conflict + 1))).cell? ⟨bp, 4, none⟩ = some (.int .i64 st.budget) := M3.fld 4
          have g27 : (w2.setCell ⟨bp, 27, none⟩ (.int .i64 (st.conflict + 1))).cell? ⟨bp, 27, none⟩ = some (.int .i64 (st.conflict + 1)) := M3.fld 27
          have hbl3 : bp < w2.heap.size := M2.obj.lt
          clear M2 M3 R3 hle2 f12 f5 HM1 HBW1
          by_cases hbd : st.budget < st.conflict + 1
          · have hbd2 : decide (st.budget < st.conflict + 1) = true := decide_eq_true hbd
            go_wp2_with fail
            go_quiet (fail)
            have M5 : Mem ((w2.setCell ⟨bp, 27, none⟩ (.int .i64 (st.conflict + 1))).drewN nq).drew B bp { st with conflict := st.conflict + 1, res := st.res, resv := st.resv } F2 := (HM3.out.below (Go.Joins.below_draws _ _ _)).below (Below.refl _ _).drew
            have HB5 : Hid (Below B w ((w2.setCell ⟨bp, 27, none⟩ (.int .i64 (st.conflict + 1))).drewN nq).drew) := Lib.hid ((HBW3.out.trans (Go.Joins.below_draws _ _ _)).trans (Below.refl _ _).drew)
            generalize (w2.setCell ⟨bp, 27, none⟩ (.int .i64 (st.conflict + 1))).drewN nq = w5 at *
            obtain ⟨aL, cL, hLv, g25⟩ := M5.logAt
            change w5.drew.cell? ⟨bp, 25, none⟩ = some (.slice aL st.logn cL) at g25
            have h27 : w5.drew.cell? ⟨bp, 27, none⟩ = some (.int .i64 (st.conflict + 1)) := M5.fld 27
            have hS := And.intro g25 h27
            have HMD := Lib.hid M5
            have HLV := Lib.hid hLv
            have hbl5 : bp < w5.heap.size := by have := M5.obj.lt; simpa using this
            clear M5 hLv g25 h27 f27 f4 g27 hbd2 z27
            go_wp2_with fail
            refine held.region (fun w' => w'.cell? ⟨bp, 25, none⟩ = some (.slice aL st.logn cL) ∧ w'.cell? ⟨bp, 27, none⟩ = some (.int .i64 (st.conflict + 1))) 9 (by kernel_rfl) ?_
            generalize w5.drew = w6 at *
            refine held.wpLeft.take (i := 0) (v := ?_) rfl (by kernel_rfl) (by kernel_rfl) (by kernel_rfl) (by kernel_rfl) (by kernel_rfl) (fun _ _ _ h => h) (by rfl) ?_ hS ?_
            rotate_left
            · (intro w hSw; obtain ⟨s1, s2⟩ := hSw; go_simp; try with_reducible rfl)
            simp only [Act.put, List.setIfInBounds_toArray, List.set_cons_zero, List.set_cons_succ]
            refine held.wpLeft.take (i := 1) (v := ?_) rfl (by kernel_rfl) (by kernel_rfl) (by kernel_rfl) (by kernel_rfl) (by kernel_rfl) (fun _ _ _ h => h) (by rfl) ?_ hS ?_
            rotate_left
            · (intro w hSw; obtain ⟨s1, s2⟩ := hSw; go_simp; try with_reducible rfl)
            simp only [Act.put, List.setIfInBounds_toArray, List.set_cons_zero, List.set_cons_succ]
            refine held.wpLeft.take (i := 2) (v := ?_) rfl (by kernel_rfl) (by kernel_rfl) (by kernel_rfl) (by kernel_rfl) (by kernel_rfl) (fun _ _ _ h => h) (by rfl) ?_ hS ?_
            rotate_left
            · (intro w hSw; obtain ⟨s1, s2⟩ := hSw; go_simp; try with_reducible rfl)
            simp only [Act.put, List.setIfInBounds_toArray, List.set_cons_zero, List.set_cons_succ]
            refine held.wpLeft.take (i := 3) (v := ?_) rfl (by kernel_rfl) (by kernel_rfl) (by kernel_rfl) (by kernel_rfl) (by kernel_rfl) (fun _ _ _ h => h) (by rfl) ?_ hS ?_
            rotate_left
            · (intro w hSw; obtain ⟨s1, s2⟩ := hSw; go_simp; try with_reducible rfl)
            simp only [Act.put, List.setIfInBounds_toArray, List.set_cons_zero, List.set_cons_succ]
            refine held.wpLeft.take (i := 4) (v := ?_) rfl (by kernel_rfl) (by kernel_rfl) (by kernel_rfl) (by kernel_rfl) (by kernel_rfl) (fun _ _ _ h => h) (by rfl) ?_ hS ?_
            rotate_left
            · (intro w hSw; obtain ⟨s1, s2⟩ := hSw; go_simp; try with_reducible rfl)
            simp only [Act.put, List.setIfInBounds_toArray, List.set_cons_zero, List.set_cons_succ]
            refine held.wpLeft.take (i := 5) (v := ?_) rfl (by kernel_rfl) (by kernel_rfl) (by kernel_rfl) (by kernel_rfl) (by kernel_rfl) (fun _ _ _ h => h) (by rfl) ?_ hS ?_
            rotate_left
            · (intro w hSw; obtain ⟨s1, s2⟩ := hSw; go_simp; try with_reducible rfl)
            simp only [Act.put, List.setIfInBounds_toArray, List.set_cons_zero, List.set_cons_succ]
            refine held.wpLeft.take (i := 6) (v := ?_) rfl (by kernel_rfl) (by kernel_rfl) (by kernel_rfl) (by kernel_rfl) (by kernel_rfl) (fun _ _ _ h => h) (by rfl) ?_ hS ?_
            rotate_left
            · (intro w hSw; obtain ⟨s1, s2⟩ := hSw; go_simp; try with_reducible rfl)
            simp only [Act.put, List.setIfInBounds_toArray, List.set_cons_zero, List.set_cons_succ]
            refine held.wpLeft.take (i := 7) (v := ?_) rfl (by kernel_rfl) (by kernel_rfl) (by kernel_rfl) (by kernel_rfl) (by kernel_rfl) (fun _ _ _ h => h) (by rfl) ?_ hS ?_
            rotate_left
            · (intro w hSw; obtain ⟨s1, s2⟩ := hSw; go_simp; try with_reducible rfl)
            simp only [Act.put, List.setIfInBounds_toArray, List.set_cons_zero, List.set_cons_succ]
            refine held.wpLeft.one (i := 8) (by kernel_rfl) rfl (fun K hK => ?_)
            go_simp
            refine hK.out _ _ (fun _ => hS) ?_
            clear hK K
            obtain ⟨hce, hfr, _, _, _, _, _, hk0, hk1, hk2, hk3, hk4⟩ := HMD.out.setRes (rb := rb) eRv1 eRs1 (.int .i64 3) (.slice none 0 0) (.slice none 0 0) (.slice aL st.logn cL) (.int .i64 (st.conflict + 1))
            have HRO : Hid (RunOut cs st.wanted st.V st.budget st.restart B w (.returned (.agg #[.int .i64 3, .slice none 0 0, .slice none 0 0, .slice aL st.logn cL, .int .i64 (st.conflict + 1)])) (set5 w6 rb (.int .i64 3) (.slice none 0 0) (.slice none 0 0) (.slice aL st.logn cL) (.int .i64 (st.conflict + 1)))) := Lib.hid
              (fin_lim HMD.out HLV.out (by have := HRB.out; omega) (by have := HRB.out; omega) eRv1 HR3.out.G.hV HR3.out.lg HB5.out ⟨by show 0 ≤ st.conflict + 1; omega, by show st.conflict + 1 ≤ cmax; unfold cmax; omega⟩ ⟨by show (st.logn : Int) ≤ cmax; have := HLN.out; unfold cmax; omega, HLZ.out⟩ eRs1 hbd (fun h => Int.lt_of_lt_of_le hbd (HLM.out h)))
            rw [eV1, eW1, eB1.1, eB1.2] at HRO
            obtain ⟨a0, a1, a2, a3, a4⟩ := hce
            have y0 := hfr 0
            have y1 := hfr 1
            have y2 := hfr 2
            have y3 := hfr 3
            have y4 := hfr 4
            have hRO := HRO.out
            unfold set5 at hRO
            clear HRO hfr
            refine held.wpLeft.one (i := 9) (by kernel_rfl) rfl (fun K hK => ?_)
            go_simp
            refine hK.out _ _ (fun h => absurd rfl h) ?_
            clear hK K
            refine held.wpLeft.done (by kernel_rfl) ?_
            go_wp2_with fail
            generalize (((((w6.setCell ⟨rb, 0, none⟩ (.int .i64 3)).setCell ⟨rb, 1, none⟩ (.slice none 0 0)).setCell ⟨rb, 2, none⟩ (.slice none 0 0)).setCell ⟨rb, 3, none⟩ (.slice aL st.logn cL)).setCell ⟨rb, 4, none⟩ (.int .i64 (st.conflict + 1))) = w7 at *
            refine bodyPost_ret (v := .agg #[.int .i64 3, .slice none 0 0, .slice none 0 0, .slice aL st.logn cL, .int .i64 (st.conflict + 1)]) (by simp [results, Tryd.results14, go_sem, hk0, hk1, hk2, hk3, hk4]) rfl ?_
            exact hRO
          · have hbd2 : decide (st.budget < st.conflict + 1) = false := decide_eq_false hbd
            go_wp2_with fail
            go_quiet (fail)
            have M5 : Mem ((w2.setCell ⟨bp, 27, none⟩ (.int .i64 (st.conflict + 1))).drewN nq) B bp { st with conflict := st.conflict + 1, res := st.res, resv := st.resv } F2 := HM3.out.below (Go.Joins.below_draws _ _ _)
            have HB5 : Hid (Below B w ((w2.setCell ⟨bp, 27, none⟩ (.int .i64 (st.conflict + 1))).drewN nq)) := Lib.hid (HBW3.out.trans (Go.Joins.below_draws _ _ _))
            generalize (w2.setCell ⟨bp, 27, none⟩ (.int .i64 (st.conflict + 1))).drewN nq = w5 at *
            have HLR := Lib.hid (learn_any M5 HR3.out i HL.out HLE.out (by have := HLN.out; show n0 + st.logn + 1 ≤ _; omega) HSI.out)
            clear M5 f27 f4 g27 hbd2 z27 HM3
            go_wp2_with fail
            refine HLR.out.mono ?_
            rintro e w6 ⟨rfl, s6, F6, M6, hb6, cls6, h6, R6, hh6, b1, b2, b3, b4, b5, b6, b7, b8, b9, b10, b11, b12⟩
            have HREL : Hid (RRel B bp cs n0 s rb w w6) := Lib.hid ⟨m, cls6, s6, F6, M6, hh6 ▸ R6, ⟨by rw [b9, b6]; have := HC1.out.c0; show ((st.logn + 1 : Nat) : Int) ≤ st.conflict + 1; omega, by
                rw [b6, b1, b8]
                have := HC1.out.cm
                show st.conflict + 1 ≤ (m : Int) * 2 ^ st.V + (st.since + 1)
                omega, by
                rw [b8, b1]
                have h1 := HC1.out.sc
                have h2 := b12
                change msr st.V st.starts st.trail.length < msr st.V s6.starts s6.trail.length at h2
                show 0 ≤ st.since + 1 ∧ st.since + 1 ≤ ((msr st.V s6.starts s6.trail.length : Nat) : Int)
                omega, by rw [b7]; exact HC1.out.pz, by rw [b3, b7]; exact HC1.out.rs, HC1.out.m35⟩, by rw [b1]; exact eV1, by rw [b2]; exact eW1, by rw [b5, b3]; exact eB1, by rw [b10]; exact eRv1, by rw [b11]; exact eRs1, HB5.out.trans hb6⟩
            have HMEA : Hid (mea s.V w6 bp < mea s.V wr bp) := Lib.hid (by
              rw [HME1.out, mea_is M6 s.V, b6, b7]
              exact mea_conf (by show st.conflict + 1 ≤ cmax + 9; unfold cmax; omega))
            clear M6 hb6 R6 hh6 b1 b2 b3 b4 b5 b6 b7 b8 b9 b10 b11 b12 HLR HR3 HR1 HC1 HL
            go_wp2
            go_roundw
            case rel => exact HREL.out
            case measure => exact HMEA.out
end
end Go.Proofs.YtojjjndhabjhdaaDoor.satSg
