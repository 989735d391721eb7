/-
  Contract of (*prover).clash.
-/
import Derived.Test.YtojjjndhabjhdaaProofE
import Derived.Test.YtojjjndhabjhdaaCls
namespace Go.Proofs.Ytojjjndhabjhdaa.proofF
set_option linter.unusedSimpArgs false
set_option linter.unusedVariables false
open Go.ChangeShapes Go.WideShapes Go.ChangeAt Go.RowKit proofP proofQ owns proofA proofB proofC proofD proofE cls

theorem setT_mem {trail : List Nat} {x : Nat} (h : opp x ∉ trail) : x ∈ setT trail x := by
  unfold setT
  split
  · rename_i hh; exact hh.resolve_right h
  · simp
theorem setT_sub {trail : List Nat} {x y : Nat} (h : y ∈ trail) : y ∈ setT trail x := by
  unfold setT
  split
  · exact h
  · simp [h]
theorem setT_TI {trail : List Nat} {x : Nat} (T : TI trail) (hx : 2 ≤ x ∧ x < 40002) : TI (setT trail x) := by
  unfold setT
  split
  · exact T
  · rename_i hh; exact T.snoc hx (fun h => hh (.inl h)) (fun h => hh (.inr h))
theorem setT_D {cl : List (List Int)} {fr : List Int} {trail : List Nat} {x : Nat} (h : ∀ y, y ∈ trail → D cl fr y) (hx : D cl fr x) : ∀ y, y ∈ setT trail x → D cl fr y := by
  intro y hy
  unfold setT at hy
  split at hy
  · exact h y hy
  · rcases List.mem_append.1 hy with hy | hy
    · exact h y hy
    · simp at hy; rw [hy]; exact hx

def SetP (B bp : Nat) (lv : Value) (first nv : Nat) (s : PS) (F : Ix → Ent) (x : Nat) (w : World) (e : Ending) (w' : World) : Prop :=
  (opp x ∈ s.trail ∧ e = .returned (.bool false) ∧ w = w') ∨ (opp x ∉ s.trail ∧ e = .returned (.bool true) ∧ Below B w w' ∧ ∃ va F', Mem w' B bp lv va first nv { s with trail := setT s.trail x } F' ∧ ∀ k, k ≠ .trail → (F' k).v = (F k).v)
theorem set_any (B bp : Nat) (lv va : Value) (first nv : Nat) (s : PS) (F : Ix → Ent) (w : World) (h : Mem w B bp lv va first nv s F) (T : TI s.trail) (hnv : nv = 40002) (x : Nat) (hx : 2 ≤ x ∧ x < 40002) :
    Calls Try.prog 56 #[.pointer (some ⟨bp, 0, none⟩), .int .i64 x] w (SetP B bp lv first nv s F x w) := by
  by_cases ho : opp x ∈ s.trail
  · refine (set_known B bp lv va first nv s F w h x (by omega) false (-1) (val_lo T ho) (.inr ⟨rfl, rfl⟩)).mono ?_
    rintro e w' ⟨rfl, rfl⟩
    exact .inl ⟨ho, rfl, rfl⟩
  · by_cases hi : x ∈ s.trail
    · refine (set_known B bp lv va first nv s F w h x (by omega) true 1 (val_pos hi) (.inl ⟨rfl, rfl⟩)).mono ?_
      rintro e w' ⟨rfl, rfl⟩
      refine .inr ⟨ho, rfl, Below.refl _ _, va, F, ?_, fun _ _ => rfl⟩
      have : setT s.trail x = s.trail := by unfold setT; rw [if_pos (.inl hi)]
      rw [this]; exact h
    · refine (set_open B bp lv va first nv s F w h x (by omega) (by have := opp_rng x hx.1 hx.2; omega) (by omega) (by have := T.len; omega) hi ho).mono ?_
      rintro e w' ⟨rfl, hb, va', F', hM, hF'⟩
      refine .inr ⟨ho, rfl, hb, va', F', ?_, hF'⟩
      have : setT s.trail x = s.trail ++ [x] := by unfold setT; rw [if_neg (by simp [hi, ho])]
      rw [this]; exact hM

def ClashP (B bp : Nat) (lv : Value) (first nv : Nat) (s : PS) (cls : Nat → List Int) (cl : List (List Int)) (fr : List Int) (w : World) (e : Ending) (w' : World) : Prop :=
  ∃ s' va F', Mem w' B bp lv va first nv s' F' ∧ Below B w w' ∧ Same s s' ∧ PGood s' cls ∧ ((e = .returned (.bool true) ∧ Clash cl fr) ∨ (e = .returned (.bool false) ∧ ¬ Clash cl fr))

/-- while opposites are set -/
def C1 (B bp : Nat) (lv : Value) (first nv : Nat) (s : PS) (cls : Nat → List Int) (cl : List (List Int)) (fr : List Int) (w : World) (k : Nat) (wr : World) : Prop :=
  ∃ st va F, Mem wr B bp lv va first nv st F ∧ Below B w wr ∧ Same s st ∧ PGood st cls ∧ (∀ x, x ∈ st.trail → D cl fr x) ∧ ∀ l, l ∈ fr.take k → lit l → code l ∈ st.trail
/-- while short clauses are set -/
def C2 (vS : Value) (B bp : Nat) (lv : Value) (first nv : Nat) (s : PS) (cls : Nat → List Int) (cl : List (List Int)) (fr : List Int) (w : World) (k : Nat) (wr : World) : Prop :=
  ∃ st va F, Mem wr B bp lv va first nv st F ∧ Below B w wr ∧ Same s st ∧ PGood st cls ∧ (∀ x, x ∈ st.trail → D cl fr x) ∧ (∀ l, l ∈ fr → lit l → code l ∈ st.trail) ∧
    (∀ i, i ∈ s.short.take k → s.on i = true → ∃ x, x ∈ st.row i ∧ x ∈ st.trail) ∧ (F .short).v = vS
/-- while the trail is followed -/
def C3 (B bp : Nat) (lv : Value) (first nv : Nat) (s : PS) (cls : Nat → List Int) (cl : List (List Int)) (fr : List Int) (w : World) (k : Nat) (wr : World) : Prop :=
  ∃ st va F, Mem wr B bp lv va first nv st F ∧ Below B w wr ∧ Same s st ∧ PGood st cls ∧ (∀ x, x ∈ st.trail → D cl fr x) ∧ (∀ l, l ∈ fr → lit l → code l ∈ st.trail) ∧
    (∀ i, i ∈ s.short → s.on i = true → ∃ x, x ∈ st.row i ∧ x ∈ st.trail) ∧ PI st.n st.row st.on st.trail k ∧ k ≤ st.trail.length

theorem good_set {st : PS} {cls : Nat → List Int} (G : PGood st cls) {x : Nat} (hx : 2 ≤ x ∧ x < 40002) : PGood { st with trail := setT st.trail x } cls := ⟨G.si, G.ro, setT_TI G.ti hx, G.hm, G.sh, G.hn⟩
theorem same_set {s st : PS} (h : Same s st) (t : List Nat) : Same s { st with trail := t } := ⟨h.n, h.m, h.on, h.short, h.len, h.ex⟩

section
variable {w wr w1 : World} {B bp : Nat} {lv va : Value} {first nv : Nat} {s st : PS} {F : Ix → Ent} {cls : Nat → List Int} {cl : List (List Int)} {fr : List Int} {k x i : Nat}
theorem take_snoc' {α : Type} {l : List α} {k : Nat} {d : α} (h : k < l.length) {y : α} (hy : y ∈ l.take (k + 1)) : y ∈ l.take k ∨ y = l.getD k d := by
  rw [List.take_succ_eq_append_getElem h, List.mem_append] at hy
  rcases hy with hy | hy
  · exact .inl hy
  · right; simp only [List.mem_singleton] at hy; rw [hy, List.getD_eq_getElem?_getD, List.getElem?_eq_getElem h]; rfl
theorem c1_skip (h : C1 B bp lv first nv s cls cl fr w k wr) (hk : k < fr.length) (hl : ¬ lit (fr.getD k 0)) : C1 B bp lv first nv s cls cl fr w (k + 1) wr := by
  obtain ⟨st, va, F, hM, hb, hs, G, hD, hf⟩ := h
  refine ⟨st, va, F, hM, hb, hs, G, hD, fun l hm hlit => ?_⟩
  rcases take_snoc' (d := 0) hk hm with h1 | h1
  · exact hf l h1 hlit
  · rw [h1] at hlit; exact absurd hlit hl
theorem D_start (hk : k < fr.length) (hl : lit (fr.getD k 0)) : D cl fr (code (fr.getD k 0)) := by
  unfold D
  rw [litOf_code _ hl]
  refine .start ?_ hl
  rw [List.getD_eq_getElem?_getD, List.getElem?_eq_getElem hk]
  exact List.getElem_mem hk
theorem c1_set (hs : Same s st) (G : PGood st cls) (hD : ∀ x, x ∈ st.trail → D cl fr x) (hf : ∀ l, l ∈ fr.take k → lit l → code l ∈ st.trail) (hk : k < fr.length) (hl : lit (fr.getD k 0)) (ho : opp (code (fr.getD k 0)) ∉ st.trail)
    (hM : Mem wr B bp lv va first nv { st with trail := setT st.trail (code (fr.getD k 0)) } F) (hb : Below B w wr) : C1 B bp lv first nv s cls cl fr w (k + 1) wr := by
  refine ⟨_, va, F, hM, hb, same_set hs _, good_set G (code_rng _ hl), setT_D hD (D_start hk hl), fun l hm hlit => ?_⟩
  rcases take_snoc' (d := 0) hk hm with h1 | h1
  · exact setT_sub (hf l h1 hlit)
  · rw [h1]; exact setT_mem ho
theorem c1_fail (hs : Same s st) (G : PGood st cls) (hD : ∀ x, x ∈ st.trail → D cl fr x) (hk : k < fr.length) (hl : lit (fr.getD k 0)) (ho : opp (code (fr.getD k 0)) ∈ st.trail) (hM : Mem wr B bp lv va first nv st F) (hb : Below B w wr) :
    ClashP B bp lv first nv s cls cl fr w (.returned (.bool true)) wr :=
  ⟨st, va, F, hM, hb, hs, G, .inl ⟨rfl, clashD (code_rng _ hl).1 (D_start hk hl) (hD _ ho)⟩⟩
theorem c2_of {vS : Value} (hM : Mem wr B bp lv va first nv st F) (hb : Below B w wr) (hs : Same s st) (G : PGood st cls) (hD : ∀ x, x ∈ st.trail → D cl fr x) (hf : ∀ l, l ∈ fr.take fr.length → lit l → code l ∈ st.trail) (hv : (F .short).v = vS) : C2 vS B bp lv first nv s cls cl fr w 0 wr :=
  ⟨st, va, F, hM, hb, hs, G, hD, fun l hm => hf l (by rw [List.take_length]; exact hm), fun i hi => by simp at hi, hv⟩
theorem c2_skip {vS : Value} (h : C2 vS B bp lv first nv s cls cl fr w k wr) (hk : k < s.short.length) (hoff : s.on (s.short.getD k 0) = false) : C2 vS B bp lv first nv s cls cl fr w (k + 1) wr := by
  obtain ⟨st, va, F, hM, hb, hs, G, hD, hf, hsh, hv⟩ := h
  refine ⟨st, va, F, hM, hb, hs, G, hD, hf, fun i hi hon => ?_, hv⟩
  rcases take_snoc' (d := 0) hk hi with h1 | h1
  · exact hsh i h1 hon
  · rw [h1, hoff] at hon; cases hon
theorem one_of {r : List Nat} (h : r.length < 2) (h0 : r ≠ []) : r = [r.getD 0 0] := by
  match r, h0 with
  | [a], _ => rfl
theorem D_short (hs : Same s st) (G : PGood st cls) (hon : ∀ i, i < s.n → s.on i = true → cls i ∈ cl) (hi : i ∈ s.short) (ho : s.on i = true) (h0 : st.row i ≠ []) : D cl fr ((st.row i).getD 0 0) ∧ (st.row i).getD 0 0 ∈ st.row i := by
  have hsh := (G.sh i).1 (by rw [hs.short]; exact hi)
  have h1 := one_of hsh.2 h0
  have hm : (st.row i).getD 0 0 ∈ st.row i := get_mem (by have := List.length_pos_iff.2 h0; omega)
  refine ⟨unitD (G.ro i hsh.1) (hon i (by rw [← hs.n]; exact hsh.1) ho) hm fun y hy hne => ?_, hm⟩
  rw [h1] at hy
  simp at hy
  exact absurd hy (by simpa using hne)
theorem c2_set {vS : Value} (hs : Same s st) (G : PGood st cls) (hD : ∀ x, x ∈ st.trail → D cl fr x) (hf : ∀ l, l ∈ fr → lit l → code l ∈ st.trail) (hsh : ∀ i, i ∈ s.short.take k → s.on i = true → ∃ x, x ∈ st.row i ∧ x ∈ st.trail) (hon : ∀ i, i < s.n → s.on i = true → cls i ∈ cl)
    (hk : k < s.short.length) (ho : s.on (s.short.getD k 0) = true) (h0 : st.row (s.short.getD k 0) ≠ []) (hop : opp ((st.row (s.short.getD k 0)).getD 0 0) ∉ st.trail)
    (hM : Mem wr B bp lv va first nv { st with trail := setT st.trail ((st.row (s.short.getD k 0)).getD 0 0) } F) (hv : (F .short).v = vS) (hb : Below B w wr) : C2 vS B bp lv first nv s cls cl fr w (k + 1) wr := by
  have hmem : s.short.getD k 0 ∈ s.short := get_mem hk
  obtain ⟨hd, hm⟩ := D_short (fr := fr) hs G hon hmem ho h0
  have hlt : s.short.getD k 0 < st.n := ((G.sh _).1 (by rw [hs.short]; exact hmem)).1
  refine ⟨_, va, F, hM, hb, same_set hs _, good_set G ((G.ro _ hlt).rng hm), setT_D hD hd, fun l hl hlit => setT_sub (hf l hl hlit), fun i hi hoi => ?_, hv⟩
  rcases take_snoc' (d := 0) hk hi with h1 | h1
  · obtain ⟨x, h2, h3⟩ := hsh i h1 hoi
    exact ⟨x, h2, setT_sub h3⟩
  · rw [h1]; exact ⟨_, hm, setT_mem hop⟩
theorem c2_fail (hs : Same s st) (G : PGood st cls) (hD : ∀ x, x ∈ st.trail → D cl fr x) (hon : ∀ i, i < s.n → s.on i = true → cls i ∈ cl)
    (hk : k < s.short.length) (ho : s.on (s.short.getD k 0) = true) (h0 : st.row (s.short.getD k 0) ≠ []) (hop : opp ((st.row (s.short.getD k 0)).getD 0 0) ∈ st.trail) (hM : Mem wr B bp lv va first nv st F) (hb : Below B w wr) :
    ClashP B bp lv first nv s cls cl fr w (.returned (.bool true)) wr := by
  have hmem : s.short.getD k 0 ∈ s.short := get_mem hk
  obtain ⟨hd, hm⟩ := D_short (fr := fr) hs G hon hmem ho h0
  have hlt : s.short.getD k 0 < st.n := ((G.sh _).1 (by rw [hs.short]; exact hmem)).1
  exact ⟨st, va, F, hM, hb, hs, G, .inl ⟨rfl, clashD ((G.ro _ hlt).rng hm).1 hd (hD _ hop)⟩⟩
theorem c2_empty (hs : Same s st) (G : PGood st cls) (hon : ∀ i, i < s.n → s.on i = true → cls i ∈ cl)
    (hk : k < s.short.length) (ho : s.on (s.short.getD k 0) = true) (h0 : st.row (s.short.getD k 0) = []) (hM : Mem wr B bp lv va first nv st F) (hb : Below B w wr) :
    ClashP B bp lv first nv s cls cl fr w (.returned (.bool true)) wr := by
  have hmem : s.short.getD k 0 ∈ s.short := get_mem hk
  have hlt : s.short.getD k 0 < st.n := ((G.sh _).1 (by rw [hs.short]; exact hmem)).1
  refine ⟨st, va, F, hM, hb, hs, G, .inl ⟨rfl, .inr ⟨_, hon _ (by rw [← hs.n]; exact hlt) ho, fun l hl hlit => ?_⟩⟩⟩
  have := ((G.ro _ hlt) (code l)).2 ⟨l, hl, hlit, rfl⟩
  rw [h0] at this; simp at this
theorem c3_of {vS : Value} (h : C2 vS B bp lv first nv s cls cl fr w s.short.length wr) : C3 B bp lv first nv s cls cl fr w 0 wr := by
  obtain ⟨st, va, F, hM, hb, hs, G, hD, hf, hsh, _⟩ := h
  refine ⟨st, va, F, hM, hb, hs, G, hD, hf, fun i hi => hsh i (by rw [List.take_length]; exact hi), fun i hi _ _ _ => .inr fun j _ => by simp, Nat.zero_le _⟩
theorem c3_past (hM : Mem wr B bp lv va first nv st F) (hb : Below B w wr) (hs : Same s st) (G : PGood st cls) (hD : ∀ x, x ∈ st.trail → D cl fr x) (hf : ∀ l, l ∈ fr → lit l → code l ∈ st.trail) (hsh : ∀ i, i ∈ s.short → s.on i = true → ∃ x, x ∈ st.row i ∧ x ∈ st.trail) (hP : PI st.n st.row st.on st.trail k) (hk1 : k < st.trail.length) (hk2 : s.m ≤ opp (st.trail.getD k 0)) : C3 B bp lv first nv s cls cl fr w (k + 1) wr := by
  refine ⟨st, va, F, hM, hb, hs, G, hD, hf, hsh, fun i hi ho hl ht => ?_, hk1⟩
  rcases hP i hi ho hl ht with h1 | h1
  · exact .inl h1
  · refine .inr fun j hj => ?_
    rw [List.take_succ_eq_append_getElem hk1, List.mem_append]
    rintro (h2 | h2)
    · exact h1 j hj h2
    · simp only [List.mem_singleton] at h2
      have e : st.trail.getD k 0 = opp ((st.row i).getD j 0) := by rw [List.getD_eq_getElem?_getD, List.getElem?_eq_getElem hk1, h2]; rfl
      rw [e, opp_opp] at hk2
      obtain ⟨l, hl', hlit, hc⟩ := (G.ro i hi _).1 (get_mem (r := st.row i) (i := j) (by omega))
      have := G.hm i hi l hl' hlit
      rw [hs.m] at this
      omega
theorem c3_next {st' : PS} {va' : Value} {F' : Ix → Ent} (hb : Below B w wr) (hs : Same s st) (hf : ∀ l, l ∈ fr → lit l → code l ∈ st.trail) (hsh : ∀ i, i ∈ s.short → s.on i = true → ∃ x, x ∈ st.row i ∧ x ∈ st.trail) (G : PGood st cls) (hM : Mem w1 B bp lv va' first nv st' F') (hb1 : Below B wr w1) (hs1 : Same st st') (G1 : PGood st' cls) (ht : ∀ x, x ∈ st.trail → x ∈ st'.trail) (hP : PI st'.n st'.row st'.on st'.trail (k + 1)) (hD : ∀ x, x ∈ st'.trail → D cl fr x) (hk : k + 1 ≤ st'.trail.length) : C3 B bp lv first nv s cls cl fr w (k + 1) w1 := by
  refine ⟨st', va', F', hM, hb.trans hb1, hs.trans hs1, G1, hD, fun l hl hlit => ht _ (hf l hl hlit), fun i hi ho => ?_, hP, hk⟩
  obtain ⟨x, h1, h2⟩ := hsh i hi ho
  have hlt : i < st.n := ((G.sh i).1 (by rw [hs.short]; exact hi)).1
  exact ⟨x, ((G1.ro i (by rw [hs1.n]; exact hlt)) x).2 (((G.ro i hlt) x).1 h1), ht x h2⟩
theorem c3_end (hM : Mem wr B bp lv va first nv st F) (hb : Below B w wr) (hs : Same s st) (G : PGood st cls) (hD : ∀ x, x ∈ st.trail → D cl fr x) (hf : ∀ l, l ∈ fr → lit l → code l ∈ st.trail) (hsh : ∀ i, i ∈ s.short → s.on i = true → ∃ x, x ∈ st.row i ∧ x ∈ st.trail) (hP : PI st.n st.row st.on st.trail k) (hkl : k ≤ st.trail.length) (hcl : ∀ c, c ∈ cl → ∃ i, i < s.n ∧ s.on i = true ∧ cls i = c) (hk' : st.trail.length ≤ k) :
    ClashP B bp lv first nv s cls cl fr w (.returned (.bool false)) wr := by
  obtain rfl : k = st.trail.length := by omega
  refine ⟨st, va, F, hM, hb, hs, G, .inr ⟨rfl, closed (n := st.n) (on := st.on) (cls := cls) (row := st.row) G.ti G.ro G.si.rd ?_ hf ?_ hP⟩⟩
  · intro c hc
    rw [hs.n, hs.on]; exact hcl c hc
  · intro i hi ho hl
    refine hsh i ?_ (by rw [← hs.on]; exact ho)
    rw [← hs.short]; exact (G.sh i).2 ⟨hi, hl⟩
end
end Go.Proofs.Ytojjjndhabjhdaa.proofF
