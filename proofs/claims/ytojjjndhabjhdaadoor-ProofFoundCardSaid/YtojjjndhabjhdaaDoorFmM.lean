/-
  Contract of (*prover).follow at a code that nothing watches; at any code.
  Contract of (*prover).clash.
  Contract of (*prover).clash: the walk.
  Contract of (*prover).plain.
-/
import Derived.Test.YtojjjndhabjhdaaDoorFlM
import Derived.Test.YtojjjndhabjhdaaDoorFdM
namespace Go.Proofs.YtojjjndhabjhdaaDoor.proofE
set_option linter.unusedSimpArgs false
set_option linter.unusedVariables false
open Go.ChangeShapes Go.WideShapes Go.ChangeAt Go.RowKit proofP proofQ owns proofA proofB proofC proofD

set_option maxHeartbeats 1000000 in
set_option maxRecDepth 100000 in
theorem follow_none (B bp : Nat) (lv va : Value) (first nv : Nat) (s : PS) (F : Ix → Ent) (w : World) (cls : Nat → List Int) (cl : List (List Int)) (fr : List Int) (head lost : Nat) (h : Mem w B bp lv va first nv s F) (G : PGood s cls) (hlm : lost < s.m) (hN0 : s.W lost = [])
    (hh : head < s.trail.length) (hd : s.trail.getD head 0 = opp lost) (hP : PI s.n s.row s.on s.trail head) (hD : ∀ x, x ∈ s.trail → D cl fr x) (hon : ∀ i, i < s.n → s.on i = true → cls i ∈ cl) :
    Calls Tryd.prog 91 #[.pointer (some ⟨bp, 0, none⟩), .int .i64 lost] w (FollowP B bp lv first nv s cls cl fr head w) := by
  have hFI := start_FI (lost := lost) G hh hd hP hD hon
  rw [hN0] at hFI
  have hx0 : (F (.watch lost)).xs.length = 0 := by rw [h.watch, hN0]; rfl
  obtain ⟨gW, capW, hWv, hW1, hW2, hW3, hW4, hW5⟩ := h.watchesAt (by omega)
  have f6 := h.field.2.2.2.2.2.1
  rw [hWv] at f6
  have wl := hW1 lost hlm
  have zl := hW5 lost
  have hown := h.own.1 (.watch lost)
  rw [hx0] at hown
  have hP0 : ∀ w', Mem w' B bp lv va first nv s F → Below B w w' → FollowP B bp lv first nv s cls cl fr head w (.returned (.bool true)) w' := fun w' hM hb =>
    ⟨s, va, F, hM, hb, Same.refl s, G, fun x hx => hx, .inl ⟨rfl, hFI.done, hD, hh⟩⟩
  have hset : ∀ v, (F (.watch lost)).v = v → Mem (w.setCell ⟨gW, lost, none⟩ v) B bp lv va first nv s F := by
    intro v hv
    obtain ⟨O1, G1⟩ := h.own.set hWv lost v
    refine ⟨O1.alike fun k => ?_, h.obj.kept G1 (by intro e; cases e; exact hW2 rfl), h.hx, h.ne, h.te, h.on, h.short, h.rows, h.watches, h.value, h.trail, h.row, h.watch⟩
    by_cases e : k = .watches
    · subst e
      rw [upd_same]
      have : (F .watches).xs.set lost v = (F .watches).xs := by
        apply List.ext_getElem?
        intro j
        rw [List.getElem?_set]
        by_cases e : lost = j
        · subst e
          rw [if_pos rfl, h.watches]
          simp [hlm, hv]
        · rw [if_neg e]
      rw [this]
    · rw [upd_other _ _ e]
  have HP0 := Lib.hid hP0
  have HSET := Lib.hid hset
  have hvc : (∃ g cap, (F (.watch lost)).v = .slice (some ⟨g, 0, none⟩) 0 cap) ∨ (F (.watch lost)).v = .slice none 0 0 := by
    rcases hown.2 with ⟨hv, _⟩ | ⟨g, cap, cur, hv, _⟩
    · exact .inr hv
    · exact .inl ⟨g, cap, hv⟩
  clear h G hFI hx0 hWv hW1 hW2 hW5 hh hd hP hD hon hN0 hown hP0 hset
  rcases hvc with ⟨g, cap, hvv⟩ | hvv
  · rw [hvv] at wl
    have HS1 := Lib.hid (HSET.out _ hvv)
    clear HSET hvv
    go_enter Tryd.func91, Tryd.ntmps91
    go_wp2
    go_loop [6, 21] (fun kv it => it = .int .i64 0 ∧ kv = .slice (some ⟨g, 0, none⟩) 0 cap) (fun _ _ => 0)
    case atStart => exact ⟨rfl, rfl⟩
    case round =>
      obtain ⟨rfl, rfl⟩ := hrel
      go_wp2
      go_ret
      exact HP0.out _ HS1.out ((Below.refl _ _).setCell hW3 _)
  · rw [hvv] at wl
    have HS1 := Lib.hid (HSET.out _ hvv)
    clear HSET hvv
    go_enter Tryd.func91, Tryd.ntmps91
    go_wp2
    go_loop [6, 21] (fun kv it => it = .int .i64 0 ∧ kv = .slice none 0 0) (fun _ _ => 0)
    case atStart => exact ⟨rfl, rfl⟩
    case round =>
      obtain ⟨rfl, rfl⟩ := hrel
      go_wp2
      go_ret
      exact HP0.out _ HS1.out ((Below.refl _ _).setCell hW3 _)

theorem follow_any (B bp : Nat) (lv va : Value) (first nv : Nat) (s : PS) (F : Ix → Ent) (w : World) (cls : Nat → List Int) (cl : List (List Int)) (fr : List Int) (head lost : Nat) (h : Mem w B bp lv va first nv s F) (G : PGood s cls) (hnv : Hid (nv = 40002)) (hlm : lost < s.m)
    (hh : head < s.trail.length) (hd : s.trail.getD head 0 = opp lost) (hP : PI s.n s.row s.on s.trail head) (hD : ∀ x, x ∈ s.trail → D cl fr x) (hon : ∀ i, i < s.n → s.on i = true → cls i ∈ cl) :
    Calls Tryd.prog 91 #[.pointer (some ⟨bp, 0, none⟩), .int .i64 lost] w (FollowP B bp lv first nv s cls cl fr head w) := by
  by_cases h0 : s.W lost = []
  · exact follow_none B bp lv va first nv s F w cls cl fr head lost h G hlm h0 hh hd hP hD hon
  · exact follow_some B bp lv va first nv s F w cls cl fr head lost h G hnv hlm (List.length_pos_iff.2 h0) hh hd hP hD hon
end Go.Proofs.YtojjjndhabjhdaaDoor.proofE
namespace Go.Proofs.YtojjjndhabjhdaaDoor.proofF
set_option linter.unusedSimpArgs false
set_option linter.unusedVariables false
open Go.ChangeShapes Go.WideShapes Go.ChangeAt Go.RowKit proofP proofQ owns proofA proofB proofC proofD proofE cls

theorem setT_mem {trail : List Nat} {x : Nat} (h : opp x ∉ trail) : x ∈ setT trail x := by
  unfold setT
  split
  · rename_i hh; exact hh.resolve_right h
  · simp
theorem setT_sub {trail : List Nat} {x y : Nat} (h : y ∈ trail) : y ∈ setT trail x := by
  unfold setT
  split
  · exact h
  · simp [h]
theorem setT_TI {trail : List Nat} {x : Nat} (T : TI trail) (hx : 2 ≤ x ∧ x < 40002) : TI (setT trail x) := by
  unfold setT
  split
  · exact T
  · rename_i hh; exact T.snoc hx (fun h => hh (.inl h)) (fun h => hh (.inr h))
theorem setT_D {cl : List (List Int)} {fr : List Int} {trail : List Nat} {x : Nat} (h : ∀ y, y ∈ trail → D cl fr y) (hx : D cl fr x) : ∀ y, y ∈ setT trail x → D cl fr y := by
  intro y hy
  unfold setT at hy
  split at hy
  · exact h y hy
  · rcases List.mem_append.1 hy with hy | hy
    · exact h y hy
    · simp at hy; rw [hy]; exact hx

def SetP (B bp : Nat) (lv : Value) (first nv : Nat) (s : PS) (F : Ix → Ent) (x : Nat) (w : World) (e : Ending) (w' : World) : Prop :=
  (opp x ∈ s.trail ∧ e = .returned (.bool false) ∧ w = w') ∨ (opp x ∉ s.trail ∧ e = .returned (.bool true) ∧ Below B w w' ∧ ∃ va F', Mem w' B bp lv va first nv { s with trail := setT s.trail x } F' ∧ ∀ k, k ≠ .trail → (F' k).v = (F k).v)
theorem set_any (B bp : Nat) (lv va : Value) (first nv : Nat) (s : PS) (F : Ix → Ent) (w : World) (h : Mem w B bp lv va first nv s F) (T : TI s.trail) (hnv : nv = 40002) (x : Nat) (hx : 2 ≤ x ∧ x < 40002) :
    Calls Tryd.prog 90 #[.pointer (some ⟨bp, 0, none⟩), .int .i64 x] w (SetP B bp lv first nv s F x w) := by
  by_cases ho : opp x ∈ s.trail
  · refine (set_known B bp lv va first nv s F w h x (by omega) false (-1) (val_lo T ho) (.inr ⟨rfl, rfl⟩)).mono ?_
    rintro e w' ⟨rfl, rfl⟩
    exact .inl ⟨ho, rfl, rfl⟩
  · by_cases hi : x ∈ s.trail
    · refine (set_known B bp lv va first nv s F w h x (by omega) true 1 (val_pos hi) (.inl ⟨rfl, rfl⟩)).mono ?_
      rintro e w' ⟨rfl, rfl⟩
      refine .inr ⟨ho, rfl, Below.refl _ _, va, F, ?_, fun _ _ => rfl⟩
      have : setT s.trail x = s.trail := by unfold setT; rw [if_pos (.inl hi)]
      rw [this]; exact h
    · refine (set_open B bp lv va first nv s F w h x (by omega) (by have := opp_rng x hx.1 hx.2; omega) (by omega) (by have := T.len; omega) hi ho).mono ?_
      rintro e w' ⟨rfl, hb, va', F', hM, hF'⟩
      refine .inr ⟨ho, rfl, hb, va', F', ?_, hF'⟩
      have : setT s.trail x = s.trail ++ [x] := by unfold setT; rw [if_neg (by simp [hi, ho])]
      rw [this]; exact hM

def ClashP (B bp : Nat) (lv : Value) (first nv : Nat) (s : PS) (cls : Nat → List Int) (cl : List (List Int)) (fr : List Int) (w : World) (e : Ending) (w' : World) : Prop :=
  ∃ s' va F', Mem w' B bp lv va first nv s' F' ∧ Below B w w' ∧ Same s s' ∧ PGood s' cls ∧ ((e = .returned (.bool true) ∧ Clash cl fr) ∨ (e = .returned (.bool false) ∧ ¬ Clash cl fr))

/-- while opposites are set -/
def C1 (B bp : Nat) (lv : Value) (first nv : Nat) (s : PS) (cls : Nat → List Int) (cl : List (List Int)) (fr : List Int) (w : World) (k : Nat) (wr : World) : Prop :=
  ∃ st va F, Mem wr B bp lv va first nv st F ∧ Below B w wr ∧ Same s st ∧ PGood st cls ∧ (∀ x, x ∈ st.trail → D cl fr x) ∧ ∀ l, l ∈ fr.take k → lit l → code l ∈ st.trail
/-- while short clauses are set -/
def C2 (vS : Value) (B bp : Nat) (lv : Value) (first nv : Nat) (s : PS) (cls : Nat → List Int) (cl : List (List Int)) (fr : List Int) (w : World) (k : Nat) (wr : World) : Prop :=
  ∃ st va F, Mem wr B bp lv va first nv st F ∧ Below B w wr ∧ Same s st ∧ PGood st cls ∧ (∀ x, x ∈ st.trail → D cl fr x) ∧ (∀ l, l ∈ fr → lit l → code l ∈ st.trail) ∧
    (∀ i, i ∈ s.short.take k → s.on i = true → ∃ x, x ∈ st.row i ∧ x ∈ st.trail) ∧ (F .short).v = vS
/-- while the trail is followed -/
def C3 (B bp : Nat) (lv : Value) (first nv : Nat) (s : PS) (cls : Nat → List Int) (cl : List (List Int)) (fr : List Int) (w : World) (k : Nat) (wr : World) : Prop :=
  ∃ st va F, Mem wr B bp lv va first nv st F ∧ Below B w wr ∧ Same s st ∧ PGood st cls ∧ (∀ x, x ∈ st.trail → D cl fr x) ∧ (∀ l, l ∈ fr → lit l → code l ∈ st.trail) ∧
    (∀ i, i ∈ s.short → s.on i = true → ∃ x, x ∈ st.row i ∧ x ∈ st.trail) ∧ PI st.n st.row st.on st.trail k ∧ k ≤ st.trail.length

theorem good_set {st : PS} {cls : Nat → List Int} (G : PGood st cls) {x : Nat} (hx : 2 ≤ x ∧ x < 40002) : PGood { st with trail := setT st.trail x } cls := ⟨G.si, G.ro, setT_TI G.ti hx, G.hm, G.sh, G.hn⟩
theorem same_set {s st : PS} (h : Same s st) (t : List Nat) : Same s { st with trail := t } := ⟨h.n, h.m, h.on, h.short, h.len, h.ex⟩

section
variable {w wr w1 : World} {B bp : Nat} {lv va : Value} {first nv : Nat} {s st : PS} {F : Ix → Ent} {cls : Nat → List Int} {cl : List (List Int)} {fr : List Int} {k x i : Nat}
theorem take_snoc' {α : Type} {l : List α} {k : Nat} {d : α} (h : k < l.length) {y : α} (hy : y ∈ l.take (k + 1)) : y ∈ l.take k ∨ y = l.getD k d := by
  rw [List.take_succ_eq_append_getElem h, List.mem_append] at hy
  rcases hy with hy | hy
  · exact .inl hy
  · right; simp only [List.mem_singleton] at hy; rw [hy, List.getD_eq_getElem?_getD, List.getElem?_eq_getElem h]; rfl
theorem c1_skip (h : C1 B bp lv first nv s cls cl fr w k wr) (hk : k < fr.length) (hl : ¬ lit (fr.getD k 0)) : C1 B bp lv first nv s cls cl fr w (k + 1) wr := by
  obtain ⟨st, va, F, hM, hb, hs, G, hD, hf⟩ := h
  refine ⟨st, va, F, hM, hb, hs, G, hD, fun l hm hlit => ?_⟩
  rcases take_snoc' (d := 0) hk hm with h1 | h1
  · exact hf l h1 hlit
  · rw [h1] at hlit; exact absurd hlit hl
theorem D_start (hk : k < fr.length) (hl : lit (fr.getD k 0)) : D cl fr (code (fr.getD k 0)) := by
  unfold D
  rw [litOf_code _ hl]
  refine .start ?_ hl
  rw [List.getD_eq_getElem?_getD, List.getElem?_eq_getElem hk]
  exact List.getElem_mem hk
theorem c1_set (hs : Same s st) (G : PGood st cls) (hD : ∀ x, x ∈ st.trail → D cl fr x) (hf : ∀ l, l ∈ fr.take k → lit l → code l ∈ st.trail) (hk : k < fr.length) (hl : lit (fr.getD k 0)) (ho : opp (code (fr.getD k 0)) ∉ st.trail)
    (hM : Mem wr B bp lv va first nv { st with trail := setT st.trail (code (fr.getD k 0)) } F) (hb : Below B w wr) : C1 B bp lv first nv s cls cl fr w (k + 1) wr := by
  refine ⟨_, va, F, hM, hb, same_set hs _, good_set G (code_rng _ hl), setT_D hD (D_start hk hl), fun l hm hlit => ?_⟩
  rcases take_snoc' (d := 0) hk hm with h1 | h1
  · exact setT_sub (hf l h1 hlit)
  · rw [h1]; exact setT_mem ho
theorem c1_fail (hs : Same s st) (G : PGood st cls) (hD : ∀ x, x ∈ st.trail → D cl fr x) (hk : k < fr.length) (hl : lit (fr.getD k 0)) (ho : opp (code (fr.getD k 0)) ∈ st.trail) (hM : Mem wr B bp lv va first nv st F) (hb : Below B w wr) :
    ClashP B bp lv first nv s cls cl fr w (.returned (.bool true)) wr :=
  ⟨st, va, F, hM, hb, hs, G, .inl ⟨rfl, clashD (code_rng _ hl).1 (D_start hk hl) (hD _ ho)⟩⟩
theorem c2_of {vS : Value} (hM : Mem wr B bp lv va first nv st F) (hb : Below B w wr) (hs : Same s st) (G : PGood st cls) (hD : ∀ x, x ∈ st.trail → D cl fr x) (hf : ∀ l, l ∈ fr.take fr.length → lit l → code l ∈ st.trail) (hv : (F .short).v = vS) : C2 vS B bp lv first nv s cls cl fr w 0 wr :=
  ⟨st, va, F, hM, hb, hs, G, hD, fun l hm => hf l (by rw [List.take_length]; exact hm), fun i hi => by simp at hi, hv⟩
theorem c2_skip {vS : Value} (h : C2 vS B bp lv first nv s cls cl fr w k wr) (hk : k < s.short.length) (hoff : s.on (s.short.getD k 0) = false) : C2 vS B bp lv first nv s cls cl fr w (k + 1) wr := by
  obtain ⟨st, va, F, hM, hb, hs, G, hD, hf, hsh, hv⟩ := h
  refine ⟨st, va, F, hM, hb, hs, G, hD, hf, fun i hi hon => ?_, hv⟩
  rcases take_snoc' (d := 0) hk hi with h1 | h1
  · exact hsh i h1 hon
  · rw [h1, hoff] at hon; cases hon
theorem one_of {r : List Nat} (h : r.length < 2) (h0 : r ≠ []) : r = [r.getD 0 0] := by
  match r, h0 with
  | [a], _ => rfl
theorem D_short (hs : Same s st) (G : PGood st cls) (hon : ∀ i, i < s.n → s.on i = true → cls i ∈ cl) (hi : i ∈ s.short) (ho : s.on i = true) (h0 : st.row i ≠ []) : D cl fr ((st.row i).getD 0 0) ∧ (st.row i).getD 0 0 ∈ st.row i := by
  have hsh := (G.sh i).1 (by rw [hs.short]; exact hi)
  have h1 := one_of hsh.2 h0
  have hm : (st.row i).getD 0 0 ∈ st.row i := get_mem (by have := List.length_pos_iff.2 h0; omega)
  refine ⟨unitD (G.ro i hsh.1) (hon i (by rw [← hs.n]; exact hsh.1) ho) hm fun y hy hne => ?_, hm⟩
  rw [h1] at hy
  simp at hy
  exact absurd hy (by simpa using hne)
theorem c2_set {vS : Value} (hs : Same s st) (G : PGood st cls) (hD : ∀ x, x ∈ st.trail → D cl fr x) (hf : ∀ l, l ∈ fr → lit l → code l ∈ st.trail) (hsh : ∀ i, i ∈ s.short.take k → s.on i = true → ∃ x, x ∈ st.row i ∧ x ∈ st.trail) (hon : ∀ i, i < s.n → s.on i = true → cls i ∈ cl)
    (hk : k < s.short.length) (ho : s.on (s.short.getD k 0) = true) (h0 : st.row (s.short.getD k 0) ≠ []) (hop : opp ((st.row (s.short.getD k 0)).getD 0 0) ∉ st.trail)
    (hM : Mem wr B bp lv va first nv { st with trail := setT st.trail ((st.row (s.short.getD k 0)).getD 0 0) } F) (hv : (F .short).v = vS) (hb : Below B w wr) : C2 vS B bp lv first nv s cls cl fr w (k + 1) wr := by
  have hmem : s.short.getD k 0 ∈ s.short := get_mem hk
  obtain ⟨hd, hm⟩ := D_short (fr := fr) hs G hon hmem ho h0
  have hlt : s.short.getD k 0 < st.n := ((G.sh _).1 (by rw [hs.short]; exact hmem)).1
  refine ⟨_, va, F, hM, hb, same_set hs _, good_set G ((G.ro _ hlt).rng hm), setT_D hD hd, fun l hl hlit => setT_sub (hf l hl hlit), fun i hi hoi => ?_, hv⟩
  rcases take_snoc' (d := 0) hk hi with h1 | h1
  · obtain ⟨x, h2, h3⟩ := hsh i h1 hoi
    exact ⟨x, h2, setT_sub h3⟩
  · rw [h1]; exact ⟨_, hm, setT_mem hop⟩
theorem c2_fail (hs : Same s st) (G : PGood st cls) (hD : ∀ x, x ∈ st.trail → D cl fr x) (hon : ∀ i, i < s.n → s.on i = true → cls i ∈ cl)
    (hk : k < s.short.length) (ho : s.on (s.short.getD k 0) = true) (h0 : st.row (s.short.getD k 0) ≠ []) (hop : opp ((st.row (s.short.getD k 0)).getD 0 0) ∈ st.trail) (hM : Mem wr B bp lv va first nv st F) (hb : Below B w wr) :
    ClashP B bp lv first nv s cls cl fr w (.returned (.bool true)) wr := by
  have hmem : s.short.getD k 0 ∈ s.short := get_mem hk
  obtain ⟨hd, hm⟩ := D_short (fr := fr) hs G hon hmem ho h0
  have hlt : s.short.getD k 0 < st.n := ((G.sh _).1 (by rw [hs.short]; exact hmem)).1
  exact ⟨st, va, F, hM, hb, hs, G, .inl ⟨rfl, clashD ((G.ro _ hlt).rng hm).1 hd (hD _ hop)⟩⟩
theorem c2_empty (hs : Same s st) (G : PGood st cls) (hon : ∀ i, i < s.n → s.on i = true → cls i ∈ cl)
    (hk : k < s.short.length) (ho : s.on (s.short.getD k 0) = true) (h0 : st.row (s.short.getD k 0) = []) (hM : Mem wr B bp lv va first nv st F) (hb : Below B w wr) :
    ClashP B bp lv first nv s cls cl fr w (.returned (.bool true)) wr := by
  have hmem : s.short.getD k 0 ∈ s.short := get_mem hk
  have hlt : s.short.getD k 0 < st.n := ((G.sh _).1 (by rw [hs.short]; exact hmem)).1
  refine ⟨st, va, F, hM, hb, hs, G, .inl ⟨rfl, .inr ⟨_, hon _ (by rw [← hs.n]; exact hlt) ho, fun l hl hlit => ?_⟩⟩⟩
  have := ((G.ro _ hlt) (code l)).2 ⟨l, hl, hlit, rfl⟩
  rw [h0] at this; simp at this
theorem c3_of {vS : Value} (h : C2 vS B bp lv first nv s cls cl fr w s.short.length wr) : C3 B bp lv first nv s cls cl fr w 0 wr := by
  obtain ⟨st, va, F, hM, hb, hs, G, hD, hf, hsh, _⟩ := h
  refine ⟨st, va, F, hM, hb, hs, G, hD, hf, fun i hi => hsh i (by rw [List.take_length]; exact hi), fun i hi _ _ _ => .inr fun j _ => by simp, Nat.zero_le _⟩
theorem c3_past (hM : Mem wr B bp lv va first nv st F) (hb : Below B w wr) (hs : Same s st) (G : PGood st cls) (hD : ∀ x, x ∈ st.trail → D cl fr x) (hf : ∀ l, l ∈ fr → lit l → code l ∈ st.trail) (hsh : ∀ i, i ∈ s.short → s.on i = true → ∃ x, x ∈ st.row i ∧ x ∈ st.trail) (hP : PI st.n st.row st.on st.trail k) (hk1 : k < st.trail.length) (hk2 : s.m ≤ opp (st.trail.getD k 0)) : C3 B bp lv first nv s cls cl fr w (k + 1) wr := by
  refine ⟨st, va, F, hM, hb, hs, G, hD, hf, hsh, fun i hi ho hl ht => ?_, hk1⟩
  rcases hP i hi ho hl ht with h1 | h1
  · exact .inl h1
  · refine .inr fun j hj => ?_
    rw [List.take_succ_eq_append_getElem hk1, List.mem_append]
    rintro (h2 | h2)
    · exact h1 j hj h2
    · simp only [List.mem_singleton] at h2
      have e : st.trail.getD k 0 = opp ((st.row i).getD j 0) := by rw [List.getD_eq_getElem?_getD, List.getElem?_eq_getElem hk1, h2]; rfl
      rw [e, opp_opp] at hk2
      obtain ⟨l, hl', hlit, hc⟩ := (G.ro i hi _).1 (get_mem (r := st.row i) (i := j) (by omega))
      have := G.hm i hi l hl' hlit
      rw [hs.m] at this
      omega
theorem c3_next {st' : PS} {va' : Value} {F' : Ix → Ent} (hb : Below B w wr) (hs : Same s st) (hf : ∀ l, l ∈ fr → lit l → code l ∈ st.trail) (hsh : ∀ i, i ∈ s.short → s.on i = true → ∃ x, x ∈ st.row i ∧ x ∈ st.trail) (G : PGood st cls) (hM : Mem w1 B bp lv va' first nv st' F') (hb1 : Below B wr w1) (hs1 : Same st st') (G1 : PGood st' cls) (ht : ∀ x, x ∈ st.trail → x ∈ st'.trail) (hP : PI st'.n st'.row st'.on st'.trail (k + 1)) (hD : ∀ x, x ∈ st'.trail → D cl fr x) (hk : k + 1 ≤ st'.trail.length) : C3 B bp lv first nv s cls cl fr w (k + 1) w1 := by
  refine ⟨st', va', F', hM, hb.trans hb1, hs.trans hs1, G1, hD, fun l hl hlit => ht _ (hf l hl hlit), fun i hi ho => ?_, hP, hk⟩
  obtain ⟨x, h1, h2⟩ := hsh i hi ho
  have hlt : i < st.n := ((G.sh i).1 (by rw [hs.short]; exact hi)).1
  exact ⟨x, ((G1.ro i (by rw [hs1.n]; exact hlt)) x).2 (((G.ro i hlt) x).1 h1), ht x h2⟩
theorem c3_end (hM : Mem wr B bp lv va first nv st F) (hb : Below B w wr) (hs : Same s st) (G : PGood st cls) (hD : ∀ x, x ∈ st.trail → D cl fr x) (hf : ∀ l, l ∈ fr → lit l → code l ∈ st.trail) (hsh : ∀ i, i ∈ s.short → s.on i = true → ∃ x, x ∈ st.row i ∧ x ∈ st.trail) (hP : PI st.n st.row st.on st.trail k) (hkl : k ≤ st.trail.length) (hcl : ∀ c, c ∈ cl → ∃ i, i < s.n ∧ s.on i = true ∧ cls i = c) (hk' : st.trail.length ≤ k) :
    ClashP B bp lv first nv s cls cl fr w (.returned (.bool false)) wr := by
  obtain rfl : k = st.trail.length := by omega
  refine ⟨st, va, F, hM, hb, hs, G, .inr ⟨rfl, closed (n := st.n) (on := st.on) (cls := cls) (row := st.row) G.ti G.ro G.si.rd ?_ hf ?_ hP⟩⟩
  · intro c hc
    rw [hs.n, hs.on]; exact hcl c hc
  · intro i hi ho hl
    refine hsh i ?_ (by rw [← hs.on]; exact ho)
    rw [← hs.short]; exact (G.sh i).2 ⟨hi, hl⟩
end
end Go.Proofs.YtojjjndhabjhdaaDoor.proofF
namespace Go.Proofs.YtojjjndhabjhdaaDoor.proofG
set_option linter.unusedSimpArgs false
set_option linter.unusedVariables false
open Go.ChangeShapes Go.WideShapes Go.ChangeAt Go.RowKit proofP proofQ owns proofA proofB proofC proofD proofE proofF cls

theorem c1_start {w : World} {B bp : Nat} {lv va : Value} {first nv : Nat} {s : PS} {F : Ix → Ent} {cls : Nat → List Int} {cl : List (List Int)} {fr : List Int} (hM : Mem w B bp lv va first nv s F) (G : PGood s cls) (ht : s.trail = []) : C1 B bp lv first nv s cls cl fr w 0 w :=
  ⟨s, va, F, hM, Below.refl _ _, Same.refl s, G, by rw [ht]; simp, by simp⟩

/-- integers that lie below a block, or are the row beside the prover's -/
def IntsEx (w : World) (B : Nat) (x : Ent) (v : Value) (l : List Int) : Prop :=
  ∃ ao cap b off, v = .slice ao l.length cap ∧ l.length ≤ maxLen ∧ (l ≠ [] → ao = some ⟨b, off, none⟩ ∧ (b < B ∨ (off = 0 ∧ x.v = .slice (some ⟨b, 0, none⟩) l.length cap ∧ x.xs = l.map (Value.int .i64)))) ∧ (∀ i, i < l.length → w.cell? ⟨b, off + i, none⟩ = some (.int .i64 (l.getD i 0))) ∧ ∀ x ∈ l, In64 x
theorem _root_.Go.Proofs.YtojjjndhabjhdaaDoor.cls.IntsAt.ex {w : World} {B : Nat} {v : Value} {l : List Int} (h : IntsAt w B v l) (x : Ent) : IntsEx w B x v l := by
  obtain ⟨ao, cap, b, off, rfl, hm, ha, hc, hs⟩ := h
  exact ⟨ao, cap, b, off, rfl, hm, fun h => ⟨(ha h).1, .inl (ha h).2⟩, hc, hs⟩
theorem ex_read {w wr : World} {B bp b off cap : Nat} {lv va : Value} {first nv : Nat} {s : PS} {F : Ix → Ent} {x : Ent} {c : List Int} {k : Nat} (hM : Mem wr B bp lv va first nv s F) (hb : Below B w wr) (hx : s.extra = x) (h : b < B ∨ (off = 0 ∧ x.v = .slice (some ⟨b, 0, none⟩) c.length cap ∧ x.xs = c.map (Value.int .i64))) (hc : w.cell? ⟨b, off + k, none⟩ = some (.int .i64 (c.getD k 0))) (hk : k < c.length) :
    wr.cell? ⟨b, off + k, none⟩ = some (.int .i64 (c.getD k 0)) := by
  rcases h with h | ⟨rfl, h1, h2⟩
  · rw [hb.cell (show (⟨b, off + k, none⟩ : Addr).block < B from h)]; exact hc
  · have e := hM.hx.2.trans hx
    rw [Nat.zero_add, hM.own.cell (k := .extra) (by rw [e]; exact h1) k (by rw [e, h2, List.length_map]; exact hk), e, h2, List.getElem?_map, List.getElem?_eq_getElem hk, List.getD_eq_getElem?_getD, List.getElem?_eq_getElem hk]; rfl

theorem neg_get {c : List Int} {k : Nat} (h : k < c.length) : (c.map fun l => -l).getD k 0 = -(c.getD k 0) := by
  rw [List.getD_eq_getElem?_getD, List.getD_eq_getElem?_getD, List.getElem?_map, List.getElem?_eq_getElem h]; rfl

set_option maxHeartbeats 4000000 in
set_option maxRecDepth 100000 in
theorem clash_any (B bp : Nat) (lv va : Value) (first nv : Nat) (s : PS) (F : Ix → Ent) (w : World) (cls : Nat → List Int) (cl : List (List Int)) (cv : Value) (c : List Int) (h : Mem w B bp lv va first nv s F) (G : PGood s cls) (hnv : Hid (nv = 40002)) (hc : IntsEx w B s.extra cv c) (hcl : c.length ≤ 100000)
    (htr : s.trail = []) (hon : ∀ i, i < s.n → s.on i = true → cls i ∈ cl) (hcl' : ∀ c, c ∈ cl → ∃ i, i < s.n ∧ s.on i = true ∧ cls i = c) (hsl : s.short.length ≤ 100000) :
    Calls Tryd.prog 72 #[.pointer (some ⟨bp, 0, none⟩), cv] w (ClashP B bp lv first nv s cls cl (c.map fun l => -l) w) := by
  have H0 := Lib.hid (c1_start (cl := cl) (fr := c.map fun l => -l) h G htr)
  have HON := Lib.hid hon
  have HCL := Lib.hid hcl'
  have HFL : Hid ((c.map fun l => -l).length = c.length) := Lib.hid (by simp)
  obtain ⟨ao, cap, b, off, rfl, hm, ha, hcell, h64⟩ := hc
  have HA := Lib.hid ha
  have HC := Lib.hid hcell
  have HG := Lib.hid (fun k (hk : k < c.length) => neg_get hk)
  clear h G ha hcell h64 htr hon hcl' hm
  generalize hfr : (c.map fun l => -l) = fr at *
  clear hfr
  go_enter Tryd.func72, Tryd.ntmps72
  go_wp2
  go_loopw [13] (fun it wr => ∃ k : Nat, k ≤ c.length ∧ it = .int .i64 k ∧ C1 B bp lv first nv s cls cl fr w k wr) (fun it _ => c.length - (intOf it).toNat)
  case atStart => exact ⟨0, Nat.zero_le _, rfl, H0.out⟩
  case round =>
    obtain ⟨k, hk, rfl, hrel⟩ := hrel
    have HR := Lib.hid hrel
    obtain ⟨st, va1, F1, hM, hb, hs, G, hD, hf⟩ := hrel
    by_cases hlt : k < c.length
    · obtain ⟨rfl, hbB⟩ := HA.out (by intro h0; rw [h0] at hlt; simp at hlt)
      have q : wr.cell? ⟨b, off + k, none⟩ = some (.int .i64 (c.getD k 0)) := ex_read hM hb hs.ex hbB (HC.out k hlt) hlt
      clear hbB
      have hgk := HG.out k hlt
      generalize hl : c.getD k 0 = l at *
      clear hl
      by_cases hlit : lit l
      · have HL := Lib.hid hlit
        have HFK := Lib.hid hgk
        have b1 : -20000 ≤ l := hlit.2.1
        have b2 : l ≤ 20000 := hlit.2.2
        have HLF : Hid (lit (fr.getD k 0)) := Lib.hid (by rw [hgk]; exact lit_neg hlit)
        have HCE : Hid (code (fr.getD k 0) = code (-l)) := Lib.hid (by rw [hgk])
        have HSA := Lib.hid (set_any B bp lv va1 first nv st F1 wr hM G.ti hnv.out (code (-l)) (code_rng _ (lit_neg hlit)))
        have HMM := Lib.hid hM
        have HBB := Lib.hid hb
        have HS := Lib.hid hs
        have HGG := Lib.hid G
        have HD := Lib.hid hD
        have HF := Lib.hid hf
        clear hM hb hs G hD hf hlit hgk
        go_wp2_with (first | (go_at_call 73; refine (isLit_yes _ _ HL.out).mono ?_; rintro e w' ⟨rfl, rfl⟩) | (go_at_call 74; refine (codeOf_lit _ _ (lit_neg HL.out)).mono ?_; rintro e w' ⟨rfl, rfl⟩) | fail)
        refine HSA.out.mono ?_
        rintro e w1 (⟨ho, rfl, rfl⟩ | ⟨ho, rfl, hb1, va2, F2, hM2, _⟩)
        · have HP := Lib.hid (c1_fail HS.out HGG.out HD.out (by rw [HFL.out]; exact hlt) HLF.out (by rw [HCE.out]; exact ho) HMM.out HBB.out)
          clear ho
          go_wp2
          go_ret
          exact HP.out
        · have HNX := Lib.hid (c1_set HS.out HGG.out HD.out HF.out (by rw [HFL.out]; exact hlt) HLF.out (by rw [HCE.out]; exact ho) (by rw [HCE.out]; exact hM2) (HBB.out.trans hb1))
          clear ho hb1 hM2
          go_wp2
          go_roundw
          case rel => exact ⟨k + 1, by omega, by go_num, HNX.out⟩
          case measure => simp [intOf]; omega
      · have HL := Lib.hid hlit
        have HNX := Lib.hid (c1_skip HR.out (by rw [HFL.out]; exact hlt) (by rw [hgk]; exact fun h => hlit (lit_back h)))
        clear hM hb hs G hD hf hlit hgk
        go_wp2_with (go_at_call 73; refine (isLit_no _ _ HL.out).mono ?_; rintro e w' ⟨rfl, rfl⟩)
        go_roundw
        case rel => exact ⟨k + 1, by omega, by go_num, HNX.out⟩
        case measure => simp [intOf]; omega
    · obtain rfl : k = c.length := by omega
      have hsn : st.short.length = s.short.length := by rw [hs.short]
      have hxs : (F1 .short).xs.length = s.short.length := by rw [hM.short, List.length_map, hsn]
      obtain ⟨aS, capS, hvS⟩ := hM.own.value .short
      rw [hxs] at hvS
      have f5 := hM.field.2.2.2.2.1
      rw [hvS] at f5
      have H2 := Lib.hid (c2_of (cl := cl) hM hb hs G hD (by rw [HFL.out]; exact hf) hvS)
      clear hM hb hs G hD hf hxs hvS hsn HR H0 HA HC HG
      go_wp2
      go_loopw [33] (fun it wr => ∃ k : Nat, k ≤ s.short.length ∧ it = .int .i64 k ∧ C2 (.slice aS s.short.length capS) B bp lv first nv s cls cl fr w k wr) (fun it _ => s.short.length - (intOf it).toNat)
      case atStart => exact ⟨0, Nat.zero_le _, rfl, H2.out⟩
      case round =>
        clear f5 H2 hk hlt
        obtain ⟨k, hk, rfl, hrel⟩ := hrel
        have HR := Lib.hid hrel
        obtain ⟨st, va1, F1, hM, hb, hs, G, hD, hf, hsh, hvS⟩ := hrel
        by_cases hlt : k < s.short.length
        · have hxs : (F1 .short).xs.length = s.short.length := by rw [hM.short, List.length_map, hs.short]
          obtain ⟨gS, capS', hS, _, _, _, _⟩ := hM.own.form .short (by omega)
          rw [hxs, hvS] at hS
          obtain ⟨rfl, rfl⟩ : aS = some ⟨gS, 0, none⟩ ∧ capS = capS' := by cases hS; exact ⟨rfl, rfl⟩
          have cS := hM.own.cell hvS k (by omega)
          rw [hM.short, hs.short, getD_iv hlt] at cS
          have hmem : s.short.getD k 0 ∈ s.short := get_mem hlt
          have hin := ((G.sh _).1 (by rw [hs.short]; exact hmem))
          have hns : st.n = s.n := hs.n
          have hi : s.short.getD k 0 < s.n := by omega
          obtain ⟨gO, capO, hO, hO1⟩ := hM.onAt (by omega)
          obtain ⟨gR, capR, hR, hR1⟩ := hM.rowsAt (by omega)
          obtain ⟨f0, f1, f2, f3, f5, f6, f7, f8⟩ := hM.field
          rw [hO, hns] at f3
          rw [hR, hns] at f2
          have o1 := hO1 _ hin.1
          rw [hs.on] at o1
          have r1 := hR1 _ hin.1
          have HR1 := Lib.hid hR1
          cases ho : s.on (s.short.getD k 0)
          · rw [ho] at o1
            have HNX := Lib.hid (c2_skip HR.out hlt ho)
            generalize s.short.getD k 0 = i at *
            clear hM hb hs G hD hf hsh hvS hxs hS hmem hin hns hO hO1 hR hR1 f0 f1 f2 f5 f6 f7 f8 r1 ho HR HR1
            go_wp2
            go_roundw
            case rel => exact ⟨k + 1, by omega, by go_num, HNX.out⟩
            case measure => simp [intOf]; omega
          · rw [ho] at o1
            by_cases h0 : st.row (s.short.getD k 0) = []
            · have HP := Lib.hid (c2_empty (cl := cl) (fr := fr) hs G HON.out hlt ho h0 hM hb)
              obtain ⟨aR, capr, hvr⟩ := hM.own.value (.row (s.short.getD k 0))
              rw [hM.row, h0] at hvr
              simp only [List.map_nil, List.length_nil] at hvr
              rw [hvr] at r1
              generalize s.short.getD k 0 = i at *
              clear hM hb hs G hD hf hsh hvS hxs hS hmem hin hns hO hO1 hR hR1 f0 f1 f5 f6 f7 f8 ho h0 HR HR1 hvr
              go_wp2
              go_ret
              exact HP.out
            · have hpos : 0 < (st.row (s.short.getD k 0)).length := List.length_pos_iff.2 h0
              obtain ⟨gi, capi, hI, hI1, hI2, hI3, hI4, hI5⟩ := hM.rowAt (s.short.getD k 0) hpos
              rw [hI] at r1
              have c0 := hI1 0 hpos
              have HSA := Lib.hid (set_any B bp lv va1 first nv st F1 wr hM G.ti hnv.out _ ((G.ro _ hin.1).rng (get_mem hpos)))
              have HFA := Lib.hid (fun hop => c2_fail (cl := cl) (fr := fr) (k := k) hs G hD HON.out hlt ho h0 hop hM hb)
              have HNX := Lib.hid (fun w1 va2 F2 hop hM2 (hF2 : ∀ j, j ≠ Ix.trail → (F2 j).v = (F1 j).v) (hb1 : Below B wr w1) => c2_set (bp := bp) (lv := lv) (first := first) (nv := nv) (va := va2) (F := F2) hs G hD hf hsh HON.out hlt ho h0 hop hM2 ((hF2 .short (by simp)).trans hvS) (hb.trans hb1))
              generalize hx : (st.row (s.short.getD k 0)).getD 0 0 = x at *
              generalize (st.row (s.short.getD k 0)).length = L at *
              generalize s.short.getD k 0 = i at *
              have hL0 : ¬ ((L : Int) = 0) := by omega
              clear hM hb hs G hD hf hsh hvS hxs hS hmem hin hns hO hO1 hR hR1 f0 f1 f5 f6 f7 f8 ho h0 HR HR1 hI hI1 hI5 hx
              go_wp2_with fail
              refine HSA.out.mono ?_
              rintro e w1 (⟨hop, rfl, rfl⟩ | ⟨hop, rfl, hb1, va2, F2, hM2, hF2⟩)
              · have HP := Lib.hid (HFA.out hop)
                clear hop HFA HNX
                go_wp2
                go_ret
                exact HP.out
              · have HN := Lib.hid (HNX.out w1 va2 F2 hop hM2 hF2 hb1)
                clear hop hb1 hM2 hF2 HNX HFA
                go_wp2
                go_roundw
                case rel => exact ⟨k + 1, by omega, by go_num, HN.out⟩
                case measure => simp [intOf]; omega
        · obtain rfl : k = s.short.length := by omega
          have H3 := Lib.hid (c3_of HR.out)
          clear hM hb hs G hD hf hsh hvS HR
          go_wp2
          go_loopw [9] (fun it wr => ∃ k : Nat, k ≤ nv ∧ it = .int .i64 k ∧ C3 B bp lv first nv s cls cl fr w k wr) (fun it _ => nv - (intOf it).toNat)
          case atStart => exact ⟨0, Nat.zero_le _, rfl, H3.out⟩
          case round =>
            clear H3 hk hlt
            obtain ⟨k, hk, rfl, hrel⟩ := hrel
            obtain ⟨st, va1, F1, hM, hb, hs, G, hD, hf, hsh, hP, hkl⟩ := hrel
            have htl : st.trail.length ≤ nv := by rw [hnv.out]; exact G.ti.len
            have htl2 : st.trail.length ≤ 100000 := Nat.le_trans G.ti.len (by omega)
            have hxs : (F1 .trail).xs.length = st.trail.length := by rw [hM.trail, List.length_map]
            obtain ⟨f0, f1, f2, f3, f5, f6, f7, f8⟩ := hM.field
            by_cases hlt : k < st.trail.length
            · obtain ⟨gT, capT, hT, _, _, _, _⟩ := hM.own.form .trail (by omega)
              rw [hxs] at hT
              have cT := hM.own.cell hT k (by omega)
              rw [hM.trail, getD_iv hlt] at cT
              rw [hT] at f8
              have hrng := G.ti.rng _ (get_mem hlt)
              have hxor := xor1 (st.trail.getD k 0) (by omega)
              obtain ⟨aW, capW, hvW⟩ := hM.own.value .watches
              have hms : st.m = s.m := hs.m
              rw [hM.watches, List.length_map, List.length_range, hms] at hvW
              rw [hvW] at f6
              by_cases hw : opp (st.trail.getD k 0) < s.m
              · have HFO := Lib.hid (follow_any B bp lv va1 first nv st F1 wr cls cl fr k (opp (st.trail.getD k 0)) hM G hnv (by omega) hlt (opp_opp _).symm hP hD (by rw [hs.n, hs.on]; exact HON.out))
                have HB := Lib.hid hb
                have HS := Lib.hid hs
                have HF := Lib.hid hf
                have HSH := Lib.hid hsh
                have HG2 := Lib.hid G
                have HK1 := Lib.hid (show k + 1 ≤ nv by omega)
                generalize hy : opp (st.trail.getD k 0) = y at *
                generalize st.trail.getD k 0 = x at *
                clear hM hb hs G hD hf hsh hP hkl hxs hT hvW f0 f1 f2 f3 f5 f7 hrng hy
                go_wp2_with fail
                refine HFO.out.mono ?_
                rintro e w1 ⟨st', va', F', hM1, hb1, hs1, G1, ht1, (⟨rfl, hP1, hD1, hk1⟩ | ⟨rfl, hC⟩)⟩
                · have HNX := Lib.hid (c3_next HB.out HS.out HF.out HSH.out HG2.out hM1 hb1 hs1 G1 ht1 hP1 hD1 hk1)
                  clear hM1 hb1 hs1 G1 ht1 hP1 hD1 hk1
                  go_wp2
                  go_roundw
                  case rel => exact ⟨k + 1, HK1.out, by go_num, HNX.out⟩
                  case measure => simp [intOf]; omega
                · have HPP : Hid (ClashP B bp lv first nv s cls cl fr w (.returned (.bool true)) w1) := Lib.hid ⟨st', va', F', hM1, HB.out.trans hb1, HS.out.trans hs1, G1, .inl ⟨rfl, hC⟩⟩
                  clear hM1 hb1 hs1 G1 ht1 hC
                  go_wp2
                  go_ret
                  exact HPP.out
              · have HNX := Lib.hid (c3_past hM hb hs G hD hf hsh hP hlt (by omega))
                have HK1 := Lib.hid (show k + 1 ≤ nv by omega)
                generalize hy : opp (st.trail.getD k 0) = y at *
                generalize st.trail.getD k 0 = x at *
                have hw' : ¬ ((y : Int) < (s.m : Int)) := by omega
                clear hM hb hs G hD hf hsh hP hkl hxs hT hvW f0 f1 f2 f3 f5 f7 hrng hy hw
                go_wp2
                go_roundw
                case rel => exact ⟨k + 1, HK1.out, by go_num, HNX.out⟩
                case measure => simp [intOf]; omega
            · have HPP := Lib.hid (c3_end hM hb hs G hD hf hsh hP hkl HCL.out (by omega))
              obtain ⟨aT, capT, hvT⟩ := hM.own.value .trail
              rw [hxs] at hvT
              rw [hvT] at f8
              obtain rfl : k = st.trail.length := by omega
              clear hM hb hs G hD hf hsh hP hkl hxs hvT f0 f1 f2 f3 f5 f6 f7
              go_wp2
              go_ret
              exact HPP.out
end Go.Proofs.YtojjjndhabjhdaaDoor.proofG
namespace Go.Proofs.YtojjjndhabjhdaaDoor.proofH
set_option linter.unusedSimpArgs false
set_option linter.unusedVariables false
open Go.ChangeShapes Go.WideShapes Go.ChangeAt Go.RowKit proofP proofQ owns proofA proofB proofC proofD proofE proofF proofG cls

def zval (T : List Nat) (k c : Nat) : Int := if c ∈ T.take k ∨ opp c ∈ T.take k then 0 else val T c
def zcells (T : List Nat) (nv k : Nat) : List Value := (List.range nv).map fun c => .int .i8 (zval T k c)
theorem zcells_zero (T : List Nat) (nv : Nat) : zcells T nv 0 = (List.range nv).map fun c => .int .i8 (val T c) := by
  unfold zcells; apply List.map_congr_left; intro c _; unfold zval; rw [if_neg (by simp)]
theorem zcells_all (T : List Nat) (nv : Nat) : zcells T nv T.length = (List.range nv).map fun c => .int .i8 (val [] c) := by
  unfold zcells; apply List.map_congr_left; intro c _
  unfold zval
  rw [List.take_length]
  have : val [] c = 0 := val_zero (by simp) (by simp)
  rw [this]
  split
  · rfl
  · rename_i h; rw [val_zero (fun h' => h (.inl h')) (fun h' => h (.inr h'))]
theorem zcells_step {T : List Nat} {nv k : Nat} (hk : k < T.length) : ((zcells T nv k).set (T.getD k 0) (.int .i8 0)).set (opp (T.getD k 0)) (.int .i8 0) = zcells T nv (k + 1) := by
  have hg : T.getD k 0 = T[k] := by rw [List.getD_eq_getElem?_getD, List.getElem?_eq_getElem hk]; rfl
  unfold zcells
  apply List.ext_getElem?
  intro j
  rw [List.getElem?_set, List.getElem?_set]
  simp only [List.length_set, List.length_map, List.length_range, List.getElem?_map]
  by_cases hj : j < nv
  · rw [List.getElem?_range hj]
    simp only [Option.map_some]
    have hz : zval T (k + 1) j = if opp (T.getD k 0) = j then 0 else if T.getD k 0 = j then 0 else zval T k j := by
      unfold zval
      rw [List.take_succ_eq_append_getElem hk, ← hg]
      by_cases e2 : opp (T.getD k 0) = j
      · rw [if_pos e2, if_pos (.inr (by rw [← e2, opp_opp]; simp))]
      · rw [if_neg e2]
        by_cases e1 : T.getD k 0 = j
        · rw [if_pos e1, if_pos (.inl (by rw [← e1]; simp))]
        · rw [if_neg e1]
          have n1 : ¬ (j = T.getD k 0) := fun e => e1 e.symm
          have n2 : ¬ (opp j = T.getD k 0) := fun e => e2 (by rw [← e, opp_opp])
          simp only [List.mem_append, List.mem_singleton, n1, n2, or_false]
    rw [hz]
    by_cases e2 : opp (T.getD k 0) = j
    · rw [if_pos e2, if_pos (by omega), if_pos e2]
    · rw [if_neg e2, if_neg e2]
      by_cases e1 : T.getD k 0 = j
      · rw [if_pos e1, if_pos (by omega), if_pos e1]
      · rw [if_neg e1, if_neg e1]
  · rw [List.getElem?_eq_none (by simp; omega)]
    by_cases e2 : opp (T.getD k 0) = j
    · rw [if_pos e2, if_neg (by omega)]; rfl
    · rw [if_neg e2]
      by_cases e1 : T.getD k 0 = j
      · rw [if_pos e1, if_neg (by omega)]; rfl
      · rw [if_neg e1]; rfl

/-- while values are made open again -/
def ZRel (B bp : Nat) (lv va : Value) (first nv : Nat) (s : PS) (F : Ix → Ent) (w : World) (k : Nat) (wr : World) : Prop :=
  Owns wr B (upd F .value ⟨(F .value).e, (F .value).v, zcells s.trail nv k⟩) ∧ Whole wr bp 89 [lv, iv first, (F .rows).v, (F .on).v, va, (F .short).v, (F .watches).v, (F .value).v, (F .trail).v] ∧ Below B w wr

theorem z_mem {w wr : World} {B bp : Nat} {lv va tv : Value} {first nv : Nat} {s : PS} {F : Ix → Ent} (h : Mem w B bp lv va first nv s F) (hz : ZRel B bp lv va first nv s F w s.trail.length wr) (hown : wr.ownsRow B 3 1 tv 0 []) (htv : tv.ownBlock = (F .trail).v.ownBlock ∨ tv.ownBlock = none) :
    Mem (wr.setCell ⟨bp, 8, none⟩ tv) B bp lv va first nv { s with trail := [] } (upd (upd F .value ⟨(F .value).e, (F .value).v, zcells s.trail nv s.trail.length⟩) .trail ⟨3, tv, []⟩) := by
  obtain ⟨ho, hw, hb⟩ := hz
  have hne : tv.ownBlock ≠ some bp := by
    rcases htv with e | e
    · rw [e]; exact h.ne .trail
    · rw [e]; simp
  have O1 := ho.step .trail ⟨3, tv, []⟩ (w' := wr) ⟨rfl, rfl, rfl, Nat.le_refl _, fun _ _ _ => rfl⟩ hown (by
    rw [upd_other _ _ (by decide)]
    rcases htv with e | e
    · exact .inl e
    · exact .inr (.inl e))
  obtain ⟨hw', hg'⟩ := hw.set 8 tv
  have hnk : ∀ k, (upd (upd F .value ⟨(F .value).e, (F .value).v, zcells s.trail nv s.trail.length⟩) .trail ⟨3, tv, []⟩ k).v.ownBlock ≠ some bp := by
    intro k
    by_cases e : k = .trail
    · subst e; rw [upd_same]; exact hne
    · rw [upd_other _ _ e]
      by_cases e2 : k = .value
      · subst e2; rw [upd_same]; exact h.ne .value
      · rw [upd_other _ _ e2]; exact h.ne k
  refine ⟨O1.apart hg' (fun k b hk e => hnk k (by rw [hk]; exact e.symm)), ?_, h.hx, hnk, fun k => ?_, ?_, ?_, ?_, ?_, ?_, ?_, fun i => ?_, fun i => ?_⟩
  · simpa [upd] using hw'
  · by_cases e : k = .trail
    · subst e; rw [upd_same]; rfl
    · rw [upd_other _ _ e]
      by_cases e2 : k = .value
      · subst e2; rw [upd_same]; exact h.te .value
      · rw [upd_other _ _ e2]; exact h.te k
  · simp [upd, h.on]
  · simp [upd, h.short]
  · simp [upd, h.rows]
  · simp [upd, h.watches]
  · rw [upd_other _ _ (by decide), upd_same]
    exact zcells_all _ _
  · simp [upd]
  · simp [upd, h.row]
  · simp [upd, h.watch]
theorem z_step {w wr : World} {B bp : Nat} {lv va : Value} {first nv : Nat} {s : PS} {F : Ix → Ent} {k gV capV : Nat} (h : Mem w B bp lv va first nv s F) (hz : ZRel B bp lv va first nv s F w k wr) (hk : k < s.trail.length) (hV : (F .value).v = .slice (some ⟨gV, 0, none⟩) nv capV) (hgV : gV ≠ bp) (hBV : B ≤ gV) :
    ZRel B bp lv va first nv s F w (k + 1) ((wr.setCell ⟨gV, s.trail.getD k 0, none⟩ (.int .i8 0)).setCell ⟨gV, opp (s.trail.getD k 0), none⟩ (.int .i8 0)).drew := by
  obtain ⟨ho, hw, hb⟩ := hz
  obtain ⟨O1, G1⟩ := ho.set2 (k := .value) (by rw [upd_same]; exact hV) (s.trail.getD k 0) (opp (s.trail.getD k 0)) (.int .i8 0) (.int .i8 0)
  refine ⟨(O1.drew.alike fun j => ?_), (hw.kept G1 (by intro e; cases e; exact hgV rfl)).below (Below.refl _ _).drew (by simpa using hw.lt), ((hb.setCell hBV _).setCell hBV _).drew⟩
  by_cases e : j = .value
  · subst e; rw [upd_same, upd_same, upd_same]; dsimp only; rw [zcells_step hk]
  · rw [upd_other _ _ e, upd_other _ _ e, upd_other _ _ e]

def PlainP (B bp : Nat) (lv : Value) (first nv : Nat) (s : PS) (cls : Nat → List Int) (b : Bool) (w : World) (e : Ending) (w' : World) : Prop :=
  e = .returned (.bool b) ∧ ∃ s' va F', Mem w' B bp lv va first nv s' F' ∧ Below B w w' ∧ Same s s' ∧ PGood s' cls ∧ s'.trail = []

theorem clash_b (B bp : Nat) (lv va : Value) (first nv : Nat) (s : PS) (F : Ix → Ent) (w : World) (cls : Nat → List Int) (cl : List (List Int)) (cv : Value) (c : List Int) (h : Mem w B bp lv va first nv s F) (G : PGood s cls) (hnv : Hid (nv = 40002)) (hc : IntsEx w B s.extra cv c) (hcl : c.length ≤ 100000)
    (htr : s.trail = []) (hon : ∀ i, i < s.n → s.on i = true → cls i ∈ cl) (hcl' : ∀ c, c ∈ cl → ∃ i, i < s.n ∧ s.on i = true ∧ cls i = c) (hsl : s.short.length ≤ 100000) :
    Calls Tryd.prog 72 #[.pointer (some ⟨bp, 0, none⟩), cv] w fun e w' => e = .returned (.bool (pl cl c)) ∧ ∃ s' va F', Mem w' B bp lv va first nv s' F' ∧ Below B w w' ∧ Same s s' ∧ PGood s' cls := by
  refine (clash_any B bp lv va first nv s F w cls cl cv c h G hnv hc hcl htr hon hcl' hsl).mono ?_
  rintro e w' ⟨s', va', F', hM, hb, hs, hG, (⟨rfl, hC⟩ | ⟨rfl, hC⟩)⟩
  · exact ⟨by rw [pl_iff.2 hC], s', va', F', hM, hb, hs, hG⟩
  · exact ⟨by rw [pl_no.2 hC], s', va', F', hM, hb, hs, hG⟩

set_option maxHeartbeats 4000000 in
set_option maxRecDepth 100000 in
theorem plain_any (B bp : Nat) (lv va : Value) (first nv : Nat) (s : PS) (F : Ix → Ent) (w : World) (cls : Nat → List Int) (cl : List (List Int)) (cv : Value) (c : List Int) (h : Mem w B bp lv va first nv s F) (G : PGood s cls) (hnv : Hid (nv = 40002)) (hc : IntsEx w B s.extra cv c) (hcl : c.length ≤ 100000)
    (htr : s.trail = []) (hon : ∀ i, i < s.n → s.on i = true → cls i ∈ cl) (hcl' : ∀ c, c ∈ cl → ∃ i, i < s.n ∧ s.on i = true ∧ cls i = c) (hsl : s.short.length ≤ 100000) :
    Calls Tryd.prog 46 #[.pointer (some ⟨bp, 0, none⟩), cv] w (PlainP B bp lv first nv s cls (pl cl c) w) := by
  have HCB := Lib.hid (clash_b B bp lv va first nv s F w cls cl cv c h G hnv hc hcl htr hon hcl' hsl)
  obtain ⟨ao, cap, b, off, rfl, hm, ha, hcell, h64⟩ := hc
  clear h G ha hcell h64 htr hon hcl' hm
  generalize pl cl c = r at *
  go_enter Tryd.func46, Tryd.ntmps46
  go_wp2_with fail
  refine HCB.out.mono ?_
  rintro e w1 ⟨rfl, s1, va1, F1, hM, hb, hs, G⟩
  have HM := Lib.hid hM
  have HB := Lib.hid hb
  have HS := Lib.hid hs
  have HG := Lib.hid G
  have htl : s1.trail.length ≤ 100000 := Nat.le_trans G.ti.len (by omega)
  have hxs : (F1 .trail).xs.length = s1.trail.length := by rw [hM.trail, List.length_map]
  obtain ⟨f0, f1, f2, f3, f5, f6, f7, f8⟩ := hM.field
  have HZ0 : Hid (ZRel B bp lv va1 first nv s1 F1 w1 0 w1) := Lib.hid ⟨hM.own.alike (fun j => by
    by_cases e : j = .value
    · subst e; rw [upd_same, zcells_zero, ← hM.value]
    · rw [upd_other _ _ e]), hM.obj, Below.refl _ _⟩
  have HFIN : Hid (∀ w2 tv, ZRel B bp lv va1 first nv s1 F1 w1 s1.trail.length w2 → w2.ownsRow B 3 1 tv 0 [] → (tv.ownBlock = (F1 .trail).v.ownBlock ∨ tv.ownBlock = none) → PlainP B bp lv first nv s cls r w (.returned (.bool r)) (w2.setCell ⟨bp, 8, none⟩ tv)) := Lib.hid (fun w2 tv hz ho ht =>
    ⟨rfl, _, va1, _, z_mem HM.out hz ho ht, (HB.out.trans hz.2.2).setCell HM.out.hB _, ⟨HS.out.n, HS.out.m, HS.out.on, HS.out.short, HS.out.len, HS.out.ex⟩, ⟨HG.out.si, HG.out.ro, TI.nil, HG.out.hm, HG.out.sh, HG.out.hn⟩, rfl⟩)
  by_cases h0 : s1.trail = []
  · have hL0 : s1.trail.length = 0 := by rw [h0]; rfl
    rw [hL0] at HFIN
    have hown := hM.own.1 .trail
    rw [hxs, hL0] at hown
    have z8 := hM.obj.frozen 8
    have hxe : (F1 .trail).xs = [] := by rw [hM.trail, h0]; rfl
    rw [hxe, hM.te] at hown
    have hvc : (∃ g cap, (F1 .trail).v = .slice (some ⟨g, 0, none⟩) 0 cap) ∨ (F1 .trail).v = .slice none 0 0 := by
      rcases hown.2 with ⟨hv, _⟩ | ⟨g, cap, cur, hv, _⟩
      · exact .inr hv
      · exact .inl ⟨g, cap, hv⟩
    have HOW := Lib.hid hown
    clear hM hb hs G hxs f0 f1 f2 f3 f5 f6 f7 HCB hown hxe hL0 h0
    rcases hvc with ⟨g, cap2, hv⟩ | hv
    · rw [hv] at f8 HOW HFIN
      have HP := Lib.hid (HFIN.out w1 _ HZ0.out HOW.out (.inl rfl))
      clear hv HFIN HOW
      go_wp2
      go_loopw [16] (fun it wr => it = .int .i64 0 ∧ wr = w1) (fun _ _ => 0)
      case atStart => exact ⟨rfl, rfl⟩
      case round =>
        obtain ⟨rfl, rfl⟩ := hrel
        go_wp2
        go_ret
        exact HP.out
    · rw [hv] at f8 HOW HFIN
      have HP := Lib.hid (HFIN.out w1 _ HZ0.out HOW.out (.inl rfl))
      clear hv HFIN HOW
      go_wp2
      go_loopw [16] (fun it wr => it = .int .i64 0 ∧ wr = w1) (fun _ _ => 0)
      case atStart => exact ⟨rfl, rfl⟩
      case round =>
        obtain ⟨rfl, rfl⟩ := hrel
        go_wp2
        go_ret
        exact HP.out
  · have hpos : 0 < s1.trail.length := List.length_pos_iff.2 h0
    obtain ⟨gT, capT, hT, hT1, hT2, hT3, hT4⟩ := hM.own.form .trail (by omega)
    rw [hxs] at hT
    rw [hT] at f8
    obtain ⟨gV, capV, hV, hV1, hV2, hV3, hV4, hV5⟩ := hM.vals (by rw [hnv.out]; omega)
    have HT := Lib.hid hT
    have HV := Lib.hid hV
    have hnVT : gT ≠ gV := fun e => by have := hM.own.2 .trail .value gV (by rw [hT, e]; rfl) (by rw [hV]; rfl); cases this
    have hTb : gT ≠ bp := fun e => hM.ne .trail (by rw [hT, e]; rfl)
    clear hM hb hs G f0 f1 f2 f3 f5 f6 f7 HCB hT hV hV4 hV5 h0
    rw [hxs] at hT3
    unfold maxLen at hT4
    go_wp2
    go_loopw [16] (fun it wr => ∃ k : Nat, k ≤ s1.trail.length ∧ it = .int .i64 k ∧ ZRel B bp lv va1 first nv s1 F1 w1 k wr) (fun it _ => s1.trail.length - (intOf it).toNat)
    case atStart => exact ⟨0, Nat.zero_le _, rfl, HZ0.out⟩
    case round =>
      clear f8 HZ0
      obtain ⟨k, hk, rfl, hrel⟩ := hrel
      have HZ := Lib.hid hrel
      obtain ⟨ho, hw, hb⟩ := hrel
      have hTu : (upd F1 .value ⟨(F1 .value).e, (F1 .value).v, zcells s1.trail nv k⟩ .trail).v = .slice (some ⟨gT, 0, none⟩) s1.trail.length capT := by rw [upd_other _ _ (by decide)]; exact HT.out
      have hVu : (upd F1 .value ⟨(F1 .value).e, (F1 .value).v, zcells s1.trail nv k⟩ .value).v = .slice (some ⟨gV, 0, none⟩) nv capV := by rw [upd_same]; exact HV.out
      by_cases hlt : k < s1.trail.length
      · have cT := ho.cell hTu k (by rw [upd_other _ _ (by decide)]; omega)
        rw [upd_other _ _ (by decide), HM.out.trail, getD_iv hlt] at cT
        have hrng := HG.out.ti.rng _ (get_mem hlt)
        have hr2 := opp_rng _ hrng.1 hrng.2
        have hxor := xor1 (s1.trail.getD k 0) (by omega)
        have hlx : (zcells s1.trail nv k).length = nv := by unfold zcells; simp
        have p7 := hw.cell 7
        rw [show [lv, iv first, (F1 .rows).v, (F1 .on).v, va1, (F1 .short).v, (F1 .watches).v, (F1 .value).v, (F1 .trail).v][7]? = some (F1 .value).v from rfl, HV.out] at p7
        have hx1 : s1.trail.getD k 0 < nv := by rw [hnv.out]; exact hrng.2
        have hx2 : opp (s1.trail.getD k 0) < nv := by rw [hnv.out]; exact hr2.2
        have q1 := ho.cell hVu (s1.trail.getD k 0) (by rw [upd_same]; dsimp only; rw [hlx]; exact hx1)
        have q2 := ho.cell hVu (opp (s1.trail.getD k 0)) (by rw [upd_same]; dsimp only; rw [hlx]; exact hx2)
        rw [upd_same] at q1 q2
        dsimp only at q1 q2
        rw [List.getElem?_eq_getElem (by omega)] at q1 q2
        have z1 := ho.frozen hVu (s1.trail.getD k 0)
        have z2 := ho.frozen hVu (opp (s1.trail.getD k 0))
        have hne := opp_ne (s1.trail.getD k 0)
        have hne' := fun e => opp_ne (s1.trail.getD k 0) (Eq.symm e)
        have HNX := Lib.hid (z_step HM.out HZ.out hlt HV.out hV3 hV1)
        generalize (zcells s1.trail nv k)[s1.trail.getD k 0] = o1 at *
        generalize (zcells s1.trail nv k)[opp (s1.trail.getD k 0)] = o2 at *
        generalize opp (s1.trail.getD k 0) = y at *
        generalize s1.trail.getD k 0 = x at *
        clear ho hw hb hTu hVu hlx hrng hr2
        go_wp2
        go_region
        all_goals
          go_wp2
          go_roundw
          case rel => exact ⟨k + 1, by omega, by go_num, HNX.out⟩
          case measure => simp [intOf]; omega
      · obtain rfl : k = s1.trail.length := by omega
        have p8 := hw.cell 8
        rw [show [lv, iv first, (F1 .rows).v, (F1 .on).v, va1, (F1 .short).v, (F1 .watches).v, (F1 .value).v, (F1 .trail).v][8]? = some (F1 .trail).v from rfl, HT.out] at p8
        have z8 := hw.frozen 8
        have hcut : wr.ownsRow B 3 1 (.slice (some ⟨gT, 0, none⟩) 0 capT) 0 [] := by
          have h1 := ho.1 .trail
          rw [upd_other _ _ (by decide), HM.out.te] at h1
          rcases h1.2 with ⟨hv', _⟩ | ⟨g, cap', cur, hv', hb', hg', hn', hm', hc', ht'⟩
          · rw [HT.out] at hv'; cases hv'
          · rw [HT.out] at hv'
            simp only [Value.slice.injEq, Option.some.injEq, Addr.mk.injEq, and_true] at hv'
            obtain ⟨rfl, _, rfl⟩ := hv'
            exact ⟨rfl, .inr ⟨gT, capT, cur, rfl, hb', hg', Nat.zero_le _, hm', hc', by simp⟩⟩
        have HP := Lib.hid (HFIN.out wr _ HZ.out hcut (.inl (by rw [HT.out]; rfl)))
        clear ho hw hb hTu hVu hcut HFIN
        go_wp2
        go_ret
        exact HP.out
end Go.Proofs.YtojjjndhabjhdaaDoor.proofH
