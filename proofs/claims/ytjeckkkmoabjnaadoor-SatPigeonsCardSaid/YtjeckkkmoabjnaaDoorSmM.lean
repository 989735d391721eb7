/-
  Plain: what a run answers tells whether there is a model.
  Contracts of the reference's Right (clauses in order, clauses of so many variables) and Possible.
  What Solve answers, for good; contract of sat.Possible.
-/
import Derived.Test.YtjeckkkmoabjnaaDoorShM
import Derived.Test.YtjeckkkmoabjnaaDoorProofW
import Derived.Test.YtjeckkkmoabjnaaDoorSatLh
namespace Go.Proofs.YtjeckkkmoabjnaaDoor.satMa
set_option linter.unusedSimpArgs false
set_option linter.unusedVariables false
open proofP proofQ proofR owns cls satP satA satX satCa satCf satSe proofN proofO proofS proofT

/-- a model of all variables with which clauses and assumptions are true -/
def Psb (cs : List (List Int)) (V : Nat) (asm : List Int) : Prop := ∃ m : List Bool, m.length = V ∧ allIn cs m = true ∧ ∀ a, a ∈ asm → holds a m = true
/-- literals of so many variables -/
def In (V : Nat) (l : Int) : Prop := l ≠ 0 ∧ -(V : Int) ≤ l ∧ l ≤ (V : Int)
section
variable {cs : List (List Int)} {V : Nat} {asm c : List Int} {T K : List Nat} {logs l : List (List Int)} {m : List Bool}
theorem In.lit {x : Int} (h : In V x) (hV : V ≤ 20000) : lit x := ⟨h.1, by have := h.2.1; omega, by have := h.2.2; omega⟩
/-- the model of a complete trail -/
def mod (T : List Nat) (V : Nat) : List Bool := (List.range V).map fun i => decide (2 * (i + 1) + 1 ∈ T)
theorem mod_len : (mod T V).length = V := by simp [mod]
theorem mdl_mod : mdl T V V = (mod T V).map Value.bool := by
  unfold mdl mod
  rw [List.map_map]
  refine List.map_congr_left fun i hi => ?_
  rw [List.mem_range] at hi
  show Value.bool _ = Value.bool _
  congr 1
  rw [decide_eq_true hi, Bool.true_and]
  show decide (0 < val T (2 * (i + 1) + 1)) = decide (2 * (i + 1) + 1 ∈ T)
  by_cases h : 2 * (i + 1) + 1 ∈ T
  · rw [decide_eq_true h, val_pos h]; rfl
  · rw [decide_eq_false h]
    refine decide_eq_false ?_
    unfold val
    rw [if_neg h]
    split <;> omega
theorem mod_at {i : Nat} (h : i < V) : (mod T V).getD i false = decide (2 * (i + 1) + 1 ∈ T) := by
  unfold mod
  rw [List.getD_eq_getElem?_getD, List.getElem?_map, List.getElem?_range h]; rfl
theorem holds_mod {x : Int} (hx : In V x) (hV : V ≤ 20000) (h2 : ∀ y, y ∈ T → opp y ∉ T) (h3 : ∀ v, 1 ≤ v → v ≤ V → 2 * v ∈ T ∨ 2 * v + 1 ∈ T) : holds x (mod T V) = true ↔ code x ∈ T := by
  unfold holds
  rw [mod_len, decide_eq_true (hx.lit hV), Bool.true_and]
  obtain ⟨h0, ha, hb⟩ := hx
  by_cases hn : x < 0
  · rw [if_pos hn]
    have e1 : decide ((V : Int) < -x) = false := decide_eq_false (by omega)
    rw [e1, Bool.false_or]
    have hi : (-x - 1).toNat < V := by omega
    rw [mod_at hi]
    have e2 : 2 * ((-x - 1).toNat + 1) + 1 = code x + 1 := by unfold code; rw [if_pos hn]; omega
    have e3 : code x % 2 = 0 := by unfold code; rw [if_pos hn]; omega
    rw [e2]
    have e4 : opp (code x) = code x + 1 := by unfold opp; rw [if_pos e3]
    have h5 := h3 ((-x - 1).toNat + 1) (by omega) (by omega)
    have e5 : 2 * ((-x - 1).toNat + 1) = code x := by omega
    rw [e5] at h5
    constructor
    · intro h
      rcases h5 with h5 | h5
      · exact h5
      · simp [h5] at h
    · intro h
      have := h2 _ h
      rw [e4] at this
      simp [this]
  · rw [if_neg hn]
    have e1 : decide (x ≤ (V : Int)) = true := decide_eq_true hb
    rw [e1, Bool.true_and]
    have hi : (x - 1).toNat < V := by omega
    rw [mod_at hi]
    have e2 : 2 * ((x - 1).toNat + 1) + 1 = code x := by unfold code; rw [if_neg hn]; omega
    rw [e2]
    simp
theorem sats_true (h : Sats T c) (hc : ∀ x, x ∈ c → In V x) (hV : V ≤ 20000) (h2 : ∀ y, y ∈ T → opp y ∉ T) (h3 : ∀ v, 1 ≤ v → v ≤ V → 2 * v ∈ T ∨ 2 * v + 1 ∈ T) : trueIn c (mod T V) = true := by
  obtain ⟨x, hx, hT⟩ := h
  obtain ⟨z, hz, _, rfl⟩ := (row_is c x).1 hx
  unfold trueIn
  exact List.any_eq_true.2 ⟨z, hz, (holds_mod (hc z hz) hV h2 h3).2 hT⟩
/-- a model was found -/
theorem mod_is (hc : ∀ c, c ∈ cs → ∀ x, x ∈ c → In V x) (ha : ∀ x, x ∈ asm → In V x) (hV : V ≤ 20000) (h2 : ∀ y, y ∈ T → opp y ∉ T) (h3 : ∀ v, 1 ≤ v → v ≤ V → 2 * v ∈ T ∨ 2 * v + 1 ∈ T) (h4 : ∀ c, c ∈ cs → Sats T c) (h5 : ∀ a, a ∈ rowOf asm → a ∈ T) : allIn cs (mod T V) = true ∧ ∀ a, a ∈ asm → holds a (mod T V) = true := by
  refine ⟨?_, fun a h => (holds_mod (ha a h) hV h2 h3).2 (h5 _ ((row_is asm _).2 ⟨a, h, (ha a h).lit hV, rfl⟩))⟩
  unfold allIn
  exact List.all_eq_true.2 fun c h => sats_true (h4 c h) (hc c h) hV h2 h3
/-- a log that is right -/
theorem log_bad (h : LogOk cs V logs) : bad cs logs = -1 := bad_none fun j hj => (h j hj).1
/-- no model was found -/
theorem unsat_no (h : LogOk cs V (l ++ [clz (K.map opp)])) (hr : ∀ x, x ∈ K → 2 ≤ x ∧ x < 40002) (ha : ∀ x, x ∈ K → litOf x ∈ asm) : ¬ Psb cs V asm := by
  rintro ⟨m, _, h1, h2⟩
  have h3 := snd_law (log_bad h) m h1
  unfold allIn at h3
  have h4 := List.all_eq_true.1 h3 (clz (K.map opp)) (by simp)
  unfold trueIn at h4
  obtain ⟨z, hz, h5⟩ := List.any_eq_true.1 h4
  obtain ⟨y, hy, rfl⟩ := clz_mem.1 hz
  obtain ⟨x, hx, rfl⟩ := List.mem_map.1 hy
  have hx2 := hr x hx
  rw [litOf_opp x hx2.1] at h5
  exact (holds_neg m (litOf_lit x hx2.1 hx2.2)).1 h5 (h2 _ (ha x hx))
/-! ### clauses in order -/
theorem srt_ext : ∀ {a b : List Int}, Srt a → Srt b → (∀ x, x ∈ a ↔ x ∈ b) → a = b := by
  intro a
  induction a with
  | nil =>
    intro b _ _ h
    cases b with
    | nil => rfl
    | cons y b => exact absurd ((h y).2 (by simp)) (by simp)
  | cons x a ih =>
    intro b ha hb h
    cases b with
    | nil => exact absurd ((h x).1 (by simp)) (by simp)
    | cons y b =>
      have ha' := List.pairwise_cons.1 ha
      have hb' := List.pairwise_cons.1 hb
      have e : x = y := by
        rcases List.mem_cons.1 ((h x).1 (by simp)) with e | h1
        · exact e
        · rcases List.mem_cons.1 ((h y).2 (by simp)) with e | h2
          · exact e.symm
          · have := less_trans (ha'.1 y h2) (hb'.1 x h1)
            rw [less_irr] at this; cases this
      subst e
      have nx : ∀ {l : List Int}, (∀ z, z ∈ l → less x z = true) → x ∉ l := fun h hm => by have := h x hm; rw [less_irr] at this; cases this
      rw [ih ha'.2 hb'.2 fun z => ?_]
      constructor
      · intro hz
        rcases List.mem_cons.1 ((h z).1 (List.mem_cons_of_mem _ hz)) with e | h1
        · subst e; exact absurd hz (nx ha'.1)
        · exact h1
      · intro hz
        rcases List.mem_cons.1 ((h z).2 (List.mem_cons_of_mem _ hz)) with e | h1
        · subst e; exact absurd hz (nx hb'.1)
        · exact h1
theorem less_code {a b : Nat} (ha : 2 ≤ a) (h : a < b) : less (litOf a) (litOf b) = true := by
  rw [less_iff]
  unfold litOf
  split <;> split <;> omega
theorem clz_srt (hn : K.Nodup) (hr : ∀ x, x ∈ K → 2 ≤ x) : Srt (clz K) := by
  unfold clz Srt
  rw [List.pairwise_map]
  have h1 : (srt (K.map fun x : Nat => (x : Int))).Pairwise (· ≤ ·) := by
    have := List.pairwise_mergeSort (le := fun x y : Int => decide (x ≤ y)) (fun a b c h1 h2 => by simp at *; omega) (fun a b => by simp; omega) (K.map fun x : Nat => (x : Int))
    exact this.imp fun h => by simpa using h
  have h2 : (srt (K.map fun x : Nat => (x : Int))).Nodup := by
    unfold srt
    rw [(List.mergeSort_perm _ _).nodup_iff, List.Nodup, List.pairwise_map]
    exact hn.imp fun h e => h (by omega)
  have h3 : ∀ z, z ∈ srt (K.map fun x : Nat => (x : Int)) → 2 ≤ z := fun z hz => by
    obtain ⟨x, hx, rfl⟩ := List.mem_map.1 (srt_mem.1 hz)
    have := hr x hx
    omega
  have h4 := h1.and h2
  refine List.Pairwise.imp_of_mem ?_ h4
  intro a b ha hb hab
  have := h3 a ha
  have := hab.1
  have := hab.2
  exact less_code (by omega) (by omega)
theorem srt_norm (c : List Int) : Srt (normL c) := by
  suffices h : ∀ (c acc : List Int), Srt acc → Srt (c.foldl put acc) from h c [] List.Pairwise.nil
  intro c
  induction c with
  | nil => intro acc h; exact h
  | cons y c ih => intro acc h; exact ih _ (srt_put h y)
theorem mem_norm (c : List Int) (x : Int) : x ∈ normL c ↔ x ∈ c := by
  suffices h : ∀ (c acc : List Int), x ∈ c.foldl put acc ↔ x ∈ acc ∨ x ∈ c from by simpa [normL] using h c []
  intro c
  induction c with
  | nil => intro acc; simp
  | cons y c ih =>
    intro acc
    rw [List.foldl_cons, ih, mem_put, List.mem_cons]
    constructor
    · rintro ((h | h) | h)
      · exact .inl h
      · exact .inr (.inl h)
      · exact .inr (.inr h)
    · rintro (h | h | h)
      · exact .inl (.inl h)
      · exact .inl (.inr h)
      · exact .inr h
theorem norm_self {c : List Int} (h : Srt c) : normL c = c := srt_ext (srt_norm c) h (mem_norm c)
/-- the opposites of a core -/
theorem norm_opp (hn : K.Nodup) (hr : ∀ x, x ∈ K → 2 ≤ x) : normL ((clz K).map fun x => -x) = clz (K.map opp) := by
  have hn2 : (K.map opp).Nodup := by
    rw [List.Nodup, List.pairwise_map]
    exact hn.imp fun h e => h (opp_inj e)
  have hr2 : ∀ x, x ∈ K.map opp → 2 ≤ x := fun x hx => by
    obtain ⟨y, hy, rfl⟩ := List.mem_map.1 hx
    have := hr y hy
    unfold opp
    split <;> omega
  refine srt_ext (srt_norm _) (clz_srt hn2 hr2) fun x => ?_
  rw [mem_norm, List.mem_map, clz_mem]
  constructor
  · rintro ⟨a, ha, rfl⟩
    obtain ⟨y, hy, rfl⟩ := clz_mem.1 ha
    exact ⟨opp y, List.mem_map.2 ⟨y, hy, rfl⟩, litOf_opp y (hr y hy)⟩
  · rintro ⟨z, hz, rfl⟩
    obtain ⟨y, hy, rfl⟩ := List.mem_map.1 hz
    exact ⟨litOf y, clz_mem.2 ⟨y, hy, rfl⟩, (litOf_opp y (hr y hy)).symm⟩
end
end Go.Proofs.YtjeckkkmoabjnaaDoor.satMa
namespace Go.Proofs.YtjeckkkmoabjnaaDoor.satMb
set_option linter.unusedSimpArgs false
set_option linter.unusedVariables false
open Go.ChangeShapes Go.WideShapes Go.ChangeAt Go.RowKit proofP proofQ proofR owns cls satP satA satX satCa satCf satSe proofN proofO proofS proofT proofU satLg satLh satMa
attribute [local go_sem ↓] Go.wp_at_zero Go.wp_at_succ

theorem Right14_any (w : World) (B : Nat) (cv : Value) (c : List Int) (hc : IntsAt w B cv c) (hB : B ≤ w.heap.size) (hlen : c.length ≤ 50000) (hl : ∀ x, x ∈ c → lit x) (hs : Srt c) :
    Calls Tryd.prog 11 #[cv] w fun e w' => e = .returned (.bool true) ∧ Below w.heap.size w w' := by
  have HN := Lib.hid (Norm_any w B cv c hc hB hlen)
  have HC := Lib.hid hc
  have HL := Lib.hid hl
  have HE := Lib.hid (norm_self hs)
  obtain ⟨ao, cap, b, off, rfl, hcm, ha, hcell, h64⟩ := hc
  clear ha hcell h64 hcm
  go_enter Tryd.func11, Tryd.ntmps11
  go_wp2_with fail
  refine HN.out.mono ?_
  rintro e w1 (⟨_, v, rfl, hv, hb⟩ | ⟨⟨x, hx, hnx⟩, rfl, hb⟩)
  · have HS0 := Same_any v _ (normL c) c w1 w1.heap.size hv.at ((HC.out.keep (hb.mono hB)).mono (Nat.le_trans hB hb.size))
    rw [decide_eq_true HE.out] at HS0
    have HS := Lib.hid HS0
    have HB := Lib.hid hb
    have hbs := hb.size
    obtain ⟨b2, off2, cap2, hvv, _⟩ := hv
    subst hvv
    clear hb HN HS0
    go_wp2_with fail
    refine HS.out.mono ?_
    rintro e w2 ⟨rfl, hb2⟩
    have HB2 := Lib.hid (HB.out.trans (hb2.mono hbs))
    clear hb2
    go_wp2
    go_ret
    exact ⟨rfl, HB2.out⟩
  · exact absurd (HL.out x hx) hnx
/-- are these clauses of so many variables? -/
def rgt (cl : List (List Int)) (V : Int) : Bool := !(cl.any fun c => c.any (badl V))
set_option maxHeartbeats 1000000 in
theorem Right17_any (cv : Value) (cl : List (List Int)) (vars : Int) (w : World) (B : Nat) (hc : ClsAt w B cv cl) (h1 : 0 ≤ vars) (h2 : vars ≤ 20000) :
    Calls Tryd.prog 19 #[cv, .int .i64 vars] w fun e w' => e = .returned (.bool (rgt cl vars)) ∧ w = w' := by
  obtain ⟨ao, cap, b, off, vs, rfl, hcm, ha, hcell, hn⟩ := hc
  have HA := Lib.hid ha
  have HC := Lib.hid hcell
  have HN := Lib.hid hn
  unfold maxLen at hcm
  clear ha hcell hn
  go_enter Tryd.func19, Tryd.ntmps19
  go_wp2
  go_loop [11] (fun it => ∃ k : Nat, k ≤ cl.length ∧ it = .int .i64 k ∧ Hid (∀ i, i < k → (cl.getD i []).any (badl vars) = false)) (fun it => cl.length - (intOf it).toNat)
  case atStart => exact ⟨0, Nat.zero_le _, rfl, Lib.hid fun i hi => absurd hi (Nat.not_lt_zero _)⟩
  case round =>
    obtain ⟨k, hk, rfl, hg⟩ := hrel
    by_cases hlt : k < cl.length
    · obtain ⟨rfl, hbB⟩ := HA.out (by intro h0; rw [h0] at hlt; simp at hlt)
      have q := HC.out k hlt
      obtain ⟨ai, capi, bi, offi, hvi, hmi, hai, hci, h64⟩ := HN.out k hlt
      unfold maxLen at hmi
      rw [hvi] at q
      have HAI := Lib.hid hai
      have HCI := Lib.hid hci
      have H64 := Lib.hid h64
      have HME : Hid (∀ l, l ∈ cl.getD k [] → badl vars l = true → rgt cl vars = false) := Lib.hid (fun l hl hb => by
        unfold rgt
        rw [Bool.not_eq_false']
        exact List.any_eq_true.2 ⟨_, getD_mem hlt, List.any_eq_true.2 ⟨l, hl, hb⟩⟩)
      have HSK : Hid ((cl.getD k []).any (badl vars) = false → ∀ i, i < k + 1 → (cl.getD i []).any (badl vars) = false) := Lib.hid (fun h i hi => by
        by_cases e : i = k
        · rw [e]; exact h
        · exact hg.out i (by omega))
      generalize cl.getD k [] = c at *
      clear hvi hai hci h64 hg
      go_wp2
      go_loop [17] (fun it => ∃ j : Nat, j ≤ c.length ∧ it = .int .i64 j ∧ Hid (∀ i, i < j → badl vars (c.getD i 0) = false)) (fun it => c.length - (intOf it).toNat)
      case atStart => exact ⟨0, Nat.zero_le _, rfl, Lib.hid fun i hi => absurd hi (Nat.not_lt_zero _)⟩
      case round =>
        clear q
        obtain ⟨j, hj, rfl, hg⟩ := hrel
        by_cases hjl : j < c.length
        · obtain ⟨rfl, hbi⟩ := HAI.out (by intro h0; rw [h0] at hjl; simp at hjl)
          have q := HCI.out j hjl
          have hmm : c.getD j 0 ∈ c := getD_mem (d := 0) hjl
          have hin := H64.out _ hmm
          obtain ⟨i1, i2⟩ := hin
          have HBD : Hid (badl vars (c.getD j 0) = true → rgt cl vars = false) := Lib.hid (HME.out _ hmm)
          have HGD : Hid (badl vars (c.getD j 0) = false → ∀ i, i < j + 1 → badl vars (c.getD i 0) = false) := Lib.hid (fun h i hi => by
            by_cases e : i = j
            · rw [e]; exact h
            · exact hg.out i (by omega))
          generalize c.getD j 0 = l at *
          clear hg hmm
          by_cases g0 : l = 0
          · have HE := Lib.hid (HBD.out (by unfold badl; rw [decide_eq_true g0]; rfl))
            subst g0
            go_wp2
            go_ret
            exact ⟨by rw [HE.out]; rfl, rfl⟩
          · have g0' : (l == 0) = false := by simpa using g0
            by_cases g1 : vars < l
            · have HE := Lib.hid (HBD.out (by unfold badl; rw [decide_eq_true g1]; simp))
              clear g0
              go_wp2
              go_ret
              exact ⟨by rw [HE.out]; rfl, rfl⟩
            · by_cases g2 : l < -vars
              · have HE := Lib.hid (HBD.out (by unfold badl; rw [decide_eq_true g2]; simp))
                clear g0
                go_wp2
                go_ret
                exact ⟨by rw [HE.out]; rfl, rfl⟩
              · have HG2 := Lib.hid (HGD.out (by unfold badl; simp; omega))
                clear g0
                go_wp2
                go_round
                case rel => exact ⟨j + 1, by omega, by go_num, HG2⟩
                case measure => simp [intOf]; omega
        · obtain rfl : j = c.length := by omega
          have HSK2 := Lib.hid (HSK.out (by
            rw [List.any_eq_false]
            intro l hl
            obtain ⟨i, hi, rfl⟩ := List.mem_iff_getElem.1 hl
            have := hg.out i hi
            rw [List.getD_eq_getElem?_getD, List.getElem?_eq_getElem hi] at this
            simpa using this))
          clear hg
          go_wp2
          go_round
          case rel => exact ⟨k + 1, by omega, by go_num, HSK2⟩
          case measure => simp [intOf]; omega
    · obtain rfl : k = cl.length := by omega
      have HE : Hid (rgt cl vars = true) := Lib.hid (by
        unfold rgt
        rw [Bool.not_eq_true', List.any_eq_false]
        intro c hl
        obtain ⟨i, hi, rfl⟩ := List.mem_iff_getElem.1 hl
        have := hg.out i hi
        rw [List.getD_eq_getElem?_getD, List.getElem?_eq_getElem hi] at this
        simpa using this)
      clear hg
      go_wp2
      go_ret
      exact ⟨by rw [HE.out]; rfl, rfl⟩
/-- the bits of a number -/
def bits (V n : Nat) : List Bool := (List.range V).map fun i => n.testBit i
theorem bits_len (V n : Nat) : (bits V n).length = V := by simp [bits]
theorem bits_all : ∀ (m : List Bool), ∃ n, n < 2 ^ m.length ∧ bits m.length n = m := by
  intro m
  induction m with
  | nil => exact ⟨0, by simp, rfl⟩
  | cons b m ih =>
    obtain ⟨n, hn, he⟩ := ih
    refine ⟨2 * n + b.toNat, ?_, ?_⟩
    · rw [List.length_cons, Nat.pow_succ]
      have : b.toNat ≤ 1 := Bool.toNat_le b
      omega
    · apply List.ext_getElem?
      intro i
      unfold bits
      rw [List.getElem?_map]
      rcases i with _ | i
      · rw [List.length_cons, List.getElem?_range (by omega)]
        simp only [Option.map_some, List.getElem?_cons_zero, Option.some.injEq]
        rw [Nat.testBit_zero]
        cases b <;> simp <;> omega
      · have e : m[i]? = (bits m.length n)[i]? := by rw [he]
        rw [List.getElem?_cons_succ, e]
        unfold bits
        rw [List.getElem?_map]
        by_cases hi : i < m.length
        · rw [List.getElem?_range (by simp; omega), List.getElem?_range hi]
          simp only [Option.map_some, Option.some.injEq]
          rw [Nat.testBit_succ]
          congr 1
          have : b.toNat ≤ 1 := Bool.toNat_le b
          omega
        · rw [List.getElem?_eq_none (by simp; omega), List.getElem?_eq_none (by simp; omega)]; rfl
/-- a model that is tried -/
def tryB (cs : List (List Int)) (V : Nat) (asm : List Int) (n : Nat) : Bool := allIn cs (bits V n) && asm.all fun a => holds a (bits V n)
theorem psb_try {cs : List (List Int)} {V : Nat} {asm : List Int} : Psb cs V asm ↔ ∃ n, n < 2 ^ V ∧ tryB cs V asm n = true := by
  unfold tryB
  constructor
  · rintro ⟨m, hm, h1, h2⟩
    obtain ⟨n, hn, he⟩ := bits_all m
    rw [hm] at hn he
    refine ⟨n, hn, ?_⟩
    rw [he, h1, Bool.true_and]
    exact List.all_eq_true.2 h2
  · rintro ⟨n, hn, h⟩
    rw [Bool.and_eq_true] at h
    exact ⟨_, bits_len V n, h.1, List.all_eq_true.1 h.2⟩
theorem iB : (Tryd.prog.info? 4).map (fun i => (i.zero, i.size, i.bytes)) = some (some (.bool false), 1, 1) := by kernel_rfl
set_option maxRecDepth 100000 in
set_option maxHeartbeats 4000000 in
theorem Possible17_any (cv av : Value) (cs : List (List Int)) (asm : List Int) (V : Nat) (w : World) (hc : ClsAt w w.heap.size cv cs) (ha : IntsAt w w.heap.size av asm) (hV : V ≤ 10) :
    Calls Tryd.prog 12 #[cv, .int .i64 V, av] w fun e w' => ∃ p : Bool, e = .returned (.bool p) ∧ (p = true ↔ Psb cs V asm) ∧ Below w.heap.size w w' := by
  have HC := Lib.hid hc
  have HAI := Lib.hid ha
  obtain ⟨ac, capc, bc, offc, vsc, rfl, _, _, _, _⟩ := hc
  obtain ⟨aa, capa, ba, offa, rfl, hma, haa, hac, _⟩ := ha
  have HAA := Lib.hid haa
  have HAC := Lib.hid hac
  unfold maxLen at hma
  clear haa hac
  obtain ⟨i0, hi0, hz0, hz1, hz2⟩ := info_parts iB
  obtain ⟨N, hN⟩ : ∃ N, N = 2 ^ V := ⟨_, rfl⟩
  have hNV : Hid (N = 2 ^ V) := Lib.hid hN
  have hN1 : N ≤ 1024 := by rw [hN]; exact Nat.pow_le_pow_right (n := 2) (by omega) hV
  have hw : wrap64 ((2 : Int) ^ V) = (N : Int) := by
    have e : (2 : Int) ^ V = ((2 ^ V : Nat) : Int) := by simp
    rw [e, ← hN]
    exact IntWalk.wrap64_in _ ⟨by omega, by omega⟩
  clear hN
  go_enter Tryd.func12, Tryd.ntmps12
  go_wp2
  go_loopw [7] (fun it wr => ∃ k : Nat, k ≤ N ∧ it = .int .i64 k ∧ Below w.heap.size w wr ∧ Hid (∀ n, n < k → tryB cs V asm n = false)) (fun it _ => N - (intOf it).toNat)
  case atStart => exact ⟨0, Nat.zero_le _, rfl, Below.refl _ _, Lib.hid fun i hi => absurd hi (Nat.not_lt_zero _)⟩
  case round =>
    obtain ⟨k, hk, rfl, hb, hg⟩ := hrel
    by_cases hlt : k < N
    · have HB := Lib.hid hb
      have hsz := hb.size
      clear hb
      go_wp2_with (at_make; refine wpList_make_full _ rfl _ _ 30 rfl w.heap.size 4 i0 (.bool false) 1 Tryd.underlying30 hi0 hz0 hz1 .i64 .i64 _ _ V rfl rfl rfl rfl ?c3 ?c4 ?c5 ?_)
      case c3 => rw [hz2]; omega
      case c4 => unfold maxLen; omega
      case c5 => exact hsz
      intro w3 hown3 hgrow3
      rw [toList_madeCells_one] at hown3
      have HO3 : Hid (w3.ownsRow w.heap.size 4 1 (.slice (some ⟨wr.heap.size, 0, none⟩) V V) V ((List.replicate V false).map Value.bool)) := Lib.hid (by simpa using hown3)
      have HB3 := Lib.hid (HB.out.grown hgrow3 hsz (by intro k hk; cases hk))
      generalize wr.heap.size = g at *
      clear hown3 hgrow3
      go_wp2
      obtain ⟨wo, hwo⟩ : ∃ wo : World, wo = wr := ⟨_, rfl⟩
      clear hwo
      go_loopw [23] (fun it wr => ∃ (i : Nat) (bs : List Bool), i ≤ V ∧ bs.length = V ∧ it = .int .i64 i ∧ wr.ownsRow w.heap.size 4 1 (.slice (some ⟨g, 0, none⟩) V V) V (bs.map Value.bool) ∧ Below w.heap.size w wr ∧ Hid (∀ j, j < i → bs[j]? = some (k.testBit j))) (fun it _ => V - (intOf it).toNat)
      case atStart => exact ⟨0, List.replicate V false, by omega, by simp, rfl, HO3.out, HB3.out, Lib.hid fun i hi => absurd hi (Nat.not_lt_zero _)⟩
      case round =>
        clear HO3 HB3
        obtain ⟨i, bs, hi, hbs, rfl, hown, hb, hbt⟩ := hrel
        have HO := Lib.hid hown
        have HBX := Lib.hid hb
        have HBS := Lib.hid hbs
        by_cases hil : i < V
        · have q := hown.cellAt i (by omega)
          rw [List.getElem?_map, List.getElem?_eq_getElem (by omega)] at q
          simp only [Option.map_some] at q
          have zf := hown.frozenAt i
          generalize bs[i] = o at *
          have hgB : w.heap.size ≤ g := (hown.lt g rfl).1
          have HBT : Hid ((Go.bits BinOp.and IntKind.i64 ((k : Int) / 2 ^ i) 1 == 1) = k.testBit i) := Lib.hid (by
            have e : (k : Int) / 2 ^ i = ((k / 2 ^ i : Nat) : Int) := by simp
            rw [e, satG.and1 _ (by have := Nat.div_le_self k (2 ^ i); omega), Nat.testBit_eq_decide_div_mod_eq]
            have := Nat.mod_two_eq_zero_or_one (k / 2 ^ i)
            rcases this with h | h <;> rw [h] <;> rfl)
          have HNX : Hid (∀ b : Bool, b = k.testBit i → ∃ bs' : List Bool, bs'.length = V ∧ (wr.setCell ⟨g, i, none⟩ (.bool b)).ownsRow w.heap.size 4 1 (.slice (some ⟨g, 0, none⟩) V V) V (bs'.map Value.bool) ∧ Hid (∀ j, j < i + 1 → bs'[j]? = some (k.testBit j))) := Lib.hid (fun b hb => ⟨bs.set i b, by simpa using HBS.out, by rw [List.map_set]; exact (HO.out.stored i (.bool b)).1, Lib.hid fun j hj => by
            rw [List.getElem?_set]
            by_cases e : i = j
            · subst e; rw [if_pos rfl, if_pos (by rw [HBS.out]; exact hil), hb]
            · rw [if_neg e]; exact hbt.out j (by omega)⟩)
          have HNB : Hid (∀ b : Bool, Below w.heap.size w (wr.setCell ⟨g, i, none⟩ (.bool b))) := Lib.hid (fun b => HBX.out.setCell hgB _)
          clear hown hb hbs hbt
          go_wp2
          go_roundw
          case rel =>
            obtain ⟨bs', h1, h2, h3⟩ := HNX.out _ HBT.out
            exact ⟨i + 1, bs', by omega, h1, by go_num, h2, HNB.out _, h3⟩
          case measure => simp [intOf]; omega
        · obtain rfl : i = V := by omega
          obtain rfl : bs = satMb.bits i k := by
            apply List.ext_getElem?
            intro j
            unfold satMb.bits
            rw [List.getElem?_map]
            by_cases hj : j < i
            · rw [List.getElem?_range hj]; exact hbt.out j hj
            · rw [List.getElem?_eq_none (by omega), List.getElem?_eq_none (by simp; omega)]; rfl
          have hsx := hb.size
          have hbo : BoolsAt wr wr.heap.size (.slice (some ⟨g, 0, none⟩) i i) (satMb.bits i k) := by
            have := bools_row (bs := satMb.bits i k) (g := g) (w := wr) (B := w.heap.size) (e := 4) (by rw [bits_len]; exact hown) (by rw [bits_len]; unfold maxLen; omega)
            rw [bits_len] at this; exact this
          have HBO := Lib.hid hbo
          have HA1 := Lib.hid (All_any _ _ cs (satMb.bits i k) wr w.heap.size wr.heap.size (HC.out.keep hb) hbo)
          have HTR : Hid (tryB cs i asm k = (allIn cs (satMb.bits i k) && asm.all fun a => holds a (satMb.bits i k))) := Lib.hid rfl
          have HPS : Hid (tryB cs i asm k = true → Psb cs i asm) := Lib.hid fun h => psb_try.2 ⟨k, by rw [← hNV.out]; exact hlt, h⟩
          have HGG : Hid (tryB cs i asm k = false → ∀ n, n < k + 1 → tryB cs i asm n = false) := Lib.hid (fun h n hn => by
            by_cases e : n = k
            · rw [e]; exact h
            · exact hg.out n (by omega))
          generalize tryB cs i asm k = tb at *
          generalize satMb.bits i k = bs at *
          generalize allIn cs bs = ra at *
          clear hown hb hbs hbo hbt HO HBS
          go_wp2_with fail
          refine HA1.out.mono ?_
          rintro e w4 ⟨rfl, rfl⟩
          have HBX2 := Lib.hid HBX.out
          clear HA1 hw
          go_wp2
          go_loopw [10, 40] (fun ok it wr' => ∃ (j : Nat) (b : Bool), j ≤ asm.length ∧ it = .int .i64 j ∧ ok = .bool b ∧ wr' = wr ∧ Hid (b = (ra && (asm.take j).all fun a => holds a bs))) (fun _ it _ => asm.length - (intOf it).toNat)
          case atStart => exact ⟨0, ra, Nat.zero_le _, rfl, rfl, rfl, Lib.hid (by simp)⟩
          case round =>
            obtain ⟨j, b, hj, rfl, rfl, rfl, hb⟩ := hrel
            by_cases hjl : j < asm.length
            · obtain ⟨rfl, hbB⟩ := HAA.out (by intro h0; rw [h0] at hjl; simp at hjl)
              have q : wr.cell? ⟨ba, offa + j, none⟩ = some (.int .i64 (asm.getD j 0)) := by
                rw [HBX2.out.cell (show (⟨ba, offa + j, none⟩ : Addr).block < w.heap.size from hbB)]
                exact HAC.out j hjl
              have h64 := HAI.out.in64 _ (getD_mem (d := 0) hjl)
              have HHO := Lib.hid (Holds_any (asm.getD j 0) _ bs wr wr.heap.size HBO.out h64)
              have HST : Hid ((ra && (asm.take (j + 1)).all fun a => holds a bs) = (b && holds (asm.getD j 0) bs)) := Lib.hid (by
                rw [List.take_succ_eq_append_getElem hjl, List.all_append, hb.out, ← Bool.and_assoc, List.getD_eq_getElem?_getD, List.getElem?_eq_getElem hjl]; simp)
              generalize asm.getD j 0 = x at *
              generalize holds x bs = hx at *
              clear h64 hb
              cases b
              · clear HHO
                go_wp2
                go_roundw
                case rel => exact ⟨j + 1, false, by omega, by go_num, by first | exact rfl | exact trivial, by first | exact rfl | exact trivial, Lib.hid (by rw [HST.out]; rfl)⟩
                case measure => simp [intOf]; omega
              · go_wp2_with fail
                refine HHO.out.mono ?_
                rintro e w5 ⟨rfl, rfl⟩
                go_wp2
                go_roundw
                case rel => exact ⟨j + 1, hx, by omega, by go_num, by first | exact rfl | exact trivial, by first | exact rfl | exact trivial, Lib.hid (by rw [HST.out]; rfl)⟩
                case measure => simp [intOf]; omega
            · obtain rfl : j = asm.length := by omega
              have HBE : Hid (tb = b) := Lib.hid (by rw [HTR.out, hb.out, List.take_length])
              clear hb
              cases b
              · have HG2 := Lib.hid (HGG.out HBE.out)
                go_wp2
                go_roundw
                case rel => exact ⟨k + 1, by omega, by go_num, HBX2.out, HG2⟩
                case measure => simp [intOf]; omega
              · have HPF := Lib.hid (HPS.out HBE.out)
                go_wp2
                go_ret
                exact ⟨true, rfl, ⟨fun _ => HPF.out, fun _ => rfl⟩, HBX2.out⟩
    · obtain rfl : k = N := by omega
      have HF : Hid (¬ Psb cs V asm) := Lib.hid fun h => by
        obtain ⟨n, hn, ht⟩ := psb_try.1 h
        rw [hg.out n (by rw [hNV.out]; exact hn)] at ht
        cases ht
      have HB := Lib.hid hb
      clear hb hg
      go_wp2
      go_ret
      exact ⟨false, rfl, ⟨fun h => (by cases h), fun h => absurd h HF.out⟩, HB.out⟩
end Go.Proofs.YtjeckkkmoabjnaaDoor.satMb
namespace Go.Proofs.YtjeckkkmoabjnaaDoor.satMc
set_option linter.unusedSimpArgs false
set_option linter.unusedVariables false
open Go.ChangeShapes Go.WideShapes Go.ChangeAt Go.RowKit proofP proofQ proofR owns cls satP satA satX satCa satCe satCf satSe proofN proofO proofS proofT proofU satLg satLh satMa satMb
attribute [local go_sem ↓] Go.wp_at_zero Go.wp_at_succ

/-- what Solve answers, in a later world -/
structure Ans (w : World) (cs : List (List Int)) (V : Nat) (asm : List Int) (b r st conf : Int) (mv cv lv : Value) (logs : List (List Int)) : Prop where
  log : ClsAt w w.heap.size lv logs
  ok : LogOk cs V logs
  len : (logs.length : Int) ≤ cmax + 1
  cfl : 0 ≤ conf ∧ conf ≤ cmax
  kind : (st = 1 ∧ cv = .slice none 0 0 ∧ ∃ m, BoolsAt w w.heap.size mv m ∧ m.length = V ∧ allIn cs m = true ∧ ∀ a, a ∈ asm → holds a m = true) ∨
    (st = 2 ∧ mv = .slice none 0 0 ∧ ∃ K l, IntsAt w w.heap.size cv (clz K) ∧ K.Nodup ∧ (∀ x, x ∈ K → 2 ≤ x ∧ x < 2 * V + 2 ∧ litOf x ∈ asm) ∧ logs = l ++ [clz (K.map opp)]) ∨
    (st = 3 ∧ mv = .slice none 0 0 ∧ cv = .slice none 0 0 ∧ b < conf ∧ (r = 0 → b < 2 ^ V))
theorem bools_mono {w : World} {B B' : Nat} (hB : B ≤ B') {v : Value} {l : List Bool} (h : BoolsAt w B v l) : BoolsAt w B' v l := by
  obtain ⟨ao, cap, b, off, rfl, hm, ha, hc⟩ := h
  exact ⟨ao, cap, b, off, rfl, hm, fun h => ⟨(ha h).1, by have := (ha h).2; omega⟩, hc⟩
section
variable {w w' : World} {cs : List (List Int)} {V : Nat} {asm : List Int} {b r st conf : Int} {mv cv lv : Value} {logs : List (List Int)}
theorem Ans.keep (h : Ans w cs V asm b r st conf mv cv lv logs) (hb : Below w.heap.size w w') : Ans w' cs V asm b r st conf mv cv lv logs := by
  refine ⟨(h.log.keep hb).mono hb.size, h.ok, h.len, h.cfl, ?_⟩
  rcases h.kind with ⟨e1, e2, m, hm, h5⟩ | ⟨e1, e2, K, l, hr, h5⟩ | h4
  · exact .inl ⟨e1, e2, m, bools_mono hb.size (hm.keep hb), h5⟩
  · exact .inr (.inl ⟨e1, e2, K, l, (hr.keep hb).mono hb.size, h5⟩)
  · exact .inr (.inr h4)
theorem Ans.yes (h : Ans w cs V asm b r 1 conf mv cv lv logs) : Psb cs V asm := by
  rcases h.kind with ⟨e1, e2, m, hm, h5⟩ | ⟨e1, e2, K, l, hr, h5⟩ | h4
  · exact ⟨m, h5⟩
  · cases e1
  · cases h4.1
theorem Ans.no (h : Ans w cs V asm b r 2 conf mv cv lv logs) (hV : V ≤ 20000) : ¬ Psb cs V asm := by
  rcases h.kind with ⟨e1, e2, m, hm, h5⟩ | ⟨e1, e2, K, l, hr, hn, hK, hl⟩ | h4
  · cases e1
  · have := h.ok
    rw [hl] at this
    exact unsat_no this (fun x hx => ⟨(hK x hx).1, by have := (hK x hx).2.1; omega⟩) fun x hx => (hK x hx).2.2
  · cases h4.1
theorem Ans.three (h : Ans w cs V asm b r st conf mv cv lv logs) : st = 1 ∨ st = 2 ∨ st = 3 := by
  rcases h.kind with ⟨e1, _⟩ | ⟨e1, _⟩ | h4
  · exact .inl e1
  · exact .inr (.inl e1)
  · exact .inr (.inr h4.1)
/-- there was room for all conflicts -/
theorem Ans.nolim (h : Ans w cs V asm b r st conf mv cv lv logs) (hb : cmax ≤ b) : st = 1 ∨ st = 2 := by
  rcases h.kind with ⟨e1, _⟩ | ⟨e1, _⟩ | h4
  · exact .inl e1
  · exact .inr e1
  · have := h.cfl.2
    have := h4.2.2.2.1
    omega
theorem bools_of {w : World} {B : Nat} {e : TypeId} {v : Value} {l : List Bool} (h : w.ownsRow B e 1 v l.length (l.map Value.bool)) : BoolsAt w w.heap.size v l := by
  rcases h.2 with ⟨rfl, h0⟩ | ⟨g, cap, cur, rfl, hb, hg, hn, hm, hc, ht⟩
  · obtain rfl : l = [] := List.length_eq_zero_iff.1 h0
    exact ⟨none, 0, 0, 0, rfl, Nat.zero_le _, fun h => absurd rfl h, fun i hi => absurd hi (Nat.not_lt_zero _)⟩
  · refine ⟨_, cap, g, 0, rfl, by omega, fun _ => ⟨rfl, (Array.getElem?_eq_some_iff.1 hg).1⟩, fun i hi => ?_⟩
    have := World.ownsRow.cellAt h i (by omega)
    rw [Nat.zero_add, this, List.getElem?_map, List.getElem?_eq_getElem hi, List.getD_eq_getElem?_getD, List.getElem?_eq_getElem hi]; rfl
def AnsP (cs : List (List Int)) (V : Nat) (asm : List Int) (b r : Int) (w : World) (e : Ending) (w' : World) : Prop :=
  ∃ st conf a1 n1 c1 a2 n2 c2 a3 n3 c3 logs, e = .returned (.tuple #[.agg #[.int .i64 st, .slice a1 n1 c1, .slice a2 n2 c2, .slice a3 n3 c3, .int .i64 conf], .nilIface]) ∧ Ans w' cs V asm b r st conf (.slice a1 n1 c1) (.slice a2 n2 c2) (.slice a3 n3 c3) logs ∧ Below w.heap.size w w'
/-- as AnsP, and a model's memory is new -/
def AnsN (cs : List (List Int)) (V : Nat) (asm : List Int) (b r : Int) (w : World) (e : Ending) (w' : World) : Prop :=
  ∃ st conf a1 n1 c1 a2 n2 c2 a3 n3 c3 logs, e = .returned (.tuple #[.agg #[.int .i64 st, .slice a1 n1 c1, .slice a2 n2 c2, .slice a3 n3 c3, .int .i64 conf], .nilIface]) ∧ Ans w' cs V asm b r st conf (.slice a1 n1 c1) (.slice a2 n2 c2) (.slice a3 n3 c3) logs ∧ Below w.heap.size w w' ∧ ∀ bk, (Value.slice a1 n1 c1).ownBlock = some bk → w.heap.size ≤ bk
theorem solve_new {B : Nat} {cv av : Value} (V : Nat) (r k b : Int) (re : Bool) (a1 a2 : Addr) (hc : ClsAt w B cv cs) (ha : IntsAt w B av asm) (hB : B ≤ w.heap.size) (hg : 11 < w.heap.size) (g9 : w.cell? ⟨9, 0, none⟩ = some (evl a1)) (g11 : w.cell? ⟨11, 0, none⟩ = some (evl a2)) (hF : Fine (V : Int) cs asm r k b) (hV : V ≤ 20) (hk : k ≤ 9223372036854775807) (hcl : ∀ c, c ∈ cs → c.length ≤ 100000) (hal : asm.length ≤ 100000) :
    Calls Tryd.prog 9 #[cv, .int .i64 V, av, .agg #[.int .i64 r, .int .i64 k, .bool re, .int .i64 b]] w (AnsN cs V asm b r w) := by
  refine (solve_ok V r k b re a1 a2 hc ha hB hg g9 g11 hF hV hk hcl hal).mono ?_
  rintro e w' ⟨res, wr, rfl, hs, hb, hR⟩
  obtain ⟨st, conf, x1, n1, c1, x2, n2, c2, x3, n3, c3, he⟩ := RunOut.form hR
  obtain ⟨st', conf', mv, cv', lv, logs, he2, hk, hl, _, h1, h2, h3, h4⟩ := hR
  cases he
  injection he2 with he2
  injection he2 with he2
  simp only [Array.mk.injEq, List.cons.injEq, Value.int.injEq, true_and, and_true] at he2
  obtain ⟨e1, e2, e3, e4, e5⟩ := he2
  subst e1 e2 e3 e4 e5
  have hnew : ∀ bk, (Value.slice x1 n1 c1).ownBlock = some bk → w.heap.size ≤ bk := fun bk hbk => by
    rcases h4 with ⟨_, _, T, hr, _⟩ | ⟨_, e2, _⟩ | ⟨_, e2, _⟩
    · exact Nat.le_trans hs (hr.lt bk hbk).1
    · rw [e2] at hbk; cases hbk
    · rw [e2] at hbk; cases hbk
  refine ⟨st, conf, x1, n1, c1, x2, n2, c2, x3, n3, c3, logs, rfl, ⟨hk.at, hl, h3, ⟨h1, h2⟩, ?_⟩, hb, hnew⟩
  rcases h4 with ⟨e1, e2, T, hr, t1, t2, t3, t4, t5⟩ | ⟨e1, e2, K, l, hr, k1, k2, k3⟩ | h4
  · have hm := mod_is (T := T) hF.c hF.a (by omega) t2 t3 t4 t5
    rw [mdl_mod] at hr
    refine .inl ⟨e1, e2, mod T V, bools_of (by rw [mod_len]; exact hr), mod_len, hm.1, hm.2⟩
  · refine .inr (.inl ⟨e1, e2, K, l, IntsAt.ofRow hr fun x hx => ?_, k1, fun x hx => ?_, k3⟩)
    · obtain ⟨y, hy, rfl⟩ := clz_mem.1 hx
      have := row_rng hF.a y (k2 y hy)
      unfold In64 litOf
      split <;> omega
    · have h1 := row_rng hF.a x (k2 x hx)
      exact ⟨h1.1, h1.2, ((row_is asm).lit (k2 x hx)).1⟩
  · exact .inr (.inr h4)
theorem solve_ans {B : Nat} {cv av : Value} (V : Nat) (r k b : Int) (re : Bool) (a1 a2 : Addr) (hc : ClsAt w B cv cs) (ha : IntsAt w B av asm) (hB : B ≤ w.heap.size) (hg : 11 < w.heap.size) (g9 : w.cell? ⟨9, 0, none⟩ = some (evl a1)) (g11 : w.cell? ⟨11, 0, none⟩ = some (evl a2)) (hF : Fine (V : Int) cs asm r k b) (hV : V ≤ 20) (hk : k ≤ 9223372036854775807) (hcl : ∀ c, c ∈ cs → c.length ≤ 100000) (hal : asm.length ≤ 100000) :
    Calls Tryd.prog 9 #[cv, .int .i64 V, av, .agg #[.int .i64 r, .int .i64 k, .bool re, .int .i64 b]] w (AnsP cs V asm b r w) := by
  refine (solve_new V r k b re a1 a2 hc ha hB hg g9 g11 hF hV hk hcl hal).mono ?_
  rintro e w' ⟨st, conf, x1, n1, c1, x2, n2, c2, x3, n3, c3, logs, rfl, h1, h2, _⟩
  exact ⟨st, conf, x1, n1, c1, x2, n2, c2, x3, n3, c3, logs, rfl, h1, h2⟩
end
end Go.Proofs.YtjeckkkmoabjnaaDoor.satMc
