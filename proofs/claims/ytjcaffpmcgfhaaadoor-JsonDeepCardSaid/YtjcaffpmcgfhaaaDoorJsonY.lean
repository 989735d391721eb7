/-
  The law JsonDeep: the plain law of a deep text (Arrays and Objects within one another, a 7 innermost), then the walk.
-/
import Derived.Test.YtjcaffpmcgfhaaaDoorJsonV
import Derived.Test.YtjcaffpmcgfhaaaDoorCountQ
import Derived.Test.YtjcaffpmcgfhaaaDoorDepthQ
namespace Go.Proofs.YtjcaffpmcgfhaaaDoor.jsonX
open Go.ChangeShapes Go.WideShapes Go.ChangeAt Go.RowKit Go.WideMaps Go.Maps nodeP nodeQ nodeS ownI jsonP jsonM jsonA jsonB errs errIs runesE quoteB jsonF jsonI jsonL jsonQ jsonR jsonS jsonT jsonU
set_option linter.unusedSimpArgs false
set_option linter.unusedVariables false

def kk : ByteArray := ⟨#[107]⟩
theorem kk_vld : vld kk = true := by decide +kernel
theorem kk_qt : quoteP.qt kk.data.toList = [34, 107, 34] := by decide +kernel
def nest : List Bool → Nd
  | [] => .mk 4 7 ByteArray.empty [] []
  | true :: r => .mk 6 0 ByteArray.empty [] [nest r]
  | false :: r => .mk 7 0 ByteArray.empty [kk] [nest r]
def pa (b : Bool) : List UInt8 := if b then [91] else [123, 34, 107, 34, 58]
def pb (b : Bool) : List UInt8 := if b then [93] else [125]
def fA (l : List Bool) : List UInt8 := l.flatMap pa
def fB (l : List Bool) : List UInt8 := l.reverse.flatMap pb
theorem fA_snoc (l : List Bool) (b : Bool) : fA (l ++ [b]) = fA l ++ pa b := by simp [fA]
theorem fB_snoc (l : List Bool) (b : Bool) : fB (l ++ [b]) = pb b ++ fB l := by simp [fB]
theorem fB_cons (l : List Bool) (b : Bool) : fB (b :: l) = fB l ++ pb b := by simp [fB]
theorem seven : Lib.itoa 7 = [55] := by decide +kernel
theorem pa_len (b : Bool) : (pa b).length ≤ 5 := by cases b <;> decide
theorem pb_len (b : Bool) : (pb b).length = 1 := by cases b <;> decide
theorem fA_len (l : List Bool) : (fA l).length ≤ 5 * l.length := by
  induction l with
  | nil => exact Nat.le_refl _
  | cons b l ih =>
    have := pa_len b
    have e : fA (b :: l) = pa b ++ fA l := by simp [fA]
    rw [e, List.length_append, List.length_cons]; omega
theorem fB_len (l : List Bool) : (fB l).length = l.length := by
  induction l with
  | nil => rfl
  | cons b l ih => rw [fB_cons, List.length_append, pb_len, ih]; rfl
theorem tx_nest (l : List Bool) : tx (nest l) = fA l ++ [55] ++ fB l := by
  induction l with
  | nil =>
    simp only [nest, tx]
    rw [if_neg (by decide), if_neg (by decide), if_neg (by decide), if_pos trivial, seven]; rfl
  | cons b l ih =>
    rw [fB_cons]
    cases b
    · simp only [nest, tx, txo, sep]
      rw [if_neg (by decide), if_neg (by decide), if_neg (by decide), if_neg (by decide), if_neg (by decide), if_neg (by decide), ih, kk_qt]
      simp [fA, pa, pb]
    · simp only [nest, tx, txs, sep]
      rw [if_neg (by decide), if_neg (by decide), if_neg (by decide), if_neg (by decide), if_neg (by decide), if_pos trivial, ih]
      simp [fA, pa, pb]
theorem nest_count (l : List Bool) : count (nest l) = l.length + 1 := by
  induction l with
  | nil => rfl
  | cons b l ih => cases b <;> (simp only [nest, count, counts, ih, List.length_cons]; omega)
theorem nest_dp (l : List Bool) : dp (nest l) = l.length := by
  induction l with
  | nil => rfl
  | cons b l ih => cases b <;> (simp only [nest, dp, dps, ih, List.length_cons]; omega)
theorem nest_fit (l : List Bool) : Fit (nest l) := by
  induction l with
  | nil => exact .mk _ _ _ _ _ (by unfold In64; omega) (fun c hc => by cases hc)
  | cons b l ih => cases b <;> exact .mk _ _ _ _ _ (by unfold In64; omega) (fun c hc => by rw [List.mem_singleton.1 hc]; exact ih)
theorem nest_ok (l : List Bool) : ∀ d, d + l.length ≤ 32 → okAt (nest l) d = true := by
  induction l with
  | nil => intro d _; rfl
  | cons b l ih =>
    intro d hd
    rw [List.length_cons] at hd
    have h1 := ih (d + 1) (by omega)
    have h2 : decide (d < 32) = true := by simp; omega
    cases b
    · simp only [nest, okAt, oks, one, h1, h2, rk]
      have h3 : ([kk].all vld) = true := by simp [kk_vld]
      rw [h3]; rfl
    · simp only [nest, okAt, oks, one, h1, h2, rk]; rfl
theorem nest_hd (l : List Bool) (t : List UInt8) : tx (nest l) ++ t ≠ [] ∧ (hd (tx (nest l) ++ t) = 91 ∨ hd (tx (nest l) ++ t) = 123 ∨ hd (tx (nest l) ++ t) = 55) := by
  rw [tx_nest]
  cases l with
  | nil => exact ⟨by simp [fA], .inr (.inr rfl)⟩
  | cons b l => cases b <;> exact ⟨by simp [fA, pa], by simp [fA, pa, hd]⟩
theorem nest_bs (l : List Bool) (t : List UInt8) : bs (tx (nest l) ++ t) = tx (nest l) ++ t := by
  obtain ⟨h1, h2⟩ := nest_hd l t
  exact bs_id h1 (by omega)
theorem deep_err (l : List Bool) : ∀ (d n : Nat) (t : List UInt8), d ≤ 32 → 32 < d + l.length → n + l.length < 20000 → rv d n (tx (nest l) ++ t) = .err 2 := by
  induction l with
  | nil => intro d n t h1 h2; simp at h2; omega
  | cons b l ih =>
    intro d n t h1 h2 h3
    rw [List.length_cons] at h2 h3
    rw [rv_eq, nest_bs, if_neg (nest_hd _ t).1, if_neg (by omega)]
    have ht : ∃ v, tx (nest l) ++ (pb b ++ t) = v := ⟨_, rfl⟩
    obtain ⟨g1, g2⟩ := nest_hd l (pb b ++ t)
    cases b
    · have e : tx (nest (false :: l)) ++ t = 123 :: ([34, 107, 34] ++ (58 :: (tx (nest l) ++ (pb false ++ t)))) := by
        rw [tx_nest, tx_nest, fB_cons]; simp [fA, pa]
      have hh : hd (123 :: ([34, 107, 34] ++ (58 :: (tx (nest l) ++ (pb false ++ t))))) = 123 := rfl
      rw [e, hh, if_pos (.inr rfl)]
      by_cases hd32 : d = 32
      · rw [if_pos hd32]
      have hb : bs ([34, 107, 34] ++ (58 :: (tx (nest l) ++ (pb false ++ t)))) = [34, 107, 34] ++ (58 :: (tx (nest l) ++ (pb false ++ t))) := bs_id (by simp) (by show 34 ≠ 9 ∧ 34 ≠ 10 ∧ 34 ≠ 13 ∧ 34 ≠ 32; decide)
      rw [if_neg hd32, List.tail_cons, hb, if_neg (fun h => absurd h.2 (by show ¬ (34 : Nat) = 125; decide)), rr_eq, if_pos (show decide ((123 : Nat) = 123) = true from rfl), hb]
      have hs := stk_qt kk_vld (58 :: (tx (nest l) ++ (pb false ++ t)))
      rw [kk_qt] at hs
      rw [hs]
      dsimp only
      have hdr : ([34, 107, 34] ++ (58 :: (tx (nest l) ++ (pb false ++ t)))).drop ([34, 107, 34] : List UInt8).length = 58 :: (tx (nest l) ++ (pb false ++ t)) := rfl
      have hb2 : bs (58 :: (tx (nest l) ++ (pb false ++ t))) = 58 :: (tx (nest l) ++ (pb false ++ t)) := bs_id (by simp) (by show 58 ≠ 9 ∧ 58 ≠ 10 ∧ 58 ≠ 13 ∧ 58 ≠ 32; decide)
      rw [if_neg (show ¬ inK _ [] = true by simp [inK]), hdr, hb2, if_neg (by rintro (h | h); cases h; exact h rfl), List.tail_cons, ih (d + 1) (n + 1) _ (by omega) (by omega) (by omega)]
    · have e : tx (nest (true :: l)) ++ t = 91 :: (tx (nest l) ++ (pb true ++ t)) := by
        rw [tx_nest, tx_nest, fB_cons]; simp [fA, pa]
      have hh : hd (91 :: (tx (nest l) ++ (pb true ++ t))) = 91 := rfl
      rw [e, hh, if_pos (.inl rfl)]
      by_cases hd32 : d = 32
      · rw [if_pos hd32]
      rw [if_neg hd32, List.tail_cons, nest_bs, if_neg (fun h => by
        have h4 := h.2
        have h5 : (Fr.mk (decide ((91 : Nat) = 123)) [] []).close = 93 := rfl
        rw [h5] at h4; omega), rr_eq, if_neg (by simp), ih (d + 1) (n + 1) _ (by omega) (by omega) (by omega)]
/-- what Parse answers -/
theorem deep_out (l : List Bool) (hl : l.length ≤ 100) : pOut (fA l ++ [55] ++ fB l) = if l.length ≤ 32 then (nest l, 0) else (word 0, 2) := by
  have hA := fA_len l
  have hB := fB_len l
  unfold pOut
  rw [if_neg (by simp only [List.length_append, List.length_cons, List.length_nil]; omega), ← tx_nest]
  by_cases h : l.length ≤ 32
  · rw [if_pos h, parse_tx (nest_fit l) (nest_ok l 0 (by omega)) (by rw [nest_count]; omega)]
  · rw [if_neg h]
    have := deep_err l 0 0 [] (by omega) (by omega) (by omega)
    rw [List.append_nil] at this
    unfold parseJ
    rw [this]
end Go.Proofs.YtjcaffpmcgfhaaaDoor.jsonX

namespace Go.Proofs.YtjcaffpmcgfhaaaDoor.jsonY
open Go.ChangeShapes Go.WideShapes Go.ChangeAt Go.RowKit Go.WideMaps Go.Maps nodeP nodeQ nodeS ownI jsonP jsonM jsonA jsonB errs errIs runesE quoteB jsonF jsonI jsonL jsonQ jsonR jsonS jsonT jsonU jsonX
set_option linter.unusedSimpArgs false
set_option linter.unusedVariables false

/-- a slice of truth values that came in -/
def ArgB (w : World) (v : Value) (ks : List Bool) : Prop :=
  ∃ ao cap, v = .slice ao ks.length cap ∧ ks.length ≤ maxLen ∧ ∀ i, i < ks.length → ∃ b off, ao = some ⟨b, off, none⟩ ∧ w.cell? ⟨b, off + i, none⟩ = some (.bool (ks.getD i false))

section
variable {H : Type} {enc : TypeId × Value → H} {P : Program} {w : World} {base : Nat} {spare : Nat → Bool} {held : Bool}
def boolOf (y : DataW H × List MemPlace) : Bool := match y.1 with | .lit (.bool b) => b | _ => false
theorem open_bools {t e : TypeId} {fuel : Nat} {cs : List Value} {x : DataW H × List MemPlace} (ht : P.underlying t = some (.slice e)) (he : P.underlying e = some .bool) (hc : P.cellsOf e = 1)
    (h : DataW.trod enc P w base spare held fuel t cs = some x) :
    cs = [.slice none 0 0] ∨
    ∃ (a : Addr) (len cap : Nat) (bs : List Bool), cs = [.slice (some a) len cap] ∧ bs.length = len ∧ len ≤ maxLen ∧ ∀ i, i < bs.length → w.cell? (a.add i) = some (.bool (bs.getD i false)) := by
  rcases DataW.trod_slice ht h with h0 | ⟨a, len, cap, elems, rest, n, _, rfl, rfl, hb, hl, hm, hlen, hel, hsp, hns⟩
  · exact Or.inl h0.1
  right
  refine ⟨a, len, cap, elems.map boolOf, rfl, by simp [hlen], by omega, fun i hi => ?_⟩
  simp only [List.length_map] at hi
  have hy : elems[i]? = some (elems[i]'hi) := List.getElem?_eq_getElem hi
  have hb' := hel i (by omega)
  rw [hy, hc, Nat.mul_one, Option.bind_eq_some_iff] at hb'
  obtain ⟨cs', hcs, hy'⟩ := hb'
  obtain ⟨m, rfl, hx⟩ := DataW.trod_bool he hy'
  have e : (elems.map boolOf).getD i false = m := by rw [List.getD, List.getElem?_map, hy, hx]; rfl
  rw [e]
  exact cell_of_cells?_one hcs
end

set_option maxRecDepth 100000 in
theorem argB_of {H : Type} {enc : TypeId × Value → H} {W : World} {base : Nat} {v : Value} {d : DataW H} {ps : List MemPlace} (ok : Value.okWide Tryd.prog W .any base 38 v)
    (h : DataW.Trod enc Tryd.prog W 0 (fun _ => true) true 38 v d ps) : ∃ ks, ArgB W v ks := by
  obtain ⟨a0, len, cap, rfl⟩ := okWide_slice Tryd.underlying38 ok
  obtain ⟨fuel, hf⟩ := h
  rcases open_bools Tryd.underlying38 Tryd.underlying4 (by kernel_rfl) hf with hcs | ⟨a, l, c, zs, hcs, hl, hm, hcell⟩
  · simp [Value.cells] at hcs
    obtain ⟨rfl, rfl, rfl⟩ := hcs
    exact ⟨[], none, 0, rfl, Nat.zero_le _, fun i hi => absurd hi (Nat.not_lt_zero _)⟩
  · simp [Value.cells] at hcs
    obtain ⟨rfl, rfl, rfl⟩ := hcs
    refine ⟨zs, some a, cap, by rw [hl], by rw [hl]; omega, fun i hi => ?_⟩
    obtain ⟨b, off, spot⟩ := a
    have hspot : spot = none := by simpa [Addr.add] using World.cell?_spot (hcell 0 (by omega))
    subst hspot
    refine ⟨b, off, rfl, ?_⟩
    have := hcell i (by omega)
    rwa [show (⟨b, off, none⟩ : Addr).add i = ⟨b, off + i, none⟩ from by unfold Addr.add; split <;> simp_all] at this

theorem neqlE (w : World) (a : Addr) : (binOp .eql 30 (ev a) .nilIface).run Tryd.prog w = .ok (.bool false) w := by kernel_rfl
def bA (l : List Bool) : ByteArray := ⟨(fA l).toArray⟩
def bB (l : List Bool) : ByteArray := ⟨(fB l).toArray⟩
theorem bA_t (l : List Bool) : bA (l ++ [true]) = bA l ++ ⟨#[91]⟩ := by
  unfold bA; rw [fA_snoc]; apply ByteArray.ext; simp [pa, ByteArray.data_append]
theorem bA_f (l : List Bool) : bA (l ++ [false]) = bA l ++ ⟨#[123, 34, 107, 34, 58]⟩ := by
  unfold bA; rw [fA_snoc]; apply ByteArray.ext; simp [pa, ByteArray.data_append]
theorem bB_t (l : List Bool) : bB (l ++ [true]) = ⟨#[93]⟩ ++ bB l := by
  unfold bB; rw [fB_snoc]; apply ByteArray.ext; simp [pb, ByteArray.data_append]
theorem bB_f (l : List Bool) : bB (l ++ [false]) = ⟨#[125]⟩ ++ bB l := by
  unfold bB; rw [fB_snoc]; apply ByteArray.ext; simp [pb, ByteArray.data_append]
theorem bA_len (l : List Bool) : (bA l).size ≤ 5 * l.length := by have := fA_len l; show (fA l).toArray.size ≤ _; rw [List.size_toArray]; exact this
theorem bB_len (l : List Bool) : (bB l).size = l.length := by have := fB_len l; show (fB l).toArray.size = _; rw [List.size_toArray]; exact this
theorem all_bytes (l : List Bool) : ((bA l ++ ⟨#[55]⟩) ++ bB l).data.toList = fA l ++ [55] ++ fB l := by simp [bA, bB, ByteArray.data_append]

set_option maxRecDepth 100000 in
set_option maxHeartbeats 4000000 in
theorem deep_big (v : Value) (ks : List Bool) (w : World) (ad : Nat → Addr) (hv : ArgB w v ks) (hT : Tabs w) (hE : Errs w ad) (hR : intsC.Rng w) (h : 100 < ks.length) :
    Calls Tryd.prog 5 #[v] w fun e w' => e = .returned (.bool true) ∧ Below w.heap.size w w' := by
  have HA := Lib.hid (jsonV.alive w ad hT hE hR)
  obtain ⟨ao, cap, rfl, hm, _⟩ := hv
  generalize ks.length = len at *
  clear hT hE hR
  have g1 : (100 : Int) < len := by omega
  clear h
  go_enter Tryd.func5, Tryd.ntmps5
  go_wp2_with fail
  refine HA.out.mono ?_
  rintro e w0 ⟨rfl, hb0⟩
  have HB0 := Lib.hid hb0
  clear hb0
  go_wp2
  go_ret
  exact ⟨rfl, HB0.out⟩

set_option maxRecDepth 100000 in
set_option maxHeartbeats 8000000 in
theorem deep_small (v : Value) (ks : List Bool) (w : World) (ad : Nat → Addr) (hv : ArgB w v ks) (hT : Tabs w) (hE : Errs w ad) (hR : intsC.Rng w) (hl : ks.length ≤ 100) :
    Calls Tryd.prog 5 #[v] w fun e w' => e = .returned (.bool true) ∧ Below w.heap.size w w' := by
  have HA := Lib.hid (jsonV.alive w ad hT hE hR)
  obtain ⟨ao, cap, rfl, hm, hcell⟩ := hv
  have HC := Lib.hid hcell
  have HT := Lib.hid hT
  have HE := Lib.hid hE
  have HR := Lib.hid hR
  generalize hlen : ks.length = len at *
  have HLEN := Lib.hid hlen
  have g1 : ¬ (100 : Int) < len := by omega
  have d1 : decide ((100 : Int) < len) = false := decide_eq_false g1
  have HO := Lib.hid (deep_out ks (by omega))
  rw [hlen] at HO
  clear hcell hT hE hR hlen hm
  go_enter Tryd.func5, Tryd.ntmps5
  go_wp2_with fail
  refine HA.out.mono ?_
  rintro e w0 ⟨rfl, hb0⟩
  have HB0 := Lib.hid hb0
  clear hb0
  go_wp2
  go_loopw [3, 4, 6, 16] (fun a b _ i wr => ∃ (k : Nat), k ≤ len ∧ i = .int .i64 k ∧ a = .string (bA (ks.take k)) ∧ b = .string (bB (ks.take k)) ∧ Below w.heap.size w wr) (fun _ _ _ i _ => len - (intOf i).toNat)
  case atStart => exact ⟨0, Nat.zero_le _, rfl, rfl, rfl, HB0.out⟩
  case round =>
    obtain ⟨k, hk, rfl, rfl, rfl, hb⟩ := hrel
    have HB := Lib.hid hb
    clear hb
    by_cases hlt : k < len
    · obtain ⟨b0, off0, rfl, hc0⟩ := HC.out k hlt
      have hcw : wr.cell? ⟨b0, off0 + k, none⟩ = some (.bool (ks.getD k false)) := by
        rw [HB.out.cell (World.block_lt_of_cell? w _ hc0)]; exact hc0
      have hks : ks.take (k + 1) = ks.take k ++ [ks.getD k false] := by
        have hl2 : k < ks.length := by rw [HLEN.out]; exact hlt
        rw [List.take_succ_eq_append_getElem hl2, List.getD_eq_getElem?_getD, List.getElem?_eq_getElem hl2]; rfl
      have HN : Hid (Value.string (bA (ks.take (k + 1))) = .string (bA (ks.take k) ++ (if ks.getD k false then ⟨#[91]⟩ else ⟨#[123, 34, 107, 34, 58]⟩)) ∧ Value.string (bB (ks.take (k + 1))) = .string ((if ks.getD k false then ⟨#[93]⟩ else ⟨#[125]⟩) ++ bB (ks.take k))) := Lib.hid (by
        rw [hks]; cases ks.getD k false
        · exact ⟨congrArg _ (bA_f _), congrArg _ (bB_f _)⟩
        · exact ⟨congrArg _ (bA_t _), congrArg _ (bB_t _)⟩)
      have hsA : (bA (ks.take k)).size ≤ 500 := by have := bA_len (ks.take k); rw [List.length_take] at this; omega
      have hsB : (bB (ks.take k)).size ≤ 100 := by have := bB_len (ks.take k); rw [List.length_take] at this; omega
      generalize bA (ks.take k) = A at *
      generalize bB (ks.take k) = B at *
      generalize hz : ks.getD k false = z at *
      clear hc0 hks hz
      cases z
      · have hN := HN.out
        simp only [Bool.false_eq_true, if_false] at hN
        have HN2 := Lib.hid hN
        clear hN HN
        go_wp2
        go_roundw
        case rel => exact ⟨k + 1, by omega, by go_num, HN2.out.1.symm, HN2.out.2.symm, HB.out⟩
        case measure => simp [intOf]; omega
      · have hN := HN.out
        simp only [if_true] at hN
        have HN2 := Lib.hid hN
        clear hN HN
        go_wp2
        go_roundw
        case rel => exact ⟨k + 1, by omega, by go_num, HN2.out.1.symm, HN2.out.2.symm, HB.out⟩
        case measure => simp [intOf]; omega
    · obtain rfl : k = len := by omega
      have hks : ks.take k = ks := List.take_of_length_le (by rw [HLEN.out]; exact Nat.le_refl _)
      rw [hks]
      have hsA : (bA ks).size ≤ 500 := by have := bA_len ks; rw [HLEN.out] at this; omega
      have hsB : (bB ks).size ≤ 100 := by have := bB_len ks; rw [HLEN.out] at this; omega
      have hs1 : ((bA ks ++ (⟨#[55]⟩ : ByteArray)) ++ bB ks).size ≤ 601 := by
        rw [ByteArray.size_append, ByteArray.size_append]; show _ + 1 + _ ≤ 601; omega
      have hP := jsonL.parse_any ((bA ks ++ (⟨#[55]⟩ : ByteArray)) ++ bB ks) wr ad (tabs_below HT.out HB.out) (HE.out.below HB.out) (intsC.rng_below HR.out HB.out) (by omega)
      rw [all_bytes, HO.out] at hP
      have HP := Lib.hid hP
      generalize bA ks = A at *
      generalize bB ks = B at *
      clear hP hks hlt
      go_wp2_with fail
      refine HP.out.mono ?_
      rintro e w1 ⟨v, he, hB1, hX1⟩
      by_cases h32 : k ≤ 32
      · have h32i : ¬ (32 : Int) < k := by omega
        rw [if_pos h32] at he hX1
        dsimp only at he hX1
        rw [show intsC.errV ad 0 = .nilIface from rfl] at he
        obtain ⟨k', m', t', b1, e1, g1', b2, e2, g2⟩ := v
        dsimp only at he
        subst he
        have hba : Below w1.heap.size w1 (w1.alloc (.cells #[.int .i64 k', .int .i64 m', .string t', .slice b1 e1 g1', .slice b2 e2 g2] 28)) := (Below.refl _ _).alloc (Nat.le_refl _) _
        have HB2 := Lib.hid ((HB.out.trans (hB1.mono HB.out.size)).trans (hba.mono (Nat.le_trans HB.out.size hB1.size)))
        have HX2 := Lib.hid (nodeA.stays hX1 hba)
        have hD := depthQ.jdepth_any (nest ks) _ _ HX2.out (by rw [nest_count, HLEN.out]; omega) (by rw [nest_dp, HLEN.out]; omega)
        rw [nest_dp, HLEN.out] at hD
        have HD := Lib.hid hD
        have hnl := jsonV.neqlN
        clear hD hX1 hB1 hba HP
        go_wp2_with fail
        refine HD.out.mono ?_
        rintro e w3 ⟨rfl, hB3⟩
        have HB3 := Lib.hid (HB2.out.trans (hB3.mono HB2.out.size))
        have HX3 := Lib.hid (nodeA.stays HX2.out hB3)
        have a0 := hB3.cell (p := ⟨w1.heap.size, 0, none⟩) (by simp)
        have a1 := hB3.cell (p := ⟨w1.heap.size, 1, none⟩) (by simp)
        have a2 := hB3.cell (p := ⟨w1.heap.size, 2, none⟩) (by simp)
        have a3 := hB3.cell (p := ⟨w1.heap.size, 3, none⟩) (by simp)
        have a4 := hB3.cell (p := ⟨w1.heap.size, 4, none⟩) (by simp)
        simp at a0 a1 a2 a3 a4
        have hC := countQ.count_any (nest ks) _ _ HX3.out (by rw [nest_count, HLEN.out]; omega)
        rw [nest_count, HLEN.out] at hC
        have HCn := Lib.hid hC
        clear hC hB3 HD
        go_wp2_with fail
        refine HCn.out.mono ?_
        rintro e w4 ⟨rfl, hB4⟩
        have HB4 := Lib.hid (HB3.out.trans (hB4.mono HB3.out.size))
        clear hB4
        go_wp2
        go_ret
        exact ⟨rfl, HB4.out⟩
      · have h32i : (32 : Int) < k := by omega
        rw [if_neg h32] at he hX1
        dsimp only at he hX1
        rw [show intsC.errV ad 2 = ev (ad 1) from rfl] at he
        obtain ⟨k', m', t', b1, e1, g1', b2, e2, g2⟩ := v
        dsimp only at he
        subst he
        have hba : Below w1.heap.size w1 (w1.alloc (.cells #[.int .i64 k', .int .i64 m', .string t', .slice b1 e1 g1', .slice b2 e2 g2] 28)) := (Below.refl _ _).alloc (Nat.le_refl _) _
        have HB2 := Lib.hid ((HB.out.trans (hB1.mono HB.out.size)).trans (hba.mono (Nat.le_trans HB.out.size hB1.size)))
        have HNM := Lib.hid (num_err _ ad (HE.out.below HB2.out) 1 (by decide))
        clear hX1 hB1 hba HP
        go_wp2_with fail
        refine HNM.out.mono ?_
        rintro e w4 ⟨rfl, hB4⟩
        have HB4 := Lib.hid (HB2.out.trans (hB4.mono HB2.out.size))
        clear hB4
        go_wp2
        go_ret
        exact ⟨rfl, HB4.out⟩

theorem law_deep (v : Value) (w : World) (ad : Nat → Addr) (hv : ∃ ks, ArgB w v ks) (hT : Tabs w) (hE : Errs w ad) (hR : intsC.Rng w) :
    Calls Tryd.prog 5 #[v] w fun e w' => e = .returned (.bool true) ∧ Below w.heap.size w w' := by
  obtain ⟨ks, hv⟩ := hv
  by_cases h : ks.length ≤ 100
  · exact deep_small v ks w ad hv hT hE hR h
  · exact deep_big v ks w ad hv hT hE hR (by omega)
end Go.Proofs.YtjcaffpmcgfhaaaDoor.jsonY
