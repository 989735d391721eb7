/-
  The law JsonBlanks: the plain law of blanks about a text, then the walk.
-/
import Derived.Test.YtjcaffpmcgfhaaaDoorJsonV
import Derived.Test.YtjcaffpmcgfhaaaDoorSameQ
import Derived.Test.YtjcaffpmcgfhaaaDoorHeld2
import Derived.Test.YtjcaffpmcgfhaaaDoorDepthQ
namespace Go.Proofs.YtjcaffpmcgfhaaaDoor.jsonZ
open Go.ChangeShapes Go.WideShapes Go.ChangeAt Go.RowKit Go.WideMaps Go.Maps nodeP nodeQ nodeS ownI jsonP jsonM jsonA jsonB errs errIs runesE quoteB jsonF jsonI jsonL jsonQ jsonR jsonS jsonT jsonU
set_option linter.unusedSimpArgs false
set_option linter.unusedVariables false

def CL (n : Nat) (u : List UInt8) (r : R3) : Prop := match r with
  | .ok _ v m => m + v.length ≤ n + u.length
  | _ => True
theorem cl_of {n n' : Nat} {u u' : List UInt8} {r : R3} (h : CL n u r) (hl : n + u.length ≤ n' + u'.length) : CL n' u' r := by
  cases r with
  | ok x v m => exact Nat.le_trans h hl
  | err e => trivial
  | stuck => trivial
theorem few (N : Nat) : (∀ d n u, u.length ≤ N → CL n u (rv d n u)) ∧ (∀ d n u g, u.length ≤ N → CL n u (rr d n u g)) ∧ (∀ d m v g, v.length ≤ N + 1 → CL m v (rt d m v g)) := by
  refine rd_ind (MV := fun _ n u r => CL n u r) (MK := fun _ n u _ r => CL n u r) (MT := fun _ m v _ r => CL m v r) ?_ ?_ ?_ ?_ ?_ ?_ ?_ ?_ ?_ ?_ ?_ ?_ ?_ ?_ ?_ ?_ ?_ ?_ N
  · intros; trivial
  · intros; trivial
  · intros; trivial
  · intro d n u h1 h2 h3 h4 h5 h6
    have a1 := bs_len u
    have a2 := tail_len h1
    have a3 := bs_len (bs u).tail
    have a4 := tail_len h5
    show n + 1 + _ ≤ _
    omega
  · intro d n u r h1 h2 h3 h4 h5 hr
    have a1 := bs_len u
    have a2 := tail_len h1
    have a3 := bs_len (bs u).tail
    exact cl_of hr (by omega)
  · intros; trivial
  · intro d n u h1 h2 h3 h4
    have a1 := bs_len u
    obtain ⟨s1, s2, _⟩ := scal_ok h4 0
    show n + 1 + _ ≤ _
    rw [List.length_drop]; omega
  · intros; trivial
  · intros; trivial
  · intros; trivial
  · intros; trivial
  · intro d n u g x k y v m r ho hs hk h1 h2 hv ht
    have a1 := bs_len u
    have a2 := bs_len ((bs u).drop k)
    have a3 := tail_le (bs ((bs u).drop k))
    rw [List.length_drop] at a2
    have hv' : m + v.length ≤ n + (bs ((bs u).drop k)).tail.length := hv
    exact cl_of ht (by omega)
  · intros; trivial
  · intro d n u g y v m r ho hv ht
    exact cl_of ht hv
  · intros; trivial
  · intro d m v g h1 h2
    have a1 := bs_len v
    have a2 := tail_le (bs v)
    show m + _ ≤ _
    omega
  · intro d m v g r h1 h2 h3 hr
    have a1 := bs_len v
    have a2 := tail_le (bs v)
    exact cl_of hr (by omega)
  · intros; trivial
theorem count_le {l : List UInt8} {x : Nd} (h : parseJ l = .ok x) : count x ≤ l.length := by
  obtain ⟨v, hr, _⟩ := parse_ok h
  have := (few l.length).1 0 0 l (Nat.le_refl _)
  rw [hr] at this
  have h2 : count x + v.length ≤ 0 + l.length := this
  omega

/-- what Parse leaves: an error's number, or a value -/
theorem out_parts (l : List UInt8) (hl : l.length ≤ 2000) : ∃ x k, pOut l = (x, k) ∧ k ≤ 13 ∧ count x ≤ 20000 ∧ dp x ≤ 32 ∧ (k = 0 → parseJ l = .ok x ∧ count x ≤ 2000) := by
  unfold pOut
  rw [if_neg (by omega)]
  cases h : parseJ l with
  | ok x =>
    obtain ⟨_, _, _, _, h1, h2⟩ := parse_ok h
    have := count_le h
    exact ⟨x, 0, rfl, by omega, h1, h2, fun _ => ⟨rfl, by omega⟩⟩
  | err k =>
    have := parse_err h
    exact ⟨word 0, k, rfl, this.2, by decide, by decide, fun h0 => by omega⟩
theorem out_bl (a l : List UInt8) (ha : bs a = []) (h1 : l.length ≤ 2000) (h2 : a.length ≤ 20) : pOut (a ++ l ++ a) = pOut l := by
  unfold pOut
  rw [if_neg (by simp only [List.length_append]; omega), if_neg (by omega), parse_bl a a l ha ha]
theorem out_two {l b : List UInt8} {x : Nd} (h : parseJ l = .ok x) (hb : bs b = []) (hd31 : dp x < 31) (hc : count x ≤ 2000) (h1 : l.length ≤ 2000) (h2 : b.length ≤ 20) :
    pOut (91 :: (b ++ (l ++ (b ++ (44 :: (l ++ [93])))))) = (.mk 6 0 ByteArray.empty [] [x, x], 0) := by
  unfold pOut
  rw [if_neg (by simp only [List.length_append, List.length_cons, List.length_nil]; omega), parse_two h hb hd31 (by omega)]
def blk : List UInt8 := [9, 10, 13, 32]
theorem bs_snoc {a : List UInt8} {c : UInt8} (ha : bs a = []) (hc : c ∈ blk) : bs (a ++ [c]) = [] := by
  rw [bs_app0 ha]
  unfold blk at hc
  simp at hc
  rcases hc with rfl | rfl | rfl | rfl <;> rfl

theorem num_any (w : World) (ad : Nat → Addr) (hE : Errs w ad) (k : Nat) (hk : k ≤ 13) :
    Calls Tryd.prog 9 #[intsC.errV ad k] w fun e w' => e = .returned (.int .i64 (k : Int)) ∧ Below w.heap.size w w' := by
  cases k with
  | zero =>
    refine (num_nil w).mono ?_
    rintro e w' ⟨he, rfl⟩
    exact ⟨he, Below.refl _ _⟩
  | succ k =>
    refine (num_err w ad hE k (by omega)).mono ?_
    rintro e w' ⟨he, hb⟩
    exact ⟨he, hb⟩
theorem u_rem20 (z : Int) : ∃ (U : Int) (dd : Nat), dd < 20 ∧ (∀ w, (convert 3 23 (.int .i64 z)).run Tryd.prog w = .ok (.int .u64 U) w) ∧ U.tmod 20 = (dd : Int) := by
  have h0 : 0 ≤ IntKind.u64.wrap z := by
    unfold IntKind.wrap
    simp [IntKind.signed, IntKind.bits]
    omega
  refine ⟨IntKind.u64.wrap z, ((IntKind.u64.wrap z).tmod 20).toNat, ?_, fun w => by kernel_rfl, ?_⟩
  · rw [Int.tmod_eq_emod_of_nonneg h0]; omega
  · rw [Int.tmod_eq_emod_of_nonneg h0]; omega
theorem neq_errV (ad : Nat → Addr) (k : Nat) : ∀ w, (binOp .neq 30 (intsC.errV ad k) .nilIface).run Tryd.prog w = .ok (.bool (decide (k ≠ 0))) w := by
  intro w
  cases k with
  | zero => exact nneqN w
  | succ k => exact nneqE _ w
end Go.Proofs.YtjcaffpmcgfhaaaDoor.jsonZ

namespace Go.Proofs.YtjcaffpmcgfhaaaDoor.jsonBl
open Go.ChangeShapes Go.WideShapes Go.ChangeAt Go.RowKit Go.WideMaps Go.Maps nodeP nodeQ nodeS ownI jsonP jsonM jsonA jsonB errs errIs runesE quoteB jsonF jsonI jsonL jsonQ jsonR jsonS jsonT jsonU jsonZ
set_option linter.unusedSimpArgs false
set_option linter.unusedVariables false

theorem five {w : World} {B : Nat} {x : Nd} {l : List Value} (hx : NodeAt w B x l) : ∃ k n t a1 n1 c1 a2 n2 c2, l = [.int .i64 k, .int .i64 n, .string t, .slice a1 n1 c1, .slice a2 n2 c2] := by
  cases x with
  | mk k n t ks cs =>
  obtain ⟨kv, cv, rfl, _, _, _, ⟨ak, ck, _, _, rfl, _⟩, ⟨ac, cc, _, _, _, rfl, _⟩⟩ := hx.open
  exact ⟨_, _, _, _, _, _, _, _, _, rfl⟩

set_option maxRecDepth 100000 in
set_option maxHeartbeats 4000000 in
theorem bl_big (s : ByteArray) (z : Int) (w : World) (ad : Nat → Addr) (hT : Tabs w) (hE : Errs w ad) (hR : intsC.Rng w) (h : 2000 < s.size) :
    Calls Tryd.prog 6 #[.string s, .int .i64 z] w fun e w' => e = .returned (.bool true) ∧ Below w.heap.size w w' := by
  have HA := Lib.hid (jsonV.alive w ad hT hE hR)
  clear hT hE hR
  have g1 : (2000 : Int) < s.size := by omega
  clear h
  go_enter Tryd.func6, Tryd.ntmps6
  go_wp2_with fail
  refine HA.out.mono ?_
  rintro e w0 ⟨rfl, hb0⟩
  have HB0 := Lib.hid hb0
  clear hb0
  go_wp2
  go_ret
  exact ⟨rfl, HB0.out⟩

set_option maxRecDepth 100000 in
set_option maxHeartbeats 8000000 in
theorem bl_small (s : ByteArray) (z : Int) (w : World) (ad : Nat → Addr) (hT : Tabs w) (hE : Errs w ad) (hR : intsC.Rng w) (hl : (s.size : Int) ≤ 2000) :
    Calls Tryd.prog 6 #[.string s, .int .i64 z] w fun e w' => e = .returned (.bool true) ∧ Below w.heap.size w w' := by
  have HA := Lib.hid (jsonV.alive w ad hT hE hR)
  have hlen : s.data.toList.length = s.size := by rw [Array.length_toList, ByteArray.size_data]
  obtain ⟨x, er, hpo, her, hcx, hdx, hok⟩ := out_parts s.data.toList (by omega)
  have HPO := Lib.hid hpo
  have HOK := Lib.hid hok
  have HLEN := Lib.hid hlen
  have HT := Lib.hid hT
  have HE := Lib.hid hE
  have HR := Lib.hid hR
  have g1 : ¬ (2000 : Int) < s.size := by omega
  have d1 : decide ((2000 : Int) < s.size) = false := decide_eq_false g1
  obtain ⟨U, N, hN, hcv, hrm⟩ := u_rem20 z
  clear hT hE hR hpo hok hlen
  go_enter Tryd.func6, Tryd.ntmps6
  go_wp2_with fail
  refine HA.out.mono ?_
  rintro e w0 ⟨rfl, hb0⟩
  have HB0 := Lib.hid hb0
  clear hb0
  go_wp2
  go_loopw [5, 6, 22] (fun a _ i wr => ∃ (k : Nat) (B : ByteArray), k ≤ N ∧ i = .int .i64 k ∧ a = .string B ∧ B.size = k ∧ Hid (bs B.data.toList = []) ∧ Below w.heap.size w wr) (fun _ _ i _ => N - (intOf i).toNat)
  case atStart => exact ⟨0, ⟨#[]⟩, Nat.zero_le _, rfl, rfl, rfl, Lib.hid rfl, HB0.out⟩
  case round =>
    obtain ⟨k, B, hk, rfl, rfl, hBs, hbB, hb⟩ := hrel
    have HB := Lib.hid hb
    clear hb
    by_cases hlt : k < N
    · have step : ∀ (c : UInt8), c ∈ blk → Hid ((B ++ ⟨#[c]⟩).size = k + 1 ∧ bs (B ++ (⟨#[c]⟩ : ByteArray)).data.toList = []) := fun c hc => Lib.hid (by
        refine ⟨by rw [ByteArray.size_append, hBs]; rfl, ?_⟩
        have e : (B ++ (⟨#[c]⟩ : ByteArray)).data.toList = B.data.toList ++ [c] := by simp [ByteArray.data_append]
        rw [e]; exact bs_snoc hbB.out hc)
      have HS := Lib.hid step
      have hm : (k : Int).tmod 4 = 0 ∨ (k : Int).tmod 4 = 1 ∨ (k : Int).tmod 4 = 2 ∨ (k : Int).tmod 4 = 3 := by
        rw [Int.tmod_eq_emod_of_nonneg (by omega)]; omega
      clear step
      rcases hm with hm | hm | hm | hm
      · have h9 := (HS.out 9 (by decide)).out
        have H9 := Lib.hid h9
        clear h9
        go_wp2
        go_roundw
        case rel => exact ⟨k + 1, _, by omega, by go_num, rfl, H9.out.1, Lib.hid H9.out.2, HB.out⟩
        case measure => simp [intOf]; omega
      · have h9 := (HS.out 10 (by decide)).out
        have H9 := Lib.hid h9
        clear h9
        go_wp2
        go_roundw
        case rel => exact ⟨k + 1, _, by omega, by go_num, rfl, H9.out.1, Lib.hid H9.out.2, HB.out⟩
        case measure => simp [intOf]; omega
      · have h9 := (HS.out 13 (by decide)).out
        have H9 := Lib.hid h9
        clear h9
        go_wp2
        go_roundw
        case rel => exact ⟨k + 1, _, by omega, by go_num, rfl, H9.out.1, Lib.hid H9.out.2, HB.out⟩
        case measure => simp [intOf]; omega
      · have h9 := (HS.out 32 (by decide)).out
        have H9 := Lib.hid h9
        clear h9
        go_wp2
        go_roundw
        case rel => exact ⟨k + 1, _, by omega, by go_num, rfl, H9.out.1, Lib.hid H9.out.2, HB.out⟩
        case measure => simp [intOf]; omega
    · obtain rfl : k = N := by omega
      have hs20 : (B.size : Int) ≤ 20 := by omega
      have HL2 := HLEN.out
      have HQ1 : Hid (pOut s.data.toList = (x, er)) := HPO
      have HQ2 : Hid (pOut ((B ++ s) ++ B).data.toList = (x, er)) := Lib.hid (by
        have e : ((B ++ s) ++ B).data.toList = B.data.toList ++ s.data.toList ++ B.data.toList := by simp [ByteArray.data_append]
        rw [e, out_bl _ _ hbB.out (by omega) (by rw [Array.length_toList, ByteArray.size_data]; omega)]; exact HPO.out)
      obtain ⟨EV, hEV⟩ : ∃ EV, intsC.errV ad er = EV := ⟨_, rfl⟩
      have hP1 := jsonL.parse_any s wr ad (tabs_below HT.out HB.out) (HE.out.below HB.out) (intsC.rng_below HR.out HB.out) (by omega)
      rw [HPO.out] at hP1
      have HP1 := Lib.hid hP1
      have HEV := Lib.hid hEV
      have HBB : Hid (bs B.data.toList = []) := hbB
      clear hP1 hEV hlt HL2
      go_wp2_with fail
      refine HP1.out.mono ?_
      rintro e w1 ⟨v1, he, hB1, hX1⟩
      obtain ⟨k1, m1, t1, b1, e1, f1, c1, i1, j1⟩ := v1
      dsimp only at he hX1
      rw [HEV.out] at he
      subst he
      have hba : Below w1.heap.size w1 (w1.alloc (.cells #[.int .i64 k1, .int .i64 m1, .string t1, .slice b1 e1 f1, .slice c1 i1 j1] 28)) := (Below.refl _ _).alloc (Nat.le_refl _) _
      have HB2 := Lib.hid ((HB.out.trans (hB1.mono HB.out.size)).trans (hba.mono (Nat.le_trans HB.out.size hB1.size)))
      have HX2 := Lib.hid (nodeA.stays hX1 hba)
      have HW2 := Lib.hid (Whole.new w1 28 [.int .i64 k1, .int .i64 m1, .string t1, .slice b1 e1 f1, .slice c1 i1 j1])
      change Hid (Whole (w1.alloc (.cells #[.int .i64 k1, .int .i64 m1, .string t1, .slice b1 e1 f1, .slice c1 i1 j1] 28)) _ _ _) at HW2
      have hP2 := jsonL.parse_any ((B ++ s) ++ B) (w1.alloc (.cells #[.int .i64 k1, .int .i64 m1, .string t1, .slice b1 e1 f1, .slice c1 i1 j1] 28)) ad (tabs_below HT.out HB2.out) (HE.out.below HB2.out) (intsC.rng_below HR.out HB2.out) (by rw [ByteArray.size_append, ByteArray.size_append]; omega)
      rw [HQ2.out] at hP2
      have HP2 := Lib.hid hP2
      clear hP2 hX1 hB1 hba HP1
      go_wp2_with fail
      generalize hn1 : w1.heap.size = p1 at *
      generalize w1.alloc (.cells #[.int .i64 k1, .int .i64 m1, .string t1, .slice b1 e1 f1, .slice c1 i1 j1] 28) = w2 at *
      refine HP2.out.mono ?_
      rintro e w3 ⟨v2, he, hB3, hX3⟩
      obtain ⟨k2, m2, t2, b2, e2, f2, c2, i2, j2⟩ := v2
      dsimp only at he hX3
      rw [HEV.out] at he
      subst he
      have hba : Below w3.heap.size w3 (w3.alloc (.cells #[.int .i64 k2, .int .i64 m2, .string t2, .slice b2 e2 f2, .slice c2 i2 j2] 28)) := (Below.refl _ _).alloc (Nat.le_refl _) _
      have hB4 := hB3.trans (hba.mono hB3.size)
      have HB4 := Lib.hid (HB2.out.trans (hB4.mono HB2.out.size))
      have HX4 := Lib.hid (nodeA.stays HX2.out hB4)
      have HY4 := Lib.hid (nodeA.stays hX3 hba)
      have HW4 := Lib.hid (HW2.out.below hB4 HW2.out.lt)
      have HV4 := Lib.hid (Whole.new w3 28 [.int .i64 k2, .int .i64 m2, .string t2, .slice b2 e2 f2, .slice c2 i2 j2])
      change Hid (Whole (w3.alloc (.cells #[.int .i64 k2, .int .i64 m2, .string t2, .slice b2 e2 f2, .slice c2 i2 j2] 28)) _ _ _) at HV4
      have hN4 := num_any (w3.alloc (.cells #[.int .i64 k2, .int .i64 m2, .string t2, .slice b2 e2 f2, .slice c2 i2 j2] 28)) ad (HE.out.below HB4.out) er her
      rw [HEV.out] at hN4
      have HN4 := Lib.hid hN4
      clear hN4 hX3 hB3 hba hB4 HP2 HX2 HW2
      go_wp2_with fail
      generalize hn2 : w3.heap.size = p2 at *
      generalize w3.alloc (.cells #[.int .i64 k2, .int .i64 m2, .string t2, .slice b2 e2 f2, .slice c2 i2 j2] 28) = w4 at *
      refine HN4.out.mono ?_
      rintro e w5 ⟨rfl, hB5⟩
      have HB5 := Lib.hid (HB4.out.trans (hB5.mono HB4.out.size))
      have HX5 := Lib.hid (nodeA.stays HX4.out hB5)
      have HY5 := Lib.hid (nodeA.stays HY4.out hB5)
      have HW5 := Lib.hid (HW4.out.below hB5 HW4.out.lt)
      have HV5 := Lib.hid (HV4.out.below hB5 HV4.out.lt)
      have hN5 := num_any w5 ad (HE.out.below HB5.out) er her
      rw [HEV.out] at hN5
      have HN5 := Lib.hid hN5
      clear hN5 hB5 HN4 HX4 HY4 HW4 HV4
      go_wp2_with fail
      refine HN5.out.mono ?_
      rintro e w6 ⟨rfl, hB6⟩
      have HB6 := Lib.hid (HB5.out.trans (hB6.mono HB5.out.size))
      have HX6 := Lib.hid (nodeA.stays HX5.out hB6)
      have HY6 := Lib.hid (nodeA.stays HY5.out hB6)
      have HW6 := Lib.hid (HW5.out.below hB6 HW5.out.lt)
      have HV6 := Lib.hid (HV5.out.below hB6 HV5.out.lt)
      have hS6 := sameQ.jsame_any x x _ _ w6 HX6.out HY6.out (by omega)
      rw [sameN.same_yes (rfl : x = x)] at hS6
      have HS6 := Lib.hid hS6
      have a0 := HW6.out.cell 0
      have a1 := HW6.out.cell 1
      have a2 := HW6.out.cell 2
      have a3 := HW6.out.cell 3
      have a4 := HW6.out.cell 4
      have d0 := HV6.out.cell 0
      have d1 := HV6.out.cell 1
      have d2 := HV6.out.cell 2
      have d3 := HV6.out.cell 3
      have d4 := HV6.out.cell 4
      simp only [List.getElem?_cons_zero, List.getElem?_cons_succ] at a0 a1 a2 a3 a4 d0 d1 d2 d3 d4
      clear hS6 hB6 HN5 HX5 HY5 HW5 HV5
      go_wp2_with fail
      refine HS6.out.mono ?_
      rintro e w7 ⟨rfl, hB7⟩
      have HB7 := Lib.hid (HB6.out.trans (hB7.mono HB6.out.size))
      have HX7 := Lib.hid (nodeA.stays HX6.out hB7)
      have HW7 := Lib.hid (HW6.out.below hB7 HW6.out.lt)
      clear a0 a1 a2 a3 a4 d0 d1 d2 d3 d4
      have a0 := HW7.out.cell 0
      have a1 := HW7.out.cell 1
      have a2 := HW7.out.cell 2
      have a3 := HW7.out.cell 3
      have a4 := HW7.out.cell 4
      simp only [List.getElem?_cons_zero, List.getElem?_cons_succ] at a0 a1 a2 a3 a4
      clear hB7 HS6 HX6 HY6 HW6 HV6
      by_cases he0 : er = 0
      · subst he0
        have hev0 : EV = .nilIface := HEV.out.symm
        subst hev0
        have hne := nneqN
        have heq := jsonV.neqlN
        obtain ⟨hpj, hc2⟩ := HOK.out rfl
        have HPJ := Lib.hid hpj
        have HD := Lib.hid (depthQ.jdepth_any x _ w7 HX7.out (by omega) (by omega))
        clear hpj
        go_wp2_with fail
        refine HD.out.mono ?_
        rintro e w8 ⟨rfl, hB8⟩
        have HB8 := Lib.hid (HB7.out.trans (hB8.mono HB7.out.size))
        have HX8 := Lib.hid (nodeA.stays HX7.out hB8)
        have HW8 := Lib.hid (HW7.out.below hB8 HW7.out.lt)
        clear hB8 a0 a1 a2 a3 a4 HD HX7 HW7
        by_cases h31 : 31 ≤ dp x
        · have h31i : (31 : Int) ≤ (dp x : Int) := by omega
          go_wp2
          go_ret
          exact ⟨rfl, HB8.out⟩
        · have h31i : ¬ (31 : Int) ≤ (dp x : Int) := by omega
          have hQ3 : pOut ((((((⟨#[91]⟩ ++ B) ++ s) ++ B) ++ ⟨#[44]⟩) ++ s) ++ ⟨#[93]⟩ : ByteArray).data.toList = (.mk 6 0 ByteArray.empty [] [x, x], 0) := by
            have e : ((((((⟨#[91]⟩ ++ B) ++ s) ++ B) ++ ⟨#[44]⟩) ++ s) ++ ⟨#[93]⟩ : ByteArray).data.toList = 91 :: (B.data.toList ++ (s.data.toList ++ (B.data.toList ++ (44 :: (s.data.toList ++ [93]))))) := by simp [ByteArray.data_append]
            rw [e]
            exact out_two HPJ.out HBB.out (by omega) hc2 (by rw [HLEN.out]; omega) (by rw [Array.length_toList, ByteArray.size_data]; omega)
          have hP8 := jsonL.parse_any ((((((⟨#[91]⟩ ++ B) ++ s) ++ B) ++ ⟨#[44]⟩) ++ s) ++ ⟨#[93]⟩ : ByteArray) w8 ad (tabs_below HT.out HB8.out) (HE.out.below HB8.out) (intsC.rng_below HR.out HB8.out) (by
            simp only [ByteArray.size_append]
            show (((1 + B.size + s.size + B.size + 1 + s.size + 1 : Nat) : Int)) ≤ 1000000
            omega)
          rw [hQ3] at hP8
          have HP8 := Lib.hid hP8
          clear hQ3 hP8
          go_wp2_with fail
          refine HP8.out.mono ?_
          rintro e w9 ⟨v3, he, hB9, hX9⟩
          have hov : ∃ ks a1 cp1 a2 cp2, v3.l = [.int .i64 6, .int .i64 0, .string ByteArray.empty, .slice a1 ks cp1, .slice a2 2 cp2] ∧ KidsAt w9 w9.heap.size (.slice a2 2 cp2) [x, x] := by
            obtain ⟨kv, cv, hl, _, _, _, hkv, hcv⟩ := NodeAt.open (k := 6) (n := 0) (t := ByteArray.empty) (ks := []) (cs := [x, x]) hX9
            obtain ⟨ak, ck, bk, ok, rfl, _⟩ := hkv
            obtain ⟨ao, cap, b, off, ls, rfl, hm, ha, hc, hn⟩ := hcv
            exact ⟨_, _, _, _, _, hl, ao, cap, b, off, ls, rfl, hm, ha, hc, hn⟩
          obtain ⟨nk, q1, cp1, q2, cp2, hvl, hkd⟩ := hov
          have hve : (Value.agg #[.int .i64 v3.k, .int .i64 v3.m, .string v3.t, .slice v3.a1 v3.n1 v3.c1, .slice v3.a2 v3.n2 v3.c2]) = .agg #[.int .i64 6, .int .i64 0, .string ByteArray.empty, .slice q1 nk cp1, .slice q2 2 cp2] := by
            have : v3.l.toArray = [Value.int .i64 6, .int .i64 0, .string ByteArray.empty, .slice q1 nk cp1, .slice q2 2 cp2].toArray := by rw [hvl]
            exact congrArg Value.agg this
          rw [hve, show intsC.errV ad (Nd.mk 6 0 ByteArray.empty [] [x, x], 0).2 = .nilIface from rfl] at he
          subst he
          have hba : Below w9.heap.size w9 (w9.alloc (.cells #[.int .i64 6, .int .i64 0, .string ByteArray.empty, .slice q1 nk cp1, .slice q2 2 cp2] 28)) := (Below.refl _ _).alloc (Nat.le_refl _) _
          have hB10 := hB9.trans (hba.mono hB9.size)
          have HB10 := Lib.hid (HB8.out.trans (hB10.mono HB8.out.size))
          have HX10 := Lib.hid (nodeA.stays HX8.out hB10)
          have HW10 := Lib.hid (HW8.out.below hB10 HW8.out.lt)
          have HC10 := Lib.hid (Whole.new w9 28 [.int .i64 6, .int .i64 0, .string ByteArray.empty, .slice q1 nk cp1, .slice q2 2 cp2])
          change Hid (Whole (w9.alloc (.cells #[.int .i64 6, .int .i64 0, .string ByteArray.empty, .slice q1 nk cp1, .slice q2 2 cp2] 28)) _ _ _) at HC10
          obtain ⟨ao, cap, b, off, ls, hs, hm, ha, hc, hn⟩ := hkd
          have hq2 : q2 = some ⟨b, off, none⟩ := by
            have h1 := (ha (by simp)).1
            cases hs; exact h1
          have hbl : b < w9.heap.size := (ha (by simp)).2
          have hn0 := hn 0 (by simp)
          have hn1 := hn 1 (by simp)
          have hn0' : NodeAt w9 w9.heap.size x (ls 0) := hn0
          have hn1' : NodeAt w9 w9.heap.size x (ls 1) := hn1
          obtain ⟨yk, yn, yt, ya1, yn1, yc1, ya2, yn2, yc2, hl0⟩ := five hn0'
          obtain ⟨zk, zn, zt, za1, zn1, zc1, za2, zn2, zc2, hl1⟩ := five hn1'
          rw [hl0] at hn0'
          rw [hl1] at hn1'
          have HY10 := Lib.hid (nodeA.stays hn0' hba)
          have HZ10 := Lib.hid (nodeA.stays hn1' hba)
          have s0 := (hba.cell (p := ⟨b, off + 5 * 0 + 0, none⟩) hbl).trans (hc 0 (by simp) 0 (by omega))
          have s1 := (hba.cell (p := ⟨b, off + 5 * 0 + 1, none⟩) hbl).trans (hc 0 (by simp) 1 (by omega))
          have s2 := (hba.cell (p := ⟨b, off + 5 * 0 + 2, none⟩) hbl).trans (hc 0 (by simp) 2 (by omega))
          have s3 := (hba.cell (p := ⟨b, off + 5 * 0 + 3, none⟩) hbl).trans (hc 0 (by simp) 3 (by omega))
          have s4 := (hba.cell (p := ⟨b, off + 5 * 0 + 4, none⟩) hbl).trans (hc 0 (by simp) 4 (by omega))
          have r0 := (hba.cell (p := ⟨b, off + 5 * 1 + 0, none⟩) hbl).trans (hc 1 (by simp) 0 (by omega))
          have r1 := (hba.cell (p := ⟨b, off + 5 * 1 + 1, none⟩) hbl).trans (hc 1 (by simp) 1 (by omega))
          have r2 := (hba.cell (p := ⟨b, off + 5 * 1 + 2, none⟩) hbl).trans (hc 1 (by simp) 2 (by omega))
          have r3 := (hba.cell (p := ⟨b, off + 5 * 1 + 3, none⟩) hbl).trans (hc 1 (by simp) 3 (by omega))
          have r4 := (hba.cell (p := ⟨b, off + 5 * 1 + 4, none⟩) hbl).trans (hc 1 (by simp) 4 (by omega))
          rw [hl0] at s0 s1 s2 s3 s4
          rw [hl1] at r0 r1 r2 r3 r4
          simp only [List.getElem?_cons_zero, List.getElem?_cons_succ, Nat.mul_zero, Nat.add_zero, Nat.mul_one] at s0 s1 s2 s3 s4 r0 r1 r2 r3 r4
          subst hq2
          obtain ⟨hb1, hb2⟩ : p1 < w9.heap.size ∧ True := ⟨Nat.lt_of_lt_of_le HW8.out.lt hB9.size, trivial⟩
          have n4 := HC10.out.cell 4
          have a0 := HW10.out.cell 0
          have a1 := HW10.out.cell 1
          have a2 := HW10.out.cell 2
          have a3 := HW10.out.cell 3
          have a4 := HW10.out.cell 4
          simp only [List.getElem?_cons_zero, List.getElem?_cons_succ] at n4 a0 a1 a2 a3 a4
          have HJ0 : Hid (∀ w', Below w.heap.size w w' → True) := Lib.hid (fun _ _ => trivial)
          have HSA : Hid (∀ w', Below (w9.alloc (.cells #[.int .i64 6, .int .i64 0, .string ByteArray.empty, .slice q1 nk cp1, .slice (some ⟨b, off, none⟩) 2 cp2] 28)).heap.size (w9.alloc (.cells #[.int .i64 6, .int .i64 0, .string ByteArray.empty, .slice q1 nk cp1, .slice (some ⟨b, off, none⟩) 2 cp2] 28)) w' → Calls Tryd.prog 12 #[.agg #[.int .i64 yk, .int .i64 yn, .string yt, .slice ya1 yn1 yc1, .slice ya2 yn2 yc2], .agg #[.int .i64 k1, .int .i64 m1, .string t1, .slice b1 e1 f1, .slice c1 i1 j1]] w' fun e w'' => e = .returned (.bool (sameN.same x x)) ∧ Below w'.heap.size w' w'') := Lib.hid (fun w' hb => sameQ.jsame_any x x _ _ w' (nodeA.stays HY10.out hb) (nodeA.stays HX10.out hb) (by omega))
          have HSB : Hid (∀ w', Below (w9.alloc (.cells #[.int .i64 6, .int .i64 0, .string ByteArray.empty, .slice q1 nk cp1, .slice (some ⟨b, off, none⟩) 2 cp2] 28)).heap.size (w9.alloc (.cells #[.int .i64 6, .int .i64 0, .string ByteArray.empty, .slice q1 nk cp1, .slice (some ⟨b, off, none⟩) 2 cp2] 28)) w' → Calls Tryd.prog 12 #[.agg #[.int .i64 zk, .int .i64 zn, .string zt, .slice za1 zn1 zc1, .slice za2 zn2 zc2], .agg #[.int .i64 k1, .int .i64 m1, .string t1, .slice b1 e1 f1, .slice c1 i1 j1]] w' fun e w'' => e = .returned (.bool (sameN.same x x)) ∧ Below w'.heap.size w' w'') := Lib.hid (fun w' hb => sameQ.jsame_any x x _ _ w' (nodeA.stays HZ10.out hb) (nodeA.stays HX10.out hb) (by omega))
          rw [sameN.same_yes (rfl : x = x)] at HSA HSB
          clear HJ0 hn0 hn1 hn0' hn1' hl0 hl1 hc hn ha hs hba hB10 hB9 hve hvl hX9 HP8 HX10 HY10 HZ10 HW10 HC10 HX8 HW8
          go_wp2
          refine held2.region (fun _ w' => w'.cell? ⟨w9.heap.size, 4, none⟩ = some (.slice (some ⟨b, off, none⟩) 2 cp2) ∧ w'.cell? ⟨b, off, none⟩ = some (.int .i64 yk) ∧ w'.cell? ⟨b, off + 1, none⟩ = some (.int .i64 yn) ∧ w'.cell? ⟨b, off + 2, none⟩ = some (.string yt) ∧ w'.cell? ⟨b, off + 3, none⟩ = some (.slice ya1 yn1 yc1) ∧ w'.cell? ⟨b, off + 4, none⟩ = some (.slice ya2 yn2 yc2) ∧ w'.cell? ⟨b, off + 5, none⟩ = some (.int .i64 zk) ∧ w'.cell? ⟨b, off + 5 + 1, none⟩ = some (.int .i64 zn) ∧ w'.cell? ⟨b, off + 5 + 2, none⟩ = some (.string zt) ∧ w'.cell? ⟨b, off + 5 + 3, none⟩ = some (.slice za1 zn1 zc1) ∧ w'.cell? ⟨b, off + 5 + 4, none⟩ = some (.slice za2 zn2 zc2) ∧ w'.cell? ⟨p1, 0, none⟩ = some (.int .i64 k1) ∧ w'.cell? ⟨p1, 1, none⟩ = some (.int .i64 m1) ∧ w'.cell? ⟨p1, 2, none⟩ = some (.string t1) ∧ w'.cell? ⟨p1, 3, none⟩ = some (.slice b1 e1 f1) ∧ w'.cell? ⟨p1, 4, none⟩ = some (.slice c1 i1 j1)) (by kernel_rfl) ?_
          have hS10 : (w9.alloc (.cells #[.int .i64 6, .int .i64 0, .string ByteArray.empty, .slice q1 nk cp1, .slice (some ⟨b, off, none⟩) 2 cp2] 28)).cell? ⟨w9.heap.size, 4, none⟩ = some (.slice (some ⟨b, off, none⟩) 2 cp2) ∧ (w9.alloc (.cells #[.int .i64 6, .int .i64 0, .string ByteArray.empty, .slice q1 nk cp1, .slice (some ⟨b, off, none⟩) 2 cp2] 28)).cell? ⟨b, off, none⟩ = some (.int .i64 yk) ∧ (w9.alloc (.cells #[.int .i64 6, .int .i64 0, .string ByteArray.empty, .slice q1 nk cp1, .slice (some ⟨b, off, none⟩) 2 cp2] 28)).cell? ⟨b, off + 1, none⟩ = some (.int .i64 yn) ∧ (w9.alloc (.cells #[.int .i64 6, .int .i64 0, .string ByteArray.empty, .slice q1 nk cp1, .slice (some ⟨b, off, none⟩) 2 cp2] 28)).cell? ⟨b, off + 2, none⟩ = some (.string yt) ∧ (w9.alloc (.cells #[.int .i64 6, .int .i64 0, .string ByteArray.empty, .slice q1 nk cp1, .slice (some ⟨b, off, none⟩) 2 cp2] 28)).cell? ⟨b, off + 3, none⟩ = some (.slice ya1 yn1 yc1) ∧ (w9.alloc (.cells #[.int .i64 6, .int .i64 0, .string ByteArray.empty, .slice q1 nk cp1, .slice (some ⟨b, off, none⟩) 2 cp2] 28)).cell? ⟨b, off + 4, none⟩ = some (.slice ya2 yn2 yc2) ∧ (w9.alloc (.cells #[.int .i64 6, .int .i64 0, .string ByteArray.empty, .slice q1 nk cp1, .slice (some ⟨b, off, none⟩) 2 cp2] 28)).cell? ⟨b, off + 5, none⟩ = some (.int .i64 zk) ∧ (w9.alloc (.cells #[.int .i64 6, .int .i64 0, .string ByteArray.empty, .slice q1 nk cp1, .slice (some ⟨b, off, none⟩) 2 cp2] 28)).cell? ⟨b, off + 5 + 1, none⟩ = some (.int .i64 zn) ∧ (w9.alloc (.cells #[.int .i64 6, .int .i64 0, .string ByteArray.empty, .slice q1 nk cp1, .slice (some ⟨b, off, none⟩) 2 cp2] 28)).cell? ⟨b, off + 5 + 2, none⟩ = some (.string zt) ∧ (w9.alloc (.cells #[.int .i64 6, .int .i64 0, .string ByteArray.empty, .slice q1 nk cp1, .slice (some ⟨b, off, none⟩) 2 cp2] 28)).cell? ⟨b, off + 5 + 3, none⟩ = some (.slice za1 zn1 zc1) ∧ (w9.alloc (.cells #[.int .i64 6, .int .i64 0, .string ByteArray.empty, .slice q1 nk cp1, .slice (some ⟨b, off, none⟩) 2 cp2] 28)).cell? ⟨b, off + 5 + 4, none⟩ = some (.slice za2 zn2 zc2) ∧ (w9.alloc (.cells #[.int .i64 6, .int .i64 0, .string ByteArray.empty, .slice q1 nk cp1, .slice (some ⟨b, off, none⟩) 2 cp2] 28)).cell? ⟨p1, 0, none⟩ = some (.int .i64 k1) ∧ (w9.alloc (.cells #[.int .i64 6, .int .i64 0, .string ByteArray.empty, .slice q1 nk cp1, .slice (some ⟨b, off, none⟩) 2 cp2] 28)).cell? ⟨p1, 1, none⟩ = some (.int .i64 m1) ∧ (w9.alloc (.cells #[.int .i64 6, .int .i64 0, .string ByteArray.empty, .slice q1 nk cp1, .slice (some ⟨b, off, none⟩) 2 cp2] 28)).cell? ⟨p1, 2, none⟩ = some (.string t1) ∧ (w9.alloc (.cells #[.int .i64 6, .int .i64 0, .string ByteArray.empty, .slice q1 nk cp1, .slice (some ⟨b, off, none⟩) 2 cp2] 28)).cell? ⟨p1, 3, none⟩ = some (.slice b1 e1 f1) ∧ (w9.alloc (.cells #[.int .i64 6, .int .i64 0, .string ByteArray.empty, .slice q1 nk cp1, .slice (some ⟨b, off, none⟩) 2 cp2] 28)).cell? ⟨p1, 4, none⟩ = some (.slice c1 i1 j1) := ⟨n4, s0, s1, s2, s3, s4, r0, r1, r2, r3, r4, a0, a1, a2, a3, a4⟩
          have hz10 : w9.heap.size + 1 = (w9.alloc (.cells #[.int .i64 6, .int .i64 0, .string ByteArray.empty, .slice q1 nk cp1, .slice (some ⟨b, off, none⟩) 2 cp2] 28)).heap.size := by simp
          generalize (w9.alloc (.cells #[.int .i64 6, .int .i64 0, .string ByteArray.empty, .slice q1 nk cp1, .slice (some ⟨b, off, none⟩) 2 cp2] 28)) = w10 at *
          have HBw11 : Hid (Below w10.heap.size w10 w10.drew) := Lib.hid ((Below.refl _ _).drew)
          have hzw11 : w10.heap.size ≤ w10.drew.heap.size := Nat.le_refl _
          have hSw11 : w10.drew.cell? ⟨w9.heap.size, 4, none⟩ = some (.slice (some ⟨b, off, none⟩) 2 cp2) ∧ w10.drew.cell? ⟨b, off, none⟩ = some (.int .i64 yk) ∧ w10.drew.cell? ⟨b, off + 1, none⟩ = some (.int .i64 yn) ∧ w10.drew.cell? ⟨b, off + 2, none⟩ = some (.string yt) ∧ w10.drew.cell? ⟨b, off + 3, none⟩ = some (.slice ya1 yn1 yc1) ∧ w10.drew.cell? ⟨b, off + 4, none⟩ = some (.slice ya2 yn2 yc2) ∧ w10.drew.cell? ⟨b, off + 5, none⟩ = some (.int .i64 zk) ∧ w10.drew.cell? ⟨b, off + 5 + 1, none⟩ = some (.int .i64 zn) ∧ w10.drew.cell? ⟨b, off + 5 + 2, none⟩ = some (.string zt) ∧ w10.drew.cell? ⟨b, off + 5 + 3, none⟩ = some (.slice za1 zn1 zc1) ∧ w10.drew.cell? ⟨b, off + 5 + 4, none⟩ = some (.slice za2 zn2 zc2) ∧ w10.drew.cell? ⟨p1, 0, none⟩ = some (.int .i64 k1) ∧ w10.drew.cell? ⟨p1, 1, none⟩ = some (.int .i64 m1) ∧ w10.drew.cell? ⟨p1, 2, none⟩ = some (.string t1) ∧ w10.drew.cell? ⟨p1, 3, none⟩ = some (.slice b1 e1 f1) ∧ w10.drew.cell? ⟨p1, 4, none⟩ = some (.slice c1 i1 j1) := hS10
          generalize w10.drew = w11 at *
          clear hS10 n4 s0 s1 s2 s3 s4 r0 r1 r2 r3 r4 a0 a1 a2 a3 a4
          obtain ⟨n4, s0, s1, s2, s3, s4, r0, r1, r2, r3, r4, a0, a1, a2, a3, a4⟩ := id hSw11
          refine held2.wpLeft.take (i := 0) (v := ?_) rfl (by kernel_rfl) (by kernel_rfl) (by kernel_rfl) (by kernel_rfl) (fun _ _ => Iff.rfl) (fun _ _ _ h => h) (by rfl) ?_ hSw11 ?_
          rotate_left
          · (intro w l hl1 hl2 hSw; obtain ⟨x0, x1, x2, x3, x4, x5, x6, x7, x8, x9, x10, x11, x12, x13, x14, x15⟩ := hSw; go_simp; try with_reducible rfl)
          simp only [Act.put, List.setIfInBounds_toArray, List.set_cons_zero, List.set_cons_succ, List.getElem_toArray, List.getElem_cons_succ, List.getElem_cons_zero]
          refine held2.wpLeft.take (i := 1) (v := ?_) rfl (by kernel_rfl) (by kernel_rfl) (by kernel_rfl) (by kernel_rfl) (fun _ _ => Iff.rfl) (fun _ _ _ h => h) (by rfl) ?_ hSw11 ?_
          rotate_left
          · (intro w l hl1 hl2 hSw; obtain ⟨x0, x1, x2, x3, x4, x5, x6, x7, x8, x9, x10, x11, x12, x13, x14, x15⟩ := hSw; go_simp; try with_reducible rfl)
          simp only [Act.put, List.setIfInBounds_toArray, List.set_cons_zero, List.set_cons_succ, List.getElem_toArray, List.getElem_cons_succ, List.getElem_cons_zero]
          refine held2.wpLeft.take (i := 2) (v := ?_) rfl (by kernel_rfl) (by kernel_rfl) (by kernel_rfl) (by kernel_rfl) (fun _ _ => Iff.rfl) (fun _ _ _ h => h) (by rfl) ?_ hSw11 ?_
          rotate_left
          · (intro w l hl1 hl2 hSw; obtain ⟨x0, x1, x2, x3, x4, x5, x6, x7, x8, x9, x10, x11, x12, x13, x14, x15⟩ := hSw; go_simp; try with_reducible rfl)
          simp only [Act.put, List.setIfInBounds_toArray, List.set_cons_zero, List.set_cons_succ, List.getElem_toArray, List.getElem_cons_succ, List.getElem_cons_zero]
          refine held2.wpLeft.take (i := 3) (v := ?_) rfl (by kernel_rfl) (by kernel_rfl) (by kernel_rfl) (by kernel_rfl) (fun _ _ => Iff.rfl) (fun _ _ _ h => h) (by rfl) ?_ hSw11 ?_
          rotate_left
          · (intro w l hl1 hl2 hSw; obtain ⟨x0, x1, x2, x3, x4, x5, x6, x7, x8, x9, x10, x11, x12, x13, x14, x15⟩ := hSw; go_simp; try with_reducible rfl)
          simp only [Act.put, List.setIfInBounds_toArray, List.set_cons_zero, List.set_cons_succ, List.getElem_toArray, List.getElem_cons_succ, List.getElem_cons_zero]
          refine held2.wpLeft.take (i := 4) (v := ?_) rfl (by kernel_rfl) (by kernel_rfl) (by kernel_rfl) (by kernel_rfl) (fun _ _ => Iff.rfl) (fun _ _ _ h => h) (by rfl) ?_ hSw11 ?_
          rotate_left
          · (intro w l hl1 hl2 hSw; obtain ⟨x0, x1, x2, x3, x4, x5, x6, x7, x8, x9, x10, x11, x12, x13, x14, x15⟩ := hSw; go_simp; try with_reducible rfl)
          simp only [Act.put, List.setIfInBounds_toArray, List.set_cons_zero, List.set_cons_succ, List.getElem_toArray, List.getElem_cons_succ, List.getElem_cons_zero]
          refine held2.wpLeft.take (i := 5) (v := ?_) rfl (by kernel_rfl) (by kernel_rfl) (by kernel_rfl) (by kernel_rfl) (fun _ _ => Iff.rfl) (fun _ _ _ h => h) (by rfl) ?_ hSw11 ?_
          rotate_left
          · (intro w l hl1 hl2 hSw; obtain ⟨x0, x1, x2, x3, x4, x5, x6, x7, x8, x9, x10, x11, x12, x13, x14, x15⟩ := hSw; go_simp; try with_reducible rfl)
          simp only [Act.put, List.setIfInBounds_toArray, List.set_cons_zero, List.set_cons_succ, List.getElem_toArray, List.getElem_cons_succ, List.getElem_cons_zero]
          refine held2.wpLeft.take (i := 6) (v := ?_) rfl (by kernel_rfl) (by kernel_rfl) (by kernel_rfl) (by kernel_rfl) (fun _ _ => Iff.rfl) (fun _ _ _ h => h) (by rfl) ?_ hSw11 ?_
          rotate_left
          · (intro w l hl1 hl2 hSw; obtain ⟨x0, x1, x2, x3, x4, x5, x6, x7, x8, x9, x10, x11, x12, x13, x14, x15⟩ := hSw; go_simp; try with_reducible rfl)
          simp only [Act.put, List.setIfInBounds_toArray, List.set_cons_zero, List.set_cons_succ, List.getElem_toArray, List.getElem_cons_succ, List.getElem_cons_zero]
          refine held2.wpLeft.take (i := 7) (v := ?_) rfl (by kernel_rfl) (by kernel_rfl) (by kernel_rfl) (by kernel_rfl) (fun _ _ => Iff.rfl) (fun _ _ _ h => h) (by rfl) ?_ hSw11 ?_
          rotate_left
          · (intro w l hl1 hl2 hSw; obtain ⟨x0, x1, x2, x3, x4, x5, x6, x7, x8, x9, x10, x11, x12, x13, x14, x15⟩ := hSw; go_simp; try with_reducible rfl)
          simp only [Act.put, List.setIfInBounds_toArray, List.set_cons_zero, List.set_cons_succ, List.getElem_toArray, List.getElem_cons_succ, List.getElem_cons_zero]
          refine held2.wpLeft.take (i := 8) (v := ?_) rfl (by kernel_rfl) (by kernel_rfl) (by kernel_rfl) (by kernel_rfl) (fun _ _ => Iff.rfl) (fun _ _ _ h => h) (by rfl) ?_ hSw11 ?_
          rotate_left
          · (intro w l hl1 hl2 hSw; obtain ⟨x0, x1, x2, x3, x4, x5, x6, x7, x8, x9, x10, x11, x12, x13, x14, x15⟩ := hSw; go_simp; try with_reducible rfl)
          simp only [Act.put, List.setIfInBounds_toArray, List.set_cons_zero, List.set_cons_succ, List.getElem_toArray, List.getElem_cons_succ, List.getElem_cons_zero]
          refine held2.wpLeft.take (i := 9) (v := ?_) rfl (by kernel_rfl) (by kernel_rfl) (by kernel_rfl) (by kernel_rfl) (fun _ _ => Iff.rfl) (fun _ _ _ h => h) (by rfl) ?_ hSw11 ?_
          rotate_left
          · (intro w l hl1 hl2 hSw; obtain ⟨x0, x1, x2, x3, x4, x5, x6, x7, x8, x9, x10, x11, x12, x13, x14, x15⟩ := hSw; go_simp; try with_reducible rfl)
          simp only [Act.put, List.setIfInBounds_toArray, List.set_cons_zero, List.set_cons_succ, List.getElem_toArray, List.getElem_cons_succ, List.getElem_cons_zero]
          refine held2.wpLeft.take (i := 10) (v := ?_) rfl (by kernel_rfl) (by kernel_rfl) (by kernel_rfl) (by kernel_rfl) (fun _ _ => Iff.rfl) (fun _ _ _ h => h) (by rfl) ?_ hSw11 ?_
          rotate_left
          · (intro w l hl1 hl2 hSw; obtain ⟨x0, x1, x2, x3, x4, x5, x6, x7, x8, x9, x10, x11, x12, x13, x14, x15⟩ := hSw; go_simp; try with_reducible rfl)
          simp only [Act.put, List.setIfInBounds_toArray, List.set_cons_zero, List.set_cons_succ, List.getElem_toArray, List.getElem_cons_succ, List.getElem_cons_zero]
          refine held2.wpLeft.take (i := 11) (v := ?_) rfl (by kernel_rfl) (by kernel_rfl) (by kernel_rfl) (by kernel_rfl) (fun _ _ => Iff.rfl) (fun _ _ _ h => h) (by rfl) ?_ hSw11 ?_
          rotate_left
          · (intro w l hl1 hl2 hSw; obtain ⟨x0, x1, x2, x3, x4, x5, x6, x7, x8, x9, x10, x11, x12, x13, x14, x15⟩ := hSw; go_simp; try with_reducible rfl)
          simp only [Act.put, List.setIfInBounds_toArray, List.set_cons_zero, List.set_cons_succ, List.getElem_toArray, List.getElem_cons_succ, List.getElem_cons_zero]
          refine held2.wpLeft.take (i := 12) (v := ?_) rfl (by kernel_rfl) (by kernel_rfl) (by kernel_rfl) (by kernel_rfl) (fun _ _ => Iff.rfl) (fun _ _ _ h => h) (by rfl) ?_ hSw11 ?_
          rotate_left
          · (intro w l hl1 hl2 hSw; obtain ⟨x0, x1, x2, x3, x4, x5, x6, x7, x8, x9, x10, x11, x12, x13, x14, x15⟩ := hSw; go_simp; try with_reducible rfl)
          simp only [Act.put, List.setIfInBounds_toArray, List.set_cons_zero, List.set_cons_succ, List.getElem_toArray, List.getElem_cons_succ, List.getElem_cons_zero]
          refine held2.wpLeft.take (i := 13) (v := ?_) rfl (by kernel_rfl) (by kernel_rfl) (by kernel_rfl) (by kernel_rfl) (fun _ _ => Iff.rfl) (fun _ _ _ h => h) (by rfl) ?_ hSw11 ?_
          rotate_left
          · (intro w l hl1 hl2 hSw; obtain ⟨x0, x1, x2, x3, x4, x5, x6, x7, x8, x9, x10, x11, x12, x13, x14, x15⟩ := hSw; go_simp; try with_reducible rfl)
          simp only [Act.put, List.setIfInBounds_toArray, List.set_cons_zero, List.set_cons_succ, List.getElem_toArray, List.getElem_cons_succ, List.getElem_cons_zero]
          refine held2.wpLeft.one (i := 14) (by kernel_rfl) rfl (fun K hK => ?_)
          go_simp
          refine (HSA.out w11 HBw11.out).mono ?_
          rintro e w12 ⟨rfl, hb⟩
          have HBw12 : Hid (Below w10.heap.size w10 w12) := Lib.hid (HBw11.out.trans (hb.mono HBw11.out.size))
          have hzw12 : w10.heap.size ≤ w12.heap.size := HBw12.out.size
          have n4z := (hb.cell (p := ⟨w9.heap.size, 4, none⟩) (by show w9.heap.size < w11.heap.size; omega)).trans n4
          have s0z := (hb.cell (p := ⟨b, off, none⟩) (by show b < w11.heap.size; omega)).trans s0
          have s1z := (hb.cell (p := ⟨b, off + 1, none⟩) (by show b < w11.heap.size; omega)).trans s1
          have s2z := (hb.cell (p := ⟨b, off + 2, none⟩) (by show b < w11.heap.size; omega)).trans s2
          have s3z := (hb.cell (p := ⟨b, off + 3, none⟩) (by show b < w11.heap.size; omega)).trans s3
          have s4z := (hb.cell (p := ⟨b, off + 4, none⟩) (by show b < w11.heap.size; omega)).trans s4
          have r0z := (hb.cell (p := ⟨b, off + 5, none⟩) (by show b < w11.heap.size; omega)).trans r0
          have r1z := (hb.cell (p := ⟨b, off + 5 + 1, none⟩) (by show b < w11.heap.size; omega)).trans r1
          have r2z := (hb.cell (p := ⟨b, off + 5 + 2, none⟩) (by show b < w11.heap.size; omega)).trans r2
          have r3z := (hb.cell (p := ⟨b, off + 5 + 3, none⟩) (by show b < w11.heap.size; omega)).trans r3
          have r4z := (hb.cell (p := ⟨b, off + 5 + 4, none⟩) (by show b < w11.heap.size; omega)).trans r4
          have a0z := (hb.cell (p := ⟨p1, 0, none⟩) (by show p1 < w11.heap.size; omega)).trans a0
          have a1z := (hb.cell (p := ⟨p1, 1, none⟩) (by show p1 < w11.heap.size; omega)).trans a1
          have a2z := (hb.cell (p := ⟨p1, 2, none⟩) (by show p1 < w11.heap.size; omega)).trans a2
          have a3z := (hb.cell (p := ⟨p1, 3, none⟩) (by show p1 < w11.heap.size; omega)).trans a3
          have a4z := (hb.cell (p := ⟨p1, 4, none⟩) (by show p1 < w11.heap.size; omega)).trans a4
          clear n4 s0 s1 s2 s3 s4 r0 r1 r2 r3 r4 a0 a1 a2 a3 a4
          have n4 := n4z
          have s0 := s0z
          have s1 := s1z
          have s2 := s2z
          have s3 := s3z
          have s4 := s4z
          have r0 := r0z
          have r1 := r1z
          have r2 := r2z
          have r3 := r3z
          have r4 := r4z
          have a0 := a0z
          have a1 := a1z
          have a2 := a2z
          have a3 := a3z
          have a4 := a4z
          clear n4z s0z s1z s2z s3z s4z r0z r1z r2z r3z r4z a0z a1z a2z a3z a4z
          have hSw12 := And.intro n4 (And.intro s0 (And.intro s1 (And.intro s2 (And.intro s3 (And.intro s4 (And.intro r0 (And.intro r1 (And.intro r2 (And.intro r3 (And.intro r4 (And.intro a0 (And.intro a1 (And.intro a2 (And.intro a3 a4))))))))))))))
          refine hK.out _ _ hSw12 ?_
          clear hK K hb
          refine held2.wpLeft.take (i := 15) (v := ?_) rfl (by kernel_rfl) (by kernel_rfl) (by kernel_rfl) (by kernel_rfl) (fun _ _ => Iff.rfl) (fun _ _ _ h => h) (by rfl) ?_ hSw12 ?_
          rotate_left
          · (intro w l hl1 hl2 hSw; obtain ⟨x0, x1, x2, x3, x4, x5, x6, x7, x8, x9, x10, x11, x12, x13, x14, x15⟩ := hSw; go_simp; try with_reducible rfl)
          simp only [Act.put, List.setIfInBounds_toArray, List.set_cons_zero, List.set_cons_succ, List.getElem_toArray, List.getElem_cons_succ, List.getElem_cons_zero]
          refine held2.wpLeft.take (i := 16) (v := ?_) rfl (by kernel_rfl) (by kernel_rfl) (by kernel_rfl) (by kernel_rfl) (fun _ _ => Iff.rfl) (fun _ _ _ h => h) (by rfl) ?_ hSw12 ?_
          rotate_left
          · (intro w l hl1 hl2 hSw; obtain ⟨x0, x1, x2, x3, x4, x5, x6, x7, x8, x9, x10, x11, x12, x13, x14, x15⟩ := hSw; go_simp; try with_reducible rfl)
          simp only [Act.put, List.setIfInBounds_toArray, List.set_cons_zero, List.set_cons_succ, List.getElem_toArray, List.getElem_cons_succ, List.getElem_cons_zero]
          refine held2.wpLeft.take (i := 17) (v := ?_) rfl (by kernel_rfl) (by kernel_rfl) (by kernel_rfl) (by kernel_rfl) (fun _ _ => Iff.rfl) (fun _ _ _ h => h) (by rfl) ?_ hSw12 ?_
          rotate_left
          · (intro w l hl1 hl2 hSw; obtain ⟨x0, x1, x2, x3, x4, x5, x6, x7, x8, x9, x10, x11, x12, x13, x14, x15⟩ := hSw; go_simp; try with_reducible rfl)
          simp only [Act.put, List.setIfInBounds_toArray, List.set_cons_zero, List.set_cons_succ, List.getElem_toArray, List.getElem_cons_succ, List.getElem_cons_zero]
          refine held2.wpLeft.take (i := 18) (v := ?_) rfl (by kernel_rfl) (by kernel_rfl) (by kernel_rfl) (by kernel_rfl) (fun _ _ => Iff.rfl) (fun _ _ _ h => h) (by rfl) ?_ hSw12 ?_
          rotate_left
          · (intro w l hl1 hl2 hSw; obtain ⟨x0, x1, x2, x3, x4, x5, x6, x7, x8, x9, x10, x11, x12, x13, x14, x15⟩ := hSw; go_simp; try with_reducible rfl)
          simp only [Act.put, List.setIfInBounds_toArray, List.set_cons_zero, List.set_cons_succ, List.getElem_toArray, List.getElem_cons_succ, List.getElem_cons_zero]
          refine held2.wpLeft.take (i := 19) (v := ?_) rfl (by kernel_rfl) (by kernel_rfl) (by kernel_rfl) (by kernel_rfl) (fun _ _ => Iff.rfl) (fun _ _ _ h => h) (by rfl) ?_ hSw12 ?_
          rotate_left
          · (intro w l hl1 hl2 hSw; obtain ⟨x0, x1, x2, x3, x4, x5, x6, x7, x8, x9, x10, x11, x12, x13, x14, x15⟩ := hSw; go_simp; try with_reducible rfl)
          simp only [Act.put, List.setIfInBounds_toArray, List.set_cons_zero, List.set_cons_succ, List.getElem_toArray, List.getElem_cons_succ, List.getElem_cons_zero]
          refine held2.wpLeft.take (i := 20) (v := ?_) rfl (by kernel_rfl) (by kernel_rfl) (by kernel_rfl) (by kernel_rfl) (fun _ _ => Iff.rfl) (fun _ _ _ h => h) (by rfl) ?_ hSw12 ?_
          rotate_left
          · (intro w l hl1 hl2 hSw; obtain ⟨x0, x1, x2, x3, x4, x5, x6, x7, x8, x9, x10, x11, x12, x13, x14, x15⟩ := hSw; go_simp; try with_reducible rfl)
          simp only [Act.put, List.setIfInBounds_toArray, List.set_cons_zero, List.set_cons_succ, List.getElem_toArray, List.getElem_cons_succ, List.getElem_cons_zero]
          refine held2.wpLeft.take (i := 21) (v := ?_) rfl (by kernel_rfl) (by kernel_rfl) (by kernel_rfl) (by kernel_rfl) (fun _ _ => Iff.rfl) (fun _ _ _ h => h) (by rfl) ?_ hSw12 ?_
          rotate_left
          · (intro w l hl1 hl2 hSw; obtain ⟨x0, x1, x2, x3, x4, x5, x6, x7, x8, x9, x10, x11, x12, x13, x14, x15⟩ := hSw; go_simp; try with_reducible rfl)
          simp only [Act.put, List.setIfInBounds_toArray, List.set_cons_zero, List.set_cons_succ, List.getElem_toArray, List.getElem_cons_succ, List.getElem_cons_zero]
          refine held2.wpLeft.one (i := 22) (by kernel_rfl) rfl (fun K hK => ?_)
          go_simp
          refine (HSB.out w12 HBw12.out).mono ?_
          rintro e w13 ⟨rfl, hb⟩
          have HBw13 : Hid (Below w10.heap.size w10 w13) := Lib.hid (HBw12.out.trans (hb.mono HBw12.out.size))
          have hzw13 : w10.heap.size ≤ w13.heap.size := HBw13.out.size
          have n4z := (hb.cell (p := ⟨w9.heap.size, 4, none⟩) (by show w9.heap.size < w12.heap.size; omega)).trans n4
          have s0z := (hb.cell (p := ⟨b, off, none⟩) (by show b < w12.heap.size; omega)).trans s0
          have s1z := (hb.cell (p := ⟨b, off + 1, none⟩) (by show b < w12.heap.size; omega)).trans s1
          have s2z := (hb.cell (p := ⟨b, off + 2, none⟩) (by show b < w12.heap.size; omega)).trans s2
          have s3z := (hb.cell (p := ⟨b, off + 3, none⟩) (by show b < w12.heap.size; omega)).trans s3
          have s4z := (hb.cell (p := ⟨b, off + 4, none⟩) (by show b < w12.heap.size; omega)).trans s4
          have r0z := (hb.cell (p := ⟨b, off + 5, none⟩) (by show b < w12.heap.size; omega)).trans r0
          have r1z := (hb.cell (p := ⟨b, off + 5 + 1, none⟩) (by show b < w12.heap.size; omega)).trans r1
          have r2z := (hb.cell (p := ⟨b, off + 5 + 2, none⟩) (by show b < w12.heap.size; omega)).trans r2
          have r3z := (hb.cell (p := ⟨b, off + 5 + 3, none⟩) (by show b < w12.heap.size; omega)).trans r3
          have r4z := (hb.cell (p := ⟨b, off + 5 + 4, none⟩) (by show b < w12.heap.size; omega)).trans r4
          have a0z := (hb.cell (p := ⟨p1, 0, none⟩) (by show p1 < w12.heap.size; omega)).trans a0
          have a1z := (hb.cell (p := ⟨p1, 1, none⟩) (by show p1 < w12.heap.size; omega)).trans a1
          have a2z := (hb.cell (p := ⟨p1, 2, none⟩) (by show p1 < w12.heap.size; omega)).trans a2
          have a3z := (hb.cell (p := ⟨p1, 3, none⟩) (by show p1 < w12.heap.size; omega)).trans a3
          have a4z := (hb.cell (p := ⟨p1, 4, none⟩) (by show p1 < w12.heap.size; omega)).trans a4
          clear n4 s0 s1 s2 s3 s4 r0 r1 r2 r3 r4 a0 a1 a2 a3 a4
          have n4 := n4z
          have s0 := s0z
          have s1 := s1z
          have s2 := s2z
          have s3 := s3z
          have s4 := s4z
          have r0 := r0z
          have r1 := r1z
          have r2 := r2z
          have r3 := r3z
          have r4 := r4z
          have a0 := a0z
          have a1 := a1z
          have a2 := a2z
          have a3 := a3z
          have a4 := a4z
          clear n4z s0z s1z s2z s3z s4z r0z r1z r2z r3z r4z a0z a1z a2z a3z a4z
          have hSw13 := And.intro n4 (And.intro s0 (And.intro s1 (And.intro s2 (And.intro s3 (And.intro s4 (And.intro r0 (And.intro r1 (And.intro r2 (And.intro r3 (And.intro r4 (And.intro a0 (And.intro a1 (And.intro a2 (And.intro a3 a4))))))))))))))
          refine hK.out _ _ hSw13 ?_
          clear hK K hb
          refine held2.wpLeft.take (i := 23) (v := ?_) rfl (by kernel_rfl) (by kernel_rfl) (by kernel_rfl) (by kernel_rfl) (fun _ _ => Iff.rfl) (fun _ _ _ h => h) (by rfl) ?_ hSw13 ?_
          rotate_left
          · (intro w l hl1 hl2 hSw; obtain ⟨x0, x1, x2, x3, x4, x5, x6, x7, x8, x9, x10, x11, x12, x13, x14, x15⟩ := hSw; go_simp; try with_reducible rfl)
          simp only [Act.put, List.setIfInBounds_toArray, List.set_cons_zero, List.set_cons_succ, List.getElem_toArray, List.getElem_cons_succ, List.getElem_cons_zero]
          refine held2.wpLeft.take (i := 24) (v := ?_) rfl (by kernel_rfl) (by kernel_rfl) (by kernel_rfl) (by kernel_rfl) (fun _ _ => Iff.rfl) (fun _ _ _ h => h) (by rfl) ?_ hSw13 ?_
          rotate_left
          · (intro w l hl1 hl2 hSw; obtain ⟨x0, x1, x2, x3, x4, x5, x6, x7, x8, x9, x10, x11, x12, x13, x14, x15⟩ := hSw; go_simp; try with_reducible rfl)
          simp only [Act.put, List.setIfInBounds_toArray, List.set_cons_zero, List.set_cons_succ, List.getElem_toArray, List.getElem_cons_succ, List.getElem_cons_zero]
          refine held2.wpLeft.done (by kernel_rfl) ?_
          go_wp2
          go_ret
          exact ⟨rfl, HB10.out.trans (HBw13.out.mono HB10.out.size)⟩
      · obtain ⟨j, rfl⟩ : ∃ j, er = j + 1 := ⟨er - 1, by omega⟩
        have hev1 : EV = ev (ad j) := HEV.out.symm
        subst hev1
        have hne := nneqE (ad j)
        clear a0 a1 a2 a3 a4
        go_wp2
        go_ret
        exact ⟨rfl, HB7.out⟩

theorem law_bl (s : ByteArray) (z : Int) (w : World) (ad : Nat → Addr) (hT : Tabs w) (hE : Errs w ad) (hR : intsC.Rng w) :
    Calls Tryd.prog 6 #[.string s, .int .i64 z] w fun e w' => e = .returned (.bool true) ∧ Below w.heap.size w w' := by
  by_cases h : 2000 < s.size
  · exact bl_big s z w ad hT hE hR h
  · exact bl_small s z w ad hT hE hR (by omega)
end Go.Proofs.YtjcaffpmcgfhaaaDoor.jsonBl
