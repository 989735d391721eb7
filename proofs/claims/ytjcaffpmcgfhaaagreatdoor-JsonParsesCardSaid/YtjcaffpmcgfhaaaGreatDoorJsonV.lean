/-
  The chapter's examples (alive).
-/
import Derived.Test.YtjcaffpmcgfhaaaGreatDoorJsonL
namespace Go.Proofs.YtjcaffpmcgfhaaaGreatDoor.jsonV
open Go.ChangeShapes Go.WideShapes Go.ChangeAt Go.RowKit Go.WideMaps Go.Maps nodeP nodeQ nodeS ownI jsonP jsonM jsonA jsonB errs errIs runesE quoteB jsonF jsonI jsonL jsonQ jsonR jsonS jsonT jsonU
set_option linter.unusedSimpArgs false
set_option linter.unusedVariables false

def kA : ByteArray := ⟨#[97]⟩
theorem kA_vld : vld kA = true := by decide +kernel
theorem kA_qt : quoteP.qt kA.data.toList = [34, 97, 34] := by decide +kernel
def xA : Nd := .mk 6 0 ByteArray.empty [] [.mk 4 1 ByteArray.empty [] [], .mk 7 0 ByteArray.empty [kA] [word 1]]
def tA : List UInt8 := [91, 49, 44, 32, 123, 34, 97, 34, 58, 32, 110, 117, 108, 108, 125, 93]
def tB : List UInt8 := [123, 34, 97, 34, 58, 49, 44, 34, 97, 34, 58, 50, 125]
theorem one_itoa : Lib.itoa 1 = [49] := by decide +kernel
theorem readA : parseJ tA = .ok xA := by
  have e1 : ∀ t, gH t → ∀ d n, n + 1 ≤ 20000 → rv d n (49 :: t) = .ok (.mk 4 1 ByteArray.empty [] []) t (n + 1) := by
    intro t ht d n hn
    have := rds_int 1 (by unfold In64; omega) d n t hn ht
    rw [one_itoa] at this; exact this
  have e2 : rv 2 3 ([32] ++ (wNull ++ [125, 93])) = .ok (word 1) [125, 93] 4 := by
    rw [rv_bl _ _ _ _ rfl]; exact rds_word (.inl ⟨rfl, rfl⟩) 2 3 _ (by omega)
  have e3 : rr 1 3 ([34, 97, 34] ++ ([58, 32] ++ (wNull ++ [125, 93]))) ⟨true, [], []⟩ = .ok (.mk 7 0 ByteArray.empty [kA] [word 1]) [93] 4 := by
    rw [rr_eq, if_pos rfl]
    have hb : bs ([34, 97, 34] ++ ([58, 32] ++ (wNull ++ [125, 93]))) = quoteP.qt kA.data.toList ++ ([58, 32] ++ (wNull ++ [125, 93])) := by rw [kA_qt]; rfl
    rw [hb, stk_qt kA_vld]
    dsimp only
    rw [List.drop_left]
    have hb2 : bs ([58, 32] ++ (wNull ++ [125, 93])) = 58 :: ([32] ++ (wNull ++ [125, 93])) := rfl
    rw [hb2, if_neg (show ¬ inK _ [] = true by simp [inK]), if_neg (by rintro (h | h); cases h; exact h rfl), List.tail_cons, e2]
    rfl
  have e4 : rv 1 2 ([32] ++ (123 :: ([34, 97, 34] ++ ([58, 32] ++ (wNull ++ [125, 93]))))) = .ok (.mk 7 0 ByteArray.empty [kA] [word 1]) [93] 4 := by
    rw [rv_bl _ _ _ _ rfl, rv_eq]
    have hb : bs (123 :: ([34, 97, 34] ++ ([58, 32] ++ (wNull ++ [125, 93])))) = 123 :: ([34, 97, 34] ++ ([58, 32] ++ (wNull ++ [125, 93]))) := rfl
    have hh : hd (123 :: ([34, 97, 34] ++ ([58, 32] ++ (wNull ++ [125, 93])))) = 123 := rfl
    have hb2 : bs ([34, 97, 34] ++ ([58, 32] ++ (wNull ++ [125, 93]))) = [34, 97, 34] ++ ([58, 32] ++ (wNull ++ [125, 93])) := rfl
    rw [hb, hh, List.tail_cons, hb2, if_neg (by simp), if_neg (by decide), if_pos (.inr rfl), if_neg (by decide), if_neg (fun h => absurd h.2 (by show ¬ (34 : Nat) = 125; decide))]
    exact e3
  have e5 : rr 0 2 ([32] ++ (123 :: ([34, 97, 34] ++ ([58, 32] ++ (wNull ++ [125, 93]))))) ⟨false, [], [.mk 4 1 ByteArray.empty [] []]⟩ = .ok xA [] 4 := by
    rw [rr_eq, if_neg (by simp), e4]; rfl
  have e6 : rr 0 1 (49 :: 44 :: ([32] ++ (123 :: ([34, 97, 34] ++ ([58, 32] ++ (wNull ++ [125, 93])))))) ⟨false, [], []⟩ = .ok xA [] 4 := by
    rw [rr_eq, if_neg (by simp), e1 _ (gH_44 _) 1 1 (by omega)]
    exact e5
  have e7 : rv 0 0 tA = .ok xA [] 4 := by
    rw [rv_eq]
    have hb : bs tA = 91 :: 49 :: 44 :: ([32] ++ (123 :: ([34, 97, 34] ++ ([58, 32] ++ (wNull ++ [125, 93]))))) := rfl
    have hh : hd (91 :: 49 :: 44 :: ([32] ++ (123 :: ([34, 97, 34] ++ ([58, 32] ++ (wNull ++ [125, 93])))))) = 91 := rfl
    have hb2 : bs (49 :: 44 :: ([32] ++ (123 :: ([34, 97, 34] ++ ([58, 32] ++ (wNull ++ [125, 93])))))) = 49 :: 44 :: ([32] ++ (123 :: ([34, 97, 34] ++ ([58, 32] ++ (wNull ++ [125, 93]))))) := rfl
    rw [hb, hh, List.tail_cons, hb2, if_neg (by simp), if_neg (by decide), if_pos (.inl rfl), if_neg (by decide), if_neg (fun h => absurd h.2 (by show ¬ (49 : Nat) = 93; decide))]
    exact e6
  unfold parseJ
  rw [e7]; rfl
theorem readB : parseJ tB = .err 5 := by
  have e1 : ∀ t, gH t → ∀ d n, n + 1 ≤ 20000 → rv d n (49 :: t) = .ok (.mk 4 1 ByteArray.empty [] []) t (n + 1) := by
    intro t ht d n hn
    have := rds_int 1 (by unfold In64; omega) d n t hn ht
    rw [one_itoa] at this; exact this
  have e2 : rr 0 2 ([34, 97, 34] ++ [58, 50, 125]) ⟨true, [kA], [.mk 4 1 ByteArray.empty [] []]⟩ = .err 5 := by
    rw [rr_eq, if_pos rfl]
    have hb : bs ([34, 97, 34] ++ [58, 50, 125]) = quoteP.qt kA.data.toList ++ [58, 50, 125] := by rw [kA_qt]; rfl
    rw [hb, stk_qt kA_vld]
    dsimp only
    rw [if_pos (show inK _ [kA] = true by simp [inK])]
  have e3 : rr 0 1 ([34, 97, 34] ++ (58 :: 49 :: 44 :: ([34, 97, 34] ++ [58, 50, 125]))) ⟨true, [], []⟩ = .err 5 := by
    rw [rr_eq, if_pos rfl]
    have hb : bs ([34, 97, 34] ++ (58 :: 49 :: 44 :: ([34, 97, 34] ++ [58, 50, 125]))) = quoteP.qt kA.data.toList ++ (58 :: 49 :: 44 :: ([34, 97, 34] ++ [58, 50, 125])) := by rw [kA_qt]; rfl
    rw [hb, stk_qt kA_vld]
    dsimp only
    rw [List.drop_left]
    have hb2 : bs (58 :: 49 :: 44 :: ([34, 97, 34] ++ [58, 50, 125])) = 58 :: 49 :: 44 :: ([34, 97, 34] ++ [58, 50, 125]) := rfl
    rw [hb2, if_neg (show ¬ inK _ [] = true by simp [inK]), if_neg (by rintro (h | h); cases h; exact h rfl), List.tail_cons, e1 _ (gH_44 _) 1 1 (by omega)]
    exact e2
  have e7 : rv 0 0 tB = .err 5 := by
    rw [rv_eq]
    have hb : bs tB = 123 :: ([34, 97, 34] ++ (58 :: 49 :: 44 :: ([34, 97, 34] ++ [58, 50, 125]))) := rfl
    have hh : hd (123 :: ([34, 97, 34] ++ (58 :: 49 :: 44 :: ([34, 97, 34] ++ [58, 50, 125])))) = 123 := rfl
    have hb2 : bs ([34, 97, 34] ++ (58 :: 49 :: 44 :: ([34, 97, 34] ++ [58, 50, 125]))) = [34, 97, 34] ++ (58 :: 49 :: 44 :: ([34, 97, 34] ++ [58, 50, 125])) := rfl
    rw [hb, hh, List.tail_cons, hb2, if_neg (by simp), if_neg (by decide), if_pos (.inr rfl), if_neg (by decide), if_neg (fun h => absurd h.2 (by show ¬ (34 : Nat) = 125; decide))]
    exact e3
  unfold parseJ
  rw [e7]
theorem outA : pOut (⟨#[91, 49, 44, 32, 123, 34, 97, 34, 58, 32, 110, 117, 108, 108, 125, 93]⟩ : ByteArray).data.toList = (xA, 0) := by
  have : pOut tA = (xA, 0) := by unfold pOut; rw [if_neg (by decide), readA]
  exact this
theorem outB : pOut (⟨#[123, 34, 97, 34, 58, 49, 44, 34, 97, 34, 58, 50, 125]⟩ : ByteArray).data.toList = (word 0, 5) := by
  have : pOut tB = (word 0, 5) := by unfold pOut; rw [if_neg (by decide), readB]
  exact this

theorem neqlN (w : World) : (binOp .eql 28 .nilIface .nilIface).run Tryz.prog w = .ok (.bool true) w := by kernel_rfl

set_option maxRecDepth 100000 in
set_option maxHeartbeats 4000000 in
theorem alive (w : World) (ad : Nat → Addr) (hT : Tabs w) (hE : Errs w ad) (hR : intsC.Rng w) :
    Calls Tryz.prog 4 #[] w fun e w' => e = .returned (.bool true) ∧ Below w.heap.size w w' := by
  have HP1 := Lib.hid (parse_any ⟨#[91, 49, 44, 32, 123, 34, 97, 34, 58, 32, 110, 117, 108, 108, 125, 93]⟩ w ad hT hE hR (by decide))
  rw [outA] at HP1
  have HT := Lib.hid hT
  have HE := Lib.hid hE
  have HR := Lib.hid hR
  clear hT hE hR
  go_enter Tryz.func4, Tryz.ntmps4
  go_wp2_with fail
  refine HP1.out.mono ?_
  rintro e w1 ⟨v, he, hB1, hX1⟩
  have hov : ∃ ks a1 c1 a2 c2, v.l = [.int .i64 6, .int .i64 0, .string ByteArray.empty, .slice a1 ks c1, .slice a2 2 c2] ∧ KidsAt w1 w1.heap.size (.slice a2 2 c2) xA.kids := by
    obtain ⟨kv, cv, hl, _, _, _, hkv, hcv⟩ := hX1.open
    obtain ⟨ak, ck, bk, ok, rfl, _⟩ := hkv
    obtain ⟨ao, cap, b, off, ls, rfl, hm, ha, hc, hn⟩ := hcv
    exact ⟨_, _, _, _, _, hl, ao, cap, b, off, ls, rfl, hm, ha, hc, hn⟩
  obtain ⟨nk, a1, c1, a2, c2, hvl, hkd⟩ := hov
  have hve : (Value.agg #[.int .i64 v.k, .int .i64 v.m, .string v.t, .slice v.a1 v.n1 v.c1, .slice v.a2 v.n2 v.c2]) = .agg #[.int .i64 6, .int .i64 0, .string ByteArray.empty, .slice a1 nk c1, .slice a2 2 c2] := by
    have : v.l.toArray = [Value.int .i64 6, .int .i64 0, .string ByteArray.empty, .slice a1 nk c1, .slice a2 2 c2].toArray := by rw [hvl]
    exact congrArg Value.agg this
  rw [hve, show intsC.errV ad (xA, 0).2 = .nilIface from rfl] at he
  subst he
  have hba : Below w1.heap.size w1 (w1.alloc (.cells #[.int .i64 6, .int .i64 0, .string ByteArray.empty, .slice a1 nk c1, .slice a2 2 c2] 26)) := (Below.refl _ _).alloc (Nat.le_refl _) _
  have HB2 := Lib.hid (hB1.trans (hba.mono hB1.size))
  have HX := Lib.hid (hkd.keep hba)
  have HW2 := Lib.hid (Whole.new w1 26 [.int .i64 6, .int .i64 0, .string ByteArray.empty, .slice a1 nk c1, .slice a2 2 c2])
  change Hid (Whole (w1.alloc (.cells #[.int .i64 6, .int .i64 0, .string ByteArray.empty, .slice a1 nk c1, .slice a2 2 c2] 26)) _ _ _) at HW2
  have HP2 := Lib.hid (parse_any ⟨#[123, 34, 97, 34, 58, 49, 44, 34, 97, 34, 58, 50, 125]⟩ (w1.alloc (.cells #[.int .i64 6, .int .i64 0, .string ByteArray.empty, .slice a1 nk c1, .slice a2 2 c2] 26)) ad (tabs_below HT.out HB2.out) (HE.out.below HB2.out) (intsC.rng_below HR.out HB2.out) (by decide))
  rw [outB] at HP2
  clear hvl hkd hve hX1 hB1 hba HP1
  go_wp2_with fail
  generalize w1.alloc (.cells #[.int .i64 6, .int .i64 0, .string ByteArray.empty, .slice a1 nk c1, .slice a2 2 c2] 26) = w2 at *
  refine HP2.out.mono ?_
  rintro e w3 ⟨v2, he, hB3, hX3⟩
  obtain ⟨k', m', t', b1, e1, g1, b2, e2, g2⟩ := v2
  dsimp only at he
  rw [show intsC.errV ad (word 0, 5).2 = ev (ad 4) from rfl] at he
  subst he
  have hba : Below w3.heap.size w3 (w3.alloc (.cells #[.int .i64 k', .int .i64 m', .string t', .slice b1 e1 g1, .slice b2 e2 g2] 26)) := (Below.refl _ _).alloc (Nat.le_refl _) _
  have hB4 := hB3.trans (hba.mono hB3.size)
  have HB4 := Lib.hid (HB2.out.trans (hB4.mono HB2.out.size))
  have hW4 := HW2.out.below hB4 HW2.out.lt
  have c0 := hW4.cell 0
  have c4 := hW4.cell 4
  simp only [List.getElem?_cons_zero, List.getElem?_cons_succ] at c0 c4
  have hkc : ∃ b off ak ck, a2 = some ⟨b, off, none⟩ ∧ (w3.alloc (.cells #[.int .i64 k', .int .i64 m', .string t', .slice b1 e1 g1, .slice b2 e2 g2] 26)).cell? ⟨b, off + 1, none⟩ = some (.int .i64 1) ∧ (w3.alloc (.cells #[.int .i64 k', .int .i64 m', .string t', .slice b1 e1 g1, .slice b2 e2 g2] 26)).cell? ⟨b, off + 5 + 3, none⟩ = some (.slice ak 1 ck) := by
    obtain ⟨ao, cap, b, off, ls, hs, hm, ha, hc, hn⟩ := HX.out
    have hlt : b < w1.heap.size := (ha (by simp [xA, Nd.kids])).2
    have hao : a2 = some ⟨b, off, none⟩ := by
      have h1 := (ha (by simp [xA, Nd.kids])).1
      cases hs; exact h1
    have k0 := hn 0 (by simp [xA, Nd.kids])
    have k1 := hn 1 (by simp [xA, Nd.kids])
    obtain ⟨kv0, cv0, hl0, _⟩ := NodeAt.open (k := 4) (n := 1) (t := ByteArray.empty) (ks := []) (cs := []) k0
    obtain ⟨kv1, cv1, hl1, _, _, _, hk1, _⟩ := NodeAt.open (k := 7) (n := 0) (t := ByteArray.empty) (ks := [kA]) (cs := [word 1]) k1
    obtain ⟨ak, ck, bk, ok, rfl, _⟩ := hk1
    have q0 := hc 0 (by simp [xA, Nd.kids]) 1 (by omega)
    have q1 := hc 1 (by simp [xA, Nd.kids]) 3 (by omega)
    rw [hl0] at q0
    rw [hl1] at q1
    have hlt2 : b < w2.heap.size := Nat.lt_of_lt_of_le hlt (Nat.le_of_lt HW2.out.lt)
    refine ⟨b, off, ak, ck, hao, ?_, ?_⟩
    · rw [hB4.cell (p := ⟨b, off + 1, none⟩) hlt2]
      have : off + 5 * 0 + 1 = off + 1 := by omega
      rw [this] at q0; exact q0
    · rw [hB4.cell (p := ⟨b, off + 5 + 3, none⟩) hlt2]
      exact q1
  obtain ⟨b, off, ak, ck, rfl, q0, q1⟩ := hkc
  have hnl := neqlN
  have HNM := Lib.hid (num_err _ ad (HE.out.below HB4.out) 4 (by decide))
  clear hX3 hB3 hba hB4 hW4 HX HP2
  go_wp2_with fail
  refine HNM.out.mono ?_
  generalize w3.alloc (.cells #[.int .i64 k', .int .i64 m', .string t', .slice b1 e1 g1, .slice b2 e2 g2] 26) = w4 at *
  rintro e w5 ⟨rfl, hB5⟩
  have HB5 := Lib.hid (HB4.out.trans (hB5.mono HB4.out.size))
  clear hB5
  go_wp2
  go_ret
  exact ⟨rfl, HB5.out⟩
end Go.Proofs.YtjcaffpmcgfhaaaGreatDoor.jsonV
