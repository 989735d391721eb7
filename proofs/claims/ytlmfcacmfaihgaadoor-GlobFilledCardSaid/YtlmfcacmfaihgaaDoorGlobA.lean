/-
  The contract of glob.Match.
-/
import Derived.Test.YtlmfcacmfaihgaaDoorChecked
import Derived.Test.YtlmfcacmfaihgaaDoorGlobQ
import Derived.Test.YtlmfcacmfaihgaaDoorJumps
import Derived.WalkKit
import Derived.ProofKit
import Derived.WalkLawsBesides
import Derived.Lib.Hide
import Derived.WalkMore
import Derived.ScopeJumps
import Derived.Deep.QuietTactic
import Derived.BigQuiet
namespace Go.Proofs.YtlmfcacmfaihgaaDoor.globA
open Go.ChangeShapes Go.WideShapes Go.ChangeAt Go.RowKit globP globQ jumps

theorem bat (s : ByteArray) (i : Nat) (h : i < s.size) : s.data.toList[i]? = some s[i] := by
  rw [List.getElem?_eq_getElem (by simpa using h)]; rfl
theorem bno (s : ByteArray) (i : Nat) (h : ¬ i < s.size) : s.data.toList[i]? = none := by
  rw [List.getElem?_eq_none_iff]; simpa using h

def J (P S : ByteArray) (w : World) (a' : Act) (w' : World) : Prop :=
  (∃ n, w' = w.drewN n) ∧ ∃ (p i fr : Nat) (st : Int) (u9 u10 u11 u12 u13 u14 u15 u16 u17 u18 u19 u20 u21 u22 u23 u24 u25 u26 u27 u28 u29 u30 u31 u32 u33 u34 u35 u36 u37 u38 u39 u40 u41 u42 u43 u44 u45 u46 u47 u48 u49 u50 u51 u52 u53 u54 u55 u56 u57 : Value), a' = { tmps := #[.string P, .string S, undef, undef, .bool false, .int .i64 p, .int .i64 i, .int .i64 st, .int .i64 fr, u9, u10, u11, u12, u13, u14, u15, u16, u17, u18, u19, u20, u21, u22, u23, u24, u25, u26, u27, u28, u29, u30, u31, u32, u33, u34, u35, u36, u37, u38, u39, u40, u41, u42, u43, u44, u45, u46, u47, u48, u49, u50, u51, u52, u53, u54, u55, u56, u57], defers := [] }
    ∧ Inv P.data.toList S.data.toList p i st fr

def mu (P S : ByteArray) (a' : Act) (_w : World) : Nat := left P.data.toList S.data.toList (intOf (a'.tmps.getD 5 undef)).toNat (intOf (a'.tmps.getD 8 undef)).toNat

theorem Jmk {P S : ByteArray} {w w' : World} {pv iv fv st : Int} (p i fr : Nat) {u9 u10 u11 u12 u13 u14 u15 u16 u17 u18 u19 u20 u21 u22 u23 u24 u25 u26 u27 u28 u29 u30 u31 u32 u33 u34 u35 u36 u37 u38 u39 u40 u41 u42 u43 u44 u45 u46 u47 u48 u49 u50 u51 u52 u53 u54 u55 u56 u57 : Value} (hw : ∃ n, w' = w.drewN n) (h1 : pv = p) (h2 : iv = i) (h3 : fv = fr) (h : Inv P.data.toList S.data.toList p i st fr) :
    J P S w { tmps := #[.string P, .string S, undef, undef, .bool false, .int .i64 pv, .int .i64 iv, .int .i64 st, .int .i64 fv, u9, u10, u11, u12, u13, u14, u15, u16, u17, u18, u19, u20, u21, u22, u23, u24, u25, u26, u27, u28, u29, u30, u31, u32, u33, u34, u35, u36, u37, u38, u39, u40, u41, u42, u43, u44, u45, u46, u47, u48, u49, u50, u51, u52, u53, u54, u55, u56, u57], defers := [] } w' := by
  subst h1 h2 h3
  exact ⟨hw, p, i, fr, st, _, _, _, _, _, _, _, _, _, _, _, _, _, _, _, _, _, _, _, _, _, _, _, _, _, _, _, _, _, _, _, _, _, _, _, _, _, _, _, _, _, _, _, _, _, _, _, _, _, rfl, h⟩

theorem mu_p {P S : ByteArray} {w w' : World} {a b : Act} {p fr fr' : Nat} {x y : Int} {x' y' : Int} (h : p < P.size) (hf : fr ≤ fr') (e1 : a.tmps.getD 5 undef = .int .i64 x) (e2 : a.tmps.getD 8 undef = .int .i64 y) (e3 : b.tmps.getD 5 undef = .int .i64 x') (e4 : b.tmps.getD 8 undef = .int .i64 y')
    (f1 : x = (p + 1 : Nat)) (f2 : y = fr') (f3 : x' = p) (f4 : y' = fr) : mu P S a w < mu P S b w' := by
  unfold mu; rw [e1, e2, e3, e4]; subst f1 f2 f3 f4
  exact left_p (by simpa using h) hf
theorem mu_f {P S : ByteArray} {w w' : World} {a b : Act} {p q fr : Nat} {x y : Int} {x' y' : Int} (h : fr < S.size) (e1 : a.tmps.getD 5 undef = .int .i64 x) (e2 : a.tmps.getD 8 undef = .int .i64 y) (e3 : b.tmps.getD 5 undef = .int .i64 x') (e4 : b.tmps.getD 8 undef = .int .i64 y')
    (f1 : x = q) (f2 : y = (fr + 1 : Nat)) (f3 : x' = p) (f4 : y' = fr) : mu P S a w < mu P S b w' := by
  unfold mu; rw [e1, e2, e3, e4]; subst f1 f2 f3 f4
  exact left_f (by simpa using h)

set_option maxRecDepth 100000 in
theorem match_any (P S : ByteArray) (w : World) (hp : P.size ≤ maxLen) (hs : S.size ≤ maxLen) :
    Calls Tryd.prog 6 #[.string P, .string S] w fun e w' => e = .returned (.bool (gm P.data.toList S.data.toList)) ∧ ∃ n, w' = w.drewN n := by
  unfold maxLen at hp hs
  go_enter Tryd.func6, Tryd.ntmps6
  go_wp2
  refine wp_scope_jumps2 0 (J P S w) (mu P S) rfl ?_ ?_
  · rintro a1 w1 ⟨⟨nq, rfl⟩, p, i, fr, st, u9, u10, u11, u12, u13, u14, u15, u16, u17, u18, u19, u20, u21, u22, u23, u24, u25, u26, u27, u28, u29, u30, u31, u32, u33, u34, u35, u36, u37, u38, u39, u40, u41, u42, u43, u44, u45, u46, u47, u48, u49, u50, u51, u52, u53, u54, u55, u56, u57, rfl, hI⟩
    obtain ⟨hI1, hI2, hI3, hI4⟩ := id hI
    simp only [Array.length_toList, ByteArray.size_data] at hI1 hI2
    have hst1 : -1 ≤ st := by rcases hI4 with ⟨h, _⟩ | ⟨q, _, h, _⟩ <;> omega
    have hst2 : st ≤ P.size := by rcases hI4 with ⟨h, _⟩ | ⟨q, _, h, _⟩ <;> omega
    clear hI4
    have HI := Lib.hid hI
    clear hI
    by_cases h1 : p < P.size
    · by_cases h2 : P[p] = star
      · have hv : ((P[p].toNat : Int) == 42) = true := by rw [h2]; rfl
        have hn := Lib.hid (s1 HI.out (by rw [bat P p h1, h2]))
        clear h2
        go_wp2
        go_step3
        exact ⟨rfl, Jmk (p + 1) i i ⟨nq, rfl⟩ (by omega) rfl rfl hn.out, mu_p (p := p) (fr := fr) (fr' := i) h1 hI3 rfl rfl rfl rfl (by omega) rfl rfl rfl⟩
      · have hv : ((P[p].toNat : Int) == 42) = false := by
          rw [beq_eq_false_iff_ne]; intro h; apply h2; exact UInt8.toNat_inj.1 (show P[p].toNat = 42 by omega)
        by_cases h3 : i = S.size
        · have hv3 : ((i : Int) == (S.size : Int)) = true := by simp [h3]
          have hv4 : ((p : Int) == (P.size : Int)) = false := by simp; omega
          have hr : Hid (gm P.data.toList S.data.toList = false) := Lib.hid (by
            have hh := HI.out
            have e : i = S.data.toList.length := by simpa using h3
            rw [e] at hh
            rw [s2 hh (by rw [bat P p h1]; simpa using h2)]
            simp; omega)
          clear h3 h2
          go_wp2
          rw [jump_ret]
          go_ret
          exact ⟨by rw [hr.out]; rfl, nq, rfl⟩
        · have h4 : i < S.size := by omega
          have hv3 : ((i : Int) == (S.size : Int)) = false := by simp; omega
          clear h3
          by_cases h5 : P[p] = S[i]
          · have hv5 : ((P[p].toNat : Int) == (S[i].toNat : Int)) = true := by rw [h5]; simp
            have hn := Lib.hid (s3 HI.out (bat P p h1) (by rw [bat S i h4, h5]) h2)
            clear h5 h2
            have hx1 : (p : Int) < P.size := by omega
            have hx2 : (i : Int) < S.size := by omega
            go_wp2
            go_quiet (fail)
            go_wp2
            go_step3
            exact ⟨rfl, Jmk (p + 1) (i + 1) fr ⟨_, rfl⟩ (by omega) (by omega) rfl hn.out, mu_p (p := p) (fr := fr) (fr' := fr) h1 (Nat.le_refl _) rfl rfl rfl rfl (by omega) rfl rfl rfl⟩
          · have hv5 : ((P[p].toNat : Int) == (S[i].toNat : Int)) = false := by
              rw [beq_eq_false_iff_ne]; intro h; apply h5; exact UInt8.toNat_inj.1 (by omega)
            have ho : Hid (Odds P.data.toList S.data.toList p i) := Lib.hid ⟨S[i], bat S i h4, by rw [bat P p h1]; rintro c ⟨rfl⟩; exact ⟨h2, h5⟩⟩
            clear h5 h2
            have hx1 : (p : Int) < P.size := by omega
            have hx2 : (i : Int) < S.size := by omega
            by_cases h6 : st < 0
            · have hr := Lib.hid (s4 HI.out ho.out h6)
              go_wp2
              go_quiet (fail)
              go_wp2
              rw [jump_ret]
              go_ret
              exact ⟨by rw [hr.out]; rfl, _, rfl⟩
            · by_cases h7 : st = P.size
              · have hv7 : (st == (P.size : Int)) = true := by simp [h7]
                have hr := Lib.hid (s5 HI.out (by simpa using h7))
                clear h7
                go_wp2
                go_quiet (fail)
                go_wp2
                rw [jump_ret]
                go_ret
                exact ⟨by rw [hr.out]; rfl, _, rfl⟩
              · have hv7 : (st == (P.size : Int)) = false := by simp [h7]
                obtain ⟨q, e, hq, hn⟩ := s6 HI.out ho.out (by omega)
                have hn := Lib.hid hn
                subst e
                clear h7
                go_wp2
                go_quiet (fail)
                go_wp2
                go_step3
                exact ⟨rfl, Jmk q (fr + 1) (fr + 1) ⟨_, rfl⟩ rfl (by omega) (by omega) hn.out, mu_f (q := q) (p := p) (fr := fr) (by omega) rfl rfl rfl rfl rfl (by omega) rfl rfl⟩
    · obtain rfl : p = P.size := by omega
      have hd1 : decide ((P.size : Int) < (P.size : Int)) = false := by simp
      by_cases h3 : i = S.size
      · have hv3 : ((i : Int) == (S.size : Int)) = true := by simp [h3]
        have hr : Hid (gm P.data.toList S.data.toList = true) := Lib.hid (by
            have hh := HI.out
            have e : i = S.data.toList.length := by simpa using h3
            rw [e] at hh
            rw [s2 hh (by rw [bno P _ h1]; simp)]
            simp)
        clear h3
        go_wp2
        rw [jump_ret]
        go_ret
        exact ⟨by rw [hr.out]; rfl, nq, rfl⟩
      · have h4 : i < S.size := by omega
        have hv3 : ((i : Int) == (S.size : Int)) = false := by simp; omega
        clear h3
        have ho : Hid (Odds P.data.toList S.data.toList P.size i) := Lib.hid ⟨S[i], bat S i h4, by rw [bno P _ h1]; rintro c ⟨⟩⟩
        by_cases h6 : st < 0
        · have hr := Lib.hid (s4 HI.out ho.out h6)
          go_wp2
          go_quiet (fail)
          go_wp2
          rw [jump_ret]
          go_ret
          exact ⟨by rw [hr.out]; rfl, _, rfl⟩
        · by_cases h7 : st = P.size
          · have hv7 : (st == (P.size : Int)) = true := by simp [h7]
            have hr := Lib.hid (s5 HI.out (by simpa using h7))
            clear h7
            go_wp2
            go_quiet (fail)
            go_wp2
            rw [jump_ret]
            go_ret
            exact ⟨by rw [hr.out]; rfl, _, rfl⟩
          · have hv7 : (st == (P.size : Int)) = false := by simp [h7]
            obtain ⟨q, e, hq, hn⟩ := s6 HI.out ho.out (by omega)
            have hn := Lib.hid hn
            subst e
            clear h7
            go_wp2
            go_quiet (fail)
            go_wp2
            go_step3
            exact ⟨rfl, Jmk q (fr + 1) (fr + 1) ⟨_, rfl⟩ rfl (by omega) (by omega) hn.out, mu_f (q := q) (p := P.size) (fr := fr) (by omega) rfl rfl rfl rfl rfl (by omega) rfl rfl⟩
  · intro H
    go_wp2
    go_step3
    rename_i hK
    exact hK _ _ (H _ _ ⟨⟨0, rfl⟩, 0, 0, 0, -1, _, _, _, _, _, _, _, _, _, _, _, _, _, _, _, _, _, _, _, _, _, _, _, _, _, _, _, _, _, _, _, _, _, _, _, _, _, _, _, _, _, _, _, _, _, _, _, _, _, rfl, inv_start _ _⟩)
end Go.Proofs.YtlmfcacmfaihgaaDoor.globA
