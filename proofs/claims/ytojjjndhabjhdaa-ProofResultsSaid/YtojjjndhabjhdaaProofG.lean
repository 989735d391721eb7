/-
  Contract of (*prover).clash: the walk.
-/
import Derived.Test.YtojjjndhabjhdaaProofF
namespace Go.Proofs.Ytojjjndhabjhdaa.proofG
set_option linter.unusedSimpArgs false
set_option linter.unusedVariables false
open Go.ChangeShapes Go.WideShapes Go.ChangeAt Go.RowKit proofP proofQ owns proofA proofB proofC proofD proofE proofF cls

theorem c1_start {w : World} {B bp : Nat} {lv va : Value} {first nv : Nat} {s : PS} {F : Ix → Ent} {cls : Nat → List Int} {cl : List (List Int)} {fr : List Int} (hM : Mem w B bp lv va first nv s F) (G : PGood s cls) (ht : s.trail = []) : C1 B bp lv first nv s cls cl fr w 0 w :=
  ⟨s, va, F, hM, Below.refl _ _, Same.refl s, G, by rw [ht]; simp, by simp⟩

/-- integers that lie below a block, or are the row beside the prover's -/
def IntsEx (w : World) (B : Nat) (x : Ent) (v : Value) (l : List Int) : Prop :=
  ∃ ao cap b off, v = .slice ao l.length cap ∧ l.length ≤ maxLen ∧ (l ≠ [] → ao = some ⟨b, off, none⟩ ∧ (b < B ∨ (off = 0 ∧ x.v = .slice (some ⟨b, 0, none⟩) l.length cap ∧ x.xs = l.map (Value.int .i64)))) ∧ (∀ i, i < l.length → w.cell? ⟨b, off + i, none⟩ = some (.int .i64 (l.getD i 0))) ∧ ∀ x ∈ l, In64 x
theorem _root_.Go.Proofs.Ytojjjndhabjhdaa.cls.IntsAt.ex {w : World} {B : Nat} {v : Value} {l : List Int} (h : IntsAt w B v l) (x : Ent) : IntsEx w B x v l := by
  obtain ⟨ao, cap, b, off, rfl, hm, ha, hc, hs⟩ := h
  exact ⟨ao, cap, b, off, rfl, hm, fun h => ⟨(ha h).1, .inl (ha h).2⟩, hc, hs⟩
theorem ex_read {w wr : World} {B bp b off cap : Nat} {lv va : Value} {first nv : Nat} {s : PS} {F : Ix → Ent} {x : Ent} {c : List Int} {k : Nat} (hM : Mem wr B bp lv va first nv s F) (hb : Below B w wr) (hx : s.extra = x) (h : b < B ∨ (off = 0 ∧ x.v = .slice (some ⟨b, 0, none⟩) c.length cap ∧ x.xs = c.map (Value.int .i64))) (hc : w.cell? ⟨b, off + k, none⟩ = some (.int .i64 (c.getD k 0))) (hk : k < c.length) :
    wr.cell? ⟨b, off + k, none⟩ = some (.int .i64 (c.getD k 0)) := by
  rcases h with h | ⟨rfl, h1, h2⟩
  · rw [hb.cell (show (⟨b, off + k, none⟩ : Addr).block < B from h)]; exact hc
  · have e := hM.hx.2.trans hx
    rw [Nat.zero_add, hM.own.cell (k := .extra) (by rw [e]; exact h1) k (by rw [e, h2, List.length_map]; exact hk), e, h2, List.getElem?_map, List.getElem?_eq_getElem hk, List.getD_eq_getElem?_getD, List.getElem?_eq_getElem hk]; rfl

theorem neg_get {c : List Int} {k : Nat} (h : k < c.length) : (c.map fun l => -l).getD k 0 = -(c.getD k 0) := by
  rw [List.getD_eq_getElem?_getD, List.getD_eq_getElem?_getD, List.getElem?_map, List.getElem?_eq_getElem h]; rfl

set_option maxHeartbeats 4000000 in
set_option maxRecDepth 100000 in
theorem clash_any (B bp : Nat) (lv va : Value) (first nv : Nat) (s : PS) (F : Ix → Ent) (w : World) (cls : Nat → List Int) (cl : List (List Int)) (cv : Value) (c : List Int) (h : Mem w B bp lv va first nv s F) (G : PGood s cls) (hnv : Hid (nv = 40002)) (hc : IntsEx w B s.extra cv c) (hcl : c.length ≤ 100000)
    (htr : s.trail = []) (hon : ∀ i, i < s.n → s.on i = true → cls i ∈ cl) (hcl' : ∀ c, c ∈ cl → ∃ i, i < s.n ∧ s.on i = true ∧ cls i = c) (hsl : s.short.length ≤ 100000) :
    Calls Try.prog 44 #[.pointer (some ⟨bp, 0, none⟩), cv] w (ClashP B bp lv first nv s cls cl (c.map fun l => -l) w) := by
  have H0 := Lib.hid (c1_start (cl := cl) (fr := c.map fun l => -l) h G htr)
  have HON := Lib.hid hon
  have HCL := Lib.hid hcl'
  have HFL : Hid ((c.map fun l => -l).length = c.length) := Lib.hid (by simp)
  obtain ⟨ao, cap, b, off, rfl, hm, ha, hcell, h64⟩ := hc
  have HA := Lib.hid ha
  have HC := Lib.hid hcell
  have HG := Lib.hid (fun k (hk : k < c.length) => neg_get hk)
  clear h G ha hcell h64 htr hon hcl' hm
  generalize hfr : (c.map fun l => -l) = fr at *
  clear hfr
  go_enter Try.func44, Try.ntmps44
  go_wp2
  go_loopw [13] (fun it wr => ∃ k : Nat, k ≤ c.length ∧ it = .int .i64 k ∧ C1 B bp lv first nv s cls cl fr w k wr) (fun it _ => c.length - (intOf it).toNat)
  case atStart => exact ⟨0, Nat.zero_le _, rfl, H0.out⟩
  case round =>
    obtain ⟨k, hk, rfl, hrel⟩ := hrel
    have HR := Lib.hid hrel
    obtain ⟨st, va1, F1, hM, hb, hs, G, hD, hf⟩ := hrel
    by_cases hlt : k < c.length
    · obtain ⟨rfl, hbB⟩ := HA.out (by intro h0; rw [h0] at hlt; simp at hlt)
      have q : wr.cell? ⟨b, off + k, none⟩ = some (.int .i64 (c.getD k 0)) := ex_read hM hb hs.ex hbB (HC.out k hlt) hlt
      clear hbB
      have hgk := HG.out k hlt
      generalize hl : c.getD k 0 = l at *
      clear hl
      by_cases hlit : lit l
      · have HL := Lib.hid hlit
        have HFK := Lib.hid hgk
        have b1 : -20000 ≤ l := hlit.2.1
        have b2 : l ≤ 20000 := hlit.2.2
        have HLF : Hid (lit (fr.getD k 0)) := Lib.hid (by rw [hgk]; exact lit_neg hlit)
        have HCE : Hid (code (fr.getD k 0) = code (-l)) := Lib.hid (by rw [hgk])
        have HSA := Lib.hid (set_any B bp lv va1 first nv st F1 wr hM G.ti hnv.out (code (-l)) (code_rng _ (lit_neg hlit)))
        have HMM := Lib.hid hM
        have HBB := Lib.hid hb
        have HS := Lib.hid hs
        have HGG := Lib.hid G
        have HD := Lib.hid hD
        have HF := Lib.hid hf
        clear hM hb hs G hD hf hlit hgk
        go_wp2_with (first | (go_at_call 52; refine (isLit_yes _ _ HL.out).mono ?_; rintro e w' ⟨rfl, rfl⟩) | (go_at_call 53; refine (codeOf_lit _ _ (lit_neg HL.out)).mono ?_; rintro e w' ⟨rfl, rfl⟩) | fail)
        refine HSA.out.mono ?_
        rintro e w1 (⟨ho, rfl, rfl⟩ | ⟨ho, rfl, hb1, va2, F2, hM2, _⟩)
        · have HP := Lib.hid (c1_fail HS.out HGG.out HD.out (by rw [HFL.out]; exact hlt) HLF.out (by rw [HCE.out]; exact ho) HMM.out HBB.out)
          clear ho
          go_wp2
          go_ret
          exact HP.out
        · have HNX := Lib.hid (c1_set HS.out HGG.out HD.out HF.out (by rw [HFL.out]; exact hlt) HLF.out (by rw [HCE.out]; exact ho) (by rw [HCE.out]; exact hM2) (HBB.out.trans hb1))
          clear ho hb1 hM2
          go_wp2
          go_roundw
          case rel => exact ⟨k + 1, by omega, by go_num, HNX.out⟩
          case measure => simp [intOf]; omega
      · have HL := Lib.hid hlit
        have HNX := Lib.hid (c1_skip HR.out (by rw [HFL.out]; exact hlt) (by rw [hgk]; exact fun h => hlit (lit_back h)))
        clear hM hb hs G hD hf hlit hgk
        go_wp2_with (go_at_call 52; refine (isLit_no _ _ HL.out).mono ?_; rintro e w' ⟨rfl, rfl⟩)
        go_roundw
        case rel => exact ⟨k + 1, by omega, by go_num, HNX.out⟩
        case measure => simp [intOf]; omega
    · obtain rfl : k = c.length := by omega
      have hsn : st.short.length = s.short.length := by rw [hs.short]
      have hxs : (F1 .short).xs.length = s.short.length := by rw [hM.short, List.length_map, hsn]
      obtain ⟨aS, capS, hvS⟩ := hM.own.value .short
      rw [hxs] at hvS
      have f5 := hM.field.2.2.2.2.1
      rw [hvS] at f5
      have H2 := Lib.hid (c2_of (cl := cl) hM hb hs G hD (by rw [HFL.out]; exact hf) hvS)
      clear hM hb hs G hD hf hxs hvS hsn HR H0 HA HC HG
      go_wp2
      go_loopw [33] (fun it wr => ∃ k : Nat, k ≤ s.short.length ∧ it = .int .i64 k ∧ C2 (.slice aS s.short.length capS) B bp lv first nv s cls cl fr w k wr) (fun it _ => s.short.length - (intOf it).toNat)
      case atStart => exact ⟨0, Nat.zero_le _, rfl, H2.out⟩
      case round =>
        clear f5 H2 hk hlt
        obtain ⟨k, hk, rfl, hrel⟩ := hrel
        have HR := Lib.hid hrel
        obtain ⟨st, va1, F1, hM, hb, hs, G, hD, hf, hsh, hvS⟩ := hrel
        by_cases hlt : k < s.short.length
        · have hxs : (F1 .short).xs.length = s.short.length := by rw [hM.short, List.length_map, hs.short]
          obtain ⟨gS, capS', hS, _, _, _, _⟩ := hM.own.form .short (by omega)
          rw [hxs, hvS] at hS
          obtain ⟨rfl, rfl⟩ : aS = some ⟨gS, 0, none⟩ ∧ capS = capS' := by cases hS; exact ⟨rfl, rfl⟩
          have cS := hM.own.cell hvS k (by omega)
          rw [hM.short, hs.short, getD_iv hlt] at cS
          have hmem : s.short.getD k 0 ∈ s.short := get_mem hlt
          have hin := ((G.sh _).1 (by rw [hs.short]; exact hmem))
          have hns : st.n = s.n := hs.n
          have hi : s.short.getD k 0 < s.n := by omega
          obtain ⟨gO, capO, hO, hO1⟩ := hM.onAt (by omega)
          obtain ⟨gR, capR, hR, hR1⟩ := hM.rowsAt (by omega)
          obtain ⟨f0, f1, f2, f3, f5, f6, f7, f8⟩ := hM.field
          rw [hO, hns] at f3
          rw [hR, hns] at f2
          have o1 := hO1 _ hin.1
          rw [hs.on] at o1
          have r1 := hR1 _ hin.1
          have HR1 := Lib.hid hR1
          cases ho : s.on (s.short.getD k 0)
          · rw [ho] at o1
            have HNX := Lib.hid (c2_skip HR.out hlt ho)
            generalize s.short.getD k 0 = i at *
            clear hM hb hs G hD hf hsh hvS hxs hS hmem hin hns hO hO1 hR hR1 f0 f1 f2 f5 f6 f7 f8 r1 ho HR HR1
            go_wp2
            go_roundw
            case rel => exact ⟨k + 1, by omega, by go_num, HNX.out⟩
            case measure => simp [intOf]; omega
          · rw [ho] at o1
            by_cases h0 : st.row (s.short.getD k 0) = []
            · have HP := Lib.hid (c2_empty (cl := cl) (fr := fr) hs G HON.out hlt ho h0 hM hb)
              obtain ⟨aR, capr, hvr⟩ := hM.own.value (.row (s.short.getD k 0))
              rw [hM.row, h0] at hvr
              simp only [List.map_nil, List.length_nil] at hvr
              rw [hvr] at r1
              generalize s.short.getD k 0 = i at *
              clear hM hb hs G hD hf hsh hvS hxs hS hmem hin hns hO hO1 hR hR1 f0 f1 f5 f6 f7 f8 ho h0 HR HR1 hvr
              go_wp2
              go_ret
              exact HP.out
            · have hpos : 0 < (st.row (s.short.getD k 0)).length := List.length_pos_iff.2 h0
              obtain ⟨gi, capi, hI, hI1, hI2, hI3, hI4, hI5⟩ := hM.rowAt (s.short.getD k 0) hpos
              rw [hI] at r1
              have c0 := hI1 0 hpos
              have HSA := Lib.hid (set_any B bp lv va1 first nv st F1 wr hM G.ti hnv.out _ ((G.ro _ hin.1).rng (get_mem hpos)))
              have HFA := Lib.hid (fun hop => c2_fail (cl := cl) (fr := fr) (k := k) hs G hD HON.out hlt ho h0 hop hM hb)
              have HNX := Lib.hid (fun w1 va2 F2 hop hM2 (hF2 : ∀ j, j ≠ Ix.trail → (F2 j).v = (F1 j).v) (hb1 : Below B wr w1) => c2_set (bp := bp) (lv := lv) (first := first) (nv := nv) (va := va2) (F := F2) hs G hD hf hsh HON.out hlt ho h0 hop hM2 ((hF2 .short (by simp)).trans hvS) (hb.trans hb1))
              generalize hx : (st.row (s.short.getD k 0)).getD 0 0 = x at *
              generalize (st.row (s.short.getD k 0)).length = L at *
              generalize s.short.getD k 0 = i at *
              have hL0 : ¬ ((L : Int) = 0) := by omega
              clear hM hb hs G hD hf hsh hvS hxs hS hmem hin hns hO hO1 hR hR1 f0 f1 f5 f6 f7 f8 ho h0 HR HR1 hI hI1 hI5 hx
              go_wp2_with fail
              refine HSA.out.mono ?_
              rintro e w1 (⟨hop, rfl, rfl⟩ | ⟨hop, rfl, hb1, va2, F2, hM2, hF2⟩)
              · have HP := Lib.hid (HFA.out hop)
                clear hop HFA HNX
                go_wp2
                go_ret
                exact HP.out
              · have HN := Lib.hid (HNX.out w1 va2 F2 hop hM2 hF2 hb1)
                clear hop hb1 hM2 hF2 HNX HFA
                go_wp2
                go_roundw
                case rel => exact ⟨k + 1, by omega, by go_num, HN.out⟩
                case measure => simp [intOf]; omega
        · obtain rfl : k = s.short.length := by omega
          have H3 := Lib.hid (c3_of HR.out)
          clear hM hb hs G hD hf hsh hvS HR
          go_wp2
          go_loopw [9] (fun it wr => ∃ k : Nat, k ≤ nv ∧ it = .int .i64 k ∧ C3 B bp lv first nv s cls cl fr w k wr) (fun it _ => nv - (intOf it).toNat)
          case atStart => exact ⟨0, Nat.zero_le _, rfl, H3.out⟩
          case round =>
            clear H3 hk hlt
            obtain ⟨k, hk, rfl, hrel⟩ := hrel
            obtain ⟨st, va1, F1, hM, hb, hs, G, hD, hf, hsh, hP, hkl⟩ := hrel
            have htl : st.trail.length ≤ nv := by rw [hnv.out]; exact G.ti.len
            have htl2 : st.trail.length ≤ 100000 := Nat.le_trans G.ti.len (by omega)
            have hxs : (F1 .trail).xs.length = st.trail.length := by rw [hM.trail, List.length_map]
            obtain ⟨f0, f1, f2, f3, f5, f6, f7, f8⟩ := hM.field
            by_cases hlt : k < st.trail.length
            · obtain ⟨gT, capT, hT, _, _, _, _⟩ := hM.own.form .trail (by omega)
              rw [hxs] at hT
              have cT := hM.own.cell hT k (by omega)
              rw [hM.trail, getD_iv hlt] at cT
              rw [hT] at f8
              have hrng := G.ti.rng _ (get_mem hlt)
              have hxor := xor1 (st.trail.getD k 0) (by omega)
              obtain ⟨aW, capW, hvW⟩ := hM.own.value .watches
              have hms : st.m = s.m := hs.m
              rw [hM.watches, List.length_map, List.length_range, hms] at hvW
              rw [hvW] at f6
              by_cases hw : opp (st.trail.getD k 0) < s.m
              · have HFO := Lib.hid (follow_any B bp lv va1 first nv st F1 wr cls cl fr k (opp (st.trail.getD k 0)) hM G hnv (by omega) hlt (opp_opp _).symm hP hD (by rw [hs.n, hs.on]; exact HON.out))
                have HB := Lib.hid hb
                have HS := Lib.hid hs
                have HF := Lib.hid hf
                have HSH := Lib.hid hsh
                have HG2 := Lib.hid G
                have HK1 := Lib.hid (show k + 1 ≤ nv by omega)
                generalize hy : opp (st.trail.getD k 0) = y at *
                generalize st.trail.getD k 0 = x at *
                clear hM hb hs G hD hf hsh hP hkl hxs hT hvW f0 f1 f2 f3 f5 f7 hrng hy
                go_wp2_with fail
                refine HFO.out.mono ?_
                rintro e w1 ⟨st', va', F', hM1, hb1, hs1, G1, ht1, (⟨rfl, hP1, hD1, hk1⟩ | ⟨rfl, hC⟩)⟩
                · have HNX := Lib.hid (c3_next HB.out HS.out HF.out HSH.out HG2.out hM1 hb1 hs1 G1 ht1 hP1 hD1 hk1)
                  clear hM1 hb1 hs1 G1 ht1 hP1 hD1 hk1
                  go_wp2
                  go_roundw
                  case rel => exact ⟨k + 1, HK1.out, by go_num, HNX.out⟩
                  case measure => simp [intOf]; omega
                · have HPP : Hid (ClashP B bp lv first nv s cls cl fr w (.returned (.bool true)) w1) := Lib.hid ⟨st', va', F', hM1, HB.out.trans hb1, HS.out.trans hs1, G1, .inl ⟨rfl, hC⟩⟩
                  clear hM1 hb1 hs1 G1 ht1 hC
                  go_wp2
                  go_ret
                  exact HPP.out
              · have HNX := Lib.hid (c3_past hM hb hs G hD hf hsh hP hlt (by omega))
                have HK1 := Lib.hid (show k + 1 ≤ nv by omega)
                generalize hy : opp (st.trail.getD k 0) = y at *
                generalize st.trail.getD k 0 = x at *
                have hw' : ¬ ((y : Int) < (s.m : Int)) := by omega
                clear hM hb hs G hD hf hsh hP hkl hxs hT hvW f0 f1 f2 f3 f5 f7 hrng hy hw
                go_wp2
                go_roundw
                case rel => exact ⟨k + 1, HK1.out, by go_num, HNX.out⟩
                case measure => simp [intOf]; omega
            · have HPP := Lib.hid (c3_end hM hb hs G hD hf hsh hP hkl HCL.out (by omega))
              obtain ⟨aT, capT, hvT⟩ := hM.own.value .trail
              rw [hxs] at hvT
              rw [hvT] at f8
              obtain rfl : k = st.trail.length := by omega
              clear hM hb hs G hD hf hsh hP hkl hxs hvT f0 f1 f2 f3 f5 f6 f7
              go_wp2
              go_ret
              exact HPP.out
end Go.Proofs.Ytojjjndhabjhdaa.proofG
