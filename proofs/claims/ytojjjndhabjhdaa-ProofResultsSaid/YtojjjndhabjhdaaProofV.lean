/-
  Contract of the reference's Propagate.
-/
import Derived.Test.YtojjjndhabjhdaaProofT
namespace Go.Proofs.Ytojjjndhabjhdaa.proofV
open Go.ChangeShapes Go.WideShapes Go.ChangeAt Go.RowKit proofP proofQ proofR owns proofA proofI proofM proofN proofO proofS proofT cls
set_option linter.unusedSimpArgs false
set_option linter.unusedVariables false

theorem In_yes (cv : Value) (c : List Int) (x : Int) (w : World) (B : Nat) (hc : IntsAt w B cv c) (h : x ∈ c) : Calls Try.prog 23 #[cv, .int .i64 x] w fun e w' => e = .returned (.bool true) ∧ w = w' := by
  have := In_any cv c x w B hc; rw [decide_eq_true h] at this; exact this
theorem In_no (cv : Value) (c : List Int) (x : Int) (w : World) (B : Nat) (hc : IntsAt w B cv c) (h : x ∉ c) : Calls Try.prog 23 #[cv, .int .i64 x] w fun e w' => e = .returned (.bool false) ∧ w = w' := by
  have := In_any cv c x w B hc; rw [decide_eq_false h] at this; exact this

def PropP (cl : List (List Int)) (fr : List Int) (w : World) (e : Ending) (w' : World) : Prop :=
  (Clash cl fr ∧ e = .returned (.tuple #[.slice none 0 0, .bool false]) ∧ Below w.heap.size w w') ∨ (¬ Clash cl fr ∧ ∃ ad n cp, e = .returned (.tuple #[.slice (some ad) n cp, .bool true]) ∧ Below w.heap.size w w')
def slen : Value → Nat
  | .slice _ n _ => n
  | _ => 0
def isT : Value → Nat
  | .bool true => 1
  | _ => 0
def FSa (fr set : List Int) : Prop := ∀ l ∈ fr, lit l → l ∈ set
theorem FSa.put {fr set : List Int} (h : FSa fr set) (x : Int) : FSa fr (put set x) := fun l hl hx => (mem_put _ _ _).2 (.inl (h l hl hx))
def FSk (fr set : List Int) (k : Nat) : Prop := ∀ j, j < k → lit (fr.getD j 0) → fr.getD j 0 ∈ set
theorem FSk.zero (fr set : List Int) : FSk fr set 0 := fun j hj => absurd hj (Nat.not_lt_zero _)
theorem FSk.skip {fr set : List Int} {k : Nat} (h : FSk fr set k) (hx : ¬ lit (fr.getD k 0)) : FSk fr set (k + 1) := fun j hj hl => by
  by_cases e : j = k
  · subst e; exact absurd hl hx
  · exact h j (by omega) hl
theorem FSk.more {fr set : List Int} {k : Nat} (h : FSk fr set k) : FSk fr (put set (fr.getD k 0)) (k + 1) := fun j hj hl => by
  by_cases e : j = k
  · subst e; exact (mem_put _ _ _).2 (.inr rfl)
  · exact (mem_put _ _ _).2 (.inl (h j (by omega) hl))
theorem FSk.all {fr set : List Int} (h : FSk fr set fr.length) : FSa fr set := fun l hl hx => by
  obtain ⟨j, hj, he⟩ := List.mem_iff_getElem.1 hl
  have := h j hj
  rw [List.getD_eq_getElem?_getD, List.getElem?_eq_getElem hj, Option.getD_some, he] at this
  exact this hx
/-- what a round over the clauses has shown -/
def Rd (cl : List (List Int)) (s0 set : List Int) (b : Bool) (k : Nat) : Prop := (b = false → set = s0 ∧ ∀ j, j < k → ClosedC s0 (cl.getD j [])) ∧ (b = true → s0.length + 1 ≤ set.length)
theorem Rd.zero (cl : List (List Int)) (s : List Int) : Rd cl s s false 0 := ⟨fun _ => ⟨rfl, fun j hj => absurd hj (Nat.not_lt_zero _)⟩, fun h => by cases h⟩
theorem Rd.step {cl : List (List Int)} {s0 set : List Int} {b : Bool} {k : Nat} (h : Rd cl s0 set b k) (hc : ClosedC set (cl.getD k [])) : Rd cl s0 set b (k + 1) := by
  refine ⟨fun hb => ?_, h.2⟩
  obtain ⟨h1, h2⟩ := h.1 hb
  subst h1
  refine ⟨rfl, fun j hj => ?_⟩
  by_cases e : j = k
  · subst e; exact hc
  · exact h2 j (by omega)
theorem Rd.put {cl : List (List Int)} {s0 set s' : List Int} {b : Bool} {k k' : Nat} (h : Rd cl s0 set b k) (hs : s'.length = set.length + 1) : Rd cl s0 s' true k' := by
  refine ⟨fun hb => Bool.noConfusion hb, fun _ => ?_⟩
  cases b
  · obtain ⟨h1, _⟩ := h.1 rfl
    subst h1; omega
  · have := h.2 rfl; omega
theorem Rd.all {cl : List (List Int)} {s0 set : List Int} {b : Bool} (h : Rd cl s0 set b cl.length) : b = false → ∀ c ∈ cl, ClosedC set c := fun hb c hc => by
  obtain ⟨h1, h2⟩ := h.1 hb
  subst h1
  obtain ⟨j, hj, he⟩ := List.mem_iff_getElem.1 hc
  have := h2 j hj
  rw [List.getD_eq_getElem?_getD, List.getElem?_eq_getElem hj, Option.getD_some, he] at this
  exact this
theorem take_snoc {c : List Int} {j : Nat} (h : j < c.length) : c.take (j + 1) = c.take j ++ [c.getD j 0] := by
  rw [List.take_succ_eq_append_getElem h, List.getD_eq_getElem?_getD, List.getElem?_eq_getElem h]; rfl
theorem lefts_len (set c : List Int) : (lefts set c).length ≤ 40002 := srt_bound (srt_lefts set c) (lits_lefts set c)

/-- the loop over one clause: what is left of it so far, whether a literal is set -/
def R4 (set c : List Int) (w0 : World) (lv dn it : Value) (wr : World) : Prop := ∃ (j n cp : Nat) (ad : Addr) (d : Bool), j ≤ c.length ∧ it = .int .i64 j ∧ lv = .slice (some ad) n cp ∧ IntsC wr wr.heap.size (.slice (some ad) n cp) (lefts set (c.take j)) ∧ dn = .bool d ∧ Hid (isDone set (c.take j) = d) ∧ Below w0.heap.size w0 wr
def R3 (cl : List (List Int)) (fr s0 : List Int) (w : World) (sv ch it : Value) (wr : World) : Prop := ∃ (k n cp : Nat) (ad : Addr) (b : Bool) (set : List Int), k ≤ cl.length ∧ it = .int .i64 k ∧ ch = .bool b ∧ sv = .slice (some ad) n cp ∧ IntsC wr wr.heap.size (.slice (some ad) n cp) set ∧ RI cl fr set ∧ Hid (FSa fr set) ∧ Hid (Rd cl s0 set b k) ∧ Below w.heap.size w wr
def R2 (cl : List (List Int)) (fr : List Int) (w : World) (sv ch : Value) (wr : World) : Prop := ∃ (n cp : Nat) (ad : Addr) (b : Bool) (set : List Int), ch = .bool b ∧ sv = .slice (some ad) n cp ∧ IntsC wr wr.heap.size (.slice (some ad) n cp) set ∧ RI cl fr set ∧ Hid (FSa fr set) ∧ Hid (b = false → ∀ c ∈ cl, ClosedC set c) ∧ Below w.heap.size w wr ∧ n = set.length
def R1 (cl : List (List Int)) (fr : List Int) (w : World) (sv it : Value) (wr : World) : Prop := ∃ (k n cp : Nat) (ad : Addr) (set : List Int), k ≤ fr.length ∧ it = .int .i64 k ∧ sv = .slice (some ad) n cp ∧ IntsC wr wr.heap.size (.slice (some ad) n cp) set ∧ RI cl fr set ∧ Hid (FSk fr set k) ∧ Below w.heap.size w wr
theorem _root_.Go.Proofs.Ytojjjndhabjhdaa.proofT.IntsC.n {w : World} {B n cp : Nat} {ad : Addr} {l : List Int} (h : IntsC w B (.slice (some ad) n cp) l) : n = l.length := by
  obtain ⟨b, off, cap, hv, _⟩ := h; cases hv; rfl

set_option maxRecDepth 100000 in
set_option maxHeartbeats 8000000 in
theorem Prop_any (w : World) (B : Nat) (cv fv : Value) (cl : List (List Int)) (fr : List Int) (hc : ClsAt w B cv cl) (hf : IntsAt w B fv fr) (hB : B ≤ w.heap.size) (hs : ∀ c ∈ cl, c.length ≤ 50000) :
    Calls Try.prog 32 #[cv, fv] w (PropP cl fr w) := by
  obtain ⟨ac, capc, bc, offc, vs, rfl, hcm, hca, hcc, hcn⟩ := hc
  obtain ⟨af, capf, bf, offf, rfl, hfm, hfa, hfc, hf64⟩ := hf
  have HCA := Lib.hid hca
  have HCC := Lib.hid hcc
  have HCN := Lib.hid hcn
  have HFA := Lib.hid hfa
  have HFC := Lib.hid hfc
  have HF64 := Lib.hid hf64
  have HS := Lib.hid hs
  unfold maxLen at hcm hfm
  clear hca hcc hcn hfa hfc hf64 hs
  have HE0 := Lib.hid (IntsC.empty w 3)
  go_enter Try.func32, Try.ntmps32
  go_wp2
  go_loopw [6, 19] (fun sv it wr => R1 cl fr w sv it wr) (fun _ it _ => fr.length - (intOf it).toNat)
  case atStart => exact ⟨0, 0, 0, _, [], Nat.zero_le _, rfl, rfl, by have := HE0.out; simpa using this, RI.nil _ _, Lib.hid (FSk.zero _ _), (Below.refl _ _).alloc (Nat.le_refl _) _⟩
  case round =>
    clear HE0
    obtain ⟨k, n, cp, ad, set, hk, rfl, rfl, hv, hri, hfs, hb⟩ := hrel
    have HV := Lib.hid hv
    have HB := Lib.hid hb
    have HRI := Lib.hid hri
    have hws := hb.size
    by_cases hlt : k < fr.length
    · obtain ⟨rfl, hbB⟩ := HFA.out (by intro h0; rw [h0] at hlt; simp at hlt)
      have q : wr.cell? ⟨bf, offf + k, none⟩ = some (.int .i64 (fr.getD k 0)) := by rw [hb.cell (show (⟨bf, offf + k, none⟩ : Addr).block < w.heap.size from by show bf < _; omega)]; exact HFC.out k hlt
      have HMM := Lib.hid (getD_mem (d := 0) hlt)
      have HFS1 := Lib.hid (fun h => hfs.out.skip h)
      have HFS2 := Lib.hid hfs.out.more
      have H64 := Lib.hid (HF64.out _ (getD_mem (d := 0) hlt))
      generalize fr.getD k 0 = x at *
      clear hv hb hri hfs
      by_cases hx : lit x
      · have HX := Lib.hid hx
        have b1 : -20000 ≤ x := hx.2.1
        have b2 : x ≤ 20000 := hx.2.2
        by_cases hin : -x ∈ set
        · have HIN := Lib.hid (In_yes _ set (-x) wr _ HV.out.at hin)
          have HF : Hid (PropP cl fr w (.returned (.tuple #[.slice none 0 0, .bool false])) wr) := Lib.hid (.inl ⟨HRI.out.fail HMM.out hx hin, rfl, HB.out⟩)
          clear hx hin
          go_wp2_with (first | (go_at_call 31; refine (Is_yes _ _ HX.out).mono ?_; rintro e w' ⟨rfl, rfl⟩) | (go_at_call 23; refine HIN.out.mono ?_; rintro e w' ⟨rfl, rfl⟩))
          go_ret2
          exact HF.out
        · have HIN := Lib.hid (In_no _ set (-x) wr _ HV.out.at hin)
          have HPU := Lib.hid (Put_any wr wr.heap.size _ set x HV.out (Nat.le_refl _) hx (by have := HRI.out.len; omega))
          have HRI2 := Lib.hid (HRI.out.more hx hin (.start HMM.out hx))
          clear hx hin
          go_wp2_with (first | (go_at_call 31; refine (Is_yes _ _ HX.out).mono ?_; rintro e w' ⟨rfl, rfl⟩) | (go_at_call 23; refine HIN.out.mono ?_; rintro e w' ⟨rfl, rfl⟩))
          refine HPU.out.mono ?_
          rintro e w2 ⟨v2, rfl, hv2, hb2⟩
          have HB2 := Lib.hid (HB.out.trans (hb2.mono hws))
          have HV2 := Lib.hid hv2
          obtain ⟨b2, off2, cap2, hvv, _⟩ := hv2
          subst hvv
          clear hb2
          go_wp2
          go_roundw
          case rel => exact ⟨k + 1, _, _, _, put set x, by omega, by go_num, rfl, HV2.out, HRI2.out, HFS2, HB2.out⟩
          case measure => simp [intOf]; omega
      · have HX := Lib.hid hx
        have HFS3 := Lib.hid (HFS1.out hx)
        obtain ⟨b1, b2⟩ := H64.out
        clear hx
        go_wp2_with (go_at_call 31; refine (Is_no _ _ HX.out).mono ?_; rintro e w' ⟨rfl, rfl⟩)
        go_roundw
        case rel => exact ⟨k + 1, _, _, _, set, by omega, by go_num, rfl, HV.out, HRI.out, HFS3, HB.out⟩
        case measure => simp [intOf]; omega
    · obtain rfl : k = fr.length := by omega
      have HFS := Lib.hid hfs.out.all
      have hnn := hv.n
      have HNN := Lib.hid hnn
      clear hv hb hri hfs hnn hlt
      go_wp2
      clear hws
      go_loopw [6, 9] (fun sv ch wr => R2 cl fr w sv ch wr) (fun sv ch _ => 2 * (40003 - slen sv) + isT ch)
      case atStart => exact ⟨n, cp, ad, true, set, rfl, rfl, HV.out, HRI.out, HFS, Lib.hid (fun h => by cases h), HB.out, HNN.out⟩
      case round =>
        clear HV HB HRI HFS HNN
        obtain ⟨n, cp, ad, b, set, rfl, rfl, hv, hri, hfs, hcd, hb, hnn⟩ := hrel
        have HV := Lib.hid hv
        have HB := Lib.hid hb
        have HRI := Lib.hid hri
        have HNN := Lib.hid hnn
        have hws := hb.size
        have hbd : n ≤ 40002 := by rw [hnn]; exact hri.len
        clear hnn
        cases b
        · have HF : Hid (PropP cl fr w (.returned (.tuple #[.slice (some ad) n cp, .bool true])) wr) := Lib.hid (.inr ⟨hri.fin hfs.out (hcd.out rfl), _, _, _, rfl, hb⟩)
          clear hv hb hri hfs hcd
          go_wp2
          go_ret2
          exact HF.out
        · clear hv hb hri hcd
          go_wp2
          clear hws
          go_loopw [6, 9, 36] (fun sv ch it wr => R3 cl fr set w sv ch it wr) (fun _ _ it _ => cl.length - (intOf it).toNat)
          case atStart => exact ⟨0, n, cp, ad, false, set, Nat.zero_le _, rfl, rfl, rfl, HV.out, HRI.out, hfs, Lib.hid (Rd.zero _ _), HB.out⟩
          case round =>
            clear HV HB HRI hfs
            obtain ⟨k, n3, cp3, ad3, b, s3, hk, rfl, rfl, rfl, hv, hri, hfs, hrd, hb⟩ := hrel
            have HV := Lib.hid hv
            have HB := Lib.hid hb
            have HRI := Lib.hid hri
            have hws := hb.size
            by_cases hlt : k < cl.length
            · obtain ⟨rfl, hbB⟩ := HCA.out (by intro h0; rw [h0] at hlt; simp at hlt)
              have q : wr.cell? ⟨bc, offc + k, none⟩ = some (vs k) := by rw [hb.cell (show (⟨bc, offc + k, none⟩ : Addr).block < w.heap.size from by show bc < _; omega)]; exact HCC.out k hlt
              obtain ⟨ai, capi, bi, offi, hvi, hmi, hai, hci, h64⟩ := HCN.out k hlt
              unfold maxLen at hmi
              rw [hvi] at q
              have HAI := Lib.hid hai
              have HCI := Lib.hid hci
              have H64 := Lib.hid h64
              have HMC : Hid (cl.getD k [] ∈ cl) := Lib.hid (getD_mem (d := []) hlt)
              have hcl := HS.out _ HMC.out
              have HRD := Lib.hid (fun h => hrd.out.step h)
              have HRE := Lib.hid hrd.out
              have HE := Lib.hid (IntsC.empty wr 3)
              generalize cl.getD k [] = c at *
              clear hvi hai hci h64 hv hb hri hrd
              obtain ⟨wo, hwo⟩ : ∃ wo : World, wo = wr := ⟨_, rfl⟩
              rw [← hwo] at HV HB hws
              have HW0 : Hid (IntsC (wr.alloc (.cells #[] 3)) (wr.alloc (.cells #[] 3)).heap.size (.slice (some ⟨wr.heap.size, 0, none⟩) 0 0) [] ∧ Below wo.heap.size wo (wr.alloc (.cells #[] 3))) := Lib.hid ⟨by have := HE.out; simpa using this, by rw [hwo]; exact (Below.refl _ _).alloc (Nat.le_refl _) _⟩
              go_wp2
              clear hwo HE
              go_loopw [12, 13, 43] (fun lv dn it wr => R4 s3 c wo lv dn it wr) (fun _ _ it _ => c.length - (intOf it).toNat)
              case atStart => exact ⟨0, 0, 0, _, false, Nat.zero_le _, rfl, rfl, HW0.out.1, rfl, Lib.hid rfl, HW0.out.2⟩
              case round =>
                clear HW0 q
                obtain ⟨j, n4, cp4, ad4, d, hj, rfl, rfl, hlv, rfl, hdn, hb4⟩ := hrel
                have HLV := Lib.hid hlv
                have HB4 := Lib.hid hb4
                have hw4 := hb4.size
                by_cases hjl : j < c.length
                · obtain ⟨rfl, hbi⟩ := HAI.out (by intro h0; rw [h0] at hjl; simp at hjl)
                  have q : wr.cell? ⟨bi, offi + j, none⟩ = some (.int .i64 (c.getD j 0)) := by
                    rw [hb4.cell (show (⟨bi, offi + j, none⟩ : Addr).block < wo.heap.size from by show bi < _; omega), HB.out.cell (show (⟨bi, offi + j, none⟩ : Addr).block < w.heap.size from by show bi < _; omega)]
                    exact HCI.out j hjl
                  have hin := H64.out _ (getD_mem (d := 0) hjl)
                  obtain ⟨i1, i2⟩ := hin
                  have HSN := Lib.hid (take_snoc hjl)
                  have HSV := Lib.hid ((HV.out.keep hb4).mono hw4)
                  generalize c.getD j 0 = x at *
                  have HDE := Lib.hid (isDone_snoc s3 (c.take j) x)
                  have HLE := Lib.hid (lefts_snoc s3 (c.take j) x)
                  have HDD := Lib.hid hdn.out
                  clear hlv hb4 hdn
                  by_cases hx : lit x
                  · have HX := Lib.hid hx
                    have b1 : -20000 ≤ x := hx.2.1
                    have b2 : x ≤ 20000 := hx.2.2
                    by_cases h1 : x ∈ s3
                    · have HI1 := Lib.hid (In_yes _ s3 x wr _ HSV.out.at h1)
                      have HDN : Hid (isDone s3 (c.take (j + 1)) = true) := Lib.hid (by rw [HSN.out, HDE.out, decide_eq_true ⟨hx, h1⟩, Bool.or_true])
                      by_cases h2 : -x ∈ s3
                      · have HI2 := Lib.hid (In_yes _ s3 (-x) wr _ HSV.out.at h2)
                        have HLV2 : Hid (IntsC wr wr.heap.size (.slice (some ad4) n4 cp4) (lefts s3 (c.take (j + 1)))) := Lib.hid (by rw [HSN.out, HLE.out, if_neg (fun h => h.2 h2)]; exact HLV.out)
                        clear hx h1 h2
                        go_wp2_with (go_at_call 31; refine (Is_yes _ _ HX.out).mono ?_; rintro e w' ⟨rfl, rfl⟩)
                        refine HI1.out.mono ?_
                        rintro e w' ⟨rfl, rfl⟩
                        go_wp2_with fail
                        refine HI2.out.mono ?_
                        rintro e w' ⟨rfl, rfl⟩
                        go_wp2_with fail
                        go_roundw
                        case rel => exact ⟨j + 1, _, _, _, true, by omega, by go_num, rfl, HLV2.out, rfl, HDN, HB4.out⟩
                        case measure => simp [intOf]; omega
                      · have HI2 := Lib.hid (In_no _ s3 (-x) wr _ HSV.out.at h2)
                        have HPU := Lib.hid (Put_any wr wr.heap.size _ _ x HLV.out (Nat.le_refl _) hx (by have := lefts_len s3 (c.take j); omega))
                        have HLE2 : Hid (lefts s3 (c.take (j + 1)) = put (lefts s3 (c.take j)) x) := Lib.hid (by rw [HSN.out, HLE.out, if_pos ⟨hx, h2⟩])
                        clear hx h1 h2
                        go_wp2_with (go_at_call 31; refine (Is_yes _ _ HX.out).mono ?_; rintro e w' ⟨rfl, rfl⟩)
                        refine HI1.out.mono ?_
                        rintro e w' ⟨rfl, rfl⟩
                        go_wp2_with fail
                        refine HI2.out.mono ?_
                        rintro e w' ⟨rfl, rfl⟩
                        go_wp2_with fail
                        refine HPU.out.mono ?_
                        rintro e w2 ⟨v2, rfl, hv2, hb2⟩
                        have HB2 := Lib.hid (HB4.out.trans (hb2.mono hw4))
                        have HV2 : Hid (IntsC w2 w2.heap.size v2 (lefts s3 (c.take (j + 1)))) := Lib.hid (by rw [HLE2.out]; exact hv2)
                        obtain ⟨b2, off2, cap2, hvv, _⟩ := hv2
                        subst hvv
                        clear hb2
                        go_wp2
                        go_roundw
                        case rel => exact ⟨j + 1, _, _, _, true, by omega, by go_num, rfl, HV2.out, rfl, HDN, HB2.out⟩
                        case measure => simp [intOf]; omega
                    · have HI1 := Lib.hid (In_no _ s3 x wr _ HSV.out.at h1)
                      have HDN : Hid (isDone s3 (c.take (j + 1)) = d) := Lib.hid (by rw [HSN.out, HDE.out, decide_eq_false (fun h => h1 h.2), Bool.or_false]; exact HDD.out)
                      by_cases h2 : -x ∈ s3
                      · have HI2 := Lib.hid (In_yes _ s3 (-x) wr _ HSV.out.at h2)
                        have HLV2 : Hid (IntsC wr wr.heap.size (.slice (some ad4) n4 cp4) (lefts s3 (c.take (j + 1)))) := Lib.hid (by rw [HSN.out, HLE.out, if_neg (fun h => h.2 h2)]; exact HLV.out)
                        clear hx h1 h2
                        go_wp2_with (go_at_call 31; refine (Is_yes _ _ HX.out).mono ?_; rintro e w' ⟨rfl, rfl⟩)
                        refine HI1.out.mono ?_
                        rintro e w' ⟨rfl, rfl⟩
                        go_wp2_with fail
                        refine HI2.out.mono ?_
                        rintro e w' ⟨rfl, rfl⟩
                        go_wp2_with fail
                        go_roundw
                        case rel => exact ⟨j + 1, _, _, _, d, by omega, by go_num, rfl, HLV2.out, rfl, HDN, HB4.out⟩
                        case measure => simp [intOf]; omega
                      · have HI2 := Lib.hid (In_no _ s3 (-x) wr _ HSV.out.at h2)
                        have HPU := Lib.hid (Put_any wr wr.heap.size _ _ x HLV.out (Nat.le_refl _) hx (by have := lefts_len s3 (c.take j); omega))
                        have HLE2 : Hid (lefts s3 (c.take (j + 1)) = put (lefts s3 (c.take j)) x) := Lib.hid (by rw [HSN.out, HLE.out, if_pos ⟨hx, h2⟩])
                        clear hx h1 h2
                        go_wp2_with (go_at_call 31; refine (Is_yes _ _ HX.out).mono ?_; rintro e w' ⟨rfl, rfl⟩)
                        refine HI1.out.mono ?_
                        rintro e w' ⟨rfl, rfl⟩
                        go_wp2_with fail
                        refine HI2.out.mono ?_
                        rintro e w' ⟨rfl, rfl⟩
                        go_wp2_with fail
                        refine HPU.out.mono ?_
                        rintro e w2 ⟨v2, rfl, hv2, hb2⟩
                        have HB2 := Lib.hid (HB4.out.trans (hb2.mono hw4))
                        have HV2 : Hid (IntsC w2 w2.heap.size v2 (lefts s3 (c.take (j + 1)))) := Lib.hid (by rw [HLE2.out]; exact hv2)
                        obtain ⟨b2, off2, cap2, hvv, _⟩ := hv2
                        subst hvv
                        clear hb2
                        go_wp2
                        go_roundw
                        case rel => exact ⟨j + 1, _, _, _, d, by omega, by go_num, rfl, HV2.out, rfl, HDN, HB2.out⟩
                        case measure => simp [intOf]; omega
                  · have HX := Lib.hid hx
                    have HDN : Hid (isDone s3 (c.take (j + 1)) = d) := Lib.hid (by rw [HSN.out, HDE.out, decide_eq_false (fun h => hx h.1), Bool.or_false]; exact HDD.out)
                    have HLV2 : Hid (IntsC wr wr.heap.size (.slice (some ad4) n4 cp4) (lefts s3 (c.take (j + 1)))) := Lib.hid (by rw [HSN.out, HLE.out, if_neg (fun h => hx h.1)]; exact HLV.out)
                    clear hx
                    go_wp2_with (go_at_call 31; refine (Is_no _ _ HX.out).mono ?_; rintro e w' ⟨rfl, rfl⟩)
                    go_roundw
                    case rel => exact ⟨j + 1, _, _, _, d, by omega, by go_num, rfl, HLV2.out, rfl, HDN, HB4.out⟩
                    case measure => simp [intOf]; omega
                · obtain rfl : j = c.length := by omega
                  have hdn' := hdn.out
                  rw [List.take_length] at hdn' HLV
                  have HDN := Lib.hid hdn'
                  have HBB := Lib.hid (HB.out.trans (hb4.mono hws))
                  have HSV := Lib.hid ((HV.out.keep hb4).mono hw4)
                  clear hlv hb4 hdn hdn' hjl
                  cases d
                  rotate_left
                  · have HRD2 := Lib.hid (HRD.out (closed_done HDN.out))
                    go_wp2
                    go_roundw
                    case rel => exact ⟨k + 1, _, _, _, b, s3, by omega, by go_num, rfl, rfl, HSV.out, HRI.out, hfs, HRD2, HBB.out⟩
                    case measure => simp [intOf]; omega
                  have hn4 := HLV.out.n
                  by_cases h0 : n4 = 0
                  · subst h0
                    have HF : Hid (PropP cl fr w (.returned (.tuple #[.slice none 0 0, .bool false])) wr) := Lib.hid (.inl ⟨clash_none HRI.out HMC.out (List.length_eq_zero_iff.1 hn4.symm), rfl, HBB.out⟩)
                    clear hn4
                    go_wp2
                    go_ret2
                    exact HF.out
                  · by_cases h1 : n4 = 1
                    · subst h1
                      obtain ⟨x, hx⟩ := List.length_eq_one_iff.1 hn4.symm
                      have hone := HRI.out.one HMC.out hx HDN.out
                      have HRI2 := Lib.hid hone.1
                      have HRD2 := Lib.hid (HRE.out.put (k' := k + 1) hone.2)
                      have HFS2 := Lib.hid (hfs.out.put x)
                      obtain ⟨b5, off5, cap5, hv5, h51, h52, h53, h54, h55, h56⟩ := HLV.out
                      rw [hx] at h54 h56 h51
                      have hv6 : Value.slice (some ad4) 1 cp4 = .slice (some ⟨b5, off5, none⟩) 1 cap5 := by rw [hx] at hv5; exact hv5
                      clear hv5
                      cases hv6
                      have q5 := h54 0 (by simp)
                      simp only [List.getD_cons_zero, Nat.add_zero] at q5
                      have hlx : lit x := h56 x (by simp)
                      have HPU := Lib.hid (Put_any wr wr.heap.size _ s3 x HSV.out (Nat.le_refl _) hlx (by have := HRI.out.len; omega))
                      have HSZ : Hid (w.heap.size ≤ wr.heap.size) := Lib.hid HBB.out.size
                      clear h0 hn4 hone h51 h54 h55 h56 hlx hx HLV
                      go_wp2_with fail
                      refine HPU.out.mono ?_
                      rintro e w2 ⟨v2, rfl, hv2, hb2⟩
                      have HB2 := Lib.hid (HBB.out.trans (hb2.mono HSZ.out))
                      have HV2 := Lib.hid hv2
                      obtain ⟨b2, off2, cap2, hvv, _⟩ := hv2
                      subst hvv
                      clear hb2
                      go_wp2
                      go_roundw
                      case rel => exact ⟨k + 1, _, _, _, true, put s3 x, by omega, by go_num, rfl, rfl, HV2.out, HRI2.out, HFS2, HRD2, HB2.out⟩
                      case measure => simp [intOf]; omega
                    · have HRD2 := Lib.hid (HRD.out (closed_two (by rw [← hn4]; omega)))
                      have e0 : ((n4 : Int) == 0) = false := by rw [beq_eq_false_iff_ne]; omega
                      have e1 : ((n4 : Int) == 1) = false := by rw [beq_eq_false_iff_ne]; omega
                      clear hn4
                      go_wp2
                      go_roundw
                      case rel => exact ⟨k + 1, _, _, _, b, s3, by omega, by go_num, rfl, rfl, HSV.out, HRI.out, hfs, HRD2, HBB.out⟩
                      case measure => simp [intOf]; omega
            · obtain rfl : k = cl.length := by omega
              have hn3 := hv.n
              have HN3 := Lib.hid hn3
              have HRL := Lib.hid hrd.out.all
              have hm1 := hrd.out.2
              have hm0 := hrd.out.1
              have HM : Hid (2 * (40003 - n3) + (if b = true then 1 else 0) < 2 * (40003 - n) + 1) := Lib.hid (by
                have := HNN.out
                have h3 := hri.len
                cases b
                · have := (hm0 rfl).1; subst this; simp; omega
                · have := hm1 rfl; simp; omega)
              clear hv hb hri hrd hn3 hm1 hm0
              go_wp2
              go_roundw
              case rel => exact ⟨n3, cp3, ad3, b, s3, rfl, rfl, HV.out, HRI.out, hfs, HRL, HB.out, HN3.out⟩
              case measure =>
                have := HM.out
                cases b <;> simpa [slen, isT] using this
end Go.Proofs.Ytojjjndhabjhdaa.proofV
