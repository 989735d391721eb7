/-
  Contract of (*prover).checkBehind.
-/
import Derived.Test.YtojjjndhabjhdaaProofX
import Derived.Test.YtojjjndhabjhdaaShortP
import Derived.StillTailTactics
namespace Go.Proofs.Ytojjjndhabjhdaa.shortA
open Go.ChangeShapes Go.WideShapes Go.ChangeAt Go.RowKit proofP proofQ proofR owns proofA proofC proofG proofI proofJ proofK proofM proofN proofO proofS proofT proofU proofV proofW proofX shortP cls
set_option linter.unusedSimpArgs false
set_option linter.unusedVariables false

def obs (n : Nat) (o : Nat → Bool) : List Value := (List.range n).map fun j => .bool (o j)
theorem obs_len (n : Nat) (o : Nat → Bool) : (obs n o).length = n := by simp [obs]
theorem obs_at {n : Nat} {o : Nat → Bool} {j : Nat} (h : j < n) : (obs n o)[j]? = some (.bool (o j)) := by simp [obs, h]
theorem obs_set {n : Nat} {o : Nat → Bool} {k : Nat} (hk : k < n) (b : Bool) : (obs n o).set k (.bool b) = obs n (updN o k b) := map_set_upd hk _ _

/-- while the log's clauses ahead of a place are put on -/
def F1 (n : Nat) (o f : Nat → Bool) (place k j : Nat) : Bool := if j < n + k then onF n o place j else f j

set_option maxHeartbeats 4000000 in
set_option maxRecDepth 100000 in
theorem behind_any (w : World) (W0 bp : Nat) (lv : Value) (cl log : List (List Int)) (f o : Nat → Bool) (place g cap : Nat) (h : PVx ⟨4, .slice (some ⟨g, 0, none⟩) log.length cap, obs log.length o⟩ w W0 bp lv cl log f) (hf : ∀ j, j < cl.length → f j = true) (hl : ClsAt w W0 lv log) (hp : place < log.length) (ho : o place = true)
    (h1 : cl.length ≤ 40000) (h2 : log.length ≤ 40000) (hs : ∀ c ∈ log, c.length ≤ 100000) :
    Calls Try.prog 33 #[.pointer (some ⟨bp, 0, none⟩), .int .i64 place, .slice (some ⟨g, 0, none⟩) log.length cap] w fun e w' => ∃ b f', e = .returned (.bool b) ∧ (b = true ↔ ∀ i, place < i → i < log.length → o i = false → pl (cl ++ chosen log (fun j => !o j) i) (log.getD i []) = true) ∧
      PVx ⟨4, .slice (some ⟨g, 0, none⟩) log.length cap, obs log.length o⟩ w' W0 bp lv cl log f' ∧ (∀ j, j < cl.length → f' j = true) ∧ Below W0 w w' := by
  have HS := Lib.hid hs
  have HO := Lib.hid ho
  have HF0 := Lib.hid hf
  have f0 := pv_log h
  have HP0 : Hid (PVx ⟨4, .slice (some ⟨g, 0, none⟩) log.length cap, obs log.length o⟩ w W0 bp lv cl log (F1 cl.length o f place 0)) := Lib.hid (pv_alike h fun j hj => by
    unfold F1 onF
    by_cases e : j < cl.length
    · rw [if_pos (by omega), hf j e]; simp [e]
    · rw [if_neg (by omega)])
  obtain ⟨al, capl, bl, offl, vsl, rfl, hml, hal, hcl, hnl⟩ := hl
  obtain ⟨rfl, hbB⟩ := hal (by intro h0; rw [h0] at hp; simp at hp)
  have HCL := Lib.hid hcl
  have HNL := Lib.hid hnl
  clear h hs hal hcl hnl hml hf ho
  go_enter Try.func33, Try.ntmps33
  go_wp2
  go_loopw [14] (fun it wr => ∃ k : Nat, k ≤ log.length ∧ it = .int .i64 k ∧ PVx ⟨4, .slice (some ⟨g, 0, none⟩) log.length cap, obs log.length o⟩ wr W0 bp (.slice (some ⟨bl, offl, none⟩) log.length capl) cl log (F1 cl.length o f place k) ∧ Below W0 w wr) (fun it _ => log.length - (intOf it).toNat)
  case atStart => exact ⟨0, Nat.zero_le _, rfl, HP0.out, Below.refl _ _⟩
  case round =>
    clear HP0 f0
    obtain ⟨k, hk, rfl, hpv, hb⟩ := hrel
    have HB := Lib.hid hb
    by_cases hlt : k < log.length
    · obtain ⟨p0, p1, hbp, g3, cap3, p3, hgB, hcells, hset⟩ := pv_on hpv (by omega)
      obtain ⟨c1, z1⟩ := hcells (cl.length + k) (by omega)
      obtain ⟨x1, x2, x3, x4, x5⟩ := pv_extra hpv rfl
      have xk := x4 k (by rw [obs_len]; exact hlt)
      rw [obs_at hlt] at xk
      have hstep : ∀ j, updN (F1 cl.length o f place k) (cl.length + k) (decide (k < place) && !o k) j = F1 cl.length o f place (k + 1) j := fun j => by
        unfold F1
        by_cases e : j = cl.length + k
        · subst e; rw [updN_same, if_pos (by omega)]; unfold onF; rw [decide_eq_false (show ¬ (cl.length + k < cl.length) by omega), Nat.add_sub_cancel_left]; simp
        · rw [updN_other _ _ e]
          by_cases e2 : j < cl.length + k
          · rw [if_pos e2, if_pos (by omega)]
          · rw [if_neg e2, if_neg (by omega)]
      have HNX : Hid (∀ b, (decide (k < place) && !o k) = b → PVx ⟨4, .slice (some ⟨g, 0, none⟩) log.length cap, obs log.length o⟩ (wr.setCell ⟨g3, cl.length + k, none⟩ (.bool b)).drew W0 bp (.slice (some ⟨bl, offl, none⟩) log.length capl) cl log (F1 cl.length o f place (k + 1))) := Lib.hid (fun b hb => pv_below (pv_alike (hset (cl.length + k) b (by omega)) (fun j _ => by rw [← hb]; exact hstep j)) (Below.refl _ _).drew)
      have HBS := Lib.hid (fun b => (HB.out.setCell (p := ⟨g3, cl.length + k, none⟩) hgB (.bool b)).drew)
      have hw1 : IntKind.i64.wrap ((cl.length : Int) + (k : Int)) = (cl.length : Int) + (k : Int) := IntWalk.i64_in _ (by omega)
      have hw2 : (0 : Int) ≤ (cl.length : Int) + (k : Int) := by omega
      have hw3 : ((cl.length : Int) + (k : Int)).toNat = cl.length + k := by omega
      have hw4 : cl.length + k < cl.length + log.length := by omega
      clear hpv hb hcells hset hstep x4 x5 x3
      generalize F1 cl.length o f place k (cl.length + k) = ob at *
      by_cases hkp : k < place
      · have hki : (k : Int) < (place : Int) := by omega
        cases hok : o k
        · rw [hok] at xk
          have HN1 := Lib.hid (HNX.out true (by rw [hok]; simp [hkp]))
          have HB1 := Lib.hid (HBS.out true)
          clear HNX HBS hok
          go_wp2
          go_still_tail 21, (by kernel_rfl)
          change wpList _ _ _ _ _ wr.drew
          go_wp2
          go_roundw
          case rel => exact ⟨k + 1, by omega, by go_num, HN1.out, HB1.out⟩
          case measure => simp [intOf]; omega
        · rw [hok] at xk
          have HN1 := Lib.hid (HNX.out false (by rw [hok]; simp))
          have HB1 := Lib.hid (HBS.out false)
          clear HNX HBS hok
          go_wp2
          go_still_tail 21, (by kernel_rfl)
          change wpList _ _ _ _ _ wr.drew
          go_wp2
          go_roundw
          case rel => exact ⟨k + 1, by omega, by go_num, HN1.out, HB1.out⟩
          case measure => simp [intOf]; omega
      · have hki : ¬ ((k : Int) < (place : Int)) := by omega
        have HN1 := Lib.hid (HNX.out false (by simp [hkp]))
        have HB1 := Lib.hid (HBS.out false)
        clear HNX HBS xk
        go_wp2
        go_region
        all_goals
          go_wp2
          go_roundw
          case rel => exact ⟨k + 1, by omega, by go_num, HN1.out, HB1.out⟩
          case measure => simp [intOf]; omega
    · obtain rfl : k = log.length := by omega
      have HP1 : Hid (PVx ⟨4, .slice (some ⟨g, 0, none⟩) log.length cap, obs log.length o⟩ wr W0 bp (.slice (some ⟨bl, offl, none⟩) log.length capl) cl log (onF cl.length o (place + 1))) := Lib.hid (pv_alike hpv fun j hj => by
        unfold F1
        rw [if_pos hj]
        unfold onF
        by_cases e : j < cl.length
        · simp [e]
        · by_cases e2 : j - cl.length = place
          · rw [e2, HO.out]; simp
          · have : (j - cl.length < place) ↔ (j - cl.length < place + 1) := by omega
            simp only [this])
      clear hpv hb
      go_wp2
      go_loopw [8] (fun it wr => ∃ k : Nat, place < k ∧ k ≤ log.length ∧ it = .int .i64 k ∧ PVx ⟨4, .slice (some ⟨g, 0, none⟩) log.length cap, obs log.length o⟩ wr W0 bp (.slice (some ⟨bl, offl, none⟩) log.length capl) cl log (onF cl.length o k) ∧ Below W0 w wr ∧ Hid (∀ i, place < i → i < k → o i = false → pl (cl ++ chosen log (fun j => !o j) i) (log.getD i []) = true)) (fun it _ => log.length - (intOf it).toNat)
      case atStart => exact ⟨place + 1, by omega, by omega, by go_num, HP1.out, HB.out, Lib.hid (fun i hi1 hi2 => by omega)⟩
      case round =>
        clear HP1 HB hlt hk
        obtain ⟨k, hpk, hk, rfl, hpv, hb, hgd⟩ := hrel
        have HB := Lib.hid hb
        have p0 := pv_log hpv
        by_cases hlt : k < log.length
        · obtain ⟨x1, x2, x3, x4, x5⟩ := pv_extra hpv rfl
          have xk := x4 k (by rw [obs_len]; exact hlt)
          rw [obs_at hlt] at xk
          have q : wr.cell? ⟨bl, offl + k, none⟩ = some (vsl k) := by rw [hb.cell (show (⟨bl, offl + k, none⟩ : Addr).block < W0 from hbB)]; exact HCL.out k hlt
          cases hok : o k
          · rw [hok] at xk
            have HPL := Lib.hid (plain_pv _ wr W0 bp _ (vsl k) cl log _ (log.getD k []) hpv (((HNL.out k hlt).keep hb).ex _) (HS.out _ (getD_mem (d := []) hlt)))
            rw [sel_onF hk] at HPL
            have HGF : Hid (pl (cl ++ chosen log (fun j => !o j) k) (log.getD k []) = false → (∀ i, place < i → i < log.length → o i = false → pl (cl ++ chosen log (fun j => !o j) i) (log.getD i []) = true) → False) := Lib.hid (fun hr hall => by
              have := hall k hpk hlt hok; rw [hr] at this; cases this)
            have HGT : Hid (pl (cl ++ chosen log (fun j => !o j) k) (log.getD k []) = true → ∀ i, place < i → i < k + 1 → o i = false → pl (cl ++ chosen log (fun j => !o j) i) (log.getD i []) = true) := Lib.hid (fun hr i hi1 hi2 hoi => by
              by_cases e : i = k
              · rw [e]; exact hr
              · exact hgd.out i hi1 (by omega) hoi)
            have HOK := Lib.hid hok
            generalize pl (cl ++ chosen log (fun j => !o j) k) (log.getD k []) = r at *
            clear hpv hb x3 x4 x5 hok hgd
            go_wp2_with fail
            refine HPL.out.mono ?_
            rintro e w1 ⟨rfl, hp1, hb1⟩
            have HB1 := Lib.hid (HB.out.trans hb1)
            cases r
            · have HFA := Lib.hid (HGF.out rfl)
              have HP1 := Lib.hid hp1
              clear hp1 hb1 HGT HGF HPL
              go_wp2
              go_ret
              exact ⟨false, _, rfl, ⟨fun h => (by cases h), fun h => (HFA.out h).elim⟩, HP1.out, fun j hj => by simp [onF, hj], HB1.out⟩
            · obtain ⟨p0', p1, hbp, g3, cap3, p3, hgB, hcells, hset⟩ := pv_on hp1 (by omega)
              obtain ⟨c1, z1⟩ := hcells (cl.length + k) (by omega)
              have HNX : Hid (PVx ⟨4, .slice (some ⟨g, 0, none⟩) log.length cap, obs log.length o⟩ (w1.setCell ⟨g3, cl.length + k, none⟩ (.bool true)).drew W0 bp (.slice (some ⟨bl, offl, none⟩) log.length capl) cl log (onF cl.length o (k + 1))) := Lib.hid (pv_below (pv_alike (hset (cl.length + k) true (by omega)) (fun j hj => by
                by_cases e : j = cl.length + k
                · subst e; rw [updN_same]; unfold onF; rw [Nat.add_sub_cancel_left]; simp [HOK.out]
                · rw [updN_other _ _ e]
                  unfold onF
                  by_cases e2 : j < cl.length
                  · simp [e2]
                  · have : (j - cl.length < k) ↔ (j - cl.length < k + 1) := by omega
                    simp only [this])) (Below.refl _ _).drew)
              have hw1 : IntKind.i64.wrap ((cl.length : Int) + (k : Int)) = (cl.length : Int) + (k : Int) := IntWalk.i64_in _ (by omega)
              have hw2 : (0 : Int) ≤ (cl.length : Int) + (k : Int) := by omega
              have hw3 : ((cl.length : Int) + (k : Int)).toNat = cl.length + k := by omega
              have hw4 : cl.length + k < cl.length + log.length := by omega
              have HBS := Lib.hid ((HB1.out.setCell (p := ⟨g3, cl.length + k, none⟩) hgB (.bool true)).drew)
              have HGD := Lib.hid (HGT.out rfl)
              generalize onF cl.length o k (cl.length + k) = ob at *
              clear hp1 hb1 hcells hset HGT HGF HPL p0' xk q
              go_wp2
              go_region
              all_goals
                go_wp2
                go_roundw
                case rel => exact ⟨k + 1, by omega, by omega, by go_num, HNX.out, HBS.out, HGD⟩
                case measure => simp [intOf]; omega
          · rw [hok] at xk
            have HP1 : Hid (PVx ⟨4, .slice (some ⟨g, 0, none⟩) log.length cap, obs log.length o⟩ wr W0 bp (.slice (some ⟨bl, offl, none⟩) log.length capl) cl log (onF cl.length o (k + 1))) := Lib.hid (pv_alike hpv fun j hj => by
              unfold onF
              by_cases e : j < cl.length
              · simp [e]
              · by_cases e2 : j - cl.length = k
                · rw [e2, hok]; simp
                · have : (j - cl.length < k) ↔ (j - cl.length < k + 1) := by omega
                  simp only [this])
            have HGD : Hid (∀ i, place < i → i < k + 1 → o i = false → pl (cl ++ chosen log (fun j => !o j) i) (log.getD i []) = true) := Lib.hid (fun i hi1 hi2 hoi => by
              by_cases e : i = k
              · rw [e, hok] at hoi; cases hoi
              · exact hgd.out i hi1 (by omega) hoi)
            clear hpv hb x3 x4 x5 hok hgd q
            go_wp2
            go_roundw
            case rel => exact ⟨k + 1, by omega, by omega, by go_num, HP1.out, HB.out, HGD⟩
            case measure => simp [intOf]; omega
        · obtain rfl : k = log.length := by omega
          have HP1 := Lib.hid hpv
          clear hpv hb
          go_wp2
          go_ret
          exact ⟨true, _, rfl, ⟨fun _ i h1 h2 h3 => hgd.out i h1 h2 h3, fun _ => rfl⟩, HP1.out, fun j hj => by simp [onF, hj], HB.out⟩
end Go.Proofs.Ytojjjndhabjhdaa.shortA
