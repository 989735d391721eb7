/-
  Contract of proof.newProver.
-/
import Derived.Test.YtojjjndhabjhdaaDoorFnM
import Derived.StillTailTactics
namespace Go.Proofs.YtojjjndhabjhdaaDoor.proofL
open Go.ChangeShapes Go.WideShapes Go.ChangeAt Go.RowKit proofP proofQ owns proofA proofB proofC proofD proofE proofF proofG proofH proofI proofJ proofK cls
set_option linter.unusedSimpArgs false
set_option linter.unusedVariables false

def NewP (W0 : Nat) (lv : Value) (cl log : List (List Int)) (w : World) (e : Ending) (w' : World) : Prop :=
  ∃ bp va F s nv, e = .returned (.pointer (some ⟨bp, 0, none⟩)) ∧ Mem w' W0 bp lv va cl.length nv s F ∧ nv = 40002 ∧ PGood s (fun i => (cl ++ log).getD i []) ∧ s.n = cl.length + log.length ∧ (∀ j, j < s.n → s.on j = decide (j < cl.length)) ∧ s.trail = [] ∧ s.short.length ≤ 100000 ∧ Below W0 w w'

/-- while rows are collected -/
def R1 (W0 bp bb : Nat) (cv lv : Value) (first nv : Nat) (w : World) (done : List (List Int)) (g : Nat) (wr : World) : Prop :=
  ∃ F, BM wr W0 bp lv first nv done F ∧ Gr done g ∧ Below W0 w wr ∧ Whole wr bb 22 [cv, lv] ∧ bb ≠ bp ∧ ∀ k, (F k).v.ownBlock ≠ some bb
/-- while watches are laid -/
def R3 (W0 bp : Nat) (vR lv : Value) (first nv m : Nat) (w : World) (done : List (List Int)) (k : Nat) (wr : World) : Prop :=
  ∃ A s F, MB wr W0 bp lv first nv A s F ∧ P2 done first m k A s ∧ Below W0 w wr ∧ (F .rows).v = vR

/-- while a row's neighbours are looked at -/
def R4 (W0 bp : Nat) (lv : Value) (first nv : Nat) (w : World) (A : Nat → Bool) (s : PS) (F : Ix → Ent) (k q : Nat) (wr : World) : Prop :=
  ∃ F', MB wr W0 bp lv first nv (updN A k (adj (s.row k) q)) s F' ∧ (∀ j, (F' j).v = (F j).v) ∧ Below W0 w wr
theorem updN_self {A : Nat → Bool} {k : Nat} {b : Bool} (h : A k = b) : updN A k b = A := by
  funext j
  by_cases e : j = k
  · subst e; rw [updN_same, h]
  · rw [updN_other _ _ e]
theorem updN_twice {A : Nat → Bool} {k : Nat} {b c : Bool} : updN (updN A k b) k c = updN A k c := by
  funext j
  by_cases e : j = k
  · subst e; rw [updN_same, updN_same]
  · rw [updN_other _ _ e, updN_other _ _ e, updN_other _ _ e]
theorem adj_end {r : List Nat} {q : Nat} (hs : r.Pairwise (· < ·)) (h1 : 1 ≤ q) (h : q = r.length ∨ (q = 1 ∧ r.length = 0)) : adj r q = tautB r := by
  rcases h with h | ⟨h, h'⟩
  · rw [h, adj_taut hs]
  · rw [← adj_taut hs, h, h']; rfl

theorem take_next {α : Type} {l : List α} {j : Nat} {d : α} (h : j < l.length) (pre : List α) : pre ++ l.take (j + 1) = (pre ++ l.take j) ++ [l.getD j d] := by
  rw [List.take_succ_eq_append_getElem h, List.getD_eq_getElem?_getD, List.getElem?_eq_getElem h, List.append_assoc]; rfl

theorem own_value {w : World} {B : Nat} {e : TypeId} {v : Value} {n : Nat} {xs : List Value} (h : w.ownsRow B e 1 v n xs) : ∃ ao cap, v = .slice ao n cap := by
  rcases h.2 with ⟨hv, h0⟩ | ⟨g, cap, cur, hv, _⟩
  · exact ⟨none, 0, by rw [hv, h0]⟩
  · exact ⟨_, cap, hv⟩
theorem r1_push {W0 bp bb : Nat} {cv lv v v' : Value} {first nv : Nat} {w wr w3 w4 : World} {done : List (List Int)} {g' : Nat} {F : Ix → Ent} {c : List Int} {o : Obj} (hB : BM wr W0 bp lv first nv done F) (hG : Gr (done ++ [c]) g') (hb : Below W0 w wr) (hW : Whole wr bb 22 [cv, lv]) (hbb : bb ≠ bp) (hne : ∀ k, (F k).v.ownBlock ≠ some bb)
    (hb3 : Below wr.heap.size wr w3) (hr : w3.ownsRow wr.heap.size 3 1 v (rowOf c).length ((rowOf c).map iv)) (hown : w4.ownsRow W0 23 1 v' (done.length + 1) ((F .rows).xs ++ [v])) (hg : (w3.alloc o).grownBy w4 (F .rows).v.ownBlock) (hat : v'.ownBlock = (F .rows).v.ownBlock ∨ v'.ownBlock = some (w3.alloc o).heap.size) :
    R1 W0 bp bb cv lv first nv w (done ++ [c]) g' (w4.setCell ⟨bp, 2, none⟩ v') := by
  obtain ⟨F', hB', hk⟩ := hB.push hb3 hr hown hg hat
  obtain ⟨k1, k2⟩ := hk bb hW.lt hbb hne
  have hWs : W0 ≤ wr.heap.size := Nat.le_trans hB.hB (Nat.le_of_lt hB.obj.lt)
  have hs3 := hb3.size
  have hbw : Below W0 w w4 := ((hb.trans (hb3.mono hWs)).alloc (by omega) o).grown hg (by simp; omega) (fun k hk => ((hB.own.1 .rows).lt k hk).1)
  exact ⟨F', hB', hG, hbw.setCell hB.hB _, k1.trans hW, hbb, k2⟩

section
variable {w wr w1 : World} {W0 bp : Nat} {vR lv v' : Value} {first nv m k q : Nat} {done : List (List Int)} {A : Nat → Bool} {s s' : PS} {F4 : Ix → Ent}
theorem r3_short {o : Obj} (hP : P2 done first m k A s) (hs : ({ s with on := updN s.on k (decide (k < first)) } : PS) = s') (hM : MB wr W0 bp lv first nv (updN A k (adj (s'.row k) q)) s' F4) (hadj : adj (s'.row k) q = tautB (s'.row k)) (hlen : (s.row k).length < 2) (hF : (F4 .rows).v = vR) (hb : Below W0 w wr)
    (hown : w1.ownsRow W0 3 1 v' (s'.short.length + 1) (s'.short.map iv ++ [.int .i64 k])) (hg : (wr.alloc o).grownBy w1 (F4 .short).v.ownBlock) (hat : v'.ownBlock = (F4 .short).v.ownBlock ∨ v'.ownBlock = some (wr.alloc o).heap.size) :
    R3 W0 bp vR lv first nv m w done (k + 1) (w1.setCell ⟨bp, 5, none⟩ v') := by
  obtain ⟨F5, hM5, hF5⟩ := hM.pushShort o hown hg hat
  have hW : W0 ≤ wr.heap.size := Nat.le_trans hM.mem.hB (Nat.le_of_lt hM.mem.obj.lt)
  rw [hadj] at hM5
  subst hs
  exact ⟨_, _, F5, hM5, hP.short1 hlen, ((hb.alloc hW o).grown hg (by simp; omega) (fun k hk => ((hM.mem.own.1 .short).lt k hk).1)).setCell hM.mem.hB _, by rw [hF5 .rows (by simp)]; exact hF⟩
theorem r3_taut (hP : P2 done first m k A s) (hs : ({ s with on := updN s.on k (decide (k < first)) } : PS) = s') (hM : MB wr W0 bp lv first nv (updN A k (adj (s'.row k) q)) s' F4) (hadj : adj (s'.row k) q = tautB (s'.row k)) (hlen : 2 ≤ (s.row k).length) (ht : tautB (s'.row k) = true) (hF : (F4 .rows).v = vR) (hb : Below W0 w wr) :
    R3 W0 bp vR lv first nv m w done (k + 1) wr := by
  rw [hadj] at hM
  subst hs
  exact ⟨_, _, F4, hM, hP.taut1 hlen ht, hb, hF⟩
theorem r3_watch {s8 : PS} {x y : Nat} {F9 : Ix → Ent} (hP : P2 done first m k A s) (hs : ({ s with on := updN s.on k (decide (k < first)) } : PS) = s') (hs8 : ({ s' with W := updN s'.W x (s'.W x ++ [k]) } : PS) = s8) (hlen : 2 ≤ (s.row k).length) (hd : (s.row k).Nodup) (hx : (s.row k).getD 0 0 = x) (hy : (s.row k).getD 1 0 = y)
    (hM : MB wr W0 bp lv first nv (updN A k (tautB (s'.row k))) { s8 with W := updN s8.W y (s8.W y ++ [k]) } F9) (hF : (F9 .rows).v = vR) (hb : Below W0 w wr) : R3 W0 bp vR lv first nv m w done (k + 1) wr := by
  subst hs
  subst hs8
  have hxy : y ≠ x := by
    intro e
    have := nodup_get.1 hd 0 1 (by omega) (by omega) (by rw [hx, hy, e])
    omega
  have hWy : updN s.W x (s.W x ++ [k]) y = s.W y := updN_other _ _ hxy
  refine ⟨_, _, F9, hM, hP.watch1 hlen hd hx hy ?_, hb, hF⟩
  dsimp only
  rw [hWy]
/-- a row is watched by one code more -/
theorem mb_watch {A' : Nat → Bool} {x i gW capW gg cap : Nat} (o : Obj) (hM : MB wr W0 bp lv first nv A' s' F4) (hxm : x < s'.m) (hWv : (F4 .watches).v = .slice (some ⟨gW, 0, none⟩) s'.m capW) (hb : Below W0 w wr)
    (hown1 : w1.ownsRow W0 3 1 (.slice (some ⟨gg, 0, none⟩) ((s'.W x).length + 1) cap) ((s'.W x).length + 1) ((s'.W x).map iv ++ [.int .i64 i])) (hgrow : ((wr.alloc o).drew).grownBy w1 (F4 (.watch x)).v.ownBlock) (hat : (F4 (.watch x)).v.ownBlock = some gg ∨ gg = wr.heap.size + 1) :
    ∃ F5, MB (w1.setCell ⟨gW, x, none⟩ (.slice (some ⟨gg, 0, none⟩) ((s'.W x).length + 1) cap)) W0 bp lv first nv A' { s' with W := updN s'.W x (s'.W x ++ [i]) } F5 ∧ (∀ j, j ≠ .watch x → (F5 j).v = (F4 j).v) ∧ Below W0 w (w1.setCell ⟨gW, x, none⟩ (.slice (some ⟨gg, 0, none⟩) ((s'.W x).length + 1) cap)) := by
  obtain ⟨b1, F5, hM5, hF5, hal⟩ := watch_core (row' := s'.row) hM.mem o hxm hWv hM.mem.own (Below.refl _ _) (fun _ => rfl) (fun _ => rfl) (fun _ _ => rfl) hM.mem.row hM.mem.obj hown1 hgrow hat
  exact ⟨F5, ⟨by rw [hF5 .always (by simp)]; exact hM5, by rw [hal]; exact hM.al⟩, hF5, hb.trans b1⟩
end

set_option maxHeartbeats 8000000 in
set_option maxRecDepth 100000 in
theorem new_any (w : World) (B0 : Nat) (cv lv : Value) (cl log : List (List Int)) (hc : ClsAt w B0 cv cl) (hl : ClsAt w B0 lv log) (hB0 : B0 ≤ w.heap.size) (h1 : cl.length ≤ 40000) (h2 : log.length ≤ 40000) (hs1 : ∀ c ∈ cl, c.length ≤ 100000) (hs2 : ∀ c ∈ log, c.length ≤ 100000) :
    Calls Tryd.prog 20 #[cv, lv] w (NewP w.heap.size lv cl log w) := by
  obtain ⟨nv, hnv⟩ : ∃ nv : Nat, nv = 40002 := ⟨_, rfl⟩
  have HNV := Lib.hid hnv
  have hnvI : (40002 : Int) = (nv : Int) := by rw [hnv]; rfl
  have HNI := Lib.hid hnvI
  have hnb : nv ≤ 50000 := by omega
  clear hnvI hnv
  have HC := Lib.hid hc
  have HL := Lib.hid hl
  have HS1 := Lib.hid hs1
  have HS2 := Lib.hid hs2
  obtain ⟨ac, capc, bc, offc, vsc, rfl, hmc, hac, hcc, hnc⟩ := hc
  obtain ⟨al, capl, bl, offl, vsl, rfl, hml, hal, hcl, hnl⟩ := hl
  clear hac hcc hnc hal hcl hnl hmc hml hs1 hs2
  obtain ⟨i8, hi8, hz80, hz81, hz82⟩ := info_parts info8
  obtain ⟨iS, hiS, hzS0, hzS1, hzS2⟩ := info_parts infoS
  obtain ⟨iB, hiB, hzB0, hzB1, hzB2⟩ := info_parts infoB
  obtain ⟨i0, hi0, hzi0, hzi1, hzi2⟩ := info_parts infoI
  go_enter Tryd.func20, Tryd.ntmps20
  go_wp2_with (at_make; refine wpList_make_full _ rfl _ _ 47 rfl w.heap.size 70 i8 (.int .i8 0) 1 Tryd.underlying47 hi8 hz80 hz81 .i64 .i64 _ _ nv rfl rfl ?c1 ?c2 ?c3 ?c4 ?c5 ?_)
  case c1 => exact HNI.out
  case c2 => exact HNI.out
  case c3 => rw [hz82]; omega
  case c4 => unfold maxLen; omega
  case c5 => exact Nat.le_refl _
  intro w1 hown1 hgrow1
  have hown1' : w1.ownsRow w.heap.size 70 1 (.slice (some ⟨w.heap.size, 0, none⟩) nv nv) nv (List.replicate nv (.int .i8 0)) := by
    have := hown1
    rw [toList_madeCells_one] at this
    exact this
  have hb1 : Below w.heap.size w w1 := below_grown hgrow1 (Nat.le_refl _) (by intro k hk; cases hk)
  obtain ⟨F0, hF0⟩ := BM.start (lv := .slice al log.length capl) (first := cl.length) hown1' hb1
  have hsz1 := hb1.size
  have HB0 := Lib.hid hF0
  have HBL1 := Lib.hid hb1
  clear hown1 hgrow1 hown1' hb1 hF0
  have HR0 : Hid (R1 w.heap.size w1.heap.size (w1.heap.size + 1) (.slice ac cl.length capc) (.slice al log.length capl) cl.length nv w [] 0 ((w1.alloc (.cells #[.slice al log.length capl, .int .i64 cl.length, nl, nl, nl, nl, nl, .slice (some ⟨w.heap.size, 0, none⟩) nv nv, nl] 89)).alloc (.cells #[.slice ac cl.length capc, .slice al log.length capl] 22))) := Lib.hid (by
    refine ⟨F0, HB0.out.below ((Below.refl _ _).alloc (Nat.le_refl _) _), Gr.start, (HBL1.out.alloc (by omega) _).alloc (by simp; omega) _, ?_, by omega, fun k e => ?_⟩
    · have := Whole.new (w1.alloc (.cells #[.slice al log.length capl, .int .i64 cl.length, nl, nl, nl, nl, nl, .slice (some ⟨w.heap.size, 0, none⟩) nv nv, nl] 89)) 22 [.slice ac cl.length capc, .slice al log.length capl]
      simpa using this
    · have := ((HB0.out.own.1 k).lt _ e).2
      simp at this)
  go_wp2
  generalize hbp : w1.heap.size = bp at *
  have HBP := Lib.hid hbp
  clear hbp
  go_loopw [6, 25] (fun gv it wr => ∃ a g : Nat, a ≤ 2 ∧ g < 50000 ∧ it = .int .i64 a ∧ gv = .int .i64 g ∧ R1 w.heap.size bp (bp + 1) (.slice ac cl.length capc) (.slice al log.length capl) cl.length nv w (if a = 0 then [] else if a = 1 then cl else cl ++ log) g wr) (fun _ it _ => 2 - (intOf it).toNat)
  case atStart =>
    refine ⟨0, 0, by omega, by omega, rfl, rfl, ?_⟩
    have := HR0.out
    unfold nl at this
    exact this
  case round =>
    obtain ⟨a, g, ha, hg5, rfl, rfl, hrel⟩ := hrel
    clear HR0 HB0 HBL1
    by_cases halt : a < 2
    · obtain ⟨vv, ls, prev, hpv, hnx, hcell, hcls, hsz, hpl, hll⟩ : ∃ (vv : Value) (ls prev : List (List Int)), (if a = 0 then [] else if a = 1 then cl else cl ++ log) = prev ∧ (if a + 1 = 0 then [] else if a + 1 = 1 then cl else cl ++ log) = prev ++ ls ∧ (∀ wr : World, Whole wr (bp + 1) 22 [.slice ac cl.length capc, .slice al log.length capl] → wr.cell? ⟨bp + 1, a, none⟩ = some vv) ∧ ClsAt w B0 vv ls ∧ (∀ c ∈ ls, c.length ≤ 100000) ∧ prev.length ≤ 40000 ∧ ls.length ≤ 40000 := by
        rcases (show a = 0 ∨ a = 1 by omega) with rfl | rfl
        · exact ⟨.slice ac cl.length capc, cl, [], rfl, rfl, fun wr h => h.cell 0, HC.out, HS1.out, by simp, h1⟩
        · exact ⟨.slice al log.length capl, log, cl, rfl, rfl, fun wr h => h.cell 1, HL.out, HS2.out, h1, h2⟩
      rw [hpv] at hrel
      have HNX := Lib.hid hnx
      have HPV := Lib.hid hpv
      have HSZ := Lib.hid hsz
      obtain ⟨av, capv, bv, offv, vs, rfl, hmv, hav, hcv, hnv⟩ := hcls
      have HAV := Lib.hid hav
      have HCV := Lib.hid hcv
      have HNVV := Lib.hid hnv
      have HR := Lib.hid hrel
      obtain ⟨F1, hB1, hG1, hb1, hW1, hbb1, hne1⟩ := hrel
      have cA := hcell wr hW1
      have haI : (a : Int) < 2 := by omega
      have HR1 : Hid (R1 w.heap.size bp (bp + 1) (.slice ac cl.length capc) (.slice al log.length capl) cl.length nv w (prev ++ ls.take 0) g wr) := Lib.hid (by simpa using HR.out)
      clear hpv hnx hsz hmv hav hcv hnv hB1 hG1 hb1 hW1 hbb1 hne1 hcell HR
      go_wp2
      obtain ⟨wo, hwo⟩ : ∃ wo : World, wo = wr := ⟨_, rfl⟩
      clear hwo
      go_loopw [6, 31] (fun gv it wr => ∃ j g : Nat, j ≤ ls.length ∧ g < 50000 ∧ it = .int .i64 j ∧ gv = .int .i64 g ∧ R1 w.heap.size bp (bp + 1) (.slice ac cl.length capc) (.slice al log.length capl) cl.length nv w (prev ++ ls.take j) g wr) (fun _ it _ => ls.length - (intOf it).toNat)
      case atStart => exact ⟨0, g, Nat.zero_le _, hg5, rfl, rfl, HR1.out⟩
      case round =>
        clear HR1 cA hg5
        obtain ⟨j, g, hj, hg5, rfl, rfl, hrel⟩ := hrel
        have HR := Lib.hid hrel
        obtain ⟨F1, hB1, hG1, hb1, hW1, hbb1, hne1⟩ := hrel
        by_cases hjl : j < ls.length
        · obtain ⟨rfl, hbB⟩ := HAV.out (by intro h0; rw [h0] at hjl; simp at hjl)
          have q : wr.cell? ⟨bv, offv + j, none⟩ = some (vs j) := by rw [hb1.cell (show (⟨bv, offv + j, none⟩ : Addr).block < w.heap.size from by show bv < _; omega)]; exact HCV.out j hjl
          have hIA := HNVV.out j hjl
          have hmem : ls.getD j [] ∈ ls := by rw [List.getD_eq_getElem?_getD, List.getElem?_eq_getElem hjl]; exact List.getElem_mem hjl
          have HTN := Lib.hid (take_next (d := []) hjl prev)
          have hWs : w.heap.size ≤ wr.heap.size := hb1.size
          have HCO := Lib.hid (codesOf_any wr w.heap.size (vs j) (ls.getD j []) ((hIA.mono hB0).keep hb1) hWs (HSZ.out _ hmem))
          have hdl : (prev ++ ls.take j).length = prev.length + j := by rw [List.length_append, List.length_take, Nat.min_eq_left hj]
          have f2 : wr.cell? ⟨bp, 2, none⟩ = some (F1 .rows).v := hB1.obj.cell 2
          have hbl := hB1.obj.lt
          have hxl : (F1 .rows).xs.length = (prev ++ ls.take j).length := by rw [hB1.rows]; simp
          have hRO : ∀ w', Below wr.heap.size wr w' → w'.ownsRow w.heap.size 23 1 (F1 .rows).v (prev ++ ls.take j).length (F1 .rows).xs := by
            intro w' hb'
            have := (hB1.own.below hb').1 .rows
            rw [hxl, hB1.te] at this
            exact this
          have HRO := Lib.hid hRO
          have hnr : (F1 .rows).v.ownBlock ≠ some bp := hB1.ne .rows
          have hgl := hB1.own
          have HB1 := Lib.hid hB1
          have HG1 := Lib.hid hG1
          have HBB := Lib.hid hb1
          have HW1 := Lib.hid hW1
          have HN1 := Lib.hid hne1
          have hRlt : Hid (∀ b, (F1 .rows).v.ownBlock = some b → b < wr.heap.size) := Lib.hid (fun b hb => ((hB1.own.1 .rows).lt b hb).2)
          obtain ⟨aR, capR, hvR⟩ := hB1.own.value .rows
          rw [hxl] at hvR
          generalize hN : (prev ++ ls.take j).length = N at *
          have HN := Lib.hid hN
          have hdle : N ≤ prev.length + j := by omega
          clear hN hdl
          generalize hrv : (F1 .rows).v = rv at *
          subst hvR
          have Hrv := Lib.hid hrv
          generalize hrx : (F1 .rows).xs = rx at *
          have Hrx := Lib.hid hrx
          clear hrv hrx hB1 hG1 hb1 hW1 hne1 hgl hRO hIA hxl
          generalize hcj : ls.getD j [] = c at *
          clear hcj
          go_wp2_with fail
          refine HCO.out.mono ?_
          rintro e w3 ⟨v, rfl, hr3, hb3⟩
          obtain ⟨a3, cap3, rfl⟩ := own_value hr3
          have f23 : w3.cell? ⟨bp, 2, none⟩ = some (.slice aR N capR) := (hb3.cell hbl).trans f2
          have hs3 := hb3.size
          have HR3 := Lib.hid hr3
          have HB3 := Lib.hid hb3
          have HO3 := Lib.hid (HRO.out w3 hb3)
          clear hr3 hb3 f2 q HCO
          go_wp2_with (at_builtin; refine wpList_append_own_at _ rfl (.tmp 41) (.tmp 43) 87 rfl w.heap.size 23 iS (.slice none 0 0) 1 24 Tryd.underlying87 hiS hzS0 hzS1 hzS2 rfl (by decide) (.slice aR N capR) N rx rfl (HO3.out.alloc _) ⟨w3.heap.size, 0, none⟩ 1 1 [.slice a3 (rowOf c).length cap3] rfl rfl (new_one _ _ _) ?d2 ?d3 ?d4 ?d5 ?_)
          case d2 => simp [Value.oneCell']
          case d3 => unfold maxLen; omega
          case d4 => omega
          case d5 => simp; omega
          intro v4 w4 hown4 hgrow4 _ hat4
          obtain ⟨g4, cap4, rfl, _, hg4l, _, _⟩ := own_form hown4 (by omega)
          have hlb : bp < (w3.alloc (.cells #[.slice a3 (rowOf c).length cap3] 23)).heap.size := by simp; omega
          have f24 : w4.cell? ⟨bp, 2, none⟩ = some (.slice aR N capR) := hgrow4.cell (by rw [((Below.refl w3.heap.size w3).alloc (Nat.le_refl _) _).cell (show (⟨bp, 2, none⟩ : Addr).block < w3.heap.size from by show bp < _; omega)]; exact f23) (fun e => hnr e.symm)
          have z24 : w4.frozen? ⟨bp, 2, none⟩ = false := by
            have o4 : Whole w4 bp 89 [.slice al log.length capl, iv cl.length, (F1 .rows).v, nl, nl, nl, nl, (F1 .value).v, nl] :=
              ((HB1.out.obj.below HB3.out HB1.out.obj.lt).below ((Below.refl _ _).alloc (Nat.le_refl _) _) (by omega)).kept hgrow4 hnr
            exact o4.frozen 2
          have HPU := Lib.hid (fun g' hG' => r1_push (c := c) (g' := g') HB1.out hG' HBB.out HW1.out hbb1 HN1.out HB3.out HR3.out (by rw [Hrx.out, HN.out]; exact hown4) (by rw [Hrv.out]; exact hgrow4) (by rw [Hrv.out, show (w3.alloc (.cells #[.slice a3 (rowOf c).length cap3] 23)).heap.size = w3.heap.size + 1 from by simp]; exact hat4))
          by_cases hL : (rowOf c).length = 0
          · have HX := Lib.hid (HPU.out g (HG1.out.skip hL))
            have hLI : ¬ ((0 : Int) < ((rowOf c).length : Int)) := by omega
            rw [hL] at *
            clear hown4 hgrow4 hat4 HPU hL f23
            go_wp2
            go_roundw
            case rel => exact ⟨j + 1, g, by omega, hg5, by go_num, rfl, by rw [HTN.out]; exact HX.out⟩
            case measure => simp [intOf]; omega
          · have hL0 : 0 < (rowOf c).length := by omega
            obtain ⟨gc, capq, hvq, hq1, hq2, _, _⟩ := own_form HR3.out hL0
            simp only [Value.slice.injEq, true_and] at hvq
            obtain ⟨rfl, rfl⟩ := hvq
            have hr4 := (HR3.out.alloc (.cells #[.slice (some ⟨gc, 0, none⟩) (rowOf c).length cap3] 23)).kept hgrow4 (.inr (fun e => by have := hRlt.out gc e.symm; omega))
            have cG : w4.cell? ⟨gc, (rowOf c).length - 1, none⟩ = some (.int .i64 ((rowOf c).getD ((rowOf c).length - 1) 0 : Nat)) := by
              rw [hr4.cellAt ((rowOf c).length - 1) (by omega)]; exact getD_iv (by omega)
            have hgn : gc ≠ bp := by omega
            have hgn' : bp ≠ gc := by omega
            have HX := Lib.hid (HPU.out _ (HG1.out.push hL0))
            have hrg := ((row_is c).rng (get_mem (r := rowOf c) (i := (rowOf c).length - 1) (by omega))).2
            have hLle : (rowOf c).length ≤ 100000 := rowLong (row_is c) (row_nodup c)
            generalize (rowOf c).getD ((rowOf c).length - 1) 0 = y at *
            generalize (rowOf c).length = L at *
            have hLI : (0 : Int) < (L : Int) := by omega
            have hy5 : max g y < 50000 := by omega
            clear hown4 hgrow4 hat4 HPU hL f23 hr4 HR3 HO3 HRO
            go_wp2
            go_roundw
            case rel => exact ⟨j + 1, max g y, by omega, hy5, by go_num, by first | rfl | (congr 1; omega) | (simp; omega), by rw [HTN.out]; exact HX.out⟩
            case measure => simp [intOf]; omega
        · obtain rfl : j = ls.length := by omega
          rw [List.take_length] at HR
          clear hB1 hG1 hb1 hW1 hbb1 hne1
          go_wp2
          go_roundw
          case rel =>
            refine ⟨a + 1, g, by omega, hg5, by go_num, rfl, ?_⟩
            rw [HNX.out]; exact HR.out
          case measure => simp [intOf]; omega
    · obtain rfl : a = 2 := by omega
      simp only [show (2 : Nat) ≠ 0 from by decide, show (2 : Nat) ≠ 1 from by decide, if_false] at hrel
      generalize hdn : cl ++ log = done at *
      have HDN := Lib.hid hdn
      have hdl : done.length ≤ 80000 := by rw [← hdn, List.length_append]; omega
      clear hdn
      obtain ⟨F1, hB1, hG1, hb1, hW1, hbb1, hne1⟩ := hrel
      have f2 : wr.cell? ⟨bp, 2, none⟩ = some (F1 .rows).v := hB1.obj.cell 2
      have f3 : wr.cell? ⟨bp, 3, none⟩ = some (.slice none 0 0) := hB1.obj.cell 3
      have z3 := hB1.obj.frozen 3
      have hbl := hB1.obj.lt
      have hxl : (F1 .rows).xs.length = done.length := by rw [hB1.rows]; simp
      obtain ⟨aR, capR, hvR⟩ := hB1.own.value .rows
      rw [hxl] at hvR
      rw [hvR] at f2
      have HB1 := Lib.hid hB1
      have HG1 := Lib.hid hG1
      have HBB := Lib.hid hb1
      have HVR := Lib.hid hvR
      have hws := hb1.size
      have hlt5 := hG1.1
      obtain ⟨gg, hor, hgg1, hgg2⟩ : ∃ gg : Nat, bits .or .i64 (g : Int) 1 = (gg : Int) ∧ g ≤ gg ∧ gg ≤ g + 1 := ⟨_, or1 g (by omega), by split <;> omega, by split <;> omega⟩
      clear hB1 hG1 hb1 hW1 hne1 hxl hvR HC HL HS1 HS2
      go_wp2_with (at_make; refine wpList_make_full _ rfl (.tmp 65) (.tmp 65) 24 rfl w.heap.size 4 iB (.bool false) 1 Tryd.underlying24 hiB hzB0 hzB1 .i64 .i64 _ _ done.length rfl rfl rfl rfl ?e3 ?e4 ?e5 ?_)
      case e3 => rw [hzB2]; omega
      case e4 => unfold maxLen; omega
      case e5 => omega
      intro w2 hown2 hgrow2
      rw [toList_madeCells_one] at hown2
      have O1 := HB1.out.ob.add (k := .on) 3 (HB1.out.nil .on (by simp) (by simp) (by simp)).1 hgrow2 (by simp) hown2 (Nat.le_refl _)
      rw [HVR.out] at O1
      have hs2 := hgrow2.size
      have f2b : w2.cell? ⟨bp, 2, none⟩ = some (.slice aR done.length capR) := hgrow2.cell f2 (by simp)
      have f3b : w2.cell? ⟨bp, 3, none⟩ = some (.slice none 0 0) := hgrow2.cell f3 (by simp)
      have z3b : w2.frozen? ⟨bp, 3, none⟩ = false := (World.frozen?_of_block (hgrow2.block bp hbl (by simp))).trans z3
      have f4b : w2.cell? ⟨bp, 4, none⟩ = some (.slice none 0 0) := hgrow2.cell (HB1.out.obj.cell 4) (by simp)
      have z4b : w2.frozen? ⟨bp, 4, none⟩ = false := (World.frozen?_of_block (hgrow2.block bp hbl (by simp))).trans (HB1.out.obj.frozen 4)
      have HO1 := Lib.hid O1
      have HBB2 : Hid (Below w.heap.size w (w2.setCell ⟨bp, 3, none⟩ (.slice (some ⟨wr.heap.size, 0, none⟩) done.length done.length))) := Lib.hid ((HBB.out.grown hgrow2 hws (by intro k hk; cases hk)).setCell HB1.out.hB _)
      clear hown2 hgrow2 O1 f2 f3 z3
      go_wp2_with (at_make; refine wpList_make_full _ rfl (.tmp 74) (.tmp 74) 24 rfl w.heap.size 4 iB (.bool false) 1 Tryd.underlying24 hiB hzB0 hzB1 .i64 .i64 _ _ done.length rfl rfl rfl rfl ?g3 ?g4 ?g5 ?_)
      case g3 => rw [hzB2]; omega
      case g4 => unfold maxLen; omega
      case g5 => simp; omega
      intro w3 hown3 hgrow3
      rw [toList_madeCells_one] at hown3
      have O2 := HO1.out.add (k := .always) (g := w2.heap.size) 4 (by rw [upd_other _ _ (by simp)]; exact (HB1.out.nil .always (by simp) (by simp) (by simp)).1) hgrow3 (by simp) hown3 (by simp)
      have hs3 := hgrow3.size
      have hs3' : w2.heap.size ≤ w3.heap.size := by simpa using hs3
      have f4c : w3.cell? ⟨bp, 4, none⟩ = some (.slice none 0 0) := hgrow3.cell (by rw [World.cell?_setCell_other _ _ _ _ (by simp)]; exact f4b) (by simp)
      have hbl2 : bp < (w2.setCell ⟨bp, 3, none⟩ (.slice (some ⟨wr.heap.size, 0, none⟩) done.length done.length)).heap.size := by simp; omega
      have z4c : w3.frozen? ⟨bp, 4, none⟩ = false := (World.frozen?_of_block (hgrow3.block bp hbl2 (by simp))).trans (by rw [World.frozen?_setCell]; exact z4b)
      have f2c : w3.cell? ⟨bp, 2, none⟩ = some (.slice aR done.length capR) := hgrow3.cell (by rw [World.cell?_setCell_other _ _ _ _ (by simp)]; exact f2b) (by simp)
      have f6c : w3.cell? ⟨bp, 6, none⟩ = some (.slice none 0 0) := hgrow3.cell (HO1.out.obj.cell 6) (by simp)
      have z6c : w3.frozen? ⟨bp, 6, none⟩ = false := (World.frozen?_of_block (hgrow3.block bp hbl2 (by simp))).trans (HO1.out.obj.frozen 6)
      have HO2 := Lib.hid O2
      have HBB3 : Hid (Below w.heap.size w (w3.setCell ⟨bp, 4, none⟩ (.slice (some ⟨w2.heap.size, 0, none⟩) done.length done.length))) := Lib.hid ((HBB2.out.grown hgrow3 (by simp; omega) (by intro k hk; cases hk)).setCell HB1.out.hB _)
      clear hown3 hgrow3 O2 f2b f3b z3b f4b z4b hs3
      go_wp2_with (at_make; refine wpList_make_full _ rfl (.tmp 81) (.tmp 81) 87 rfl w.heap.size 23 iS (.slice none 0 0) 1 Tryd.underlying87 hiS hzS0 hzS1 .i64 .i64 _ _ (gg + 1) rfl rfl ?m1 ?m2 ?m3 ?m4 ?m5 ?_)
      case m1 => omega
      case m2 => omega
      case m3 => rw [hzS2]; omega
      case m4 => unfold maxLen; omega
      case m5 => simp; omega
      intro w4 hown4 hgrow4
      rw [toList_madeCells_one] at hown4
      have O3 := HO2.out.add (k := .watches) (g := w3.heap.size) 6 (by rw [upd_other _ _ (by simp), upd_other _ _ (by simp)]; exact (HB1.out.nil .watches (by simp) (by simp) (by simp)).1) hgrow4 (by simp) hown4 (by simp)
      simp only [List.set_cons_succ, List.set_cons_zero] at O3
      rw [← HVR.out] at O3
      obtain ⟨FM, hMB, hP2, hFR⟩ := mb_start HB1.out O3
      have hs4 := hgrow4.size
      have hbl3 : bp < (w3.setCell ⟨bp, 4, none⟩ (.slice (some ⟨w2.heap.size, 0, none⟩) done.length done.length)).heap.size := by simp; omega
      have f6d : w4.cell? ⟨bp, 6, none⟩ = some (.slice none 0 0) := hgrow4.cell (by rw [World.cell?_setCell_other _ _ _ _ (by simp)]; exact f6c) (by simp)
      have z6d : w4.frozen? ⟨bp, 6, none⟩ = false := (World.frozen?_of_block (hgrow4.block bp hbl3 (by simp))).trans (by rw [World.frozen?_setCell]; exact z6c)
      have f2d : w4.cell? ⟨bp, 2, none⟩ = some (.slice aR done.length capR) := hgrow4.cell (by rw [World.cell?_setCell_other _ _ _ _ (by simp)]; exact f2c) (by simp)
      have HR3 : Hid (R3 w.heap.size bp (.slice aR done.length capR) (.slice al log.length capl) cl.length nv (gg + 1) w done 0 (w4.setCell ⟨bp, 6, none⟩ (.slice (some ⟨w3.heap.size, 0, none⟩) (gg + 1) (gg + 1)))) := Lib.hid ⟨_, _, FM, hMB, hP2, (HBB3.out.grown hgrow4 (by simp; omega) (by intro k hk; cases hk)).setCell HB1.out.hB _, by rw [hFR, HVR.out]⟩
      clear hown4 hgrow4 O3 hMB hP2 hFR f4c z4c f2c f6c z6c hs4 HO1 HO2 HBB2 HBB3
      go_wp2
      go_loopw [90] (fun it wr => ∃ k : Nat, k ≤ done.length ∧ it = .int .i64 k ∧ R3 w.heap.size bp (.slice aR done.length capR) (.slice al log.length capl) cl.length nv (gg + 1) w done k wr) (fun it _ => done.length - (intOf it).toNat)
      case atStart => exact ⟨0, Nat.zero_le _, rfl, HR3.out⟩
      case round =>
        clear HR3 f6d z6d f2d hor
        obtain ⟨k, hk, rfl, hrel⟩ := hrel
        obtain ⟨A, s, F, hMB, hP2, hb, hvr⟩ := hrel
        by_cases hlt : k < done.length
        · have hsn : s.n = done.length := hP2.n
          obtain ⟨gR, capR', hR, hR1⟩ := hMB.mem.rowsAt (by omega)
          rw [hsn, hvr] at hR
          obtain ⟨rfl, rfl⟩ : aR = some ⟨gR, 0, none⟩ ∧ capR = capR' := by cases hR; exact ⟨rfl, rfl⟩
          have r1 := hR1 k (by omega)
          obtain ⟨aI, capI, hI⟩ := hMB.mem.own.value (.row k)
          have hIl : (F (.row k)).xs.length = (s.row k).length := by rw [hMB.mem.row]; simp
          rw [hIl] at hI
          rw [hI] at r1
          obtain ⟨gO, capO, hO, hO1⟩ := hMB.mem.onAt (by omega)
          have o1 := hO1 k (by omega)
          have zo := hMB.mem.own.frozen hO k
          have hOb : gO ≠ bp := fun e => hMB.mem.ne .on (by rw [hO, e]; rfl)
          have hOB : w.heap.size ≤ gO := ((hMB.mem.own.1 .on).lt gO (by rw [hO]; rfl)).1
          obtain ⟨f0, f1, f2, f3, f5, f6, f7, f8⟩ := hMB.mem.field
          rw [hO, hsn] at f3
          obtain ⟨F1, hMB1, hF1⟩ := hMB.setOn (k := k) hO (by omega) (decide (k < cl.length))
          have hMB1' := hMB1.below (Below.refl _ _).drew
          have hAk : A k = false := hP2.al k (Nat.le_refl _)
          have HR4 : Hid (R4 w.heap.size bp (.slice al log.length capl) cl.length nv w A { s with on := updN s.on k (decide (k < cl.length)) } F1 k 1 (wr.setCell ⟨gO, k, none⟩ (.bool (decide (k < cl.length)))).drew) := Lib.hid ⟨F1, by
            have : adj (({ s with on := updN s.on k (decide (k < cl.length)) } : PS).row k) 1 = false := rfl
            rw [this, updN_self hAk]; exact hMB1', fun _ => rfl, (hb.setCell hOB _).drew⟩
          have HP2 := Lib.hid hP2
          have HF1 := Lib.hid hF1
          have HI := Lib.hid hI
          have HVR2 := Lib.hid hvr
          have hLle : (s.row k).length ≤ 100000 := by rw [hP2.row]; exact rowLong (row_is _) (row_nodup _)
          have HSO : Hid ((s.row k).Pairwise (· < ·)) := Lib.hid (by rw [hP2.row]; exact row_sorted _)
          have HRG : Hid (∀ x, x ∈ s.row k → x < gg + 1 ∧ x < 40002) := Lib.hid (fun x hx => by
            rw [hP2.row] at hx
            have := HG1.out.2 _ (show done.getD k [] ∈ done from by rw [List.getD_eq_getElem?_getD, List.getElem?_eq_getElem hlt]; exact List.getElem_mem hlt) x hx
            exact ⟨by omega, ((row_is _).rng hx).2⟩)
          have HSM : Hid (s.m = gg + 1) := Lib.hid hP2.m
          have HSN := Lib.hid hsn
          have HSL := Lib.hid hP2.shl
          have HWL : Hid (∀ c, (s.W c).length ≤ 100000) := Lib.hid (fun c => Nat.le_trans (nodup_bound (hP2.nd c) fun x hx => (hP2.wat c x hx).1) (by omega))
          generalize hL : (s.row k).length = L at *
          have HL := Lib.hid hL
          generalize hok : s.on k = ok at *
          clear hMB hP2 hb hvr hR hR1 hI hIl hO hO1 f0 f2 f5 f6 f7 f8 hMB1 hMB1' hF1 hAk hsn hok hL
          have hL4 : ∀ {q : Nat}, q < L → 0 < L := fun h => by omega
          go_wp2
          go_region
          go_wp2
          obtain ⟨wo, hwo⟩ : ∃ wo : World, wo = wr := ⟨_, rfl⟩
          clear hwo f1 f3 o1 zo r1
          generalize hs' : ({ s with on := updN s.on k (decide (k < cl.length)) } : PS) = s' at *
          have hrw : s'.row = s.row := by rw [← hs']
          have hsn' : s'.n = s.n := by rw [← hs']
          have HS' := Lib.hid hs'
          have HRW := Lib.hid hrw
          have HSN' := Lib.hid hsn'
          clear hs' hrw hsn'
          go_loopw [14] (fun it wr => ∃ q : Nat, 1 ≤ q ∧ (q ≤ L ∨ q = 1) ∧ it = .int .i64 q ∧ R4 w.heap.size bp (.slice al log.length capl) cl.length nv w A s' F1 k q wr) (fun it _ => L - (intOf it).toNat)
          case atStart => exact ⟨1, Nat.le_refl _, .inr rfl, rfl, HR4.out⟩
          case round =>
            clear HR4
            obtain ⟨q, hq1, hq2, rfl, hrel⟩ := hrel
            obtain ⟨F4, hM4, hF4, hb4⟩ := hrel
            have hn4 : s'.n = done.length := HSN'.out.trans HSN.out
            obtain ⟨gA, capA, hA, hA1, hA2, hA3⟩ := hM4.alAt (by omega)
            have a1 := hA1 k (by omega)
            have za := hA3 k
            rw [updN_same] at a1
            have f4 : wr.cell? ⟨bp, 4, none⟩ = some (F4 .always).v := hM4.mem.obj.cell 4
            rw [hA, hn4] at f4
            by_cases hqL : q < L
            · have hlen : (s'.row k).length = L := by rw [HRW.out]; exact HL.out
              obtain ⟨gi, capi, hI4, hI41, hI42, hI43, hI44, hI45⟩ := hM4.mem.rowAt k (by omega)
              have hIe := (hF4 (.row k)).trans (HF1.out (.row k))
              rw [hI4, HI.out, hlen] at hIe
              obtain ⟨rfl, rfl⟩ : aI = some ⟨gi, 0, none⟩ ∧ capI = capi := by cases hIe; exact ⟨rfl, rfl⟩
              have c1 := hI41 q (by omega)
              have c0 := hI41 (q - 1) (by omega)
              have hrg := HRG.out ((s'.row k).getD (q - 1) 0) (by rw [HRW.out]; exact get_mem (by rw [HL.out]; omega))
              have hxor := xor1 ((s'.row k).getD (q - 1) 0) (by omega)
              have hadj : adj (s'.row k) (q + 1) = (adj (s'.row k) q || decide ((s'.row k).getD q 0 = opp ((s'.row k).getD (q - 1) 0))) := by
                show (adj (s'.row k) q || (decide (1 ≤ q) && decide ((s'.row k).getD q 0 = opp ((s'.row k).getD (q - 1) 0)))) = _
                rw [decide_eq_true hq1, Bool.true_and]
              have HNX : Hid (∀ b, b = adj (s'.row k) (q + 1) → R4 w.heap.size bp (.slice al log.length capl) cl.length nv w A s' F1 k (q + 1) (wr.setCell ⟨gA, k, none⟩ (.bool b)).drew) := Lib.hid (fun b hb => by
                subst hb
                obtain ⟨F5, hM5, hF5⟩ := hM4.setAl (k := k) hA (by omega) (adj (s'.row k) (q + 1))
                exact ⟨F5, by rw [updN_twice] at hM5; exact hM5.below (Below.refl _ _).drew, fun j => (hF5 j).trans (hF4 j), (hb4.setCell hA2 _).drew⟩)
              have hqm : IntKind.i64.wrap ((q : Int) - 1) = (q : Int) - 1 := IntWalk.i64_in _ (by omega)
              have hqI : (1 : Int) ≤ (q : Int) := by omega
              have hqI0 : (0 : Int) ≤ (q : Int) - 1 := by omega
              have hqt : ((q : Int) - 1).toNat = q - 1 := by omega
              have hqL1 : q - 1 < L := by omega
              have hqLI : (q : Int) - 1 < (L : Int) := by omega
              have hqLJ : (q : Int) < (L : Int) := by omega
              generalize (s'.row k).getD q 0 = x1 at *
              generalize hopp : opp ((s'.row k).getD (q - 1) 0) = x0' at *
              generalize (s'.row k).getD (q - 1) 0 = x0 at *
              clear hM4 hF4 hb4 hA hA1 hA3 hI4 hI41 hI45 hIe hopp hrg
              cases hadq : adj (s'.row k) q
              · rw [hadq] at a1 hadj
                by_cases he : x1 = x0'
                · have q1 : ((x1 : Int) == (x0' : Int)) = true := by rw [he]; simp
                  have HX := Lib.hid (HNX.out true (by rw [hadj, he]; simp))
                  clear HNX hadj hadq he
                  go_wp2
                  go_still_tail 26, (by kernel_rfl)
                  change wpList _ _ _ _ _ wr.drew
                  go_wp2
                  go_roundw
                  case rel => exact ⟨q + 1, by omega, .inl (by omega), by go_num, HX.out⟩
                  case measure => simp [intOf]; omega
                · have q1 : ((x1 : Int) == (x0' : Int)) = false := by rw [beq_eq_false_iff_ne]; omega
                  have HX := Lib.hid (HNX.out false (by rw [hadj]; simp [he]))
                  clear HNX hadj hadq he
                  go_wp2
                  go_still_tail 26, (by kernel_rfl)
                  change wpList _ _ _ _ _ wr.drew
                  go_wp2
                  go_roundw
                  case rel => exact ⟨q + 1, by omega, .inl (by omega), by go_num, HX.out⟩
                  case measure => simp [intOf]; omega
              · rw [hadq] at a1 hadj
                have HX := Lib.hid (HNX.out true (by rw [hadj]; rfl))
                clear HNX hadj hadq
                go_wp2
                go_region
                all_goals
                  go_wp2
                  go_roundw
                  case rel => exact ⟨q + 1, by omega, .inl (by omega), by go_num, HX.out⟩
                  case measure => simp [intOf]; omega
            · have hadj : adj (s'.row k) q = tautB (s'.row k) := adj_end (by rw [HRW.out]; exact HSO.out) hq1 (by rw [HRW.out, HL.out]; omega)
              have hFR : (F4 .rows).v = .slice (some ⟨gR, 0, none⟩) done.length capR := ((hF4 .rows).trans (HF1.out .rows)).trans HVR2.out
              by_cases hL2 : L < 2
              · have f5 : wr.cell? ⟨bp, 5, none⟩ = some (F4 .short).v := hM4.mem.obj.cell 5
                have hshl : (F4 .short).xs.length = s'.short.length := by rw [hM4.mem.short]; simp
                obtain ⟨aS, capS, hvS⟩ := hM4.mem.own.value .short
                rw [hshl] at hvS
                have hsho := hM4.mem.own.1 .short
                rw [hshl, hM4.mem.te, hM4.mem.short, hvS] at hsho
                have hshb : (F4 .short).v.ownBlock ≠ some bp := hM4.mem.ne .short
                rw [hvS] at f5 hshb
                have hsl : s'.short.length ≤ k := by rw [← HS'.out]; exact HSL.out
                have hbl4 := hM4.mem.obj.lt
                have hws4 := hb4.size
                have HFN := Lib.hid (fun (w5 : World) (v' : Value) hown hg hat => r3_short (w1 := w5) (v' := v') (o := .cells #[.int .i64 k] 3) HP2.out HS'.out hM4 hadj (by rw [HL.out]; exact hL2) hFR hb4 hown (by rw [hvS]; exact hg) (by rw [hvS]; exact hat))
                have HSO := Lib.hid hsho
                have hz5 := hM4.mem.obj.frozen 5
                have HOBJ := Lib.hid hM4.mem.obj
                generalize s'.short.length = SL at *
                clear hM4 hF4 hb4 hA hA1 hA3 hadj hFR hshl hvS hsho f4 a1 za
                go_wp2_with (at_builtin; refine wpList_append_own_at _ rfl (.tmp 146) (.tmp 148) 23 rfl w.heap.size 3 i0 (.int .i64 0) 1 8 Tryd.underlying23 hi0 hzi0 hzi1 hzi2 rfl (by decide) (.slice aS SL capS) SL (s'.short.map iv) rfl (HSO.out.alloc _) ⟨wr.heap.size, 0, none⟩ 1 1 [.int .i64 k] rfl rfl (new_one _ _ _) ?k2 ?k3 ?k4 ?k5 ?_)
                case k2 => simp [Value.oneCell']
                case k3 => unfold maxLen; omega
                case k4 => omega
                case k5 => simp; omega
                intro v5 w5 hown5 hgrow5 _ hat5
                obtain ⟨g5, cap5, rfl, _, _, _, _⟩ := own_form hown5 (by omega)
                have o5 := (HOBJ.out.below ((Below.refl _ _).alloc (Nat.le_refl _) (.cells #[.int .i64 k] 3)) HOBJ.out.lt).kept hgrow5 hshb
                have f5' : w5.cell? ⟨bp, 5, none⟩ = some (F4 .short).v := o5.cell 5
                have z5' := o5.frozen 5
                have HX := Lib.hid (HFN.out w5 _ hown5 hgrow5 (by simpa using hat5))
                generalize (F4 .short).v = svv at *
                clear hown5 hgrow5 hat5 o5 HFN
                go_wp2
                go_roundw
                case rel => exact ⟨k + 1, by omega, by go_num, HX.out⟩
                case measure => simp [intOf]; omega
              · -- TWO
                have hL2I : ¬ ((L : Int) < 2) := by omega
                cases htb : tautB (s'.row k)
                rotate_left
                · have HX := Lib.hid (r3_taut (m := gg + 1) HP2.out HS'.out hM4 hadj (by rw [HL.out]; omega) htb hFR hb4)
                  rw [hadj, htb] at a1
                  clear hM4 hF4 hb4 hA hA1 hA3 hadj hFR
                  go_wp2
                  go_roundw
                  case rel => exact ⟨k + 1, by omega, by go_num, HX.out⟩
                  case measure => simp [intOf]; omega
                rw [hadj, htb] at a1
                rw [hadj] at hM4
                have hlen : (s'.row k).length = L := by rw [HRW.out]; exact HL.out
                obtain ⟨gi, capi, hI4, hI41, hI42, hI43, hI44, hI45⟩ := hM4.mem.rowAt k (by omega)
                have hIe := (hF4 (.row k)).trans (HF1.out (.row k))
                rw [hI4, HI.out, hlen] at hIe
                obtain ⟨rfl, rfl⟩ : aI = some ⟨gi, 0, none⟩ ∧ capI = capi := by cases hIe; exact ⟨rfl, rfl⟩
                rw [hlen] at hI4
                have hms : s'.m = gg + 1 := by rw [← HS'.out]; exact HSM.out
                obtain ⟨gW, capW, hWvA, _, _, _, _, _⟩ := hM4.mem.watchesAt (by omega)
                have hW' : s'.W = s.W := by rw [← HS'.out]
                have hrl : (s'.row k).length = L := hlen
                have hnd : (s.row k).Nodup := HSO.out.imp (by intro a b h e; omega)
                have hxm0 := HRG.out ((s'.row k).getD 0 0) (by rw [HRW.out]; exact get_mem (by rw [HL.out]; omega))
                have hym0 := HRG.out ((s'.row k).getD 1 0) (by rw [HRW.out]; exact get_mem (by rw [HL.out]; omega))
                have hnxy : (s'.row k).getD 0 0 ≠ (s'.row k).getD 1 0 := fun e => by have := nodup_get.1 (HRW.out ▸ hnd : (s'.row k).Nodup) 0 1 (by omega) (by omega) e; omega
                have HWLx := Lib.hid (HWL.out ((s'.row k).getD 0 0))
                have HWLy := Lib.hid (HWL.out ((s'.row k).getD 1 0))
                generalize hrx0 : (s'.row k).getD 0 0 = x at *
                generalize hrx1 : (s'.row k).getD 1 0 = y at *
                have HRX0 := Lib.hid hrx0
                have HRX1 := Lib.hid hrx1
                obtain ⟨M, hM0⟩ : ∃ M : Nat, M = gg + 1 := ⟨_, rfl⟩
                rw [← hM0] at hms hxm0 hym0
                rw [hms] at hWvA
                have hI7 := hI4
                have hrl7 := hrl
                have hrx7 := hrx0
                have hWv7 := hWvA
                have hsm7 := hms
                have hxM7 := hxm0.1
                have hWL7 : (s'.W x).length ≤ 100001 := by rw [hW']; have := HWLx.out; omega
                have HM4 := Lib.hid hM4
                have hl7 := hM4.mem.obj.lt
                have m67 : wr.cell? ⟨bp, 6, none⟩ = some (.slice (some ⟨gW, 0, none⟩) M capW) := by have := hM4.mem.field.2.2.2.2.2.1; rw [hWv7] at this; exact this
                have mi7 : wr.cell? ⟨gi, 0, none⟩ = some (.int .i64 x) := by have := hM4.mem.own.cell hI7 0 (by rw [hM4.mem.row, List.length_map, hrl7]; omega); rw [hM4.mem.row, getD_iv (by rw [hrl7]; omega), hrx7] at this; exact this
                have mw7 : wr.cell? ⟨gW, x, none⟩ = some (F4 (.watch x)).v := by have := hM4.mem.own.cell hWv7 x (by rw [hM4.mem.watches, List.length_map, List.length_range, hsm7]; exact hxM7); rw [this, hM4.mem.watches]; simp [hsm7, hxM7]
                have zw7 : wr.frozen? ⟨gW, x, none⟩ = false := hM4.mem.own.frozen hWv7 x
                have how7 : wr.ownsRow w.heap.size 3 1 (F4 (.watch x)).v (s'.W x).length ((s'.W x).map iv) := hM4.mem.own.at (.watch x) (by rw [hM4.mem.te]; rfl) rfl (by simp) (hM4.mem.watch x)
                have nb17 : (F4 (.watch x)).v.ownBlock ≠ some bp := hM4.mem.ne (.watch x)
                have nb27 : (F4 (.watch x)).v.ownBlock ≠ some gW := fun e => by have := hM4.mem.own.2 (.watch x) .watches gW e (by rw [hWv7]; rfl); cases this
                have nb37 : (F4 (.watch x)).v.ownBlock ≠ some gi := fun e => by have := hM4.mem.own.2 (.watch x) (.row k) gi e (by rw [hI7]; rfl); cases this
                have hgWl7 : gW < wr.heap.size := ((hM4.mem.own.1 .watches).lt gW (by rw [hWv7]; rfl)).2
                have hgil7 : gi < wr.heap.size := ((hM4.mem.own.1 (.row k)).lt gi (by rw [hI7]; rfl)).2
                have hA7 : Below wr.heap.size wr (wr.alloc (.cells #[.int .i64 k] 3)).drew := ((Below.refl _ _).alloc (Nat.le_refl _) _).drew
                have ma67 : (wr.alloc (.cells #[.int .i64 k] 3)).drew.cell? ⟨bp, 6, none⟩ = some (.slice (some ⟨gW, 0, none⟩) M capW) := (hA7.cell hl7).trans m67
                have mai7 : (wr.alloc (.cells #[.int .i64 k] 3)).drew.cell? ⟨gi, 0, none⟩ = some (.int .i64 x) := (hA7.cell hgil7).trans mi7
                have maw7 : (wr.alloc (.cells #[.int .i64 k] 3)).drew.cell? ⟨gW, x, none⟩ = some (F4 (.watch x)).v := (hA7.cell hgWl7).trans mw7
                have maz7 : (wr.alloc (.cells #[.int .i64 k] 3)).drew.frozen? ⟨gW, x, none⟩ = false := (hA7.frozen hgWl7).trans zw7
                have hwl7 : (s'.W x).length ≤ 100001 := hWL7
                have HOw7 := Lib.hid how7
                generalize hwv7 : (F4 (.watch x)).v = wv7 at *
                have Hwv7 := Lib.hid hwv7
                clear hwv7 how7 hA7 zw7
                have HWv := Lib.hid hWvA
                have HF4 := Lib.hid hF4
                have HB4 := Lib.hid hb4
                have HI4 := Lib.hid hI4
                have HFR := Lib.hid hFR
                have HMS := Lib.hid hms
                have HW' := Lib.hid hW'
                have HRL := Lib.hid hrl
                have HND := Lib.hid hnd
                have HM0 := Lib.hid hM0
                have hxM0 := hxm0.1
                have hyM0 := hym0.1
                have HXM := Lib.hid hxm0.1
                have HYM := Lib.hid hym0.1
                have hx0I : (0 : Int) ≤ (x : Int) := Int.natCast_nonneg _
                have hx1I : (x : Int) < (M : Int) := by omega
                have hy0I : (0 : Int) ≤ (y : Int) := Int.natCast_nonneg _
                have hy1I : (y : Int) < (M : Int) := by omega
                have h0L : (0 : Int) < (L : Int) := by omega
                have h1L : (1 : Int) < (L : Int) := by omega
                have h0Ln : 0 < L := by omega
                have h1Ln : 1 < L := by omega
                clear hM4 hF4 hb4 hA hA1 hA3 hadj hFR hI41 hI45 hIe hI7 hrl7 hrx7 hWv7 hsm7 hxM7 hWL7 hI4 hWvA hms hW' hrl hnd hxm0 hym0 hrx0 hrx1 hlen htb hM0
                go_wp2
                refine held.region (fun w' => w'.cell? ⟨bp, 6, none⟩ = some (.slice (some ⟨gW, 0, none⟩) M capW) ∧ w'.cell? ⟨gi, 0, none⟩ = some (.int .i64 x) ∧ w'.cell? ⟨gW, x, none⟩ = some wv7) 20 (by kernel_rfl) ?_
                have hS7 : wr.drew.cell? ⟨bp, 6, none⟩ = some (.slice (some ⟨gW, 0, none⟩) M capW) ∧ wr.drew.cell? ⟨gi, 0, none⟩ = some (.int .i64 x) ∧ wr.drew.cell? ⟨gW, x, none⟩ = some wv7 := ⟨m67, mi7, mw7⟩
                refine held.wpLeft.take (i := 0) (v := ?_) rfl (by kernel_rfl) (by kernel_rfl) (by kernel_rfl) (by kernel_rfl) (by kernel_rfl) (fun _ _ _ h => h) (by rfl) ?_ hS7 ?_
                rotate_left
                · (intro w hSw; obtain ⟨s1, s2, s3⟩ := hSw; go_simp; try with_reducible rfl)
                simp only [Act.put, List.setIfInBounds_toArray, List.set_cons_zero, List.set_cons_succ]
                refine held.wpLeft.take (i := 1) (v := ?_) rfl (by kernel_rfl) (by kernel_rfl) (by kernel_rfl) (by kernel_rfl) (by kernel_rfl) (fun _ _ _ h => h) (by rfl) ?_ hS7 ?_
                rotate_left
                · (intro w hSw; obtain ⟨s1, s2, s3⟩ := hSw; go_simp; try with_reducible rfl)
                simp only [Act.put, List.setIfInBounds_toArray, List.set_cons_zero, List.set_cons_succ]
                refine held.wpLeft.take (i := 2) (v := ?_) rfl (by kernel_rfl) (by kernel_rfl) (by kernel_rfl) (by kernel_rfl) (by kernel_rfl) (fun _ _ _ h => h) (by rfl) ?_ hS7 ?_
                rotate_left
                · (intro w hSw; obtain ⟨s1, s2, s3⟩ := hSw; go_simp; try with_reducible rfl)
                simp only [Act.put, List.setIfInBounds_toArray, List.set_cons_zero, List.set_cons_succ]
                refine held.wpLeft.take (i := 3) (v := ?_) rfl (by kernel_rfl) (by kernel_rfl) (by kernel_rfl) (by kernel_rfl) (by kernel_rfl) (fun _ _ _ h => h) (by rfl) ?_ hS7 ?_
                rotate_left
                · (intro w hSw; obtain ⟨s1, s2, s3⟩ := hSw; go_simp; try with_reducible rfl)
                simp only [Act.put, List.setIfInBounds_toArray, List.set_cons_zero, List.set_cons_succ]
                refine held.wpLeft.take (i := 4) (v := ?_) rfl (by kernel_rfl) (by kernel_rfl) (by kernel_rfl) (by kernel_rfl) (by kernel_rfl) (fun _ _ _ h => h) (by rfl) ?_ hS7 ?_
                rotate_left
                · (intro w hSw; obtain ⟨s1, s2, s3⟩ := hSw; go_simp; try with_reducible rfl)
                simp only [Act.put, List.setIfInBounds_toArray, List.set_cons_zero, List.set_cons_succ]
                refine held.wpLeft.take (i := 5) (v := ?_) rfl (by kernel_rfl) (by kernel_rfl) (by kernel_rfl) (by kernel_rfl) (by kernel_rfl) (fun _ _ _ h => h) (by rfl) ?_ hS7 ?_
                rotate_left
                · (intro w hSw; obtain ⟨s1, s2, s3⟩ := hSw; go_simp; try with_reducible rfl)
                simp only [Act.put, List.setIfInBounds_toArray, List.set_cons_zero, List.set_cons_succ]
                refine held.wpLeft.take (i := 6) (v := ?_) rfl (by kernel_rfl) (by kernel_rfl) (by kernel_rfl) (by kernel_rfl) (by kernel_rfl) (fun _ _ _ h => h) (by rfl) ?_ hS7 ?_
                rotate_left
                · (intro w hSw; obtain ⟨s1, s2, s3⟩ := hSw; go_simp; try with_reducible rfl)
                simp only [Act.put, List.setIfInBounds_toArray, List.set_cons_zero, List.set_cons_succ]
                refine held.wpLeft.take (i := 7) (v := ?_) rfl (by kernel_rfl) (by kernel_rfl) (by kernel_rfl) (by kernel_rfl) (by kernel_rfl) (fun _ _ _ h => h) (by rfl) ?_ hS7 ?_
                rotate_left
                · (intro w hSw; obtain ⟨s1, s2, s3⟩ := hSw; go_simp; try with_reducible rfl)
                simp only [Act.put, List.setIfInBounds_toArray, List.set_cons_zero, List.set_cons_succ]
                refine held.wpLeft.take (i := 8) (v := ?_) rfl (by kernel_rfl) (by kernel_rfl) (by kernel_rfl) (by kernel_rfl) (by kernel_rfl) (fun _ _ _ h => h) (by rfl) ?_ hS7 ?_
                rotate_left
                · (intro w hSw; obtain ⟨s1, s2, s3⟩ := hSw; go_simp; try with_reducible rfl)
                simp only [Act.put, List.setIfInBounds_toArray, List.set_cons_zero, List.set_cons_succ]
                refine held.wpLeft.take (i := 9) (v := ?_) rfl (by kernel_rfl) (by kernel_rfl) (by kernel_rfl) (by kernel_rfl) (by kernel_rfl) (fun _ _ _ h => h) (by rfl) ?_ hS7 ?_
                rotate_left
                · (intro w hSw; obtain ⟨s1, s2, s3⟩ := hSw; go_simp; try with_reducible rfl)
                simp only [Act.put, List.setIfInBounds_toArray, List.set_cons_zero, List.set_cons_succ]
                refine held.wpLeft.take (i := 10) (v := ?_) rfl (by kernel_rfl) (by kernel_rfl) (by kernel_rfl) (by kernel_rfl) (by kernel_rfl) (fun _ _ _ h => h) (by rfl) ?_ hS7 ?_
                rotate_left
                · (intro w hSw; obtain ⟨s1, s2, s3⟩ := hSw; go_simp; try with_reducible rfl)
                simp only [Act.put, List.setIfInBounds_toArray, List.set_cons_zero, List.set_cons_succ]
                refine held.wpLeft.take (i := 11) (v := ?_) rfl (by kernel_rfl) (by kernel_rfl) (by kernel_rfl) (by kernel_rfl) (by kernel_rfl) (fun _ _ _ h => h) (by rfl) ?_ hS7 ?_
                rotate_left
                · (intro w hSw; obtain ⟨s1, s2, s3⟩ := hSw; go_simp; try with_reducible rfl)
                simp only [Act.put, List.setIfInBounds_toArray, List.set_cons_zero, List.set_cons_succ]
                refine held.wpLeft.take (i := 12) (v := ?_) rfl (by kernel_rfl) (by kernel_rfl) (by kernel_rfl) (by kernel_rfl) (by kernel_rfl) (fun _ _ _ h => h) (by rfl) ?_ hS7 ?_
                rotate_left
                · (intro w hSw; obtain ⟨s1, s2, s3⟩ := hSw; go_simp; try with_reducible rfl)
                simp only [Act.put, List.setIfInBounds_toArray, List.set_cons_zero, List.set_cons_succ]
                refine held.wpLeft.take (i := 13) (v := ?_) rfl (by kernel_rfl) (by kernel_rfl) (by kernel_rfl) (by kernel_rfl) (by kernel_rfl) (fun _ _ _ h => h) (by rfl) ?_ hS7 ?_
                rotate_left
                · (intro w hSw; obtain ⟨s1, s2, s3⟩ := hSw; go_simp; try with_reducible rfl)
                simp only [Act.put, List.setIfInBounds_toArray, List.set_cons_zero, List.set_cons_succ]
                refine held.wpLeft.take (i := 14) (v := ?_) rfl (by kernel_rfl) (by kernel_rfl) (by kernel_rfl) (by kernel_rfl) (by kernel_rfl) (fun _ _ _ h => h) (by rfl) ?_ hS7 ?_
                rotate_left
                · (intro w hSw; obtain ⟨s1, s2, s3⟩ := hSw; go_simp; try with_reducible rfl)
                simp only [Act.put, List.setIfInBounds_toArray, List.set_cons_zero, List.set_cons_succ]
                refine held.wpLeft.take (i := 15) (v := ?_) rfl (by kernel_rfl) (by kernel_rfl) (by kernel_rfl) (by kernel_rfl) (by kernel_rfl) (fun _ _ _ h => h) (by rfl) ?_ hS7 ?_
                rotate_left
                · (intro w hSw; obtain ⟨s1, s2, s3⟩ := hSw; go_simp; try with_reducible rfl)
                simp only [Act.put, List.setIfInBounds_toArray, List.set_cons_zero, List.set_cons_succ]
                refine held.wpLeft.take (i := 16) (v := ?_) rfl (by kernel_rfl) (by kernel_rfl) (by kernel_rfl) (by kernel_rfl) (by kernel_rfl) (fun _ _ _ h => h) (by rfl) ?_ hS7 ?_
                rotate_left
                · (intro w hSw; obtain ⟨s1, s2, s3⟩ := hSw; go_simp; try with_reducible rfl)
                simp only [Act.put, List.setIfInBounds_toArray, List.set_cons_zero, List.set_cons_succ]
                refine held.wpLeft.one (i := 17) (by kernel_rfl) rfl (fun K hK => ?_)
                go_simp
                refine hK.out _ _ (fun _ => ⟨ma67, mai7, maw7⟩) ?_
                clear hK K
                refine held.wpLeft.one (i := 18) (by kernel_rfl) rfl (fun K2 hK2 => ?_)
                refine step_append_lies _ (by rfl) _ _ _ (by rfl) w.heap.size 3 i0 _ 1 8 Tryd.underlying23 hi0 hzi0 hzi1 hzi2 rfl (by omega) wv7 (s'.W x).length ((s'.W x).map iv) (by rfl) ((HOw7.out.alloc _).drew) ⟨wr.heap.size, 0, none⟩ 1 1 [.int .i64 k] (by rfl) (by rfl) (World.news_of_block (cs := #[.int .i64 k]) (t := 3) (fr := (0, 0)) (heap_alloc_new wr _)) (by simp [Value.oneCell']) (by omega) (by unfold maxLen; omega) (by omega) (by simp; omega) (wr.heap.size + 1) (by simp) ?_
                intro g7 cap7 w7 hown7 hgrow7 hat7 hlt7
                have m67' : w7.cell? ⟨bp, 6, none⟩ = some (.slice (some ⟨gW, 0, none⟩) M capW) := hgrow7.cell ma67 (by intro e; exact nb17 e.symm)
                have mi7' : w7.cell? ⟨gi, 0, none⟩ = some (.int .i64 x) := hgrow7.cell mai7 (by intro e; exact nb37 e.symm)
                have mw7' : w7.cell? ⟨gW, x, none⟩ = some wv7 := hgrow7.cell maw7 (by intro e; exact nb27 e.symm)
                have zw7' : w7.frozen? ⟨gW, x, none⟩ = false := (World.frozen?_of_block (hgrow7.block gW (by simp; omega) (by intro e; exact nb27 e.symm))).trans maz7
                refine hK2.out _ _ (fun _ => ⟨m67', mi7', mw7'⟩) ?_
                clear hK2 K2
                refine held.wpLeft.one (i := 19) (by kernel_rfl) rfl (fun K4 hK4 => ?_)
                go_simp
                refine hK4.out _ _ (fun _ => ⟨m67', mi7', mw7'⟩) ?_
                clear hK4 K4
                refine held.wpLeft.one (i := 20) (by kernel_rfl) rfl (fun K3 hK3 => ?_)
                go_simp
                refine hK3.out _ _ (fun h => absurd rfl h) ?_
                clear hK3 K3
                refine held.wpLeft.done (by kernel_rfl) ?_
                obtain ⟨F8, hM8, hF8, hb8⟩ := mb_watch _ HM4.out (by rw [HMS.out]; exact HXM.out) (by rw [HMS.out]; exact HWv.out) HB4.out hown7 (by rw [Hwv7.out]; exact hgrow7) (by rw [Hwv7.out]; exact hat7)
                generalize World.setCell w7 ⟨gW, x, none⟩ (.slice (some ⟨g7, 0, none⟩) ((s'.W x).length + 1) cap7) = W8 at *
                generalize hs8 : ({ s' with W := updN s'.W x (s'.W x ++ [k]) } : PS) = s8 at *
                have HS8 := Lib.hid hs8
                have hI8 : (F8 (.row k)).v = .slice (some ⟨gi, 0, none⟩) L capI := by rw [hF8 _ (by simp)]; exact HI4.out
                have hrl8 : (s8.row k).length = L := by rw [← hs8]; exact HRL.out
                have hrx8 : (s8.row k).getD 1 0 = y := by rw [← hs8]; exact HRX1.out
                have hWv8 : (F8 .watches).v = .slice (some ⟨gW, 0, none⟩) M capW := by rw [hF8 _ (by simp)]; exact HWv.out
                have hsm8 : s8.m = M := by rw [← hs8]; exact HMS.out
                have hxM8 := HYM.out
                have hW8y : s8.W y = s.W y := by rw [← hs8]; dsimp only; rw [updN_other _ _ (fun e => hnxy e.symm), HW'.out]
                have hWL8 : (s8.W y).length ≤ 100001 := by rw [hW8y]; have := HWLy.out; omega
                have HM8 := Lib.hid hM8
                have hl8 := hM8.mem.obj.lt
                have m68 : W8.cell? ⟨bp, 6, none⟩ = some (.slice (some ⟨gW, 0, none⟩) M capW) := by have := hM8.mem.field.2.2.2.2.2.1; rw [hWv8] at this; exact this
                have mi8 : W8.cell? ⟨gi, 1, none⟩ = some (.int .i64 y) := by have := hM8.mem.own.cell hI8 1 (by rw [hM8.mem.row, List.length_map, hrl8]; omega); rw [hM8.mem.row, getD_iv (by rw [hrl8]; omega), hrx8] at this; exact this
                have mw8 : W8.cell? ⟨gW, y, none⟩ = some (F8 (.watch y)).v := by have := hM8.mem.own.cell hWv8 y (by rw [hM8.mem.watches, List.length_map, List.length_range, hsm8]; exact hxM8); rw [this, hM8.mem.watches]; simp [hsm8, hxM8]
                have zw8 : W8.frozen? ⟨gW, y, none⟩ = false := hM8.mem.own.frozen hWv8 y
                have how8 : W8.ownsRow w.heap.size 3 1 (F8 (.watch y)).v (s8.W y).length ((s8.W y).map iv) := hM8.mem.own.at (.watch y) (by rw [hM8.mem.te]; rfl) rfl (by simp) (hM8.mem.watch y)
                have nb18 : (F8 (.watch y)).v.ownBlock ≠ some bp := hM8.mem.ne (.watch y)
                have nb28 : (F8 (.watch y)).v.ownBlock ≠ some gW := fun e => by have := hM8.mem.own.2 (.watch y) .watches gW e (by rw [hWv8]; rfl); cases this
                have nb38 : (F8 (.watch y)).v.ownBlock ≠ some gi := fun e => by have := hM8.mem.own.2 (.watch y) (.row k) gi e (by rw [hI8]; rfl); cases this
                have hgWl8 : gW < W8.heap.size := ((hM8.mem.own.1 .watches).lt gW (by rw [hWv8]; rfl)).2
                have hgil8 : gi < W8.heap.size := ((hM8.mem.own.1 (.row k)).lt gi (by rw [hI8]; rfl)).2
                have hA8 : Below W8.heap.size W8 (W8.alloc (.cells #[.int .i64 k] 3)).drew := ((Below.refl _ _).alloc (Nat.le_refl _) _).drew
                have ma68 : (W8.alloc (.cells #[.int .i64 k] 3)).drew.cell? ⟨bp, 6, none⟩ = some (.slice (some ⟨gW, 0, none⟩) M capW) := (hA8.cell hl8).trans m68
                have mai8 : (W8.alloc (.cells #[.int .i64 k] 3)).drew.cell? ⟨gi, 1, none⟩ = some (.int .i64 y) := (hA8.cell hgil8).trans mi8
                have maw8 : (W8.alloc (.cells #[.int .i64 k] 3)).drew.cell? ⟨gW, y, none⟩ = some (F8 (.watch y)).v := (hA8.cell hgWl8).trans mw8
                have maz8 : (W8.alloc (.cells #[.int .i64 k] 3)).drew.frozen? ⟨gW, y, none⟩ = false := (hA8.frozen hgWl8).trans zw8
                have hwl8 : (s8.W y).length ≤ 100001 := hWL8
                have HOw8 := Lib.hid how8
                generalize hwv8 : (F8 (.watch y)).v = wv8 at *
                have Hwv8 := Lib.hid hwv8
                clear hwv8 how8 hA8 zw8
                have HF8 := Lib.hid hF8
                have HB8 := Lib.hid hb8
                have HWv8 := Lib.hid hWv8
                have HSM8 := Lib.hid hsm8
                have HW8y := Lib.hid hW8y
                clear hM8 hF8 hb8 hI8 hrl8 hrx8 hWv8 hsm8 hxM8 hW8y hWL8 hs8 hown7 hgrow7 hat7 m67' mi7' mw7' zw7' m67 mi7 mw7 ma67 mai7 maw7 maz7 hS7 f4 a1 za
                go_wp2
                refine held.region (fun w' => w'.cell? ⟨bp, 6, none⟩ = some (.slice (some ⟨gW, 0, none⟩) M capW) ∧ w'.cell? ⟨gi, 1, none⟩ = some (.int .i64 y) ∧ w'.cell? ⟨gW, y, none⟩ = some wv8) 20 (by kernel_rfl) ?_
                have hS8 : W8.drew.cell? ⟨bp, 6, none⟩ = some (.slice (some ⟨gW, 0, none⟩) M capW) ∧ W8.drew.cell? ⟨gi, 1, none⟩ = some (.int .i64 y) ∧ W8.drew.cell? ⟨gW, y, none⟩ = some wv8 := ⟨m68, mi8, mw8⟩
                refine held.wpLeft.take (i := 0) (v := ?_) rfl (by kernel_rfl) (by kernel_rfl) (by kernel_rfl) (by kernel_rfl) (by kernel_rfl) (fun _ _ _ h => h) (by rfl) ?_ hS8 ?_
                rotate_left
                · (intro w hSw; obtain ⟨s1, s2, s3⟩ := hSw; go_simp; try with_reducible rfl)
                simp only [Act.put, List.setIfInBounds_toArray, List.set_cons_zero, List.set_cons_succ]
                refine held.wpLeft.take (i := 1) (v := ?_) rfl (by kernel_rfl) (by kernel_rfl) (by kernel_rfl) (by kernel_rfl) (by kernel_rfl) (fun _ _ _ h => h) (by rfl) ?_ hS8 ?_
                rotate_left
                · (intro w hSw; obtain ⟨s1, s2, s3⟩ := hSw; go_simp; try with_reducible rfl)
                simp only [Act.put, List.setIfInBounds_toArray, List.set_cons_zero, List.set_cons_succ]
                refine held.wpLeft.take (i := 2) (v := ?_) rfl (by kernel_rfl) (by kernel_rfl) (by kernel_rfl) (by kernel_rfl) (by kernel_rfl) (fun _ _ _ h => h) (by rfl) ?_ hS8 ?_
                rotate_left
                · (intro w hSw; obtain ⟨s1, s2, s3⟩ := hSw; go_simp; try with_reducible rfl)
                simp only [Act.put, List.setIfInBounds_toArray, List.set_cons_zero, List.set_cons_succ]
                refine held.wpLeft.take (i := 3) (v := ?_) rfl (by kernel_rfl) (by kernel_rfl) (by kernel_rfl) (by kernel_rfl) (by kernel_rfl) (fun _ _ _ h => h) (by rfl) ?_ hS8 ?_
                rotate_left
                · (intro w hSw; obtain ⟨s1, s2, s3⟩ := hSw; go_simp; try with_reducible rfl)
                simp only [Act.put, List.setIfInBounds_toArray, List.set_cons_zero, List.set_cons_succ]
                refine held.wpLeft.take (i := 4) (v := ?_) rfl (by kernel_rfl) (by kernel_rfl) (by kernel_rfl) (by kernel_rfl) (by kernel_rfl) (fun _ _ _ h => h) (by rfl) ?_ hS8 ?_
                rotate_left
                · (intro w hSw; obtain ⟨s1, s2, s3⟩ := hSw; go_simp; try with_reducible rfl)
                simp only [Act.put, List.setIfInBounds_toArray, List.set_cons_zero, List.set_cons_succ]
                refine held.wpLeft.take (i := 5) (v := ?_) rfl (by kernel_rfl) (by kernel_rfl) (by kernel_rfl) (by kernel_rfl) (by kernel_rfl) (fun _ _ _ h => h) (by rfl) ?_ hS8 ?_
                rotate_left
                · (intro w hSw; obtain ⟨s1, s2, s3⟩ := hSw; go_simp; try with_reducible rfl)
                simp only [Act.put, List.setIfInBounds_toArray, List.set_cons_zero, List.set_cons_succ]
                refine held.wpLeft.take (i := 6) (v := ?_) rfl (by kernel_rfl) (by kernel_rfl) (by kernel_rfl) (by kernel_rfl) (by kernel_rfl) (fun _ _ _ h => h) (by rfl) ?_ hS8 ?_
                rotate_left
                · (intro w hSw; obtain ⟨s1, s2, s3⟩ := hSw; go_simp; try with_reducible rfl)
                simp only [Act.put, List.setIfInBounds_toArray, List.set_cons_zero, List.set_cons_succ]
                refine held.wpLeft.take (i := 7) (v := ?_) rfl (by kernel_rfl) (by kernel_rfl) (by kernel_rfl) (by kernel_rfl) (by kernel_rfl) (fun _ _ _ h => h) (by rfl) ?_ hS8 ?_
                rotate_left
                · (intro w hSw; obtain ⟨s1, s2, s3⟩ := hSw; go_simp; try with_reducible rfl)
                simp only [Act.put, List.setIfInBounds_toArray, List.set_cons_zero, List.set_cons_succ]
                refine held.wpLeft.take (i := 8) (v := ?_) rfl (by kernel_rfl) (by kernel_rfl) (by kernel_rfl) (by kernel_rfl) (by kernel_rfl) (fun _ _ _ h => h) (by rfl) ?_ hS8 ?_
                rotate_left
                · (intro w hSw; obtain ⟨s1, s2, s3⟩ := hSw; go_simp; try with_reducible rfl)
                simp only [Act.put, List.setIfInBounds_toArray, List.set_cons_zero, List.set_cons_succ]
                refine held.wpLeft.take (i := 9) (v := ?_) rfl (by kernel_rfl) (by kernel_rfl) (by kernel_rfl) (by kernel_rfl) (by kernel_rfl) (fun _ _ _ h => h) (by rfl) ?_ hS8 ?_
                rotate_left
                · (intro w hSw; obtain ⟨s1, s2, s3⟩ := hSw; go_simp; try with_reducible rfl)
                simp only [Act.put, List.setIfInBounds_toArray, List.set_cons_zero, List.set_cons_succ]
                refine held.wpLeft.take (i := 10) (v := ?_) rfl (by kernel_rfl) (by kernel_rfl) (by kernel_rfl) (by kernel_rfl) (by kernel_rfl) (fun _ _ _ h => h) (by rfl) ?_ hS8 ?_
                rotate_left
                · (intro w hSw; obtain ⟨s1, s2, s3⟩ := hSw; go_simp; try with_reducible rfl)
                simp only [Act.put, List.setIfInBounds_toArray, List.set_cons_zero, List.set_cons_succ]
                refine held.wpLeft.take (i := 11) (v := ?_) rfl (by kernel_rfl) (by kernel_rfl) (by kernel_rfl) (by kernel_rfl) (by kernel_rfl) (fun _ _ _ h => h) (by rfl) ?_ hS8 ?_
                rotate_left
                · (intro w hSw; obtain ⟨s1, s2, s3⟩ := hSw; go_simp; try with_reducible rfl)
                simp only [Act.put, List.setIfInBounds_toArray, List.set_cons_zero, List.set_cons_succ]
                refine held.wpLeft.take (i := 12) (v := ?_) rfl (by kernel_rfl) (by kernel_rfl) (by kernel_rfl) (by kernel_rfl) (by kernel_rfl) (fun _ _ _ h => h) (by rfl) ?_ hS8 ?_
                rotate_left
                · (intro w hSw; obtain ⟨s1, s2, s3⟩ := hSw; go_simp; try with_reducible rfl)
                simp only [Act.put, List.setIfInBounds_toArray, List.set_cons_zero, List.set_cons_succ]
                refine held.wpLeft.take (i := 13) (v := ?_) rfl (by kernel_rfl) (by kernel_rfl) (by kernel_rfl) (by kernel_rfl) (by kernel_rfl) (fun _ _ _ h => h) (by rfl) ?_ hS8 ?_
                rotate_left
                · (intro w hSw; obtain ⟨s1, s2, s3⟩ := hSw; go_simp; try with_reducible rfl)
                simp only [Act.put, List.setIfInBounds_toArray, List.set_cons_zero, List.set_cons_succ]
                refine held.wpLeft.take (i := 14) (v := ?_) rfl (by kernel_rfl) (by kernel_rfl) (by kernel_rfl) (by kernel_rfl) (by kernel_rfl) (fun _ _ _ h => h) (by rfl) ?_ hS8 ?_
                rotate_left
                · (intro w hSw; obtain ⟨s1, s2, s3⟩ := hSw; go_simp; try with_reducible rfl)
                simp only [Act.put, List.setIfInBounds_toArray, List.set_cons_zero, List.set_cons_succ]
                refine held.wpLeft.take (i := 15) (v := ?_) rfl (by kernel_rfl) (by kernel_rfl) (by kernel_rfl) (by kernel_rfl) (by kernel_rfl) (fun _ _ _ h => h) (by rfl) ?_ hS8 ?_
                rotate_left
                · (intro w hSw; obtain ⟨s1, s2, s3⟩ := hSw; go_simp; try with_reducible rfl)
                simp only [Act.put, List.setIfInBounds_toArray, List.set_cons_zero, List.set_cons_succ]
                refine held.wpLeft.take (i := 16) (v := ?_) rfl (by kernel_rfl) (by kernel_rfl) (by kernel_rfl) (by kernel_rfl) (by kernel_rfl) (fun _ _ _ h => h) (by rfl) ?_ hS8 ?_
                rotate_left
                · (intro w hSw; obtain ⟨s1, s2, s3⟩ := hSw; go_simp; try with_reducible rfl)
                simp only [Act.put, List.setIfInBounds_toArray, List.set_cons_zero, List.set_cons_succ]
                refine held.wpLeft.one (i := 17) (by kernel_rfl) rfl (fun K hK => ?_)
                go_simp
                refine hK.out _ _ (fun _ => ⟨ma68, mai8, maw8⟩) ?_
                clear hK K
                refine held.wpLeft.one (i := 18) (by kernel_rfl) rfl (fun K2 hK2 => ?_)
                refine step_append_lies _ (by rfl) _ _ _ (by rfl) w.heap.size 3 i0 _ 1 8 Tryd.underlying23 hi0 hzi0 hzi1 hzi2 rfl (by omega) wv8 (s8.W y).length ((s8.W y).map iv) (by rfl) ((HOw8.out.alloc _).drew) ⟨W8.heap.size, 0, none⟩ 1 1 [.int .i64 k] (by rfl) (by rfl) (World.news_of_block (cs := #[.int .i64 k]) (t := 3) (fr := (0, 0)) (heap_alloc_new W8 _)) (by simp [Value.oneCell']) (by omega) (by unfold maxLen; omega) (by omega) (by simp; omega) (W8.heap.size + 1) (by simp) ?_
                intro g8 cap8 w8 hown8 hgrow8 hat8 hlt8
                have m68' : w8.cell? ⟨bp, 6, none⟩ = some (.slice (some ⟨gW, 0, none⟩) M capW) := hgrow8.cell ma68 (by intro e; exact nb18 e.symm)
                have mi8' : w8.cell? ⟨gi, 1, none⟩ = some (.int .i64 y) := hgrow8.cell mai8 (by intro e; exact nb38 e.symm)
                have mw8' : w8.cell? ⟨gW, y, none⟩ = some wv8 := hgrow8.cell maw8 (by intro e; exact nb28 e.symm)
                have zw8' : w8.frozen? ⟨gW, y, none⟩ = false := (World.frozen?_of_block (hgrow8.block gW (by simp; omega) (by intro e; exact nb28 e.symm))).trans maz8
                refine hK2.out _ _ (fun _ => ⟨m68', mi8', mw8'⟩) ?_
                clear hK2 K2
                refine held.wpLeft.one (i := 19) (by kernel_rfl) rfl (fun K4 hK4 => ?_)
                go_simp
                refine hK4.out _ _ (fun _ => ⟨m68', mi8', mw8'⟩) ?_
                clear hK4 K4
                refine held.wpLeft.one (i := 20) (by kernel_rfl) rfl (fun K3 hK3 => ?_)
                go_simp
                refine hK3.out _ _ (fun h => absurd rfl h) ?_
                clear hK3 K3
                refine held.wpLeft.done (by kernel_rfl) ?_
                obtain ⟨F9, hM9, hF9, hb9⟩ := mb_watch _ HM8.out (by rw [HSM8.out]; exact HYM.out) (by rw [HSM8.out]; exact HWv8.out) HB8.out hown8 (by rw [Hwv8.out]; exact hgrow8) (by rw [Hwv8.out]; exact hat8)
                have HX := Lib.hid (r3_watch HP2.out HS'.out HS8.out (by rw [HL.out]; omega) HND.out (by rw [← HRW.out]; exact HRX0.out) (by rw [← HRW.out]; exact HRX1.out) hM9 ((hF9 _ (by simp)).trans ((HF8.out _ (by simp)).trans HFR.out)) hb9)
                clear hM9 hF9 hb9 hown8 hgrow8 hat8
                go_wp2
                go_roundw
                case rel => exact ⟨k + 1, by omega, by go_num, HX.out⟩
                case measure => simp [intOf]; omega
        · obtain rfl : k = done.length := by omega
          have HN : Hid (NewP w.heap.size (.slice al log.length capl) cl log w (.returned (.pointer (some ⟨bp, 0, none⟩))) wr) := Lib.hid (by
            refine ⟨bp, (F .always).v, F, s, nv, rfl, hMB.mem, HNV.out, ?_, ?_, fun j hj => hP2.on j (by rw [hP2.n] at hj; exact hj), hP2.trail, by have := hP2.shl; omega, hb⟩
            · rw [HDN.out]; exact hP2.good (fun c hc x hx => by have := HG1.out.2 c hc x hx; omega) (by omega)
            · rw [hP2.n, ← HDN.out, List.length_append])
          clear hMB hP2 hb hvr
          go_wp2
          go_ret
          exact HN.out
end Go.Proofs.YtojjjndhabjhdaaDoor.proofL
