/-
  Contract of the reference's Propagate.
  Contracts of the reference's Plain and Bad, and of proof.Refutes.
  A row beside the prover's; contract of proof.Refutes.
  The law ProofChecks.
-/
import Derived.Test.YtojjjndhabjhdaaDoorFpM
namespace Go.Proofs.YtojjjndhabjhdaaDoor.proofV
open Go.ChangeShapes Go.WideShapes Go.ChangeAt Go.RowKit proofP proofQ proofR owns proofA proofI proofM proofN proofO proofS proofT cls
set_option linter.unusedSimpArgs false
set_option linter.unusedVariables false

def PropP (cl : List (List Int)) (fr : List Int) (w : World) (e : Ending) (w' : World) : Prop :=
  (Clash cl fr ∧ e = .returned (.tuple #[.slice none 0 0, .bool false]) ∧ Below w.heap.size w w') ∨ (¬ Clash cl fr ∧ ∃ ad n cp, e = .returned (.tuple #[.slice (some ad) n cp, .bool true]) ∧ Below w.heap.size w w')
def slen : Value → Nat
  | .slice _ n _ => n
  | _ => 0
def isT : Value → Nat
  | .bool true => 1
  | _ => 0
def FSa (fr set : List Int) : Prop := ∀ l ∈ fr, lit l → l ∈ set
theorem FSa.put {fr set : List Int} (h : FSa fr set) (x : Int) : FSa fr (put set x) := fun l hl hx => (mem_put _ _ _).2 (.inl (h l hl hx))
def FSk (fr set : List Int) (k : Nat) : Prop := ∀ j, j < k → lit (fr.getD j 0) → fr.getD j 0 ∈ set
theorem FSk.zero (fr set : List Int) : FSk fr set 0 := fun j hj => absurd hj (Nat.not_lt_zero _)
theorem FSk.skip {fr set : List Int} {k : Nat} (h : FSk fr set k) (hx : ¬ lit (fr.getD k 0)) : FSk fr set (k + 1) := fun j hj hl => by
  by_cases e : j = k
  · subst e; exact absurd hl hx
  · exact h j (by omega) hl
theorem FSk.more {fr set : List Int} {k : Nat} (h : FSk fr set k) : FSk fr (put set (fr.getD k 0)) (k + 1) := fun j hj hl => by
  by_cases e : j = k
  · subst e; exact (mem_put _ _ _).2 (.inr rfl)
  · exact (mem_put _ _ _).2 (.inl (h j (by omega) hl))
theorem FSk.all {fr set : List Int} (h : FSk fr set fr.length) : FSa fr set := fun l hl hx => by
  obtain ⟨j, hj, he⟩ := List.mem_iff_getElem.1 hl
  have := h j hj
  rw [List.getD_eq_getElem?_getD, List.getElem?_eq_getElem hj, Option.getD_some, he] at this
  exact this hx
/-- what a round over the clauses has shown -/
def Rd (cl : List (List Int)) (s0 set : List Int) (b : Bool) (k : Nat) : Prop := (b = false → set = s0 ∧ ∀ j, j < k → ClosedC s0 (cl.getD j [])) ∧ (b = true → s0.length + 1 ≤ set.length)
theorem Rd.zero (cl : List (List Int)) (s : List Int) : Rd cl s s false 0 := ⟨fun _ => ⟨rfl, fun j hj => absurd hj (Nat.not_lt_zero _)⟩, fun h => by cases h⟩
theorem Rd.step {cl : List (List Int)} {s0 set : List Int} {b : Bool} {k : Nat} (h : Rd cl s0 set b k) (hc : ClosedC set (cl.getD k [])) : Rd cl s0 set b (k + 1) := by
  refine ⟨fun hb => ?_, h.2⟩
  obtain ⟨h1, h2⟩ := h.1 hb
  subst h1
  refine ⟨rfl, fun j hj => ?_⟩
  by_cases e : j = k
  · subst e; exact hc
  · exact h2 j (by omega)
theorem Rd.put {cl : List (List Int)} {s0 set s' : List Int} {b : Bool} {k k' : Nat} (h : Rd cl s0 set b k) (hs : s'.length = set.length + 1) : Rd cl s0 s' true k' := by
  refine ⟨fun hb => Bool.noConfusion hb, fun _ => ?_⟩
  cases b
  · obtain ⟨h1, _⟩ := h.1 rfl
    subst h1; omega
  · have := h.2 rfl; omega
theorem Rd.all {cl : List (List Int)} {s0 set : List Int} {b : Bool} (h : Rd cl s0 set b cl.length) : b = false → ∀ c ∈ cl, ClosedC set c := fun hb c hc => by
  obtain ⟨h1, h2⟩ := h.1 hb
  subst h1
  obtain ⟨j, hj, he⟩ := List.mem_iff_getElem.1 hc
  have := h2 j hj
  rw [List.getD_eq_getElem?_getD, List.getElem?_eq_getElem hj, Option.getD_some, he] at this
  exact this
theorem take_snoc {c : List Int} {j : Nat} (h : j < c.length) : c.take (j + 1) = c.take j ++ [c.getD j 0] := by
  rw [List.take_succ_eq_append_getElem h, List.getD_eq_getElem?_getD, List.getElem?_eq_getElem h]; rfl
/-- the loop over one clause: what is left of it so far, whether a literal is set -/
def R4 (set c : List Int) (w0 : World) (lv dn it : Value) (wr : World) : Prop := ∃ (j n cp : Nat) (ad : Addr) (d : Bool), j ≤ c.length ∧ it = .int .i64 j ∧ lv = .slice (some ad) n cp ∧ IntsC wr wr.heap.size (.slice (some ad) n cp) (lefts set (c.take j)) ∧ dn = .bool d ∧ Hid (isDone set (c.take j) = d) ∧ Below w0.heap.size w0 wr
def R3 (cl : List (List Int)) (fr s0 : List Int) (w : World) (sv ch it : Value) (wr : World) : Prop := ∃ (k n cp : Nat) (ad : Addr) (b : Bool) (set : List Int), k ≤ cl.length ∧ it = .int .i64 k ∧ ch = .bool b ∧ sv = .slice (some ad) n cp ∧ IntsC wr wr.heap.size (.slice (some ad) n cp) set ∧ RI cl fr set ∧ Hid (FSa fr set) ∧ Hid (Rd cl s0 set b k) ∧ Below w.heap.size w wr
def R2 (cl : List (List Int)) (fr : List Int) (w : World) (sv ch : Value) (wr : World) : Prop := ∃ (n cp : Nat) (ad : Addr) (b : Bool) (set : List Int), ch = .bool b ∧ sv = .slice (some ad) n cp ∧ IntsC wr wr.heap.size (.slice (some ad) n cp) set ∧ RI cl fr set ∧ Hid (FSa fr set) ∧ Hid (b = false → ∀ c ∈ cl, ClosedC set c) ∧ Below w.heap.size w wr ∧ n = set.length
def R1 (cl : List (List Int)) (fr : List Int) (w : World) (sv it : Value) (wr : World) : Prop := ∃ (k n cp : Nat) (ad : Addr) (set : List Int), k ≤ fr.length ∧ it = .int .i64 k ∧ sv = .slice (some ad) n cp ∧ IntsC wr wr.heap.size (.slice (some ad) n cp) set ∧ RI cl fr set ∧ Hid (FSk fr set k) ∧ Below w.heap.size w wr
theorem _root_.Go.Proofs.YtojjjndhabjhdaaDoor.proofT.IntsC.n {w : World} {B n cp : Nat} {ad : Addr} {l : List Int} (h : IntsC w B (.slice (some ad) n cp) l) : n = l.length := by
  obtain ⟨b, off, cap, hv, _⟩ := h; cases hv; rfl

end Go.Proofs.YtojjjndhabjhdaaDoor.proofV
namespace Go.Proofs.YtojjjndhabjhdaaDoor.proofW
open Go.ChangeShapes Go.WideShapes Go.ChangeAt Go.RowKit proofP proofQ proofR owns proofA proofI proofM proofN proofO proofS proofT proofU proofV cls
set_option linter.unusedSimpArgs false
set_option linter.unusedVariables false

/-- the opposite, as the machine reckons it -/
def ng (x : Int) : Int := if x = -9223372036854775808 then x else -x
theorem ng_in {x : Int} (h : In64 x) : In64 (ng x) := by unfold ng In64 at *; split <;> omega
theorem ng_wrap {x : Int} (h : In64 x) : IntKind.i64.wrap (-x) = ng x := by
  unfold ng
  split
  · rename_i e; subst e; rfl
  · exact IntWalk.i64_in _ (by unfold In64 at h; omega)
theorem ng_lit {x : Int} (h : lit x) : ng x = -x := by unfold ng lit at *; rw [if_neg (by omega)]
theorem map_snoc {c : List Int} {j : Nat} (h : j < c.length) : (c.take (j + 1)).map ng = (c.take j).map ng ++ [ng (c.getD j 0)] := by rw [take_snoc h]; simp
theorem map_in {c : List Int} (h : ∀ x ∈ c, In64 x) : ∀ x ∈ c.map ng, In64 x := fun x hx => by
  obtain ⟨y, hy, rfl⟩ := List.mem_map.1 hx; exact ng_in (h y hy)
theorem row_below {w w' : World} {B : Nat} {e : TypeId} {v : Value} {n : Nat} {xs : List Value} (h : w.ownsRow B e 1 v n xs) (hb : Below w.heap.size w w') : w'.ownsRow B e 1 v n xs :=
  h.kept (row := none) ⟨hb.os, hb.tape, hb.output, hb.size, fun k hk _ => hb.block k hk⟩ (Classical.em _)
theorem _root_.Go.Proofs.YtojjjndhabjhdaaDoor.proofU.ClsR.below {w w' : World} {B0 base : Nat} {v : Value} {cl : List (List Int)} (h : ClsR w B0 base v cl) (hb : Below w.heap.size w w') (hB : B0 ≤ w.heap.size) : ClsR w' B0 base v cl := by
  obtain ⟨vl, h1, h2⟩ := h
  exact ⟨vl, row_below h1 hb, fun i hi => (h2 i hi).keep (hb.mono hB)⟩

/-- a slice of clauses, wherever it lies -/
def ClsX (w : World) (B0 : Nat) (v : Value) (cl : List (List Int)) : Prop := ∃ ao cap b off, ∃ vs : Nat → Value, v = .slice ao cl.length cap ∧ (cl ≠ [] → ao = some ⟨b, off, none⟩) ∧ (∀ i, i < cl.length → w.cell? ⟨b, off + i, none⟩ = some (vs i)) ∧ ∀ i, i < cl.length → IntsAt w B0 (vs i) (cl.getD i [])
section
variable (w : World)
end
end Go.Proofs.YtojjjndhabjhdaaDoor.proofW
namespace Go.Proofs.YtojjjndhabjhdaaDoor.proofX
open Go.ChangeShapes Go.WideShapes Go.ChangeAt Go.RowKit proofP proofQ proofR owns proofA proofC proofG proofI proofJ proofM proofN proofO proofS proofT proofU proofV proofW cls
set_option linter.unusedSimpArgs false
set_option linter.unusedVariables false

/-- a new row is taken beside the prover's -/
theorem mem_adopt {w w' : World} {B bp : Nat} {lv va : Value} {first nv : Nat} {s : PS} {F : Ix → Ent} (h : Mem w B bp lv va first nv s F) (hb : Below w.heap.size w w') {x : Ent} (hr : w'.ownsRow w.heap.size x.e 1 x.v x.xs.length x.xs) :
    Mem w' B bp lv va first nv { s with extra := x } (upd F .extra x) := by
  have hlt := h.obj.lt
  have hBw : B ≤ w.heap.size := by have := h.hB; omega
  have O1 := h.own.step .extra x (grown_below hb _) (own_mono hr hBw) (by
    cases hv : x.v.ownBlock with
    | none => exact .inr (.inl rfl)
    | some b => exact .inr (.inr ⟨b, rfl, (hr.lt b hv).1⟩))
  refine ⟨O1, ?_, ⟨h.hB, upd_same _ _ _⟩, fun k => ?_, fun k => ?_, ?_, ?_, ?_, ?_, ?_, ?_, fun i => ?_, fun c => ?_⟩
  · have := h.obj.below hb h.obj.lt
    simpa [upd] using this
  · by_cases e : k = .extra
    · subst e; rw [upd_same]; intro e; have := (hr.lt _ e).1; omega
    · rw [upd_other _ _ e]; exact h.ne k
  · by_cases e : k = .extra
    · subst e; rw [upd_same]; rfl
    · rw [upd_other _ _ e]; cases k <;> first | exact absurd rfl e | exact h.te _
  · simp [upd, h.on]
  · simp [upd, h.short]
  · simp [upd, h.rows]
  · simp [upd, h.watches]
  · simp [upd, h.value]
  · simp [upd, h.trail]
  · simp [upd, h.row]
  · simp [upd, h.watch]
/-- a cell of that row is written -/
theorem mem_setExtra {w : World} {B bp : Nat} {lv va : Value} {first nv : Nat} {s : PS} {F : Ix → Ent} (h : Mem w B bp lv va first nv s F) {g n cap : Nat} (hv : s.extra.v = .slice (some ⟨g, 0, none⟩) n cap) (j : Nat) (u : Value) :
    Mem (w.setCell ⟨g, j, none⟩ u) B bp lv va first nv { s with extra := ⟨s.extra.e, s.extra.v, s.extra.xs.set j u⟩ } (upd F .extra ⟨(F .extra).e, (F .extra).v, (F .extra).xs.set j u⟩) := by
  have he := h.hx.2
  obtain ⟨O1, G1⟩ := h.own.set (k := .extra) (by rw [he]; exact hv) j u
  have hg : g ≠ bp := fun e => h.ne .extra (by rw [he, hv, e]; rfl)
  refine ⟨O1, ?_, ⟨h.hB, ?_⟩, fun k => ?_, fun k => ?_, ?_, ?_, ?_, ?_, ?_, ?_, fun i => ?_, fun c => ?_⟩
  · have := h.obj.kept G1 (by intro e; cases e; exact hg rfl)
    simpa [upd] using this
  · rw [upd_same, he]
  · by_cases e : k = .extra
    · subst e; rw [upd_same]; exact h.ne _
    · rw [upd_other _ _ e]; exact h.ne k
  · by_cases e : k = .extra
    · subst e; rw [upd_same]; exact h.te _
    · rw [upd_other _ _ e]; exact h.te k
  · simp [upd, h.on]
  · simp [upd, h.short]
  · simp [upd, h.rows]
  · simp [upd, h.watches]
  · simp [upd, h.value]
  · simp [upd, h.trail]
  · simp [upd, h.row]
  · simp [upd, h.watch]

theorem pv_adopt {w w' : World} {x y : Ent} {W0 bp : Nat} {lv : Value} {cl log : List (List Int)} {f : Nat → Bool} (h : PVx y w W0 bp lv cl log f) (hb : Below w.heap.size w w') (hr : w'.ownsRow w.heap.size x.e 1 x.v x.xs.length x.xs) : PVx x w' W0 bp lv cl log f := by
  obtain ⟨va, F, s, nv, ⟨hM, hx⟩, hnv, hG, hsn, hon, ht, hsh⟩ := h
  exact ⟨va, _, _, nv, ⟨mem_adopt hM hb hr, rfl⟩, hnv, ⟨hG.si, hG.ro, hG.ti, hG.hm, hG.sh, hG.hn⟩, hsn, hon, ht, hsh⟩
theorem pv_setExtra {w : World} {e : TypeId} {v : Value} {xs : List Value} {W0 bp : Nat} {lv : Value} {cl log : List (List Int)} {f : Nat → Bool} (h : PVx ⟨e, v, xs⟩ w W0 bp lv cl log f) {g n cap : Nat} (hv : v = .slice (some ⟨g, 0, none⟩) n cap) (j : Nat) (u : Value) : PVx ⟨e, v, xs.set j u⟩ (w.setCell ⟨g, j, none⟩ u) W0 bp lv cl log f := by
  obtain ⟨va, F, s, nv, ⟨hM, hx⟩, hnv, hG, hsn, hon, ht, hsh⟩ := h
  have hM' := mem_setExtra hM (by rw [hx]; exact hv) j u
  exact ⟨va, _, _, nv, ⟨hM', by rw [hx]⟩, hnv, ⟨hG.si, hG.ro, hG.ti, hG.hm, hG.sh, hG.hn⟩, hsn, hon, ht, hsh⟩
theorem pv_extra {w : World} {e : TypeId} {v : Value} {xs : List Value} {W0 bp : Nat} {lv : Value} {cl log : List (List Int)} {f : Nat → Bool} (h : PVx ⟨e, v, xs⟩ w W0 bp lv cl log f) {g n cap : Nat} (hv : v = .slice (some ⟨g, 0, none⟩) n cap) :
    W0 ≤ g ∧ g < w.heap.size ∧ g ≠ bp ∧ (∀ j, j < xs.length → w.cell? ⟨g, j, none⟩ = xs[j]?) ∧ ∀ j, w.frozen? ⟨g, j, none⟩ = false := by
  obtain ⟨va, F, s, nv, ⟨hM, hx⟩, hnv, hG, hsn, hon, ht, hsh⟩ := h
  have he := hM.hx.2.trans hx
  have hv' : (F .extra).v = .slice (some ⟨g, 0, none⟩) n cap := by rw [he]; exact hv
  have h1 := (hM.own.1 .extra).lt g (by rw [hv']; rfl)
  refine ⟨h1.1, h1.2, fun e => hM.ne .extra (by rw [hv', e]; rfl), fun j hj => ?_, fun j => hM.own.frozen hv' j⟩
  have := hM.own.cell hv' j (by rw [he]; exact hj)
  rw [he] at this; exact this
theorem ex_row {w : World} {B : Nat} {e : TypeId} {v : Value} {l : List Int} (h : w.ownsRow B e 1 v l.length (l.map (Value.int .i64))) (hs : ∀ x ∈ l, In64 x) (B0 : Nat) : IntsEx w B0 ⟨e, v, l.map (Value.int .i64)⟩ v l := by
  rcases h.2 with ⟨rfl, h0⟩ | ⟨g, cap, cur, rfl, hb, hg, hn, hm, hc, ht⟩
  · obtain rfl : l = [] := List.length_eq_zero_iff.1 h0
    exact ⟨none, 0, 0, 0, rfl, Nat.zero_le _, fun h => absurd rfl h, fun i hi => absurd hi (Nat.not_lt_zero _), by simp⟩
  · refine ⟨_, cap, g, 0, rfl, by omega, fun _ => ⟨rfl, .inr ⟨rfl, rfl, rfl⟩⟩, fun i hi => ?_, hs⟩
    have := World.ownsRow.cellAt h i (by omega)
    rw [Nat.zero_add, this, List.getElem?_map, List.getElem?_eq_getElem hi, List.getD_eq_getElem?_getD, List.getElem?_eq_getElem hi]; rfl
theorem pl_all (cl log : List (List Int)) (c : List Int) : pl (sel (cl ++ log) fun _ => true) c = pl (cl ++ log) c := pl_same _ fun x => by
  rw [mem_sel, List.mem_iff_getElem]
  constructor
  · rintro ⟨i, hi, _, h⟩
    exact ⟨i, hi, by rw [List.getD_eq_getElem?_getD, List.getElem?_eq_getElem hi] at h; exact h⟩
  · rintro ⟨i, hi, h⟩
    exact ⟨i, hi, rfl, by rw [List.getD_eq_getElem?_getD, List.getElem?_eq_getElem hi]; exact h⟩

noncomputable def refutes (cl log : List (List Int)) (core : List Int) : Bool := decide (bad cl log < 0) && pl (cl ++ log) (core.map ng)

set_option maxRecDepth 100000 in
set_option maxHeartbeats 4000000 in
theorem Refutes_any (w : World) (B0 : Nat) (cv lv kv : Value) (cl log : List (List Int)) (core : List Int) (hc : ClsAt w B0 cv cl) (hl : ClsAt w B0 lv log) (hk : IntsAt w B0 kv core) (hB0 : B0 ≤ w.heap.size) (h1 : cl.length ≤ 40000) (h2 : log.length ≤ 40000) (hs1 : ∀ c ∈ cl, c.length ≤ 100000) (hs2 : ∀ c ∈ log, c.length ≤ 100000) (hcl : core.length ≤ 100000) :
    Calls Tryd.prog 19 #[cv, lv, kv] w fun e w' => e = .returned (.bool (refutes cl log core)) ∧ Below w.heap.size w w' := by
  have HN := Lib.hid (new_pv w B0 cv lv cl log hc hl hB0 h1 h2 hs1 hs2)
  have HL := Lib.hid hl
  have HS2 := Lib.hid hs2
  have HK := Lib.hid hk
  obtain ⟨ac, capc, bc, offc, vsc, rfl, _, _, _, _⟩ := hc
  obtain ⟨al, capl, bl, offl, vsl, rfl, _, _, _, _⟩ := hl
  obtain ⟨av, capv, bv, offv, rfl, hvm, hva, hvc, hv64⟩ := hk
  have HVA := Lib.hid hva
  have HVC := Lib.hid hvc
  have H64 := Lib.hid hv64
  have HRF : Hid (refutes cl log core = (decide (bad cl log < 0) && pl (cl ++ log) (core.map ng))) := Lib.hid rfl
  clear hs1 hs2 hva hvc hv64 hvm
  obtain ⟨i0, hi, hz0, hz1, hz2⟩ := info_parts proofA.infoI
  go_enter Tryd.func19, Tryd.ntmps19
  go_wp2_with fail
  refine HN.out.mono ?_
  rintro e w1 ⟨bp, x, rfl, hbp, hpv, hb⟩
  have HC := Lib.hid (check_pv x w1 w.heap.size bp _ cl log hpv ((HL.out.mono hB0).keep hb) h1 h2 HS2.out)
  have HB := Lib.hid hb
  have HBC := Lib.hid (bad_cases cl log)
  clear hpv hb HN
  go_wp2_with fail
  refine HC.out.mono ?_
  rintro e w2 ⟨rfl, hpv2, hb2⟩
  have HB2 := Lib.hid (HB.out.trans hb2)
  have HPV := Lib.hid hpv2
  clear hb2 HC hpv2
  generalize hbad : bad cl log = bd at *
  clear hbad
  rcases HBC.out with ⟨rfl, _⟩ | ⟨i, hi1, rfl, _, _⟩
  rotate_left
  · have HE : Hid (refutes cl log core = false) := Lib.hid (by rw [HRF.out, decide_eq_false (by omega)]; rfl)
    clear HBC HRF HPV
    have hge : (0 : Int) ≤ (i : Int) := by omega
    go_wp2
    go_ret
    exact ⟨by rw [HE.out]; rfl, HB2.out⟩
  have HP2 := Lib.hid (HPV.out rfl)
  have HE : Hid (refutes cl log core = pl (cl ++ log) (core.map ng)) := Lib.hid (by rw [HRF.out, decide_eq_true (by omega)]; rfl)
  clear HBC HRF HPV
  have hs2 := HB2.out.size
  go_wp2_with (at_make; refine wpList_make_own _ rfl _ _ 41 rfl w2.heap.size 3 i0 (.int .i64 0) 1 Tryd.underlying41 hi hz0 hz1 .i64 .i64 _ core.length rfl rfl rfl ?c1 ?c2 ?c3 ?_)
  case c1 => rw [hz2]; omega
  case c2 => unfold maxLen; omega
  case c3 => exact Nat.le_refl _
  intro w3 hown hgrow
  have HR3 : Hid (IntsR w3 w2.heap.size (.slice (some ⟨w2.heap.size, 0, none⟩) 0 core.length) ((core.take 0).map ng)) := Lib.hid (by simpa [IntsR] using hown)
  have HB3 := Lib.hid (below_grown hgrow (Nat.le_refl w2.heap.size) (by intro k hk; cases hk))
  clear hown hgrow
  go_wp2
  go_loopw [8, 22] (fun ov it wr => ∃ (k n cp : Nat) (ao : Option Addr), k ≤ core.length ∧ it = .int .i64 k ∧ ov = .slice ao n cp ∧ IntsR wr w2.heap.size (.slice ao n cp) ((core.take k).map ng) ∧ Below w2.heap.size w2 wr) (fun _ it _ => core.length - (intOf it).toNat)
  case atStart => exact ⟨0, _, _, _, Nat.zero_le _, rfl, rfl, HR3.out, HB3.out⟩
  case round =>
    clear HR3 HB3
    obtain ⟨k, n, cp, ao, hk, rfl, rfl, hr, hb⟩ := hrel
    have HR := Lib.hid hr
    have HB := Lib.hid hb
    have hws := hb.size
    by_cases hlt : k < core.length
    · obtain ⟨rfl, hbB⟩ := HVA.out (by intro h0; rw [h0] at hlt; simp at hlt)
      have q : wr.cell? ⟨bv, offv + k, none⟩ = some (.int .i64 (core.getD k 0)) := by
        rw [(HB2.out.trans (hb.mono hs2)).cell (show (⟨bv, offv + k, none⟩ : Addr).block < w.heap.size from by show bv < _; omega)]; exact HVC.out k hlt
      have hi64 := H64.out _ (getD_mem (d := 0) hlt)
      have HSN := Lib.hid (map_snoc hlt)
      have HXN := Lib.hid (ints_new wr (ng (core.getD k 0)) (ng_in hi64))
      have hwp := ng_wrap hi64
      have HRA := Lib.hid (HR.out.alloc (.cells #[.int .i64 (ng (core.getD k 0))] 3))
      have HS2 : Hid (w2.heap.size ≤ (wr.alloc (.cells #[.int .i64 (ng (core.getD k 0))] 3)).heap.size) := Lib.hid (by simp; omega)
      have HBA := Lib.hid (HB.out.alloc hws (.cells #[.int .i64 (ng (core.getD k 0))] 3))
      have HL0 : Hid (((core.take k).map ng).length ≤ 1000000) := Lib.hid (by simp; omega)
      have HL1 : Hid ([ng (core.getD k 0)].length ≤ 1000000) := Lib.hid (by simp)
      generalize core.getD k 0 = x at *
      generalize ng x = y at *
      obtain ⟨i1, i2⟩ := hi64
      clear hr hb
      go_wp2_with (at_builtin; refine wpList_append_ints _ rfl (.tmp 26) (.tmp 29) 41 rfl Tryd.underlying41 w2.heap.size (.slice ao n cp) (.slice (some ⟨wr.heap.size, 0, none⟩) 1 1) ((core.take k).map ng) [y] rfl HRA.out rfl HXN.out (Nilv.some _ _ _) HL0.out HL1.out HS2.out ?_)
      intro a1 n1 c1 w4 ho1 hb1 hn1
      have HO1 : Hid (IntsR w4 w2.heap.size (.slice a1 n1 c1) ((core.take (k + 1)).map ng)) := Lib.hid (by rw [HSN.out, List.map_take]; exact ho1)
      have HB1 := Lib.hid (HBA.out.trans hb1)
      clear ho1 hb1
      go_wp2
      go_roundw
      case rel => exact ⟨k + 1, _, _, _, by omega, by go_num, rfl, HO1.out, HB1.out⟩
      case measure => simp [intOf]; omega
    · obtain rfl : k = core.length := by omega
      rw [List.take_length] at hr
      have hr' : wr.ownsRow w2.heap.size 3 1 (.slice ao n cp) (core.map ng).length ((core.map ng).map (Value.int .i64)) := hr
      have hpv := pv_adopt (x := ⟨3, .slice ao n cp, (core.map ng).map (Value.int .i64)⟩) HP2.out hb (by simpa using hr')
      have HPL := Lib.hid (plain_pv _ wr w.heap.size bp _ (.slice ao n cp) cl log _ (core.map ng) hpv (ex_row hr' (map_in H64.out) _) (by simpa using hcl))
      rw [pl_all, ← HE.out] at HPL
      have HBF := Lib.hid (HB2.out.trans (hb.mono hs2))
      clear hr hb hr' hpv HP2
      go_wp2_with fail
      refine HPL.out.mono ?_
      rintro e w4 ⟨rfl, _, hb4⟩
      have HB4 := Lib.hid (HBF.out.trans hb4)
      clear hb4 HPL
      go_wp2
      go_ret
      exact ⟨rfl, HB4.out⟩
end Go.Proofs.YtojjjndhabjhdaaDoor.proofX
namespace Go.Proofs.YtojjjndhabjhdaaDoor.proofY
open Go.ChangeShapes Go.WideShapes Go.ChangeAt Go.RowKit proofP proofQ proofR owns proofA proofC proofG proofI proofJ proofM proofN proofO proofS proofT proofU proofV proofW proofX cls
set_option linter.unusedSimpArgs false
set_option linter.unusedVariables false

end Go.Proofs.YtojjjndhabjhdaaDoor.proofY
