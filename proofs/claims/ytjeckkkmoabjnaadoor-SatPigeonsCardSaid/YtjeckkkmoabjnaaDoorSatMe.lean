/-
  The law's alive.
-/
import Derived.Test.YtjeckkkmoabjnaaDoorSatMd
import Derived.Test.YtjeckkkmoabjnaaDoorSpM
namespace Go.Proofs.YtjeckkkmoabjnaaDoor.satMe
set_option linter.unusedSimpArgs false
set_option linter.unusedVariables false
open Go.ChangeShapes Go.WideShapes Go.ChangeAt Go.RowKit proofP proofQ proofR owns cls satP satA satX satCa satCe satCf satSe proofN proofO proofS proofT proofU proofV proofW satLg satLh satMa satMb satMc satMd satPg satPh
attribute [local go_sem ↓] Go.wp_at_zero Go.wp_at_succ

theorem own_whole {w : World} {b B : Nat} {t : TypeId} {xs : List Value} (h : Whole w b t xs) (hB : B ≤ b) (hn : xs.length ≤ maxLen) : w.ownsRow B t 1 (.slice (some ⟨b, 0, none⟩) xs.length xs.length) xs.length xs :=
  ⟨by simp, .inr ⟨b, xs.length, xs.toArray, rfl, hB, h, Nat.le_refl _, hn, by simp, by simp⟩⟩
def p1 : Obj := .cells #[.int .i64 1, .int .i64 2] 3
def p2 : Obj := .cells #[.int .i64 (-1), .int .i64 2] 3
def p3 : Obj := .cells #[.int .i64 1, .int .i64 (-2)] 3
def p4 (n : Nat) : Obj := .cells #[.slice (some ⟨n, 0, none⟩) 2 2, .slice (some ⟨n + 1, 0, none⟩) 2 2, .slice (some ⟨n + 2, 0, none⟩) 2 2] 38
theorem block_in {w : World} {b : Nat} {bad : Nat → Prop} {t : TypeId} {x y : Int} (h : Whole w b t ([x, y].map (Value.int .i64))) (hb : ¬ bad b) (hx : In64 x) (hy : In64 y) : IntsIn w bad (.slice (some ⟨b, 0, none⟩) 2 2) [x, y] := by
  refine ⟨_, 2, b, 0, rfl, by unfold maxLen; simp, fun _ => ⟨rfl, h.lt, hb⟩, fun i hi => ?_, fun z hz => ?_⟩
  · rw [Nat.zero_add, h.cell i, List.getElem?_map, List.getElem?_eq_getElem hi, List.getD_eq_getElem?_getD, List.getElem?_eq_getElem hi]; rfl
  · simp only [List.mem_cons, List.not_mem_nil, or_false] at hz
    rcases hz with rfl | rfl
    · exact hx
    · exact hy
theorem world4 (w : World) : Pg ((((w.alloc p1).alloc p2).alloc p3).alloc (p4 w.heap.size)) w.heap.size (.slice (some ⟨w.heap.size + 3, 0, none⟩) 3 3) c3 (.slice none 0 0) [] := by
  have s1 : (w.alloc p1).heap.size = w.heap.size + 1 := by simp
  have s2 : ((w.alloc p1).alloc p2).heap.size = w.heap.size + 2 := by simp
  have s3 : (((w.alloc p1).alloc p2).alloc p3).heap.size = w.heap.size + 3 := by simp
  have a1 := (((Whole.new w 3 ([1, 2].map (Value.int .i64))).below ((Below.refl _ _).alloc (Nat.le_refl _) p2) (by show w.heap.size < (w.alloc p1).heap.size; omega)).below ((Below.refl _ _).alloc (Nat.le_refl _) p3) (by show w.heap.size < ((w.alloc p1).alloc p2).heap.size; omega)).below ((Below.refl _ _).alloc (Nat.le_refl _) (p4 w.heap.size)) (by show w.heap.size < (((w.alloc p1).alloc p2).alloc p3).heap.size; omega)
  have a2 := ((Whole.new (w.alloc p1) 3 ([-1, 2].map (Value.int .i64))).below ((Below.refl _ _).alloc (Nat.le_refl _) p3) (by show (w.alloc p1).heap.size < ((w.alloc p1).alloc p2).heap.size; omega)).below ((Below.refl _ _).alloc (Nat.le_refl _) (p4 w.heap.size)) (by show (w.alloc p1).heap.size < (((w.alloc p1).alloc p2).alloc p3).heap.size; omega)
  have a3 := (Whole.new ((w.alloc p1).alloc p2) 3 ([1, -2].map (Value.int .i64))).below ((Below.refl _ _).alloc (Nat.le_refl _) (p4 w.heap.size)) (by show ((w.alloc p1).alloc p2).heap.size < (((w.alloc p1).alloc p2).alloc p3).heap.size; omega)
  have a4 := Whole.new (((w.alloc p1).alloc p2).alloc p3) 38 [.slice (some ⟨w.heap.size, 0, none⟩) 2 2, .slice (some ⟨w.heap.size + 1, 0, none⟩) 2 2, .slice (some ⟨w.heap.size + 2, 0, none⟩) 2 2]
  rw [s1] at a2
  rw [s2] at a3
  rw [s3] at a4
  refine ⟨⟨_, own_whole a4 (by omega) (by unfold maxLen; simp), fun i hi => ?_⟩, ⟨rfl, .inl ⟨rfl, rfl⟩⟩, fun b _ h => by cases h⟩
  have hbad : ∀ b, b < w.heap.size + 3 → ¬ Two (.slice (some ⟨w.heap.size + 3, 0, none⟩) 3 3) (.slice none 0 0) b := by
    intro b hb h
    rcases h with h | h
    · cases h; exact absurd hb (Nat.lt_irrefl _)
    · cases h
  rcases (show i = 0 ∨ i = 1 ∨ i = 2 by simp [c3] at hi; omega) with rfl | rfl | rfl
  · exact block_in a1 (hbad _ (by omega)) (by unfold In64; omega) (by unfold In64; omega)
  · exact block_in a2 (hbad _ (by omega)) (by unfold In64; omega) (by unfold In64; omega)
  · exact block_in a3 (hbad _ (by omega)) (by unfold In64; omega) (by unfold In64; omega)
theorem fine3 : Fine ((2 : Nat) : Int) c3 [] 0 0 10 := by
  refine ⟨by omega, fun c hc l hl => ?_, by simp, by omega, by simp [c3]⟩
  simp only [c3, List.mem_cons, List.not_mem_nil, or_false] at hc
  rcases hc with rfl | rfl | rfl <;> (simp only [List.mem_cons, List.not_mem_nil, or_false] at hl; rcases hl with rfl | rfl <;> omega)
theorem fine4 : Fine ((2 : Nat) : Int) c4 [] 0 0 10 := by
  refine ⟨by omega, fun c hc l hl => ?_, by simp, by omega, by simp [c4]⟩
  simp only [c4, List.mem_cons, List.not_mem_nil, or_false] at hc
  rcases hc with rfl | rfl | rfl | rfl <;> (simp only [List.mem_cons, List.not_mem_nil, or_false] at hl; rcases hl with rfl | rfl <;> omega)
theorem ints_none (w : World) (B : Nat) : IntsAt w B (.slice none 0 0) [] := ⟨none, 0, 0, 0, rfl, Nat.zero_le _, fun h => absurd rfl h, fun i hi => absurd hi (Nat.not_lt_zero _), by simp⟩
section
variable {w : World} {V : Nat} {cs : List (List Int)} {asm : List Int} {b r st conf : Int} {mv cv lv : Value} {logs : List (List Int)}
theorem _root_.Go.Proofs.YtjeckkkmoabjnaaDoor.satMc.Ans.st1 (h : Ans w cs V asm b r st conf mv cv lv logs) (hp : Psb cs V asm) (hV : V ≤ 20000) (hl : r = 0 ∧ ¬ b < 2 ^ V ∨ cmax ≤ b) : st = 1 := by
  rcases h.three with e | e | e
  · exact e
  · subst e; exact absurd hp (h.no hV)
  · subst e
    rcases h.kind with ⟨e1, _⟩ | ⟨e1, _⟩ | h4
    · cases e1
    · cases e1
    · rcases hl with hl | hl
      · exact absurd (h4.2.2.2.2 hl.1) hl.2
      · have := h4.2.2.2.1; have := h.cfl.2; omega
theorem _root_.Go.Proofs.YtjeckkkmoabjnaaDoor.satMc.Ans.st2 (h : Ans w cs V asm b r st conf mv cv lv logs) (hp : ¬ Psb cs V asm) (hl : r = 0 ∧ ¬ b < 2 ^ V ∨ cmax ≤ b) : st = 2 := by
  rcases h.three with e | e | e
  · subst e; exact absurd h.yes hp
  · exact e
  · subst e
    rcases h.kind with ⟨e1, _⟩ | ⟨e1, _⟩ | h4
    · cases e1
    · cases e1
    · rcases hl with hl | hl
      · exact absurd (h4.2.2.2.2 hl.1) hl.2
      · have := h4.2.2.2.1; have := h.cfl.2; omega
/-- a search without assumptions that found nothing -/
theorem _root_.Go.Proofs.YtjeckkkmoabjnaaDoor.satMc.Ans.empty (h : Ans w cs V [] b r 2 conf mv cv lv logs) : (∃ c, cv = .slice none 0 0 ∨ ∃ a, cv = .slice a 0 c) ∧ ∃ l, logs = l ++ [[]] := by
  rcases h.kind with ⟨e1, _⟩ | ⟨_, _, K, l, hr, hn, hK, hl⟩ | h4
  · cases e1
  · have e : K = [] := core_nil fun x hx => (hK x hx).2.2
    subst e
    rw [clz_nil] at hr
    obtain ⟨ao, cap, _, _, he, _⟩ := hr
    refine ⟨⟨cap, .inr ⟨ao, he⟩⟩, l, ?_⟩
    rw [hl]
    show l ++ [clz []] = _
    rw [clz_nil]
  · cases h4.1
end
theorem cls_last {w : World} {B : Nat} {v : Value} {l : List (List Int)} {d : List Int} (h : ClsAt w B v (l ++ [d])) : ∃ b off cap dv, v = .slice (some ⟨b, off, none⟩) (l.length + 1) cap ∧ b < B ∧ l.length + 1 ≤ maxLen ∧ w.cell? ⟨b, off + l.length, none⟩ = some dv ∧ IntsAt w B dv d := by
  obtain ⟨ao, cap, b, off, vs, rfl, hm, ha, hc, hn⟩ := h
  have hL : (l ++ [d]).length = l.length + 1 := by simp
  obtain ⟨rfl, hb⟩ := ha (by simp)
  rw [hL] at hm ⊢
  refine ⟨b, off, cap, vs l.length, rfl, hb, hm, hc _ (by omega), ?_⟩
  have := hn l.length (by omega)
  rw [show (l ++ [d]).getD l.length [] = d from by simp] at this
  exact this
theorem nilnilE (w : World) : (binOp .eql 34 .nilIface .nilIface).run Tryd.prog w = .ok (.bool true) w := by kernel_rfl
set_option maxHeartbeats 4000000 in
set_option maxRecDepth 100000 in
theorem alive_any (w : World) (a1 a2 : Addr) (hg : 11 < w.heap.size) (g9 : w.cell? ⟨9, 0, none⟩ = some (evl a1)) (g11 : w.cell? ⟨11, 0, none⟩ = some (evl a2)) :
    Calls Tryd.prog 7 #[] w fun e w' => e = .returned (.bool true) ∧ Below w.heap.size w w' := by
  have hP := world4 w
  have hB4 : Below w.heap.size w ((((w.alloc p1).alloc p2).alloc p3).alloc (p4 w.heap.size)) := ((((Below.refl _ _).alloc (Nat.le_refl _) _).alloc (by simp) _).alloc (by simp; omega) _).alloc (by simp; omega) _
  have hs4 : ((((w.alloc p1).alloc p2).alloc p3).alloc (p4 w.heap.size)).heap.size = w.heap.size + 4 := by simp
  have HS1 : Hid (Calls Tryd.prog 9 #[.slice (some ⟨w.heap.size + 3, 0, none⟩) 3 3, .int .i64 2, .slice none 0 0, .agg #[.int .i64 0, .int .i64 0, .bool false, .int .i64 10]] ((((w.alloc p1).alloc p2).alloc p3).alloc (p4 w.heap.size)) (AnsN c3 2 [] 10 0 ((((w.alloc p1).alloc p2).alloc p3).alloc (p4 w.heap.size)))) := Lib.hid (solve_new 2 0 0 10 false a1 a2 hP.at (ints_none _ _) (Nat.le_refl _) (by rw [hs4]; omega) ((hB4.cell (show (⟨9, 0, none⟩ : Addr).block < _ from by show 9 < _; omega)).trans g9) ((hB4.cell (show (⟨11, 0, none⟩ : Addr).block < _ from hg)).trans g11) fine3 (by omega) (by omega) (by decide) (by decide))
  have HP := Lib.hid hP
  have HB4 := Lib.hid hB4
  have HS4 := Lib.hid hs4
  have HG9 := Lib.hid g9
  have HG11 := Lib.hid g11
  unfold p1 p2 p3 p4 at *
  clear hP hB4 hs4 g9 g11
  go_enter Tryd.func7, Tryd.ntmps7
  go_wp2_with fail
  refine HS1.out.mono ?_
  rintro e w5 ⟨st, conf, x1, n1, y1, x2, n2, y2, x3, n3, y3, logs, rfl, hA, hb, hnw⟩
  obtain rfl := hA.st1 psb3 (by omega) (.inl ⟨rfl, by decide⟩)
  have HP5 := Lib.hid (HP.out.below hb)
  have hb5 := HB4.out.trans (hb.mono (by rw [HS4.out]; omega))
  have hs5 : w.heap.size + 4 ≤ w5.heap.size := by have := hb.size; rw [HS4.out] at this; exact this
  obtain ⟨m, hm, hml, hal, _⟩ : ∃ m, BoolsAt w5 w5.heap.size (.slice x1 n1 y1) m ∧ m.length = 2 ∧ allIn c3 m = true ∧ True := by
    rcases hA.kind with ⟨_, _, m, h1, h2, h3, _⟩ | ⟨e1, _⟩ | h4
    · exact ⟨m, h1, h2, h3, trivial⟩
    · cases e1
    · cases h4.1
  obtain rfl := mod3 hml hal
  have HM5 : Hid (∀ w6 : World, (∀ bk, w.heap.size + 4 ≤ bk → bk < w5.heap.size → w6.heap[bk]? = w5.heap[bk]?) → ∃ bk off, x1 = some ⟨bk, off, none⟩ ∧ n1 = 2 ∧ w6.cell? ⟨bk, off, none⟩ = some (.bool true) ∧ w6.cell? ⟨bk, off + 1, none⟩ = some (.bool true)) := Lib.hid fun w6 h6 => by
    obtain ⟨ao, cap, bk, off, he, hml, hal, hc⟩ := hm
    cases he
    obtain ⟨rfl, hlt⟩ := hal (by simp)
    have hge : w.heap.size + 4 ≤ bk := by have := hnw bk rfl; rw [HS4.out] at this; exact this
    refine ⟨bk, off, rfl, rfl, ?_, ?_⟩
    · rw [World.cell?_of_block (w := w5) (h6 bk hge hlt)]; exact hc 0 (by simp)
    · rw [World.cell?_of_block (w := w5) (h6 bk hge hlt)]; exact hc 1 (by simp)
  have HB5 := Lib.hid hb5
  have HA6 : Hid (Below w5.heap.size w5 (w5.alloc (.cells #[.int .i64 1, .slice x1 n1 y1, .slice x2 n2 y2, .slice x3 n3 y3, .int .i64 conf] 32))) := Lib.hid ((Below.refl _ _).alloc (Nat.le_refl _) _)
  have HW6 := Lib.hid (Whole.new w5 32 [.int .i64 1, .slice x1 n1 y1, .slice x2 n2 y2, .slice x3 n3 y3, .int .i64 conf])
  have HS6 : Hid ((w5.alloc (.cells #[.int .i64 1, .slice x1 n1 y1, .slice x2 n2 y2, .slice x3 n3 y3, .int .i64 conf] 32)).heap.size = w5.heap.size + 1) := Lib.hid (by simp)
  clear hA hb hb5 hm hml hal hnw HS1 HP HB4 HS4
  have hpp := (HP5.out.below HA6.out).pair (-1) (-2) (by unfold In64; omega) (by unfold In64; omega)
  have hbb : Below w.heap.size w (((w5.alloc (.cells #[.int .i64 1, .slice x1 n1 y1, .slice x2 n2 y2, .slice x3 n3 y3, .int .i64 conf] 32)).alloc (.cells #[.int .i64 (-1), .int .i64 (-2)] 3)).alloc (.cells #[.slice (some ⟨w5.heap.size + 1, 0, none⟩) 2 2] 38)) := (((HB5.out.alloc (by omega) _).alloc (by simp; omega) _).alloc (by simp; omega) _)
  have hrr := ((HW6.out.below ((Below.refl _ _).alloc (Nat.le_refl _) (.cells #[.int .i64 (-1), .int .i64 (-2)] 3)) (by rw [HS6.out]; omega)).below ((Below.refl _ _).alloc (Nat.le_refl _) (.cells #[.slice (some ⟨w5.heap.size + 1, 0, none⟩) 2 2] 38)) (by simp; omega))
  rw [HS6.out] at hpp
  obtain ⟨hp1, hp2, hp3⟩ := hpp
  have HP1 := Lib.hid hp1
  have HP2 := Lib.hid hp2
  have HP3 := Lib.hid hp3
  have HBB := Lib.hid hbb
  have HRR := Lib.hid hrr
  have HSS : Hid (w.heap.size ≤ (((w5.alloc (.cells #[.int .i64 1, .slice x1 n1 y1, .slice x2 n2 y2, .slice x3 n3 y3, .int .i64 conf] 32)).alloc (.cells #[.int .i64 (-1), .int .i64 (-2)] 3)).alloc (.cells #[.slice (some ⟨w5.heap.size + 1, 0, none⟩) 2 2] 38)).heap.size) := Lib.hid (by simp; omega)
  clear hp1 hp2 hp3 hbb hrr HA6 HW6 HP5
  go_wp2_with (at_builtin; go_loud (refine app_cls _ rfl (.tmp 17) (.tmp 19) rfl w.heap.size _ _ _ _ c3 [-1, -2] [] rfl HP1.out rfl HP2.out HP3.out ?a1 HSS.out ?_))
  case a1 => simp [c3]
  intro ao c7 w7 hP7 hb7 hg7
  have hP7 : Pg w7 w.heap.size (.slice ao 4 c7) c4 (.slice none 0 0) [] := hP7
  rw [show c3.length + 1 = 4 from rfl]
  have hr7 := HRR.out.kept hg7 (fun e => by have e2 : w.heap.size + 3 = w5.heap.size := Option.some.inj e; omega)
  have HB7 := Lib.hid (HBB.out.trans hb7)
  have hs7 : w5.heap.size + 3 ≤ w7.heap.size := by have := hg7.size; simpa using this
  have HS2 := Lib.hid (solve_ans 2 0 0 10 false a1 a2 hP7.at (ints_none _ _) (Nat.le_refl _) (by omega) ((HB7.out.cell (show (⟨9, 0, none⟩ : Addr).block < w.heap.size from by show 9 < _; omega)).trans HG9.out) ((HB7.out.cell (show (⟨11, 0, none⟩ : Addr).block < w.heap.size from hg)).trans HG11.out) (cs := c4) (asm := []) fine4 (by omega) (by omega) (by decide) (by decide))
  have HR7 := Lib.hid hr7
  have HT : Hid (∀ bk, w.heap.size + 4 ≤ bk → bk < w5.heap.size → w7.heap[bk]? = w5.heap[bk]?) := Lib.hid fun bk h1 h2 => by
    have e1 := hg7.block bk (by simp; omega) (fun e => by have e2 : w.heap.size + 3 = bk := Option.some.inj e.symm; omega)
    rw [e1]
    exact ((((Below.refl w5.heap.size w5).alloc (Nat.le_refl _) _).alloc (by simp) _).alloc (by simp; omega) _).block bk h2
  clear hr7 hP7 hb7 hg7 HP1 HP2 HP3 HBB HRR HSS
  go_wp2_with fail
  refine HS2.out.mono ?_
  rintro e w8 ⟨st2, conf2, u1, m1, z1, u2, m2, z2, u3, m3, z3, log2, rfl, hA, hb⟩
  obtain rfl := hA.st2 psb4 (.inl ⟨rfl, by decide⟩)
  obtain ⟨⟨kc, hk⟩, l2, rfl⟩ := hA.empty
  have hr8 := HR7.out.below hb (by omega)
  have HR8 := Lib.hid (hr8)
  have hB8 := HB7.out.trans (hb.mono (by omega))
  have hA9 : Below w8.heap.size w8 (w8.alloc (.cells #[.int .i64 2, .slice u1 m1 z1, .slice u2 m2 z2, .slice u3 m3 z3, .int .i64 conf2] 32)) := (Below.refl _ _).alloc (Nat.le_refl _) _
  have hs8 : w5.heap.size + 3 ≤ w8.heap.size := Nat.le_trans hs7 hb.size
  have hr9 := hr8.below hA9 (by omega)
  have hR9 := Whole.new w8 32 [.int .i64 2, .slice u1 m1 z1, .slice u2 m2 z2, .slice u3 m3 z3, .int .i64 conf2]
  obtain ⟨bm, om, rfl, rfl, q0, q1⟩ := HM5.out (w8.alloc (.cells #[.int .i64 2, .slice u1 m1 z1, .slice u2 m2 z2, .slice u3 m3 z3, .int .i64 conf2] 32)) fun bk h1 h2 => by rw [hA9.block bk (by omega), hb.block bk (by omega)]; exact HT.out bk h1 h2
  obtain ⟨bl, ol, cl, dv, hlv, hblt, hlm, ql, hli⟩ := cls_last (hA.log.keep hA9)
  cases hlv
  have hm2 : m2 = 0 := by rcases hk with e | ⟨a, e⟩ <;> (cases e; rfl)
  subst hm2
  obtain ⟨ad, capd, bd, od, rfl, _, _, _, _⟩ := hli
  have HB9 : Hid (Below w.heap.size w (w8.alloc (.cells #[.int .i64 2, .slice u1 m1 z1, .slice u2 0 z2, .slice (some ⟨bl, ol, none⟩) (l2.length + 1) z3, .int .i64 conf2] 32))) := Lib.hid (hB8.alloc (by omega) _)
  have c0 := hr9.cell 0
  have c1 := hr9.cell 1
  have d0 := hR9.cell 0
  have d2 := hR9.cell 2
  have d3 := hR9.cell 3
  simp only [List.getElem?_cons_zero, List.getElem?_cons_succ] at c0 c1 d0 d2 d3
  have hne := nilnilE
  generalize l2.length = L at *
  unfold maxLen at hlm
  clear hk hA9 hr9 hR9 hr8 HR8 hB8 hA HT HM5 HB7 HR7 hb HS6 HB5 hs7
  go_wp2
  go_ret
  exact ⟨rfl, HB9.out⟩
end Go.Proofs.YtjeckkkmoabjnaaDoor.satMe
