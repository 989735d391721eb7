/-
  Contracts: json.rightKeys, json.right, json.Right.
-/
import Derived.Test.YtdbidkfjbhclcaaDoorNodeA
import Derived.Test.YtdbidkfjbhclcaaDoorRunM
import Derived.Maps.OwnOps
import Derived.Maps.Views
import Derived.StringKeys
import Derived.Carry
import Derived.WalkKit
namespace Go.Proofs.YtdbidkfjbhclcaaDoor.nodeB
open Go.ChangeShapes Go.WideShapes Go.ChangeAt Go.RowKit Go.WideMaps Go.Maps nodeP nodeQ nodeA runesE

theorem law : Keyed Tryd.prog 9 := string_keyed Tryd.underlying9
theorem zeroI (w : World) : (zeroValue 3).run Tryd.prog w = .ok (.int .i64 0) w := by kernel_rfl
theorem run_makeMapN (n : Int) (w : World) : (Instr.makeMap 52 (some (.int .i64 n))).run Tryd.prog w = .ok (.map (some w.heap.size)) (w.alloc (.map #[] 0)) := by
  simp [Instr.makeMap]
  rfl

/-- what is seen behind some keys -/
def seenD (ks : List ByteArray) : DataW Unit := ks.foldl (fun D k => D.put (.string k.data.toList) (.lit (.int .i64 1))) (.map [])
theorem seenD_snoc (ks : List ByteArray) (k : ByteArray) : seenD (ks ++ [k]) = (seenD ks).put (.string k.data.toList) (.lit (.int .i64 1)) := by simp [seenD]
theorem seenD_map (ks : List ByteArray) : IsMap (seenD ks) := by
  suffices h : ∀ (ks : List ByteArray) (D : DataW Unit), IsMap D → IsMap (ks.foldl (fun D k => D.put (.string k.data.toList) (.lit (.int .i64 1))) D) from h ks _ ⟨[], rfl⟩
  intro ks
  induction ks with
  | nil => intro D h; exact h
  | cons k ks ih => intro D h; obtain ⟨es, rfl⟩ := h; exact ih _ ⟨_, rfl⟩
theorem bytes_inj {a b : ByteArray} (h : a.data.toList = b.data.toList) : a = b := by
  cases a; cases b; simp at h; simp [h]
theorem seenD_at (k : ByteArray) : ∀ (ks : List ByteArray) (D : DataW Unit), IsMap D →
    (k ∈ ks → (ks.foldl (fun D k => D.put (.string k.data.toList) (.lit (.int .i64 1))) D).atKey (.string k.data.toList) (.lit (.int .i64 0)) = .lit (.int .i64 1)) ∧
    (k ∉ ks → (ks.foldl (fun D k => D.put (.string k.data.toList) (.lit (.int .i64 1))) D).atKey (.string k.data.toList) (.lit (.int .i64 0)) = D.atKey (.string k.data.toList) (.lit (.int .i64 0))) := by
  intro ks
  induction ks with
  | nil => intro D _; exact ⟨fun h => absurd h (by simp), fun _ => rfl⟩
  | cons a ks ih =>
    intro D hD
    have hD' : IsMap (D.put (.string a.data.toList) (.lit (.int .i64 1))) := by obtain ⟨es, rfl⟩ := hD; exact ⟨_, rfl⟩
    obtain ⟨i1, i2⟩ := ih _ hD'
    refine ⟨fun h => ?_, fun h => ?_⟩
    · by_cases hk : k ∈ ks
      · exact i1 hk
      · have hka : k = a := by rcases List.mem_cons.1 h with h | h
                               · exact h
                               · exact absurd h hk
        refine (i2 hk).trans ?_
        subst hka
        exact atKey_put_same hD (show WideAt.IsKeyLit (.string _) from trivial) _ _
    · have hka : k ≠ a := fun e => h (by simp [e])
      refine (i2 (fun h' => h (by simp [h']))).trans ?_
      exact atKey_put_other (by simp only [ne_eq, Lit.string.injEq]; exact fun e => hka (bytes_inj e)) _ _
theorem seen_yes {k : ByteArray} {ks : List ByteArray} (h : k ∈ ks) : (seenD ks).atKey (.string k.data.toList) (.lit (.int .i64 0)) = .lit (.int .i64 1) := (seenD_at k ks _ ⟨[], rfl⟩).1 h
theorem seen_no {k : ByteArray} {ks : List ByteArray} (h : k ∉ ks) : (seenD ks).atKey (.string k.data.toList) (.lit (.int .i64 0)) = .lit (.int .i64 0) := (seenD_at k ks _ ⟨[], rfl⟩).2 h

theorem take_snoc {α : Type} (l : List α) (m : Nat) (d : α) (h : m < l.length) : l.take (m + 1) = l.take m ++ [l.getD m d] := by
  rw [List.take_add_one, List.getElem?_eq_getElem h, List.getD_eq_getElem?_getD, List.getElem?_eq_getElem h]; rfl
theorem nodup_take {l : List ByteArray} (h : l.Nodup) (m : Nat) (hm : m < l.length) : l.getD m ByteArray.empty ∉ l.take m := by
  have h1 : (l.take (m + 1)).Nodup := h.sublist (List.take_sublist _ _)
  rw [take_snoc l m ByteArray.empty hm, List.nodup_append] at h1
  intro hin
  exact h1.2.2 _ hin _ (by simp) rfl
theorem take_nodup_snoc {l : List ByteArray} (m : Nat) (hm : m < l.length) (h : (l.take m).Nodup) (hn : l.getD m ByteArray.empty ∉ l.take m) : (l.take (m + 1)).Nodup := by
  rw [take_snoc l m ByteArray.empty hm, List.nodup_append]
  refine ⟨h, by simp, ?_⟩
  intro a ha b hb e
  simp at hb
  subst hb; subst e
  exact hn ha

set_option maxHeartbeats 1000000 in
set_option maxRecDepth 100000 in
theorem keys_array (x : Nd) (l : List Value) (w : World) (hx : NodeAt w w.heap.size x l) (hk : x.kind = 6) :
    Calls Tryd.prog 45 #[.agg l.toArray] w fun e w' => e = .returned (.bool (rk x.kind x.keys x.kids.length)) ∧ Below w.heap.size w w' := by
  cases x with
  | mk k n t ks cs =>
  simp only [Nd.kind, Nd.keys, Nd.kids] at hk ⊢
  subst hk
  obtain ⟨kv, cv, rfl, _, _, htm, hkv, hcv⟩ := hx.open
  obtain ⟨ao, cap, b, off, ls, rfl, hm, ha, hc, hn⟩ := hcv
  obtain ⟨ak, capk, bk, offk, rfl, hmk, hak, hck, hsk⟩ := hkv
  have e0 : Hid (rk 6 ks cs.length = ks.isEmpty) := Lib.hid rfl
  clear hc hn hx ha hm hck hak hsk hmk htm
  cases ks with
  | nil =>
    go_enter Tryd.func45, Tryd.ntmps45
    go_wp2
    go_ret
    exact ⟨by rw [e0.out]; rfl, (Below.refl _ _).alloc (Nat.le_refl _) _⟩
  | cons a ks =>
    have hne : ¬ ((ks.length : Int) + 1 = 0) := by omega
    go_enter Tryd.func45, Tryd.ntmps45
    go_wp2
    go_ret
    exact ⟨by rw [e0.out]; rfl, (Below.refl _ _).alloc (Nat.le_refl _) _⟩

theorem map_below {w w' : World} {b n : Nat} {D : DataW Unit} (h : w.ownsMap Tryd.prog 9 (plainElem Tryd.prog 3) b n D) (hb : Below w.heap.size w w') : w'.ownsMap Tryd.prog 9 (plainElem Tryd.prog 3) b n D :=
  h.kept (row := none) ⟨hb.os, hb.tape, hb.output, hb.size, fun k hk _ => hb.block k hk⟩ (by simp)

set_option maxHeartbeats 2000000 in
set_option maxRecDepth 100000 in
theorem keys_object (x : Nd) (l : List Value) (w : World) (hx : NodeAt w w.heap.size x l) (hk : x.kind ≠ 6) (hT : Tabs w) (hL : (x.keys.length : Int) ≤ 100000) :
    Calls Tryd.prog 45 #[.agg l.toArray] w fun e w' => e = .returned (.bool (rk x.kind x.keys x.kids.length)) ∧ Below w.heap.size w w' := by
  cases x with
  | mk k n t ks cs =>
  simp only [Nd.kind, Nd.keys, Nd.kids] at hk hL ⊢
  obtain ⟨kv, cv, rfl, _, _, htm, hkv, hcv⟩ := hx.open
  obtain ⟨ao, cap, b, off, ls, rfl, hm, ha, hc, hn⟩ := hcv
  obtain ⟨ak, capk, bk, offk, rfl, hmk, hak, hck, hsk⟩ := hkv
  have e0 : Hid (rk k ks cs.length = ((ks.length == cs.length) && decide ks.Nodup && ks.all vld)) := Lib.hid (by unfold rk; rw [if_neg hk])
  have HCK := Lib.hid hck
  have HAK := Lib.hid hak
  have HSK := Lib.hid hsk
  have HT := Lib.hid hT
  have hnn := run_makeMapN
  have hk6 : (k == 6) = false := by simpa using hk
  clear hk
  clear hc hn hx ha hm hck hak hsk hmk htm hT
  generalize cs.length = M at *
  by_cases hl : ks.length = M
  · subst hl
    have er : Hid (∀ v, v = (decide ks.Nodup && ks.all vld) → Ending.returned (.bool v) = .returned (.bool (rk k ks ks.length))) := Lib.hid (fun v hv => by rw [e0.out, hv]; simp)
    have h00 : Hid (seenD (ks.take 0) = .map []) := Lib.hid rfl
    go_enter Tryd.func45, Tryd.ntmps45
    go_wp2
    go_loopw [5, 27] (fun _ i wr => ∃ m : Nat, m ≤ ks.length ∧ i = .int .i64 m ∧ wr.ownsMap Tryd.prog 9 (plainElem Tryd.prog 3) (w.heap.size + 1) m (seenD (ks.take m)) ∧ Below w.heap.size w wr ∧ Hid ((ks.take m).Nodup ∧ (ks.take m).all vld = true)) (fun _ i _ => ks.length - (intOf i).toNat)
    case atStart =>
      refine ⟨0, Nat.zero_le _, rfl, ?_, ((Below.refl _ _).alloc (Nat.le_refl _) _).alloc (by simp) _, Lib.hid (by simp)⟩
      have := World.ownsMap_made (H := Unit) (w.alloc (.cells #[.int .i64 k, .int .i64 n, .string t, .slice ak ks.length capk, .slice ao ks.length cap] 26)) Tryd.prog 9 (plainElem Tryd.prog 3)
      simpa [seenD] using this
    case round =>
      obtain ⟨m, hm1, rfl, hown, hb, hgood⟩ := hrel
      by_cases hlt : m < ks.length
      · obtain ⟨rfl, hbs⟩ := HAK.out (by intro h0; rw [h0] at hlt; simp at hlt)
        have q : wr.cell? ⟨bk, offk + m, none⟩ = some (.string (ks.getD m ByteArray.empty)) := by rw [hb.cell hbs]; exact HCK.out m hlt
        have hmx : (ks.getD m ByteArray.empty).size ≤ maxLen := HSK.out _ (by rw [List.getD_eq_getElem?_getD, List.getElem?_eq_getElem hlt]; exact List.getElem_mem hlt)
        have hstep := Lib.hid (take_snoc ks m ByteArray.empty hlt)
        have hdup := Lib.hid (fun h : ks.Nodup => nodup_take h m hlt)
        have hsn := Lib.hid (fun h h' => take_nodup_snoc (l := ks) m hlt h h')
        have hmem : Hid (ks.getD m ByteArray.empty ∈ ks) := Lib.hid (by rw [List.getD_eq_getElem?_getD, List.getElem?_eq_getElem hlt]; exact List.getElem_mem hlt)
        generalize ks.getD m ByteArray.empty = s at *
        have hkey : keyOf Tryd.prog 9 (.string s) = some (.string s.data.toList) := keyOf_string_mk Tryd.underlying9 hmx
        have HB := Lib.hid hb
        have hsz := hb.size
        have HO := Lib.hid hown
        have HMX := Lib.hid hmx
        have hTr := Lib.hid (tabs_below HT.out hb)
        obtain ⟨c, hrun, hat, _⟩ := hown.lookup_int law Tryd.underlying52 Tryd.underlying3 (zeroI _) hkey
        clear hb hmx hown
        by_cases hin : s ∈ ks.take m
        · have hc1 : c = 1 := by rw [seen_yes hin] at hat; simpa using hat.symm
          subst hc1
          have hfin : Hid (false = (decide ks.Nodup && ks.all vld)) := Lib.hid (by
            have : ¬ ks.Nodup := fun h => hdup.out h hin
            simp [this])
          clear hat hkey
          go_wp2
          go_ret
          exact ⟨er.out _ hfin.out, HB.out⟩
        · have hc0 : c = 0 := by rw [seen_no hin] at hat; simpa using hat.symm
          subst hc0
          clear hat
          cases hv : vld s
          · have HV := Lib.hid (pointsB.valid_is s false hv wr HMX.out hTr.out)
            have hfin : Hid (false = (decide ks.Nodup && ks.all vld)) := Lib.hid (by
              have : ks.all vld = false := by
                rw [Bool.eq_false_iff]; intro h
                have := List.all_eq_true.1 h s hmem.out
                rw [hv] at this; cases this
              simp [this])
            clear hkey
            go_wp2_with fail
            refine HV.out.mono ?_
            rintro e w1 ⟨rfl, hb1⟩
            have HB1 := Lib.hid (HB.out.trans (Go.Joins.below_le hb1 hsz))
            clear hb1
            go_wp2
            go_ret
            exact ⟨er.out _ hfin.out, HB1.out⟩
          · have HV := Lib.hid (pointsB.valid_is s true hv wr HMX.out hTr.out)
            go_wp2_with fail
            refine HV.out.mono ?_
            rintro e w1 ⟨rfl, hb1⟩
            have HB1 := Lib.hid (HB.out.trans (Go.Joins.below_le hb1 hsz))
            have hsz1 := hb1.size
            have hown1 := map_below HO.out hb1
            clear hb1 hrun q
            go_wp2_with (at_mapUpdate; refine wpList_mapUpdate_own _ rfl _ _ _ 52 rfl 9 3 law Tryd.underlying52 _ (w.heap.size + 1) m _ rfl hown1 (by unfold maxLen; omega) _ _ _ rfl rfl hkey _ [] (plainElem_int Tryd.underlying3 (by decide)) ?_)
            intro w2 hown2 hgrow2
            have R1 : Hid (w2.ownsMap Tryd.prog 9 (plainElem Tryd.prog 3) (w.heap.size + 1) (m + 1) (seenD (ks.take (m + 1)))) := Lib.hid (by rw [hstep.out, seenD_snoc]; exact hown2)
            have R2 := Lib.hid (HB1.out.grown hgrow2 (by omega) (fun j hj => by cases hj; omega))
            have R3 : Hid ((ks.take (m + 1)).Nodup ∧ (ks.take (m + 1)).all vld = true) := Lib.hid ⟨hsn.out hgood.out.1 hin, by rw [hstep.out, List.all_append]; simp [hgood.out.2, hv]⟩
            clear hown2 hgrow2 hown1 hkey
            go_wp2
            go_roundw
            case rel => exact ⟨m + 1, by omega, by go_num, R1.out, R2.out, R3⟩
            case measure => simp [intOf]; omega
      · obtain rfl : m = ks.length := by omega
        have hfin : Hid (true = (decide ks.Nodup && ks.all vld)) := Lib.hid (by
          have h1 := hgood.out
          rw [List.take_length] at h1
          simp [h1.1]; simpa using h1.2)
        have HB := Lib.hid hb
        clear hb hown
        go_wp2
        go_ret
        exact ⟨er.out _ hfin.out, HB.out⟩
  · have hlI : ¬ ((ks.length : Int) = (M : Int)) := by omega
    go_enter Tryd.func45, Tryd.ntmps45
    go_wp2
    go_ret
    exact ⟨by rw [e0.out]; simp [hl], (Below.refl _ _).alloc (Nat.le_refl _) _⟩
end Go.Proofs.YtdbidkfjbhclcaaDoor.nodeB
