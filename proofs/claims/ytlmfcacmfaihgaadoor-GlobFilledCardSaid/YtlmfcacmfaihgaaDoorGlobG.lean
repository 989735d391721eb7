/-
  The reference's Without.
-/
import Derived.Test.YtlmfcacmfaihgaaDoorGlobF
import Derived.Test.YtlmfcacmfaihgaaDoorOwnB
import Derived.Maps.AppendAt
namespace Go.Proofs.YtlmfcacmfaihgaaDoor.globG
open Go.ChangeShapes Go.WideShapes Go.ChangeAt Go.RowKit globP globQ globA globB globC globD globE globF ownB

theorem take_go (s : ByteArray) (k : Nat) (h : k < s.size) : s.data.toList.take (k + 1) = s.data.toList.take k ++ [s[k]] := by
  rw [List.take_succ_eq_append_getElem (by simpa using h)]; rfl

set_option maxRecDepth 100000 in
theorem without_any (s : ByteArray) (c : UInt8) (w : World) (hs : s.size ≤ 500) :
    Calls Tryd.prog 8 #[.string s, .int .u8 (c.toNat : Int)] w fun e w' => e = .returned (.string ⟨(s.data.toList.filter (· != c)).toArray⟩) ∧ Below w.heap.size w w' := by
  obtain ⟨i0, hi, hz0, hz1, hz2⟩ := info_parts infoB
  go_enter Tryd.func8, Tryd.ntmps8
  go_wp2
  go_loopw [5, 6] (fun v i wr => ∃ (k : Nat) (d : List UInt8), k ≤ s.size ∧ d.length ≤ k ∧ i = .int .i64 k ∧ OwnB wr w.heap.size v d ∧ Below w.heap.size w wr ∧ Hid ((s.data.toList.take k).filter (· != c) = d)) (fun _ i _ => s.size - (intOf i).toNat)
  case atStart => exact ⟨0, [], Nat.zero_le _, Nat.le_refl _, rfl, World.ownsRow_lit w #[] 0 (Nat.le_refl _) (Nat.zero_le _) rfl, (Below.refl _ _).alloc (Nat.le_refl _) _, Lib.hid rfl⟩
  case round =>
    obtain ⟨k, d, hk, hd, rfl, hown, hb, hp⟩ := hrel
    have hlt' := ownB_lt hown
    have hsz := hb.size
    have HO := Lib.hid hown
    have HB := Lib.hid hb
    have HL := Lib.hid hlt'
    clear hb hlt'
    by_cases hlt : k < s.size
    · by_cases hc : s[k] = c
      · have hv : ((s[k].toNat : Int) != (c.toNat : Int)) = false := by rw [hc]; simp
        have hn : Hid ((s.data.toList.take (k + 1)).filter (· != c) = d) := Lib.hid (by rw [take_go s k hlt, List.filter_append, hp.out]; simp [hc])
        clear hc hp hown
        go_wp2
        go_roundw
        case rel => exact ⟨k + 1, d, by omega, by omega, by go_num, HO.out, HB.out, hn⟩
        case measure => simp [intOf]; omega
      · have hv : ((s[k].toNat : Int) != (c.toNat : Int)) = true := by
          rw [bne_iff_ne]; intro h; apply hc; exact UInt8.toNat_inj.1 (by omega)
        have hn : Hid ((s.data.toList.take (k + 1)).filter (· != c) = d ++ [s[k]]) := Lib.hid (by rw [take_go s k hlt, List.filter_append, hp.out]; simp [hc])
        clear hc hp
        go_wp2_with (at_builtin; refine wpList_append_own _ rfl _ _ 24 rfl w.heap.size 5 i0 (.int .u8 0) 1 1 Tryd.underlying24 hi hz0 hz1 hz2 rfl (by decide) _ _ _ rfl (World.ownsRow.alloc hown _) ⟨wr.heap.size, 0, none⟩ 1 1 [bv s[k]] rfl rfl ?c1 ?c2 ?c3 ?c4 ?c5 ?_)
        case c1 => exact cell_one_new _ _ _
        case c2 => intro u hu; simp at hu; subst hu; rfl
        case c3 => unfold maxLen; omega
        case c4 => omega
        case c5 => simp; omega
        intro v' w2 hown2 hgr2 _
        have HO2 := Lib.hid (ownB_snoc hown2)
        have HB2 := Lib.hid ((HB.out.alloc hsz _).grown hgr2 (by simp; omega) HL.out)
        clear hown hown2 hgr2
        go_wp2
        go_roundw
        case rel => exact ⟨k + 1, d ++ [s[k]], by omega, by simp; omega, by go_num, HO2.out, HB2.out, hn⟩
        case measure => simp [intOf]; omega
    · have hN : Hid (s.data.toList.filter (· != c) = d) := Lib.hid (by
        have := hp.out; rwa [List.take_of_length_le (by simp; omega)] at this)
      have hstr := ownB_str hown
      clear hown hp
      go_wp2
      go_ret
      exact ⟨by rw [hN.out]; rfl, HB.out⟩

end Go.Proofs.YtlmfcacmfaihgaaDoor.globG
