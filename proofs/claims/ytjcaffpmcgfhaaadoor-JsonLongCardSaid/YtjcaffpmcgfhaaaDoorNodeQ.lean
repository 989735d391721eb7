/-
  Plain functions of a value: how many values, how great, how deep, is it right, its text.
-/
import Derived.Test.YtjcaffpmcgfhaaaDoorNodeP
import Derived.Test.YtjcaffpmcgfhaaaDoorQuoteP
import Derived.Test.YtjcaffpmcgfhaaaDoorUtfR
import Derived.Lib.ItoaNum
namespace Go.Proofs.YtjcaffpmcgfhaaaDoor.nodeQ
open Go.ChangeShapes Go.WideShapes Go.ChangeAt Go.RowKit nodeP

def sumL (l : List ByteArray) : Nat := (l.map (·.size)).sum

mutual
def count : Nd → Nat
  | .mk _ _ _ _ cs => 1 + counts cs
def counts : List Nd → Nat
  | [] => 0
  | c :: cs => count c + counts cs
end
mutual
def sz : Nd → Nat
  | .mk _ _ t ks cs => 1 + t.size + ks.length + sumL ks + szs cs
def szs : List Nd → Nat
  | [] => 0
  | c :: cs => sz c + szs cs
end
mutual
def dp : Nd → Nat
  | .mk _ _ _ _ cs => dps cs
def dps : List Nd → Nat
  | [] => 0
  | c :: cs => max (1 + dp c) (dps cs)
end

def vld (s : ByteArray) : Bool := (utfR.pts s.data.toList).isSome
/-- what rightKeys tells -/
def rk (k : Int) (ks : List ByteArray) (m : Nat) : Bool := if k = 6 then ks.isEmpty else (ks.length == m) && decide ks.Nodup && ks.all vld
/-- what is asked of one value at a depth -/
def one (k n : Int) (t : ByteArray) (ks : List ByteArray) (m d : Nat) : Bool :=
  (k == 4 || n == 0) && (k == 5 || t.size == 0) && decide (1 ≤ k ∧ k ≤ 7) && (if k < 6 then ks.isEmpty && m == 0 && (k != 5 || vld t) else decide (d < 32) && rk k ks m)
mutual
def okAt : Nd → Nat → Bool
  | .mk k n t ks cs, d => one k n t ks cs.length d && oks cs (d + 1)
def oks : List Nd → Nat → Bool
  | [], _ => true
  | c :: cs, d => okAt c d && oks cs d
end

def bytes (s : String) : List UInt8 := s.toUTF8.data.toList
/-- a value's text; that of kids, with "," between, and each with its key ahead if there are keys -/
def sep (b : Bool) : List UInt8 := if b then [] else [44]
mutual
def tx : Nd → List UInt8
  | .mk k n t ks cs => if k = 1 then bytes "null" else if k = 2 then bytes "false" else if k = 3 then bytes "true" else if k = 4 then Lib.itoa n else if k = 5 then quoteP.qt t.data.toList
    else if k = 6 then 91 :: (txs true cs ++ [93]) else 123 :: (txo true ks cs ++ [125])
def txs : Bool → List Nd → List UInt8
  | _, [] => []
  | b, c :: cs => sep b ++ tx c ++ txs false cs
def txo : Bool → List ByteArray → List Nd → List UInt8
  | _, _, [] => []
  | b, [], c :: cs => sep b ++ tx c ++ txo false [] cs
  | b, k :: ks, c :: cs => sep b ++ quoteP.qt k.data.toList ++ [58] ++ tx c ++ txo false ks cs
end

theorem counts_take : ∀ (cs : List Nd) (i : Nat) (h : i < cs.length), counts (cs.take (i + 1)) = counts (cs.take i) + count cs[i]
  | c :: cs, 0, _ => by simp [counts]
  | c :: cs, i + 1, h => by
    have := counts_take cs i (by simpa using h)
    simp [counts] at this ⊢; omega
theorem szs_take : ∀ (cs : List Nd) (i : Nat) (h : i < cs.length), szs (cs.take (i + 1)) = szs (cs.take i) + sz cs[i]
  | c :: cs, 0, _ => by simp [szs]
  | c :: cs, i + 1, h => by
    have := szs_take cs i (by simpa using h)
    simp [szs] at this ⊢; omega
theorem dps_take : ∀ (cs : List Nd) (i : Nat) (h : i < cs.length), dps (cs.take (i + 1)) = max (dps (cs.take i)) (1 + dp cs[i])
  | c :: cs, 0, _ => by simp [dps]
  | c :: cs, i + 1, h => by
    have := dps_take cs i (by simpa using h)
    simp [dps] at this ⊢; omega
theorem oks_take : ∀ (cs : List Nd) (d i : Nat) (h : i < cs.length), oks (cs.take (i + 1)) d = (oks (cs.take i) d && okAt cs[i] d)
  | c :: cs, d, 0, _ => by simp [oks]
  | c :: cs, d, i + 1, h => by
    have := oks_take cs d i (by simpa using h)
    simp [oks] at this ⊢; rw [this, Bool.and_assoc]
theorem count_pos (x : Nd) : 1 ≤ count x := by cases x; simp [count]
theorem counts_len : ∀ cs : List Nd, cs.length ≤ counts cs
  | [] => by simp
  | c :: cs => by have := counts_len cs; have := count_pos c; simp [counts]; omega
theorem sz_pos (x : Nd) : 1 ≤ sz x := by cases x; simp [sz]; omega
theorem counts_mono (cs : List Nd) (i : Nat) : counts (cs.take i) ≤ counts cs := by
  induction cs generalizing i with
  | nil => simp
  | cons c cs ih => cases i with
    | zero => simp [counts]
    | succ i => have := ih i; simp [counts]; omega
theorem szs_mono (cs : List Nd) (i : Nat) : szs (cs.take i) ≤ szs cs := by
  induction cs generalizing i with
  | nil => simp
  | cons c cs ih => cases i with
    | zero => simp [szs]
    | succ i => have := ih i; simp [szs]; omega
theorem oks_all (cs : List Nd) (d : Nat) : oks cs d = cs.all (okAt · d) := by
  induction cs with
  | nil => rfl
  | cons c cs ih => simp [oks, ih]
theorem szs_mem {cs : List Nd} {c : Nd} (h : c ∈ cs) : sz c ≤ szs cs := by
  induction cs with
  | nil => simp at h
  | cons a cs ih =>
    rcases List.mem_cons.1 h with rfl | h
    · simp [szs]
    · have := ih h; simp [szs]; omega
theorem dps_mem {cs : List Nd} {c : Nd} (h : c ∈ cs) : 1 + dp c ≤ dps cs := by
  induction cs with
  | nil => simp at h
  | cons a cs ih =>
    rcases List.mem_cons.1 h with rfl | h
    · simp [dps]; omega
    · have := ih h; simp [dps]; omega
theorem dps_le_szs {cs : List Nd} (h : ∀ c ∈ cs, dp c + 1 ≤ sz c) : dps cs ≤ szs cs := by
  induction cs with
  | nil => simp [dps]
  | cons a cs ih =>
    have h1 := h a (by simp)
    have h2 := ih (fun c hc => h c (by simp [hc]))
    simp [dps, szs]; omega
theorem dp_sz : ∀ x, dp x + 1 ≤ sz x := Nd.ind fun k n t ks cs ih => by
  have := dps_le_szs ih
  simp [dp, sz]; omega
theorem counts_le_szs {cs : List Nd} (h : ∀ c ∈ cs, count c ≤ sz c) : counts cs ≤ szs cs := by
  induction cs with
  | nil => simp [counts]
  | cons a cs ih =>
    have h1 := h a (by simp)
    have h2 := ih (fun c hc => h c (by simp [hc]))
    simp [counts, szs]; omega
theorem count_sz : ∀ x, count x ≤ sz x := Nd.ind fun k n t ks cs ih => by
  have := counts_le_szs ih
  simp [count, sz]; omega
/-- what is right at one depth is so at another, if it is not deep -/
theorem ok_depth : ∀ x d d', okAt x d = true → d' + dp x < 32 → okAt x d' = true := by
  intro x
  induction x using Nd.ind with
  | _ k n t ks cs ih =>
  intro d d' h hd
  simp only [okAt, Bool.and_eq_true, oks_all, List.all_eq_true] at h ⊢
  simp only [dp] at hd
  refine ⟨?_, fun c hc => ih c hc (d + 1) (d' + 1) (h.2 c hc) (by have := dps_mem hc; omega)⟩
  have h1 := h.1
  unfold one at h1 ⊢
  split at h1
  · rename_i h6; rw [if_pos h6]; exact h1
  · rename_i h6
    rw [if_neg h6]
    simp only [Bool.and_eq_true, decide_eq_true_eq] at h1 ⊢
    exact ⟨h1.1, by omega, h1.2.2⟩
end Go.Proofs.YtjcaffpmcgfhaaaDoor.nodeQ
