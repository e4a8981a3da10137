/-
  The reference's number, in plain Lean: how many bytes go on, and what the digits make.
-/
import Derived.Test.YtglhkfiigbbpdaaFormLaws
namespace Go.Proofs.Ytglhkfiigbbpdaa
open Go.RowKit
/-- How many of the first k bytes go on. -/
def cntA : Nat → List UInt8 → Nat
  | 0, _ => 0
  | _ + 1, [] => 0
  | k + 1, x :: r => if 128 ≤ x.toNat then cntA k r + 1 else 0
/-- What digits make, the lowest first. -/
def decv : List UInt8 → Nat
  | [] => 0
  | x :: r => x.toNat % 128 + 128 * decv r
theorem cntA_le : ∀ (k : Nat) (l : List UInt8), cntA k l ≤ k ∧ cntA k l ≤ l.length
  | 0, _ => by simp [cntA]
  | _ + 1, [] => by simp [cntA]
  | k + 1, x :: r => by
    have := cntA_le k r
    rw [cntA]
    split
    · simp only [List.length_cons]; omega
    · simp
theorem cntA_more : ∀ (k : Nat) (l : List UInt8) (i : Nat), i < cntA k l → ∃ x, l[i]? = some x ∧ 128 ≤ x.toNat
  | 0, _, i, h => by simp [cntA] at h
  | _ + 1, [], i, h => by simp [cntA] at h
  | k + 1, x :: r, i, h => by
    rw [cntA] at h
    split at h
    · next hx =>
      cases i with
      | zero => exact ⟨x, rfl, hx⟩
      | succ i => exact cntA_more k r i (by omega)
    · omega
theorem cntA_stop : ∀ (k : Nat) (l : List UInt8) (x : UInt8), cntA k l < k → l[cntA k l]? = some x → x.toNat < 128
  | 0, _, x, h, _ => by omega
  | _ + 1, [], x, h, hx => by simp at hx
  | k + 1, y :: r, x, h, hx => by
    rw [cntA] at h hx
    split at h
    · next hy =>
      rw [if_pos hy] at hx
      exact cntA_stop k r x (by omega) (by simpa using hx)
    · next hy =>
      rw [if_neg hy] at hx
      have : y = x := by simpa using hx
      subst this
      omega
theorem num_cnt (most : Nat) : ∀ (k i acc : Nat) (l : List UInt8), numGo most k i acc l =
    if cntA k l = k then ((0, 0, 11) : Nat × Nat × Int) else match l[cntA k l]? with
      | none => (0, 0, 10)
      | some x => if x.toNat = 0 ∧ 0 < i + cntA k l then (0, 0, 11) else if i + cntA k l = 9 ∧ 1 < x.toNat then (0, 0, 12)
        else if most < acc + decv (l.take (cntA k l + 1)) * 2 ^ (7 * i) then (0, 0, 12) else (acc + decv (l.take (cntA k l + 1)) * 2 ^ (7 * i), i + cntA k l + 1, 0)
  | 0, i, acc, l => by simp [numGo, cntA]
  | k + 1, i, acc, [] => by simp [numGo, cntA]
  | k + 1, i, acc, x :: r => by
    rw [numGo, cntA]
    by_cases hx : 128 ≤ x.toNat
    · rw [if_pos hx, if_pos hx, num_cnt most k (i + 1) _ r]
      have hlt := x.toNat_lt
      have e1 : ∀ t, acc + (x.toNat - 128) * 2 ^ (7 * i) + decv t * 2 ^ (7 * (i + 1)) = acc + decv (x :: t) * 2 ^ (7 * i) := by
        intro t
        rw [pow7, decv]
        have e2 : x.toNat % 128 = x.toNat - 128 := by omega
        have e3 : decv t * (128 * 2 ^ (7 * i)) = (128 * decv t) * 2 ^ (7 * i) := by rw [← Nat.mul_assoc, Nat.mul_comm (decv t) 128]
        rw [e2, e3, Nat.add_assoc, ← Nat.add_mul]
      have e4 : (cntA k r + 1 = k + 1) = (cntA k r = k) := by simp
      have e5 : i + 1 + cntA k r = i + (cntA k r + 1) := by omega
      rw [List.getElem?_cons_succ, List.take_succ_cons, e5]
      simp only [e4, e1]
    · rw [if_neg hx, if_neg hx, if_neg (show ¬ 0 = k + 1 by omega)]
      have e2 : x.toNat % 128 = x.toNat := by omega
      simp [decv, e2]
/-- The number, as the reference says it. -/
theorem number_cnt (most : Nat) (l : List UInt8) : number most l =
    if cntA 10 l = 10 then ((0, 0, 11) : Nat × Nat × Int) else match l[cntA 10 l]? with
      | none => (0, 0, 10)
      | some x => if x.toNat = 0 ∧ 0 < cntA 10 l then (0, 0, 11) else if cntA 10 l = 9 ∧ 1 < x.toNat then (0, 0, 12)
        else if most < decv (l.take (cntA 10 l + 1)) then (0, 0, 12) else (decv (l.take (cntA 10 l + 1)), cntA 10 l + 1, 0) := by
  unfold number
  rw [num_cnt]
  simp
theorem decv_snoc : ∀ (l : List UInt8) (x : UInt8), decv (l ++ [x]) = decv l + x.toNat % 128 * 128 ^ l.length
  | [], x => by simp [decv]
  | y :: l, x => by
    rw [List.cons_append, decv, decv, decv_snoc l x, List.length_cons, Nat.pow_succ, Nat.mul_add]
    have : 128 * (x.toNat % 128 * 128 ^ l.length) = x.toNat % 128 * (128 ^ l.length * 128) := by
      rw [Nat.mul_comm (128 ^ l.length) 128, ← Nat.mul_assoc, ← Nat.mul_assoc, Nat.mul_comm 128 (x.toNat % 128)]
    omega
theorem decv_lt : ∀ (l : List UInt8), decv l < 128 ^ l.length
  | [] => by simp [decv]
  | x :: l => by
    have := decv_lt l
    rw [decv, List.length_cons, Nat.pow_succ]
    have h2 : x.toNat % 128 < 128 := Nat.mod_lt _ (by omega)
    omega
/-- Ten digits whose last is one at most. -/
theorem decv_fits (l : List UInt8) (x : UInt8) (hl : l.length ≤ 9) (hx : l.length = 9 → x.toNat ≤ 1) : decv (l ++ [x]) < 18446744073709551616 := by
  rw [decv_snoc]
  have h1 := decv_lt l
  by_cases h : l.length = 9
  · have := hx h
    have h2 : x.toNat % 128 ≤ 1 := by omega
    have h3 : x.toNat % 128 * 128 ^ l.length ≤ 1 * 128 ^ l.length := Nat.mul_le_mul_right _ h2
    rw [h] at h1 h3 ⊢
    omega
  · have h2 : x.toNat % 128 ≤ 127 := by have := Nat.mod_lt x.toNat (show 0 < 128 by omega); omega
    have h3 : x.toNat % 128 * 128 ^ l.length ≤ 127 * 128 ^ l.length := Nat.mul_le_mul_right _ h2
    have h4 : 128 ^ l.length ≤ 128 ^ 8 := Nat.pow_le_pow_right (by omega) (by omega)
    omega
/-- From the last digit down: a step. -/
theorem decv_step (l : List UInt8) (i : Nat) (x : UInt8) (h : l[i]? = some x) : decv (l.drop i) = decv (l.drop (i + 1)) * 128 + x.toNat % 128 := by
  obtain ⟨hl, he⟩ := List.getElem?_eq_some_iff.1 h
  rw [List.drop_eq_getElem_cons hl, he, decv]
  omega
theorem decv_drop_le (l : List UInt8) (i : Nat) : decv (l.drop i) ≤ decv l := by
  induction l generalizing i with
  | nil => simp [decv]
  | cons x l ih =>
    cases i with
    | zero => simp
    | succ i =>
      have := ih i
      rw [List.drop_succ_cons, decv]
      omega
end Go.Proofs.Ytglhkfiigbbpdaa
