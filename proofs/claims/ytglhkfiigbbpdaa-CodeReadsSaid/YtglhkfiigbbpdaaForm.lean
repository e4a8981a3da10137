/-
  A number's form, in plain Lean.
-/
import Derived.Test.YtglhkfiigbbpdaaCopied
namespace Go.Proofs.Ytglhkfiigbbpdaa
open Go.RowKit
/-- Digits to the base 128, the lowest first. -/
def form (n : Nat) : List UInt8 := if n < 128 then [UInt8.ofNat n] else UInt8.ofNat (n % 128 + 128) :: form (n / 128)
termination_by n
decreasing_by omega
theorem form_lt {n : Nat} (h : n < 128) : form n = [UInt8.ofNat n] := by rw [form, if_pos h]
theorem form_ge {n : Nat} (h : ¬ n < 128) : form n = UInt8.ofNat (n % 128 + 128) :: form (n / 128) := by rw [form, if_neg h]
theorem form_len_pow : ∀ (k n : Nat), n < 128 ^ (k + 1) → (form n).length ≤ k + 1
  | 0, n, h => by rw [form_lt (by simpa using h)]; simp
  | k + 1, n, h => by
    by_cases hn : n < 128
    · rw [form_lt hn]; simp
    · rw [form_ge hn, List.length_cons]
      have : n / 128 < 128 ^ (k + 1) := by
        rw [Nat.div_lt_iff_lt_mul (by omega)]
        rw [Nat.pow_succ] at h
        exact h
      have := form_len_pow k (n / 128) this
      omega
theorem form_len {n : Nat} (h : n < 18446744073709551616) : (form n).length ≤ 10 := form_len_pow 9 n (by omega)
theorem form_pos (n : Nat) : 1 ≤ (form n).length := by
  by_cases hn : n < 128
  · rw [form_lt hn]; simp
  · rw [form_ge hn]; simp
end Go.Proofs.Ytglhkfiigbbpdaa
