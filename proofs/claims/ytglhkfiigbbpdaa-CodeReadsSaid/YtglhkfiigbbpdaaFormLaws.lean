/-
  Laws of the form, in plain Lean.
-/
import Derived.Test.YtglhkfiigbbpdaaReader
namespace Go.Proofs.Ytglhkfiigbbpdaa
open Go.RowKit
theorem u8_ofNat {n : Nat} (h : n < 256) : (UInt8.ofNat n).toNat = n := by
  rw [UInt8.toNat_ofNat']
  omega
theorem u8_eq {x : UInt8} {n : Nat} (h : x.toNat = n) : UInt8.ofNat n = x := by
  rw [← h]
  simp
theorem pow7 (i : Nat) : 2 ^ (7 * (i + 1)) = 128 * 2 ^ (7 * i) := by rw [Nat.mul_add, Nat.pow_add, Nat.mul_comm]
theorem split_mul (acc n P : Nat) : acc + (n % 128) * P + (n / 128) * (128 * P) = acc + n * P := by
  have h := Nat.div_add_mod n 128
  have e : (n / 128) * (128 * P) = (128 * (n / 128)) * P := by rw [← Nat.mul_assoc, Nat.mul_comm (n / 128) 128]
  rw [e, Nat.add_assoc, ← Nat.add_mul, Nat.add_comm (n % 128), h]

theorem num_form (most : Nat) (r : List UInt8) : ∀ (n i acc : Nat), i ≤ 9 → acc + n * 2 ^ (7 * i) < 18446744073709551616 → (0 < i → 0 < n) →
    numGo most (10 - i) i acc (form n ++ r) = if acc + n * 2 ^ (7 * i) ≤ most then (acc + n * 2 ^ (7 * i), i + (form n).length, 0) else (0, 0, 12) := by
  intro n
  induction n using Nat.strongRecOn with
  | _ n ih =>
    intro i acc hi hv h0
    rw [show 10 - i = (9 - i) + 1 by omega]
    by_cases hn : n < 128
    · have hx : (UInt8.ofNat n).toNat = n := u8_ofNat (by omega)
      have h9 : ¬ (i = 9 ∧ 1 < n) := by
        rintro ⟨rfl, h1⟩
        have : 2 * 2 ^ (7 * 9) ≤ n * 2 ^ (7 * 9) := Nat.mul_le_mul_right _ h1
        omega
      rw [form_lt hn, List.singleton_append, numGo, hx, if_neg (by omega), if_neg (by omega), if_neg h9]
      by_cases hb : acc + n * 2 ^ (7 * i) ≤ most
      · rw [if_neg (by omega), if_pos hb]
        rfl
      · rw [if_pos (by omega), if_neg hb]
    · have hx : (UInt8.ofNat (n % 128 + 128)).toNat = n % 128 + 128 := u8_ofNat (by omega)
      have hi9 : i + 1 ≤ 9 := by
        rcases Nat.lt_or_ge i 9 with h | h
        · omega
        · have : i = 9 := by omega
          subst this
          have : 128 * 2 ^ (7 * 9) ≤ n * 2 ^ (7 * 9) := Nat.mul_le_mul_right _ (by omega)
          omega
      have es := split_mul acc n (2 ^ (7 * i))
      rw [form_ge hn, List.cons_append, numGo, hx, if_pos (by omega), Nat.add_sub_cancel]
      have := ih (n / 128) (by omega) (i + 1) (acc + n % 128 * 2 ^ (7 * i)) hi9 (by rw [pow7, es]; exact hv) (fun _ => by omega)
      rw [show 10 - (i + 1) = 9 - i by omega, pow7, es] at this
      rw [this, List.length_cons]
      have e2 : i + 1 + (form (n / 128)).length = i + ((form (n / 128)).length + 1) := by omega
      rw [e2]
/-- What a form is taken up as. -/
theorem number_form (most n : Nat) (r : List UInt8) (hn : n < 18446744073709551616) : number most (form n ++ r) = if n ≤ most then (n, (form n).length, 0) else (0, 0, 12) := by
  have := num_form most r n 0 0 (by omega) (by simpa using hn) (fun h => absurd h (by omega))
  simpa [number] using this
theorem form_inj {n m : Nat} (hn : n < 18446744073709551616) (hm : m < 18446744073709551616) (h : form n = form m) : n = m := by
  have h1 := number_form 18446744073709551615 n [] hn
  have h2 := number_form 18446744073709551615 m [] hm
  rw [h, h2, if_pos (by omega), if_pos (by omega)] at h1
  exact (Prod.mk.inj h1).1.symm
theorem form_len_mono : ∀ (m n : Nat), n ≤ m → (form n).length ≤ (form m).length := by
  intro m
  induction m using Nat.strongRecOn with
  | _ m ih =>
    intro n h
    by_cases hm : m < 128
    · rw [form_lt hm, form_lt (by omega)]
      simp
    · by_cases hn : n < 128
      · rw [form_lt hn]
        exact form_pos m
      · rw [form_ge hm, form_ge hn, List.length_cons, List.length_cons]
        have := ih (m / 128) (by omega) (n / 128) (Nat.div_le_div_right h)
        omega
/-- A beginning of a form. -/
theorem num_short (most : Nat) : ∀ (n i acc c : Nat), i + (form n).length ≤ 10 → c < (form n).length → numGo most (10 - i) i acc ((form n).take c) = (0, 0, 10) := by
  intro n
  induction n using Nat.strongRecOn with
  | _ n ih =>
    intro i acc c hi hc
    rw [show 10 - i = (9 - i) + 1 by have := form_pos n; omega]
    cases c with
    | zero => rw [List.take_zero, numGo]
    | succ c =>
      by_cases hn : n < 128
      · rw [form_lt hn] at hc
        simp at hc
      · have hx : (UInt8.ofNat (n % 128 + 128)).toNat = n % 128 + 128 := u8_ofNat (by omega)
        rw [form_ge hn, List.length_cons] at hi hc
        rw [form_ge hn, List.take_succ_cons, numGo, hx, if_pos (by omega)]
        have := ih (n / 128) (by omega) (i + 1) (acc + (n % 128 + 128 - 128) * 2 ^ (7 * i)) c (by omega) (by omega)
        rw [show 10 - (i + 1) = 9 - i by omega] at this
        exact this
theorem number_short (most n c : Nat) (hn : n < 18446744073709551616) (hc : c < (form n).length) : number most ((form n).take c) = (0, 0, 10) :=
  num_short most n 0 0 c (by have := form_len hn; omega) hc
/-- What is taken up as a number is that number's form. -/
theorem num_inv (most : Nat) : ∀ (k i acc : Nat) (l : List UInt8) (v sz : Nat), numGo most k i acc l = (v, sz, 0) → ∃ n, v = acc + n * 2 ^ (7 * i) ∧ sz = i + (form n).length ∧ form n = l.take (form n).length ∧ (0 < i → 0 < n)
  | 0, i, acc, l, v, sz, h => by simp [numGo] at h
  | k + 1, i, acc, [], v, sz, h => by simp [numGo] at h
  | k + 1, i, acc, x :: r, v, sz, h => by
    rw [numGo] at h
    split at h
    · next hx =>
      obtain ⟨n, h1, h2, h3, h4⟩ := num_inv most k (i + 1) _ r v sz h
      have hlt := x.toNat_lt
      have hn : ¬ (x.toNat - 128 + 128 * n) < 128 := by have := h4 (by omega); omega
      have e1 : (x.toNat - 128 + 128 * n) / 128 = n := by omega
      have e2 : (x.toNat - 128 + 128 * n) % 128 + 128 = x.toNat := by omega
      refine ⟨x.toNat - 128 + 128 * n, ?_, ?_, ?_, fun _ => by omega⟩
      · rw [h1, pow7]
        have e : n * (128 * 2 ^ (7 * i)) = (128 * n) * 2 ^ (7 * i) := by rw [← Nat.mul_assoc, Nat.mul_comm n 128]
        rw [e, Nat.add_assoc, ← Nat.add_mul]
      · rw [form_ge hn, e1, List.length_cons, h2]
        omega
      · rw [form_ge hn, e1, e2, u8_eq rfl, List.length_cons, List.take_succ_cons, ← h3]
    · next hx =>
      split at h
      · simp at h
      · next hz =>
        split at h
        · simp at h
        · split at h
          · simp at h
          · have hxl : x.toNat < 128 := by omega
            simp only [Prod.mk.injEq, and_true] at h
            refine ⟨x.toNat, h.1.symm, ?_, ?_, fun hi => by omega⟩
            · rw [form_lt hxl]; exact h.2.symm
            · rw [form_lt hxl, u8_eq rfl]; rfl
theorem number_inv {most : Nat} {l : List UInt8} {v sz : Nat} (h : number most l = (v, sz, 0)) : sz = (form v).length ∧ form v = l.take sz := by
  obtain ⟨n, h1, h2, h3, _⟩ := num_inv most 10 0 0 l v sz h
  have : v = n := by simpa using h1
  subst this
  have : sz = (form v).length := by simpa using h2
  subst this
  exact ⟨rfl, h3⟩
end Go.Proofs.Ytglhkfiigbbpdaa
