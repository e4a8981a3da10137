/-
  CodeBack, in plain Lean: what was laid down, and its beginnings, taken up.
-/
import Derived.Test.YtglhkfiigbbpdaaFormLaws
namespace Go.Proofs.Ytglhkfiigbbpdaa
open Go.RowKit
/-- What the law lays down. -/
def laidB (n : Nat) (a : List UInt8) (m : Nat) : List UInt8 := form n ++ (form a.length ++ (a ++ form m))
theorem rnum_form (n most : Nat) (r : List UInt8) (hn : n < 18446744073709551616) (h : n ≤ most) : rnum (form n ++ r) 0 most = (n, r, 0) := by
  unfold rnum
  rw [if_neg (by simp), number_form most n r hn, if_pos h]
  simp
theorem rnum_big (n most : Nat) (r : List UInt8) (hn : n < 18446744073709551616) (h : ¬ n ≤ most) : rnum (form n ++ r) 0 most = (0, form n ++ r, 12) := by
  unfold rnum
  rw [if_neg (by simp), number_form most n r hn, if_neg h]
  simp
theorem rraw_app (a r : List UInt8) : rraw (a ++ r) 0 (a.length : Int) = (a, r, 0) := by
  unfold rraw
  rw [if_neg (by simp), if_neg (by omega), if_neg (by rw [List.length_append]; omega)]
  simp
theorem rbytes_form (a r : List UInt8) (ha : a.length < 9223372036854775808) : rbytes (form a.length ++ (a ++ r)) 0 (a.length : Int) = (a, r, 0) := by
  have hn := number_form a.length a.length (a ++ r) (by omega)
  rw [if_pos (Nat.le_refl _)] at hn
  have e : (a.length : Int).toNat = a.length := by simp
  unfold rbytes
  rw [if_neg (by simp), e, hn, if_neg (by simp), if_neg (by simp only [List.length_append]; omega)]
  simp only
  rw [List.drop_left, rraw_app]
theorem rnum_err (l : List UInt8) (e : Int) (most : Nat) (he : e ≠ 0) : rnum l e most = (0, l, e) := by unfold rnum; rw [if_pos he]
theorem rbytes_err (l : List UInt8) (e many : Int) (he : e ≠ 0) : rbytes l e many = ([], l, e) := by unfold rbytes; rw [if_pos he]
theorem rnum_short (n most c : Nat) (hn : n < 18446744073709551616) (hc : c < (form n).length) : (rnum ((form n).take c) 0 most).2.2 = 10 := by
  unfold rnum
  rw [if_neg (by simp), number_short most n c hn hc]
/-- The three calls on a beginning end with ErrCodeShort. -/
theorem back_short (n m c : Nat) (a : List UInt8) (hn : n < 18446744073709551616) (hm : m < 18446744073709551616) (ha : a.length < 9223372036854775808) (hc : c < (laidB n a m).length) :
    (rnum (rbytes (rnum ((laidB n a m).take c) 0 n).2.1 (rnum ((laidB n a m).take c) 0 n).2.2 (a.length : Int)).2.1 (rbytes (rnum ((laidB n a m).take c) 0 n).2.1 (rnum ((laidB n a m).take c) 0 n).2.2 (a.length : Int)).2.2 m).2.2 = 10 := by
  unfold laidB at hc ⊢
  simp only [List.length_append] at hc
  by_cases h1 : c < (form n).length
  · have e1 : (form n ++ (form a.length ++ (a ++ form m))).take c = (form n).take c := by rw [List.take_append_of_le_length (by omega)]
    have h2 : rnum ((form n).take c) 0 n = (0, (form n).take c, 10) := by
      unfold rnum
      rw [if_neg (by simp), number_short n n c hn h1]
      simp
    rw [e1, h2, rbytes_err _ _ _ (by simp), rnum_err _ _ _ (by simp)]
  · have e1 : (form n ++ (form a.length ++ (a ++ form m))).take c = form n ++ (form a.length ++ (a ++ form m)).take (c - (form n).length) := by rw [List.take_append, List.take_of_length_le (by omega)]
    rw [e1, rnum_form n n _ hn (Nat.le_refl _)]
    simp only
    obtain ⟨c2, hc2⟩ : ∃ c2, c - (form n).length = c2 := ⟨_, rfl⟩
    rw [hc2]
    have hc3 : c2 < (form a.length).length + (a.length + (form m).length) := by omega
    by_cases h2 : c2 < (form a.length).length
    · have e2 : (form a.length ++ (a ++ form m)).take c2 = (form a.length).take c2 := by rw [List.take_append_of_le_length (by omega)]
      have h3 : rbytes ((form a.length).take c2) 0 (a.length : Int) = ([], (form a.length).take c2, 10) := by
        have e : (a.length : Int).toNat = a.length := by simp
        unfold rbytes
        rw [if_neg (by simp), e, number_short a.length a.length c2 (by omega) h2, if_pos (by simp)]
      rw [e2, h3, rnum_err _ _ _ (by simp)]
    · have e2 : (form a.length ++ (a ++ form m)).take c2 = form a.length ++ (a ++ form m).take (c2 - (form a.length).length) := by rw [List.take_append, List.take_of_length_le (by omega)]
      rw [e2]
      obtain ⟨c4, hc4⟩ : ∃ c4, c2 - (form a.length).length = c4 := ⟨_, rfl⟩
      rw [hc4]
      by_cases h3 : c4 < a.length
      · have h5 : rbytes (form a.length ++ (a ++ form m).take c4) 0 (a.length : Int) = ([], form a.length ++ (a ++ form m).take c4, 10) := by
          have e : (a.length : Int).toNat = a.length := by simp
          have hn := number_form a.length a.length ((a ++ form m).take c4) (by omega)
          rw [if_pos (Nat.le_refl _)] at hn
          unfold rbytes
          rw [if_neg (by simp), e, hn, if_neg (by simp), if_pos (by simp only [List.length_append, List.length_take]; omega)]
        rw [h5, rnum_err _ _ _ (by simp)]
      · have e3 : (a ++ form m).take c4 = a ++ (form m).take (c4 - a.length) := by rw [List.take_append, List.take_of_length_le (by omega)]
        rw [e3, rbytes_form a _ ha]
        simp only
        exact rnum_short m m _ hm (by omega)
end Go.Proofs.Ytglhkfiigbbpdaa
