/-
  The number with which bytes begin.
-/
import Derived.Test.YtglhkfiigbbpdaaForm
import Derived.Laws.Bits64b
set_option maxHeartbeats 1000000
namespace Go.Proofs
open Go.RowKit
namespace Ytglhkfiigbbpdaa
attribute [local go_sem ↓] Go.wp_at_zero Go.wp_at_succ
/-- The number, how many bytes it has, the error: from digit i on, of k that may still be. -/
def numGo (most : Nat) : Nat → Nat → Nat → List UInt8 → Nat × Nat × Int
  | 0, _, _, _ => (0, 0, 11)
  | _ + 1, _, _, [] => (0, 0, 10)
  | k + 1, i, acc, x :: r =>
    if 128 ≤ x.toNat then numGo most k (i + 1) (acc + (x.toNat - 128) * 2 ^ (7 * i)) r
    else if x.toNat = 0 ∧ 0 < i then (0, 0, 11)
    else if i = 9 ∧ 1 < x.toNat then (0, 0, 12)
    else if most < acc + x.toNat * 2 ^ (7 * i) then (0, 0, 12)
    else (acc + x.toNat * 2 ^ (7 * i), i + 1, 0)
def number (most : Nat) (l : List UInt8) : Nat × Nat × Int := numGo most 10 0 0 l
def numVal (p : Nat × Nat × Int) : Value := .tuple #[.int .u64 (p.1 : Int), .int .i64 (p.2.1 : Int), .int .i64 p.2.2]
theorem or_add (acc y k : Nat) (h1 : acc < 2 ^ (7 * k)) (h2 : acc + y * 2 ^ (7 * k) < 18446744073709551616) : bits BinOp.or IntKind.u64 (acc : Int) (IntKind.u64.wrap ((y : Int) * 2 ^ (7 * k))) = ((acc + y * 2 ^ (7 * k) : Nat) : Int) := by
  have e1 : ((y : Int) * 2 ^ (7 * k)) = ((y * 2 ^ (7 * k) : Nat) : Int) := by push_cast; rfl
  have e2 : IntKind.u64.wrap ((y : Int) * 2 ^ (7 * k)) = ((y * 2 ^ (7 * k) : Nat) : Int) := by
    rw [e1, IntKind.wrap_u64]
    omega
  rw [e2, bits_or_u64_nat acc (y * 2 ^ (7 * k)) (by omega) (by omega)]
  congr 1
  have := Nat.shiftLeft_add_eq_or_of_lt h1 y
  rw [Nat.shiftLeft_eq] at this
  rw [Nat.or_comm, ← this, Nat.add_comm]
theorem pow_step {acc k : Nat} (h1 : acc < 2 ^ (7 * k)) {y : Nat} (hy : y < 128) : acc + y * 2 ^ (7 * k) < 2 ^ (7 * (k + 1)) := by
  have e : 2 ^ (7 * (k + 1)) = 2 ^ (7 * k) * 128 := by rw [Nat.mul_add, Nat.pow_add]
  rw [e]
  have : y * 2 ^ (7 * k) ≤ 127 * 2 ^ (7 * k) := Nat.mul_le_mul_right _ (by omega)
  omega
theorem pow_le {k : Nat} (hk : k ≤ 9) : 2 ^ (7 * k) ≤ 9223372036854775808 := Nat.pow_le_pow_right (by omega) (show 7 * k ≤ 63 by omega)
theorem numGo_more (most k acc : Nat) (x : UInt8) (r : List UInt8) (n : Nat) (h : 128 ≤ x.toNat) : numGo most (n + 1) k acc (x :: r) = numGo most n (k + 1) (acc + (x.toNat - 128) * 2 ^ (7 * k)) r := by
  rw [numGo, if_pos h]

theorem number_any (v : Value) (l : List UInt8) (most : Nat) (w : World) (h : Rd w v l) (_hl : l.length ≤ 281474976710656) (_hm : most < 18446744073709551616) :
    Calls Try.prog 30 #[v, .int .u64 (most : Int)] w fun e w' => e = .returned (numVal (number most l)) ∧ w' = w := by
  obtain ⟨A, c, rfl, hlc, hA⟩ := h
  have HA := Lib.hid hA
  clear hA
  go_enter Try.func30, Try.ntmps30
  go_wp2_with fail
  go_loopw [7, 10] (fun z i wr => ∃ (k : Nat) (acc : Nat) (zz : Int), k ≤ 10 ∧ i = .int .i64 (k : Int) ∧ z = .int .u64 zz ∧ Hid (k ≤ 9 → zz = acc ∧ acc < 2 ^ (7 * k)) ∧ k ≤ l.length ∧ Hid (number most l = numGo most (10 - k) k acc (l.drop k)) ∧ w = wr)
    (fun _ i _ => 10 - (intOf i).toNat)
  case atStart => exact ⟨0, 0, 0, by omega, rfl, rfl, Lib.hid (fun _ => ⟨rfl, by simp⟩), Nat.zero_le _, rfl, rfl⟩
  case round =>
    obtain ⟨k, acc, zz, hk, rfl, rfl, HZ, hkl, HG, rfl⟩ := hrel
    by_cases hk9 : k ≤ 9
    · have hd : decide ((k : Int) < 10) = true := by simp; omega
      obtain ⟨rfl, hacc⟩ := HZ.out hk9
      have HACC := Lib.hid hacc
      clear hacc HZ
      by_cases hend : k = l.length
      · have he : ((k : Int) == (l.length : Int)) = true := by simp [hend]
        have HE := Lib.hid hend
        clear hend
        go_wp2_with fail
        go_ret3
        refine ⟨?_, rfl⟩
        rw [HG.out, show 10 - k = (9 - k) + 1 by omega, List.drop_eq_nil_of_le (by rw [HE.out]; exact Nat.le_refl _), numGo]
        rfl
      · have he : ((k : Int) == (l.length : Int)) = false := by rw [beq_eq_false_iff_ne]; omega
        have hlt : k < l.length := by omega
        have hli : (k : Int) < (l.length : Int) := by omega
        obtain ⟨x, hx⟩ : ∃ x, l[k]? = some x := ⟨_, List.getElem?_eq_getElem hlt⟩
        have hdr : l.drop k = x :: l.drop (k + 1) := by rw [List.drop_eq_getElem_cons hlt, (List.getElem?_eq_some_iff.1 hx).2]
        have HG2 : Hid (number most l = numGo most ((9 - k) + 1) k acc (x :: l.drop (k + 1))) := by rw [← hdr, show (9 - k) + 1 = 10 - k by omega]; exact HG
        obtain ⟨b, off, ha, c0⟩ := HA.out k x hx
        subst ha
        clear hx hdr HG
        by_cases hx128 : 128 ≤ x.toNat
        · have hb : decide ((128 : Int) ≤ (x.toNat : Int)) = true := by simp; omega
          have HX := Lib.hid hx128
          clear hx128 hend
          go_wp2_with fail
          go_roundw
          case rel =>
            refine ⟨k + 1, acc + (x.toNat - 128) * 2 ^ (7 * k), _, by omega, by go_num, rfl, Lib.hid (fun h9 => ?_), by omega, Lib.hid ?_, trivial⟩
            · have h3 := pow_step HACC.out (y := x.toNat - 128) (by have := x.toNat_lt; omega)
              have h4 := pow_le h9
              have e1 : ((x.toNat : Int) - 128) % 256 = ((x.toNat - 128 : Nat) : Int) := by
                have h1 := HX.out
                have h2 := x.toNat_lt
                omega
              rw [e1]
              exact ⟨or_add _ _ _ HACC.out (by omega), h3⟩
            · rw [HG2.out, numGo_more _ _ _ _ _ _ HX.out, show 10 - (k + 1) = 9 - k by omega]
          case measure => simp [intOf]; omega
        · have hb : decide ((128 : Int) ≤ (x.toNat : Int)) = false := by simp; omega
          have HX := Lib.hid hx128
          clear hx128 hend
          by_cases hz : x.toNat = 0 ∧ 0 < k
          · have e0 : ((x.toNat : Int) == 0) = true := by rw [hz.1]; rfl
            have e1 : decide (0 < (k : Int)) = true := by simp; omega
            have e1n : 0 < k := hz.2
            have HZ := Lib.hid hz
            clear hz
            go_wp2_with fail
            go_ret3
            refine ⟨?_, rfl⟩
            rw [HG2.out, numGo, if_neg HX.out, if_pos HZ.out]
            rfl
          · by_cases h9 : k = 9 ∧ 1 < x.toNat
            · have e0 : ((x.toNat : Int) == 0) = false := by rw [beq_eq_false_iff_ne]; omega
              have e9 : ((k : Int) == 9) = true := by rw [h9.1]; rfl
              have e1 : decide (1 < (x.toNat : Int)) = true := by simp; omega
              have e1n : 1 < x.toNat := h9.2
              have HZ := Lib.hid hz
              have H9 := Lib.hid h9
              clear hz h9
              go_wp2_with fail
              go_ret3
              refine ⟨?_, rfl⟩
              rw [HG2.out, numGo, if_neg HX.out, if_neg HZ.out, if_pos H9.out]
              rfl
            · have hval : acc + x.toNat * 2 ^ (7 * k) < 18446744073709551616 := by
                have h1 := HACC.out
                by_cases h : k = 9
                · subst h
                  have : x.toNat ≤ 1 := by omega
                  have : x.toNat * 2 ^ (7 * 9) ≤ 1 * 2 ^ (7 * 9) := Nat.mul_le_mul_right _ this
                  omega
                · have h3 := pow_step h1 (y := x.toNat) (by have := HX.out; omega)
                  have h4 := pow_le (k := k + 1) (by omega)
                  omega
              have hor := or_add acc x.toNat k HACC.out hval
              have hxw : IntKind.u64.wrap (x.toNat : Int) = (x.toNat : Int) := by have := x.toNat_lt; rw [IntKind.wrap_u64]; omega
              have HZ := Lib.hid hz
              have H9 := Lib.hid h9
              obtain ⟨val, hve⟩ : ∃ val, acc + x.toNat * 2 ^ (7 * k) = val := ⟨_, rfl⟩
              rw [hve] at hor hval
              have HVE := Lib.hid hve
              clear hve
              have e0 : (((x.toNat : Int) == 0) = false ∨ ((x.toNat : Int) == 0) = true ∧ decide (0 < (k : Int)) = false ∧ ¬ 0 < k) := by
                by_cases h : x.toNat = 0
                · exact .inr ⟨by rw [h]; rfl, by simp; omega, by omega⟩
                · exact .inl (by rw [beq_eq_false_iff_ne]; omega)
              have e9 : (((k : Int) == 9) = false ∨ ((k : Int) == 9) = true ∧ decide (1 < (x.toNat : Int)) = false ∧ ¬ 1 < x.toNat) := by
                by_cases h : k = 9
                · exact .inr ⟨by rw [h]; rfl, by simp; omega, by omega⟩
                · exact .inl (by rw [beq_eq_false_iff_ne]; omega)
              clear hz h9
              by_cases hbig : most < val
              · have hdb : decide ((most : Int) < (val : Int)) = true := by simp; omega
                have HB := Lib.hid hbig
                clear hbig
                rcases e0 with e0 | ⟨e0, e1, e1n⟩ <;> rcases e9 with e9 | ⟨e9, e2, e2n⟩
                all_goals go_wp2_with fail
                all_goals go_ret3
                all_goals refine ⟨?_, rfl⟩
                all_goals rw [HG2.out, numGo, if_neg HX.out, if_neg HZ.out, if_neg H9.out, HVE.out, if_pos HB.out]
                all_goals rfl
              · have hdb : decide ((most : Int) < (val : Int)) = false := by simp; omega
                have HB := Lib.hid hbig
                clear hbig
                rcases e0 with e0 | ⟨e0, e1, e1n⟩ <;> rcases e9 with e9 | ⟨e9, e2, e2n⟩
                all_goals go_wp2_with fail
                all_goals go_ret3
                all_goals refine ⟨?_, rfl⟩
                all_goals rw [HG2.out, numGo, if_neg HX.out, if_neg HZ.out, if_neg H9.out, HVE.out, if_neg HB.out]
                all_goals rfl
    · have hd : decide ((k : Int) < 10) = false := by simp; omega
      have hk10 : k = 10 := by omega
      have HK := Lib.hid hk10
      clear hk10
      go_wp2_with fail
      go_ret3
      refine ⟨?_, rfl⟩
      rw [HG.out, HK.out]
      rfl
end Ytglhkfiigbbpdaa
end Go.Proofs
