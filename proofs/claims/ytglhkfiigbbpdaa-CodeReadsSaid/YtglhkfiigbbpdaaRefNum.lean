/-
  The reference's number.
-/
import Derived.Test.YtglhkfiigbbpdaaRefNumPure
set_option maxHeartbeats 2000000
set_option maxRecDepth 100000
namespace Go.Proofs
open Go.RowKit
namespace Ytglhkfiigbbpdaa
attribute [local go_sem ↓] Go.wp_at_zero Go.wp_at_succ
theorem refNumber_any (v : Value) (l : List UInt8) (most : Nat) (w : World) (h : Rd w v l) (hl : l.length ≤ 281474976710656) (_hm : most < 18446744073709551616) :
    Calls Try.prog 31 #[v, .int .u64 (most : Int)] w fun e w' => e = .returned (numVal (number most l)) ∧ w' = w := by
  obtain ⟨A, c, rfl, hlc, hA⟩ := h
  have HA := Lib.hid hA
  have HNC := Lib.hid (number_cnt most l)
  have hcl := cntA_le 10 l
  have HMORE := Lib.hid (cntA_more 10 l)
  have HSTOP := Lib.hid (cntA_stop 10 l)
  obtain ⟨C, hC⟩ : ∃ C, cntA 10 l = C := ⟨_, rfl⟩
  rw [hC] at HNC hcl HMORE HSTOP
  clear hA hC
  go_enter Try.func31, Try.ntmps31
  go_wp2_with fail
  go_loopw [7] (fun i wr => ∃ k : Nat, k ≤ C ∧ i = .int .i64 (k : Int) ∧ w = wr) (fun i _ => C - (intOf i).toNat)
  case atStart => exact ⟨0, Nat.zero_le _, rfl, rfl⟩
  case round =>
    obtain ⟨k, hk, rfl, rfl⟩ := hrel
    by_cases hkC : k < C
    · obtain ⟨x, hx, hx128⟩ := HMORE.out k hkC
      have hkl : k < l.length := by omega
      have hli : (k : Int) < (l.length : Int) := by omega
      have hd1 : decide ((k : Int) < (l.length : Int)) = true := by simp; omega
      have hd2 : decide ((k : Int) < 10) = true := by simp; omega
      have hd3 : decide ((128 : Int) ≤ (x.toNat : Int)) = true := by simp; omega
      obtain ⟨b, off, ha, c0⟩ := HA.out k x hx
      subst ha
      clear hx
      go_wp2_with fail
      go_roundw
      case rel => exact ⟨k + 1, by omega, by go_num, trivial⟩
      case measure => simp [intOf]; omega
    · have hkC2 : k = C := by omega
      subst hkC2
      by_cases h10 : k = 10
      · -- ten go on
        have hq : number most l = (0, 0, 11) := by rw [HNC.out, if_pos h10]
        have HQ := Lib.hid hq
        subst h10
        clear hq hkC hcl HNC
        go_wp2_with fail
        all_goals go_ret3
        all_goals exact ⟨by rw [HQ.out]; rfl, rfl⟩
      · have hk10 : k < 10 := by omega
        have hd10 : ((k : Int) == 10) = false := by rw [beq_eq_false_iff_ne]; omega
        have hd2 : decide ((k : Int) < 10) = true := by simp; omega
        by_cases hkl : k < l.length
        · obtain ⟨x, hx⟩ : ∃ x, l[k]? = some x := ⟨_, List.getElem?_eq_getElem hkl⟩
          have hx128 := HSTOP.out x hk10 hx
          have hli : (k : Int) < (l.length : Int) := by omega
          have hdl : ((k : Int) == (l.length : Int)) = false := by rw [beq_eq_false_iff_ne]; omega
          have hd3 : decide ((128 : Int) ≤ (x.toNat : Int)) = false := by simp; omega
          obtain ⟨b, off, ha, c0⟩ := HA.out k x hx
          subst ha
          obtain ⟨T, hT⟩ : ∃ T, l.take (k + 1) = T := ⟨_, rfl⟩
          have hTL : T.length = k + 1 := by rw [← hT, List.length_take]; omega
          have hTx : T = l.take k ++ [x] := by
            obtain ⟨h1, h2⟩ := List.getElem?_eq_some_iff.1 hx
            rw [← hT, List.take_succ_eq_append_getElem h1, h2]
          have hq : number most l = if x.toNat = 0 ∧ 0 < k then (0, 0, 11) else if k = 9 ∧ 1 < x.toNat then (0, 0, 12) else if most < decv T then (0, 0, 12) else (decv T, k + 1, 0) := by
            rw [HNC.out, if_neg h10, hx, ← hT]
          clear HNC hkC h10
          by_cases hz : x.toNat = 0 ∧ 0 < k
          · have HQ : Hid (number most l = (0, 0, 11)) := by unfold Hid; rw [hq, if_pos hz]
            have hz0 : ((x.toNat : Int) == 0) = true := by rw [hz.1]; rfl
            have hk0 : decide (0 < (k : Int)) = true := by simp; omega
            have hk0n : 0 < k := hz.2
            clear hq hx hTx hT hz
            go_wp2_with fail
            all_goals go_ret3
            all_goals exact ⟨by rw [HQ.out]; rfl, rfl⟩
          · rw [if_neg hz] at hq
            have hzz : (((x.toNat : Int) == 0) = false ∨ ((x.toNat : Int) == 0) = true ∧ decide (0 < (k : Int)) = false ∧ ¬ 0 < k) := by
              by_cases h : x.toNat = 0
              · exact .inr ⟨by rw [h]; rfl, by simp; omega, by omega⟩
              · exact .inl (by rw [beq_eq_false_iff_ne]; omega)
            by_cases h9 : k = 9 ∧ 1 < x.toNat
            · have HQ : Hid (number most l = (0, 0, 12)) := by unfold Hid; rw [hq, if_pos h9]
              have hz0 : ((x.toNat : Int) == 0) = false := by rw [beq_eq_false_iff_ne]; omega
              have hx1 : decide (1 < (x.toNat : Int)) = true := decide_eq_true (by omega)
              have hx1n : 1 < x.toNat := h9.2
              have h99 := h9.1
              subst h99
              have h9l : (9 : Int) < (l.length : Int) := by omega
              clear hq hx hTx hT hz h9 hzz
              go_wp2_with fail
              all_goals go_ret3
              all_goals exact ⟨by rw [HQ.out]; rfl, rfl⟩
            · rw [if_neg h9] at hq
              have HQ := Lib.hid hq
              have HTL := Lib.hid hTL
              have HTE := Lib.hid hT.symm
              have HFIT : Hid (decv T < 18446744073709551616) := by
                unfold Hid
                rw [hTx]
                have hl9 : (l.take k).length = k := by rw [List.length_take]; omega
                exact decv_fits _ _ (by omega) (fun h => by omega)
              by_cases hk9 : k = 9
              · subst hk9
                have h9l : (9 : Int) < (l.length : Int) := by omega
                have hx1 : decide (1 < (x.toNat : Int)) = false := by simp; omega
                have hx1n : ¬ 1 < x.toNat := by omega
                have hz0 : ((x.toNat : Int) == 0) = false := by rw [beq_eq_false_iff_ne]; omega
                clear hq hx hTx hT hz h9 hzz hTL
                go_wp2_with fail
                go_loopw [8, 9] (fun z i wr => ∃ j : Nat, j ≤ 9 + 1 ∧ i = .int .i64 ((j : Int) - 1) ∧ z = .int .u64 (decv (T.drop j) : Int) ∧ w = wr) (fun _ i _ => (intOf i + 1).toNat)
                case atStart => exact ⟨9 + 1, Nat.le_refl _, by first | rfl | (congr 1; push_cast; omega), by rw [List.drop_eq_nil_of_le (by rw [HTL.out]; exact Nat.le_refl _)]; rfl, rfl⟩
                case round =>
                  obtain ⟨j, hj, rfl, rfl, rfl⟩ := hrel
                  cases j with
                  | zero =>
                    have e0 : decv (T.drop 0) = decv T := by rw [List.drop_zero]
                    rw [e0]
                    have e1 : (((0 : Nat) : Int) - 1) = -1 := rfl
                    rw [e1]
                    clear e0 e1
                    by_cases hbig : most < decv T
                    · have hdb : decide ((most : Int) < (decv T : Int)) = true := by simp; omega
                      go_wp2_with fail
                      go_ret3
                      refine ⟨?_, rfl⟩
                      rw [HQ.out, if_pos hbig]
                      rfl
                    · have hdb : decide ((most : Int) < (decv T : Int)) = false := by simp; omega
                      go_wp2_with fail
                      go_ret3
                      refine ⟨?_, rfl⟩
                      rw [HQ.out, if_neg hbig]
                      rfl
                  | succ i =>
                    have e0 : (((i + 1 : Nat) : Int) - 1) = (i : Int) := by omega
                    rw [e0]
                    clear e0
                    obtain ⟨y, hy⟩ : ∃ y, l[i]? = some y := ⟨_, List.getElem?_eq_getElem (by omega)⟩
                    have hyT : T[i]? = some y := by rw [HTE.out, List.getElem?_take_of_lt (by omega)]; exact hy
                    have hst := decv_step T i y hyT
                    have hle := decv_drop_le T i
                    have hfit := HFIT.out
                    obtain ⟨b2, off2, ha2, d0⟩ := HA.out i y hy
                    have hii : (i : Int) < (l.length : Int) := by omega
                    have hii0 : 0 ≤ (i : Int) := by omega
                    obtain ⟨D, hD⟩ : ∃ D, decv (T.drop (i + 1)) = D := ⟨_, rfl⟩
                    rw [hD] at hst ⊢
                    have hbd : (D : Int) * 128 + (y.toNat : Int) % 128 < 18446744073709551616 := by omega
                    have hyl : (y.toNat : Int) < 256 := by have := y.toNat_lt; omega
                    injection ha2 with ha2
                    injection ha2 with hb1 hb2
                    subst hb1 hb2
                    have HST := Lib.hid hst
                    clear hy hyT hst hle hD hfit
                    go_wp2_with fail
                    go_roundw
                    case rel =>
                      refine ⟨i, by omega, rfl, ?_, trivial⟩
                      rw [HST.out]
                      congr 1
                    case measure => simp [intOf]
              · have hk9d : ((k : Int) == 9) = false := by rw [beq_eq_false_iff_ne]; omega
                clear hq hx hTx hT hz h9 hTL
                by_cases hk0 : 0 < k
                · have hk0d : decide (0 < (k : Int)) = true := by simp; omega
                  have hz0 : ((x.toNat : Int) == 0) = false := by
                    rcases hzz with h | ⟨_, _, h⟩
                    · exact h
                    · exact absurd hk0 h
                  clear hx128 hzz
                  go_wp2_with fail
                  go_loopw [8, 9] (fun z i wr => ∃ j : Nat, j ≤ k + 1 ∧ i = .int .i64 ((j : Int) - 1) ∧ z = .int .u64 (decv (T.drop j) : Int) ∧ w = wr) (fun _ i _ => (intOf i + 1).toNat)
                  case atStart => exact ⟨k + 1, Nat.le_refl _, by first | rfl | (congr 1; push_cast; omega), by rw [List.drop_eq_nil_of_le (by rw [HTL.out]; exact Nat.le_refl _)]; rfl, rfl⟩
                  case round =>
                    obtain ⟨j, hj, rfl, rfl, rfl⟩ := hrel
                    cases j with
                    | zero =>
                      have e0 : decv (T.drop 0) = decv T := by rw [List.drop_zero]
                      rw [e0]
                      have e1 : (((0 : Nat) : Int) - 1) = -1 := rfl
                      rw [e1]
                      clear e0 e1
                      by_cases hbig : most < decv T
                      · have hdb : decide ((most : Int) < (decv T : Int)) = true := by simp; omega
                        go_wp2_with fail
                        go_ret3
                        refine ⟨?_, rfl⟩
                        rw [HQ.out, if_pos hbig]
                        rfl
                      · have hdb : decide ((most : Int) < (decv T : Int)) = false := by simp; omega
                        go_wp2_with fail
                        go_ret3
                        refine ⟨?_, rfl⟩
                        rw [HQ.out, if_neg hbig]
                        rfl
                    | succ i =>
                      have e0 : (((i + 1 : Nat) : Int) - 1) = (i : Int) := by omega
                      rw [e0]
                      clear e0
                      obtain ⟨y, hy⟩ : ∃ y, l[i]? = some y := ⟨_, List.getElem?_eq_getElem (by omega)⟩
                      have hyT : T[i]? = some y := by rw [HTE.out, List.getElem?_take_of_lt (by omega)]; exact hy
                      have hst := decv_step T i y hyT
                      have hle := decv_drop_le T i
                      have hfit := HFIT.out
                      obtain ⟨b2, off2, ha2, d0⟩ := HA.out i y hy
                      have hii : (i : Int) < (l.length : Int) := by omega
                      have hii0 : 0 ≤ (i : Int) := by omega
                      obtain ⟨D, hD⟩ : ∃ D, decv (T.drop (i + 1)) = D := ⟨_, rfl⟩
                      rw [hD] at hst ⊢
                      have hbd : (D : Int) * 128 + (y.toNat : Int) % 128 < 18446744073709551616 := by omega
                      have hyl : (y.toNat : Int) < 256 := by have := y.toNat_lt; omega
                      injection ha2 with ha2
                      injection ha2 with hb1 hb2
                      subst hb1 hb2
                      have HST := Lib.hid hst
                      clear hy hyT hst hle hD hfit
                      go_wp2_with fail
                      go_roundw
                      case rel =>
                        refine ⟨i, by omega, rfl, ?_, trivial⟩
                        rw [HST.out]
                        congr 1
                      case measure => simp [intOf]
                · have hk0d : decide (0 < (k : Int)) = false := by simp; omega
                  clear hx128 hzz
                  go_wp2_with fail
                  go_loopw [8, 9] (fun z i wr => ∃ j : Nat, j ≤ k + 1 ∧ i = .int .i64 ((j : Int) - 1) ∧ z = .int .u64 (decv (T.drop j) : Int) ∧ w = wr) (fun _ i _ => (intOf i + 1).toNat)
                  case atStart => exact ⟨k + 1, Nat.le_refl _, by first | rfl | (congr 1; push_cast; omega), by rw [List.drop_eq_nil_of_le (by rw [HTL.out]; exact Nat.le_refl _)]; rfl, rfl⟩
                  case round =>
                    obtain ⟨j, hj, rfl, rfl, rfl⟩ := hrel
                    cases j with
                    | zero =>
                      have e0 : decv (T.drop 0) = decv T := by rw [List.drop_zero]
                      rw [e0]
                      have e1 : (((0 : Nat) : Int) - 1) = -1 := rfl
                      rw [e1]
                      clear e0 e1
                      by_cases hbig : most < decv T
                      · have hdb : decide ((most : Int) < (decv T : Int)) = true := by simp; omega
                        go_wp2_with fail
                        go_ret3
                        refine ⟨?_, rfl⟩
                        rw [HQ.out, if_pos hbig]
                        rfl
                      · have hdb : decide ((most : Int) < (decv T : Int)) = false := by simp; omega
                        go_wp2_with fail
                        go_ret3
                        refine ⟨?_, rfl⟩
                        rw [HQ.out, if_neg hbig]
                        rfl
                    | succ i =>
                      have e0 : (((i + 1 : Nat) : Int) - 1) = (i : Int) := by omega
                      rw [e0]
                      clear e0
                      obtain ⟨y, hy⟩ : ∃ y, l[i]? = some y := ⟨_, List.getElem?_eq_getElem (by omega)⟩
                      have hyT : T[i]? = some y := by rw [HTE.out, List.getElem?_take_of_lt (by omega)]; exact hy
                      have hst := decv_step T i y hyT
                      have hle := decv_drop_le T i
                      have hfit := HFIT.out
                      obtain ⟨b2, off2, ha2, d0⟩ := HA.out i y hy
                      have hii : (i : Int) < (l.length : Int) := by omega
                      have hii0 : 0 ≤ (i : Int) := by omega
                      obtain ⟨D, hD⟩ : ∃ D, decv (T.drop (i + 1)) = D := ⟨_, rfl⟩
                      rw [hD] at hst ⊢
                      have hbd : (D : Int) * 128 + (y.toNat : Int) % 128 < 18446744073709551616 := by omega
                      have hyl : (y.toNat : Int) < 256 := by have := y.toNat_lt; omega
                      injection ha2 with ha2
                      injection ha2 with hb1 hb2
                      subst hb1 hb2
                      have HST := Lib.hid hst
                      clear hy hyT hst hle hD hfit
                      go_wp2_with fail
                      go_roundw
                      case rel =>
                        refine ⟨i, by omega, rfl, ?_, trivial⟩
                        rw [HST.out]
                        congr 1
                      case measure => simp [intOf]
        · have hkl2 : k = l.length := by omega
          have hq : number most l = (0, 0, 10) := by rw [HNC.out, if_neg h10, List.getElem?_eq_none (by omega)]
          have HQ := Lib.hid hq
          have hd1 : decide ((k : Int) < (l.length : Int)) = false := by simp; omega
          have hdl : ((k : Int) == (l.length : Int)) = true := by rw [hkl2]; simp
          clear hq HNC hkC hkl2 HSTOP HMORE
          go_wp2_with fail
          all_goals go_ret3
          all_goals exact ⟨by rw [HQ.out]; rfl, rfl⟩
end Ytglhkfiigbbpdaa
end Go.Proofs
