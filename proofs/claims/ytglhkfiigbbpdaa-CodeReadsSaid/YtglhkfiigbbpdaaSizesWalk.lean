/-
  CodeSizes: the walk.
-/
import Derived.Test.YtglhkfiigbbpdaaAwake
import Derived.Test.YtglhkfiigbbpdaaFormLaws
import Derived.Deep.RegionHeld3
import Derived.Deep.RegionLaw
import Derived.Deep.DeepCutAuto
set_option maxHeartbeats 1000000
namespace Go.Proofs
open Go.RowKit
namespace Ytglhkfiigbbpdaa
attribute [local go_sem ↓] Go.wp_at_zero Go.wp_at_succ
theorem toList_str (l : List UInt8) : (str l).toList = l := by
  rw [ByteArray.toList_eq]
  simp [str]
theorem beq_str (l m : List UInt8) : ((str l).toList == (str m).toList) = decide (l = m) := by
  rw [toList_str, toList_str]
  by_cases h : l = m
  · subst h
    simp
  · rw [decide_eq_false h, beq_eq_false_iff_ne]
    exact h
theorem size_any (n : Nat) (hn : n < 18446744073709551616) (w : World) : Calls Try.prog 27 #[.int .u64 (n : Int)] w fun e w' => e = .returned (.int .i64 ((form n).length : Int)) ∧ Kept (fun _ => True) w w' := by
  go_enter Try.func27, Try.ntmps27
  go_wp2_with fail
  refine (newW_any w).mono ?_
  rintro e w1 ⟨rfl, hw1⟩
  have hW := WRep.new w w.heap.size (Nat.le_refl _)
  have k1 : Kept (fun _ => True) w (w.alloc (.cells #[.slice none 0 0] 50)) := (Kept.refl _ w).alloc _
  have hs1 : (w.alloc (.cells #[.slice none 0 0] 50)).heap.size = w.heap.size + 1 := by simp
  rw [← hw1] at hW k1 hs1
  clear hw1
  have HS1 := Lib.hid hs1
  clear hs1
  go_wp2_with fail
  refine (num_any w1 w.heap.size w.heap.size _ [] hW n hn (by simp) (by rw [HS1.out]; omega)).mono ?_
  rintro e w2 ⟨rfl, v2, hW2, ho2, hk2⟩
  rw [List.nil_append] at hW2
  have k2 : Kept (fun b => b < w.heap.size) w w2 := (k1.mono fun _ _ _ => trivial).trans' hk2 fun b _ hb hf => by
    have := hW.foot_low b hf
    omega
  have hfl := form_len hn
  clear hk2 ho2 k1 hW
  go_wp2_with fail
  refine (doneW_any hW2 (by omega)).mono ?_
  rintro e w3 ⟨v3, rfl, hF⟩
  have hv := hF.val
  have hk := hF.kept
  subst hv
  clear hF hW2
  go_wp2_with fail
  go_ret
  exact ⟨rfl, (k2.trans (hk.mono fun _ _ _ => trivial)).mono fun b hb _ => hb⟩
theorem sizes_any (n m : Nat) (hn : n < 18446744073709551616) (hm : m < 18446744073709551616) (w : World) :
    Calls Try.prog 7 #[.int .u64 (n : Int), .int .u64 (m : Int)] w fun e w' => e = .returned (.bool true) ∧ Kept (fun _ => True) w w' := by
  go_enter Try.func7, Try.ntmps7
  go_wp2_with fail
  refine (awake_any w).mono ?_
  rintro e w1 ⟨rfl, k1⟩
  go_wp2_with fail
  refine (size_any n hn w1).mono ?_
  rintro e w2 ⟨rfl, k2⟩
  go_wp2_with fail
  refine (size_any m hm w2).mono ?_
  rintro e w3 ⟨rfl, k3⟩
  have k4 := (k1.trans k2).trans k3
  clear k1 k2 k3
  go_wp2_with fail
  go_loopw [8, 9] (fun c x wr => ∃ (k y : Nat), x = .int .u64 (y : Int) ∧ c = .int .i64 (k : Int) ∧ Hid (k + (form y).length = (form n).length + 1) ∧ y < 18446744073709551616 ∧ w3 = wr)
    (fun _ x _ => (intOf x).toNat)
  case atStart => exact ⟨1, n, rfl, rfl, Lib.hid (by omega), hn, rfl⟩
  case round =>
    obtain ⟨k, y, rfl, rfl, HK, hy, rfl⟩ := hrel
    have hfn := form_len hn
    by_cases h128 : y < 128
    · have hd : decide (127 < (y : Int)) = false := by simp; omega
      have hkn : k = (form n).length := by
        have := HK.out
        rw [form_lt h128] at this
        simpa using this
      subst hkn
      clear h128 HK
      go_wp2_with fail
      refine (newW_any w3).mono ?_
      rintro e w4 ⟨rfl, hw4⟩
      have hW := WRep.new w3 w3.heap.size (Nat.le_refl _)
      have k5 : Kept (fun _ => True) w3 (w3.alloc (.cells #[.slice none 0 0] 50)) := (Kept.refl _ w3).alloc _
      have hs4 : (w3.alloc (.cells #[.slice none 0 0] 50)).heap.size = w3.heap.size + 1 := by simp
      rw [← hw4] at hW k5 hs4
      clear hw4
      have HS4 := Lib.hid hs4
      clear hs4
      go_wp2_with fail
      refine (newW_any w4).mono ?_
      rintro e w5 ⟨rfl, hw5⟩
      have hV := WRep.new w4 w4.heap.size (Nat.le_refl _)
      have k6 : Kept (fun _ => True) w4 (w4.alloc (.cells #[.slice none 0 0] 50)) := (Kept.refl _ w4).alloc _
      have hs5 : (w4.alloc (.cells #[.slice none 0 0] 50)).heap.size = w4.heap.size + 1 := by simp
      rw [← hw5] at hV k6 hs5
      clear hw5
      have hW5 := hW.kept (k6.mono fun _ _ _ => trivial)
      have K5 := Lib.hid (k5.trans k6)
      have HS5 := Lib.hid hs5
      clear hs5 hW k5 k6
      obtain ⟨wb, hwb⟩ : ∃ wb, w3.heap.size = wb := ⟨_, rfl⟩
      rw [hwb] at hW5 ⊢
      obtain ⟨vb, hvb⟩ : ∃ vb, w4.heap.size = vb := ⟨_, rfl⟩
      rw [hvb] at hV ⊢
      have HWB := Lib.hid hwb
      have HVB := Lib.hid hvb
      clear hwb hvb
      have hbase : wb ≤ w5.heap.size := by have := HS5.out; have := HS4.out; have := HWB.out; omega
      have hne : wb ≠ vb := by have := HS4.out; have := HWB.out; have := HVB.out; omega
      go_wp2_with fail
      refine (num_any w5 wb wb _ [] hW5 n hn (by simp) hbase).mono ?_
      rintro e w6 ⟨rfl, v6, hW6, ho6, hk6⟩
      rw [List.nil_append] at hW6
      have hV6 := hV.kept (hk6.mono fun b _ hf hw => by
        rcases hf with rfl | hf
        · rcases hw with e | e
          · exact hne e.symm
          · simp [Value.ownBlock] at e
        · simp [Value.ownBlock] at hf)
      have q6 : Kept (fun b => b < w.heap.size) w w6 := ((k4.mono fun _ _ _ => trivial).trans (K5.out.mono fun _ _ _ => trivial)).trans' hk6 fun b hb _ hf => by
        have := hW5.foot_low b hf
        have := HWB.out
        have := k4.size
        omega
      have hs6 : vb < w6.heap.size := hV6.blk.lt
      have ho6' : ∀ b, v6.ownBlock = some b → b ≠ vb := fun b hb e => by
        rcases ho6 b hb with h | h
        · simp [Value.ownBlock] at h
        · have := hV.blk.lt
          omega
      have hv6s : w4.heap.size ≤ w6.heap.size := by have := HVB.out; omega
      have Q6 := Lib.hid q6
      have HO6 := Lib.hid ho6'
      clear hk6 q6 hW5 hV ho6 ho6'
      go_wp2_with fail
      refine (num_any w6 vb vb _ [] hV6 m hm (by simp) (by omega)).mono ?_
      rintro e w7 ⟨rfl, v7, hV7, ho7, hk7⟩
      rw [List.nil_append] at hV7
      have hW7 := hW6.kept (hk7.mono fun b _ hw hf => by
        rcases hf with rfl | hf
        · rcases hw with e | e
          · exact hne e.symm
          · exact HO6.out _ e rfl
        · simp [Value.ownBlock] at hf)
      have hvbl : w3.heap.size ≤ vb := by have := HS4.out; have := HVB.out; omega
      have q7 : Kept (fun b => b < w.heap.size) w w7 := Q6.out.trans' hk7 fun b hb hlt hf => by
        have := hV6.foot_low b hf
        have := k4.size
        omega
      have Q7 := Lib.hid q7
      have hfm := form_len hm
      have heq : ((str (form n)).toList == (str (form m)).toList) = decide ((n : Int) = (m : Int)) := by
        rw [beq_str]
        by_cases h : n = m
        · subst h; simp
        · rw [decide_eq_false (fun e => h (form_inj hn hm e)), decide_eq_false (by omega)]
      have hle10 : decide (((form n).length : Int) ≤ 10) = true := by simp; omega
      have hge1 : decide (1 ≤ ((form n).length : Int)) = true := by have := form_pos n; simp; omega
      have hmono : (decide ((m : Int) < (n : Int)) = true ∨ decide ((m : Int) < (n : Int)) = false ∧ decide (((form n).length : Int) ≤ ((form m).length : Int)) = true) := by
        by_cases h : m < n
        · exact .inl (by simp; omega)
        · have := form_len_mono m n (by omega)
          exact .inr ⟨by simp; omega, by simp; omega⟩
      have HMONO := Lib.hid hmono
      have HEQ := Lib.hid heq
      clear hmono heq
      clear hk7 q7 hV6 hW6 ho7
      have hWd := hW7.kept (Kept.refl _ w7).drew
      have hVd := hV7.kept (Kept.refl _ w7).drew
      have HWD := Lib.hid hWd
      have HVD := Lib.hid hVd
      clear hWd hVd hV7 hW7
      go_upto_region 15 with fail
      go_region_law
        (first
          | ((try go_simp); go_at_call 14; refine (doneW_any HWD.out (by omega)).mono ?_; rintro e w8 ⟨v8, rfl, hF8⟩; have hv8 := hF8.val; subst hv8; have c8 : (convert 26 9 (.slice (some ⟨w7.heap.size, 0, none⟩) (form n).length (form n).length)).run Try.prog w8 = .ok (.string (str (form n))) w8 := run_str26 hF8.rd; have HVD8 := Lib.hid (HVD.out.kept (hF8.kept.mono fun _ _ _ => trivial)); have HF8 := Lib.hid hF8; clear hF8)
          | ((try go_simp); go_at_call 14; refine (doneW_any HVD8.out (by omega)).mono ?_; rintro e w9 ⟨v9, rfl, hF9⟩; have hv9 := hF9.val; subst hv9; have c9 : (convert 26 9 (.slice (some ⟨w8.heap.size, 0, none⟩) (form m).length (form m).length)).run Try.prog w9 = .ok (.string (str (form m))) w9 := run_str26 hF9.rd; have c89 : (convert 26 9 (.slice (some ⟨w7.heap.size, 0, none⟩) (form n).length (form n).length)).run Try.prog w9 = .ok (.string (str (form n))) w9 := run_str26 (HF8.out.rd.kept hF9.kept fun _ _ _ => trivial); have HF9 := Lib.hid hF9; clear hF9))
      all_goals go_wp2_with fail
      all_goals first
        | (exfalso; have := form_pos n; omega)
        | (exfalso; rcases Nat.lt_or_ge m n with h | h; (omega); (have := form_len_mono m n h; omega))
        | (go_ret
           refine ⟨?_, (Q7.out.trans (((Kept.refl _ w7).drew).trans (HF8.out.kept.trans HF9.out.kept |>.mono fun _ _ _ => trivial))).mono fun b hb _ => hb⟩
           have e1 : ((decide (m < n) || decide ((form n).length ≤ (form m).length)) && ((str (form n)).toList == (str (form m)).toList) == ((n : Int) == (m : Int))) = true := by
             rw [HEQ.out]
             have e2 : ((n : Int) == (m : Int)) = decide ((n : Int) = (m : Int)) := by
               by_cases h : (n : Int) = (m : Int)
               · rw [h]; simp
               · rw [decide_eq_false h, beq_eq_false_iff_ne]; exact h
             rw [e2]
             have e3 : (decide (m < n) || decide ((form n).length ≤ (form m).length)) = true := by
               rcases HMONO.out with h | ⟨_, h⟩
               · have : m < n := by have := of_decide_eq_true h; omega
                 simp [this]
               · have : (form n).length ≤ (form m).length := by have := of_decide_eq_true h; omega
                 simp [this]
             rw [e3]
             simp
           have e4 : (((str (form n)).toList == (str (form m)).toList) == ((n : Int) == (m : Int))) = true := by
             rw [HEQ.out]
             by_cases h : (n : Int) = (m : Int)
             · rw [h]; simp
             · rw [decide_eq_false h, beq_eq_false_iff_ne.2 h]; rfl
           first | exact congrArg (fun b => Ending.returned (Value.bool b)) e1 | exact congrArg (fun b => Ending.returned (Value.bool b)) e4)
    · have hd : decide (127 < (y : Int)) = true := by simp; omega
      have hfk : (form y).length = (form (y / 128)).length + 1 := by rw [form_ge h128, List.length_cons]
      have hkl : k ≤ 11 := by have := HK.out; omega
      have HFK := Lib.hid hfk
      have H128 := Lib.hid h128
      clear hfk h128
      go_wp2_with fail
      go_roundw
      case rel => exact ⟨k + 1, y / 128, by go_num, by go_num, Lib.hid (by have := HK.out; have := HFK.out; omega), by omega, trivial⟩
      case measure => simp [intOf]; have := H128.out; omega
end Ytglhkfiigbbpdaa
end Go.Proofs
