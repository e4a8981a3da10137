/-
  CodeOneForm: the walk.
-/
import Derived.Test.YtglhkfiigbbpdaaAwake
import Derived.Test.YtglhkfiigbbpdaaFormLaws
import Derived.Deep.DeepCutAuto
import Derived.Test.YtglhkfiigbbpdaaTakeA
set_option maxHeartbeats 4000000
namespace Go.Proofs
open Go.RowKit
namespace Ytglhkfiigbbpdaa
attribute [local go_sem ↓] Go.wp_at_zero Go.wp_at_succ
theorem oneForm_any (b : List UInt8) (A : Option Addr) (c : Nat) (w : World) (hb : Rd w (.slice A b.length c) b) (hlen : b.length ≤ 140737488351232) :
    Calls Try.prog 6 #[.slice A b.length c] w fun e w' => e = .returned (.bool true) ∧ Kept (fun b => b < w.heap.size) w w' := by
  have hlc : b.length ≤ c := by
    obtain ⟨_, _, hv, hlc, _⟩ := hb
    injection hv with _ _ h3
    rw [h3]
    exact hlc
  have HRB := Lib.hid hb
  clear hb
  go_enter Try.func6, Try.ntmps6
  go_wp2_with fail
  refine (awake_any w).mono ?_
  rintro e w1 ⟨rfl, k1⟩
  go_wp2_with fail
  refine (newRd_any (base := w.heap.size) (HRB.out.all (k1.mono fun _ _ _ => trivial)) (by omega) k1.size).mono ?_
  rintro e w2 ⟨rb, lb, rfl, hR, hf, k2⟩
  have k12 := k1.trans k2
  go_wp2_with fail
  refine (newW_any w2).mono ?_
  rintro e w3 ⟨rfl, hw3⟩
  have hW := WRep.new w2 w.heap.size k12.size
  have k3 : Kept (fun _ => True) w2 (w2.alloc (.cells #[.slice none 0 0] 50)) := (Kept.refl _ w2).alloc _
  rw [← hw3] at hW k3
  clear hw3
  have q3 : Kept (fun b => b < w.heap.size) w w3 := (k12.trans k3).mono fun _ _ _ => trivial
  have hR3 := hR.kept (k3.mono fun _ _ _ => trivial)
  have hap : ∀ x, wfoot w2.heap.size (.slice none 0 0) x → ¬ rfoot rb lb x := fun x hx hr => by
    have := hR.foot_lt x hr
    rcases hx with e | e
    · omega
    · simp [Value.ownBlock] at e
  obtain ⟨wb, hwb⟩ : ∃ wb, w2.heap.size = wb := ⟨_, rfl⟩
  rw [hwb] at hW hap ⊢
  have HW := Lib.hid hW
  have HR := Lib.hid hR3
  have HA := Lib.hid hap
  clear hW hR3 hap hR hf k1 k2 k3 k12 hwb
  go_wp2_with fail
  go_loopw [6] (fun i wr => ∃ (k : Nat) (v : Value) (pre rest : List UInt8) (e : Int), i = .int .i64 (k : Int) ∧ k ≤ b.length ∧ Hid (b = pre ++ rest) ∧ Hid (WRep wr w.heap.size wb v pre) ∧ Hid (RRd wr w.heap.size rb lb rest e) ∧ Hid (∀ x, wfoot wb v x → ¬ rfoot rb lb x) ∧ Kept (fun b => b < w.heap.size) w wr)
    (fun i _ => b.length - (intOf i).toNat)
  case atStart => exact ⟨0, _, [], b, 0, rfl, Nat.zero_le _, rfl, HW, HR, HA, q3⟩
  case round =>
    clear HW HR HA q3
    obtain ⟨k, v, pre, rest, er, rfl, hk, HB, HW, HR, HA, q⟩ := hrel
    have hpl : pre.length ≤ b.length := by have := congrArg List.length HB.out; rw [List.length_append] at this; omega
    by_cases hlt : k < b.length
    · have hd : decide ((k : Int) < (b.length : Int)) = true := by simp; omega
      go_wp2_with fail
      refine (leftR_any HR.out).mono ?_
      rintro e9 w9 ⟨rfl, hw9⟩
      subst hw9
      go_wp2_with fail
      refine (numR_any HR.out 18446744073709551615 (by omega)).mono ?_
      rintro e9 w4 ⟨he9, hR4, hk4⟩
      have hW4 := HW.out.kept (hk4.mono fun x _ hx hr => HA.out x hx hr)
      have q4 := HR.out.past q hk4
      obtain ⟨⟨nv, rest', er'⟩, hrn⟩ : ∃ p, rnum rest er 18446744073709551615 = p := ⟨_, rfl⟩
      rw [hrn] at he9 hR4
      subst he9
      simp only at hR4
      by_cases hsame : rest' = rest
      · have HB' := HB
        clear hk4 q hrn HB' HR HW
        have hsame2 := hsame.symm
        clear hsame
        subst hsame2
        have HR := Lib.hid hR4
        have HW := Lib.hid hW4
        have q := q4
        clear hR4 hW4 q4
        go_wp2_with fail
        refine (leftR_any HR.out).mono ?_
        rintro e9 w9 ⟨rfl, hw9⟩
        subst hw9
        go_wp2_with fail
        have hat : (b.length : Int) - (rest.length : Int) = (pre.length : Int) := by have := congrArg List.length HB.out; rw [List.length_append] at this; omega
        have hat2 : pre.length ≤ b.length := by have := congrArg List.length HB.out; rw [List.length_append] at this; omega
        have hat3 : (pre.length : Int) ≤ (b.length : Int) := by omega
        have hat4 : 0 ≤ (pre.length : Int) ∧ (pre.length : Int) ≤ (c : Int) := by omega
        have hat5 : pre.length ≤ c := by omega
        refine (leftR_any HR.out).mono ?_
        rintro e9 w9 ⟨rfl, hw9⟩
        subst hw9
        have hbt : b.take pre.length = pre := by rw [HB.out, List.take_left]
        have hrb := HRB.out.all q
        have hrt := hrb.takeA hat2 hat5
        rw [hbt] at hrt
        have HRT := Lib.hid hrt.drew
        have k8 := run_str26 hrt.drew
        have HWD := Lib.hid (HW.out.kept (Kept.refl _ _).drew)
        clear hrb hrt hbt
        go_upto_region 14 with fail
        have HQ := Lib.hid q
        have hpl2 : pre.length ≤ 281474976710656 := by omega
        have HP2 := Lib.hid hpl2
        clear HR HRB q HB hat2 hat5 hpl2
        refine wp_region_any (by kernel_rfl) ?_
        change wpAny _ _ _ _ 19 _ _ (World.drew _)
        refine wpAny_take (i := 0) (v := ?v1) rfl (by kernel_rfl) (by kernel_rfl) (by kernel_rfl) (fun _ _ _ h => h) (Or.inl ⟨?wt1, ?yl1⟩) ?rest1
        case yl1 => (intro w; go_simp; try with_reducible rfl)
        case wt1 => rfl
        case' rest1 => simp only [Act.put, List.getElem_toArray, List.getElem_cons_zero, List.setIfInBounds_toArray, List.set_cons_zero, List.set_cons_succ]
        refine wpAny_take (i := 1) (v := ?v2) rfl (by kernel_rfl) (by kernel_rfl) (by kernel_rfl) (fun _ _ _ h => h) (Or.inl ⟨?wt2, ?yl2⟩) ?rest2
        case yl2 => (intro w; go_simp; try with_reducible rfl)
        case wt2 => rfl
        case' rest2 => simp only [Act.put, List.getElem_toArray, List.getElem_cons_zero, List.getElem_cons_succ, List.setIfInBounds_toArray, List.set_cons_zero, List.set_cons_succ]
        refine wpAny_take (i := 2) (v := ?v3) rfl (by kernel_rfl) (by kernel_rfl) (by kernel_rfl) (fun _ _ _ h => h) (Or.inl ⟨?wt3, ?yl3⟩) ?rest3
        case yl3 => (intro w; go_simp; try with_reducible rfl)
        case wt3 => rfl
        case' rest3 => simp only [Act.put, List.getElem_toArray, List.getElem_cons_zero, List.getElem_cons_succ, List.setIfInBounds_toArray, List.set_cons_zero, List.set_cons_succ]
        refine wpAny_take (i := 3) (v := ?v4) rfl (by kernel_rfl) (by kernel_rfl) (by kernel_rfl) (fun _ _ _ h => h) (Or.inl ⟨?wt4, ?yl4⟩) ?rest4
        case yl4 => (intro w; go_simp; try with_reducible rfl)
        case wt4 => rfl
        case' rest4 => simp only [Act.put, List.getElem_toArray, List.getElem_cons_zero, List.getElem_cons_succ, List.setIfInBounds_toArray, List.set_cons_zero, List.set_cons_succ]
        refine wpAny_take (i := 4) (v := ?v5) rfl (by kernel_rfl) (by kernel_rfl) (by kernel_rfl) (fun _ _ _ h => h) (Or.inl ⟨?wt5, ?yl5⟩) ?rest5
        case yl5 => (intro w; go_simp; try with_reducible rfl)
        case wt5 => rfl
        case' rest5 => simp only [Act.put, List.getElem_toArray, List.getElem_cons_zero, List.getElem_cons_succ, List.setIfInBounds_toArray, List.set_cons_zero, List.set_cons_succ]
        refine wpAny_take (i := 5) (v := ?v6) rfl (by kernel_rfl) (by kernel_rfl) (by kernel_rfl) (fun _ _ _ h => h) (Or.inl ⟨?wt6, ?yl6⟩) ?rest6
        case yl6 => (intro w; go_simp; try with_reducible rfl)
        case wt6 => rfl
        case' rest6 => simp only [Act.put, List.getElem_toArray, List.getElem_cons_zero, List.getElem_cons_succ, List.setIfInBounds_toArray, List.set_cons_zero, List.set_cons_succ]
        refine wpAny_take (i := 6) (v := ?v7) rfl (by kernel_rfl) (by kernel_rfl) (by kernel_rfl) (fun _ _ _ h => h) (Or.inl ⟨?wt7, ?yl7⟩) ?rest7
        case yl7 => (intro w; go_simp; try with_reducible rfl)
        case wt7 => rfl
        case' rest7 => simp only [Act.put, List.getElem_toArray, List.getElem_cons_zero, List.getElem_cons_succ, List.setIfInBounds_toArray, List.set_cons_zero, List.set_cons_succ]
        refine wpAny_take (i := 7) (v := ?v8) rfl (by kernel_rfl) (by kernel_rfl) (by kernel_rfl) (fun _ _ _ h => h) (Or.inl ⟨?wt8, ?yl8⟩) ?rest8
        case yl8 => (intro w; go_simp; try with_reducible rfl)
        case wt8 => rfl
        case' rest8 => simp only [Act.put, List.getElem_toArray, List.getElem_cons_zero, List.getElem_cons_succ, List.setIfInBounds_toArray, List.set_cons_zero, List.set_cons_succ]
        refine wpAny_take (i := 8) (v := ?v9) rfl (by kernel_rfl) (by kernel_rfl) (by kernel_rfl) (fun _ _ _ h => h) (Or.inl ⟨?wt9, ?yl9⟩) ?rest9
        case yl9 => (intro w; go_simp; try with_reducible rfl)
        case wt9 => rfl
        case' rest9 => simp only [Act.put, List.getElem_toArray, List.getElem_cons_zero, List.getElem_cons_succ, List.setIfInBounds_toArray, List.set_cons_zero, List.set_cons_succ]
        refine wpAny_take (i := 9) (v := ?v10) rfl (by kernel_rfl) (by kernel_rfl) (by kernel_rfl) (fun _ _ _ h => h) (Or.inl ⟨?wt10, ?yl10⟩) ?rest10
        case yl10 => (intro w; go_simp; try with_reducible rfl)
        case wt10 => rfl
        case' rest10 => simp only [Act.put, List.getElem_toArray, List.getElem_cons_zero, List.getElem_cons_succ, List.setIfInBounds_toArray, List.set_cons_zero, List.set_cons_succ]
        refine wpAny_take (i := 12) (v := ?v11) rfl (by kernel_rfl) (by kernel_rfl) (by kernel_rfl) (fun _ _ _ h => h) (Or.inl ⟨?wt11, ?yl11⟩) ?rest11
        case yl11 => (intro w; go_simp; try with_reducible rfl)
        case wt11 => rfl
        case' rest11 => simp only [Act.put, List.getElem_toArray, List.getElem_cons_zero, List.getElem_cons_succ, List.setIfInBounds_toArray, List.set_cons_zero, List.set_cons_succ]
        refine wpAny_take (i := 13) (v := ?v12) rfl (by kernel_rfl) (by kernel_rfl) (by kernel_rfl) (fun _ _ _ h => h) (Or.inl ⟨?wt12, ?yl12⟩) ?rest12
        case yl12 => (intro w; go_simp; try with_reducible rfl)
        case wt12 => rfl
        case' rest12 => simp only [Act.put, List.getElem_toArray, List.getElem_cons_zero, List.getElem_cons_succ, List.setIfInBounds_toArray, List.set_cons_zero, List.set_cons_succ]
        refine wpAny_take (i := 14) (v := ?v13) rfl (by kernel_rfl) (by kernel_rfl) (by kernel_rfl) (fun _ _ _ h => h) (Or.inl ⟨?wt13, ?yl13⟩) ?rest13
        case yl13 => (intro w; go_simp; try with_reducible rfl)
        case wt13 => rfl
        case' rest13 => simp only [Act.put, List.getElem_toArray, List.getElem_cons_zero, List.getElem_cons_succ, List.setIfInBounds_toArray, List.set_cons_zero, List.set_cons_succ]
        repeat' first
          | exact AllReady.nil
          | (refine AllReady.cons rfl (fun K hK => ?_) ?_)
          | (refine wpAny_ready (rs := [10, 15]) ?rdy ?mem ?_; (case rdy => decide +kernel); (case mem => simp))
          | (refine wpAny_ready (rs := [11, 15]) ?rdy ?mem ?_; (case rdy => decide +kernel); (case mem => simp))
          | (refine wpAny_ready (rs := [10]) ?rdy ?mem ?_; (case rdy => decide +kernel); (case mem => simp))
          | (refine wpAny_ready (rs := [11]) ?rdy ?mem ?_; (case rdy => decide +kernel); (case mem => simp))
          | (refine wpAny_ready (rs := [15]) ?rdy ?mem ?_; (case rdy => decide +kernel); (case mem => simp))
          | (refine wpAny_ready (rs := [16]) ?rdy ?mem ?_; (case rdy => decide +kernel); (case mem => simp))
          | (refine wpAny_ready (rs := [17]) ?rdy ?mem ?_; (case rdy => decide +kernel); (case mem => simp))
          | (refine wpAny_ready (rs := [18]) ?rdy ?mem ?_; (case rdy => decide +kernel); (case mem => simp))
          | (refine wpAny_done ?rdy ?_ _; (case rdy => decide +kernel))
          | ((try go_simp); go_at_call 14; refine (doneW_any HWD.out HP2.out).mono ?_; rintro e8 w8 ⟨v8, rfl, hF8⟩; have hv8 := hF8.val; subst hv8; have c8 : (convert 26 9 (.slice (some ⟨w9.heap.size, 0, none⟩) pre.length pre.length)).run Try.prog w8 = .ok (.string (str pre)) w8 := run_str26 hF8.rd; have k9 := run_str26 (HRT.out.kept hF8.kept fun _ _ _ => trivial); have q8 := HQ.out.drew.trans (hF8.kept.mono fun _ _ _ => trivial); clear hF8; refine hK _ _ ?_; clear hK K)
          | (go_simp; refine hK _ _ ?_; clear hK K)
        all_goals go_wp2_with fail
        all_goals go_ret
        all_goals exact ⟨by simp, q8⟩
      · -- a number was taken up
        have hNO : Hid (∃ sz, rest' = rest.drop sz ∧ form nv = rest.take sz ∧ 1 ≤ sz ∧ sz ≤ rest.length ∧ nv < 18446744073709551616) := by
          unfold rnum at hrn
          split at hrn
          · exact absurd (Prod.mk.inj (Prod.mk.inj hrn).2).1.symm hsame
          · obtain ⟨⟨n, sz, e2⟩, hp⟩ : ∃ p, number 18446744073709551615 rest = p := ⟨_, rfl⟩
            have hok := number_ok 18446744073709551615 rest
            rw [hp] at hrn hok
            simp only [Prod.mk.injEq] at hrn
            obtain ⟨rfl, h2, rfl⟩ := hrn
            by_cases he2 : e2 = 0
            · subst he2
              obtain ⟨h3, h4⟩ := number_inv hp
              exact ⟨sz, h2.symm, h4, hok.pos rfl, hok.size, by have := hok.val; simp only at this; omega⟩
            · have := (hok.err he2).2
              simp only at this
              rw [this, List.drop_zero] at h2
              exact absurd h2.symm hsame
        obtain ⟨sz, hdr, hfv, hs1, hs2, hnv⟩ := hNO.out
        have hB2 : b = (pre ++ form nv) ++ rest' := by rw [hfv, hdr, List.append_assoc, List.take_append_drop]; exact HB.out
        have hne : ((rest'.length : Int) == (rest.length : Int)) = false := by
          rw [beq_eq_false_iff_ne, hdr, List.length_drop]
          omega
        have hl2 : pre.length + (form nv).length ≤ b.length := by have := congrArg List.length hB2; simp only [List.length_append] at this; omega
        have HB2 := Lib.hid hB2
        have HR4 := Lib.hid hR4
        have HW4 := Lib.hid hW4
        clear hNO hdr hfv hB2 hR4 hW4 hrn hsame hk4 q
        go_wp2_with fail
        refine (leftR_any HR4.out).mono ?_
        rintro e9 w9 ⟨rfl, hw9⟩
        subst hw9
        go_wp2_with fail
        refine (num_any _ w.heap.size wb v pre HW4.out nv hnv (by omega) q4.size).mono ?_
        rintro e9 w5 ⟨rfl, v5, hW5, ho5, hk5⟩
        have hR5 := HR4.out.kept (hk5.mono fun x _ hr hf => HA.out x hf hr)
        have q5 := HW4.out.past q4 hk5
        have hap5 : ∀ x, wfoot wb v5 x → ¬ rfoot rb lb x := fun x hx hr => by
          rcases hx with e | e
          · exact HA.out x (.inl e) hr
          · rcases ho5 x e with h | h
            · exact HA.out x (.inr h) hr
            · have := HR4.out.foot_lt x hr
              omega
        have HW5 := Lib.hid hW5
        have HR5 := Lib.hid hR5
        have HA5 := Lib.hid hap5
        clear hW5 hR5 hap5 ho5 hk5 q4
        go_wp2_with fail
        go_roundw
        case rel => exact ⟨k + 1, v5, pre ++ form nv, rest', er', by go_num, by omega, HB2, HW5, HR5, HA5, q5⟩
        case measure => simp [intOf]; omega
    · have hd : decide ((k : Int) < (b.length : Int)) = false := by simp; omega
      have hat : (b.length : Int) - (rest.length : Int) = (pre.length : Int) := by have := congrArg List.length HB.out; rw [List.length_append] at this; omega
      have hat2 : pre.length ≤ b.length := by have := congrArg List.length HB.out; rw [List.length_append] at this; omega
      have hat3 : (pre.length : Int) ≤ (b.length : Int) := by omega
      have hat4 : 0 ≤ (pre.length : Int) ∧ (pre.length : Int) ≤ (c : Int) := by omega
      have hat5 : pre.length ≤ c := by omega
      go_wp2_with fail
      refine (leftR_any HR.out).mono ?_
      rintro e9 w9 ⟨rfl, hw9⟩
      subst hw9
      have hbt : b.take pre.length = pre := by rw [HB.out, List.take_left]
      have hrb := HRB.out.all q
      have hrt := hrb.takeA hat2 hat5
      rw [hbt] at hrt
      have HRT := Lib.hid hrt.drew
      have k8 := run_str26 hrt.drew
      have HWD := Lib.hid (HW.out.kept (Kept.refl _ _).drew)
      clear hrb hrt hbt
      go_upto_region 14 with fail
      have HQ := Lib.hid q
      have hpl2 : pre.length ≤ 281474976710656 := by omega
      have HP2 := Lib.hid hpl2
      clear HR HRB q HB hat2 hat5 hpl2
      refine wp_region_any (by kernel_rfl) ?_
      change wpAny _ _ _ _ 19 _ _ (World.drew _)
      refine wpAny_take (i := 0) (v := ?v14) rfl (by kernel_rfl) (by kernel_rfl) (by kernel_rfl) (fun _ _ _ h => h) (Or.inl ⟨?wt14, ?yl14⟩) ?rest14
      case yl14 => (intro w; go_simp; try with_reducible rfl)
      case wt14 => rfl
      case' rest14 => simp only [Act.put, List.getElem_toArray, List.getElem_cons_zero, List.setIfInBounds_toArray, List.set_cons_zero, List.set_cons_succ]
      refine wpAny_take (i := 1) (v := ?v15) rfl (by kernel_rfl) (by kernel_rfl) (by kernel_rfl) (fun _ _ _ h => h) (Or.inl ⟨?wt15, ?yl15⟩) ?rest15
      case yl15 => (intro w; go_simp; try with_reducible rfl)
      case wt15 => rfl
      case' rest15 => simp only [Act.put, List.getElem_toArray, List.getElem_cons_zero, List.getElem_cons_succ, List.setIfInBounds_toArray, List.set_cons_zero, List.set_cons_succ]
      refine wpAny_take (i := 2) (v := ?v16) rfl (by kernel_rfl) (by kernel_rfl) (by kernel_rfl) (fun _ _ _ h => h) (Or.inl ⟨?wt16, ?yl16⟩) ?rest16
      case yl16 => (intro w; go_simp; try with_reducible rfl)
      case wt16 => rfl
      case' rest16 => simp only [Act.put, List.getElem_toArray, List.getElem_cons_zero, List.getElem_cons_succ, List.setIfInBounds_toArray, List.set_cons_zero, List.set_cons_succ]
      refine wpAny_take (i := 3) (v := ?v17) rfl (by kernel_rfl) (by kernel_rfl) (by kernel_rfl) (fun _ _ _ h => h) (Or.inl ⟨?wt17, ?yl17⟩) ?rest17
      case yl17 => (intro w; go_simp; try with_reducible rfl)
      case wt17 => rfl
      case' rest17 => simp only [Act.put, List.getElem_toArray, List.getElem_cons_zero, List.getElem_cons_succ, List.setIfInBounds_toArray, List.set_cons_zero, List.set_cons_succ]
      refine wpAny_take (i := 4) (v := ?v18) rfl (by kernel_rfl) (by kernel_rfl) (by kernel_rfl) (fun _ _ _ h => h) (Or.inl ⟨?wt18, ?yl18⟩) ?rest18
      case yl18 => (intro w; go_simp; try with_reducible rfl)
      case wt18 => rfl
      case' rest18 => simp only [Act.put, List.getElem_toArray, List.getElem_cons_zero, List.getElem_cons_succ, List.setIfInBounds_toArray, List.set_cons_zero, List.set_cons_succ]
      refine wpAny_take (i := 5) (v := ?v19) rfl (by kernel_rfl) (by kernel_rfl) (by kernel_rfl) (fun _ _ _ h => h) (Or.inl ⟨?wt19, ?yl19⟩) ?rest19
      case yl19 => (intro w; go_simp; try with_reducible rfl)
      case wt19 => rfl
      case' rest19 => simp only [Act.put, List.getElem_toArray, List.getElem_cons_zero, List.getElem_cons_succ, List.setIfInBounds_toArray, List.set_cons_zero, List.set_cons_succ]
      refine wpAny_take (i := 6) (v := ?v20) rfl (by kernel_rfl) (by kernel_rfl) (by kernel_rfl) (fun _ _ _ h => h) (Or.inl ⟨?wt20, ?yl20⟩) ?rest20
      case yl20 => (intro w; go_simp; try with_reducible rfl)
      case wt20 => rfl
      case' rest20 => simp only [Act.put, List.getElem_toArray, List.getElem_cons_zero, List.getElem_cons_succ, List.setIfInBounds_toArray, List.set_cons_zero, List.set_cons_succ]
      refine wpAny_take (i := 7) (v := ?v21) rfl (by kernel_rfl) (by kernel_rfl) (by kernel_rfl) (fun _ _ _ h => h) (Or.inl ⟨?wt21, ?yl21⟩) ?rest21
      case yl21 => (intro w; go_simp; try with_reducible rfl)
      case wt21 => rfl
      case' rest21 => simp only [Act.put, List.getElem_toArray, List.getElem_cons_zero, List.getElem_cons_succ, List.setIfInBounds_toArray, List.set_cons_zero, List.set_cons_succ]
      refine wpAny_take (i := 8) (v := ?v22) rfl (by kernel_rfl) (by kernel_rfl) (by kernel_rfl) (fun _ _ _ h => h) (Or.inl ⟨?wt22, ?yl22⟩) ?rest22
      case yl22 => (intro w; go_simp; try with_reducible rfl)
      case wt22 => rfl
      case' rest22 => simp only [Act.put, List.getElem_toArray, List.getElem_cons_zero, List.getElem_cons_succ, List.setIfInBounds_toArray, List.set_cons_zero, List.set_cons_succ]
      refine wpAny_take (i := 9) (v := ?v23) rfl (by kernel_rfl) (by kernel_rfl) (by kernel_rfl) (fun _ _ _ h => h) (Or.inl ⟨?wt23, ?yl23⟩) ?rest23
      case yl23 => (intro w; go_simp; try with_reducible rfl)
      case wt23 => rfl
      case' rest23 => simp only [Act.put, List.getElem_toArray, List.getElem_cons_zero, List.getElem_cons_succ, List.setIfInBounds_toArray, List.set_cons_zero, List.set_cons_succ]
      refine wpAny_take (i := 12) (v := ?v24) rfl (by kernel_rfl) (by kernel_rfl) (by kernel_rfl) (fun _ _ _ h => h) (Or.inl ⟨?wt24, ?yl24⟩) ?rest24
      case yl24 => (intro w; go_simp; try with_reducible rfl)
      case wt24 => rfl
      case' rest24 => simp only [Act.put, List.getElem_toArray, List.getElem_cons_zero, List.getElem_cons_succ, List.setIfInBounds_toArray, List.set_cons_zero, List.set_cons_succ]
      refine wpAny_take (i := 13) (v := ?v25) rfl (by kernel_rfl) (by kernel_rfl) (by kernel_rfl) (fun _ _ _ h => h) (Or.inl ⟨?wt25, ?yl25⟩) ?rest25
      case yl25 => (intro w; go_simp; try with_reducible rfl)
      case wt25 => rfl
      case' rest25 => simp only [Act.put, List.getElem_toArray, List.getElem_cons_zero, List.getElem_cons_succ, List.setIfInBounds_toArray, List.set_cons_zero, List.set_cons_succ]
      refine wpAny_take (i := 14) (v := ?v26) rfl (by kernel_rfl) (by kernel_rfl) (by kernel_rfl) (fun _ _ _ h => h) (Or.inl ⟨?wt26, ?yl26⟩) ?rest26
      case yl26 => (intro w; go_simp; try with_reducible rfl)
      case wt26 => rfl
      case' rest26 => simp only [Act.put, List.getElem_toArray, List.getElem_cons_zero, List.getElem_cons_succ, List.setIfInBounds_toArray, List.set_cons_zero, List.set_cons_succ]
      repeat' first
        | exact AllReady.nil
        | (refine AllReady.cons rfl (fun K hK => ?_) ?_)
        | (refine wpAny_ready (rs := [10, 15]) ?rdy ?mem ?_; (case rdy => decide +kernel); (case mem => simp))
        | (refine wpAny_ready (rs := [11, 15]) ?rdy ?mem ?_; (case rdy => decide +kernel); (case mem => simp))
        | (refine wpAny_ready (rs := [10]) ?rdy ?mem ?_; (case rdy => decide +kernel); (case mem => simp))
        | (refine wpAny_ready (rs := [11]) ?rdy ?mem ?_; (case rdy => decide +kernel); (case mem => simp))
        | (refine wpAny_ready (rs := [15]) ?rdy ?mem ?_; (case rdy => decide +kernel); (case mem => simp))
        | (refine wpAny_ready (rs := [16]) ?rdy ?mem ?_; (case rdy => decide +kernel); (case mem => simp))
        | (refine wpAny_ready (rs := [17]) ?rdy ?mem ?_; (case rdy => decide +kernel); (case mem => simp))
        | (refine wpAny_ready (rs := [18]) ?rdy ?mem ?_; (case rdy => decide +kernel); (case mem => simp))
        | (refine wpAny_done ?rdy ?_ _; (case rdy => decide +kernel))
        | ((try go_simp); go_at_call 14; refine (doneW_any HWD.out HP2.out).mono ?_; rintro e8 w8 ⟨v8, rfl, hF8⟩; have hv8 := hF8.val; subst hv8; have c8 : (convert 26 9 (.slice (some ⟨w9.heap.size, 0, none⟩) pre.length pre.length)).run Try.prog w8 = .ok (.string (str pre)) w8 := run_str26 hF8.rd; have k9 := run_str26 (HRT.out.kept hF8.kept fun _ _ _ => trivial); have q8 := HQ.out.drew.trans (hF8.kept.mono fun _ _ _ => trivial); clear hF8; refine hK _ _ ?_; clear hK K)
        | (go_simp; refine hK _ _ ?_; clear hK K)
      all_goals go_wp2_with fail
      all_goals go_ret
      all_goals exact ⟨by simp, q8⟩
end Ytglhkfiigbbpdaa
end Go.Proofs
