/-
  The chapter's example.
-/
import Derived.Test.YtbefknaffopeaaaOps
set_option maxHeartbeats 1000000
namespace Go.Proofs
open Go.RowKit
namespace Ytbefknaffopeaaa
theorem awake_any (w : World) : Calls Try.prog 7 #[] w fun e w' => e = .returned (.bool true) ∧ Kept (fun _ => True) w w' := by
  go_enter Try.func7, Try.ntmps7
  go_wp2_with fail
  refine (newcount_any w).mono ?_
  rintro e w0 ⟨rfl, rfl⟩
  go_wp2_with fail
  have hc0 : CntAt (w.alloc (.cells Tal.zero.arr 69)) w.heap.size Tal.zero := Blk.new _ _ _
  refine (new_good (some (w.heap.size, Tal.zero)) 2 _ w.heap.size (by omega) (by omega) (by simp) (fun p hp => by cases hp; exact ⟨hc0, Nat.le_refl _⟩)).mono ?_
  rintro e w1 ⟨L, rfl, hr1, hf1, hk1⟩
  have kp1 : Kept (fun _ => True) w w1 := ((Kept.refl _ w).alloc _).trans hk1
  obtain ⟨S0, hS0⟩ : ∃ S0 : St, (⟨1, List.replicate 2 0, List.replicate 2 false, [], some (w.heap.size, Tal.zero)⟩ : St) = S0 := ⟨_, rfl⟩
  have a0 : S0.at 0 = some false := by rw [← hS0]; simp [St.enter, St.exit, St.at, St.retire, St.bump, St.told, St.reclaim, safeOf, safeStep, isOld, wrap64]
  have a1 : ((S0.enter 0).retire 7).bump.now = 2 := by rw [← hS0]; simp [St.enter, St.exit, St.at, St.retire, St.bump, St.told, St.reclaim, safeOf, safeStep, isOld, wrap64]
  have a2 : ((S0.enter 0).retire 7).bump.told = [] := by rw [← hS0]; simp [St.enter, St.exit, St.at, St.retire, St.bump, St.told, St.reclaim, safeOf, safeStep, isOld, wrap64]
  have a3 : (((S0.enter 0).retire 7).bump.reclaim).at 1 = some false := by rw [← hS0]; simp [St.enter, St.exit, St.at, St.retire, St.bump, St.told, St.reclaim, safeOf, safeStep, isOld, wrap64]
  have a4 : ((((S0.enter 0).retire 7).bump.reclaim).enter 1).at 0 = some true := by rw [← hS0]; simp [St.enter, St.exit, St.at, St.retire, St.bump, St.told, St.reclaim, safeOf, safeStep, isOld, wrap64]
  have a5 : (((((S0.enter 0).retire 7).bump.reclaim).enter 1).exit 0).told = [7] := by rw [← hS0]; simp [St.enter, St.exit, St.at, St.retire, St.bump, St.told, St.reclaim, safeOf, safeStep, isOld, wrap64]
  have a6 : (((((S0.enter 0).retire 7).bump.reclaim).enter 1).exit 0).reclaim.waits.length = 0 := by rw [← hS0]; simp [St.enter, St.exit, St.at, St.retire, St.bump, St.told, St.reclaim, safeOf, safeStep, isOld, wrap64]
  have a7 : (((((S0.enter 0).retire 7).bump.reclaim).enter 1).exit 0).reclaim.at 1 = some true := by rw [← hS0]; simp [St.enter, St.exit, St.at, St.retire, St.bump, St.told, St.reclaim, safeOf, safeStep, isOld, wrap64]
  have b0 : (S0.enter 0).waits.length = 0 := by rw [← hS0]; simp [St.enter, St.exit, St.at, St.retire, St.bump, St.told, St.reclaim, safeOf, safeStep, isOld, wrap64]
  have b1 : ((S0.enter 0).retire 7).bump.waits.length = 1 := by rw [← hS0]; simp [St.enter, St.exit, St.at, St.retire, St.bump, St.told, St.reclaim, safeOf, safeStep, isOld, wrap64]
  have b2 : (((((S0.enter 0).retire 7).bump.reclaim).enter 1).exit 0).waits.length = 1 := by rw [← hS0]; simp [St.enter, St.exit, St.at, St.retire, St.bump, St.told, St.reclaim, safeOf, safeStep, isOld, wrap64]
  rw [hS0] at hr1
  have A0 := Lib.hid a0
  have A1 := Lib.hid a1
  have A2 := Lib.hid a2
  have A3 := Lib.hid a3
  have A4 := Lib.hid a4
  have A5 := Lib.hid a5
  have A6 := Lib.hid a6
  have A7 := Lib.hid a7
  have B0 := Lib.hid b0
  have B1 := Lib.hid b1
  have B2 := Lib.hid b2
  clear a0 a1 a2 a3 a4 a5 a6 a7 b0 b1 b2 hS0
  have q1 : Kept (fun b => b < w.heap.size) w w1 := kp1.mono fun _ _ _ => trivial
  clear kp1
  go_wp2_with fail
  refine (Enter hr1 rfl 0).mono ?_
  rintro e w2 ⟨he, hr2, hk2⟩
  rw [if_pos A0.out] at he
  subst he
  have q2 := hr1.past q1 hk2
  go_wp2_with fail
  refine (Retire hr2 rfl 7 (by rw [B0.out]; omega) q2.size).mono ?_
  rintro e w3 ⟨L3, rfl, hr3, E3, _, hk3⟩
  have q3 := hr2.past q2 hk3
  replace E3 := Lib.hid E3
  go_wp2_with fail
  refine (Bump hr3 E3.out).mono ?_
  rintro e w4 ⟨he, hr4, hk4⟩
  rw [A1.out] at he
  subst he
  have q4 := hr3.past q3 hk4
  go_wp2_with fail
  refine (Reclaim hr4 E3.out (by rw [B1.out]; omega) q4.size).mono ?_
  rintro e w5 ⟨A5', c5, L5, rfl, ho5, hr5, E5, _, hk5⟩
  have q5 := hr4.past q4 hk5
  rw [A2.out] at ho5 ⊢
  replace E5 := Lib.hid E5
  clear ho5
  go_wp2_with fail
  refine (Enter hr5 E5.out 1).mono ?_
  rintro e w6 ⟨he, hr6, hk6⟩
  rw [if_pos A3.out] at he
  subst he
  have q6 := hr5.past q5 hk6
  go_wp2_with fail
  refine (Exit hr6 E5.out 0).mono ?_
  rintro e w7 ⟨he, hr7, hk7⟩
  rw [if_pos A4.out] at he
  subst he
  have q7 := hr6.past q6 hk7
  go_wp2_with fail
  refine (Reclaim hr7 E5.out (by rw [B2.out]; omega) q7.size).mono ?_
  rintro e w8 ⟨A8', c8, L8, rfl, ho8, hr8, E8, _, hk8⟩
  have q8 := hr7.past q7 hk8
  rw [A5.out] at ho8 ⊢
  replace E8 := Lib.hid E8
  obtain ⟨g8, cap8, hv8, _⟩ := ho8.form (by decide)
  injection hv8 with hA hn hc
  subst hA
  have c80 : w8.cell? ⟨g8, 0, none⟩ = some (.int .i64 7) := by rw [ho8.cellAt 0 (by decide)]; rfl
  clear ho8 hn hc
  go_wp2_with fail
  refine (Waiting hr8 E8.out).mono ?_
  rintro e w9 ⟨he, hw⟩
  subst hw
  rw [A6.out] at he
  subst he
  go_wp2_with fail
  refine (Enter hr8 E8.out 1).mono ?_
  rintro e w10 ⟨he, hr10, hk10⟩
  rw [if_neg (by rw [A7.out]; decide)] at he
  subst he
  have q10 := hr8.past q8 hk10
  go_wp2_with fail
  go_ret
  exact ⟨rfl, q10.mono fun _ hi _ => hi⟩
end Ytbefknaffopeaaa
end Go.Proofs
