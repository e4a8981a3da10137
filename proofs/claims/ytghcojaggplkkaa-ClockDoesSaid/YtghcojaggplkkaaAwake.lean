/-
  The chapter's example.
-/
import Derived.Test.YtghcojaggplkkaaOps
import Derived.Test.YtghcojaggplkkaaExample
set_option maxHeartbeats 1000000
namespace Go.Proofs
open Go.RowKit
namespace Ytghcojaggplkkaa
/-- The budget stays. -/
theorem add_budget (S : Ck) (n b : Int) : (S.add n b).2.budget = S.budget := by
  unfold Ck.add
  split
  · rfl
  · split <;> split <;> rfl
theorem touch_budget (S : Ck) (n : Int) : (S.touch n).budget = S.budget := by
  unfold Ck.touch
  split <;> rfl
theorem victim_budget (S : Ck) : S.victim.2.budget = S.budget := by
  unfold Ck.victim
  split <;> rfl
/-- A call that may grow the clock turns nothing below it. -/
theorem Grown.past {w0 w w' : World} {base : Nat} {L : Lay} {S S' : Ck} (h : Rep w base L S) (q : Kept (fun b => b < base) w0 w) (hg : Grown w w' base L S') : Kept (fun b => b < base) w0 w' := by
  obtain ⟨L', _, _, _, hk⟩ := hg
  exact h.past q hk

theorem awake_any (w : World) : Calls Try.prog 6 #[] w fun e w' => e = .returned (.bool true) ∧ Kept (fun _ => True) w w' := by
  go_enter Try.func6, Try.ntmps6
  go_wp2_with fail
  refine (newcount_any w).mono ?_
  rintro e w0 ⟨rfl, rfl⟩
  go_wp2_with fail
  have hc0 : CntAt (w.alloc (.cells Tal.zero.arr 67)) w.heap.size Tal.zero := Blk.new _ _ _
  refine (new_good (some (w.heap.size, Tal.zero)) 100 _ w.heap.size (by omega) (by omega) (by simp) (fun p hp => by cases hp; exact ⟨hc0, Nat.le_refl _⟩)).mono ?_
  rintro e w1 ⟨L, rfl, hr1, hf1, hk1⟩
  have kp1 : Kept (fun _ => True) w w1 := ((Kept.refl _ w).alloc _).trans hk1
  have q1 : Kept (fun b => b < w.heap.size) w w1 := kp1.mono fun _ _ _ => trivial
  clear kp1 hk1 hf1
  obtain ⟨g, hg⟩ : ∃ g : Gho, some (w.heap.size, Tal.zero) = g := ⟨_, rfl⟩
  rw [hg] at hr1
  change Rep w1 w.heap.size L (ex0 g) at hr1
  have G0 : Good (ex0 g) := good_new 100 g
  clear hg hc0
  have G1 : Good (ex1 g) := by have := G0.add 1 60; rw [ex_1] at this; exact this
  have G2 : Good (ex2 g) := by have := G1.add 2 60; rw [ex_2] at this; exact this
  have G3 : Good (ex3 g) := by have := G2.victim (by show (0 : Int) ≤ 100; decide); rw [ex_3] at this; exact this
  have G4 : Good (ex4 g) := by have := G3.touch 2; rw [ex_4] at this; exact this
  have G5 : Good (ex5 g) := by have := G4.victim (by show (0 : Int) ≤ 100; decide); rw [ex_5] at this; exact this
  have G6 : Good (ex6 g) := by have := G5.add 1 0; rw [ex_6] at this; exact this
  go_wp2_with fail
  refine (Add hr1 G0 1 60 q1.size).mono ?_
  rintro e w2 ⟨he, hgr⟩
  rw [ex_1] at he hgr
  simp only at he hgr
  subst he
  replace q1 := hgr.past hr1 q1
  clear hr1
  obtain ⟨L2, hr1, hkb, -, -⟩ := hgr
  rw [← hkb]
  clear hkb
  go_wp2_with fail
  refine (Add hr1 G1 2 60 q1.size).mono ?_
  rintro e w3 ⟨he, hgr⟩
  rw [ex_2] at he hgr
  simp only at he hgr
  subst he
  replace q1 := hgr.past hr1 q1
  clear hr1
  obtain ⟨L3, hr1, hkb, -, -⟩ := hgr
  rw [← hkb]
  clear hkb
  go_wp2_with fail
  refine (Victim hr1 G2 (by show (0 : Int) ≤ 100; decide)).mono ?_
  rintro e w4 ⟨he, hr2, hk2⟩
  rw [ex_3] at he hr2
  simp only at he hr2
  subst he
  replace q1 := hr1.past q1 hk2
  clear hr1 hk2
  go_wp2_with fail
  refine (Touch hr2 2).mono ?_
  rintro e w5 ⟨he, hr1, hk1⟩
  rw [ex_4] at hr1
  subst he
  replace q1 := hr2.past q1 hk1
  clear hr2 hk1
  go_wp2_with fail
  refine (Victim hr1 G4 (by show (0 : Int) ≤ 100; decide)).mono ?_
  rintro e w6 ⟨he, hr2, hk2⟩
  rw [ex_5] at he hr2
  simp only at he hr2
  subst he
  replace q1 := hr1.past q1 hk2
  clear hr1 hk2
  go_wp2_with fail
  refine (Add hr2 G5 1 0 q1.size).mono ?_
  rintro e w7 ⟨he, hgr⟩
  rw [ex_6] at he hgr
  simp only at he hgr
  subst he
  replace q1 := hgr.past hr2 q1
  clear hr2
  obtain ⟨L4, hr1, hkb, -, -⟩ := hgr
  rw [← hkb]
  clear hkb
  go_wp2_with fail
  refine (Victim hr1 G6 (by show (0 : Int) ≤ 100; decide)).mono ?_
  rintro e w8 ⟨he, hr2, hk2⟩
  rw [ex_7] at he hr2
  simp only at he hr2
  subst he
  replace q1 := hr1.past q1 hk2
  clear hr1 hk2
  go_wp2_with fail
  refine (Resident hr2).mono ?_
  rintro e w9 ⟨he, hr1, hk1⟩
  replace q1 := hr2.past q1 hk1
  clear hr2 hk1
  change e = .returned (.int .i64 60) at he
  subst he
  go_wp2_with fail
  refine (budget_any hr1).mono ?_
  rintro e w10 ⟨he, rfl⟩
  change e = .returned (.int .i64 100) at he
  subst he
  go_wp2_with fail
  refine (Add hr1 G6.load.load 0 1 q1.size).mono ?_
  rintro e w11 ⟨he, hgr⟩
  rw [ex_8] at he hgr
  simp only at he hgr
  subst he
  replace q1 := hgr.past hr1 q1
  go_wp2_with fail
  go_ret
  exact ⟨rfl, ⟨q1.os, q1.tape, q1.output, q1.size, fun k hk _ => q1.block k hk hk⟩⟩
end Ytghcojaggplkkaa
end Go.Proofs
