/-
  The chapter's example.
-/
import Derived.Test.YthmijlchonbjnaaRight
set_option maxHeartbeats 4000000
set_option maxRecDepth 100000
namespace Go.Proofs
open Go.RowKit
namespace Ythmijlchonbjnaa
attribute [local go_sem ↓] Go.wp_at_zero Go.wp_at_succ
theorem KeptH.ops {w0 W W' : World} {base : Nat} (h : Hid (Kept (fun _ => True) w0 W)) (hb : w0.heap.size ≤ base) (hk : Kept (Far base W) W W') : Hid (Kept (fun _ => True) w0 W') :=
  Lib.hid (h.out.trans' hk fun i hi _ => .inl (by omega))
def cA : ByteArray := ⟨#[97]⟩
def cX : ByteArray := ⟨#[120]⟩
def cZ : ByteArray := ⟨#[]⟩
def callPut : Call := ⟨0, 2, ⟨#[97]⟩, ⟨#[120]⟩, ⟨#[]⟩, 0⟩
def callGet (q : ByteArray) : Call := ⟨0, 1, q, ⟨#[]⟩, ⟨#[]⟩, 0⟩
theorem awake_judge (b1 b2 : Nat) : ∀ (k : Nat) (x : PC) (e : Nat) (a : Ans) (tt : Int), ([⟨callPut, 0, 1, some (b2, ⟨0, false, ⟨#[]⟩, 1⟩, 1)⟩, ⟨callGet ⟨#[97]⟩, 0, 0, some (b1, ⟨0, true, ⟨#[120]⟩, 1⟩, 1)⟩] : List PC)[k]? = some x → x.fin = some (e, a, tt) →
    judge [⟨callPut, 0, 1, some (b2, ⟨0, false, ⟨#[]⟩, 1⟩, 1)⟩, ⟨callGet ⟨#[97]⟩, 0, 0, some (b1, ⟨0, true, ⟨#[120]⟩, 1⟩, 1)⟩] x a tt = true := by
  intro k x e a tt hx hf
  match k, hx with
  | 0, hx =>
    injection hx with hx
    subst hx
    injection hf with hf
    injection hf with e1 hf
    injection hf with e2 e3
    subst e2 e3
    rfl
  | 1, hx =>
    injection hx with hx
    subst hx
    injection hf with hf
    injection hf with e1 hf
    injection hf with e2 e3
    subst e2 e3
    unfold judge
    rw [if_pos (show (callGet ⟨#[97]⟩).kind = 1 from rfl)]
    have hu : updF [⟨callPut, 0, 1, some (b2, ⟨0, false, ⟨#[]⟩, 1⟩, 1)⟩, ⟨callGet ⟨#[97]⟩, 0, 0, some (b1, ⟨0, true, ⟨#[120]⟩, 1⟩, 1)⟩] = [⟨⟨#[97]⟩, ⟨#[120]⟩, 1, false⟩] := rfl
    rw [hu]
    unfold gotF
    have hb : behindF [⟨⟨#[97]⟩, ⟨#[120]⟩, 1, false⟩] (callGet ⟨#[97]⟩).key 1 = (⟨⟨#[97]⟩, ⟨#[120]⟩, 1, false⟩, true) := by
      have hk : keyIs ⟨#[97]⟩ ⟨⟨#[97]⟩, ⟨#[120]⟩, 1, false⟩ = true := by unfold keyIs; exact beq_self_eq_true _
      simp [behindF, lastF, pick, takes, callGet, hk]
    rw [hb]
    simp
theorem awake_fine (b1 b2 : Nat) : ∀ (k : Nat) (x : PC), ([⟨callPut, 0, 1, some (b2, ⟨0, false, ⟨#[]⟩, 1⟩, 1)⟩, ⟨callGet ⟨#[97]⟩, 0, 0, some (b1, ⟨0, true, ⟨#[120]⟩, 1⟩, 1)⟩] : List PC)[k]? = some x →
    ∃ e a tt, Fine [⟨callPut, 0, 1, some (b2, ⟨0, false, ⟨#[]⟩, 1⟩, 1)⟩, ⟨callGet ⟨#[97]⟩, 0, 0, some (b1, ⟨0, true, ⟨#[120]⟩, 1⟩, 1)⟩] k x e a tt := by
  intro k x hx
  match k, hx with
  | 0, hx =>
    injection hx with hx
    subst hx
    exact ⟨_, _, _, rfl, rfl, .inr (.inl rfl), fun _ => ⟨(by decide : (0 : Int) < 1), (by decide : (1 : Int) ≤ 1), rfl⟩⟩
  | 1, hx =>
    injection hx with hx
    subst hx
    exact ⟨_, _, _, rfl, rfl, .inl rfl, fun h => absurd h (by decide : ¬ (0 : Int) < 0)⟩
theorem awake_any (w : World) : Calls Try.prog 6 #[] w fun e w' => e = .returned (.bool true) ∧ Kept (fun _ => True) w w' := by
  go_enter Try.func6, Try.ntmps6
  go_wp2_with fail
  refine (new_any _).mono ?_
  rintro e w1 ⟨g, rb, rfl, HR, hk⟩
  have KW := Lib.hid hk
  clear hk
  go_wp2_with fail
  refine (begin_any HR.out callPut 0 (by omega) (by decide) (by decide) (by simp)).mono ?_
  rintro e w2 ⟨rfl, ⟨A2, c2, HR2⟩, hk⟩
  replace KW := KeptH.ops KW (Nat.le_refl _) hk
  clear hk HR
  go_wp2_with fail
  refine (begin_any HR2.out (callGet ⟨#[97]⟩) 0 (by omega) (by decide) (by decide) (by simp)).mono ?_
  rintro e w3 ⟨rfl, ⟨A3, c3, HR3⟩, hk⟩
  replace KW := KeptH.ops KW (Nat.le_refl _) hk
  clear hk HR2
  go_wp2_with fail
  refine (effect_any HR3.out (i := 0) (x := ⟨callPut, 0, 0, none⟩) rfl 1 rfl rfl rfl (by decide)).mono ?_
  rintro e w4 ⟨rfl, ⟨A4, c4, HR4⟩, hk⟩
  replace KW := KeptH.ops KW (Nat.le_refl _) hk
  clear hk HR3
  go_wp2_with fail
  refine (end_any HR4.out (i := 1) (x := ⟨callGet ⟨#[97]⟩, 0, 0, none⟩) rfl ⟨0, true, ⟨#[120]⟩, 1⟩ 1 rfl (by decide)).mono ?_
  rintro e w5 ⟨rfl, ⟨b1, A5, c5, HR5⟩, hk⟩
  replace KW := KeptH.ops KW (Nat.le_refl _) hk
  clear hk HR4
  go_wp2_with fail
  refine (end_any HR5.out (i := 0) (x := ⟨callPut, 0, 1, none⟩) rfl ⟨0, false, ⟨#[]⟩, 1⟩ 1 rfl (by decide)).mono ?_
  rintro e w6 ⟨rfl, ⟨b2, A6, c6, HR6⟩, hk⟩
  replace KW := KeptH.ops KW (Nat.le_refl _) hk
  clear hk HR5
  have HR7 : Hid (HRep w6 w.heap.size g A6 c6 rb [⟨callPut, 0, 1, some (b2, ⟨0, false, ⟨#[]⟩, 1⟩, 1)⟩, ⟨callGet ⟨#[97]⟩, 0, 0, some (b1, ⟨0, true, ⟨#[120]⟩, 1⟩, 1)⟩] 1) := HR6
  clear HR6
  go_wp2_with fail
  refine (check_any HR7.out (awake_fine b1 b2) (by simp)).mono ?_
  rintro e w8 ⟨hc, hk⟩
  replace KW := KeptH.go KW hk
  replace HR7 := HRepH.go HR7 hk
  clear hk
  have he : e = .returned (.tuple #[.bool true, .int .i64 (-1)]) := by
    rcases hc with ⟨k, x, e', a, tt, hx, hf, hj, _⟩ | ⟨he, _⟩
    · rw [awake_judge b1 b2 k x e' a tt hx hf.fin] at hj
      cases hj
    · exact he
  clear hc
  subst he
  go_wp2_with fail
  refine (begin_no HR7.out (callGet ⟨#[97]⟩) 0 (by decide)).mono ?_
  rintro e w9 ⟨rfl, hk⟩
  replace KW := KeptH.go KW hk
  replace HR7 := HRepH.go HR7 hk
  clear hk
  go_wp2_with fail
  refine (len_any HR7.out).mono ?_
  rintro e w10 ⟨rfl, rfl⟩
  go_wp2_with fail
  go_ret
  exact ⟨rfl, KW.out⟩
end Ythmijlchonbjnaa
end Go.Proofs
