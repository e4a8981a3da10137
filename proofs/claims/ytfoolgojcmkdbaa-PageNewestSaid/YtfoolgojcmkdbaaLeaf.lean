/-
  leaf.
-/
import Derived.Test.YtfoolgojcmkdbaaIdx
import Derived.Test.YtfoolgojcmkdbaaRiseK
set_option maxHeartbeats 4000000
namespace Go.Proofs
open Go.RowKit
namespace Ytfoolgojcmkdbaa
attribute [local go_sem ↓] Go.wp_at_zero Go.wp_at_succ
theorem leaf_any (p : Page) {iA kA : Option Addr} {ic kc : Nat} (w : World) (hi : ItR w (.slice iA p.items.length ic) p.items) (hn : p.items.length ≤ 1152921504606846975) :
    Calls Try.prog 19 #[pv p (.slice iA p.items.length ic) (.slice kA p.kids.length kc)] w fun e w' => e = .returned (.bool (leaf p)) ∧ Kept (fun _ => True) w w' := by
  obtain ⟨r, hr⟩ : ∃ r, leaf p = r := ⟨_, rfl⟩
  rw [hr]
  unfold leaf at hr
  have k1 : ∀ o, Kept (fun _ => True) w (w.alloc o) := fun o => (Kept.refl _ w).alloc o
  have hany : ∀ W, Kept (fun _ => True) w W → Calls Try.prog 33 #[.slice iA p.items.length ic, .func (.func 32) #[] #[]] W fun e w' => e = .returned (.bool (p.items.any badItem)) ∧ Kept (fun _ => True) W w' := fun W hW =>
    anyItem_any 32 #[] (enters_of Try.func32 (by kernel_rfl) rfl) badItem W (hi.all hW) (fun W' x _ => leaf1_any x W') (by omega)
  have hrise : ∀ W, Kept (fun _ => True) w W → Calls Try.prog 34 #[pv p (.slice iA p.items.length ic) (.slice kA p.kids.length kc), .slice iA p.items.length ic, .func (.func 24) #[] #[]] W fun e w' => e = .returned (.bool (rising p (p.items.map (·.key)))) ∧ Kept (fun _ => True) W w' := fun W hW =>
    riseItem_any p _ _ W (hi.all hW) hn
  clear hi
  revert hr hany hrise
  generalize p.items.any badItem = ba
  generalize rising p (p.items.map (·.key)) = br
  obtain ⟨lv, lo, hi, la, sd, il, kl⟩ := p
  unfold pv
  simp only
  generalize hil : il.length = n
  generalize hkl : kl.length = m
  intro hr hany hrise
  have HR := Lib.hid hr
  rw [hil] at hn
  clear hr hil hkl
  go_enter Try.func19, Try.ntmps19
  by_cases h1 : m = 0
  · subst h1
    by_cases h2 : n ≤ 120
    · have t2 : decide ((n : Int) ≤ 120) = true := by simp; omega
      cases ba with
      | true =>
        go_wp2_with (first | (go_at_call 33; refine (hany _ (k1 _)).mono ?_; rintro e w' ⟨rfl, hb'⟩))
        go_ret
        refine ⟨?_, (k1 _).trans hb'⟩
        rw [← HR.out]
        simp
      | false =>
        go_wp2_with (first | (go_at_call 33; refine (hany _ (k1 _)).mono ?_; rintro e w' ⟨rfl, hb'⟩; obtain ⟨b0, b1, b2, b3, b4, b5, b6⟩ := Box.kept (Box.new w) hb') | (go_at_call 34; refine (hrise _ ((k1 _).trans hb')).mono ?_; rintro e w'' ⟨rfl, hb''⟩))
        go_ret
        refine ⟨?_, ((k1 _).trans hb').trans hb''⟩
        rw [← HR.out]
        simp [h2]
    · have t2 : decide ((n : Int) ≤ 120) = false := by simp; omega
      go_wp2_with fail
      go_ret
      refine ⟨?_, k1 _⟩
      rw [← HR.out]
      simp [h2]
  · have t1 : ((m : Int) == 0) = false := by simp; omega
    go_wp2_with fail
    go_ret
    refine ⟨?_, k1 _⟩
    rw [← HR.out]
    simp [h1]
end Ytfoolgojcmkdbaa
end Go.Proofs
