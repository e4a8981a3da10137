/-
  Check.
-/
import Derived.Test.YtfoolgojcmkdbaaInner
set_option maxHeartbeats 4000000
namespace Go.Proofs
open Go.RowKit
namespace Ytfoolgojcmkdbaa
attribute [local go_sem ↓] Go.wp_at_zero Go.wp_at_succ
/-- Check's answer. -/
def ckS (may : Bool) : Int := if may then 0 else 101
theorem check_any (p : Page) {iA kA : Option Addr} {ic kc : Nat} (w : World) (hi : ItR w (.slice iA p.items.length ic) p.items) (hk : KdR w (.slice kA p.kids.length kc) p.kids) (hn : p.items.length ≤ 1152921504606846975) (hm : p.kids.length ≤ 1152921504606846975) :
    Calls Try.prog 7 #[pv p (.slice iA p.items.length ic) (.slice kA p.kids.length kc)] w fun e w' => e = .returned (.int .i64 (ckS (check p))) ∧ Kept (fun _ => True) w w' := by
  obtain ⟨r, hr⟩ : ∃ r, ckS (check p) = r := ⟨_, rfl⟩
  rw [hr]
  unfold check bounds nonEmpty at hr
  have k1 : ∀ o, Kept (fun _ => True) w (w.alloc o) := fun o => (Kept.refl _ w).alloc o
  have hlf : ∀ W, Kept (fun _ => True) w W → Calls Try.prog 19 #[pv p (.slice iA p.items.length ic) (.slice kA p.kids.length kc)] W fun e w' => e = .returned (.bool (leaf p)) ∧ Kept (fun _ => True) W w' := fun W hW => leaf_any p W (hi.all hW) hn
  have hnf : ∀ W, Kept (fun _ => True) w W → Calls Try.prog 20 #[pv p (.slice iA p.items.length ic) (.slice kA p.kids.length kc)] W fun e w' => e = .returned (.bool (inner p)) ∧ Kept (fun _ => True) W w' := fun W hW => inner_any p W (hk.all hW) hm
  clear hi hk
  have hky : ∀ W, Calls Try.prog 17 #[.string p.high] W fun e w' => e = .returned (.bool (isKey p.high)) ∧ w' = W := fun W => isKey_any p.high W
  have hpg : ∀ W, Calls Try.prog 18 #[.int .i64 p.side] W fun e w' => e = .returned (.bool (isPage p.side)) ∧ w' = W := fun W => isPage_any p.side W
  revert hr hlf hnf hky hpg
  generalize leaf p = lf
  generalize inner p = nf
  generalize isKey p.high = kb
  generalize isPage p.side = pb
  obtain ⟨lv, lo, hi, la, sd, il, kl⟩ := p
  unfold pv lt
  simp only
  generalize hil : il.length = n
  generalize hkl : kl.length = m
  intro hr hlf hnf hky hpg
  have HR := Lib.hid hr
  clear hr hil hkl hn hm
  go_enter Try.func7, Try.ntmps7
  by_cases h1 : (lo.size : Int) ≤ 16
  · have t1 : decide ((lo.size : Int) ≤ 16) = true := by simpa using h1
    rw [t1] at HR
    by_cases h2 : 0 ≤ lv
    · have t2 : decide (0 ≤ lv) = true := by simpa using h2
      rw [t2] at HR
      by_cases h3 : lv ≤ 7
      · have t3 : decide (lv ≤ 7) = true := by simpa using h3
        rw [t3] at HR
        cases la with
        | true =>
          cases h4 : hi.toList.isEmpty with
          | true =>
            rw [h4] at HR
            by_cases h5 : sd = 0
            · subst h5
              by_cases h6 : lv = 0
              · subst h6
                cases lf with
                | true =>
                  go_wp2_with (first | (go_at_call 17; refine (hky _).mono ?_; rintro e w' ⟨rfl, rfl⟩) | (go_at_call 18; refine (hpg _).mono ?_; rintro e w' ⟨rfl, rfl⟩) | (go_at_call 19; refine (hlf _ (k1 _)).mono ?_; rintro e w' ⟨rfl, hb'⟩; obtain ⟨b0, b1, b2, b3, b4, b5, b6⟩ := Box.kept (Box.new w) hb') | (go_at_call 20; refine (hnf _ (k1 _)).mono ?_; rintro e w' ⟨rfl, hb'⟩))
                  go_ret
                  refine ⟨?_, (k1 _).trans hb'⟩
                  rw [← HR.out]
                  simp [ckS]
                | false =>
                  go_wp2_with (first | (go_at_call 17; refine (hky _).mono ?_; rintro e w' ⟨rfl, rfl⟩) | (go_at_call 18; refine (hpg _).mono ?_; rintro e w' ⟨rfl, rfl⟩) | (go_at_call 19; refine (hlf _ (k1 _)).mono ?_; rintro e w' ⟨rfl, hb'⟩; obtain ⟨b0, b1, b2, b3, b4, b5, b6⟩ := Box.kept (Box.new w) hb') | (go_at_call 20; refine (hnf _ (k1 _)).mono ?_; rintro e w' ⟨rfl, hb'⟩))
                  go_ret
                  refine ⟨?_, (k1 _).trans hb'⟩
                  rw [← HR.out]
                  simp [ckS]
              · have t6 : (lv == 0) = false := by simpa using h6
                have t7 : decide (0 < lv) = true := by simp; omega
                have t8 : 0 < lv := by omega
                cases nf with
                | true =>
                  go_wp2_with (first | (go_at_call 17; refine (hky _).mono ?_; rintro e w' ⟨rfl, rfl⟩) | (go_at_call 18; refine (hpg _).mono ?_; rintro e w' ⟨rfl, rfl⟩) | (go_at_call 19; refine (hlf _ (k1 _)).mono ?_; rintro e w' ⟨rfl, hb'⟩; obtain ⟨b0, b1, b2, b3, b4, b5, b6⟩ := Box.kept (Box.new w) hb') | (go_at_call 20; refine (hnf _ (k1 _)).mono ?_; rintro e w' ⟨rfl, hb'⟩))
                  go_ret
                  refine ⟨?_, (k1 _).trans hb'⟩
                  rw [← HR.out]
                  simp [ckS, h6]
                | false =>
                  go_wp2_with (first | (go_at_call 17; refine (hky _).mono ?_; rintro e w' ⟨rfl, rfl⟩) | (go_at_call 18; refine (hpg _).mono ?_; rintro e w' ⟨rfl, rfl⟩) | (go_at_call 19; refine (hlf _ (k1 _)).mono ?_; rintro e w' ⟨rfl, hb'⟩; obtain ⟨b0, b1, b2, b3, b4, b5, b6⟩ := Box.kept (Box.new w) hb') | (go_at_call 20; refine (hnf _ (k1 _)).mono ?_; rintro e w' ⟨rfl, hb'⟩))
                  go_ret
                  refine ⟨?_, (k1 _).trans hb'⟩
                  rw [← HR.out]
                  simp [ckS, h6]
            · have t5 : (sd == 0) = false := by simpa using h5
              go_wp2_with fail
              go_ret
              refine ⟨?_, k1 _⟩
              rw [← HR.out]
              simp [ckS, h5]
          | false =>
            rw [h4] at HR
            go_wp2_with fail
            go_ret
            refine ⟨?_, k1 _⟩
            rw [← HR.out]
            simp [ckS]
        | false =>
          cases kb with
          | true =>
            cases h4 : Op.bytesLess lo.toList hi.toList with
            | true =>
              rw [h4] at HR
              cases pb with
              | true =>
                by_cases h6 : lv = 0
                · subst h6
                  cases lf with
                  | true =>
                    go_wp2_with (first | (go_at_call 17; refine (hky _).mono ?_; rintro e w' ⟨rfl, rfl⟩) | (go_at_call 18; refine (hpg _).mono ?_; rintro e w' ⟨rfl, rfl⟩) | (go_at_call 19; refine (hlf _ (k1 _)).mono ?_; rintro e w' ⟨rfl, hb'⟩; obtain ⟨b0, b1, b2, b3, b4, b5, b6⟩ := Box.kept (Box.new w) hb') | (go_at_call 20; refine (hnf _ (k1 _)).mono ?_; rintro e w' ⟨rfl, hb'⟩))
                    go_ret
                    refine ⟨?_, (k1 _).trans hb'⟩
                    rw [← HR.out]
                    simp [ckS]
                  | false =>
                    go_wp2_with (first | (go_at_call 17; refine (hky _).mono ?_; rintro e w' ⟨rfl, rfl⟩) | (go_at_call 18; refine (hpg _).mono ?_; rintro e w' ⟨rfl, rfl⟩) | (go_at_call 19; refine (hlf _ (k1 _)).mono ?_; rintro e w' ⟨rfl, hb'⟩; obtain ⟨b0, b1, b2, b3, b4, b5, b6⟩ := Box.kept (Box.new w) hb') | (go_at_call 20; refine (hnf _ (k1 _)).mono ?_; rintro e w' ⟨rfl, hb'⟩))
                    go_ret
                    refine ⟨?_, (k1 _).trans hb'⟩
                    rw [← HR.out]
                    simp [ckS]
                · have t6 : (lv == 0) = false := by simpa using h6
                  have t7 : decide (0 < lv) = true := by simp; omega
                  have t8 : 0 < lv := by omega
                  cases nf with
                  | true =>
                    go_wp2_with (first | (go_at_call 17; refine (hky _).mono ?_; rintro e w' ⟨rfl, rfl⟩) | (go_at_call 18; refine (hpg _).mono ?_; rintro e w' ⟨rfl, rfl⟩) | (go_at_call 19; refine (hlf _ (k1 _)).mono ?_; rintro e w' ⟨rfl, hb'⟩; obtain ⟨b0, b1, b2, b3, b4, b5, b6⟩ := Box.kept (Box.new w) hb') | (go_at_call 20; refine (hnf _ (k1 _)).mono ?_; rintro e w' ⟨rfl, hb'⟩))
                    go_ret
                    refine ⟨?_, (k1 _).trans hb'⟩
                    rw [← HR.out]
                    simp [ckS, h6]
                  | false =>
                    go_wp2_with (first | (go_at_call 17; refine (hky _).mono ?_; rintro e w' ⟨rfl, rfl⟩) | (go_at_call 18; refine (hpg _).mono ?_; rintro e w' ⟨rfl, rfl⟩) | (go_at_call 19; refine (hlf _ (k1 _)).mono ?_; rintro e w' ⟨rfl, hb'⟩; obtain ⟨b0, b1, b2, b3, b4, b5, b6⟩ := Box.kept (Box.new w) hb') | (go_at_call 20; refine (hnf _ (k1 _)).mono ?_; rintro e w' ⟨rfl, hb'⟩))
                    go_ret
                    refine ⟨?_, (k1 _).trans hb'⟩
                    rw [← HR.out]
                    simp [ckS, h6]
              | false =>
                go_wp2_with (first | (go_at_call 17; refine (hky _).mono ?_; rintro e w' ⟨rfl, rfl⟩) | (go_at_call 18; refine (hpg _).mono ?_; rintro e w' ⟨rfl, rfl⟩))
                go_ret
                refine ⟨?_, k1 _⟩
                rw [← HR.out]
                simp [ckS]
            | false =>
              rw [h4] at HR
              go_wp2_with (go_at_call 17; refine (hky _).mono ?_; rintro e w' ⟨rfl, rfl⟩)
              go_ret
              refine ⟨?_, k1 _⟩
              rw [← HR.out]
              simp [ckS]
          | false =>
            go_wp2_with (go_at_call 17; refine (hky _).mono ?_; rintro e w' ⟨rfl, rfl⟩)
            go_ret
            refine ⟨?_, k1 _⟩
            rw [← HR.out]
            simp [ckS]
      · have t3 : decide (lv ≤ 7) = false := by simpa using h3
        rw [t3] at HR
        cases la <;> go_wp2_with fail
        · go_ret
          refine ⟨?_, k1 _⟩
          rw [← HR.out]
          simp [ckS]
        · go_ret
          refine ⟨?_, k1 _⟩
          rw [← HR.out]
          simp [ckS]
    · have t2 : decide (0 ≤ lv) = false := by simpa using h2
      rw [t2] at HR
      cases la <;> go_wp2_with fail
      · go_ret
        refine ⟨?_, k1 _⟩
        rw [← HR.out]
        simp [ckS]
      · go_ret
        refine ⟨?_, k1 _⟩
        rw [← HR.out]
        simp [ckS]
  · have t1 : decide ((lo.size : Int) ≤ 16) = false := by simpa using h1
    rw [t1] at HR
    cases la <;> go_wp2_with fail
    · go_ret
      refine ⟨?_, k1 _⟩
      rw [← HR.out]
      simp [ckS]
    · go_ret
      refine ⟨?_, k1 _⟩
      rw [← HR.out]
      simp [ckS]
end Ytfoolgojcmkdbaa
end Go.Proofs
