/-
  Down.
-/
import Derived.Test.YtfoolgojcmkdbaaCheck
import Derived.Test.YtfoolgojcmkdbaaCheckLaws
import Derived.Test.YtfoolgojcmkdbaaBinK
set_option maxHeartbeats 4000000
namespace Go.Proofs
open Go.RowKit
namespace Ytfoolgojcmkdbaa
attribute [local go_sem ↓] Go.wp_at_zero Go.wp_at_succ
section
variable (p : Page) (q : ByteArray) {iA kA : Option Addr} {ic kc : Nat} (w : World) (hi : ItR w (.slice iA p.items.length ic) p.items) (hk : KdR w (.slice kA p.kids.length kc) p.kids) (hn : p.items.length ≤ 1152921504606846975) (hm : p.kids.length ≤ 1152921504606846975)
include hi hk hn hm
theorem down_bad (hc : check p = false) : Calls Try.prog 11 #[pv p (.slice iA p.items.length ic) (.slice kA p.kids.length kc), .string q] w fun e w' => e = .returned (.tuple #[.int .i64 0, .int .i64 101]) ∧ Kept (fun _ => True) w w' := by
  have k1 : ∀ o, Kept (fun _ => True) w (w.alloc o) := fun o => (Kept.refl _ w).alloc o
  have hck : ∀ W, Kept (fun _ => True) w W → Calls Try.prog 7 #[pv p (.slice iA p.items.length ic) (.slice kA p.kids.length kc)] W fun e w' => e = .returned (.int .i64 101) ∧ Kept (fun _ => True) W w' := fun W hW => by
    have := check_any p W (hi.all hW) (hk.all hW) hn hm
    rw [hc] at this
    exact this
  clear hi hk hn hm hc
  obtain ⟨lv, lo, hi, la, sd, il, kl⟩ := p
  unfold pv at hck ⊢
  simp only at hck ⊢
  generalize il.length = n at hck ⊢
  generalize kl.length = m at hck ⊢
  go_enter Try.func11, Try.ntmps11
  go_wp2_with (go_at_call 7; refine (hck _ (k1 _)).mono ?_; rintro e w' ⟨rfl, hb'⟩)
  go_ret2
  exact ⟨rfl, (k1 _).trans hb'⟩
theorem down_out (hc : check p = true) (ho : p.level = 0 ∨ covers p q = false) : Calls Try.prog 11 #[pv p (.slice iA p.items.length ic) (.slice kA p.kids.length kc), .string q] w fun e w' => e = .returned (.tuple #[.int .i64 0, .int .i64 103]) ∧ Kept (fun _ => True) w w' := by
  have k1 : ∀ o, Kept (fun _ => True) w (w.alloc o) := fun o => (Kept.refl _ w).alloc o
  have hck : ∀ W, Kept (fun _ => True) w W → Calls Try.prog 7 #[pv p (.slice iA p.items.length ic) (.slice kA p.kids.length kc)] W fun e w' => e = .returned (.int .i64 0) ∧ Kept (fun _ => True) W w' := fun W hW => by
    have := check_any p W (hi.all hW) (hk.all hW) hn hm
    rw [hc] at this
    exact this
  have hcv : ∀ W, Calls Try.prog 12 #[pv p (.slice iA p.items.length ic) (.slice kA p.kids.length kc), .string q] W fun e w' => e = .returned (.bool (covers p q)) ∧ Kept (fun _ => True) W w' := fun W => covers_any p _ _ q W
  clear hi hk hn hm hc
  revert ho hcv
  generalize covers p q = cv
  obtain ⟨lv, lo, hi, la, sd, il, kl⟩ := p
  unfold pv at hck ⊢
  simp only at hck ⊢
  generalize il.length = n at hck ⊢
  generalize kl.length = m at hck ⊢
  intro ho hcv
  go_enter Try.func11, Try.ntmps11
  by_cases hl : lv = 0
  · subst hl
    go_wp2_with (go_at_call 7; refine (hck _ (k1 _)).mono ?_; rintro e w' ⟨rfl, hb'⟩; obtain ⟨b0, b1, b2, b3, b4, b5, b6⟩ := Box.kept (Box.new w) hb')
    go_ret2
    exact ⟨rfl, (k1 _).trans hb'⟩
  · have tl : (lv == 0) = false := by simpa using hl
    have hcf : cv = false := ho.resolve_left hl
    subst hcf
    go_wp2_with (first | (go_at_call 7; refine (hck _ (k1 _)).mono ?_; rintro e w' ⟨rfl, hb'⟩; obtain ⟨b0, b1, b2, b3, b4, b5, b6⟩ := Box.kept (Box.new w) hb') | (go_at_call 12; refine (hcv _).mono ?_; rintro e w'' ⟨rfl, hb''⟩))
    go_ret2
    exact ⟨rfl, ((k1 _).trans hb').trans hb''⟩
theorem down_in (hc : check p = true) (hl : p.level ≠ 0) (hcov : covers p q = true) : Calls Try.prog 11 #[pv p (.slice iA p.items.length ic) (.slice kA p.kids.length kc), .string q] w fun e w' => ∃ (k : Nat) (x : Kid), e = .returned (.tuple #[.int .i64 x.page, .int .i64 0]) ∧ Hid (DownTo p q k x) ∧ Kept (fun _ => True) w w' := by
  have k1 : ∀ o, Kept (fun _ => True) w (w.alloc o) := fun o => (Kept.refl _ w).alloc o
  have hin : Inner p := (check_iff.1 hc).2.2 hl
  have hck : ∀ W, Kept (fun _ => True) w W → Calls Try.prog 7 #[pv p (.slice iA p.items.length ic) (.slice kA p.kids.length kc)] W fun e w' => e = .returned (.int .i64 0) ∧ Kept (fun _ => True) W w' := fun W hW => by
    have := check_any p W (hi.all hW) (hk.all hW) hn hm
    rw [hc] at this
    exact this
  have hcv : ∀ W, Calls Try.prog 12 #[pv p (.slice iA p.items.length ic) (.slice kA p.kids.length kc), .string q] W fun e w' => e = .returned (.bool true) ∧ Kept (fun _ => True) W w' := fun W => by
    have := covers_any p (.slice iA p.items.length ic) (.slice kA p.kids.length kc) q W
    rw [hcov] at this
    exact this
  have hpl : ∀ W, Kept (fun _ => True) w W → Calls Try.prog 27 #[.slice kA p.kids.length kc, .string q, .func (.func 28) #[] #[]] W fun e w' => ∃ i f, e = .returned (.tuple #[.int .i64 (i : Nat), .bool f]) ∧ Hid (At (p.kids.map (·.key)) q i f) ∧ Kept (fun _ => True) W w' := fun W hW => placeKid_any q W (hk.all hW) hin.sorted hm
  have hcell : ∀ (W : World) (k : Nat) (x : Kid), Kept (fun _ => True) w W → DownTo p q k x → ∃ b off, kA = some ⟨b, off, none⟩ ∧ (k : Int) < (p.kids.length : Int) ∧ p.kids.length ≤ kc ∧ W.cell? ⟨b, off + k * 2, none⟩ = some (.string x.key) ∧ W.cell? ⟨b, off + k * 2 + 1, none⟩ = some (.int .i64 x.page) := fun W k x hW hd => by
    obtain ⟨b, off, h1, _, h3, h4, h5⟩ := KdR.at_ (RdK.all hk hW) hd.at_
    have := (List.getElem?_eq_some_iff.1 hd.at_).1
    exact ⟨b, off, h1, by omega, h3, h4, h5⟩
  have HI : Hid (Inner p ∧ covers p q = true) := Lib.hid ⟨hin, hcov⟩
  clear hi hk hn hc hcov hin
  have hlv : (p.level == 0) = false := by simpa using hl
  have HCELL := Lib.hid hcell
  clear hcell hl
  unfold pv at hck hcv ⊢
  generalize p.level = lv at hck hcv hlv ⊢
  generalize p.low = lo at hck hcv ⊢
  generalize p.high = hi at hck hcv ⊢
  generalize p.last = la at hck hcv ⊢
  generalize p.side = sd at hck hcv ⊢
  generalize p.items.length = n at hck hcv ⊢
  generalize p.kids.length = m at hck hcv hm hpl HCELL ⊢
  go_enter Try.func11, Try.ntmps11
  go_wp2_with (first | (go_at_call 7; refine (hck _ (k1 _)).mono ?_; rintro e w1 ⟨rfl, hb1⟩; obtain ⟨b0, b1, b2, b3, b4, b5, b6⟩ := Box.kept (Box.new w) hb1) | (go_at_call 12; refine (hcv _).mono ?_; rintro e w2 ⟨rfl, hb2⟩; obtain ⟨c0, c1, c2, c3, c4, c5, c6⟩ := Box.kept ⟨b0, b1, b2, b3, b4, b5, b6⟩ hb2))
  have K2 := ((k1 _).trans hb1).trans hb2
  refine (hpl _ K2).mono ?_
  rintro e w3 ⟨i, f, rfl, HA, hb3⟩
  obtain ⟨d0, d1, d2, d3, d4, d5, d6⟩ := Box.kept ⟨c0, c1, c2, c3, c4, c5, c6⟩ hb3
  have K3 := Lib.hid (K2.trans hb3)
  clear hck hcv hpl k1 hb1 hb2 hb3 K2 b0 b1 b2 b3 b4 b5 b6 c0 c1 c2 c3 c4 c5 c6
  cases f with
  | true =>
    obtain ⟨x, hx⟩ := down_is HA.out HI.out.1.sorted
    obtain ⟨b, off, rfl, hlt, hmc, e0, e1⟩ := HCELL.out w3 i x K3.out hx
    have HX := Lib.hid hx
    clear hx
    go_wp2_with fail
    go_ret2
    exact ⟨i, x, rfl, HX, K3.out⟩
  | false =>
    obtain ⟨k, x, rfl, hx⟩ := down_not HA.out HI.out.1 HI.out.2
    obtain ⟨b, off, rfl, hlt, hmc, e0, e1⟩ := HCELL.out w3 k x K3.out hx
    have hwk : IntKind.i64.wrap (k : Int) = (k : Int) := wrap_small (by omega)
    have HX := Lib.hid hx
    clear hx
    go_wp2_with fail
    go_ret2
    exact ⟨k, x, rfl, HX, K3.out⟩
end
end Ytfoolgojcmkdbaa
end Go.Proofs
