/-
  slices.IndexFunc, slices.ContainsFunc at items and at kids, whatever the predicate.
-/
import Derived.Test.YtfoolgojcmkdbaaSmall
set_option maxHeartbeats 1000000
namespace Go.Proofs
open Go.RowKit
namespace Ytfoolgojcmkdbaa
attribute [local go_sem ↓] Go.wp_at_zero Go.wp_at_succ
/-- The first place at which p holds, or -1. -/
def idx {α : Type} (p : α → Bool) (l : List α) : Int := if l.any p then (l.findIdx p : Int) else -1
theorem idx_hit {α : Type} {p : α → Bool} {l : List α} {k : Nat} {x : α} (hx : l[k]? = some x) (hp : p x = true) (ha : ∀ j y, j < k → l[j]? = some y → p y = false) : idx p l = (k : Int) := by
  have hany : l.any p = true := List.any_eq_true.2 ⟨x, List.mem_of_getElem? hx, hp⟩
  obtain ⟨hk, hxe⟩ := List.getElem?_eq_some_iff.1 hx
  have h1 : l.findIdx p = k := by
    refine (List.findIdx_eq hk).2 ⟨by rw [hxe]; exact hp, fun j hj => ?_⟩
    exact ha j _ hj (List.getElem?_eq_getElem (by omega))
  unfold idx
  rw [hany, h1]
  rfl
theorem any_miss {α : Type} {p : α → Bool} {l : List α} (ha : ∀ (j : Nat) y, l[j]? = some y → p y = false) : l.any p = false := by
  rw [List.any_eq_false]
  intro x hx
  obtain ⟨j, hj⟩ := List.getElem?_of_mem hx
  rw [ha j x hj]
  exact Bool.false_ne_true
theorem idx_miss {α : Type} {p : α → Bool} {l : List α} (ha : ∀ (j : Nat) y, l[j]? = some y → p y = false) : idx p l = -1 := by
  unfold idx
  rw [any_miss ha]
  rfl
theorem idx_ge {α : Type} (p : α → Bool) (l : List α) : decide (0 ≤ idx p l) = l.any p := by
  unfold idx
  cases l.any p with
  | false => rfl
  | true =>
    simp
/-- What is asked of a predicate. -/
def Pred (g : Nat) (lb : Array Value) {α : Type} (cs : α → List Value) (p : α → Bool) (w : World) : Prop :=
  ∀ (W : World) (x : α), Kept (fun _ => True) w W → Calls Try.prog g (#[.agg (cs x).toArray] ++ lb) W fun e w' => e = .returned (.bool (p x)) ∧ Kept (fun _ => True) W w'
theorem indexItem_any (g : Nat) (lb : Array Value) (eg : ∀ args w, (callFunc g args).run Try.prog w = .ok (.enter g args) w) (p : Item → Bool) {A : Option Addr} {n c : Nat} {l : List Item} (w : World) (h : ItR w (.slice A n c) l) (hp : Pred g lb ics p w) (hn : n ≤ 9223372036854775807) :
    Calls Try.prog 21 #[.slice A n c, .func (.func g) #[] lb] w fun e w' => e = .returned (.int .i64 (idx p l)) ∧ Kept (fun _ => True) w w' := by
  have hlen := h.len
  subst hlen
  have HH := Lib.hid h
  have HP := Lib.hid hp
  clear h hp
  obtain ⟨r, hr⟩ : ∃ r, idx p l = r := ⟨_, rfl⟩
  rw [hr]
  have HR := Lib.hid hr
  clear hr
  go_enter Try.func21, Try.ntmps21
  go_wp2_with fail
  go_loopw [5, 8] (fun _ s8 wr => ∃ k : Nat, k ≤ l.length ∧ s8 = .int .i64 k ∧ Hid (Kept (fun _ => True) w wr) ∧ Hid (∀ j y, j < k → l[j]? = some y → p y = false)) (fun _ s8 _ => l.length - (intOf s8).toNat)
  case atStart => exact ⟨0, Nat.zero_le _, rfl, Lib.hid (Kept.refl _ _), Lib.hid fun j _ hj => absurd hj (Nat.not_lt_zero _)⟩
  case round =>
    obtain ⟨k, hk, rfl, BW, A1⟩ := hrel
    by_cases hlt : k < l.length
    · have hltz : (k : Int) < (l.length : Int) := by omega
      obtain ⟨x, hx⟩ : ∃ x, l[k]? = some x := ⟨_, List.getElem?_eq_getElem hlt⟩
      obtain ⟨b, off, rfl, hb, hc, c0, c1, c2, c3⟩ := ItR.at_ (RdK.all HH.out BW.out) hx
      have hcall := HP.out wr x BW.out
      have HX := Lib.hid hx
      obtain ⟨xk, xv, xn, xg⟩ := x
      unfold ics at hcall
      clear hx
      cases hq : p ⟨xk, xv, xn, xg⟩ with
      | true =>
        rw [hq] at hcall
        have HQ := Lib.hid hq
        clear hq
        go_wp2_with (go_at_fn g; refine hcall.mono ?_; rintro e w' ⟨rfl, hb'⟩)
        go_ret
        refine ⟨?_, BW.out.trans hb'⟩
        rw [← HR.out, idx_hit HX.out HQ.out A1.out]
        rfl
      | false =>
        rw [hq] at hcall
        have HQ := Lib.hid hq
        clear hq
        go_wp2_with (go_at_fn g; refine hcall.mono ?_; rintro e w' ⟨rfl, hb'⟩)
        go_roundw
        case measure => simp [intOf]; omega
        case rel =>
          refine ⟨k + 1, by omega, by simp, Lib.hid (BW.out.trans hb'), Lib.hid fun j y hj hy => ?_⟩
          by_cases e : j = k
          · subst e
            have := HX.out
            rw [hy] at this
            injection this with this
            rw [this]
            exact HQ.out
          · exact A1.out j y (by omega) hy
    · have hltz : ¬ (k : Int) < (l.length : Int) := by omega
      have : k = l.length := by omega
      subst this
      go_wp2_with fail
      go_ret
      refine ⟨?_, BW.out⟩
      rw [← HR.out, idx_miss fun j y hy => A1.out j y (List.getElem?_eq_some_iff.1 hy).1 hy]
      rfl
theorem indexKid_any (g : Nat) (lb : Array Value) (eg : ∀ args w, (callFunc g args).run Try.prog w = .ok (.enter g args) w) (p : Kid → Bool) {A : Option Addr} {n c : Nat} {l : List Kid} (w : World) (h : KdR w (.slice A n c) l) (hp : Pred g lb kcs p w) (hn : n ≤ 9223372036854775807) :
    Calls Try.prog 51 #[.slice A n c, .func (.func g) #[] lb] w fun e w' => e = .returned (.int .i64 (idx p l)) ∧ Kept (fun _ => True) w w' := by
  have hlen := h.len
  subst hlen
  have HH := Lib.hid h
  have HP := Lib.hid hp
  clear h hp
  obtain ⟨r, hr⟩ : ∃ r, idx p l = r := ⟨_, rfl⟩
  rw [hr]
  have HR := Lib.hid hr
  clear hr
  go_enter Try.func51, Try.ntmps51
  go_wp2_with fail
  go_loopw [5, 8] (fun _ s8 wr => ∃ k : Nat, k ≤ l.length ∧ s8 = .int .i64 k ∧ Hid (Kept (fun _ => True) w wr) ∧ Hid (∀ j y, j < k → l[j]? = some y → p y = false)) (fun _ s8 _ => l.length - (intOf s8).toNat)
  case atStart => exact ⟨0, Nat.zero_le _, rfl, Lib.hid (Kept.refl _ _), Lib.hid fun j _ hj => absurd hj (Nat.not_lt_zero _)⟩
  case round =>
    obtain ⟨k, hk, rfl, BW, A1⟩ := hrel
    by_cases hlt : k < l.length
    · have hltz : (k : Int) < (l.length : Int) := by omega
      obtain ⟨x, hx⟩ : ∃ x, l[k]? = some x := ⟨_, List.getElem?_eq_getElem hlt⟩
      obtain ⟨b, off, rfl, hb, hc, c0, c1⟩ := KdR.at_ (RdK.all HH.out BW.out) hx
      have hcall := HP.out wr x BW.out
      have HX := Lib.hid hx
      obtain ⟨xk, xn⟩ := x
      unfold kcs at hcall
      clear hx
      cases hq : p ⟨xk, xn⟩ with
      | true =>
        rw [hq] at hcall
        have HQ := Lib.hid hq
        clear hq
        go_wp2_with (go_at_fn g; refine hcall.mono ?_; rintro e w' ⟨rfl, hb'⟩)
        go_ret
        refine ⟨?_, BW.out.trans hb'⟩
        rw [← HR.out, idx_hit HX.out HQ.out A1.out]
        rfl
      | false =>
        rw [hq] at hcall
        have HQ := Lib.hid hq
        clear hq
        go_wp2_with (go_at_fn g; refine hcall.mono ?_; rintro e w' ⟨rfl, hb'⟩)
        go_roundw
        case measure => simp [intOf]; omega
        case rel =>
          refine ⟨k + 1, by omega, by simp, Lib.hid (BW.out.trans hb'), Lib.hid fun j y hj hy => ?_⟩
          by_cases e : j = k
          · subst e
            have := HX.out
            rw [hy] at this
            injection this with this
            rw [this]
            exact HQ.out
          · exact A1.out j y (by omega) hy
    · have hltz : ¬ (k : Int) < (l.length : Int) := by omega
      have : k = l.length := by omega
      subst this
      go_wp2_with fail
      go_ret
      refine ⟨?_, BW.out⟩
      rw [← HR.out, idx_miss fun j y hy => A1.out j y (List.getElem?_eq_some_iff.1 hy).1 hy]
      rfl
theorem anyItem_any (g : Nat) (lb : Array Value) (eg : ∀ args w, (callFunc g args).run Try.prog w = .ok (.enter g args) w) (p : Item → Bool) {A : Option Addr} {n c : Nat} {l : List Item} (w : World) (h : ItR w (.slice A n c) l) (hp : Pred g lb ics p w) (hn : n ≤ 9223372036854775807) :
    Calls Try.prog 33 #[.slice A n c, .func (.func g) #[] lb] w fun e w' => e = .returned (.bool (l.any p)) ∧ Kept (fun _ => True) w w' := by
  have hc := indexItem_any g lb eg p w h hp hn
  have HG := Lib.hid (idx_ge p l)
  clear h hp eg
  revert hc HG
  generalize idx p l = r
  intro hc HG
  go_enter Try.func33, Try.ntmps33
  go_wp2_with (go_at_call 21; refine hc.mono ?_; rintro e w' ⟨rfl, hb'⟩)
  go_ret
  exact ⟨by rw [← HG.out]; rfl, hb'⟩
theorem anyKid_any (g : Nat) (lb : Array Value) (eg : ∀ args w, (callFunc g args).run Try.prog w = .ok (.enter g args) w) (p : Kid → Bool) {A : Option Addr} {n c : Nat} {l : List Kid} (w : World) (h : KdR w (.slice A n c) l) (hp : Pred g lb kcs p w) (hn : n ≤ 9223372036854775807) :
    Calls Try.prog 36 #[.slice A n c, .func (.func g) #[] lb] w fun e w' => e = .returned (.bool (l.any p)) ∧ Kept (fun _ => True) w w' := by
  have hc := indexKid_any g lb eg p w h hp hn
  have HG := Lib.hid (idx_ge p l)
  clear h hp eg
  revert hc HG
  generalize idx p l = r
  intro hc HG
  go_enter Try.func36, Try.ntmps36
  go_wp2_with (go_at_call 51; refine hc.mono ?_; rintro e w' ⟨rfl, hb'⟩)
  go_ret
  exact ⟨by rw [← HG.out]; rfl, hb'⟩
end Ytfoolgojcmkdbaa
end Go.Proofs
