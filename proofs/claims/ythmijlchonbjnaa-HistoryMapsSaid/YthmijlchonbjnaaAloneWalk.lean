/-
  HistoryAlone: the walk.
-/
import Derived.Test.YthmijlchonbjnaaAlone
set_option maxHeartbeats 4000000
set_option maxRecDepth 100000
namespace Go.Proofs
open Go.RowKit
namespace Ythmijlchonbjnaa
attribute [local go_sem ↓] Go.wp_at_zero Go.wp_at_succ
theorem arg_low {α : Type} {k : Nat} {enc : α → List Value} {w : World} {v : Value} {l : List α} (h : RdK k enc w v l) (hne : l ≠ []) (g : Nat) (hg : v.ownBlock = some g) : g < w.heap.size := by
  obtain ⟨b, off, c, hv, _, hb, _⟩ := h.some_ hne
  rw [hv] at hg
  have : b = g := by simpa [Value.ownBlock] using hg
  omega
theorem KeptH.low {w0 W W' : World} {base : Nat} (h : Hid (Kept (fun _ => True) w0 W)) (hb : w0.heap.size ≤ base) (hk : Kept (fun b => b < base) W W') : Hid (Kept (fun _ => True) w0 W') :=
  Lib.hid (h.out.trans' hk fun i hi _ => by show i < base; omega)
theorem halone_any (l : List Call) {B : Option Addr} {n d : Nat} (w : World) (hr : CaR w (.slice B n d) l) :
    Calls Try.prog 5 #[.slice B n d] w fun e w' => e = .returned (.bool true) ∧ Kept (fun _ => True) w w' := by
  have HC := Lib.hid hr
  clear hr
  go_enter Try.func5, Try.ntmps5
  go_wp2_with fail
  refine (awake_any w).mono ?_
  rintro e w1 ⟨rfl, hk⟩
  have KW := Lib.hid hk
  clear hk
  go_wp2_with fail
  refine (new_any w1).mono ?_
  rintro e w2 ⟨g, rb, rfl, HR, hk⟩
  have HS : Hid (w.heap.size ≤ w1.heap.size) := Lib.hid KW.out.size
  have HS2 : Hid (w1.heap.size ≤ w2.heap.size) := Lib.hid hk.size
  replace KW := KeptH.go KW hk
  clear hk
  go_wp2_with fail
  refine (alone_any HR.out l (HC.out.all KW.out) (fun hne x hx => Nat.lt_of_lt_of_le (arg_low HC.out hne x hx) HS.out) HS2.out).mono ?_
  rintro e w3 ⟨⟨cs, rfl, ⟨A', c', HR3⟩, GD, LN⟩, hk⟩
  replace KW := KeptH.low KW HS.out hk
  clear hk HR
  go_wp2_with fail
  refine (check_any HR3.out (fun i x hx => by have := GD.out.fine [] i x hx; rwa [List.append_nil] at this) (by have := LN.out; omega)).mono ?_
  rintro e w4 ⟨hc, hk⟩
  replace KW := KeptH.go KW hk
  clear hk
  have he : e = .returned (.tuple #[.bool true, .int .i64 (-1)]) := by
    rcases hc with ⟨k, x, e', a, tt, hx, hf, hj, _⟩ | ⟨he, _⟩
    · have := GD.out.judge (m := []) (by rw [List.append_nil]) hx hf.fin
      rw [List.append_nil, hj] at this
      cases this
    · exact he
  clear hc
  subst he
  go_wp2_with fail
  go_ret
  exact ⟨rfl, KW.out⟩
end Ythmijlchonbjnaa
end Go.Proofs
