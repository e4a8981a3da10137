/-
  The first bytes of a slice.
-/
import Derived.Test.YtglhkfiigbbpdaaBytes
namespace Go.Proofs.Ytglhkfiigbbpdaa
open Go.RowKit
theorem Rd.takeA {w : World} {A : Option Addr} {c k : Nat} {l : List UInt8} (h : Rd w (.slice A l.length c) l) (hk : k ≤ l.length) (hc : k ≤ c) : Rd w (.slice A k c) (l.take k) := by
  obtain ⟨A0, c0, hv, hlc, hA⟩ := h
  injection hv with h1 _ h3
  subst h1 h3
  have hl : (l.take k).length = k := by rw [List.length_take]; omega
  refine ⟨A, c, by rw [hl], by rw [hl]; exact hc, fun i u hu => ?_⟩
  rw [List.getElem?_take] at hu
  split at hu
  · exact hA i u hu
  · cases hu
end Go.Proofs.Ytglhkfiigbbpdaa
