/-
  EpochDoes where there are too few clients, or too many.
-/
import Derived.Test.YtbefknaffopeaaaDoesWalk
set_option maxHeartbeats 1000000
set_option maxRecDepth 100000
namespace Go.Proofs
open Go.RowKit
namespace Ytbefknaffopeaaa
theorem does_bad (n : Int) (A : Option Addr) (len cap : Nat) (w : World) (h : n < 1 ∨ 64 < n) :
    Calls Try.prog 6 #[.int .i64 n, .slice A len cap] w fun e w' => e = .returned (.bool true) ∧ Kept (fun _ => True) w w' := by
  have HB := Lib.hid h
  clear h
  go_enter Try.func6, Try.ntmps6
  go_wp2_with fail
  refine (awake_any _).mono ?_
  rintro e w1 ⟨rfl, k1⟩
  go_wp2_with fail
  refine (newcount_any w1).mono ?_
  rintro e w0 ⟨rfl, rfl⟩
  go_wp2_with fail
  refine (new_bad _ n _ HB.out).mono ?_
  rintro e w2 ⟨rfl, rfl⟩
  go_wp2_with fail
  refine (newR_bad n _ HB.out).mono ?_
  rintro e w3 ⟨rfl, rfl⟩
  go_wp2_with fail
  go_ret
  exact ⟨rfl, k1.alloc _⟩
end Ytbefknaffopeaaa
end Go.Proofs
