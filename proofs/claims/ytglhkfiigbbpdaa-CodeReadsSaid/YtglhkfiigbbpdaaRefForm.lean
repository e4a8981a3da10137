/-
  The reference's form of a number.
-/
import Derived.Test.YtglhkfiigbbpdaaFormLaws
import Derived.Test.YtglhkfiigbbpdaaWriter
set_option maxHeartbeats 1000000
set_option maxRecDepth 10000
namespace Go.Proofs
open Go.RowKit
namespace Ytglhkfiigbbpdaa
attribute [local go_sem ↓] Go.wp_at_zero Go.wp_at_succ
theorem refForm_any (N : Nat) (hN : N < 18446744073709551616) (w : World) :
    Calls Try.prog 11 #[.int .u64 (N : Int)] w fun r w' => ∃ v, r = .returned v ∧ Row1 w' w.heap.size 5 v (bc (form N)) ∧ Kept (fun b => b < w.heap.size) w w' := by
  go_enter Try.func11, Try.ntmps11
  go_wp2_with fail
  go_loopw [0, 3] (fun z s wr => ∃ (m : Nat) (pre : List UInt8) (A : Option Addr) (c : Nat), z = .int .u64 (m : Int) ∧ s = .slice A (bc pre).length c ∧ Hid (form N = pre ++ form m) ∧ m < 18446744073709551616 ∧ Hid (Row1 wr w.heap.size 5 (.slice A (bc pre).length c) (bc pre)) ∧ Kept (fun b => b < w.heap.size) w wr)
    (fun z _ _ => (intOf z).toNat)
  case atStart => exact ⟨N, [], none, 0, rfl, rfl, rfl, hN, Row1.nil _ _ _, Kept.refl _ _⟩
  case round =>
    obtain ⟨m, pre, A, c, rfl, rfl, HF, hm, HR, q⟩ := hrel
    have hfl := form_len hN
    have hpl : pre.length + 1 ≤ 10 := by
      have h1 := form_pos m
      rw [HF.out, List.length_append] at hfl
      omega
    by_cases h128 : m < 128
    · have hd : decide (127 < (m : Int)) = false := by simp; omega
      have hx := low256 m h128
      have hfm := form_lt h128
      obtain ⟨x, hxe⟩ : ∃ x, UInt8.ofNat m = x := ⟨_, rfl⟩
      rw [hxe] at hx hfm
      obtain ⟨v2, w3, hrun, hrow2, hk2, hat⟩ := run_append_src (P := Try.prog) (t := 26) (ty := 26) (w := wr.alloc (.cells #[.int .u8 (x.toNat : Int)] 5)) Try.underlying26 Try.info5 (HR.out.alloc _) (Rd.of_blk (l := [x]) (off := 0) (cap := 1) (Blk.new wr 5 #[.int .u8 (x.toNat : Int)]) (Nat.le_refl _) rfl)
        (by rw [bc_length]; simp; omega) (by rw [World.size_alloc]; have := q.size; omega)
      rw [← bc_append] at hrow2
      have hF2 : form N = pre ++ [x] := by rw [← hfm]; exact HF.out
      rw [hx] at hrun
      have hown : ∀ g, (Value.slice A (bc pre).length c).ownBlock = some g → w.heap.size ≤ g := fun g hg => (HR.out.lt hg).2
      have q3 : Kept (fun b => b < w.heap.size) w w3 := (q.alloc _).trans' (hk2) fun b _ hb e => Nat.not_lt_of_le (hown b e) hb
      obtain ⟨A2, c2, rfl⟩ := hrow2.form
      have HRUN := Lib.hid hrun
      have HROW := Lib.hid hrow2
      have HF2 := Lib.hid hF2
      clear hrun hrow2 hk2 hat hown hxe hx hfm hF2 q
      go_wp2_with (at_builtin; refine wpList_append_run (by rfl) (.tmp 15) (.tmp 18) 26 (by rfl) (by rfl) (by rfl) HRUN.out ?_)
      go_ret
      exact ⟨_, rfl, by rw [HF2.out]; exact HROW.out, q3⟩
    · have hd : decide (127 < (m : Int)) = true := by simp; omega
      have hx : ((UInt8.ofNat (m % 128 + 128)).toNat : Int) = (m : Int) % 128 + 128 := by rw [u8_ofNat (by omega)]; omega
      have hfm := form_ge h128
      obtain ⟨x, hxe⟩ : ∃ x, UInt8.ofNat (m % 128 + 128) = x := ⟨_, rfl⟩
      rw [hxe] at hx hfm
      obtain ⟨v2, w3, hrun, hrow2, hk2, hat⟩ := run_append_src (P := Try.prog) (t := 26) (ty := 26) (w := wr.alloc (.cells #[.int .u8 (x.toNat : Int)] 5)) Try.underlying26 Try.info5 (HR.out.alloc _) (Rd.of_blk (l := [x]) (off := 0) (cap := 1) (Blk.new wr 5 #[.int .u8 (x.toNat : Int)]) (Nat.le_refl _) rfl)
        (by rw [bc_length]; simp; omega) (by rw [World.size_alloc]; have := q.size; omega)
      rw [← bc_append] at hrow2
      have hF2 : form N = (pre ++ [x]) ++ form (m / 128) := by rw [HF.out, hfm]; simp
      rw [hx] at hrun
      have hown : ∀ g, (Value.slice A (bc pre).length c).ownBlock = some g → w.heap.size ≤ g := fun g hg => (HR.out.lt hg).2
      have q3 : Kept (fun b => b < w.heap.size) w w3 := (q.alloc _).trans' (hk2) fun b _ hb e => Nat.not_lt_of_le (hown b e) hb
      obtain ⟨A2, c2, rfl⟩ := hrow2.form
      have HRUN := Lib.hid hrun
      have HROW := Lib.hid hrow2
      have HF2 := Lib.hid hF2
      have H128 := Lib.hid h128
      clear hrun hrow2 hk2 hat hown hxe hx hfm hF2 q h128
      go_wp2_with (at_builtin; refine wpList_append_run (by rfl) (.tmp 6) (.tmp 11) 26 (by rfl) (by rfl) (by rfl) HRUN.out ?_)
      go_roundw
      case rel => exact ⟨m / 128, pre ++ [x], A2, c2, by go_num, rfl, HF2, by omega, HROW, q3⟩
      case measure => simp [intOf]; have := H128.out; omega
end Ytglhkfiigbbpdaa
end Go.Proofs
