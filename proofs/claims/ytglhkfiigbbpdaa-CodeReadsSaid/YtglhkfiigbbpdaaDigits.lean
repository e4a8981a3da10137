/-
  The digits of a number, gone over by an iterator that counts its own number down.
-/
import Derived.Test.YtglhkfiigbbpdaaForm
import Derived.RangeFuncNested
import Derived.RangeFuncBound
import Derived.RangeFuncCalls
import Derived.RangeFuncLeaves
import Derived.RangeFuncBox
import Derived.Shelf.Abstract
import Derived.Shelf.RegionOpen
import Derived.OwnWalkIn
import Derived.TacticsInMore
import Derived.LoopNIn
import Derived.LoopIn
set_option maxHeartbeats 1000000
set_option maxRecDepth 100000
namespace Go.Proofs
open Go.RowKit Go.Shelf
namespace Ytglhkfiigbbpdaa
attribute [local go_sem] Oper.semAt_some
theorem digits_any (w : World) (n : Int) :
    Calls Try.prog 28 #[.int .u64 n] w fun r w' => r = .returned (.func (.func 32) #[] #[.pointer (some ⟨w.heap.size, 0, none⟩)]) ∧ w' = w.alloc (.cells #[.int .u64 n] 27) := by
  go_enter Try.func28, Try.ntmps28
  go_wp2
  go_ret
  exact ⟨rfl, rfl⟩
theorem or128 (m : Nat) : bits BinOp.or IntKind.u8 ((m : Int) % 256) 128 = ((UInt8.ofNat (m % 128 + 128)).toNat : Int) := by
  have h : ∀ k : Fin 256, bits BinOp.or IntKind.u8 ((k.val : Nat) : Int) 128 = ((k.val % 128 + 128 : Nat) : Int) := by decide +kernel
  have h1 := h ⟨m % 256, by omega⟩
  simp only at h1
  have e1 : (m : Int) % 256 = ((m % 256 : Nat) : Int) := by omega
  have e2 : m % 256 % 128 = m % 128 := by omega
  rw [e1, h1, e2, UInt8.toNat_ofNat']
  omega
theorem low256 (m : Nat) (h : m < 128) : ((UInt8.ofNat m).toNat : Int) = (m : Int) := by
  rw [UInt8.toNat_ofNat']
  omega
def boxN (bn : Nat) (w : World) : Nat := match w.cell? ⟨bn, 0, none⟩ with | some v => (intOf v).toNat | none => 0
theorem boxN_of {bn : Nat} {w : World} {n : Nat} (h : Blk w bn 27 #[.int .u64 (n : Int)]) : boxN bn w = n := by
  unfold boxN
  rw [h.cell]
  simp [intOf]
theorem digits1_in (F : Fence) (n : Nat) (h6 : F.fn 32) (hro : F.round = none) (hn : 1 ≤ n) (l bn N : Nat) (hN : N < 18446744073709551616) (J : List UInt8 → World → Prop)
    (hJ : ∀ pre W u, J pre W → J pre (W.setCell ⟨bn, 0, none⟩ u))
    (hY : ∀ pre x post W, form N = pre ++ x :: post → J pre W → YieldAt F (n - 1) Try.prog l #[.int .u8 (x.toNat : Int)] W fun e W' => e = .returned (.bool true) ∧ J (pre ++ [x]) W' ∧ Kept (fun b => b = bn) W W')
    (W : World) (hb : Blk W bn 27 #[.int .u64 (N : Int)]) (h0 : J [] W) :
    CallsIn F n Try.prog 32 #[.func (.yield l) #[] #[], .pointer (some ⟨bn, 0, none⟩)] W fun e W' => (∃ v, e = .returned v) ∧ J (form N) W' := by
  refine callsIn_of_wp Try.func32 rfl h6 ?_ hro
  simp only [Try.ntmps32, List.size_toArray, List.length_cons, List.length_nil, Nat.reduceAdd, Nat.reduceSub, Array.replicate_succ, Array.replicate_zero, List.push_toArray, List.append_toArray, List.nil_append, List.cons_append]
  gi_wp2
  gi_loopw [] (fun wr => ∃ (pre : List UInt8) (m : Nat), Hid (form N = pre ++ form m) ∧ m < 18446744073709551616 ∧ J pre wr ∧ Blk wr bn 27 #[.int .u64 (m : Int)])
    (fun wr => boxN bn wr)
  case atStart => exact ⟨[], N, rfl, hN, h0, hb⟩
  case round =>
    obtain ⟨pre, m, HF, hm, hJs, hbm⟩ := hrel
    have c0 := hbm.cell 0
    have c0f := hbm.frozen 0
    by_cases hlt : m < 128
    · have hd : decide ((128 : Int) ≤ (m : Int)) = false := by simp; omega
      have hx := low256 m hlt
      have hfm := form_lt hlt
      obtain ⟨x, hxe⟩ : ∃ x, UInt8.ofNat m = x := ⟨_, rfl⟩
      rw [hxe] at hx hfm
      have hF2 : form N = pre ++ [x] := by rw [← hfm]; exact HF.out
      have hYx := hY pre x [] wr hF2 hJs
      rw [hx] at hYx
      obtain ⟨fn, tmps, assign, body, hy, hR⟩ := hYx
      have HF2 := Lib.hid hF2
      clear hxe hfm hF2 hJs hx
      gi_wp2
      refine hR.mono ?_
      rintro e W3 ⟨rfl, hJ3, hk3⟩
      gi_wp2
      go_end0
      exact ⟨⟨_, rfl⟩, by rw [HF2.out]; exact hJ3⟩
    · have hd : decide ((128 : Int) ≤ (m : Int)) = true := by simp; omega
      have hx := or128 m
      have hfm := form_ge hlt
      obtain ⟨x, hxe⟩ : ∃ x, UInt8.ofNat (m % 128 + 128) = x := ⟨_, rfl⟩
      rw [hxe] at hx hfm
      have hF2 : form N = pre ++ x :: form (m / 128) := by rw [← hfm]; exact HF.out
      obtain ⟨fn, tmps, assign, body, hy, hR⟩ := hY pre x _ wr hF2 hJs
      have HF2 : Hid (form N = (pre ++ [x]) ++ form (m / 128)) := by rw [hF2]; simp [Hid]
      have HL := Lib.hid hlt
      have HBM := Lib.hid hbm
      clear hxe hfm hF2 hJs hlt hbm
      gi_wp2
      refine hR.mono ?_
      rintro e W3 ⟨rfl, hJ3, hk3⟩
      have hb3 := HBM.out.kept hk3 rfl
      have d0 := hb3.cell 0
      have d0f := hb3.frozen 0
      have hdv : ((m / 128 : Nat) : Int) = (m : Int) / 128 := by omega
      have hb4 : Blk (W3.setCell ⟨bn, 0, none⟩ (.int .u64 ((m / 128 : Nat) : Int))) bn 27 #[.int .u64 ((m / 128 : Nat) : Int)] := hb3.set_ 0 (.int .u64 ((m / 128 : Nat) : Int))
      have hJ4 := hJ _ _ (.int .u64 ((m / 128 : Nat) : Int)) hJ3
      have hbx := boxN_of hb4
      rw [hdv] at hb4 hJ4 hbx
      have HJ4 := Lib.hid hJ4
      have HB4 := Lib.hid hb4
      have HDV := Lib.hid hdv
      have HBX := Lib.hid hbx
      clear hJ3 hb3 hb4 hJ4 hk3 hdv hbx
      gi_wp2
      go_roundw
      case rel => exact ⟨_, m / 128, HF2.out, by omega, HJ4.out, by rw [HDV.out]; exact HB4.out⟩
      case measure => 
        rw [boxN_of HBM.out, HBX.out]
        have := HL.out
        omega
end Ytglhkfiigbbpdaa
end Go.Proofs
