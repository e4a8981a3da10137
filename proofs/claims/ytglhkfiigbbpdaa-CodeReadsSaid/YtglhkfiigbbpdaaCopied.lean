/-
  A copy of bytes in new memory.
-/
import Derived.Test.YtglhkfiigbbpdaaBytes
import Derived.Deep.DrawnRows
import Derived.StillTailTactics
set_option maxHeartbeats 400000
namespace Go.Proofs
open Go.RowKit
theorem Try.size5 : (Try.prog.info? 5).map (·.size) = some 1 := by kernel_rfl
namespace Ytglhkfiigbbpdaa
attribute [local go_sem ↓] Go.wp_at_zero Go.wp_at_succ
def zeros (n : Nat) : List Value := List.replicate n (.int .u8 0)
theorem make_zeros (n : Nat) (hn : n ≤ 281474976710656) : ∀ w : World, (Instr.makeSlice 26 (.int .i64 (n : Int)) (.int .i64 (n : Int))).run Try.prog w = .ok (.slice (some ⟨w.heap.size, 0, none⟩) n n) (w.alloc (.cells (zeros n).toArray 5)) := by
  intro w
  obtain ⟨i0, hi0, hz0, hz1, hz2⟩ := info_parts Try.info5
  have h := run_make (P := Try.prog) w 26 5 i0 _ Try.underlying26 hi0 hz0 .i64 .i64 n n (by omega) (Int.le_refl _) (by rw [hz2]; omega) (by omega)
  rw [h]
  have e : madeCells (Value.int .u8 0).cells ((n : Int).toNat * i0.size) = (zeros n).toArray := by
    rw [hz1]
    apply Array.ext'
    show (madeCells #[.int .u8 0] _).toList = _
    rw [toList_madeCells_one]
    simp [zeros]
  rw [e]
  simp
theorem splice_all (cs L : List Value) (h : cs.length = L.length) : splice L 0 cs = cs := by
  unfold splice
  rw [h]
  simp

/-- What a copy leaves. -/
structure Fresh (w w' : World) (v : Value) (l : List UInt8) : Prop where
  val : v = .slice (some ⟨w.heap.size, 0, none⟩) l.length l.length
  blk : Blk w' w.heap.size 5 (bc l).toArray
  kept : Kept (fun _ => True) w w'
theorem Fresh.rd {w w' : World} {v : Value} {l : List UInt8} (h : Fresh w w' v l) : Rd w' v l := by
  rw [h.val]
  exact Rd.of_blk h.blk (Nat.le_refl _) (by rw [← bc_length]; simp)
theorem Fresh.row {w w' : World} {v : Value} {l : List UInt8} (h : Fresh w w' v l) {base : Nat} (hb : base ≤ w.heap.size) (hl : l.length ≤ maxLen) : Row1 w' base 5 v (bc l) := by
  rw [h.val]
  exact .inr ⟨_, _, _, by rw [bc_length], hb, h.blk, by rw [bc_length]; exact Nat.le_refl _, by simp [bc_length], hl, by simp⟩
theorem copied_any (v : Value) (l : List UInt8) (w : World) (h : Rd w v l) (hl : l.length ≤ 281474976710656) :
    Calls Try.prog 29 #[v] w fun e w' => ∃ v', e = .returned v' ∧ Fresh w w' v' l := by
  have hmk := make_zeros l.length hl
  have hsome := h.some_
  obtain ⟨A, c, rfl, hlc, hA⟩ := h
  go_enter Try.func29, Try.ntmps29
  have hw1 : Blk (w.alloc (.cells (zeros l.length).toArray 5)) w.heap.size 5 (zeros l.length).toArray := Blk.new _ _ _
  have hk1 : Kept (fun _ => True) w (w.alloc (.cells (zeros l.length).toArray 5)) := (Kept.refl _ w).alloc _
  have hbl : Below w.heap.size w (w.alloc (.cells (zeros l.length).toArray 5)) := (Below.refl _ w).alloc (Nat.le_refl _) _
  obtain ⟨w1, hw⟩ : ∃ w1, w.alloc (.cells (zeros l.length).toArray 5) = w1 := ⟨_, rfl⟩
  have hmw : (Instr.makeSlice 26 (.int .i64 (l.length : Int)) (.int .i64 (l.length : Int))).run Try.prog w = .ok (.slice (some ⟨w.heap.size, 0, none⟩) l.length l.length) w1 := by rw [← hw]; exact hmk w
  rw [hw] at hw1 hk1 hbl
  have hsr : 0 < (bc l).length → ∃ ad, A = some ad ∧ ∀ j u, (bc l)[j]? = some u → w1.cell? (ad.add j) = some u := by
    intro hp
    obtain ⟨b, off, c', hv, _, hc⟩ := hsome (fun e => by rw [e] at hp; simp [bc] at hp)
    injection hv with hv _ _
    refine ⟨_, hv, fun j u hj => ?_⟩
    obtain ⟨x, hx, rfl⟩ := bc_get' hj
    rw [addr_add]
    have h1 := hc j x hx
    exact (hk1.cell (p := ⟨b, off + j, none⟩) (lt_of_cell h1) trivial).trans h1
  have HSR := Lib.hid hsr
  have HW1 := Lib.hid hw1
  have HBL := Lib.hid hbl
  obtain ⟨cs, hcs⟩ : ∃ cs, bc l = cs := ⟨_, rfl⟩
  have hzl : (zeros l.length).length = l.length := by simp [zeros]
  obtain ⟨zs, hzs⟩ : ∃ zs, zeros l.length = zs := ⟨_, rfl⟩
  have hcl : cs.length = l.length := by rw [← hcs, bc_length]
  have h1c := bc_one l
  rw [hcs] at HSR h1c
  rw [hzs] at HW1 hzl
  have HZL := Lib.hid hzl
  have HCL := Lib.hid hcl
  have HCS := Lib.hid hcs
  have H1C := Lib.hid h1c
  clear hmk hw hw1 hk1 hbl hsr hA hsome hcs hzs hcl hzl h1c
  go_wp2_with (refine wpList_copy_splice (o := ⟨some 9, _, _, _, _, _⟩) (by rfl) (.tmp 7) (.tmp 8) 26 26 (by rfl) 5 Try.underlying26 Try.size5 (some ⟨w.heap.size, 0, none⟩) A l.length l.length l.length c (by rfl) (by rfl) w.heap.size 0 zs 5 HW1.out cs (by rw [HCL.out]; exact (Nat.min_self _).symm) (fun hp => ⟨rfl, HSR.out hp⟩) (by rw [HCL.out, HZL.out]; omega) H1C.out w.heap.size w HBL.out (Nat.le_refl _) ?_; intro w2 hg2 hb2)
  go_ret
  have hsp : splice zs 0 cs = bc l := by rw [HCS.out, splice_all _ _ (by rw [HCL.out, HZL.out])]
  refine ⟨_, rfl, rfl, ?_, ⟨hb2.os, hb2.tape, hb2.output, hb2.size, fun b hb _ => hb2.block b hb⟩⟩
  rw [← hsp]
  exact hg2.out
end Ytglhkfiigbbpdaa
end Go.Proofs
