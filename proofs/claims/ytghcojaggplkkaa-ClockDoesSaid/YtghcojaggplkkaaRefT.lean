/-
  The tally of a count.
-/
import Derived.Test.YtghcojaggplkkaaArgs
import Derived.StillTailTactics
set_option maxHeartbeats 1000000
namespace Go.Proofs
open Go.RowKit
theorem Try.cells45 : Try.prog.cellsOf 45 = 5 := by kernel_rfl
namespace Ytghcojaggplkkaa
attribute [local go_sem ↓] Go.wp_at_zero Go.wp_at_succ
theorem aload_still {k i : Nat} {x : Int} {W : World} (hc : W.cell? ⟨k, i, none⟩ = some (.int .i64 x)) : Calls Try.prog 25 #[.pointer (some ⟨k, i, none⟩)] W fun e w'' => e = .returned (.int .i64 x) ∧ w'' = W :=
  (aload_any k i W x hc).mono fun _ _ h => ⟨h.1, h.2.symm⟩
theorem tally_any (k : Nat) (t : Tal) (w : World) (hk : CntAt w k t) :
    Calls Try.prog 18 #[.pointer (some ⟨k, 0, none⟩)] w fun e w' => e = .returned (.agg t.arr) ∧ Kept (fun _ => True) w w' := by
  have hk2 : ∀ o, Blk ((w.alloc o).drew) k 67 t.arr := fun o => Blk.alloc hk o
  have c0 : ∀ o, ((w.alloc o).drew).cell? ⟨k, 0, none⟩ = some (.int .i64 t.l) := fun o => (hk2 o).cell 0
  have c1 : ∀ o, ((w.alloc o).drew).cell? ⟨k, 1, none⟩ = some (.int .i64 t.s) := fun o => (hk2 o).cell 1
  have c2 : ∀ o, ((w.alloc o).drew).cell? ⟨k, 2, none⟩ = some (.int .i64 t.c) := fun o => (hk2 o).cell 2
  have c3 : ∀ o, ((w.alloc o).drew).cell? ⟨k, 3, none⟩ = some (.int .i64 t.m) := fun o => (hk2 o).cell 3
  have c4 : ∀ o, ((w.alloc o).drew).cell? ⟨k, 4, none⟩ = some (.int .i64 t.a) := fun o => (hk2 o).cell 4
  go_enter Try.func18, Try.ntmps18
  go_wp2_with fail
  refine wp_region_still_tail 21 (by kernel_rfl) (by kernel_rfl) ?_
  simp only [List.take_succ_cons, List.take_zero, List.drop_succ_cons, List.drop_zero]
  repeat still_step
  still_call (aload_still (c0 _))
  repeat still_step
  still_call (aload_still (c1 _))
  repeat still_step
  still_call (aload_still (c2 _))
  repeat still_step
  still_call (aload_still (c3 _))
  repeat still_step
  still_call (aload_still (c4 _))
  repeat still_step
  refine wpStill_nil ?_
  obtain ⟨W, hW⟩ : ∃ W, (w.alloc (.cells Tal.zero.arr 45)).drew = W := ⟨_, rfl⟩
  have hb : Blk W w.heap.size 45 Tal.zero.arr := by rw [← hW]; exact Blk.new w 45 Tal.zero.arr
  have hkp : Kept (fun _ => True) w W := by rw [← hW]; exact ((Kept.refl _ w).alloc _).drew
  change wpList _ _ _ _ _ (w.alloc (.cells Tal.zero.arr 45)).drew
  rw [hW]
  have b0 : W.cell? ⟨w.heap.size, 0, none⟩ = some (.int .i64 0) := hb.cell 0
  have b1 : W.cell? ⟨w.heap.size, 1, none⟩ = some (.int .i64 0) := hb.cell 1
  have b2 : W.cell? ⟨w.heap.size, 2, none⟩ = some (.int .i64 0) := hb.cell 2
  have b3 : W.cell? ⟨w.heap.size, 3, none⟩ = some (.int .i64 0) := hb.cell 3
  have b4 : W.cell? ⟨w.heap.size, 4, none⟩ = some (.int .i64 0) := hb.cell 4
  have z0 : W.frozen? ⟨w.heap.size, 0, none⟩ = false := hb.frozen 0
  have z1 : W.frozen? ⟨w.heap.size, 1, none⟩ = false := hb.frozen 1
  have z2 : W.frozen? ⟨w.heap.size, 2, none⟩ = false := hb.frozen 2
  have z3 : W.frozen? ⟨w.heap.size, 3, none⟩ = false := hb.frozen 3
  have z4 : W.frozen? ⟨w.heap.size, 4, none⟩ = false := hb.frozen 4
  clear c0 c1 c2 c3 c4 hk2 hW
  go_wp2_with fail
  have h5 := ((((hb.set_ 0 (.int .i64 t.l)).set_ 1 (.int .i64 t.s)).set_ 2 (.int .i64 t.c)).set_ 3 (.int .i64 t.m)).set_ 4 (.int .i64 t.a)
  have hk5 := ((((hkp.mono (K' := fun b => b < w.heap.size) fun _ _ _ => trivial).setCell (p := ⟨w.heap.size, 0, none⟩) (fun h => absurd h (Nat.lt_irrefl _)) (.int .i64 t.l)).setCell (p := ⟨w.heap.size, 1, none⟩) (fun h => absurd h (Nat.lt_irrefl _)) (.int .i64 t.s)).setCell (p := ⟨w.heap.size, 2, none⟩) (fun h => absurd h (Nat.lt_irrefl _)) (.int .i64 t.c)).setCell (p := ⟨w.heap.size, 3, none⟩) (fun h => absurd h (Nat.lt_irrefl _)) (.int .i64 t.m)
  have hk6 := hk5.setCell (p := ⟨w.heap.size, 4, none⟩) (fun h => absurd h (Nat.lt_irrefl _)) (.int .i64 t.a)
  obtain ⟨V, hV⟩ : ∃ V, (((((W.setCell ⟨w.heap.size, 0, none⟩ (.int .i64 t.l)).setCell ⟨w.heap.size, 1, none⟩ (.int .i64 t.s)).setCell ⟨w.heap.size, 2, none⟩ (.int .i64 t.c)).setCell ⟨w.heap.size, 3, none⟩ (.int .i64 t.m)).setCell ⟨w.heap.size, 4, none⟩ (.int .i64 t.a)) = V := ⟨_, rfl⟩
  rw [hV] at h5 hk6
  rw [hV]
  have v0 : V.cell? ⟨w.heap.size, 0, none⟩ = some (.int .i64 t.l) := h5.cell 0
  have v1 : V.cell? ⟨w.heap.size, 1, none⟩ = some (.int .i64 t.s) := h5.cell 1
  have v2 : V.cell? ⟨w.heap.size, 2, none⟩ = some (.int .i64 t.c) := h5.cell 2
  have v3 : V.cell? ⟨w.heap.size, 3, none⟩ = some (.int .i64 t.m) := h5.cell 3
  have v4 : V.cell? ⟨w.heap.size, 4, none⟩ = some (.int .i64 t.a) := h5.cell 4
  clear h5 hk5 hV hb hkp b0 b1 b2 b3 b4 z0 z1 z2 z3 z4
  refine bodyPost_ret (v := .agg t.arr) ?_ rfl ⟨rfl, ⟨hk6.os, hk6.tape, hk6.output, hk6.size, fun b hb _ => hk6.block b hb hb⟩⟩
  have hres : Try.f18.results = #[.cell 2 45] := rfl
  unfold results
  rw [hres]
  go_simp
  rfl
end Ytghcojaggplkkaa
end Go.Proofs
