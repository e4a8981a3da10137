/-
  Contracts of the cells (package cell) and of sync/atomic's Int64 beneath them.
-/
import Derived.Test.YtghcojaggplkkaaProg
import Derived.Test.YtghcojaggplkkaaKit
set_option maxHeartbeats 400000
namespace Go.Proofs
open Go.RowKit
theorem Try.cells72 : Try.prog.cellsOf 72 = 2 := by kernel_rfl
theorem Try.cells67 : Try.prog.cellsOf 67 = 5 := by kernel_rfl
theorem Try.cells65 : Try.prog.cellsOf 65 = 1 := by kernel_rfl
namespace Ytghcojaggplkkaa

theorem aadd_any (b off : Nat) (w : World) (x y : Int) (hc : w.cell? ⟨b, off, none⟩ = some (.int .i64 x)) (hf : w.frozen? ⟨b, off, none⟩ = false) :
    Calls Try.prog 28 #[.pointer (some ⟨b, off, none⟩), .int .i64 y] w fun e w' => e = .returned (.int .i64 (wrap64 (x + y))) ∧ w' = w.setCell ⟨b, off, none⟩ (.int .i64 (wrap64 (x + y))) := by
  have hadd := run_call_add (P := Try.prog) Try.func31 (by kernel_rfl) (by kernel_rfl) (by kernel_rfl) .i64 (by kernel_rfl) (a := ⟨b, off, none⟩) (x := x) (y := y) (s := wrap64 (x + y)) (w := w) hc hf (by simp [go_sem, wrap64, IntKind.wrap_i64])
  go_enter Try.func28, Try.ntmps28
  go_wp2
  go_ret
  exact ⟨rfl, rfl⟩

theorem aload_any (b off : Nat) (w : World) (x : Int) (hc : w.cell? ⟨b, off, none⟩ = some (.int .i64 x)) :
    Calls Try.prog 25 #[.pointer (some ⟨b, off, none⟩)] w fun e w' => e = .returned (.int .i64 x) ∧ w = w' := by
  have hl := run_call_load (P := Try.prog) Try.func29 (by kernel_rfl) (by kernel_rfl) (by kernel_rfl) .i64 (by kernel_rfl) (a := ⟨b, off, none⟩) (x := x) (w := w) hc
  go_enter Try.func25, Try.ntmps25
  go_wp2
  go_ret
  exact ⟨rfl, rfl⟩

theorem astore_any (b off : Nat) (w : World) (y : Int) (u : Value) (hc : w.cell? ⟨b, off, none⟩ = some u) (hf : w.frozen? ⟨b, off, none⟩ = false) :
    Calls Try.prog 26 #[.pointer (some ⟨b, off, none⟩), .int .i64 y] w fun e w' => e = .returned (.tuple #[]) ∧ w' = w.setCell ⟨b, off, none⟩ (.int .i64 y) := by
  have hs := run_call_store (P := Try.prog) Try.func30 (by kernel_rfl) (by kernel_rfl) (by kernel_rfl) (by kernel_rfl) (a := ⟨b, off, none⟩) (k := .i64) (y := y) (u := u) (w := w) hc hf
  go_enter Try.func26, Try.ntmps26
  go_wp2
  go_end0
  exact ⟨rfl, rfl⟩

/-- A count of accesses: loads, stores, swaps, misses, adds. -/
structure Tal where
  l : Int
  s : Int
  c : Int
  m : Int
  a : Int
def Tal.arr (t : Tal) : Array Value := #[.int .i64 t.l, .int .i64 t.s, .int .i64 t.c, .int .i64 t.m, .int .i64 t.a]
def Tal.load (t : Tal) : Tal := { t with l := wrap64 (t.l + 1) }
def Tal.store (t : Tal) : Tal := { t with s := wrap64 (t.s + 1) }
def Tal.add (t : Tal) : Tal := { t with a := wrap64 (t.a + 1) }
def Tal.zero : Tal := ⟨0, 0, 0, 0, 0⟩

/-- Block b is a cell with number v, counted in block k. -/
def IntAt (w : World) (b k : Nat) (v : Int) : Prop := Blk w b 72 #[.int .i64 v, .pointer (some ⟨k, 0, none⟩)]
/-- Block k is a count. -/
def CntAt (w : World) (k : Nat) (t : Tal) : Prop := Blk w k 67 t.arr

theorem IntAt.ne_cnt {w : World} {b k k' : Nat} {v : Int} {t : Tal} (h : IntAt w b k v) (h' : CntAt w k' t) : b ≠ k' := Blk.ne_ h h' (by decide)

theorem iload_any (b k : Nat) (w : World) (v : Int) (t : Tal) (hi : IntAt w b k v) (hk : CntAt w k t) :
    Calls Try.prog 23 #[.pointer (some ⟨b, 0, none⟩)] w fun e w' => e = .returned (.int .i64 v) ∧ w' = w.setCell ⟨k, 0, none⟩ (.int .i64 t.load.l) := by
  have c0 : w.cell? ⟨b, 0, none⟩ = some (.int .i64 v) := by rw [Blk.cell hi]; rfl
  have c1 : w.cell? ⟨b, 1, none⟩ = some (.pointer (some ⟨k, 0, none⟩)) := by rw [Blk.cell hi]; rfl
  have c2 : w.cell? ⟨k, 0, none⟩ = some (.int .i64 t.l) := by rw [Blk.cell hk]; rfl
  have f2 : w.frozen? ⟨k, 0, none⟩ = false := Blk.frozen hk 0
  have hne : ¬ b = k := hi.ne_cnt hk
  go_enter Try.func23, Try.ntmps23
  go_wp2_with fail
  refine (aadd_any _ _ _ _ _ c2 f2).mono ?_
  rintro e w' ⟨rfl, rfl⟩
  go_wp2_with fail
  refine (aload_any _ _ _ v (by rw [World.cell?_setCell_other _ _ _ _ (by simp)]; exact c0)).mono ?_
  rintro e w' ⟨rfl, rfl⟩
  go_wp2_with fail
  go_ret
  exact ⟨rfl, rfl⟩

theorem iadd_any (b k : Nat) (w : World) (v y : Int) (t : Tal) (hi : IntAt w b k v) (hk : CntAt w k t) :
    Calls Try.prog 22 #[.pointer (some ⟨b, 0, none⟩), .int .i64 y] w fun e w' => e = .returned (.int .i64 (wrap64 (v + y))) ∧ w' = (w.setCell ⟨k, 4, none⟩ (.int .i64 t.add.a)).setCell ⟨b, 0, none⟩ (.int .i64 (wrap64 (v + y))) := by
  have c0 : w.cell? ⟨b, 0, none⟩ = some (.int .i64 v) := by rw [Blk.cell hi]; rfl
  have c1 : w.cell? ⟨b, 1, none⟩ = some (.pointer (some ⟨k, 0, none⟩)) := by rw [Blk.cell hi]; rfl
  have c2 : w.cell? ⟨k, 4, none⟩ = some (.int .i64 t.a) := by rw [Blk.cell hk]; rfl
  have f0 : w.frozen? ⟨b, 0, none⟩ = false := Blk.frozen hi 0
  have f2 : w.frozen? ⟨k, 4, none⟩ = false := Blk.frozen hk 4
  have hne : ¬ b = k := hi.ne_cnt hk
  go_enter Try.func22, Try.ntmps22
  go_wp2_with fail
  refine (aadd_any _ _ _ _ _ c2 f2).mono ?_
  rintro e w' ⟨rfl, rfl⟩
  go_wp2_with fail
  refine (aadd_any _ _ _ v _ (by rw [World.cell?_setCell_other _ _ _ _ (by simp)]; exact c0) (by rw [World.frozen?_setCell]; exact f0)).mono ?_
  rintro e w' ⟨rfl, rfl⟩
  go_wp2_with fail
  go_ret
  exact ⟨rfl, rfl⟩

/-- A new count: one new block. -/
theorem newcount_any (w : World) :
    Calls Try.prog 12 #[] w fun e w' => e = .returned (.pointer (some ⟨w.heap.size, 0, none⟩)) ∧ w' = w.alloc (.cells Tal.zero.arr 67) := by
  go_enter Try.func12, Try.ntmps12
  go_wp2_with fail
  go_ret
  exact ⟨rfl, rfl⟩

/-- A new cell that is counted by k. -/
theorem newint_some (k : Nat) (n : Int) (w : World) :
    Calls Try.prog 20 #[.pointer (some ⟨k, 0, none⟩), .int .i64 n] w fun e w' => e = .returned (.pointer (some ⟨w.heap.size, 0, none⟩)) ∧
      w' = w.alloc (.cells #[.int .i64 n, .pointer (some ⟨k, 0, none⟩)] 72) := by
  go_enter Try.func20, Try.ntmps20
  go_wp2_with fail
  refine (astore_any _ _ _ _ (.int .i64 0) (Blk.cell (Blk.new _ _ _) 0) (Blk.frozen (Blk.new _ _ _) 0)).mono ?_
  rintro e w' ⟨rfl, rfl⟩
  go_wp2_with fail
  go_ret
  exact ⟨rfl, rfl⟩

/-- A new cell that nobody counts: a count of its own. -/
theorem newint_none (n : Int) (w : World) :
    Calls Try.prog 20 #[.pointer none, .int .i64 n] w fun e w' => e = .returned (.pointer (some ⟨w.heap.size + 1, 0, none⟩)) ∧
      w' = (w.alloc (.cells Tal.zero.arr 67)).alloc (.cells #[.int .i64 n, .pointer (some ⟨w.heap.size, 0, none⟩)] 72) := by
  go_enter Try.func20, Try.ntmps20
  go_wp2_with fail
  refine (newcount_any _).mono ?_
  rintro e w' ⟨rfl, rfl⟩
  go_wp2_with fail
  refine (astore_any _ _ _ _ (.int .i64 0) (by rw [← World.size_alloc w (.cells Tal.zero.arr 67)]; exact Blk.cell (Blk.new _ _ _) 0) (by rw [← World.size_alloc w (.cells Tal.zero.arr 67)]; exact Blk.frozen (Blk.new _ _ _) 0)).mono ?_
  rintro e w' ⟨rfl, rfl⟩
  go_wp2_with fail
  go_ret
  exact ⟨rfl, rfl⟩
end Ytghcojaggplkkaa
end Go.Proofs
