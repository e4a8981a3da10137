/-
  A writer: New, Raw, Done, Num, Bytes.
-/
import Derived.Test.YtglhkfiigbbpdaaDigits
set_option maxHeartbeats 1000000
set_option maxRecDepth 100000
namespace Go.Proofs
open Go.RowKit Go.Shelf
theorem Try.cells50 : Try.prog.cellsOf 50 = 1 := by kernel_rfl
theorem Try.cells26 : Try.prog.cellsOf 26 = 1 := by kernel_rfl
namespace Ytglhkfiigbbpdaa
/-- A writer in memory: its struct, its slice. -/
structure WRep (w : World) (base wb : Nat) (v : Value) (l : List UInt8) : Prop where
  blk : Blk w wb 50 #[v]
  row : Row1 w base 5 v (bc l)
  low : base ≤ wb
def wfoot (wb : Nat) (v : Value) (b : Nat) : Prop := b = wb ∨ v.ownBlock = some b
section
variable {w w' : World} {base wb : Nat} {v : Value} {l : List UInt8}
theorem WRep.kept (h : WRep w base wb v l) (hk : Kept (wfoot wb v) w w') : WRep w' base wb v l :=
  ⟨h.blk.kept hk (.inl rfl), h.row.kept hk fun _ hg => .inr hg, h.low⟩
theorem WRep.foot_lt (h : WRep w base wb v l) : ∀ b, wfoot wb v b → b < w.heap.size := by
  rintro b (rfl | hb)
  · exact h.blk.lt
  · exact (h.row.lt hb).1
theorem WRep.foot_low (h : WRep w base wb v l) : ∀ b, wfoot wb v b → base ≤ b := by
  rintro b (rfl | hb)
  · exact h.low
  · exact (h.row.lt hb).2
theorem WRep.past {w0 wi wj : World} (h : WRep wi base wb v l) (q : Kept (fun b => b < base) w0 wi) (hk : Kept (fun b => ¬ wfoot wb v b) wi wj) : Kept (fun b => b < base) w0 wj :=
  q.trans' hk fun i _ hi hf => Nat.not_lt_of_le (h.foot_low i hf) hi
/-- What a call leaves that lays down: the bytes l', in a slice that is the elder's or new. -/
def Laid (w w' : World) (base wb : Nat) (v : Value) (l' : List UInt8) : Prop :=
  ∃ v', WRep w' base wb v' l' ∧ (∀ b, v'.ownBlock = some b → v.ownBlock = some b ∨ w.heap.size ≤ b) ∧ Kept (fun b => ¬ wfoot wb v b) w w'

theorem newW_any (w : World) : Calls Try.prog 9 #[] w fun e w' => e = .returned (.pointer (some ⟨w.heap.size, 0, none⟩)) ∧ w' = w.alloc (.cells #[.slice none 0 0] 50) := by
  go_enter Try.func9, Try.ntmps9
  go_wp2
  go_ret
  exact ⟨rfl, rfl⟩
theorem WRep.new (w : World) (base : Nat) (hb : base ≤ w.heap.size) : WRep (w.alloc (.cells #[.slice none 0 0] 50)) base w.heap.size (.slice none 0 0) [] :=
  ⟨Blk.new _ _ _, .inl ⟨rfl, rfl⟩, hb⟩

/-- Behind an append and the store. -/
theorem WRep.stored {w2 : World} {v' : Value} {l' : List UInt8} (h : WRep w base wb v l) (hk : Kept (fun b => v.ownBlock ≠ some b) w w2) (hr : Row1 w2 base 5 v' (bc l')) (hat : v'.ownBlock = v.ownBlock ∨ v'.ownBlock = some w.heap.size) :
    Laid w (w2.setCell ⟨wb, 0, none⟩ v') base wb v l' := by
  have hb2 := h.blk.kept hk (h.row.ne_ h.blk (by decide))
  refine ⟨v', ⟨hb2.set_ 0 v', hr.far hb2 (by decide) _ _, h.low⟩, fun b hb => ?_, (hk.mono fun b _ hb e => hb (.inr e)).setCell (fun _ hn => hn (.inl rfl)) _⟩
  rcases hat with e | e
  · exact .inl (e ▸ hb)
  · rw [e] at hb
    cases hb
    exact .inr (Nat.le_refl _)
theorem raw_any (h : WRep w base wb v l) {x : Value} {m : List UInt8} (hx : Rd w x m) (hlen : l.length + m.length ≤ 140737488355328) (hbase : base ≤ w.heap.size) :
    Calls Try.prog 13 #[.pointer (some ⟨wb, 0, none⟩), x] w fun e w' => e = .returned (.tuple #[]) ∧ Laid w w' base wb v (l ++ m) := by
  obtain ⟨v', w2, hrun, hrow, hk2, hat⟩ := run_append_src (P := Try.prog) (t := 26) (ty := 26) Try.underlying26 Try.info5 h.row hx (by rw [bc_length]; exact hlen) hbase
  rw [← bc_append] at hrow
  have HL := Lib.hid (h.stored hk2 hrow hat)
  have hb2 := h.blk.kept hk2 (h.row.ne_ h.blk (by decide))
  have q2 : w2.cell? ⟨wb, 0, none⟩ = some v := hb2.cell 0
  have q2f : w2.frozen? ⟨wb, 0, none⟩ = false := hb2.frozen 0
  have q1 : w.cell? ⟨wb, 0, none⟩ = some v := h.blk.cell 0
  obtain ⟨A, c, rfl⟩ := h.row.form
  obtain ⟨A', c', rfl⟩ := hrow.form
  obtain ⟨Ax, cx, rfl⟩ := hx.form
  have HRUN := Lib.hid hrun
  clear hrun h hx hrow hk2 hat hb2
  go_enter Try.func13, Try.ntmps13
  go_wp2_with (at_builtin; refine wpList_append_run (by rfl) (.tmp 8) (.tmp 9) 26 (by rfl) (by rfl) (by rfl) HRUN.out ?_)
  go_end0
  exact ⟨rfl, HL.out⟩
theorem doneW_any (h : WRep w base wb v l) (hlen : l.length ≤ 281474976710656) :
    Calls Try.prog 14 #[.pointer (some ⟨wb, 0, none⟩)] w fun e w' => ∃ v', e = .returned v' ∧ Fresh w w' v' l := by
  have q1 : w.cell? ⟨wb, 0, none⟩ = some v := h.blk.cell 0
  have HR := Lib.hid h.row.rd
  obtain ⟨A, c, rfl⟩ := h.row.form
  clear h
  go_enter Try.func14, Try.ntmps14
  go_wp2_with fail
  refine (copied_any _ l w HR.out hlen).mono ?_
  rintro e w' ⟨v', rfl, hf⟩
  have hv := hf.val
  subst hv
  go_wp2_with fail
  go_ret
  exact ⟨_, rfl, hf⟩
end
end Ytglhkfiigbbpdaa
end Go.Proofs
