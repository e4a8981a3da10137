/-
  The reference: New, Retire, Safe.
-/
import Derived.Test.YtbefknaffopeaaaRefA
set_option maxHeartbeats 1000000
namespace Go.Proofs
open Go.RowKit
theorem Try.info71 : (Try.prog.info? 71).map (fun i => (i.zero, i.size, i.bytes)) = some (some (.agg #[.int .i64 0, .int .i64 0]), 2, 16) := by kernel_rfl
theorem Try.info3' : (Try.prog.info? 3).map (fun i => (i.zero, i.size, i.bytes)) = some (some (.int .i64 0), 1, 8) := by kernel_rfl
namespace Ytbefknaffopeaaa
attribute [local go_sem ↓] Go.wp_at_zero Go.wp_at_succ
section
variable {w w' : World} {base : Nat} {R : RLay} {S : St}
def zeros (n : Nat) : Array Value := ((List.replicate n (0 : Int)).map (Value.int .i64)).toArray
theorem make_zeros (n : Nat) (hn : n ≤ 64) : ∀ w : World, (Instr.makeSlice 34 (.int .i64 (n : Int)) (.int .i64 (n : Int))).run Try.prog w = .ok (.slice (some ⟨w.heap.size, 0, none⟩) n n) (w.alloc (.cells (zeros n) 3)) := by
  intro w
  obtain ⟨i0, hi0, hz0, hz1, hz2⟩ := info_parts Try.info3'
  have h := run_make (P := Try.prog) w 34 3 i0 _ Try.underlying34 hi0 hz0 .i64 .i64 n n (by omega) (Int.le_refl _) (by rw [hz2]; omega) (by omega)
  rw [h]
  have e : madeCells (Value.int .i64 0).cells ((n : Int).toNat * i0.size) = zeros n := by
    rw [hz1]
    apply Array.ext'
    show (madeCells #[.int .i64 0] _).toList = _
    rw [toList_madeCells_one]
    simp [zeros]
  rw [e]
  simp

theorem newR_bad (n : Int) (w : World) (h : n < 1 ∨ 64 < n) :
    Calls Try.prog 17 #[.int .i64 n] w fun e w' => e = .returned (.tuple #[.pointer none, .int .i64 1]) ∧ w = w' := by
  rcases h with h | h
  · have hd : decide (n < 1) = true := by simp; omega
    go_enter Try.func17, Try.ntmps17
    go_wp2
    go_ret2
    exact ⟨rfl, rfl⟩
  · have hd : decide (n < 1) = false := by simp; omega
    have hd2 : decide (64 < n) = true := by simp; omega
    go_enter Try.func17, Try.ntmps17
    go_wp2
    go_ret2
    exact ⟨rfl, rfl⟩
theorem newR_good (n : Nat) (k : Nat) (w : World) (base : Nat) (h1 : 1 ≤ n) (h64 : n ≤ 64) (hbase : base ≤ w.heap.size) :
    Calls Try.prog 17 #[.int .i64 n] w fun e w' => ∃ R, e = .returned (.tuple #[.pointer (some ⟨R.rb, 0, none⟩), .int .i64 0]) ∧ RRep w' base R ⟨1, List.replicate n 0, List.replicate n false, [], some (k, Tal.zero)⟩ ∧
      (∀ b, R.foot b → w.heap.size ≤ b) ∧ Kept (fun _ => True) w w' := by
  have hmk := make_zeros n h64
  have hd : decide ((n : Int) < 1) = false := by simp; omega
  have hd2 : decide (64 < (n : Int)) = false := by simp; omega
  go_enter Try.func17, Try.ntmps17
  go_wp2_with fail
  go_ret2
  have hb := Blk.new (w.alloc (.cells (zeros n) 3)) 48 #[.int .i64 1, .slice (some ⟨w.heap.size, 0, none⟩) n n, .slice none 0 0, .int .i64 0, .int .i64 0, .int .i64 0, .int .i64 0, .int .i64 0]
  rw [World.size_alloc] at hb
  refine ⟨⟨w.heap.size + 1, w.heap.size, .slice none 0 0⟩, rfl, ?_, ?_, ((Kept.refl _ w).alloc _).alloc _⟩
  · exact {
      rblk := by
        have e : refCells ⟨1, List.replicate n 0, List.replicate n false, [], some (k, Tal.zero)⟩ w.heap.size (.slice none 0 0) = #[.int .i64 1, .slice (some ⟨w.heap.size, 0, none⟩) n n, .slice none 0 0, .int .i64 0, .int .i64 0, .int .i64 0, .int .i64 0, .int .i64 0] := by simp [refCells, St.tal, Tal.zero]
        rw [e]
        exact hb
      iblk := (Blk.new w 3 (zeros n)).alloc _
      wv := World.ownsRow_nil _ _ _ _
      some_ := fun h => nomatch h
      low := fun b hb => by
        rcases hb with rfl | rfl | hb
        · exact Nat.le_succ_of_le hbase
        · exact hbase
        · simp [Value.ownBlock] at hb }
  · intro b hb
    rcases hb with rfl | rfl | hb
    · exact Nat.le_succ _
    · exact Nat.le_refl _
    · simp [Value.ownBlock] at hb

theorem waitCells_snocR (l : List (Int × Int)) (a b : Int) : waitCells (l ++ [(a, b)]) = waitCells l ++ [.int .i64 a, .int .i64 b] := by simp [waitCells]
theorem retireR_close {w1 w2 : World} {n : Int} {g cap : Nat} (h1 : RRep w1 base R { S with g := S.g.on Tal.load }) (KP : Kept (fun b => ¬ R.foot b) w w1) (hsz : w.heap.size = w1.heap.size) (hs : S.g ≠ none)
    (hown2 : w2.ownsRow base 71 2 (.slice (some ⟨g, 0, none⟩) (S.waits.length + 1) cap) (S.waits.length + 1) (waitCells S.waits ++ [.int .i64 n, .int .i64 S.now]))
    (hgrow : (w1.alloc (.cells #[.int .i64 n, .int .i64 S.now] 71)).drew.grownBy w2 R.wv.ownBlock) (hat : R.wv.ownBlock = some g ∨ g = w1.heap.size + 1) :
    Ending.returned (Value.tuple #[]) = Ending.returned (Value.tuple #[]) ∧ ∃ wv', RRep (w2.setCell ⟨R.rb, 2, none⟩ (.slice (some ⟨g, 0, none⟩) (S.waits.length + 1) cap)) base { R with wv := wv' } (S.retire n) ∧
      (∀ b, wv'.ownBlock = some b → R.wv.ownBlock = some b ∨ w.heap.size ≤ b) ∧ Kept (fun b => ¬ R.foot b) w (w2.setCell ⟨R.rb, 2, none⟩ (.slice (some ⟨g, 0, none⟩) (S.waits.length + 1) cap)) := by
  have hb2 := ((h1.rblk.alloc (.cells #[.int .i64 n, .int .i64 S.now] 71)).drew).grown hgrow (Ne.symm (own_blk_ne h1.wv h1.rblk (by decide)))
  have hi2 := ((h1.iblk.alloc (.cells #[.int .i64 n, .int .i64 S.now] 71)).drew).grown hgrow (Ne.symm (own_blk_ne h1.wv h1.iblk (by decide)))
  have kp2 := (((KP.alloc (.cells #[.int .i64 n, .int .i64 S.now] 71)).drew).grown hgrow fun b hb _ hn => hn (.inr (.inr hb))).setCell (p := ⟨R.rb, 2, none⟩) (fun _ hn => hn (.inl rfl)) (.slice (some ⟨g, 0, none⟩) (S.waits.length + 1) cap)
  refine ⟨rfl, .slice (some ⟨g, 0, none⟩) (S.waits.length + 1) cap, ?_, ?_, kp2⟩
  · exact {
      rblk := hb2.set_ 2 (.slice (some ⟨g, 0, none⟩) (S.waits.length + 1) cap)
      iblk := blk_far hi2 hb2 (by decide) _ _
      wv := by
        have := row_far hown2 hb2 (by decide) 2 (.slice (some ⟨g, 0, none⟩) (S.waits.length + 1) cap)
        show World.ownsRow _ _ _ _ _ (S.waits ++ [(n, S.now)]).length (waitCells (S.waits ++ [(n, S.now)]))
        rw [waitCells_snocR, List.length_append]
        exact this
      some_ := on_some hs _
      low := fun b hb => by
        rcases hb with hb | hb | hb
        · exact h1.low b (.inl hb)
        · exact h1.low b (.inr (.inl hb))
        · exact (ownsRow_lt hown2 hb).2 }
  · intro b hb
    have : g = b := by simpa [Value.ownBlock] using hb
    subst this
    rcases hat with hat | hat
    · exact .inl hat
    · exact .inr (by omega)
theorem retireR (h : RRep w base R S) (n : Int) (hm : (S.waits.length + 1) * 16 ≤ 140737488355328) (hbase : base ≤ w.heap.size) :
    Calls Try.prog 20 #[.pointer (some ⟨R.rb, 0, none⟩), .int .i64 n] w fun e w' => e = .returned (.tuple #[]) ∧
      ∃ wv', RRep w' base { R with wv := wv' } (S.retire n) ∧ (∀ b, wv'.ownBlock = some b → R.wv.ownBlock = some b ∨ w.heap.size ≤ b) ∧ Kept (fun b => ¬ R.foot b) w w' := by
  obtain ⟨i0, hi0, hz0, hz1, hz2⟩ := info_parts Try.info71
  have c3 : w.cell? ⟨R.rb, 3, none⟩ = some (.int .i64 S.tal.l) := h.rblk.cell 3
  have c3f : w.frozen? ⟨R.rb, 3, none⟩ = false := h.rblk.frozen 3
  have hr1 : RRep (w.setCell ⟨R.rb, 3, none⟩ (.int .i64 (wrap64 (S.tal.l + 1)))) base R { S with g := S.g.on Tal.load } := h.struct 3 _ (by
    have := tal_on (S := S) (S' := { S with g := S.g.on Tal.load }) h.some_ Tal.load rfl
    simp only [refCells, this]
    rfl) rfl rfl (on_some h.some_ _)
  have kp : Kept (fun b => ¬ R.foot b) w (w.setCell ⟨R.rb, 3, none⟩ (.int .i64 (wrap64 (S.tal.l + 1)))) := (Kept.refl _ w).setCell (fun _ hn => hn (.inl rfl)) _
  have hsz : w.heap.size = (w.setCell ⟨R.rb, 3, none⟩ (.int .i64 (wrap64 (S.tal.l + 1)))).heap.size := by simp [World.setCell]
  obtain ⟨w1, hw1⟩ : ∃ w1, w.setCell ⟨R.rb, 3, none⟩ (.int .i64 (wrap64 (S.tal.l + 1))) = w1 := ⟨_, rfl⟩
  rw [hw1] at hr1 kp hsz
  have e0 : w1.cell? ⟨R.rb, 0, none⟩ = some (.int .i64 S.now) := hr1.rblk.cell 0
  have e2 : w1.cell? ⟨R.rb, 2, none⟩ = some R.wv := hr1.rblk.cell 2
  have ga0 : ∀ o, (w1.alloc o).cell? ⟨R.rb, 0, none⟩ = some (.int .i64 S.now) := fun o => (hr1.rblk.alloc o).cell 0
  have ga2 : ∀ o, (w1.alloc o).cell? ⟨R.rb, 2, none⟩ = some R.wv := fun o => (hr1.rblk.alloc o).cell 2
  have hown : w1.drew.ownsRow base 71 2 R.wv S.waits.length (waitCells S.waits) := hr1.wv
  have HSZ := Lib.hid hsz
  have HS := Lib.hid h.some_
  have HR := Lib.hid hr1
  have HK := Lib.hid kp
  have HSA : Hid ((w1.alloc (.cells #[.int .i64 n, .int .i64 S.now] 71)).drew.heap.size = w1.heap.size + 1) := World.size_alloc _ _
  have HBA : Hid (base ≤ (w1.alloc (.cells #[.int .i64 n, .int .i64 S.now] 71)).drew.heap.size) := by
    show base ≤ _
    rw [HSA.out, ← hsz]
    omega
  clear h hr1 kp hsz
  go_enter Try.func20, Try.ntmps20
  go_wp2_with fail
  go_region_law (first | (refine step_append_lies _ (by rfl) (.tmp 17) (.tmp 24) 44 (by rfl) base 71 i0 (.agg #[.int .i64 0, .int .i64 0]) 2 16 Try.underlying44 hi0 hz0 hz1 hz2 (by rfl) (by decide) R.wv S.waits.length (waitCells S.waits) (by rfl) (hown.alloc _) ⟨w1.heap.size, 0, none⟩ 1 1 [.int .i64 n, .int .i64 S.now] (by rfl) (by rfl) (World.news_of_block (heap_alloc_new _ _)) (by simp [Value.oneCell']) (by decide) (by unfold maxLen; omega) hm HBA.out (w1.heap.size + 1) HSA.out ?_; intro g cap w2 hown2 hgrow hat hlt; have hb2 := ((HR.out.rblk.drew).alloc (.cells #[.int .i64 n, .int .i64 S.now] 71)).grown hgrow (Ne.symm (own_blk_ne HR.out.wv HR.out.rblk (by decide))); have q2 : w2.cell? ⟨R.rb, 2, none⟩ = some R.wv := hb2.cell 2; have q2f : w2.frozen? ⟨R.rb, 2, none⟩ = false := hb2.frozen 2))
  all_goals go_wp2_with fail
  all_goals go_end0
  all_goals exact retireR_close HR.out HK.out HSZ.out HS.out hown2 hgrow hat
end
end Ytbefknaffopeaaa
end Go.Proofs
