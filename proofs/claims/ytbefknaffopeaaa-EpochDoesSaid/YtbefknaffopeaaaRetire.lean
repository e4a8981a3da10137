/-
  Retire.
-/
import Derived.Test.YtbefknaffopeaaaEnter
import Derived.Deep.RegionLaw
set_option maxHeartbeats 400000
namespace Go.Proofs
open Go.RowKit
theorem Try.info58 : (Try.prog.info? 58).map (fun i => (i.zero, i.size, i.bytes)) = some (some (.agg #[.int .i64 0, .int .i64 0]), 2, 16) := by kernel_rfl
theorem Try.cells58 : Try.prog.cellsOf 58 = 2 := by kernel_rfl
namespace Ytbefknaffopeaaa
attribute [local go_sem ↓] Go.wp_at_zero Go.wp_at_succ
section
variable {w : World} {base : Nat} {L : Lay} {S : St}
theorem waitCells_snoc (l : List (Int × Int)) (a b : Int) : waitCells (l ++ [(a, b)]) = waitCells l ++ [.int .i64 a, .int .i64 b] := by simp [waitCells]
theorem retire_close {w1 w2 : World} {n : Int} {g cap : Nat} (KP : Kept (fun b => ¬ L.foot b) w w1) (h1 : Rep w1 base L { S with g := S.g.on Tal.load })
    (hown2 : w2.ownsRow base 58 2 (.slice (some ⟨g, 0, none⟩) (S.waits.length + 1) cap) (S.waits.length + 1) (waitCells S.waits ++ [.int .i64 n, .int .i64 S.now]))
    (hgrow : (w1.alloc (.cells #[.int .i64 n, .int .i64 S.now] 58)).drew.grownBy w2 L.wv.ownBlock) (hat : L.wv.ownBlock = some g ∨ g = w1.heap.size + 1) (hsz : w.heap.size = w1.heap.size) :
    Ending.returned (Value.tuple #[]) = Ending.returned (Value.tuple #[]) ∧ ∃ wv', Rep (w2.setCell ⟨L.eb, 3, none⟩ (.slice (some ⟨g, 0, none⟩) (S.waits.length + 1) cap)) base { L with wv := wv' } { S with waits := S.waits ++ [(n, S.now)], g := S.g.on Tal.load } ∧
      (∀ b, wv'.ownBlock = some b → L.wv.ownBlock = some b ∨ w.heap.size ≤ b) ∧ Kept (fun b => ¬ L.foot b) w (w2.setCell ⟨L.eb, 3, none⟩ (.slice (some ⟨g, 0, none⟩) (S.waits.length + 1) cap)) := by
  refine ⟨rfl, _, h1.newWaits (ws := S.waits ++ [(n, S.now)]) ?_ ?_, ?_, ?_⟩
  · exact ((Kept.refl _ w1).alloc _).drew.grown hgrow fun k hk _ hK => hK.2 hk
  · rw [waitCells_snoc, List.length_append]
    exact hown2
  · intro b hb
    have : g = b := by simpa [Value.ownBlock] using hb
    subst this
    rcases hat with hat | hat
    · exact .inl hat
    · exact .inr (by omega)
  · exact ((KP.alloc _).drew.grown hgrow fun k hk _ hK => hK (.inr (.inr (.inr (.inr (.inr (.inr hk))))))).setCell (fun _ hK => hK (.inl rfl)) _

/-- A thing is retired: one that waits more. -/
theorem retire_any (h : Rep w base L S) (n : Int) (hm : (S.waits.length + 1) * 16 ≤ 140737488355328) (hbase : base ≤ w.heap.size) :
    Calls Try.prog 11 #[.pointer (some ⟨L.eb, 0, none⟩), .int .i64 n] w fun e w' => e = .returned (.tuple #[]) ∧
      ∃ wv', Rep w' base { L with wv := wv' } { S with waits := S.waits ++ [(n, S.now)], g := S.g.on Tal.load } ∧ (∀ b, wv'.ownBlock = some b → L.wv.ownBlock = some b ∨ w.heap.size ≤ b) ∧ Kept (fun b => ¬ L.foot b) w w' := by
  obtain ⟨i0, hi0, hz0, hz1, hz2⟩ := info_parts Try.info58
  obtain ⟨t, ht, hg⟩ := h.getNow
  have h1 := h.count Tal.load ht hg (i := 0) (u := .int .i64 t.load.l) rfl
  have hN := h.now
  have KP := keep_cnt (i := 0) (u := .int .i64 t.load.l) h.ks_now (Kept.refl _ w)
  have f0 : w.cell? ⟨L.eb, 0, none⟩ = some (.pointer (some ⟨L.nb, 0, none⟩)) := by rw [Blk.cell h.eblk]; rfl
  have f3 : w.cell? ⟨L.eb, 3, none⟩ = some L.wv := by rw [Blk.cell h.eblk]; rfl
  obtain ⟨w1, hw1⟩ : ∃ w1, w.setCell ⟨L.nk, 0, none⟩ (.int .i64 t.load.l) = w1 := ⟨_, rfl⟩
  rw [hw1] at h1 KP
  have hsz : w.heap.size = w1.heap.size := by rw [← hw1]; simp [World.setCell]
  have g0 : w1.cell? ⟨L.eb, 0, none⟩ = some (.pointer (some ⟨L.nb, 0, none⟩)) := by rw [Blk.cell h1.eblk]; rfl
  have g3 : w1.cell? ⟨L.eb, 3, none⟩ = some L.wv := by rw [Blk.cell h1.eblk]; rfl
  have ga3 : ∀ o, (w1.alloc o).cell? ⟨L.eb, 3, none⟩ = some L.wv := fun o => (h1.eblk.alloc o).cell 3
  have HW1 := Lib.hid hw1
  have HSZ := Lib.hid hsz
  clear hw1 hsz
  have K0 := Lib.hid (And.intro f0 f3)
  have K1 := Lib.hid (And.intro g0 g3)
  have hown := h1.wv
  have HNE := Lib.hid (Ne.symm (own_blk_ne h1.wv h1.eblk (by decide)))
  go_enter Try.func11, Try.ntmps11
  go_region_law (first
      | (refine step_append_lies _ (by rfl) (.tmp 8) (.tmp 16) 53 (by rfl) base 58 i0 (.agg #[.int .i64 0, .int .i64 0]) 2 16 Try.underlying53 hi0 hz0 hz1 hz2 (by rfl) (by decide) L.wv S.waits.length (waitCells S.waits) (by rfl) (by exact hown.alloc _) ⟨w1.heap.size, 0, none⟩ 1 1 [.int .i64 n, .int .i64 S.now] (by rfl) (by rfl) (World.news_of_block (heap_alloc_new _ _)) (by simp [Value.oneCell']) (by decide) (by unfold maxLen; omega) hm (by simp; rw [← HSZ.out]; omega) (w1.heap.size + 1) (by simp) ?_; intro g cap w2 hown2 hgrow hat hlt; have q3 : w2.cell? ⟨L.eb, 3, none⟩ = some L.wv := (h1.eblk.alloc _).drew.grown hgrow HNE.out |>.cell 3; have qf := (h1.eblk.alloc _).drew.grown hgrow HNE.out |>.frozen 3)
      | (go_simp; go_at_call 29; refine (iload_any L.nb L.nk _ S.now t (by exact hN) (by exact ht)).mono ?_; rintro e w' ⟨rfl, hw'⟩; replace hw' := hw'.trans (congrArg World.drew HW1.out); subst hw'))
  all_goals go_wp2_with fail
  all_goals go_end0
  all_goals exact retire_close KP h1 hown2 hgrow hat HSZ.out
end
end Ytbefknaffopeaaa
end Go.Proofs
