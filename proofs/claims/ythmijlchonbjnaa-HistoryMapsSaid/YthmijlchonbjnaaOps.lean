/-
  Effect and End.
-/
import Derived.Test.YthmijlchonbjnaaBegin
set_option maxHeartbeats 4000000
set_option maxRecDepth 100000
namespace Go.Proofs
open Go.RowKit
namespace Ythmijlchonbjnaa
attribute [local go_sem ↓] Go.wp_at_zero Go.wp_at_succ
section
variable {w w' : World} {base g c rb : Nat} {A : Option Addr} {l : List PC} {now : Int}
/-- A cell of a call is written. -/
theorem HRep.setj (h : HRep w base g A c rb l now) {q i j : Nat} {x x' : PC} {u : Value} (hA : A = some ⟨q, 0, none⟩) (hi : l[i]? = some x) (hu : pcs x' = (pcs x).set j u) (hj : j < 9)
    (he : ∀ e a tt, x'.fin = some (e, a, tt) → Blk w e 63 (ecs a tt)) : HRep (w.setCell ⟨q, i * 9 + j, none⟩ u) base g A c rb (l.set i x') now ∧ Kept (Far base w) w (w.setCell ⟨q, i * 9 + j, none⟩ u) := by
  subst hA
  obtain ⟨cs, hq⟩ := h.row.blk (g := q) rfl
  have hgq : g ≠ q := Blk.ne_ h.blk hq (by decide)
  have k : Kept (fun b => b ≠ q) w (w.setCell ⟨q, i * 9 + j, none⟩ u) := (Kept.refl _ w).setCell (fun _ h => h rfl) u
  refine ⟨⟨?_, ?_, h.rules.kept k (Blk.ne_ h.rules hq (by decide)), h.gge, fun z hz e a tt hz' => ?_⟩, k.mono fun b _ hf e => ?_⟩
  · rw [List.length_set]
    exact h.blk.kept k hgq
  · rw [List.length_set]
    exact h.row.setj encP hi hu hj
  · have hb : Blk w e 63 (ecs a tt) := by
      rcases List.mem_or_eq_of_mem_set hz with hz | rfl
      · exact h.ends z hz e a tt hz'
      · exact he e a tt hz'
    exact hb.kept k (Blk.ne_ hb hq (by decide))
  · have h1 := (h.farg hf).2
    exact h1 (by rw [e]; rfl)
/-- The number NOW is written. -/
theorem HRep.setNow (h : HRep w base g A c rb l now) (no : Int) : HRep (w.setCell ⟨g, 2, none⟩ (.int .i64 no)) base g A c rb l no ∧ Kept (Far base w) w (w.setCell ⟨g, 2, none⟩ (.int .i64 no)) := by
  have k : Kept (fun b => b ≠ g) w (w.setCell ⟨g, 2, none⟩ (.int .i64 no)) := (Kept.refl _ w).setCell (fun _ h => h rfl) _
  refine ⟨⟨h.blk.set_ 2 _, h.row.kept k fun q hq e => ?_, h.rules.kept k (Blk.ne_ h.rules h.blk (by decide)), h.gge, fun z hz e a tt hz' => ?_⟩, k.mono fun b _ hf => (h.farg hf).1⟩
  · obtain ⟨_, hcs⟩ := h.row.blk hq
    exact Blk.ne_ hcs h.blk (by decide) e
  · have hb := h.ends z hz e a tt hz'
    exact hb.kept k (Blk.ne_ hb h.blk (by decide))
end
theorem effect_any {w : World} {base g c rb : Nat} {A : Option Addr} {l : List PC} {now : Int} (h : HRep w base g A c rb l now) {i : Nat} {x : PC} (hi : l[i]? = some x) (no : Int) (hk : isUpd x.c.kind = true) (h0 : x.eff = 0) (hf : x.fin = none) (hno : 1 ≤ no) :
    Calls Try.prog 14 #[.pointer (some ⟨g, 0, none⟩), .int .i64 i, .int .i64 no] w fun e w' => e = .returned (.int .i64 0) ∧ (∃ A' c', Hid (HRep w' base g A' c' rb (l.set i { x with eff := no }) now)) ∧ Kept (Far base w) w w' := by
  have hu : ∀ W, Calls Try.prog 24 #[.agg (ccs x.c).toArray] W fun e w' => e = .returned (.bool true) ∧ Kept (fun _ => True) W w' := fun W => by
    have := isUpdate_any x.c W
    rwa [hk] at this
  obtain ⟨q, cs, rfl, _, _, _, _, hcell⟩ := h.row.at_ encP hi
  have hil := (List.getElem?_eq_some_iff.1 hi).1
  obtain ⟨⟨xc, xk, xy, xv, xf, xm⟩, fr, ef, fi⟩ := x
  simp only at h0 hf hk
  subst h0 hf
  unfold ccs at hu
  have HH := Lib.hid h
  have HI := Lib.hid hi
  have HC := Lib.hid hcell
  clear h hi hcell hk
  have hin : (i : Int) < (l.length : Int) := by omega
  have t1 : decide (l.length ≤ i) = false := by simp; omega
  have t0 : decide ((i : Int) < 0) = false := by simp
  have t2 : decide (no < 1) = false := by simp; omega
  have c1 := HH.out.blk.cell 1
  have r0 : w.cell? ⟨q, i * 9, none⟩ = _ := HC.out 0 _ rfl
  have r1 := HC.out 1 _ rfl
  have r2 := HC.out 2 _ rfl
  have r3 := HC.out 3 _ rfl
  have r4 := HC.out 4 _ rfl
  have r5 := HC.out 5 _ rfl
  go_enter Try.func14, Try.ntmps14
  go_wp2_with fail
  refine (hu _).mono ?_
  rintro e w1 ⟨rfl, k1⟩
  clear c1 r0 r1 r2 r3 r4 r5
  have c1 := (HH.out.blk.kept k1 trivial).cell 1
  have r7 := k1.cellv (HC.out 7 _ rfl)
  have r8 : w1.cell? ⟨q, i * 9 + 8, none⟩ = some (.pointer none) := k1.cellv (HC.out 8 _ rfl)
  have f7 : w1.frozen? ⟨q, i * 9 + 7, none⟩ = false := by
    obtain ⟨_, hq⟩ := (HH.out.row.all k1).blk (g := q) rfl
    exact hq.frozen _
  have close : (∃ A' c', Hid (HRep (w1.setCell ⟨q, i * 9 + 7, none⟩ (.int .i64 no)) base g A' c' rb (l.set i ⟨⟨xc, xk, xy, xv, xf, xm⟩, fr, no, none⟩) now)) ∧ Kept (Far base w) w (w1.setCell ⟨q, i * 9 + 7, none⟩ (.int .i64 no)) := by
    have hs := (HH.out.all k1).setj (j := 7) (x' := ⟨⟨xc, xk, xy, xv, xf, xm⟩, fr, no, none⟩) (u := .int .i64 no) rfl HI.out rfl (by omega) (fun e a tt he => by cases he)
    exact ⟨⟨_, _, Lib.hid hs.1⟩, k1.toFar.far_trans hs.2⟩
  have CL := Lib.hid close
  clear k1 close
  go_wp2_with fail
  go_ret
  exact ⟨rfl, CL.out⟩
theorem end_any {w : World} {base g c rb : Nat} {A : Option Addr} {l : List PC} {now : Int} (h : HRep w base g A c rb l now) {i : Nat} {x : PC} (hi : l[i]? = some x) (a : Ans) (no : Int) (hf : x.fin = none) (hno : now ≤ no) :
    Calls Try.prog 12 #[.pointer (some ⟨g, 0, none⟩), .int .i64 i, .agg (acs a).toArray, .int .i64 no] w fun e w' => e = .returned (.int .i64 0) ∧ (∃ b A' c', Hid (HRep w' base g A' c' rb (l.set i { x with fin := some (b, a, no) }) no)) ∧ Kept (Far base w) w w' := by
  have hlt := h.blk.lt
  obtain ⟨q, cs, rfl, _, _, _, _, hcell⟩ := h.row.at_ encP hi
  have hil := (List.getElem?_eq_some_iff.1 hi).1
  obtain ⟨xx, fr, ef, fi⟩ := x
  simp only at hf
  subst hf
  obtain ⟨ae, ai, av, an⟩ := a
  unfold acs
  have hq8 : w.cell? ⟨q, i * 9 + 8, none⟩ = some (.pointer none) := hcell 8 _ rfl
  have hqb : ∃ cs, Blk w q 52 cs := h.row.blk (g := q) rfl
  have HH := Lib.hid h
  have HI := Lib.hid hi
  clear h hi hcell
  have hin : (i : Int) < (l.length : Int) := by omega
  have t1 : decide (l.length ≤ i) = false := by simp; omega
  have t0 : decide ((i : Int) < 0) = false := by simp
  have t2 : decide (no < now) = false := by simp; omega
  -- the worlds
  obtain ⟨w0, hw0⟩ : ∃ w0, w.alloc (.cells #[.int .i64 ae, .bool ai, .string av, .int .i64 an, .slice none 0 0] 31) = w0 := ⟨_, rfl⟩
  have k0 : Kept (fun _ => True) w w0 := hw0 ▸ (Kept.refl _ w).alloc _
  have b0 : Blk w0 w.heap.size 31 #[.int .i64 ae, .bool ai, .string av, .int .i64 an, .slice none 0 0] := hw0 ▸ Blk.new w 31 _
  have h0 := HH.out.all k0
  obtain ⟨w1, hw1⟩ : ∃ w1, w0.setCell ⟨g, 2, none⟩ (.int .i64 no) = w1 := ⟨_, rfl⟩
  have h1 := h0.setNow no
  rw [hw1] at h1
  have b1 : Blk w1 w.heap.size 31 #[.int .i64 ae, .bool ai, .string av, .int .i64 an, .slice none 0 0] := b0.kept h1.2 (b0.isFar (by decide) (by decide))
  obtain ⟨w2, hw2, b2', k2⟩ := set1_step b1 4 (.slice none 0 0)
  have b2 : Blk w2 w.heap.size 31 #[.int .i64 ae, .bool ai, .string av, .int .i64 an, .slice none 0 0] := b2'
  have c0 := h0.blk.cell 1
  have c2 := h0.blk.cell 2
  have f2 := h0.blk.frozen 2
  have q8 := k0.cellv hq8
  have b14 := b1.cell 4
  have f14 := b1.frozen 4
  have h2 : HRep w2 base g (some ⟨q, 0, none⟩) c rb l no := by
    refine ⟨h1.1.blk.kept k2 (Blk.ne_ h1.1.blk b1 (by decide)), h1.1.row.kept k2 fun x hx e => ?_, h1.1.rules.kept k2 (Blk.ne_ h1.1.rules b1 (by decide)), h1.1.gge, fun z hz e a tt hz' => ?_⟩
    · obtain ⟨_, hcs⟩ := h1.1.row.blk hx
      exact Blk.ne_ hcs b1 (by decide) e
    · have hb := h1.1.ends z hz e a tt hz'
      exact hb.kept k2 (Blk.ne_ hb b1 (by decide))
  have K2 : Kept (Far base w) w w2 := ((k0.toFar (base := base)).far_trans h1.2).trans' k2 fun b hb _ e => by
    have : b = w.heap.size := e
    omega
  obtain ⟨w3, hw3⟩ : ∃ w3, w2.alloc (.cells #[.int .i64 ae, .bool ai, .string av, .int .i64 an, .slice none 0 0, .int .i64 no] 63) = w3 := ⟨_, rfl⟩
  have k3 : Kept (fun _ => True) w2 w3 := hw3 ▸ (Kept.refl _ w2).alloc _
  have b3 : Blk w3 w2.heap.size 63 #[.int .i64 ae, .bool ai, .string av, .int .i64 an, .slice none 0 0, .int .i64 no] := hw3 ▸ Blk.new w2 63 _
  have h3 := h2.all k3
  have hs := h3.setj (j := 8) (x' := ⟨xx, fr, ef, some (w2.heap.size, ⟨ae, ai, av, an⟩, no)⟩) (u := .pointer (some ⟨w2.heap.size, 0, none⟩)) rfl HI.out rfl (by omega) (fun e a tt he => by
    injection he with he
    injection he with e1 he
    injection he with e2 e3
    subst e1 e2 e3
    exact b3)
  have close : (∃ b A' c', Hid (HRep (w3.setCell ⟨q, i * 9 + 8, none⟩ (.pointer (some ⟨w2.heap.size, 0, none⟩))).drew base g A' c' rb (l.set i ⟨xx, fr, ef, some (b, ⟨ae, ai, av, an⟩, no)⟩) no)) ∧ Kept (Far base w) w (w3.setCell ⟨q, i * 9 + 8, none⟩ (.pointer (some ⟨w2.heap.size, 0, none⟩))).drew :=
    ⟨⟨_, _, _, Lib.hid (hs.1.all ((Kept.refl _ _).drew))⟩, (K2.far_trans (k3.toFar.far_trans hs.2)).drew⟩
  have CL := Lib.hid close
  have g1 := h2.blk.cell 1
  have d0 := b2.cell 0
  have d1 := b2.cell 1
  have d2 := b2.cell 2
  have d3 := b2.cell 3
  have d4 := b2.cell 4
  have g1a : ∀ o, (w2.alloc o).cell? ⟨g, 1, none⟩ = some (.slice (some ⟨q, 0, none⟩) l.length c) := fun o => (h2.blk.alloc o).cell 1
  have q8a : ∀ o, (w2.alloc o).cell? ⟨q, i * 9 + 8, none⟩ = some (.pointer none) := fun o => by
    obtain ⟨_, _, hA, _, _, _, _, hcell⟩ := (h2.all ((Kept.refl _ w2).alloc o)).row.at_ encP HI.out
    injection hA with hA
    injection hA with hA
    subst hA
    exact hcell 8 _ rfl
  have q8f : ∀ o, (w2.alloc o).frozen? ⟨q, i * 9 + 8, none⟩ = false := fun o => by
    obtain ⟨_, hq⟩ := (h2.all ((Kept.refl _ w2).alloc o)).row.blk (g := q) rfl
    exact hq.frozen _
  rw [← hw3] at CL
  have F := Lib.hid (And.intro g1 (And.intro d0 (And.intro d1 (And.intro d2 (And.intro d3 (And.intro d4 (And.intro g1a (And.intro q8a q8f))))))))
  clear g1 d0 d1 d2 d3 d4 g1a q8a q8f hw3 b3 h3 hs k3 close K2 h2 b2 b2' k2 h0 h1 k0 b0 b1
  go_enter Try.func12, Try.ntmps12
  go_wp2_with fail
  refine (cloneNil _).mono ?_
  rintro e w' ⟨rfl, rfl⟩
  go_upto_region 5 with fail
  clear c0 c2 f2 q8 b14 f14 hw0 hw1 hw2
  obtain ⟨g1, d0, d1, d2, d3, d4, g1a, q8a, q8f⟩ := F.out
  go_region_law (fail)
  all_goals go_wp2_with fail
  all_goals go_ret
  all_goals exact ⟨rfl, CL.out⟩
end Ythmijlchonbjnaa
end Go.Proofs
