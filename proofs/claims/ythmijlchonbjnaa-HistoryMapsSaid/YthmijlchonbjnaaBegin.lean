/-
  Begin.
-/
import Derived.Test.YthmijlchonbjnaaHist
set_option maxHeartbeats 4000000
set_option maxRecDepth 100000
namespace Go.Proofs
open Go.RowKit
theorem Try.info52 : (Try.prog.info? 52).map (fun i => (i.zero, i.size, i.bytes)) = some (some (.agg #[.int .i64 0, .int .i64 0, .string ⟨#[]⟩, .string ⟨#[]⟩, .string ⟨#[]⟩, .int .i64 0, .int .i64 0, .int .i64 0, .pointer none]), 9, 96) := by kernel_rfl
namespace Ythmijlchonbjnaa
attribute [local go_sem ↓] Go.wp_at_zero Go.wp_at_succ
theorem set1_step {W : World} {g : Nat} {t : TypeId} {cs : Array Value} (h : Blk W g t cs) (i : Nat) (u : Value) : ∃ W', W.setCell ⟨g, i, none⟩ u = W' ∧ Blk W' g t (cs.setIfInBounds i u) ∧ Kept (fun b => b ≠ g) W W' :=
  ⟨_, rfl, h.set_ i u, (Kept.refl _ W).setCell (fun _ h => h rfl) u⟩
theorem HRep.farg {w : World} {base g c rb : Nat} {A : Option Addr} {l : List PC} {now : Int} (h : HRep w base g A c rb l now) {b : Nat} (hf : Far base w b) : b ≠ g ∧ (Value.slice A l.length c).ownBlock ≠ some b := by
  refine ⟨fun e => ?_, fun e => ?_⟩
  · subst e
    rcases hf with hf | hf
    · have := h.gge; omega
    · exact (hf _).1 h.blk
  · rcases hf with hf | hf
    · have := (h.row.lt e).2; omega
    · obtain ⟨cs, hcs⟩ := h.row.blk e
      exact (hf cs).2 hcs
/-- A call begins; it is none of those that may be. -/
theorem begin_no {w : World} {base g c rb : Nat} {A : Option Addr} {l : List PC} {now : Int} (h : HRep w base g A c rb l now) (x : Call) (no : Int) (h1 : no < now) :
    Calls Try.prog 11 #[.pointer (some ⟨g, 0, none⟩), .agg (ccs x).toArray, .int .i64 no] w fun e w' => e = .returned (.tuple #[.int .i64 0, .int .i64 250]) ∧ Kept (fun _ => True) w w' := by
  have hb := h.blk
  clear h
  obtain ⟨xc, xk, xy, xv, xf, xm⟩ := x
  unfold ccs
  have k1 : Kept (fun _ => True) w (w.alloc (.cells #[.int .i64 xc, .int .i64 xk, .string xy, .string xv, .string xf, .int .i64 xm] 38)) := (Kept.refl _ w).alloc _
  have b2 := (hb.kept k1 trivial).cell 2
  have t1 : decide (no < now) = true := by simpa using h1
  go_enter Try.func11, Try.ntmps11
  go_wp2_with fail
  go_ret2
  exact ⟨rfl, k1⟩
theorem begin_any {w : World} {base g c rb : Nat} {A : Option Addr} {l : List PC} {now : Int} (h : HRep w base g A c rb l now) (x : Call) (no : Int) (h1 : now ≤ no) (hk1 : 1 ≤ x.kind) (hk5 : x.kind ≤ 5) (hn : l.length ≤ 1000) :
    Calls Try.prog 11 #[.pointer (some ⟨g, 0, none⟩), .agg (ccs x).toArray, .int .i64 no] w fun e w' => e = .returned (.tuple #[.int .i64 l.length, .int .i64 0]) ∧ (∃ A' c', Hid (HRep w' base g A' c' rb (l ++ [⟨x, no, 0, none⟩]) no)) ∧ Kept (Far base w) w w' := by
  have hbz := h.gge
  have hlt := h.blk.lt
  obtain ⟨xc, xk, xy, xv, xf, xm⟩ := x
  unfold ccs
  simp only at hk1 hk5
  obtain ⟨n, hln⟩ : ∃ n, l.length = n := ⟨_, rfl⟩
  have HH := Lib.hid h
  have hb := h.blk
  clear h
  rw [hln] at hb hn
  obtain ⟨w0, hw0⟩ : ∃ w0, w.alloc (.cells #[.int .i64 xc, .int .i64 xk, .string xy, .string xv, .string xf, .int .i64 xm] 38) = w0 := ⟨_, rfl⟩
  have k0 : Kept (fun _ => True) w w0 := hw0 ▸ (Kept.refl _ w).alloc _
  have hx : Blk w0 w.heap.size 38 #[.int .i64 xc, .int .i64 xk, .string xy, .string xv, .string xf, .int .i64 xm] := hw0 ▸ Blk.new w 38 _
  have hg0 := hb.kept k0 trivial
  obtain ⟨w1, hw1, hg1, k1⟩ := set1_step hg0 2 (.int .i64 no)
  have hx1 : Blk w1 w.heap.size 38 #[.int .i64 xc, .int .i64 xk, .string xy, .string xv, .string xf, .int .i64 xm] := hx.kept k1 (by show w.heap.size ≠ g; omega)
  have hg1' : Blk w1 g 56 #[.slice none 0 0, .slice A n c, .int .i64 no, .slice (some ⟨rb, 0, none⟩) 5 5] := hg1
  have b2 := hg0.cell 2
  have x1 := hx.cell 1
  have f2 := hg0.frozen 2
  have t1 : decide (no < now) = false := by simp; omega
  have t2 : decide (xk < 1) = false := by simp; omega
  have t3 : decide (5 < xk) = false := by simp; omega
  have hrow : RowN 9 pcs w1 base 52 (.slice A n c) l := by
    have h0 := HH.out.row.all k0
    rw [hln] at h0
    refine h0.kept k1 fun q hq e => ?_
    subst e
    obtain ⟨_, hcs⟩ := h0.blk hq
    exact Blk.ne_ hcs hg0 (by decide) rfl
  obtain ⟨w2, hw2⟩ : ∃ w2, (w1.alloc (.cells #[.int .i64 xc, .int .i64 xk, .string xy, .string xv, .string xf, .int .i64 xm, .int .i64 no, .int .i64 0, .pointer none] 52)).drew = w2 := ⟨_, rfl⟩
  have k2 : Kept (fun _ => True) w1 w2 := hw2 ▸ ((Kept.refl _ w1).alloc _).drew
  have hy : Blk w2 w1.heap.size 52 #[.int .i64 xc, .int .i64 xk, .string xy, .string xv, .string xf, .int .i64 xm, .int .i64 no, .int .i64 0, .pointer none] := hw2 ▸ (Blk.new w1 52 _).drew
  have hrd : RdK 9 pcs w2 (.slice (some ⟨w1.heap.size, 0, none⟩) 1 1) [⟨⟨xc, xk, xy, xv, xf, xm⟩, no, 0, none⟩] := ⟨_, 1, rfl, Nat.le_refl _, fun i z hz => ⟨w1.heap.size, 0, rfl, hy.lt, fun j u hu => by
    have hi : i = 0 := by have := (List.getElem?_eq_some_iff.1 hz).1; simp at this; omega
    subst hi
    have hz' : ⟨⟨xc, xk, xy, xv, xf, xm⟩, no, 0, none⟩ = z := by simpa using hz
    subst hz'
    rw [Nat.zero_mul, Nat.zero_add, hy.cell]
    simpa [pcs, ptr] using hu⟩⟩
  have hrow2 : RowN 9 pcs w2 base 52 (.slice A n c) l := hrow.all k2
  have hsz : base ≤ w2.heap.size := by have := k2.size; have := k1.size; have := k0.size; omega
  have hrun := run_append_rowN (P := Try.prog) (t := 54) (ty := 54) (w := w2) encP (by omega) Try.underlying54 Try.info52 rfl hrow2 hrd (by simp [maxLen]; omega) (by simp; omega) hsz
  obtain ⟨v', w3, hr, hro, hkk, _, _⟩ := hrun
  obtain ⟨A', c', rfl⟩ := hro.form
  rw [List.length_append] at hr hro
  simp only [List.length_cons, List.length_nil, hln] at hr hro
  have hg2 := hg1'.kept k2 trivial
  have hg3 := hg2.kept hkk (fun e => by
    obtain ⟨_, hcs⟩ := hrow2.blk e
    exact Blk.ne_ hcs hg2 (by decide) rfl)
  obtain ⟨w4, hw4, hg4, k4⟩ := set1_step hg3 1 (.slice A' (n + 1) c')
  have close : (∃ A' c', Hid (HRep w4 base g A' c' rb (l ++ [⟨⟨xc, xk, xy, xv, xf, xm⟩, no, 0, none⟩]) no)) ∧ Kept (Far base w) w w4 := by
    have hfar : ∀ b, b < w.heap.size → Far base w b → b ≠ g ∧ (Value.slice A n c).ownBlock ≠ some b := fun b _ hf => by
      have := HH.out.farg hf
      rwa [hln] at this
    have kA : Kept (fun b => b ≠ g ∧ (Value.slice A n c).ownBlock ≠ some b) w w4 :=
      ((((k0.mono fun _ _ _ => trivial).trans' k1 fun _ _ h => h.1).trans' k2 fun _ _ _ => trivial).trans' hkk fun _ _ h => h.2).trans' k4 fun _ _ h => h.1
    refine ⟨⟨A', c', Lib.hid ⟨?_, ?_, ?_, HH.out.gge, fun z hz e a tt he => ?_⟩⟩, kA.mono hfar⟩
    · have : (l ++ [(⟨⟨xc, xk, xy, xv, xf, xm⟩, no, 0, none⟩ : PC)]).length = n + 1 := by simp [hln]
      rw [this]
      exact hg4
    · have : (l ++ [(⟨⟨xc, xk, xy, xv, xf, xm⟩, no, 0, none⟩ : PC)]).length = n + 1 := by simp [hln]
      rw [this]
      exact (RowH.far (Lib.hid hro) k4 (Lib.hid hg3) (by decide)).out
    · exact HH.out.rules.kept kA (hfar rb HH.out.rules.lt (HH.out.rules.isFar (by decide) (by decide)))
    · rcases List.mem_append.1 hz with hz | hz
      · have := HH.out.ends z hz e a tt he
        exact this.kept kA (hfar e this.lt (this.isFar (by decide) (by decide)))
      · rw [List.mem_singleton.1 hz] at he
        cases he
  have HG1 := Lib.hid hg1'
  have HX1 := Lib.hid hx1
  have HG3 := Lib.hid hg3
  have HG4 := Lib.hid hg4
  rw [← hw2] at hr
  have HR := Lib.hid hr
  have HRO := Lib.hid hro
  have KS := Lib.hid (And.intro k0 (And.intro k1 (And.intro k2 (And.intro hkk k4))))
  have HROW := Lib.hid hrow
  clear hw2 hg0 hx k0 k1 k2 hkk k4 hg1 hg1' hx1 hb hrow hrow2 hsz hy hrd hr hro hg2 hg3 hg4
  go_enter Try.func11, Try.ntmps11
  have F := Lib.hid (And.intro b2 (And.intro x1 f2))
  clear b2 x1 f2
  go_upto_region 1 with fail
  obtain ⟨b2, x1, f2⟩ := F.out
  go_upto_region 4 with fail
  have d0 := HX1.out.cell 0
  have d1 := HX1.out.cell 1
  have d2 := HX1.out.cell 2
  have d3 := HX1.out.cell 3
  have d4 := HX1.out.cell 4
  have d5 := HX1.out.cell 5
  have e1 := HG1.out.cell 1
  have e1a : ∀ o, (w1.alloc o).cell? ⟨g, 1, none⟩ = some (.slice A n c) := fun o => (HG1.out.alloc o).cell 1
  have g1c := HG3.out.cell 1
  have g1f := HG3.out.frozen 1
  go_region_law (refine step_append_run (by rfl) (.tmp 32) (.tmp 36) 54 (by rfl) (by rfl) (by rfl) HR.out ?_)
  all_goals
    have z1 : w4.cell? ⟨g, 1, none⟩ = some (.slice A' (n + 1) c') := HG4.out.cell 1
    have hw : IntKind.i64.wrap (((n + 1 : Nat) : Int) - 1) = (n : Int) := by rw [IntKind.wrap_i64]; omega
    go_wp2_with fail
    go_ret2
    exact ⟨rfl, close⟩
end Ythmijlchonbjnaa
end Go.Proofs
