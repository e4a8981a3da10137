/-
  The reference's epochs, in memory: the same state.
-/
import Derived.Test.YtbefknaffopeaaaOps
import Derived.StillTailTactics
set_option maxHeartbeats 1000000
namespace Go.Proofs
open Go.RowKit
theorem Try.cells48 : Try.prog.cellsOf 48 = 8 := by kernel_rfl
theorem Try.cells46 : Try.prog.cellsOf 46 = 5 := by kernel_rfl
theorem Try.cells71 : Try.prog.cellsOf 71 = 2 := by kernel_rfl
namespace Ytbefknaffopeaaa
attribute [local go_sem ↓] Go.wp_at_zero Go.wp_at_succ
def St.tal (S : St) : Tal := match S.g with | some p => p.2 | none => Tal.zero
structure RLay where
  rb : Nat
  ib : Nat
  wv : Value
def RLay.foot (R : RLay) (b : Nat) : Prop := b = R.rb ∨ b = R.ib ∨ R.wv.ownBlock = some b
/-- The reference's cells. -/
def refCells (S : St) (ib : Nat) (wv : Value) : Array Value :=
  #[.int .i64 S.now, .slice (some ⟨ib, 0, none⟩) S.cells.length S.cells.length, wv, .int .i64 S.tal.l, .int .i64 S.tal.s, .int .i64 S.tal.c, .int .i64 S.tal.m, .int .i64 S.tal.a]
structure RRep (w : World) (base : Nat) (R : RLay) (S : St) : Prop where
  rblk : Blk w R.rb 48 (refCells S R.ib R.wv)
  iblk : Blk w R.ib 3 (S.cells.map (Value.int .i64)).toArray
  wv : w.ownsRow base 71 2 R.wv S.waits.length (waitCells S.waits)
  some_ : S.g ≠ none
  low : ∀ b, R.foot b → base ≤ b
section
variable {w w' : World} {base : Nat} {R : RLay} {S : St}
theorem tal_on {S : St} {S' : St} (h : S.g ≠ none) (f : Tal → Tal) (h' : S'.g = S.g.on f) : S'.tal = f S.tal := by
  unfold St.tal
  rw [h']
  cases hg : S.g with
  | none => exact absurd hg h
  | some p => rfl
theorem on_some {g : Gho} (h : g ≠ none) (f : Tal → Tal) : g.on f ≠ none := by
  cases g with
  | none => exact absurd rfl h
  | some p => exact fun h => nomatch h
theorem RRep.kept (h : RRep w base R S) (hk : Kept R.foot w w') : RRep w' base R S where
  rblk := h.rblk.kept hk (.inl rfl)
  iblk := h.iblk.kept hk (.inr (.inl rfl))
  wv := ownsRow_kept h.wv hk fun _ hg => .inr (.inr hg)
  some_ := h.some_
  low := h.low
theorem RRep.past {w0 wi wj : World} (h : RRep wi base R S) (q : Kept (fun b => b < base) w0 wi) (hk : Kept (fun b => ¬ R.foot b) wi wj) : Kept (fun b => b < base) w0 wj :=
  q.trans' hk fun i _ hi hf => Nat.not_lt_of_le (h.low i hf) hi
theorem RRep.drew (h : RRep w base R S) : RRep w.drew base R S := ⟨h.rblk, h.iblk, h.wv, h.some_, h.low⟩
theorem RRep.ins (h : RRep w base R S) (i : List Bool) : RRep w base R { S with ins := i } := ⟨h.rblk, h.iblk, h.wv, h.some_, h.low⟩
/-- The struct is turned. -/
theorem RRep.struct (h : RRep w base R S) {S' : St} (i : Nat) (u : Value) (hc : (refCells S R.ib R.wv).setIfInBounds i u = refCells S' R.ib R.wv) (h1 : S'.cells = S.cells) (h2 : S'.waits = S.waits) (h3 : S'.g ≠ none) : RRep (w.setCell ⟨R.rb, i, none⟩ u) base R S' where
  rblk := by
    have := h.rblk.set_ i u
    rw [hc] at this
    exact this
  iblk := by rw [h1]; exact blk_far h.iblk h.rblk (by decide) _ _
  wv := by rw [h2]; exact row_far h.wv h.rblk (by decide) _ _
  some_ := h3
  low := h.low
theorem RRep.cell (h : RRep w base R S) {S' : St} (k : Nat) (c : Int) (h0 : S' = { S with cells := S.cells.set k c }) : RRep (w.setCell ⟨R.ib, k, none⟩ (.int .i64 c)) base R S' := by
  subst h0
  exact {
    rblk := by
      have := blk_far h.rblk h.iblk (by decide) k (.int .i64 c)
      have e : refCells { S with cells := S.cells.set k c } R.ib R.wv = refCells S R.ib R.wv := by simp [refCells, St.tal]
      rw [e]
      exact this
    iblk := by
      have := h.iblk.set_ k (.int .i64 c)
      have e : (S.cells.map (Value.int .i64)).toArray.setIfInBounds k (.int .i64 c) = ((S.cells.set k c).map (Value.int .i64)).toArray := by
        rw [List.setIfInBounds_toArray, List.map_set]
      rw [e] at this
      exact this
    wv := row_far h.wv h.iblk (by decide) _ _
    some_ := h.some_
    low := h.low }
/-- Who is in has an epoch in his cell, who is out none. -/
structure InOk (S : St) : Prop where
  len : S.cells.length = S.ins.length
  zero : ∀ (i : Nat), S.ins[i]? = some false → S.cells[i]? = some 0
  one : ∀ (i : Nat), S.ins[i]? = some true → ∃ c, S.cells[i]? = some c ∧ c ≠ 0
  now : 1 ≤ S.now
  le : S.ins.length ≤ 64

theorem enterR_yes (h : RRep w base R S) (k : Nat) (hk : S.ins[k]? = some false) (hI : InOk S) :
    Calls Try.prog 18 #[.pointer (some ⟨R.rb, 0, none⟩), .int .i64 k] w fun e w' => e = .returned (.int .i64 0) ∧
      RRep w' base R { S with cells := S.cells.set k S.now, ins := S.ins.set k true, g := (S.g.on Tal.load).on Tal.store } ∧ Kept (fun b => ¬ R.foot b) w w' := by
  have hz := hI.zero k hk
  have hkl : k < S.cells.length := (List.getElem?_eq_some_iff.1 hz).1
  have hk64 := hI.le
  rw [← hI.len] at hk64
  have c1 : w.cell? ⟨R.rb, 1, none⟩ = some (.slice (some ⟨R.ib, 0, none⟩) S.cells.length S.cells.length) := h.rblk.cell 1
  have c3 : w.cell? ⟨R.rb, 3, none⟩ = some (.int .i64 S.tal.l) := h.rblk.cell 3
  have c3f : w.frozen? ⟨R.rb, 3, none⟩ = false := h.rblk.frozen 3
  have ck : w.cell? ⟨R.ib, k, none⟩ = some (.int .i64 0) := by
    rw [h.iblk.cell]
    simp [hz]
  have hr1 : RRep (w.setCell ⟨R.rb, 3, none⟩ (.int .i64 (wrap64 (S.tal.l + 1)))) base R { S with g := S.g.on Tal.load } := h.struct 3 _ (by
    have := tal_on (S := S) (S' := { S with g := S.g.on Tal.load }) h.some_ Tal.load rfl
    simp only [refCells, this]
    rfl) rfl rfl (on_some h.some_ _)
  have hr2 : RRep ((w.setCell ⟨R.rb, 3, none⟩ (.int .i64 (wrap64 (S.tal.l + 1)))).setCell ⟨R.rb, 4, none⟩ (.int .i64 (wrap64 (S.tal.s + 1)))) base R { S with g := (S.g.on Tal.load).on Tal.store } := hr1.struct 4 _ (by
    have a1 := tal_on (S := S) (S' := { S with g := S.g.on Tal.load }) h.some_ Tal.load rfl
    have a2 := tal_on (S := { S with g := S.g.on Tal.load }) (S' := { S with g := (S.g.on Tal.load).on Tal.store }) (on_some h.some_ _) Tal.store rfl
    simp only [refCells, a2, a1]
    rfl) rfl rfl (on_some (on_some h.some_ _) _)
  have kp : Kept (fun b => ¬ R.foot b) w (((w.setCell ⟨R.rb, 3, none⟩ (.int .i64 (wrap64 (S.tal.l + 1)))).setCell ⟨R.rb, 4, none⟩ (.int .i64 (wrap64 (S.tal.s + 1)))).setCell ⟨R.ib, k, none⟩ (.int .i64 S.now)) :=
    (((Kept.refl _ w).setCell (fun _ hn => hn (.inl rfl)) _).setCell (fun _ hn => hn (.inl rfl)) _).setCell (fun _ hn => hn (.inr (.inl rfl))) _
  have d4 : (w.setCell ⟨R.rb, 3, none⟩ (.int .i64 (wrap64 (S.tal.l + 1)))).cell? ⟨R.rb, 4, none⟩ = some (.int .i64 S.tal.s) := by
    have := tal_on (S := S) (S' := { S with g := S.g.on Tal.load }) h.some_ Tal.load rfl
    rw [hr1.rblk.cell]
    simp only [refCells, this]
    rfl
  have d4f : (w.setCell ⟨R.rb, 3, none⟩ (.int .i64 (wrap64 (S.tal.l + 1)))).frozen? ⟨R.rb, 4, none⟩ = false := hr1.rblk.frozen 4
  have hr3 := hr2.cell k S.now rfl
  obtain ⟨w2, hw2⟩ : ∃ w2, (w.setCell ⟨R.rb, 3, none⟩ (.int .i64 (wrap64 (S.tal.l + 1)))).setCell ⟨R.rb, 4, none⟩ (.int .i64 (wrap64 (S.tal.s + 1))) = w2 := ⟨_, rfl⟩
  rw [hw2] at hr2 hr3 kp
  have e0 : w2.cell? ⟨R.rb, 0, none⟩ = some (.int .i64 S.now) := hr2.rblk.cell 0
  have e1 : w2.cell? ⟨R.rb, 1, none⟩ = some (.slice (some ⟨R.ib, 0, none⟩) S.cells.length S.cells.length) := hr2.rblk.cell 1
  have ek : w2.cell? ⟨R.ib, k, none⟩ = some (.int .i64 0) := by
    rw [hr2.iblk.cell]
    simp [hz]
  have ekf : w2.frozen? ⟨R.ib, k, none⟩ = false := hr2.iblk.frozen k
  have hd1 : decide ((k : Int) < 0) = false := by simp
  have hd2 : decide ((S.cells.length : Int) ≤ (k : Int)) = false := by simp; omega
  have hd3 : (k : Int) < (S.cells.length : Int) := by omega
  have HR := Lib.hid hr3
  have HK := Lib.hid kp
  clear h hr1 hr2 hr3 kp hI hz hk
  go_enter Try.func18, Try.ntmps18
  go_wp2_with fail
  go_still_tail 10, (by kernel_rfl)
  change wpList _ _ _ _ _ w2.drew
  go_wp2_with fail
  go_ret
  exact ⟨rfl, (HR.out.ins _).drew, HK.out.drew⟩

theorem exitR_yes (h : RRep w base R S) (k : Nat) (hk : S.ins[k]? = some true) (hI : InOk S) :
    Calls Try.prog 19 #[.pointer (some ⟨R.rb, 0, none⟩), .int .i64 k] w fun e w' => e = .returned (.int .i64 0) ∧
      RRep w' base R { S with cells := S.cells.set k 0, ins := S.ins.set k false, g := S.g.on Tal.store } ∧ Kept (fun b => ¬ R.foot b) w w' := by
  obtain ⟨c, hz, hc0⟩ := hI.one k hk
  have hkl : k < S.cells.length := (List.getElem?_eq_some_iff.1 hz).1
  have hk64 := hI.le
  rw [← hI.len] at hk64
  have c1 : w.cell? ⟨R.rb, 1, none⟩ = some (.slice (some ⟨R.ib, 0, none⟩) S.cells.length S.cells.length) := h.rblk.cell 1
  have c4 : w.cell? ⟨R.rb, 4, none⟩ = some (.int .i64 S.tal.s) := h.rblk.cell 4
  have c4f : w.frozen? ⟨R.rb, 4, none⟩ = false := h.rblk.frozen 4
  have ck : w.cell? ⟨R.ib, k, none⟩ = some (.int .i64 c) := by
    rw [h.iblk.cell]
    simp [hz]
  have hr1 : RRep (w.setCell ⟨R.rb, 4, none⟩ (.int .i64 (wrap64 (S.tal.s + 1)))) base R { S with g := S.g.on Tal.store } := h.struct 4 _ (by
    have := tal_on (S := S) (S' := { S with g := S.g.on Tal.store }) h.some_ Tal.store rfl
    simp only [refCells, this]
    rfl) rfl rfl (on_some h.some_ _)
  have kp : Kept (fun b => ¬ R.foot b) w ((w.setCell ⟨R.rb, 4, none⟩ (.int .i64 (wrap64 (S.tal.s + 1)))).setCell ⟨R.ib, k, none⟩ (.int .i64 0)) :=
    ((Kept.refl _ w).setCell (fun _ hn => hn (.inl rfl)) _).setCell (fun _ hn => hn (.inr (.inl rfl))) _
  have hr3 := hr1.cell k 0 rfl
  obtain ⟨w2, hw2⟩ : ∃ w2, w.setCell ⟨R.rb, 4, none⟩ (.int .i64 (wrap64 (S.tal.s + 1))) = w2 := ⟨_, rfl⟩
  rw [hw2] at hr1 hr3 kp
  have e1 : w2.cell? ⟨R.rb, 1, none⟩ = some (.slice (some ⟨R.ib, 0, none⟩) S.cells.length S.cells.length) := hr1.rblk.cell 1
  have ek : w2.cell? ⟨R.ib, k, none⟩ = some (.int .i64 c) := by
    rw [hr1.iblk.cell]
    simp [hz]
  have ekf : w2.frozen? ⟨R.ib, k, none⟩ = false := hr1.iblk.frozen k
  have hd1 : decide ((k : Int) < 0) = false := by simp
  have hd2 : decide ((S.cells.length : Int) ≤ (k : Int)) = false := by simp; omega
  have hd3 : (k : Int) < (S.cells.length : Int) := by omega
  have hd4 : (c == 0) = false := beq_eq_false_iff_ne.2 hc0
  have HR := Lib.hid hr3
  have HK := Lib.hid kp
  clear h hr1 hr3 kp hI hz hk hc0
  go_enter Try.func19, Try.ntmps19
  go_wp2_with fail
  go_ret
  exact ⟨rfl, HR.out.ins _, HK.out⟩

/-- A client that there is not, or that is in already (out already). -/
theorem enterR_no (h : RRep w base R S) (c : Int) (hno : c < 0 ∨ (S.cells.length : Int) ≤ c ∨ ∃ (k : Nat) (x : Int), c = k ∧ S.cells[k]? = some x ∧ x ≠ 0) :
    Calls Try.prog 18 #[.pointer (some ⟨R.rb, 0, none⟩), .int .i64 c] w fun e w' => e = .returned (.int .i64 1) ∧ w = w' := by
  have c1 : w.cell? ⟨R.rb, 1, none⟩ = some (.slice (some ⟨R.ib, 0, none⟩) S.cells.length S.cells.length) := h.rblk.cell 1
  by_cases h1 : c < 0
  · have hd1 : decide (c < 0) = true := by simp; omega
    clear hno
    go_enter Try.func18, Try.ntmps18
    go_wp2_with fail
    go_ret
    exact ⟨rfl, rfl⟩
  by_cases h2 : (S.cells.length : Int) ≤ c
  · have hd1 : decide (c < 0) = false := by simp; omega
    have hd2 : decide ((S.cells.length : Int) ≤ c) = true := by simp; omega
    clear hno
    go_enter Try.func18, Try.ntmps18
    go_wp2_with fail
    go_ret
    exact ⟨rfl, rfl⟩
  rcases hno with hno | hno | ⟨k, x, rfl, hz, hx⟩
  · exact absurd hno h1
  · exact absurd hno h2
  have ck : w.cell? ⟨R.ib, k, none⟩ = some (.int .i64 x) := by
    rw [h.iblk.cell]
    simp [hz]
  have hd1 : decide ((k : Int) < 0) = false := by simp
  have hd2 : decide ((S.cells.length : Int) ≤ (k : Int)) = false := by simp; omega
  have hd3 : (k : Int) < (S.cells.length : Int) := by omega
  have hd4 : (x == 0) = false := beq_eq_false_iff_ne.2 hx
  have hkl : k < S.cells.length := by omega
  have hdn : decide (S.cells.length ≤ k) = false := decide_eq_false (by omega)
  have hdq : ¬ S.cells.length ≤ k := by omega
  clear hz h1 h2
  go_enter Try.func18, Try.ntmps18
  go_wp2_with fail
  go_ret
  exact ⟨rfl, rfl⟩
theorem exitR_no (h : RRep w base R S) (c : Int) (hno : c < 0 ∨ (S.cells.length : Int) ≤ c ∨ ∃ (k : Nat), c = k ∧ S.cells[k]? = some 0) :
    Calls Try.prog 19 #[.pointer (some ⟨R.rb, 0, none⟩), .int .i64 c] w fun e w' => e = .returned (.int .i64 1) ∧ w = w' := by
  have c1 : w.cell? ⟨R.rb, 1, none⟩ = some (.slice (some ⟨R.ib, 0, none⟩) S.cells.length S.cells.length) := h.rblk.cell 1
  by_cases h1 : c < 0
  · have hd1 : decide (c < 0) = true := by simp; omega
    clear hno
    go_enter Try.func19, Try.ntmps19
    go_wp2_with fail
    go_ret
    exact ⟨rfl, rfl⟩
  by_cases h2 : (S.cells.length : Int) ≤ c
  · have hd1 : decide (c < 0) = false := by simp; omega
    have hd2 : decide ((S.cells.length : Int) ≤ c) = true := by simp; omega
    clear hno
    go_enter Try.func19, Try.ntmps19
    go_wp2_with fail
    go_ret
    exact ⟨rfl, rfl⟩
  rcases hno with hno | hno | ⟨k, rfl, hz⟩
  · exact absurd hno h1
  · exact absurd hno h2
  have ck : w.cell? ⟨R.ib, k, none⟩ = some (.int .i64 0) := by
    rw [h.iblk.cell]
    simp [hz]
  have hd1 : decide ((k : Int) < 0) = false := by simp
  have hd2 : decide ((S.cells.length : Int) ≤ (k : Int)) = false := by simp; omega
  have hd3 : (k : Int) < (S.cells.length : Int) := by omega
  have hkl : k < S.cells.length := by omega
  have hdn : decide (S.cells.length ≤ k) = false := decide_eq_false (by omega)
  have hdq : ¬ S.cells.length ≤ k := by omega
  clear hz h1 h2
  go_enter Try.func19, Try.ntmps19
  go_wp2_with fail
  go_ret
  exact ⟨rfl, rfl⟩

theorem bumpR (h : RRep w base R S) :
    Calls Try.prog 21 #[.pointer (some ⟨R.rb, 0, none⟩)] w fun e w' => e = .returned (.int .i64 S.bump.now) ∧ RRep w' base R S.bump ∧ Kept (fun b => ¬ R.foot b) w w' := by
  have c7 : w.cell? ⟨R.rb, 7, none⟩ = some (.int .i64 S.tal.a) := h.rblk.cell 7
  have c7f : w.frozen? ⟨R.rb, 7, none⟩ = false := h.rblk.frozen 7
  have hr1 : RRep (w.setCell ⟨R.rb, 7, none⟩ (.int .i64 (wrap64 (S.tal.a + 1)))) base R { S with g := S.g.on Tal.add } := h.struct 7 _ (by
    have := tal_on (S := S) (S' := { S with g := S.g.on Tal.add }) h.some_ Tal.add rfl
    simp only [refCells, this]
    rfl) rfl rfl (on_some h.some_ _)
  have hr2 : RRep ((w.setCell ⟨R.rb, 7, none⟩ (.int .i64 (wrap64 (S.tal.a + 1)))).setCell ⟨R.rb, 0, none⟩ (.int .i64 (wrap64 (S.now + 1)))) base R S.bump := hr1.struct 0 _ rfl rfl rfl (on_some h.some_ _)
  have kp : Kept (fun b => ¬ R.foot b) w ((w.setCell ⟨R.rb, 7, none⟩ (.int .i64 (wrap64 (S.tal.a + 1)))).setCell ⟨R.rb, 0, none⟩ (.int .i64 (wrap64 (S.now + 1)))) :=
    ((Kept.refl _ w).setCell (fun _ hn => hn (.inl rfl)) _).setCell (fun _ hn => hn (.inl rfl)) _
  obtain ⟨w2, hw2⟩ : ∃ w2, w.setCell ⟨R.rb, 7, none⟩ (.int .i64 (wrap64 (S.tal.a + 1))) = w2 := ⟨_, rfl⟩
  rw [hw2] at hr1 hr2 kp
  have e0 : w2.cell? ⟨R.rb, 0, none⟩ = some (.int .i64 S.now) := hr1.rblk.cell 0
  have e0f : w2.frozen? ⟨R.rb, 0, none⟩ = false := hr1.rblk.frozen 0
  have HR := Lib.hid hr2
  have HK := Lib.hid kp
  clear h hr1 hr2 kp
  go_enter Try.func21, Try.ntmps21
  go_wp2_with fail
  go_ret
  exact ⟨rfl, HR.out, HK.out⟩
end
end Ytbefknaffopeaaa
end Go.Proofs
