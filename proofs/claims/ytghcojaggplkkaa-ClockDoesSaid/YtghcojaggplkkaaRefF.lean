/-
  The reference's clock: Add.
-/
import Derived.Test.YtghcojaggplkkaaRefE
set_option maxHeartbeats 1000000
namespace Go.Proofs
open Go.RowKit
namespace Ytghcojaggplkkaa
attribute [local go_sem ↓] Go.wp_at_zero Go.wp_at_succ
section
variable {w w' : World} {base : Nat} {R : RLay} {S : Ck}
/-- What the reference's call that may grow leaves. -/
def RGrown (w w' : World) (base : Nat) (R : RLay) (S' : Ck) : Prop :=
  ∃ R', RRep w' base R' S' ∧ R'.rb = R.rb ∧ (∀ c, R'.foot c → R.foot c ∨ w.heap.size ≤ c) ∧ Kept (fun b => ¬ R.foot b) w w'
/-- The accesses are counted. -/
theorem RRep.adds (h : RRep w base R S) : RRep (w.setCell ⟨R.rb, 7, none⟩ (.int .i64 (wrap64 (S.tal.a + 1)))) base R { S with g := S.g.on Tal.add } :=
  h.struct 7 _ (by
    have := ck_tal_on (S := S) (S' := { S with g := S.g.on Tal.add }) h.some_ Tal.add rfl
    simp only [refCells, this]
    rfl) rfl (on_some h.some_ _)
/-- What does not stand in the reference's clock. -/
theorem RRep.as (h : RRep w base R S) {S' : Ck} (h1 : S'.budget = S.budget) (h2 : S'.ring = S.ring) (h3 : S'.hand = S.hand) (h4 : S'.g = S.g) : RRep w base R S' where
  rblk := by
    have e : refCells S' R.lv = refCells S R.lv := by
      have : S'.tal = S.tal := by unfold Ck.tal; rw [h4]
      simp only [refCells, h1, h3, this]
    rw [e]
    exact h.rblk
  lv := by rw [h2]; exact h.lv
  some_ := by rw [h4]; exact h.some_
  low := h.low

theorem addR_bad (rb : Nat) (n b : Int) (w : World) (h : n < 1 ∨ 512 < n ∨ b < 0 ∨ 1099511627776 < b) :
    Calls Try.prog 14 #[.pointer (some ⟨rb, 0, none⟩), .int .i64 n, .int .i64 b] w fun e w' => e = .returned (.int .i64 1) ∧ w = w' := by
  by_cases h1 : n < 1
  · have hd : decide (n < 1) = true := by simp; omega
    go_enter Try.func14, Try.ntmps14
    go_wp2_with fail
    go_ret
    exact ⟨rfl, rfl⟩
  · have hd : decide (n < 1) = false := by simp; omega
    by_cases h2 : 512 < n
    · have hd2 : decide (512 < n) = true := by simp; omega
      go_enter Try.func14, Try.ntmps14
      go_wp2_with fail
      go_ret
      exact ⟨rfl, rfl⟩
    · have hd2 : decide (512 < n) = false := by simp; omega
      by_cases h3 : b < 0
      · have hd3 : decide (b < 0) = true := by simp; omega
        go_enter Try.func14, Try.ntmps14
        go_wp2_with fail
        go_ret
        exact ⟨rfl, rfl⟩
      · have hd3 : decide (b < 0) = false := by simp; omega
        have hd4 : decide (1099511627776 < b) = true := by simp; omega
        go_enter Try.func14, Try.ntmps14
        go_wp2_with fail
        go_ret
        exact ⟨rfl, rfl⟩

theorem addR_none (h : RRep w base R S) (hl : S.ring.length ≤ 512) {n : Int} (h1 : 1 ≤ n) (h2 : n ≤ 512) (hi : idx S.ring n = none) :
    Calls Try.prog 14 #[.pointer (some ⟨R.rb, 0, none⟩), .int .i64 n, .int .i64 0] w fun e w' => e = .returned (.int .i64 0) ∧ w = w' := by
  have hd : decide (n < 1) = false := by simp; omega
  have hd2 : decide (512 < n) = false := by simp; omega
  have HH := Lib.hid h
  have HI := Lib.hid hi
  clear h hi
  go_enter Try.func14, Try.ntmps14
  go_wp2_with fail
  refine (atR HH.out hl n).mono ?_
  rintro e w' ⟨x, rfl, rfl, hx⟩
  rcases hx with ⟨rfl, hi⟩ | ⟨m, rfl, hi⟩
  · clear hi
    go_wp2_with fail
    go_ret
    exact ⟨rfl, rfl⟩
  · exact absurd (HI.out.symm.trans hi) (by simp)

theorem addR_upd (h : RRep w base R S) (hl : S.ring.length ≤ 512) {n b : Int} {i : Nat} {p : Pg} (h1 : 1 ≤ n) (h2 : n ≤ 512) (h3 : 1 ≤ b) (h4 : b ≤ 1099511627776) (hi : idx S.ring n = some i) (hp : S.ring[i]? = some p) :
    Calls Try.prog 14 #[.pointer (some ⟨R.rb, 0, none⟩), .int .i64 n, .int .i64 b] w fun e w' => e = .returned (.int .i64 0) ∧ RRep w' base R { S with ring := S.ring.set i { p with b := b }, g := S.g.on Tal.add } ∧ Kept (fun b => ¬ R.foot b) w w' := by
  have hd : decide (n < 1) = false := by simp; omega
  have hd2 : decide (512 < n) = false := by simp; omega
  have hd3 : decide (b < 0) = false := by simp; omega
  have hd4 : decide (1099511627776 < b) = false := by simp; omega
  have hd5 : decide (0 < b) = true := by simp; omega
  have HH := Lib.hid h
  have HI := Lib.hid hi
  have HP := Lib.hid hp
  clear h hi hp
  go_enter Try.func14, Try.ntmps14
  go_wp2_with fail
  refine (atR HH.out hl n).mono ?_
  rintro e w' ⟨x, rfl, rfl, hx⟩
  rcases hx with ⟨rfl, hi⟩ | ⟨m, rfl, hi⟩
  · exact absurd (HI.out.symm.trans hi) (by simp)
  · have : i = m := by have := HI.out.symm.trans hi; simpa using this
    subst this
    have c7 : w.cell? ⟨R.rb, 7, none⟩ = some (.int .i64 S.tal.a) := HH.out.rblk.cell 7
    have c7f : w.frozen? ⟨R.rb, 7, none⟩ = false := HH.out.rblk.frozen 7
    have hr1 := HH.out.adds
    have hk1 : Kept (fun b => ¬ R.foot b) w (w.setCell ⟨R.rb, 7, none⟩ (.int .i64 (wrap64 (S.tal.a + 1)))) := (Kept.refl _ w).setCell (fun _ hn => hn (.inl rfl)) _
    obtain ⟨w1, hw1⟩ : ∃ w1, w.setCell ⟨R.rb, 7, none⟩ (.int .i64 (wrap64 (S.tal.a + 1))) = w1 := ⟨_, rfl⟩
    rw [hw1] at hr1 hk1
    obtain ⟨g, cap, hv, c0, c1, c2⟩ := hr1.page (show ({ S with g := S.g.on Tal.add } : Ck).ring[i]? = some p from HP.out)
    simp only at hv
    have hml : i < S.ring.length := (List.getElem?_eq_some_iff.1 HP.out).1
    have hli : (i : Int) < (S.ring.length : Int) := by omega
    have q1 : w1.cell? ⟨R.rb, 1, none⟩ = some (.slice (some ⟨g, 0, none⟩) S.ring.length cap) := (hr1.rblk.cell 1).trans (congrArg some hv)
    obtain ⟨cs, hcs, hbg⟩ := hr1.lv.blk (g := g) (by rw [hv]; rfl)
    have c1f : w1.frozen? ⟨g, i * 3 + 1, none⟩ = false := hcs.frozen _
    have HR2 := Lib.hid (hr1.ringTo (S' := { S with ring := S.ring.set i { p with b := b }, g := S.g.on Tal.add }) (j := i * 3 + 1) (u := .int .i64 b) hv (by show i * 3 + 1 < S.ring.length * 3; omega) ((ring_set S.ring i p { p with b := b } HP.out rfl).1 rfl) (by simp) rfl hr1.some_)
    have HK2 := Lib.hid (hk1.setCell (p := ⟨g, i * 3 + 1, none⟩) (fun _ hn => hn (.inr (by rw [hv]; rfl))) (.int .i64 b))
    clear hi hr1 hk1 hv hcs
    go_wp2_with fail
    go_ret
    exact ⟨rfl, HR2.out, HK2.out⟩
end
end Ytghcojaggplkkaa
end Go.Proofs
