/-
  slices.Insert at the end.
-/
import Derived.Test.YtfoolgojcmkdbaaPutNew
set_option maxHeartbeats 4000000
namespace Go.Proofs
open Go.RowKit
namespace Ytfoolgojcmkdbaa
attribute [local go_sem ↓] Go.wp_at_zero Go.wp_at_succ
theorem insert_end (l : List Item) (x : Item) (hl : l.length ≤ 1000000000) : InsertAt l l.length x := by
  intro W base A c vb ho hv hne hbase
  have hx : ItR W (.slice (some ⟨vb, 0, none⟩) 1 1) [x] := by
    have : ItO W 0 (.slice (some ⟨vb, 0, none⟩) 1 1) [x] := .inr ⟨vb, 1, _, rfl, Nat.zero_le _, hv, Nat.le_refl _, by simp [ics], by simp [maxLen], by simp [ics]⟩
    exact this.rd encI
  obtain ⟨v', w', hr, hro, hkk, how, _⟩ := run_append_rowN (P := Try.prog) (t := 22) (ty := 22) encI (by omega) Try.underlying22 Try.info30 rfl ho hx (by simp [maxLen]; omega) (by simp; omega) hbase
  obtain ⟨A', c', rfl⟩ := hro.form
  have e1 : l.take l.length ++ x :: l.drop l.length = l ++ [x] := by simp
  have e2 : (l ++ [x]).length = l.length + 1 := by simp
  rw [e2] at hr hro how
  rw [e1]
  have HRO := Lib.hid hro
  have HKK := Lib.hid hkk
  have HOW : Hid (∀ g, (Value.slice A' (l.length + 1) c').ownBlock = some g → (Value.slice A l.length c).ownBlock = some g ∨ W.heap.size ≤ g) := Lib.hid fun g hg => by
    rcases how with h | h
    · exact .inl (h ▸ hg)
    · rw [h] at hg
      injection hg with hg
      exact .inr (Nat.le_of_eq hg)
  have hcap : l.length ≤ c := by
    rcases ho with ⟨h0, h1⟩ | ⟨g, cap, cur, h0, _, _, h1, _⟩
    · rw [h1]; exact Nat.zero_le _
    · injection h0 with _ _ h0
      rw [h0]; exact h1
  have hA : A = none → l.length = 0 ∧ c = 0 := fun h => by
    rcases ho with ⟨h0, h1⟩ | ⟨g, cap, cur, h0, _⟩
    · injection h0 with _ h2 h3
      exact ⟨h2, h3⟩
    · injection h0 with h0
      rw [h] at h0
      cases h0
  clear hro hkk how e1 e2 ho hx hne hbase
  generalize l.length = n at *
  go_enter Try.func26, Try.ntmps26
  cases A with
  | none =>
    obtain ⟨rfl, rfl⟩ := hA rfl
    clear hA
    go_wp2_with (at_builtin; refine wpList_append_run rfl (.tmp 23) (.tmp 24) 22 rfl rfl rfl hr ?_)
    go_ret
    exact ⟨A', c', rfl, HRO, HOW, HKK.out⟩
  | some a =>
    clear hA
    go_wp2_with (at_builtin; refine wpList_append_run rfl (.tmp 23) (.tmp 24) 22 rfl rfl rfl hr ?_)
    all_goals
      go_ret
      exact ⟨A', c', rfl, HRO, HOW, HKK.out⟩
end Ytfoolgojcmkdbaa
end Go.Proofs
