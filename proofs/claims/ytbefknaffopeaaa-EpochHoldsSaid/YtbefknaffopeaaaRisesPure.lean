/-
  EpochRises, without Go: the first epoch in which somebody may be never falls.
-/
import Derived.Test.YtbefknaffopeaaaOps
namespace Go.Proofs.Ytbefknaffopeaaa
open Go.RowKit

theorem le_fold (x : Int) : ∀ (l : List Int) (o : Int), x ≤ l.foldl safeStep o ↔ x ≤ o ∧ ∀ c ∈ l, c ≠ 0 → x ≤ c
  | [], o => by simp
  | c :: l, o => by
    rw [List.foldl_cons, le_fold x l]
    simp only [List.forall_mem_cons]
    have : x ≤ safeStep o c ↔ x ≤ o ∧ (c ≠ 0 → x ≤ c) := by
      unfold safeStep
      split
      · simp_all
      · split <;> constructor <;> intro h
        · exact ⟨by omega, fun _ => h⟩
        · exact h.2 (by assumption)
        · exact ⟨h, fun _ => by omega⟩
        · exact h.1
    rw [this, and_assoc]
theorem le_safe (S : St) (x : Int) : x ≤ safeOf S ↔ x ≤ S.now ∧ ∀ c ∈ S.cells, c ≠ 0 → x ≤ c := le_fold x _ _
theorem safe_le (S : St) : safeOf S ≤ S.now := ((le_safe S _).1 (Int.le_refl _)).1
theorem safe_cell (S : St) {c : Int} (hc : c ∈ S.cells) (h0 : c ≠ 0) : safeOf S ≤ c := ((le_safe S _).1 (Int.le_refl _)).2 c hc h0

structure Rise (S : St) (k : Nat) : Prop where
  len : S.waits.length ≤ k
  lo : 1 ≤ S.now
  hi : S.now ≤ 1 + k
theorem Rise.start (n : Nat) (g : Gho) : Rise ⟨1, List.replicate n 0, List.replicate n false, [], g⟩ 0 := ⟨by simp, by simp, by simp⟩
section
variable {S : St} {k : Nat}
theorem Rise.asked (h : Rise S k) : Rise S.asked k := ⟨h.len, h.lo, h.hi⟩
theorem Rise.enter (h : Rise S k) (c : Int) : Rise (S.enter c) (k + 1) := by
  unfold St.enter
  have := h.len
  have := h.hi
  split <;> exact ⟨by (try simp only); omega, h.lo, by (try simp only); omega⟩
theorem Rise.exit (h : Rise S k) (c : Int) : Rise (S.exit c) (k + 1) := by
  unfold St.exit
  have := h.len
  have := h.hi
  split <;> exact ⟨by (try simp only); omega, h.lo, by (try simp only); omega⟩
theorem Rise.retire (h : Rise S k) (n : Int) : Rise (S.retire n) (k + 1) := ⟨by simp only [St.retire, List.length_append]; have := h.len; simp; omega, h.lo, by have := h.hi; simp only [St.retire]; omega⟩
theorem Rise.now_ok (h : Rise S k) (hk : k ≤ 140737488355328) : S.bump.now = S.now + 1 := by
  have := h.lo
  have := h.hi
  simp only [St.bump, wrap64]
  omega
theorem Rise.bump (h : Rise S k) (hk : k ≤ 140737488355328) : Rise S.bump (k + 1) := ⟨by have := h.len; simp only [St.bump]; omega, by rw [h.now_ok hk]; have := h.lo; omega, by rw [h.now_ok hk]; have := h.hi; omega⟩
theorem Rise.reclaim (h : Rise S k) : Rise S.reclaim (k + 1) := ⟨by have h1 := h.len; have h2 := List.length_filter_le (isOld (safeOf S) false) S.waits; simp only [St.reclaim]; omega, h.lo, by have := h.hi; simp only [St.reclaim]; omega⟩

theorem mem_set_of {l : List Int} {i : Nat} {v x : Int} (h : x ∈ l.set i v) : x ∈ l ∨ x = v := by
  rcases List.mem_or_eq_of_mem_set h with h | h
  · exact .inl h
  · exact .inr h
theorem safe_enter (S : St) (c : Int) : safeOf S ≤ safeOf (S.enter c) ∧ (S.enter c).now = S.now := by
  unfold St.enter
  split
  · refine ⟨(le_safe _ _).2 ⟨safe_le S, fun x hx h0 => ?_⟩, rfl⟩
    rcases mem_set_of hx with h | rfl
    · exact safe_cell S h h0
    · exact safe_le S
  · exact ⟨Int.le_refl _, rfl⟩
theorem safe_exit (S : St) (c : Int) : safeOf S ≤ safeOf (S.exit c) ∧ (S.exit c).now = S.now := by
  unfold St.exit
  split
  · refine ⟨(le_safe _ _).2 ⟨safe_le S, fun x hx h0 => ?_⟩, rfl⟩
    rcases mem_set_of hx with h | rfl
    · exact safe_cell S h h0
    · exact absurd rfl h0
  · exact ⟨Int.le_refl _, rfl⟩
theorem safe_bump (h : Rise S k) (hk : k ≤ 140737488355328) : safeOf S ≤ safeOf S.bump := by
  refine (le_safe _ _).2 ⟨?_, fun x hx h0 => safe_cell S hx h0⟩
  rw [h.now_ok hk]
  have := safe_le S
  omega
end
end Go.Proofs.Ytbefknaffopeaaa
