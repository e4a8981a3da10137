/-
  EpochOnce, without Go: the things wait in the order in which they were retired, and those that are old are the first ones.
-/
import Derived.Test.YtbefknaffopeaaaOps
namespace Go.Proofs.Ytbefknaffopeaaa
open Go.RowKit

/-- Of a list in which epochs do not fall, those before an epoch are a beginning. -/
theorem filter_sorted (q : Int) : ∀ (l : List (Int × Int)), l.Pairwise (fun a b => a.2 ≤ b.2) → l.filter (isOld q true) ++ l.filter (isOld q false) = l
  | [], _ => rfl
  | x :: l, h => by
    have ih := filter_sorted q l h.tail
    by_cases hx : x.2 < q
    · simp only [List.filter_cons]
      have h1 : isOld q true x = true := by simp [isOld, hx]
      have h2 : isOld q false x = false := by simp [isOld, hx]
      rw [h1, h2]
      simpa using ih
    · have h1 : ∀ y ∈ x :: l, isOld q true y = false := by
        intro y hy
        rcases List.mem_cons.1 hy with rfl | hy
        · simp [isOld, hx]
        · have := (List.pairwise_cons.1 h).1 y hy
          simp [isOld]
          omega
      have h2 : ∀ y ∈ x :: l, isOld q false y = true := by
        intro y hy
        have := h1 y hy
        simp [isOld] at this ⊢
        exact this
      rw [List.filter_eq_nil_iff.2 (fun y hy => by simp [h1 y hy]), List.filter_eq_self.2 h2]
      rfl

/-- What is so ahead of call i: things and told are the numbers retired and told. -/
structure Once (S : St) (things told i : Nat) : Prop where
  le : told ≤ things
  li : things ≤ i
  ws : S.waits.map (·.1) = (List.range' told (things - told)).map Int.ofNat
  srt : S.waits.Pairwise (fun a b => a.2 ≤ b.2)
  top : ∀ p ∈ S.waits, p.2 ≤ S.now
  lo : 1 ≤ S.now
  hi : S.now ≤ 1 + i

theorem Once.start (cells : List Int) (ins : List Bool) (g : Gho) : Once ⟨1, cells, ins, [], g⟩ 0 0 0 := ⟨by omega, by omega, rfl, List.Pairwise.nil, (fun _ h => nomatch h), by simp, by simp⟩
section
variable {S : St} {things told i : Nat}
theorem Once.length (h : Once S things told i) : S.waits.length = things - told := by
  have := congrArg List.length h.ws
  simpa using this
theorem Once.same (h : Once S things told i) {S' : St} (hw : S'.waits = S.waits) (hn : S'.now = S.now) : Once S' things told (i + 1) :=
  ⟨h.le, by have := h.li; omega, by rw [hw]; exact h.ws, by rw [hw]; exact h.srt, by rw [hw, hn]; exact h.top, by rw [hn]; exact h.lo, by rw [hn]; have := h.hi; omega⟩
theorem Once.enter (h : Once S things told i) (c : Int) : Once (S.enter c) things told (i + 1) := h.same (by unfold St.enter; split <;> rfl) (by unfold St.enter; split <;> rfl)
theorem Once.exit (h : Once S things told i) (c : Int) : Once (S.exit c) things told (i + 1) := h.same (by unfold St.exit; split <;> rfl) (by unfold St.exit; split <;> rfl)
theorem Once.retire (h : Once S things told i) : Once (S.retire things) (things + 1) told (i + 1) where
  le := by have := h.le; omega
  li := by have := h.li; omega
  ws := by
    have := h.le
    have e : things + 1 - told = things - told + 1 := by omega
    simp only [St.retire, List.map_append, h.ws, e, List.range'_concat, List.map_cons, List.map_nil]
    congr 2
    simp
    omega
  srt := by
    refine List.pairwise_append.2 ⟨h.srt, List.pairwise_singleton _ _, ?_⟩
    intro a ha b hb
    have : b = ((things : Int), S.now) := by simpa using hb
    subst this
    exact h.top a ha
  top := by
    intro p hp
    rcases List.mem_append.1 hp with hp | hp
    · exact h.top p hp
    · have : p = ((things : Int), S.now) := by simpa using hp
      subst this
      exact Int.le_refl _
  lo := h.lo
  hi := by have := h.hi; simp only [St.retire]; omega
theorem Once.now_ok (h : Once S things told i) (hi : i ≤ 140737488355328) : S.bump.now = S.now + 1 := by
  have := h.lo
  have := h.hi
  simp only [St.bump, wrap64]
  omega
theorem Once.bump (h : Once S things told i) (hi : i ≤ 140737488355328) : Once S.bump things told (i + 1) where
  le := h.le
  li := by have := h.li; omega
  ws := h.ws
  srt := h.srt
  top := by
    intro p hp
    have := h.top p hp
    rw [h.now_ok hi]
    omega
  lo := by rw [h.now_ok hi]; have := h.lo; omega
  hi := by rw [h.now_ok hi]; have := h.hi; omega
theorem Once.parts (h : Once S things told i) : S.told ++ S.reclaim.waits.map (·.1) = (List.range' told (things - told)).map Int.ofNat := by
  rw [← h.ws]
  unfold St.told St.reclaim
  rw [← List.map_append, filter_sorted _ _ h.srt]
theorem Once.told_le (h : Once S things told i) : told + S.told.length ≤ things := by
  have h1 := congrArg List.length h.parts
  have h2 := h.le
  simp only [List.length_append, List.length_map, List.length_range'] at h1
  omega
theorem Once.told_at (h : Once S things told i) (k : Nat) (hk : k < S.told.length) : S.told[k]? = some ((told + k : Nat) : Int) := by
  have hl := h.told_le
  have h1 : (S.told ++ S.reclaim.waits.map (·.1))[k]? = S.told[k]? := List.getElem?_append_left hk
  rw [← h1, h.parts]
  simp [List.getElem?_range', show k < things - told by omega]
theorem Once.reclaim (h : Once S things told i) : Once S.reclaim things (told + S.told.length) (i + 1) where
  le := h.told_le
  li := by have := h.li; omega
  ws := by
    have hp := h.parts
    have hl := h.told_le
    have h2 : (S.told ++ S.reclaim.waits.map (·.1)).drop S.told.length = S.reclaim.waits.map (·.1) := List.drop_left ..
    rw [← h2, hp, ← List.map_drop, List.drop_range']
    congr 2
    · simp
    · omega
  srt := h.srt.filter _
  top := fun p hp => h.top p (List.mem_filter.1 hp).1
  lo := h.lo
  hi := by have := h.hi; simp only [St.reclaim]; omega
end
end Go.Proofs.Ytbefknaffopeaaa
