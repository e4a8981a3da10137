/-
  What a page that may be has; which kid a key goes down to: in plain Lean.
-/
import Derived.Test.YtfoolgojcmkdbaaKeys
set_option maxHeartbeats 400000
namespace Go.Proofs.Ytfoolgojcmkdbaa
structure Inner (p : Page) : Prop where
  items : p.items = []
  len : 1 ≤ p.kids.length ∧ p.kids.length ≤ 120
  head : (p.kids.headD default).key = p.low
  good : p.kids.any badKid = false
  sorted : Sorted (p.kids.map (·.key))
  cov : ∀ k ∈ p.kids.map (·.key), covers p k = true
structure Leaf (p : Page) : Prop where
  kids : p.kids = []
  len : p.items.length ≤ 120
  good : p.items.any badItem = false
  sorted : Sorted (p.items.map (·.key))
  cov : ∀ k ∈ p.items.map (·.key), covers p k = true
theorem rising_iff {p : Page} {l : List ByteArray} : rising p l = true ↔ Sorted l ∧ ∀ k ∈ l, covers p k = true := by
  unfold rising
  rw [Bool.and_eq_true, decide_eq_true_eq, List.all_eq_true]
theorem inner_iff {p : Page} : inner p = true ↔ Inner p := by
  unfold inner
  simp only [Bool.and_eq_true, decide_eq_true_eq, Bool.not_eq_true', beq_iff_eq, rising_iff]
  constructor
  · rintro ⟨h1, h2, h3, h4, h5, h6, h7⟩
    exact ⟨List.eq_nil_of_length_eq_zero h1, ⟨h2, h3⟩, toList_inj h4, h5, h6, h7⟩
  · rintro ⟨h1, ⟨h2, h3⟩, h4, h5, h6, h7⟩
    exact ⟨by rw [h1]; rfl, h2, h3, by rw [h4], h5, h6, h7⟩
theorem leaf_iff {p : Page} : leaf p = true ↔ Leaf p := by
  unfold leaf
  simp only [Bool.and_eq_true, decide_eq_true_eq, Bool.not_eq_true', rising_iff]
  constructor
  · rintro ⟨h1, h2, h3, h4, h5⟩
    exact ⟨List.eq_nil_of_length_eq_zero h1, h2, h3, h4, h5⟩
  · rintro ⟨h1, h2, h3, h4, h5⟩
    exact ⟨by rw [h1]; rfl, h2, h3, h4, h5⟩
theorem check_iff {p : Page} : check p = true ↔ bounds p = true ∧ (p.level = 0 → Leaf p) ∧ (p.level ≠ 0 → Inner p) := by
  unfold check
  rw [Bool.and_eq_true]
  by_cases h : p.level = 0
  · simp [h, leaf_iff]
  · simp [h, inner_iff]
theorem check_sortedI {p : Page} (h : check p = true) : Sorted (p.items.map (·.key)) := by
  obtain ⟨_, h1, h2⟩ := check_iff.1 h
  by_cases hl : p.level = 0
  · exact (h1 hl).sorted
  · rw [(h2 hl).items]
    exact List.Pairwise.nil
theorem check_sortedK {p : Page} (h : check p = true) : Sorted (p.kids.map (·.key)) := by
  obtain ⟨_, h1, h2⟩ := check_iff.1 h
  by_cases hl : p.level = 0
  · rw [(h1 hl).kids]
    exact List.Pairwise.nil
  · exact (h2 hl).sorted
/-- The kid to which a key goes down: the last one that does not begin behind it. -/
structure DownTo (p : Page) (q : ByteArray) (k : Nat) (x : Kid) : Prop where
  at_ : p.kids[k]? = some x
  le : lt q x.key = false
  next : ∀ y, p.kids[k + 1]? = some y → lt q y.key = true
theorem down_is {p : Page} {q : ByteArray} {i : Nat} (hi : At (p.kids.map (·.key)) q i true) (hs : Sorted (p.kids.map (·.key))) : ∃ x, DownTo p q i x := by
  have h1 : (p.kids.map (·.key))[i]? = some q := by simpa using hi.is.symm
  obtain ⟨x, hx, hq⟩ : ∃ x, p.kids[i]? = some x ∧ x.key = q := by simpa [Option.map_eq_some_iff] using h1
  refine ⟨x, hx, by rw [hq]; exact lt_irrefl q, fun y hy => ?_⟩
  have h2 : (p.kids.map (·.key))[i + 1]? = some y.key := by simp [hy]
  obtain ⟨a1, e1⟩ := List.getElem?_eq_some_iff.1 h1
  obtain ⟨a2, e2⟩ := List.getElem?_eq_some_iff.1 h2
  have := (List.pairwise_iff_getElem.1 hs) i (i + 1) a1 a2 (Nat.lt_succ_self _)
  rw [e1, e2] at this
  exact this
theorem down_not {p : Page} {q : ByteArray} {i : Nat} (hi : At (p.kids.map (·.key)) q i false) (hn : Inner p) (hc : covers p q = true) : ∃ k x, i = k + 1 ∧ DownTo p q k x := by
  have hlow : lt q p.low = false := by
    unfold covers at hc
    simp only [Bool.and_eq_true, Bool.not_eq_true'] at hc
    exact hc.1
  have hno : (p.kids.map (·.key))[i]? ≠ some q := by simpa using hi.is.symm
  cases i with
  | zero =>
    exfalso
    obtain ⟨x, hx⟩ : ∃ x, p.kids[0]? = some x := ⟨_, List.getElem?_eq_getElem hn.len.1⟩
    have hh : p.kids.headD default = x := by rw [List.headD_eq_head?_getD, List.head?_eq_getElem?, hx]; rfl
    have hk := hn.head
    rw [hh] at hk
    have h0 : (p.kids.map (·.key))[0]? = some x.key := by simp [hx]
    have h1 := hi.hi 0 _ (Nat.le_refl _) h0
    rw [hk] at h1 h0
    rw [lt_total h1 hlow] at h0
    exact hno h0
  | succ k =>
    have hlt : k < p.kids.length := by have := hi.le; simp at this; omega
    obtain ⟨x, hx⟩ : ∃ x, p.kids[k]? = some x := ⟨_, List.getElem?_eq_getElem hlt⟩
    have hxk : (p.kids.map (·.key))[k]? = some x.key := by simp [hx]
    refine ⟨k, x, rfl, hx, lt_asymm (hi.lo k _ (Nat.lt_succ_self _) hxk), fun y hy => ?_⟩
    have hyk : (p.kids.map (·.key))[k + 1]? = some y.key := by simp [hy]
    have h1 := hi.hi (k + 1) _ (Nat.le_refl _) hyk
    cases h2 : lt q y.key with
    | true => rfl
    | false => rw [← lt_total h2 h1] at hyk; exact absurd hyk hno
end Go.Proofs.Ytfoolgojcmkdbaa
