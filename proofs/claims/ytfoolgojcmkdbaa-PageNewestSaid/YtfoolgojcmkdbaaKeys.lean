/-
  The order of keys, in plain Lean.
-/
import Derived.Test.YtfoolgojcmkdbaaPg
import Derived.Lib.Bytealg
set_option maxHeartbeats 400000
namespace Go.Proofs.Ytfoolgojcmkdbaa
theorem bl_irrefl : ∀ a : List UInt8, Op.bytesLess a a = false
  | [] => rfl
  | x :: a => by
    have := bl_irrefl a
    simp [Op.bytesLess, this]
theorem bl_trans : ∀ a b c : List UInt8, Op.bytesLess a b = true → Op.bytesLess b c = true → Op.bytesLess a c = true
  | [], _, [], _, h => by cases ‹List UInt8› <;> simp [Op.bytesLess] at h
  | [], _, _ :: _, _, _ => by simp [Op.bytesLess]
  | _ :: _, [], _, h, _ => by simp [Op.bytesLess] at h
  | _ :: _, _ :: _, [], _, h => by simp [Op.bytesLess] at h
  | x :: a, y :: b, z :: c, h1, h2 => by
    have ih := bl_trans a b c
    simp only [Op.bytesLess, Bool.or_eq_true, Bool.and_eq_true, decide_eq_true_eq, beq_iff_eq] at h1 h2 ⊢
    rcases h1 with h1 | ⟨rfl, h1⟩
    · rcases h2 with h2 | ⟨rfl, h2⟩
      · exact .inl (UInt8.lt_trans h1 h2)
      · exact .inl h1
    · rcases h2 with h2 | ⟨rfl, h2⟩
      · exact .inl h2
      · exact .inr ⟨rfl, ih h1 h2⟩
theorem bl_total : ∀ a b : List UInt8, Op.bytesLess a b = false → Op.bytesLess b a = false → a = b
  | [], [], _, _ => rfl
  | [], _ :: _, h, _ => by simp [Op.bytesLess] at h
  | _ :: _, [], _, h => by simp [Op.bytesLess] at h
  | x :: a, y :: b, h1, h2 => by
    have ih := bl_total a b
    simp only [Op.bytesLess, Bool.or_eq_false_iff, Bool.and_eq_false_iff, decide_eq_false_iff_not, beq_eq_false_iff_ne] at h1 h2
    have : x = y := UInt8.le_antisymm (UInt8.not_lt.1 h2.1) (UInt8.not_lt.1 h1.1)
    subst this
    rw [ih (by simpa using h1.2) (by simpa using h2.2)]
theorem cmp_bl : ∀ a b : List UInt8, decide (Lib.compareBytes a b < 0) = Op.bytesLess a b ∧ decide (Lib.compareBytes a b = 0) = decide (a = b)
  | [], [] => by simp [Op.bytesLess, Lib.compareBytes]
  | [], _ :: _ => by simp [Op.bytesLess, Lib.compareBytes]
  | _ :: _, [] => by simp [Op.bytesLess, Lib.compareBytes]
  | x :: a, y :: b => by
    have ih := cmp_bl a b
    unfold Lib.compareBytes Op.bytesLess
    by_cases h : x < y
    · have : x ≠ y := fun e => by subst e; exact UInt8.lt_irrefl _ h
      simp [h, this]
    · by_cases h' : y < x
      · have : x ≠ y := fun e => by subst e; exact UInt8.lt_irrefl _ h'
        simp [h, h', this]
      · have : x = y := UInt8.le_antisymm (UInt8.not_lt.1 h') (UInt8.not_lt.1 h)
        subst this
        simp [ih.1, ih.2]
theorem toList_inj {a b : ByteArray} (h : a.toList = b.toList) : a = b := by
  rw [Lib.toList_data, Lib.toList_data] at h
  cases a; cases b
  simpa [Array.toList_inj] using h
theorem beq_toList (a b : ByteArray) : (a.toList == b.toList) = decide (a = b) := by
  by_cases h : a = b
  · subst h; simp
  · have : a.toList ≠ b.toList := fun e => h (toList_inj e)
    simp [h, this]
theorem lt_irrefl (a : ByteArray) : lt a a = false := bl_irrefl _
theorem lt_trans {a b c : ByteArray} (h1 : lt a b = true) (h2 : lt b c = true) : lt a c = true := bl_trans _ _ _ h1 h2
theorem lt_total {a b : ByteArray} (h1 : lt a b = false) (h2 : lt b a = false) : a = b := toList_inj (bl_total _ _ h1 h2)
theorem lt_asymm {a b : ByteArray} (h : lt a b = true) : lt b a = false := by
  cases h2 : lt b a with
  | false => rfl
  | true => rw [← lt_irrefl a, ← lt_trans h h2]
theorem lt_ne {a b : ByteArray} (h : lt a b = true) : a ≠ b := fun e => by rw [e, lt_irrefl] at h; cases h
theorem le_lt {a b c : ByteArray} (h1 : lt b a = false) (h2 : lt b c = true) : lt a c = true := by
  cases h3 : lt a b with
  | true => exact lt_trans h3 h2
  | false => rw [lt_total h3 h1]; exact h2
theorem lt_le {a b c : ByteArray} (h1 : lt a b = true) (h2 : lt c b = false) : lt a c = true := by
  cases h3 : lt b c with
  | true => exact lt_trans h1 h3
  | false => rw [← lt_total h3 h2]; exact h1
theorem cmp_lt (a b : ByteArray) : decide (Lib.compareBytes a.data.toList b.data.toList < 0) = lt a b := by
  unfold lt
  rw [(cmp_bl _ _).1, Lib.toList_data, Lib.toList_data]
theorem cmp_zero (a b : ByteArray) : decide (Lib.compareBytes a.data.toList b.data.toList = 0) = decide (a = b) := by
  rw [(cmp_bl _ _).2, ← Lib.toList_data, ← Lib.toList_data, ← beq_toList]
  by_cases h : a.toList = b.toList <;> simp [h]

theorem sorted_step {l : List ByteArray} {k : Nat} {x : ByteArray} (h : Sorted (l.take k)) (hx : l[k]? = some x) (hp : ∀ j a, j + 1 = k → l[j]? = some a → lt a x = true) : Sorted (l.take (k + 1)) := by
  have hk := (List.getElem?_eq_some_iff.1 hx).1
  rw [List.take_add_one, hx]
  unfold Sorted
  refine List.pairwise_append.2 ⟨h, by simp, fun a ha b hb => ?_⟩
  have : b = x := by simpa using hb
  subst this
  cases k with
  | zero => simp at ha
  | succ j =>
    obtain ⟨y, hy⟩ : ∃ y, l[j]? = some y := ⟨_, List.getElem?_eq_getElem (by omega)⟩
    have hyx := hp j y rfl hy
    rw [List.take_add_one, hy] at ha h
    rcases List.mem_append.1 ha with h1 | h1
    · exact lt_trans ((List.pairwise_append.1 h).2.2 a h1 y (by simp)) hyx
    · have : a = y := by simpa using h1
      subst this
      exact hyx
theorem sorted_not {l : List ByteArray} {k : Nat} {a x : ByteArray} (ha : l[k]? = some a) (hx : l[k + 1]? = some x) (h : lt a x = false) : ¬ Sorted l := fun hs => by
  obtain ⟨h1, rfl⟩ := List.getElem?_eq_some_iff.1 ha
  obtain ⟨h2, rfl⟩ := List.getElem?_eq_some_iff.1 hx
  have := (List.pairwise_iff_getElem.1 hs) k (k + 1) h1 h2 (Nat.lt_succ_self _)
  rw [h] at this
  cases this
theorem rising_no1 {p : Page} {l : List ByteArray} {k : Nat} {a x : ByteArray} (ha : l[k]? = some a) (hx : l[k + 1]? = some x) (h : lt a x = false) : rising p l = false := by
  unfold rising
  rw [decide_eq_false (sorted_not ha hx h)]
  rfl
theorem rising_no2 {p : Page} {l : List ByteArray} {k : Nat} {x : ByteArray} (hx : l[k]? = some x) (h : covers p x = false) : rising p l = false := by
  have : l.all (covers p) = false := by
    rw [List.all_eq_false]
    exact ⟨x, List.mem_of_getElem? hx, by rw [h]; exact Bool.false_ne_true⟩
  unfold rising
  rw [this, Bool.and_false]
theorem rising_yes {p : Page} {l : List ByteArray} (hs : Sorted l) (hc : ∀ (j : Nat) x, l[j]? = some x → covers p x = true) : rising p l = true := by
  have : l.all (covers p) = true := by
    rw [List.all_eq_true]
    intro x hx
    obtain ⟨j, hj⟩ := List.getElem?_of_mem hx
    exact hc j x hj
  unfold rising
  rw [this, decide_eq_true hs]
  rfl

/-- The place of q among keys that rise; whether it is there. -/
structure At (ks : List ByteArray) (q : ByteArray) (i : Nat) (f : Bool) : Prop where
  le : i ≤ ks.length
  lo : ∀ j k, j < i → ks[j]? = some k → lt k q = true
  hi : ∀ j k, i ≤ j → ks[j]? = some k → lt k q = false
  is : f = decide (ks[i]? = some q)
theorem At.same {ks : List ByteArray} {q : ByteArray} {i i' : Nat} {f f' : Bool} (h : At ks q i f) (h' : At ks q i' f') : i = i' ∧ f = f' := by
  have hle : ∀ {i i' : Nat} {f f' : Bool}, At ks q i f → At ks q i' f' → i ≤ i' := fun {i i' f f'} h h' => by
    rcases Nat.lt_or_ge i' i with hlt | hge
    · obtain ⟨k, hk⟩ : ∃ k, ks[i']? = some k := ⟨_, List.getElem?_eq_getElem (by have := h.le; omega)⟩
      have h1 := h.lo i' k hlt hk
      rw [h'.hi i' k (Nat.le_refl _) hk] at h1
      cases h1
    · exact hge
  have e : i = i' := Nat.le_antisymm (hle h h') (hle h' h)
  subst e
  exact ⟨rfl, by rw [h.is, h'.is]⟩
end Go.Proofs.Ytfoolgojcmkdbaa
