/-
  What Put does with a page, in plain Lean; in which order items are put does not matter.
-/
import Derived.Test.YtfoolgojcmkdbaaCheckLaws
set_option maxHeartbeats 400000
namespace Go.Proofs.Ytfoolgojcmkdbaa
/-- Of two items with one key the newer one stays. -/
def up (y x : Item) : Item := if x.no ≤ y.no then y else x
/-- The list with an item. -/
def putF : List Item → Item → List Item
  | [], x => [x]
  | y :: l, x => if lt x.key y.key = true then x :: y :: l else if lt y.key x.key = true then y :: putF l x else up y x :: l
theorem put_lt {x y : Item} (l : List Item) (h : lt x.key y.key = true) : putF (y :: l) x = x :: y :: l := by simp [putF, h]
theorem put_gt {x y : Item} (l : List Item) (h : lt y.key x.key = true) : putF (y :: l) x = y :: putF l x := by simp [putF, h, lt_asymm h]
theorem put_eq {x y : Item} (l : List Item) (h : x.key = y.key) : putF (y :: l) x = up y x :: l := by simp [putF, h, lt_irrefl]
theorem tri (a b : ByteArray) : lt a b = true ∨ a = b ∨ lt b a = true := by
  cases h1 : lt a b with
  | true => exact .inl rfl
  | false => cases h2 : lt b a with
    | true => exact .inr (.inr rfl)
    | false => exact .inr (.inl (lt_total h1 h2))
theorem up_key {y x : Item} (h : x.key = y.key) : (up y x).key = y.key := by
  unfold up
  split
  · rfl
  · exact h
theorem up_comm {a b : Item} (h : a.no ≠ b.no) : up a b = up b a := by
  unfold up
  split <;> split <;> first | rfl | omega
theorem up_up {a b : Item} (y : Item) (h : a.no ≠ b.no) : up (up y a) b = up (up y b) a := by
  unfold up
  by_cases h1 : a.no ≤ y.no <;> by_cases h2 : b.no ≤ y.no <;> simp only [h1, h2, if_true, if_false]
  · rw [if_pos (by omega)]
  · rw [if_pos (by omega)]
  · split <;> split <;> first | rfl | omega
theorem putF_comm (a b : Item) (hab : a.no ≠ b.no) : ∀ l : List Item, putF (putF l a) b = putF (putF l b) a
  | [] => by
    simp only [putF]
    cases h1 : lt a.key b.key <;> cases h2 : lt b.key a.key
    · simp only [Bool.false_eq_true, if_false]
      rw [up_comm hab]
    · simp
    · simp
    · rw [lt_asymm h1] at h2
      cases h2
  | y :: l => by
    have ih := putF_comm a b hab l
    rcases tri a.key y.key with ay | ay | ay <;> rcases tri b.key y.key with bY | bY | bY
    · rw [put_lt l ay, put_lt l bY]
      rcases tri a.key b.key with h | h | h
      · rw [put_gt _ h, put_lt _ h, put_lt _ bY]
      · rw [put_eq _ h, put_eq _ h.symm, up_comm hab]
      · rw [put_gt _ h, put_lt _ h, put_lt _ ay]
    · rw [put_lt l ay, put_eq l bY, put_gt _ (by rw [bY]; exact ay), put_eq _ bY, put_lt _ (by rw [up_key bY]; exact ay)]
    · rw [put_lt l ay, put_gt l bY, put_gt _ (lt_trans ay bY), put_gt _ bY, put_lt _ ay]
    · rw [put_eq l ay, put_lt l bY, put_lt _ (by rw [up_key ay]; exact bY), put_gt _ (by rw [ay]; exact bY), put_eq _ ay]
    · rw [put_eq l ay, put_eq l bY, put_eq _ (by rw [up_key ay]; exact bY), put_eq _ (by rw [up_key bY]; exact ay), up_up y hab]
    · rw [put_eq l ay, put_gt l bY, put_gt _ (by rw [up_key ay]; exact bY), put_eq _ ay]
    · rw [put_gt l ay, put_lt l bY, put_lt _ bY, put_gt _ (lt_trans bY ay), put_gt _ ay]
    · rw [put_gt l ay, put_eq l bY, put_eq _ bY, put_gt _ (by rw [up_key bY]; exact ay)]
    · rw [put_gt l ay, put_gt l bY, put_gt _ bY, put_gt _ ay, ih]
/-- Behind the place of its key: a new item. -/
theorem putF_new : ∀ {l : List Item} {x : Item} {i : Nat}, At (l.map (·.key)) x.key i false → putF l x = l.take i ++ x :: l.drop i
  | [], x, i, _ => by simp [putF]
  | y :: l, x, 0, h => by
    have h1 := h.hi 0 y.key (Nat.le_refl _) rfl
    have h2 := h.is
    have h3 : y.key ≠ x.key := by simpa using h2
    rcases tri x.key y.key with h4 | h4 | h4
    · rw [put_lt l h4]
      rfl
    · exact absurd h4.symm h3
    · rw [h4] at h1
      cases h1
  | y :: l, x, i + 1, h => by
    have h1 := h.lo 0 y.key (Nat.succ_pos _) rfl
    have h2 : At (l.map (·.key)) x.key i false := ⟨by have := h.le; simp at this ⊢; omega, fun j k hj hk => h.lo (j + 1) k (by omega) (by simpa using hk), fun j k hj hk => h.hi (j + 1) k (by omega) (by simpa using hk), by have := h.is; simpa using this⟩
    rw [put_gt l h1, putF_new h2]
    rfl
theorem putF_old : ∀ {l : List Item} {x y : Item} {i : Nat}, At (l.map (·.key)) x.key i true → l[i]? = some y → putF l x = l.set i (up y x)
  | [], x, y, i, _, hy => by simp at hy
  | z :: l, x, y, 0, h, hy => by
    have e : z = y := by simpa using hy
    subst e
    have h2 := h.is
    have h3 : z.key = x.key := by simpa using h2
    rw [put_eq l h3.symm]
    rfl
  | z :: l, x, y, i + 1, h, hy => by
    have h1 := h.lo 0 z.key (Nat.succ_pos _) rfl
    have h2 : At (l.map (·.key)) x.key i true := ⟨by have := h.le; simp at this ⊢; omega, fun j k hj hk => h.lo (j + 1) k (by omega) (by simpa using hk), fun j k hj hk => h.hi (j + 1) k (by omega) (by simpa using hk), by have := h.is; simpa using this⟩
    rw [put_gt l h1, putF_old h2 (by simpa using hy)]
    rfl
/-- The keys of a list with an item. -/
theorem mem_put {l : List Item} {x z : Item} (h : z ∈ putF l x) : z ∈ l ∨ z = x := by
  induction l with
  | nil => exact .inr (by simpa [putF] using h)
  | cons y l ih =>
    rcases tri x.key y.key with h1 | h1 | h1
    · rw [put_lt l h1] at h
      rcases List.mem_cons.1 h with h | h
      · exact .inr h
      · exact .inl h
    · rw [put_eq l h1] at h
      rcases List.mem_cons.1 h with h | h
      · unfold up at h
        split at h
        · exact .inl (by rw [h]; exact List.mem_cons_self)
        · exact .inr h
      · exact .inl (List.mem_cons_of_mem _ h)
    · rw [put_gt l h1] at h
      rcases List.mem_cons.1 h with h | h
      · exact .inl (by rw [h]; exact List.mem_cons_self)
      · rcases ih h with h | h
        · exact .inl (List.mem_cons_of_mem _ h)
        · exact .inr h
theorem sorted_put {l : List Item} {x : Item} (h : Sorted (l.map (·.key))) : Sorted ((putF l x).map (·.key)) := by
  induction l with
  | nil => simp [putF, Sorted]
  | cons y l ih =>
    have hp := List.pairwise_cons.1 h
    rcases tri x.key y.key with h1 | h1 | h1
    · rw [put_lt l h1]
      refine List.pairwise_cons.2 ⟨fun k hk => ?_, h⟩
      rcases List.mem_cons.1 hk with rfl | hk
      · exact h1
      · exact lt_trans h1 (hp.1 k hk)
    · rw [put_eq l h1]
      refine List.pairwise_cons.2 ⟨fun k hk => ?_, hp.2⟩
      show lt (up y x).key k = true
      rw [up_key h1]
      exact hp.1 k hk
    · rw [put_gt l h1]
      refine List.pairwise_cons.2 ⟨fun k hk => ?_, ih hp.2⟩
      obtain ⟨z, hz, rfl⟩ := List.mem_map.1 hk
      rcases mem_put hz with hz | rfl
      · exact hp.1 _ (List.mem_map_of_mem hz)
      · exact h1
theorem len_put (l : List Item) (x : Item) : (putF l x).length ≤ l.length + 1 ∧ l.length ≤ (putF l x).length := by
  induction l with
  | nil => simp [putF]
  | cons y l ih =>
    rcases tri x.key y.key with h1 | h1 | h1
    · rw [put_lt l h1]; simp
    · rw [put_eq l h1]; simp
    · rw [put_gt l h1]; simp; omega
/-- Whether a page takes an item. -/
def takes (p : Page) (x : Item) : Bool := !(badItem x) && (decide (p.level = 0) && covers p x.key)
/-- A page, with whatever it takes of a list. -/
def putAll (p : Page) (l : List Item) (xs : List Item) : List Item := xs.foldl (fun l x => if takes p x = true then putF l x else l) l
theorem putAll_snoc (p : Page) (l xs : List Item) (x : Item) : putAll p l (xs ++ [x]) = if takes p x = true then putF (putAll p l xs) x else putAll p l xs := by
  unfold putAll
  rw [List.foldl_append]
  rfl
theorem put1_comm (p : Page) (a b : Item) (h : a.no ≠ b.no) (l : List Item) :
    (if takes p b = true then putF (if takes p a = true then putF l a else l) b else (if takes p a = true then putF l a else l)) = if takes p a = true then putF (if takes p b = true then putF l b else l) a else (if takes p b = true then putF l b else l) := by
  by_cases h1 : takes p a = true <;> by_cases h2 : takes p b = true <;> simp only [h1, h2, if_true, if_false, Bool.false_eq_true]
  · exact putF_comm a b h l
theorem putAll_front (p : Page) (a : Item) : ∀ (xs : List Item) (l : List Item), (∀ b ∈ xs, a.no ≠ b.no) → putAll p (if takes p a = true then putF l a else l) xs = if takes p a = true then putF (putAll p l xs) a else putAll p l xs
  | [], l, _ => rfl
  | b :: xs, l, h => by
    show putAll p (if takes p b = true then putF (if takes p a = true then putF l a else l) b else (if takes p a = true then putF l a else l)) xs = _
    rw [put1_comm p a b (h b List.mem_cons_self), putAll_front p a xs _ (fun b hb => h b (List.mem_cons_of_mem _ hb))]
    rfl
/-- The order does not matter. -/
theorem putAll_reverse (p : Page) : ∀ (xs : List Item) (l : List Item), xs.Pairwise (fun a b => a.no ≠ b.no) → putAll p l xs.reverse = putAll p l xs
  | [], _, _ => rfl
  | a :: xs, l, h => by
    have hp := List.pairwise_cons.1 h
    rw [List.reverse_cons, putAll_snoc, putAll_reverse p xs l hp.2]
    show _ = putAll p (if takes p a = true then putF l a else l) xs
    rw [putAll_front p a xs l hp.1]
end Go.Proofs.Ytfoolgojcmkdbaa
