/-
  EpochDoes, in plain Lean: what stays so, call by call.
-/
import Derived.Test.YtbefknaffopeaaaRefC
namespace Go.Proofs.Ytbefknaffopeaaa
open Go.RowKit
/-- Behind k calls. -/
structure Does (S : St) (k kc : Nat) : Prop where
  ok : InOk S
  len : S.waits.length ≤ k
  hi : S.now ≤ 1 + k
  cnt : S.g = some (kc, S.tal)
theorem does_cnt_on {S S' : St} {c : Nat} (hc : S.g = some (c, S.tal)) (f : Tal → Tal) (h' : S'.g = S.g.on f) : S'.g = some (c, S'.tal) := by
  have : S'.g = some (c, f S.tal) := by rw [h', hc]; rfl
  rw [this]
  simp [St.tal, this]
section
variable {S : St} {k kc : Nat}
theorem Does.start (n : Nat) (c : Nat) (h1 : n ≤ 64) : Does ⟨1, List.replicate n 0, List.replicate n false, [], some (c, Tal.zero)⟩ 0 c where
  ok := {
    len := by simp
    zero := fun i hi => by
      simp only [List.getElem?_replicate] at hi ⊢
      split at hi
      · next h => rw [if_pos h]
      · cases hi
    one := fun i hi => by
      simp only [List.getElem?_replicate] at hi
      split at hi <;> cases hi
    now := by simp
    le := by simpa using h1 }
  len := by simp
  hi := by simp
  cnt := rfl
theorem Does.enter (h : Does S k kc) (c : Int) : Does (S.enter c) (k + 1) kc := by
  have h1 := h.len
  have h2 := h.hi
  unfold St.enter
  split
  · next hc =>
    obtain ⟨j, rfl, hj⟩ := St.at_lt hc
    have hz := h.ok.zero j hj
    have e : (j : Int).toNat = j := by simp
    rw [e]
    exact {
      ok := {
        len := by simp [h.ok.len]
        zero := fun i hi => by
          simp only [List.getElem?_set] at hi ⊢
          split at hi
          · split at hi <;> cases hi
          · next hne => rw [if_neg hne]; exact h.ok.zero i hi
        one := fun i hi => by
          simp only [List.getElem?_set] at hi ⊢
          split at hi
          · next he =>
            subst he
            have := (List.getElem?_eq_some_iff.1 hz).1
            rw [if_pos rfl, if_pos this]
            exact ⟨S.now, rfl, by have := h.ok.now; omega⟩
          · next hne => rw [if_neg hne]; exact h.ok.one i hi
        now := h.ok.now
        le := by simpa using h.ok.le }
      len := by show S.waits.length ≤ k + 1; omega
      hi := by show S.now ≤ 1 + ((k + 1 : Nat) : Int); push_cast; omega
      cnt := does_cnt_on (S := { S with g := S.g.on Tal.load }) (does_cnt_on h.cnt Tal.load rfl) Tal.store rfl }
  · exact ⟨h.ok, by omega, by push_cast; omega, h.cnt⟩
theorem Does.exit (h : Does S k kc) (c : Int) : Does (S.exit c) (k + 1) kc := by
  have h1 := h.len
  have h2 := h.hi
  unfold St.exit
  split
  · next hc =>
    obtain ⟨j, rfl, hj⟩ := St.at_lt hc
    obtain ⟨x, hz, _⟩ := h.ok.one j hj
    have e : (j : Int).toNat = j := by simp
    rw [e]
    exact {
      ok := {
        len := by simp [h.ok.len]
        zero := fun i hi => by
          simp only [List.getElem?_set] at hi ⊢
          split at hi
          · next he =>
            subst he
            have := (List.getElem?_eq_some_iff.1 hz).1
            rw [if_pos rfl, if_pos this]
          · next hne => rw [if_neg hne]; exact h.ok.zero i hi
        one := fun i hi => by
          simp only [List.getElem?_set] at hi ⊢
          split at hi
          · split at hi <;> cases hi
          · next hne => rw [if_neg hne]; exact h.ok.one i hi
        now := h.ok.now
        le := by simpa using h.ok.le }
      len := by show S.waits.length ≤ k + 1; omega
      hi := by show S.now ≤ 1 + ((k + 1 : Nat) : Int); push_cast; omega
      cnt := does_cnt_on h.cnt Tal.store rfl }
  · exact ⟨h.ok, by omega, by push_cast; omega, h.cnt⟩
theorem Does.retire (h : Does S k kc) (n : Int) : Does (S.retire n) (k + 1) kc where
  ok := ⟨h.ok.len, h.ok.zero, h.ok.one, h.ok.now, h.ok.le⟩
  len := by have := h.len; show (S.waits ++ [_]).length ≤ _; simp; omega
  hi := by have := h.hi; show S.now ≤ 1 + ((k + 1 : Nat) : Int); push_cast; omega
  cnt := does_cnt_on h.cnt Tal.load rfl
theorem Does.bump (h : Does S k kc) (hk : k ≤ 140737488355328) : Does S.bump (k + 1) kc := by
  have h1 := h.ok.now
  have h2 := h.hi
  have e : S.bump.now = S.now + 1 := by show wrap64 (S.now + 1) = _; unfold wrap64; omega
  exact {
    ok := ⟨h.ok.len, h.ok.zero, h.ok.one, by rw [e]; omega, h.ok.le⟩
    len := by have := h.len; show S.waits.length ≤ _; omega
    hi := by rw [e]; push_cast; omega
    cnt := does_cnt_on h.cnt Tal.add rfl }
theorem does_cnt_ons {S' : St} {c : Nat} (hc : S.g = some (c, S.tal)) (n : Nat) (h' : S'.g = (S.g.on Tal.load).ons n) : S'.g = some (c, S'.tal) := by
  have : S'.g = some (c, S.tal.many n) := by rw [h', hc, ons_eq]
  rw [this]
  simp [St.tal, this]
theorem Does.asked (h : Does S k kc) : Does S.asked (k + 1) kc where
  ok := ⟨h.ok.len, h.ok.zero, h.ok.one, h.ok.now, h.ok.le⟩
  len := by have := h.len; show S.waits.length ≤ _; omega
  hi := by have := h.hi; show S.now ≤ 1 + ((k + 1 : Nat) : Int); push_cast; omega
  cnt := does_cnt_ons h.cnt _ rfl
theorem Does.reclaim (h : Does S k kc) : Does S.reclaim (k + 1) kc where
  ok := ⟨h.ok.len, h.ok.zero, h.ok.one, h.ok.now, h.ok.le⟩
  len := by have := h.len; have h2 := List.length_filter_le (isOld (safeOf S) false) S.waits; show (S.waits.filter _).length ≤ _; omega
  hi := by have := h.hi; show S.now ≤ 1 + ((k + 1 : Nat) : Int); push_cast; omega
  cnt := does_cnt_ons h.cnt _ rfl
theorem Does.skip (h : Does S k kc) : Does S (k + 1) kc := ⟨h.ok, by have := h.len; omega, by have := h.hi; push_cast; omega, h.cnt⟩
end
end Go.Proofs.Ytbefknaffopeaaa
