/-
  EpochHolds, without Go: what was retired while a client is in stays; when all are out and the epoch has gone on, all is told.
-/
import Derived.Test.YtbefknaffopeaaaOncePure
import Derived.Test.YtbefknaffopeaaaRisesPure
namespace Go.Proofs.Ytbefknaffopeaaa
open Go.RowKit

structure Hold (S : St) (cl : Nat) (first : Int) (things told k : Nat) : Prop where
  once : Once S things told k
  z : ∀ i : Nat, S.ins[i]? = some false → S.cells[i]? = some 0
  len : S.ins.length = S.cells.length
  held : first = -1 ∨ (0 ≤ first ∧ ∃ E, S.cells[cl]? = some E ∧ E ≠ 0 ∧ E ≤ S.now ∧ S.ins[cl]? = some true ∧ ∀ p ∈ S.waits, first ≤ p.1 → E ≤ p.2)
section
variable {S : St} {cl : Nat} {first : Int} {things told k : Nat}
theorem Hold.start (n cl : Nat) (g : Gho) : Hold ⟨1, List.replicate n 0, List.replicate n false, [], g⟩ cl (-1) 0 0 0 where
  once := Once.start _ _ _
  z := fun i h => by
    obtain ⟨h1, _⟩ := List.getElem?_eq_some_iff.1 h
    simp at h1
    simp [h1]
  len := by simp
  held := .inl rfl
theorem Hold.enterMiss (h : Hold S cl first things told k) {c : Int} (hc : S.at c ≠ some false) : Hold (S.enter c) cl first things told (k + 1) := by
  have h1 := h.once.enter c
  rw [St.enter, if_neg hc] at h1 ⊢
  exact ⟨h1, h.z, h.len, h.held⟩
theorem Hold.exitMiss (h : Hold S cl first things told k) {c : Int} (hc : S.at c ≠ some true) : Hold (S.exit c) cl first things told (k + 1) := by
  have h1 := h.once.exit c
  rw [St.exit, if_neg hc] at h1 ⊢
  exact ⟨h1, h.z, h.len, h.held⟩
theorem enter_hit {j : Nat} (hj : S.ins[j]? = some false) : S.enter j = { S with cells := S.cells.set j S.now, ins := S.ins.set j true, g := (S.g.on Tal.load).on Tal.store } := by
  unfold St.enter
  rw [if_pos (by unfold St.at; rw [if_pos (by omega)]; exact hj)]
  rfl
theorem exit_hit {j : Nat} (hj : S.ins[j]? = some true) : S.exit j = { S with cells := S.cells.set j 0, ins := S.ins.set j false, g := S.g.on Tal.store } := by
  unfold St.exit
  rw [if_pos (by unfold St.at; rw [if_pos (by omega)]; exact hj)]
  rfl
theorem Hold.enterOther (h : Hold S cl first things told k) {j : Nat} (hj : S.ins[j]? = some false) (hne : j ≠ cl) : Hold (S.enter j) cl first things told (k + 1) := by
  have h1 := h.once.enter j
  rw [enter_hit hj] at h1 ⊢
  refine ⟨h1, ?_, by simpa using h.len, ?_⟩
  · intro i hi
    by_cases e : j = i
    · subst e
      have hl := (List.getElem?_eq_some_iff.1 hj).1
      simp [hl] at hi
    · simp only [List.getElem?_set_ne e] at hi ⊢
      exact h.z i hi
  · rcases h.held with h | ⟨h0, E, h1, h2, h3, h4, h5⟩
    · exact .inl h
    · exact .inr ⟨h0, E, by simpa only [List.getElem?_set_ne hne] using h1, h2, h3, by simpa only [List.getElem?_set_ne hne] using h4, h5⟩
theorem Hold.enterSelf (h : Hold S cl first things told k) (hj : S.ins[cl]? = some false) : Hold (S.enter cl) cl things things told (k + 1) := by
  have h1 := h.once.enter cl
  rw [enter_hit hj] at h1 ⊢
  have hl := (List.getElem?_eq_some_iff.1 hj).1
  have hl2 : cl < S.cells.length := by rw [← h.len]; exact hl
  refine ⟨h1, ?_, by simpa using h.len, .inr ⟨by omega, S.now, by simp [hl2], ?_, Int.le_refl _, by simp [hl], ?_⟩⟩
  · intro i hi
    by_cases e : cl = i
    · subst e
      simp [hl] at hi
    · simp only [List.getElem?_set_ne e] at hi ⊢
      exact h.z i hi
  · have := h.once.lo
    omega
  · intro p hp hle
    exfalso
    obtain ⟨i, hi⟩ := List.getElem?_of_mem hp
    have h2 : (S.waits.map (·.1))[i]? = some p.1 := by simp only [List.getElem?_map, hi]; rfl
    rw [h.once.ws] at h2
    have hm := List.mem_of_getElem? h2
    simp only [List.mem_map, List.mem_range'_1] at hm
    obtain ⟨a, ha, hb⟩ := hm
    have := h.once.le
    have hb' : (a : Int) = p.1 := hb
    omega
theorem Hold.exitOther (h : Hold S cl first things told k) {j : Nat} (hj : S.ins[j]? = some true) (hne : j ≠ cl) : Hold (S.exit j) cl first things told (k + 1) := by
  have h1 := h.once.exit j
  rw [exit_hit hj] at h1 ⊢
  have hl := (List.getElem?_eq_some_iff.1 hj).1
  refine ⟨h1, ?_, by simpa using h.len, ?_⟩
  · intro i hi
    by_cases e : j = i
    · subst e
      have hl2 : j < S.cells.length := by rw [← h.len]; exact hl
      simp [hl2]
    · simp only [List.getElem?_set_ne e] at hi ⊢
      exact h.z i hi
  · rcases h.held with h | ⟨h0, E, h1, h2, h3, h4, h5⟩
    · exact .inl h
    · exact .inr ⟨h0, E, by simpa only [List.getElem?_set_ne hne] using h1, h2, h3, by simpa only [List.getElem?_set_ne hne] using h4, h5⟩
theorem Hold.exitSelf (h : Hold S cl first things told k) (hj : S.ins[cl]? = some true) : Hold (S.exit cl) cl (-1) things told (k + 1) := by
  have h1 := h.once.exit cl
  rw [exit_hit hj] at h1 ⊢
  have hl := (List.getElem?_eq_some_iff.1 hj).1
  refine ⟨h1, ?_, by simpa using h.len, .inl rfl⟩
  intro i hi
  by_cases e : cl = i
  · subst e
    have hl2 : cl < S.cells.length := by rw [← h.len]; exact hl
    simp [hl2]
  · simp only [List.getElem?_set_ne e] at hi ⊢
    exact h.z i hi
theorem Hold.retire (h : Hold S cl first things told k) : Hold (S.retire things) cl first (things + 1) told (k + 1) where
  once := h.once.retire
  z := h.z
  len := h.len
  held := by
    rcases h.held with h | ⟨h0, E, h1, h2, h3, h4, h5⟩
    · exact .inl h
    · refine .inr ⟨h0, E, h1, h2, h3, h4, fun p hp hle => ?_⟩
      rcases List.mem_append.1 hp with hp | hp
      · exact h5 p hp hle
      · have : p = ((things : Int), S.now) := by simpa using hp
        subst this
        exact h3
theorem Hold.bump (h : Hold S cl first things told k) (hk : k ≤ 140737488355328) : Hold S.bump cl first things told (k + 1) where
  once := h.once.bump hk
  z := h.z
  len := h.len
  held := by
    rcases h.held with h' | ⟨h0, E, h1, h2, h3, h4, h5⟩
    · exact .inl h'
    · refine .inr ⟨h0, E, h1, h2, ?_, h4, h5⟩
      rw [h.once.now_ok hk]
      omega
theorem Hold.reclaim (h : Hold S cl first things told k) : Hold S.reclaim cl first things (told + S.told.length) (k + 1) where
  once := h.once.reclaim
  z := h.z
  len := h.len
  held := by
    rcases h.held with h | ⟨h0, E, h1, h2, h3, h4, h5⟩
    · exact .inl h
    · exact .inr ⟨h0, E, h1, h2, h3, h4, fun p hp hle => h5 p (List.mem_filter.1 hp).1 hle⟩
/-- What is told was retired ahead of the client's coming. -/
theorem Hold.told_ok (h : Hold S cl first things told k) (m : Nat) (hm : m < S.told.length) : told + m < things ∧ (0 ≤ first → ((told + m : Nat) : Int) < first) := by
  have hle := h.once.told_le
  refine ⟨by omega, fun h0 => ?_⟩
  rcases h.held with h1 | ⟨_, E, h1, h2, h3, h4, h5⟩
  · omega
  · have ht := h.once.told_at m hm
    have hmem := List.mem_of_getElem? ht
    unfold St.told at hmem
    obtain ⟨p, hp, hpe⟩ := List.mem_map.1 hmem
    obtain ⟨hpw, hpo⟩ := List.mem_filter.1 hp
    have hlt : p.2 < safeOf S := by simpa [isOld] using hpo
    have hE : safeOf S ≤ E := safe_cell S (List.mem_of_getElem? h1) h2
    rcases Int.lt_or_le ((told + m : Nat) : Int) first with h6 | h6
    · exact h6
    · have := h5 p hpw (by omega)
      omega

theorem enter_len (S : St) (c : Int) : (S.enter c).ins.length = S.ins.length := by unfold St.enter; split <;> simp
theorem exit_len (S : St) (c : Int) : (S.exit c).ins.length = S.ins.length := by unfold St.exit; split <;> simp

/-- Behind the calls: the clients that are in go out, one by one. -/
structure Outs (S0 S : St) (i : Nat) : Prop where
  waits : S.waits = S0.waits
  now : S.now = S0.now
  z : ∀ i : Nat, S.ins[i]? = some false → S.cells[i]? = some 0
  out : ∀ j : Nat, j < i → S.ins[j]? ≠ some true
  rest : ∀ j : Nat, i ≤ j → S.ins[j]? = S0.ins[j]?
  len : S.ins.length = S.cells.length
  lin : S.ins.length = S0.ins.length
theorem Outs.start (h : Hold S cl first things told k) : Outs S S 0 := ⟨rfl, rfl, h.z, fun _ h => absurd h (by omega), fun _ _ => rfl, h.len, rfl⟩
theorem Outs.skip {S0 S : St} {i : Nat} (h : Outs S0 S i) (hi : S0.ins[i]? = some false) : Outs S0 S (i + 1) where
  waits := h.waits
  now := h.now
  z := h.z
  out := fun j hj => by
    by_cases e : j = i
    · subst e
      rw [h.rest j (Nat.le_refl _), hi]
      simp
    · exact h.out j (by omega)
  rest := fun j hj => h.rest j (by omega)
  len := h.len
  lin := h.lin
theorem Outs.exit {S0 S : St} {i : Nat} (h : Outs S0 S i) (hi : S0.ins[i]? = some true) : S.ins[i]? = some true ∧ Outs S0 (S.exit i) (i + 1) := by
  have hS : S.ins[i]? = some true := by rw [h.rest i (Nat.le_refl _)]; exact hi
  refine ⟨hS, ?_⟩
  have hl := (List.getElem?_eq_some_iff.1 hS).1
  rw [exit_hit hS]
  exact {
    waits := h.waits
    now := h.now
    z := by
      intro j hj
      by_cases e : i = j
      · subst e
        have hl2 : i < S.cells.length := by rw [← h.len]; exact hl
        simp [hl2]
      · simp only [List.getElem?_set_ne e] at hj ⊢
        exact h.z j hj
    out := by
      intro j hj
      by_cases e : i = j
      · subst e
        simp [hl]
      · simp only [List.getElem?_set_ne e]
        exact h.out j (by omega)
    rest := fun j hj => by simp only [List.getElem?_set_ne (show i ≠ j by omega)]; exact h.rest j (by omega)
    len := by simpa using h.len
    lin := by simpa using h.lin }
/-- All are out, and the epoch has gone on: all is told. -/
theorem Outs.all {S0 S : St} {n : Nat} (h : Outs S0 S n) (hn : S0.ins.length = n) (hO : Once S0 things told k) (hk : k ≤ 140737488355328) :
    told + S.bump.told.length = things ∧ S.bump.reclaim.waits = [] ∧ S.bump.reclaim.told = [] ∧ S.bump.waits.length ≤ k := by
  have hO' : Once S things told k := ⟨hO.le, hO.li, by rw [h.waits]; exact hO.ws, by rw [h.waits]; exact hO.srt, by rw [h.waits, h.now]; exact hO.top, by rw [h.now]; exact hO.lo, by rw [h.now]; exact hO.hi⟩
  have hz : ∀ c ∈ S.cells, c = 0 := by
    intro c hc
    obtain ⟨i, hi⟩ := List.getElem?_of_mem hc
    have hil : i < S.ins.length := by rw [h.len]; exact (List.getElem?_eq_some_iff.1 hi).1
    have hb : S.ins[i]? = some S.ins[i] := List.getElem?_eq_getElem hil
    have hno := h.out i (by rw [← hn, ← h.lin]; exact hil)
    cases hh : S.ins[i] with
    | true => rw [hh] at hb; exact absurd hb hno
    | false =>
      rw [hh] at hb
      have := h.z i hb
      rw [hi] at this
      injection this
  have hs : S.bump.now ≤ safeOf S.bump := (le_safe _ _).2 ⟨Int.le_refl _, fun c hc h0 => absurd (hz c hc) h0⟩
  have hnow := hO'.now_ok hk
  have hall : ∀ p ∈ S.waits, isOld (safeOf S.bump) true p = true := by
    intro p hp
    have := hO'.top p hp
    simp [isOld]
    omega
  have hnone : ∀ p ∈ S.waits, ¬ isOld (safeOf S.bump) false p = true := by
    intro p hp
    have := hall p hp
    simp [isOld] at this ⊢
    omega
  have e1 : S.bump.waits.filter (isOld (safeOf S.bump) true) = S.waits := List.filter_eq_self.2 hall
  have e2 : S.bump.reclaim.waits = [] := List.filter_eq_nil_iff.2 hnone
  refine ⟨?_, e2, ?_, ?_⟩
  · unfold St.told
    rw [e1, List.length_map]
    have := hO'.length
    have := hO'.le
    omega
  · unfold St.told
    rw [e2]
    rfl
  · have := hO'.length
    have := hO'.li
    show S.waits.length ≤ k
    omega
end
end Go.Proofs.Ytbefknaffopeaaa
