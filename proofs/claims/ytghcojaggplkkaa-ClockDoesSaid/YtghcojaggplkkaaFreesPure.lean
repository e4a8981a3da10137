/-
  ClockFrees, in plain Lean.
-/
import Derived.Test.YtghcojaggplkkaaTurnsPure
namespace Go.Proofs.Ytghcojaggplkkaa

/-- How many bytes page q takes. -/
def val (r : List Pg) (q : Nat) : Int := total (r.filter fun p => p.n == (q : Int))
theorem val_cons (p : Pg) (r : List Pg) (q : Nat) : val (p :: r) q = (if p.n = (q : Int) then p.b else 0) + val r q := by
  unfold val
  by_cases h : p.n = (q : Int)
  · rw [List.filter_cons_of_pos (by simpa using h), total_cons, if_pos h]
  · rw [List.filter_cons_of_neg (by simpa using h), if_neg h]
    omega
theorem val_append (r : List Pg) (p : Pg) (q : Nat) : val (r ++ [p]) q = val r q + (if p.n = (q : Int) then p.b else 0) := by
  induction r with
  | nil => rw [List.nil_append, val_cons]; omega
  | cons x r ih => rw [List.cons_append, val_cons, ih, val_cons]; omega
theorem val_erase : ∀ (r : List Pg) (i : Nat) (p : Pg), r[i]? = some p → ∀ q : Nat, val (r.eraseIdx i) q = val r q - (if p.n = (q : Int) then p.b else 0)
  | [], i, p, h, _ => by simp at h
  | x :: r, 0, p, h, q => by
    simp at h
    subst h
    rw [List.eraseIdx_zero, List.tail_cons, val_cons]
    omega
  | x :: r, i + 1, p, h, q => by
    have := val_erase r i p (by simpa using h) q
    rw [List.eraseIdx_cons_succ, val_cons, val_cons, this]
    omega
theorem val_set : ∀ (r : List Pg) (i : Nat) (p p' : Pg), r[i]? = some p → p'.n = p.n → ∀ q : Nat, val (r.set i p') q = val r q + (if p.n = (q : Int) then p'.b - p.b else 0)
  | [], i, p, _, h, _, _ => by simp at h
  | x :: r, 0, p, p', h, hn, q => by
    simp at h
    subst h
    rw [List.set_cons_zero, val_cons, val_cons, hn]
    split <;> omega
  | x :: r, i + 1, p, p', h, hn, q => by
    have := val_set r i p p' (by simpa using h) hn q
    rw [List.set_cons_succ, val_cons, val_cons, this]
    omega
theorem val_none {r : List Pg} {q : Nat} (h : ∀ p ∈ r, p.n ≠ (q : Int)) : val r q = 0 := by
  induction r with
  | nil => rfl
  | cons p r ih =>
    rw [val_cons, if_neg (h p List.mem_cons_self), ih fun x hx => h x (List.mem_cons_of_mem _ hx)]
    rfl
theorem val_mem : ∀ (r : List Pg) (i : Nat) (p : Pg), (r.map (·.n)).Nodup → r[i]? = some p → ∀ q : Nat, p.n = (q : Int) → val r q = p.b
  | [], i, p, _, h, _, _ => by simp at h
  | x :: r, 0, p, hn, h, q, hq => by
    simp at h
    subst h
    rw [val_cons, if_pos hq, val_none fun y hy e => ?_]
    · omega
    · rw [List.map_cons, List.nodup_cons] at hn
      exact hn.1 (List.mem_map.2 ⟨y, hy, e.trans hq.symm⟩)
  | x :: r, i + 1, p, hn, h, q, hq => by
    rw [List.map_cons, List.nodup_cons] at hn
    have h1 : r[i]? = some p := by simpa using h
    rw [val_cons, if_neg (fun e => hn.1 (List.mem_map.2 ⟨p, List.mem_of_getElem? h1, hq.trans e.symm⟩)), val_mem r i p hn.2 h1 q hq]
    omega
theorem val_nonneg {r : List Pg} (h : ∀ p ∈ r, 1 ≤ p.n ∧ p.n ≤ 512 ∧ 1 ≤ p.b ∧ p.b ≤ 1099511627776) (q : Nat) : 0 ≤ val r q := by
  induction r with
  | nil => exact Int.le_refl _
  | cons p r ih =>
    rw [val_cons]
    have h1 := ih fun x hx => h x (List.mem_cons_of_mem _ hx)
    have h2 := h p List.mem_cons_self
    split <;> omega
/-- The bytes of the pages 1 to m. -/
def vs : Nat → List Pg → Int
  | 0, _ => 0
  | m + 1, r => vs m r + val r (m + 1)
theorem vs_cons : ∀ (m : Nat) (p : Pg) (r : List Pg), vs m (p :: r) = vs m r + (if 1 ≤ p.n ∧ p.n ≤ m then p.b else 0)
  | 0, p, r => by
    simp only [vs]
    rw [if_neg (by omega)]
    rfl
  | m + 1, p, r => by
    simp only [vs]
    rw [vs_cons m p r, val_cons]
    by_cases h1 : 1 ≤ p.n ∧ p.n ≤ (m : Int)
    · rw [if_pos h1, if_neg (by push_cast; omega), if_pos (by push_cast; omega)]
      omega
    · rw [if_neg h1]
      by_cases h2 : p.n = ((m + 1 : Nat) : Int)
      · rw [if_pos h2, if_pos (by omega)]
        omega
      · rw [if_neg h2, if_neg (by push_cast at *; omega)]
        omega
theorem vs_nil : ∀ m, vs m [] = 0
  | 0 => rfl
  | m + 1 => by
    show vs m [] + val [] (m + 1) = 0
    rw [vs_nil m]
    rfl
theorem vs_all (r : List Pg) (h : ∀ p ∈ r, 1 ≤ p.n ∧ p.n ≤ 512 ∧ 1 ≤ p.b ∧ p.b ≤ 1099511627776) : vs 512 r = total r := by
  induction r with
  | nil =>
    rw [vs_nil]
    rfl
  | cons p r ih =>
    have h2 := h p List.mem_cons_self
    rw [vs_cons, ih fun x hx => h x (List.mem_cons_of_mem _ hx), total_cons, if_pos (by omega)]
    omega
theorem vs_step {q : Nat} (r : List Pg) (hq : 1 ≤ q) : vs q r = vs (q - 1) r + val r q := by
  obtain ⟨m, rfl⟩ : ∃ m, q = m + 1 := ⟨q - 1, by omega⟩
  rfl
theorem vs_le {r : List Pg} (h : ∀ p ∈ r, 1 ≤ p.n ∧ p.n ≤ 512 ∧ 1 ≤ p.b ∧ p.b ≤ 1099511627776) (m : Nat) : 0 ≤ vs m r ∧ vs m r ≤ vs (m + 1) r := by
  have hv := val_nonneg h (m + 1)
  refine ⟨?_, by simp only [vs]; omega⟩
  induction m with
  | zero => exact Int.le_refl _
  | succ m ih =>
    have := val_nonneg h (m + 1)
    have := ih this
    simp only [vs]
    omega
theorem vs_mono {r : List Pg} (h : ∀ p ∈ r, 1 ≤ p.n ∧ p.n ≤ 512 ∧ 1 ≤ p.b ∧ p.b ≤ 1099511627776) {m k : Nat} (hm : m ≤ k) : vs m r ≤ vs k r := by
  induction k with
  | zero => rw [Nat.le_zero.1 hm]; exact Int.le_refl _
  | succ k ih =>
    rcases Nat.lt_or_ge m (k + 1) with h1 | h1
    · exact Int.le_trans (ih (by omega)) (vs_le h k).2
    · rw [show m = k + 1 by omega]
      exact Int.le_refl _

theorem val_congr {r r' : List Pg} (h1 : r'.map (·.n) = r.map (·.n)) (h2 : r'.map (·.b) = r.map (·.b)) : val r' = val r := by
  funext q
  induction r generalizing r' with
  | nil =>
    have : r' = [] := by simpa using h1
    rw [this]
  | cons p r ih =>
    cases r' with
    | nil => simp at h1
    | cons p' r' =>
      simp only [List.map_cons, List.cons.injEq] at h1 h2
      rw [val_cons, val_cons, ih h1.2 h2.2, h1.1, h2.1]
section
variable {S : Ck}
theorem val_touch (n : Int) : val (S.touch n).ring = val S.ring := by
  unfold Ck.touch
  split
  · rfl
  · next i hi =>
    obtain ⟨p, hp, hn⟩ := idx_some hi
    show val (S.ring.modify i _) = _
    rw [modify_set hp]
    exact val_congr (set_map_same (·.n) _ _ p _ hp rfl) (set_map_same (·.b) _ _ p _ hp rfl)
theorem val_add (h : Good S) {n b : Int} (hok : (S.add n b).1 = 0) : ∃ k : Nat, n = k ∧ 1 ≤ k ∧ k ≤ 512 ∧ (∀ q, val (S.add n b).2.ring q = if q = k then b else val S.ring q) ∧ (S.add n b).2.tot = S.tot + (b - val S.ring k) := by
  unfold Ck.add at hok ⊢
  split at hok
  · cases hok
  · next hc =>
    rw [if_neg hc]
    obtain ⟨k, rfl⟩ : ∃ k : Nat, n = k := Int.eq_ofNat_of_zero_le (by omega)
    refine ⟨k, rfl, by omega, by omega, ?_⟩
    cases hi : idx S.ring (k : Int) with
    | none =>
      have hno := val_none (idxp_none.1 hi)
      simp only
      split
      · next hb =>
        subst hb
        refine ⟨fun q => ?_, by rw [hno]; show S.tot = _; omega⟩
        split
        · next e => rw [e, hno]
        · rfl
      · next hb =>
        refine ⟨fun q => ?_, by rw [hno]; show S.tot + b = _; omega⟩
        show val (S.ring ++ [_]) q = _
        rw [val_append]
        simp only
        by_cases e : q = k
        · subst e
          rw [if_pos rfl, if_pos rfl, hno]
          omega
        · rw [if_neg (by omega), if_neg e]
          omega
    | some i =>
      obtain ⟨p, hp, hn⟩ := idx_some hi
      have hv := val_mem S.ring i p h.ndn hp k hn
      have hpb : pageB S.ring i = p.b := by simp [pageB, hp]
      simp only
      split
      · next hb =>
        subst hb
        refine ⟨fun q => ?_, by show S.tot - pageB S.ring i = _; rw [hpb, hv]; omega⟩
        show val (S.ring.eraseIdx i) q = _
        rw [val_erase _ _ _ hp]
        by_cases e : q = k
        · subst e
          rw [if_pos hn, if_pos rfl, hv]
          omega
        · rw [if_neg (by omega), if_neg e]
          omega
      · next hb =>
        refine ⟨fun q => ?_, by show S.tot + (b - pageB S.ring i) = _; rw [hpb, hv]⟩
        show val (S.ring.modify i _) q = _
        rw [modify_set hp, val_set S.ring i p { p with b := b } hp rfl]
        by_cases e : q = k
        · subst e
          rw [if_pos hn, if_pos rfl, hv]
          show p.b + (b - p.b) = b
          omega
        · rw [if_neg (by omega), if_neg e]
          omega
theorem victim_none (ht : S.tot ≤ S.budget) : S.victim = ((0, false), S.load) := by
  unfold Ck.victim
  rw [if_pos ht]
/-- A page is told and let go. -/
structure Freed (S : Ck) (q : Nat) : Prop where
  q1 : 1 ≤ q
  q2 : q ≤ 512
  v1 : 1 ≤ val S.ring q
  v2 : val S.ring q ≤ S.tot
  res : S.victim.1 = ((q : Int), true)
  goodv : Good S.victim.2
  ok : (S.victim.2.add q 0).1 = 0
  good : Good (S.victim.2.add q 0).2
  budget : (S.victim.2.add q 0).2.budget = S.budget
  len : (S.victim.2.add q 0).2.ring.length + 1 = S.ring.length
  tot : (S.victim.2.add q 0).2.tot = S.tot - val S.ring q
  vals : ∀ j, val (S.victim.2.add q 0).2.ring j = if j = q then 0 else val S.ring j
theorem freed (h : Good S) (hb : 0 ≤ S.budget) (ht : ¬ S.tot ≤ S.budget) : ∃ q, Freed S q := by
  have hh := h.pos hb ht
  have hs := spin_ok S.ring S.hand hh
  obtain ⟨q, hq, h1, h2⟩ := ring_nat h hs.mem
  have hv : S.victim = (((spin S.ring S.hand).1, true), { S.load with ring := (spin S.ring S.hand).2.1, hand := (spin S.ring S.hand).2.2 }) := by
    unfold Ck.victim
    rw [if_neg ht]
  have hgv := h.victim hb
  have hvr : S.victim.2.ring = (spin S.ring S.hand).2.1 := by rw [hv]
  have hvt : S.victim.2.tot = S.tot := by rw [hv]; rfl
  have hvb : S.victim.2.budget = S.budget := by rw [hv]; rfl
  have hval : val S.victim.2.ring = val S.ring := by rw [hvr]; exact val_congr hs.n hs.b
  have hrn : S.victim.2.ring.map (·.n) = S.ring.map (·.n) := by rw [hvr]; exact hs.n
  have hm : (q : Int) ∈ S.victim.2.ring.map (·.n) := by rw [hrn, ← hq]; exact hs.mem
  have ha := add_zero_mem hgv hm
  obtain ⟨k, hk, _, _, hva, hta⟩ := val_add hgv ha.1
  have hkq : k = q := by omega
  subst hkq
  obtain ⟨p, hp, hpn⟩ := List.mem_map.1 (show (k : Int) ∈ S.ring.map (·.n) from hq ▸ hs.mem)
  obtain ⟨i, hi⟩ := List.getElem?_of_mem hp
  have hvk := val_mem S.ring i p h.ndn hi k hpn
  have hpp := h.page p hp
  have hle : val S.ring k ≤ S.tot := by
    have a1 := vs_step S.ring h1
    have a2 := (vs_le h.page (k - 1)).1
    have a3 := vs_mono h.page h2
    rw [vs_all S.ring h.page, ← h.tot] at a3
    omega
  refine ⟨k, h1, h2, by omega, hle, by rw [hv, hq], hgv, ha.1, hgv.add _ _, ?_, by rw [ha.2, len_of_map hrn], by rw [hta, hval, hvt]; omega, fun j => by rw [hva, hval]⟩
  · have : ∀ (T : Ck) (n b : Int), (T.add n b).2.budget = T.budget := by
      intro T n b
      unfold Ck.add
      split
      · rfl
      · split <;> split <;> rfl
    rw [this, hvb]
end
end Go.Proofs.Ytghcojaggplkkaa
