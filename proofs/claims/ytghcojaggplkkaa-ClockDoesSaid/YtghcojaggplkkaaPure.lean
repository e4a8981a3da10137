/-
  A clock in plain Lean: what its calls do, and what stays so.
-/
import Derived.Test.YtghcojaggplkkaaSpin
import Derived.Test.YtghcojaggplkkaaLeaves
namespace Go.Proofs.Ytghcojaggplkkaa

/-! ### The ring -/
theorem idxp_none {r : List Pg} {n : Int} : idx r n = none ↔ ∀ p ∈ r, p.n ≠ n := by
  unfold idx
  rw [List.findIdx?_eq_none_iff]
  constructor
  · intro h p hp e
    have := h p hp
    simp [e] at this
  · intro h p hp
    simpa using fun e => h p hp e.symm
theorem idx_some {r : List Pg} {n : Int} {i : Nat} (h : idx r n = some i) : ∃ p, r[i]? = some p ∧ p.n = n := by
  obtain ⟨hi, hpi, _⟩ := List.findIdx?_eq_some_iff_getElem.1 h
  exact ⟨r[i], List.getElem?_eq_getElem hi, (beq_iff_eq.1 hpi).symm⟩
theorem total_append (a b : List Pg) : total (a ++ b) = total a + total b := by simp [total]
theorem total_cons (p : Pg) (b : List Pg) : total (p :: b) = p.b + total b := by simp [total]
theorem total_erase : ∀ (r : List Pg) (i : Nat) (p : Pg), r[i]? = some p → total (r.eraseIdx i) = total r - p.b
  | [], i, p, h => by simp at h
  | q :: r, 0, p, h => by
    simp at h
    subst h
    simp [total_cons]
    omega
  | q :: r, i + 1, p, h => by
    have := total_erase r i p (by simpa using h)
    simp only [List.eraseIdx_cons_succ, total_cons, this]
    omega
theorem total_set : ∀ (r : List Pg) (i : Nat) (p q : Pg), r[i]? = some p → total (r.set i q) = total r + (q.b - p.b)
  | [], i, p, q, h => by simp at h
  | x :: r, 0, p, q, h => by
    simp at h
    subst h
    simp [total_cons]
    omega
  | x :: r, i + 1, p, q, h => by
    have := total_set r i p q (by simpa using h)
    simp only [List.set_cons_succ, total_cons, this]
    omega
theorem total_bounds : ∀ (r : List Pg), (∀ p ∈ r, 1 ≤ p.n ∧ p.n ≤ 512 ∧ 1 ≤ p.b ∧ p.b ≤ 1099511627776) → (r.length : Int) ≤ total r ∧ total r ≤ r.length * 1099511627776
  | [], _ => by simp [total]
  | p :: r, h => by
    have h1 := total_bounds r fun q hq => h q (List.mem_cons_of_mem _ hq)
    have h2 := h p List.mem_cons_self
    rw [total_cons]
    simp only [List.length_cons]
    push_cast
    omega
/-- Unlike numbers of 1 to m are m at most. -/
theorem nodup_len : ∀ (m : Nat) (l : List Int), l.Nodup → (∀ x ∈ l, 1 ≤ x ∧ x ≤ m) → l.length ≤ m
  | 0, l, _, h => by
    cases l with
    | nil => simp
    | cons x l => have := h x List.mem_cons_self; omega
  | m + 1, l, hn, h => by
    have h1 := nodup_len m (l.erase ((m + 1 : Nat) : Int)) (hn.erase _) fun x hx => by
      rw [hn.mem_erase_iff] at hx
      have := h x hx.2
      omega
    have h2 : l.length ≤ (l.erase ((m + 1 : Nat) : Int)).length + 1 := by
      rw [List.length_erase]
      split <;> omega
    omega

section
variable {S : Ck}
theorem Good.len (h : Good S) : S.ring.length ≤ 512 := by
  have := nodup_len 512 (S.ring.map (·.n)) h.ndn fun x hx => by
    obtain ⟨p, hp, rfl⟩ := List.mem_map.1 hx
    have := h.page p hp
    omega
  simpa using this
theorem Good.tot_le (h : Good S) : 0 ≤ S.tot ∧ S.tot ≤ 562949953421312 ∧ (S.ring.length : Int) ≤ S.tot := by
  have h1 := total_bounds S.ring h.page
  have h2 := h.len
  have h3 := h.tot
  omega
theorem Good.hand_le (h : Good S) : S.hand ≤ 512 := by
  have := h.len
  rcases h.hand with h1 | h1 <;> omega

def pageB (r : List Pg) (i : Nat) : Int := match r[i]? with | some p => p.b | none => 0
/-- Add: its answer, and the clock behind it. -/
def Ck.add (S : Ck) (n b : Int) : Int × Ck :=
  if n < 1 ∨ 512 < n ∨ b < 0 ∨ 1099511627776 < b then (1, S)
  else match idx S.ring n with
    | none => if b = 0 then (0, S) else (0, { S with tot := S.tot + b, ring := S.ring ++ [⟨n, b, true⟩], g := S.g.on Tal.add })
    | some i => if b = 0 then (0, { S with tot := S.tot - pageB S.ring i, ring := S.ring.eraseIdx i, hand := dropHand S.ring.length S.hand i, g := S.g.on Tal.add })
      else (0, { S with tot := S.tot + (b - pageB S.ring i), ring := S.ring.modify i (fun p => { p with b := b }), g := S.g.on Tal.add })
def Ck.touch (S : Ck) (n : Int) : Ck := match idx S.ring n with
  | none => S
  | some i => { S with ring := S.ring.modify i (fun p => { p with m := true }) }
def Ck.load (S : Ck) : Ck := { S with g := S.g.on Tal.load }
def Ck.victim (S : Ck) : (Int × Bool) × Ck :=
  if S.tot ≤ S.budget then ((0, false), S.load) else (((spin S.ring S.hand).1, true), { S.load with ring := (spin S.ring S.hand).2.1, hand := (spin S.ring S.hand).2.2 })

theorem modify_set {r : List Pg} {i : Nat} {p : Pg} (hp : r[i]? = some p) (f : Pg → Pg) : r.modify i f = r.set i (f p) := by
  apply List.ext_getElem? fun j => ?_
  rw [List.getElem?_modify, List.getElem?_set]
  obtain ⟨hl, he⟩ := List.getElem?_eq_some_iff.1 hp
  split
  · next e =>
    subst e
    simp [hl, he]
  · next e => simp
theorem Good.set (h : Good S) {i : Nat} {p q : Pg} (hp : S.ring[i]? = some p) (hn : q.n = p.n) (hb : 1 ≤ q.b ∧ q.b ≤ 1099511627776) (g : Gho) : Good { S with tot := S.tot + (q.b - p.b), ring := S.ring.set i q, g := g } where
  page := fun x hx => by
    rcases List.mem_or_eq_of_mem_set hx with hx | rfl
    · exact h.page x hx
    · have := h.page p (List.mem_of_getElem? hp)
      omega
  ndn := by
    obtain ⟨hil, hpe⟩ := List.getElem?_eq_some_iff.1 hp
    have e : (S.ring.set i q).map (·.n) = S.ring.map (·.n) := by
      rw [List.map_set, hn]
      apply List.ext_getElem? fun k => ?_
      rw [List.getElem?_set]
      split
      · next e => subst e; simp [hil, hpe]
      · rfl
    show ((S.ring.set i q).map (·.n)).Nodup
    rw [e]
    exact h.ndn
  hand := by
    show S.hand < (S.ring.set i q).length ∨ (S.ring.set i q = [] ∧ S.hand = 0)
    rw [List.length_set]
    rcases h.hand with h1 | h1
    · exact .inl h1
    · exact .inr (by simp [h1])
  tot := by
    show S.tot + (q.b - p.b) = total (S.ring.set i q)
    rw [total_set _ _ _ _ hp, h.tot]
theorem dropHand_ok {len hand i : Nat} (h : hand < len) (_ : i < len) : dropHand len hand i < len - 1 ∨ (len = 1 ∧ dropHand len hand i = 0) := by
  unfold dropHand
  simp only
  split <;> split <;> omega
theorem Good.drop (h : Good S) {i : Nat} {p : Pg} (hp : S.ring[i]? = some p) (g : Gho) : Good { S with tot := S.tot - p.b, ring := S.ring.eraseIdx i, hand := dropHand S.ring.length S.hand i, g := g } where
  page := fun x hx => h.page x (List.mem_of_mem_eraseIdx hx)
  ndn := by
    show ((S.ring.eraseIdx i).map (·.n)).Nodup
    rw [← eraseIdx_map']
    exact h.ndn.eraseIdx i
  hand := by
    have hil := (List.getElem?_eq_some_iff.1 hp).1
    have hh : S.hand < S.ring.length := by
      rcases h.hand with h1 | ⟨h1, _⟩
      · exact h1
      · rw [h1] at hil; simp at hil
    show dropHand S.ring.length S.hand i < (S.ring.eraseIdx i).length ∨ (S.ring.eraseIdx i = [] ∧ _)
    rw [List.length_eraseIdx, if_pos hil]
    rcases dropHand_ok hh hil with h1 | ⟨h1, h2⟩
    · exact .inl h1
    · refine .inr ⟨?_, h2⟩
      apply List.eq_nil_of_length_eq_zero
      rw [List.length_eraseIdx, if_pos hil]
      omega
  tot := by
    show S.tot - p.b = total (S.ring.eraseIdx i)
    rw [total_erase _ _ _ hp, h.tot]
theorem Good.new (h : Good S) {n b : Int} (hn : 1 ≤ n ∧ n ≤ 512) (hb : 1 ≤ b ∧ b ≤ 1099511627776) (hi : idx S.ring n = none) (g : Gho) : Good { S with tot := S.tot + b, ring := S.ring ++ [⟨n, b, true⟩], g := g } where
  page := fun x hx => by
    rcases List.mem_append.1 hx with hx | hx
    · exact h.page x hx
    · rw [List.mem_singleton] at hx
      subst hx
      exact ⟨hn.1, hn.2, hb.1, hb.2⟩
  ndn := by
    show ((S.ring ++ [(⟨n, b, true⟩ : Pg)]).map (·.n)).Nodup
    rw [List.map_append, List.nodup_append]
    refine ⟨h.ndn, by simp, fun a ha c hc => ?_⟩
    obtain ⟨p, hp, rfl⟩ := List.mem_map.1 ha
    have : c = n := by simpa using hc
    rw [this]
    exact idxp_none.1 hi p hp
  hand := by
    left
    show S.hand < (S.ring ++ [(⟨n, b, true⟩ : Pg)]).length
    rw [List.length_append]
    rcases h.hand with h1 | ⟨h1, h2⟩
    · simp; omega
    · simp [h2]
  tot := by
    show S.tot + b = total (S.ring ++ [(⟨n, b, true⟩ : Pg)])
    rw [total_append, h.tot]
    simp [total]

/-- What a turn of the hand keeps. -/
structure SpinOk (r : List Pg) (h : Nat) : Prop where
  n : (spin r h).2.1.map (·.n) = r.map (·.n)
  b : (spin r h).2.1.map (·.b) = r.map (·.b)
  hand : (spin r h).2.2 < r.length
  mem : (spin r h).1 ∈ r.map (·.n)
theorem set_map_same {α : Type} (f : Pg → α) (r : List Pg) (i : Nat) (p p' : Pg) (hp : r[i]? = some p) (hn : f p' = f p) : (r.set i p').map f = r.map f := by
  obtain ⟨hil, hpe⟩ := List.getElem?_eq_some_iff.1 hp
  rw [List.map_set, hn]
  apply List.ext_getElem? fun k => ?_
  rw [List.getElem?_set]
  split
  · next e =>
    subst e
    simp [hil, hpe]
  · rfl
theorem spin_ok (r : List Pg) (h : Nat) (hh : h < r.length) : SpinOk r h := by
  generalize hk : marks r = k
  induction k generalizing r h with
  | zero =>
    obtain ⟨p, hp⟩ : ∃ p, r[h]? = some p := ⟨_, List.getElem?_eq_getElem hh⟩
    cases hm : p.m with
    | false =>
      refine ⟨?_, ?_, ?_, ?_⟩ <;> rw [spin_stop hp hm]
      · exact Nat.mod_lt _ (by omega)
      · exact List.mem_map.2 ⟨p, List.mem_of_getElem? hp, rfl⟩
    | true => have := marks_set r h p hp hm; omega
  | succ k ih =>
    obtain ⟨p, hp⟩ : ∃ p, r[h]? = some p := ⟨_, List.getElem?_eq_getElem hh⟩
    cases hm : p.m with
    | false =>
      refine ⟨?_, ?_, ?_, ?_⟩ <;> rw [spin_stop hp hm]
      · exact Nat.mod_lt _ (by omega)
      · exact List.mem_map.2 ⟨p, List.mem_of_getElem? hp, rfl⟩
    | true =>
      have hs := marks_set r h p hp hm
      have := ih (r.set h (clearM p)) ((h + 1) % r.length) (by rw [List.length_set]; exact Nat.mod_lt _ (by omega)) (by omega)
      have e1 := set_map_same (·.n) r h p (clearM p) hp rfl
      have e2 := set_map_same (·.b) r h p (clearM p) hp rfl
      refine ⟨?_, ?_, ?_, ?_⟩ <;> rw [spin_go hp hm]
      · exact this.n.trans e1
      · exact this.b.trans e2
      · have := this.hand; rw [List.length_set] at this; exact this
      · have := this.mem; rw [e1] at this; exact this
theorem Good.add (h : Good S) (n b : Int) : Good (S.add n b).2 := by
  unfold Ck.add
  split
  · exact h
  · next hc =>
    split
    · next hi =>
      split
      · exact h
      · exact h.new (by omega) (by omega) hi _
    · next i hi =>
      obtain ⟨p, hp, hn⟩ := idx_some hi
      have e : pageB S.ring i = p.b := by simp [pageB, hp]
      split
      · rw [e]; exact h.drop hp _
      · rw [e, modify_set hp]; exact h.set (q := { p with b := b }) hp rfl (by show 1 ≤ b ∧ b ≤ _; omega) _
theorem Good.touch (h : Good S) (n : Int) : Good (S.touch n) := by
  unfold Ck.touch
  split
  · exact h
  · next i hi =>
    obtain ⟨p, hp, hn⟩ := idx_some hi
    have := h.page p (List.mem_of_getElem? hp)
    have h2 := h.set (q := { p with m := true }) hp rfl (by show 1 ≤ p.b ∧ p.b ≤ _; omega) S.g
    rw [modify_set hp]
    simpa using h2
theorem Good.load (h : Good S) : Good S.load := ⟨h.page, h.ndn, h.hand, h.tot⟩
theorem Good.pos (h : Good S) (hb : 0 ≤ S.budget) (ht : ¬ S.tot ≤ S.budget) : S.hand < S.ring.length := by
  rcases h.hand with h1 | ⟨h1, h2⟩
  · exact h1
  · have := h.tot
    rw [h1] at this
    simp [total] at this
    omega
theorem Good.victim (h : Good S) (hb : 0 ≤ S.budget) : Good S.victim.2 := by
  unfold Ck.victim
  split
  · exact h.load
  · next ht =>
    have hh := h.pos hb ht
    have hs := spin_ok S.ring S.hand hh
    have hl : (spin S.ring S.hand).2.1.length = S.ring.length := by
      have := congrArg List.length hs.n
      simpa using this
    exact {
      page := fun p hp => by
        obtain ⟨i, hi⟩ := List.getElem?_of_mem hp
        have h1 : ((spin S.ring S.hand).2.1.map (·.n))[i]? = some p.n := by rw [List.getElem?_map, hi]; rfl
        have h2 : ((spin S.ring S.hand).2.1.map (·.b))[i]? = some p.b := by rw [List.getElem?_map, hi]; rfl
        rw [hs.n, List.getElem?_map] at h1
        rw [hs.b, List.getElem?_map] at h2
        cases hq : S.ring[i]? with
        | none => rw [hq] at h1; cases h1
        | some q =>
          rw [hq] at h1 h2
          simp only [Option.map_some, Option.some.injEq] at h1 h2
          rw [← h1, ← h2]
          exact h.page q (List.mem_of_getElem? hq)
      ndn := by
        show ((spin S.ring S.hand).2.1.map (·.n)).Nodup
        rw [hs.n]
        exact h.ndn
      hand := .inl (by show (spin S.ring S.hand).2.2 < (spin S.ring S.hand).2.1.length; rw [hl]; exact hs.hand)
      tot := by
        show S.tot = ((spin S.ring S.hand).2.1.map (·.b)).sum
        rw [hs.b]
        exact h.tot }
end
end Go.Proofs.Ytghcojaggplkkaa
