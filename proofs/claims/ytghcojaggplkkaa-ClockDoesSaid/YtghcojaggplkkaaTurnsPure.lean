/-
  ClockTurns and ClockFrees, in plain Lean.
-/
import Derived.Test.YtghcojaggplkkaaPure
namespace Go.Proofs.Ytghcojaggplkkaa

/-- Is number q in the ring? -/
def has (r : List Pg) (q : Nat) : Bool := decide ((q : Int) ∈ r.map (·.n))
theorem has_congr {r r' : List Pg} (h : r.map (·.n) = r'.map (·.n)) : has r = has r' := by
  funext q
  unfold has
  rw [h]

/-! ### Counting -/
def cnt : Nat → List Int → Nat
  | 0, _ => 0
  | m + 1, l => cnt m l + (if ((m + 1 : Nat) : Int) ∈ l then 1 else 0)
theorem cnt_congr : ∀ (m : Nat) (l l' : List Int), (∀ q : Nat, q ≤ m → ((q : Int) ∈ l ↔ (q : Int) ∈ l')) → cnt m l = cnt m l'
  | 0, _, _, _ => rfl
  | m + 1, l, l', h => by
    simp only [cnt]
    rw [cnt_congr m l l' fun q hq => h q (by omega)]
    have := h (m + 1) (Nat.le_refl _)
    by_cases hm : ((m + 1 : Nat) : Int) ∈ l
    · rw [if_pos hm, if_pos (this.1 hm)]
    · rw [if_neg hm, if_neg fun h => hm (this.2 h)]
theorem cnt_all : ∀ (m : Nat) (l : List Int), l.Nodup → (∀ x ∈ l, 1 ≤ x ∧ x ≤ m) → cnt m l = l.length
  | 0, l, _, h => by
    cases l with
    | nil => rfl
    | cons x l => have := h x List.mem_cons_self; omega
  | m + 1, l, hn, h => by
    have h1 := cnt_all m (l.erase ((m + 1 : Nat) : Int)) (hn.erase _) fun x hx => by
      rw [hn.mem_erase_iff] at hx
      have := h x hx.2
      omega
    have h2 : cnt m l = cnt m (l.erase ((m + 1 : Nat) : Int)) := cnt_congr m _ _ fun q hq => by
      rw [hn.mem_erase_iff]
      constructor
      · intro hm
        exact ⟨by omega, hm⟩
      · exact fun hm => hm.2
    simp only [cnt]
    rw [h2, h1, List.length_erase]
    by_cases hm : ((m + 1 : Nat) : Int) ∈ l
    · rw [if_pos hm, if_pos hm]
      have : 0 < l.length := List.length_pos_of_mem hm
      omega
    · rw [if_neg hm, if_neg hm]
      rfl

/-! ### The ring as the hand sees it -/
def rot (r : List Pg) (h : Nat) : List Pg := r.drop h ++ r.take h
theorem rot_len {r : List Pg} {h : Nat} (hh : h ≤ r.length) : (rot r h).length = r.length := by simp [rot]; omega
theorem rot_step {r : List Pg} {h : Nat} {p : Pg} (hp : r[h]? = some p) (q : Pg) : ∃ T, rot r h = p :: T ∧ rot (r.set h q) ((h + 1) % r.length) = T ++ [q] := by
  obtain ⟨hl, he⟩ := List.getElem?_eq_some_iff.1 hp
  refine ⟨r.drop (h + 1) ++ r.take h, ?_, ?_⟩
  · unfold rot
    rw [List.drop_eq_getElem_cons hl, he]
    rfl
  · have hset : r.set h q = r.take h ++ q :: r.drop (h + 1) := by
      rw [List.set_eq_take_append_cons_drop, if_pos hl]
    rcases Nat.lt_or_ge (h + 1) r.length with hlt | hge
    · rw [Nat.mod_eq_of_lt hlt]
      unfold rot
      have hd : (r.set h q).drop (h + 1) = r.drop (h + 1) := by
        rw [List.drop_set_of_lt (by omega)]
      have ht : (r.set h q).take (h + 1) = r.take h ++ [q] := by
        rw [hset, show r.take h ++ q :: r.drop (h + 1) = (r.take h ++ [q]) ++ r.drop (h + 1) by simp]
        exact List.take_left' (by simp; omega)
      rw [hd, ht, List.append_assoc]
    · have e : h + 1 = r.length := by omega
      rw [e, Nat.mod_self]
      unfold rot
      rw [← e]
      simp only [List.drop_zero, List.take_zero, List.append_nil]
      rw [hset]
      have : r.drop (h + 1) = [] := List.drop_eq_nil_of_le (by omega)
      rw [this]
      simp

/-- The last k of the ring, as the hand sees it, bear no mark. -/
def unm (k : Nat) (R : List Pg) : Prop := ∀ x ∈ R.reverse.take k, x.m = false
theorem unm_step {k : Nat} {p q : Pg} {T : List Pg} (h : unm k (p :: T)) (hq : q.m = false) : unm (k + 1) (T ++ [q]) := by
  intro x hx
  rw [List.reverse_append, List.reverse_singleton, List.singleton_append, List.take_succ_cons] at hx
  rcases List.mem_cons.1 hx with rfl | hx
  · exact hq
  · apply h
    rw [List.reverse_cons]
    rw [List.take_append]
    exact List.mem_append_left _ hx
theorem unm_mono {k j : Nat} {R : List Pg} (h : unm k R) (hj : j ≤ k) : unm j R := fun x hx => by
  apply h
  have : R.reverse.take j = (R.reverse.take k).take j := by rw [List.take_take, Nat.min_eq_left hj]
  rw [this] at hx
  exact List.mem_of_mem_take hx
theorem spin_unm (r : List Pg) (h : Nat) (hh : h < r.length) (k : Nat) (hu : unm k (rot r h)) : unm (k + 1) (rot (spin r h).2.1 (spin r h).2.2) := by
  generalize hk : marks r = m
  induction m generalizing r h k with
  | zero =>
    obtain ⟨p, hp⟩ : ∃ p, r[h]? = some p := ⟨_, List.getElem?_eq_getElem hh⟩
    cases hm : p.m with
    | false =>
      rw [spin_stop hp hm]
      obtain ⟨T, h1, h2⟩ := rot_step hp p
      have e : r.set h p = r := by
        obtain ⟨hl, he⟩ := List.getElem?_eq_some_iff.1 hp
        rw [← he, List.set_getElem_self]
      rw [e] at h2
      rw [h2]
      rw [h1] at hu
      exact unm_step hu hm
    | true => have := marks_set r h p hp hm; omega
  | succ m ih =>
    obtain ⟨p, hp⟩ : ∃ p, r[h]? = some p := ⟨_, List.getElem?_eq_getElem hh⟩
    cases hm : p.m with
    | false =>
      rw [spin_stop hp hm]
      obtain ⟨T, h1, h2⟩ := rot_step hp p
      have e : r.set h p = r := by
        obtain ⟨hl, he⟩ := List.getElem?_eq_some_iff.1 hp
        rw [← he, List.set_getElem_self]
      rw [e] at h2
      rw [h2]
      rw [h1] at hu
      exact unm_step hu hm
    | true =>
      have hs := marks_set r h p hp hm
      rw [spin_go hp hm]
      obtain ⟨T, h1, h2⟩ := rot_step hp (clearM p)
      rw [h1] at hu
      have h3 := unm_step (q := clearM p) hu rfl
      rw [← h2] at h3
      have := ih (r.set h (clearM p)) ((h + 1) % r.length) (by rw [List.length_set]; exact Nat.mod_lt _ (by omega)) (k + 1) h3 (by omega)
      exact unm_mono this (by omega)
theorem unm_all {R : List Pg} (h : unm R.length R) : ∀ x ∈ R, x.m = false := fun x hx => h x (by
  rw [List.take_of_length_le (by simp)]
  simpa using hx)
/-- No page bears a mark: the hand goes on by one. -/
theorem spin_clear {r : List Pg} {h : Nat} (hh : h < r.length) (hu : ∀ x ∈ rot r h, x.m = false) : ∃ p T, rot r h = p :: T ∧ (spin r h).1 = p.n ∧ rot (spin r h).2.1 (spin r h).2.2 = T ++ [p] := by
  obtain ⟨p, hp⟩ : ∃ p, r[h]? = some p := ⟨_, List.getElem?_eq_getElem hh⟩
  obtain ⟨T, h1, h2⟩ := rot_step hp p
  have hm : p.m = false := hu p (by rw [h1]; exact List.mem_cons_self)
  have e : r.set h p = r := by
    obtain ⟨hl, he⟩ := List.getElem?_eq_some_iff.1 hp
    rw [← he, List.set_getElem_self]
  rw [e] at h2
  rw [spin_stop hp hm]
  exact ⟨p, T, h1, rfl, h2⟩
theorem mem_rot {r : List Pg} {h : Nat} {x : Pg} : x ∈ rot r h ↔ x ∈ r := by
  unfold rot
  rw [List.mem_append]
  constructor
  · rintro (h | h)
    · exact List.mem_of_mem_drop h
    · exact List.mem_of_mem_take h
  · intro hx
    rw [← List.take_append_drop h r, List.mem_append] at hx
    exact hx.symm
theorem rot_nodup {r : List Pg} {h : Nat} (hn : (r.map (·.n)).Nodup) : ((rot r h).map (·.n)).Nodup := by
  unfold rot
  have e : r = r.take h ++ r.drop h := (List.take_append_drop h r).symm
  rw [e, List.map_append] at hn
  rw [List.map_append, List.nodup_append] at *
  exact ⟨hn.2.1, hn.1, fun a ha b hb he => hn.2.2 b hb a ha he.symm⟩

/-! ### The calls and what is there -/
section
variable {S : Ck}
theorem has_touch (n : Int) : has (S.touch n).ring = has S.ring := by
  unfold Ck.touch
  split
  · rfl
  · next i hi =>
    obtain ⟨p, hp, hn⟩ := idx_some hi
    show has (S.ring.modify i _) = _
    rw [modify_set hp]
    exact has_congr (set_map_same (·.n) _ _ p _ hp rfl)
theorem victim_ring_n (h : Good S) (hb : 0 ≤ S.budget) : S.victim.2.ring.map (·.n) = S.ring.map (·.n) := by
  unfold Ck.victim
  split
  · rfl
  · next ht => exact (spin_ok S.ring S.hand (h.pos hb ht)).n
theorem has_victim (h : Good S) (hb : 0 ≤ S.budget) : has S.victim.2.ring = has S.ring := has_congr (victim_ring_n h hb)
theorem has_add (h : Good S) {n b : Int} (hok : (S.add n b).1 = 0) : ∃ k : Nat, n = k ∧ 1 ≤ k ∧ k ≤ 512 ∧ ∀ q, has (S.add n b).2.ring q = if q = k then decide (0 < b) else has S.ring q := by
  unfold Ck.add at hok ⊢
  split at hok
  · cases hok
  · next hc =>
    rw [if_neg hc]
    obtain ⟨k, rfl⟩ : ∃ k : Nat, n = k := Int.eq_ofNat_of_zero_le (by omega)
    refine ⟨k, rfl, by omega, by omega, fun q => ?_⟩
    cases hi : idx S.ring (k : Int) with
    | none =>
      simp only
      have hno : ¬ (k : Int) ∈ S.ring.map (·.n) := by
        intro hm
        obtain ⟨p, hp, hpn⟩ := List.mem_map.1 hm
        exact idxp_none.1 hi p hp hpn
      split
      · next hb =>
        subst hb
        by_cases hq : q = k
        · subst hq
          rw [if_pos rfl]
          simp [has, hno]
        · rw [if_neg hq]
      · next hb =>
        show has (S.ring ++ [_]) q = _
        by_cases hq : q = k
        · subst hq
          rw [if_pos rfl]
          unfold has
          have h1 : (q : Int) ∈ (S.ring ++ [(⟨q, b, true⟩ : Pg)]).map (·.n) := by simp
          rw [decide_eq_true h1]
          symm
          exact decide_eq_true (by omega)
        · rw [if_neg hq]
          unfold has
          apply decide_eq_decide.2
          simp
          omega
    | some i =>
      obtain ⟨p, hp, hn⟩ := idx_some hi
      have hmem : (k : Int) ∈ S.ring.map (·.n) := List.mem_map.2 ⟨p, List.mem_of_getElem? hp, hn⟩
      simp only
      split
      · next hb =>
        subst hb
        show has (S.ring.eraseIdx i) q = _
        have hnd := h.ndn
        have hin : (S.ring.map (·.n))[i]? = some (k : Int) := by rw [List.getElem?_map, hp, ← hn]; rfl
        have hil := (List.getElem?_eq_some_iff.1 hin).1
        have hmm : ∀ x : Int, x ∈ (S.ring.map (·.n)).eraseIdx i ↔ x ∈ S.ring.map (·.n) ∧ x ≠ k := by
          intro x
          rw [List.mem_eraseIdx_iff_getElem?]
          constructor
          · rintro ⟨j, hj, hx⟩
            refine ⟨List.mem_of_getElem? hx, fun e => hj ?_⟩
            subst e
            exact ((List.getElem?_inj (List.getElem?_eq_some_iff.1 hx).1 hnd).1 (hx.trans hin.symm))
          · rintro ⟨hx, hne⟩
            obtain ⟨j, hj⟩ := List.getElem?_of_mem hx
            refine ⟨j, fun e => hne ?_, hj⟩
            subst e
            rw [hin] at hj
            exact (Option.some.inj hj).symm
        unfold has
        rw [← eraseIdx_map']
        by_cases hq : q = k
        · subst hq
          rw [if_pos rfl]
          rw [decide_eq_false (fun hx => ((hmm _).1 hx).2 rfl)]
          simp
        · rw [if_neg hq]
          apply decide_eq_decide.2
          rw [hmm]
          constructor
          · exact fun h => h.1
          · exact fun h => ⟨h, by omega⟩
      · next hb =>
        show has (S.ring.modify i _) q = _
        rw [modify_set hp, has_congr (set_map_same (·.n) S.ring i p { p with b := b } hp rfl)]
        by_cases hq : q = k
        · subst hq
          rw [if_pos rfl]
          unfold has
          rw [decide_eq_true hmem]
          symm
          exact decide_eq_true (by omega)
        · rw [if_neg hq]
theorem has_add_no {n b : Int} (hno : (S.add n b).1 ≠ 0) : (S.add n b).2 = S := by
  unfold Ck.add at hno ⊢
  split
  · rfl
  · next hc =>
    rw [if_neg hc] at hno
    exfalso
    apply hno
    split <;> split <;> rfl
theorem add_code (n b : Int) : (S.add n b).1 = 0 ∨ (S.add n b).1 = 1 := by
  unfold Ck.add
  split
  · exact .inr rfl
  · left
    split <;> split <;> rfl
/-- Something is there: more than nothing. -/
theorem Good.nonempty (h : Good S) (h0 : 0 < S.ring.length) : 0 < S.tot := by
  have := h.tot_le
  omega
/-- A page of the ring is let go. -/
theorem add_zero_mem (h : Good S) {n : Int} (hm : n ∈ S.ring.map (·.n)) : (S.add n 0).1 = 0 ∧ (S.add n 0).2.ring.length + 1 = S.ring.length := by
  obtain ⟨p, hp, hpn⟩ := List.mem_map.1 hm
  have hpg := h.page p hp
  unfold Ck.add
  rw [if_neg (by omega)]
  cases hi : idx S.ring n with
  | none => exact absurd hpn (idxp_none.1 hi p hp)
  | some i =>
    simp only [if_true]
    have hil : i < S.ring.length := (List.findIdx?_eq_some_iff_getElem.1 hi).1
    refine ⟨trivial, ?_⟩
    show (S.ring.eraseIdx i).length + 1 = _
    rw [List.length_eraseIdx, if_pos hil]
    omega

theorem cnt_le : ∀ (m : Nat) (l : List Int), cnt m l ≤ m
  | 0, _ => Nat.le_refl _
  | m + 1, l => by
    have := cnt_le m l
    simp only [cnt]
    split <;> omega
theorem cnt_step {q : Nat} (l : List Int) (hq : 1 ≤ q) : cnt q l = cnt (q - 1) l + (if (q : Int) ∈ l then 1 else 0) := by
  obtain ⟨m, rfl⟩ : ∃ m, q = m + 1 := ⟨q - 1, by omega⟩
  rfl
theorem cnt_ring (h : Good S) : cnt 512 (S.ring.map (·.n)) = S.ring.length := by
  rw [cnt_all 512 _ h.ndn fun x hx => by
    obtain ⟨p, hp, rfl⟩ := List.mem_map.1 hx
    have := h.page p hp
    omega]
  simp
/-- Too much is there: a page is told. -/
theorem victim_pos (h : Good S) (hb : S.budget = 0) (h0 : 0 < S.ring.length) : S.hand < S.ring.length ∧ S.victim = (((spin S.ring S.hand).1, true), { S.load with ring := (spin S.ring S.hand).2.1, hand := (spin S.ring S.hand).2.2 }) := by
  have ht := h.nonempty h0
  have hn : ¬ S.tot ≤ S.budget := by omega
  refine ⟨h.pos (by omega) hn, ?_⟩
  unfold Ck.victim
  rw [if_neg hn]
theorem ring_nat (h : Good S) {n : Int} (hm : n ∈ S.ring.map (·.n)) : ∃ q : Nat, n = q ∧ 1 ≤ q ∧ q ≤ 512 := by
  obtain ⟨p, hp, rfl⟩ := List.mem_map.1 hm
  have := h.page p hp
  obtain ⟨q, hq⟩ : ∃ q : Nat, p.n = q := Int.eq_ofNat_of_zero_le (by omega)
  exact ⟨q, hq, by omega, by omega⟩
/-- A victim out of the many: its number, and the clock behind it. -/
structure Told (S : Ck) (q : Nat) : Prop where
  q1 : 1 ≤ q
  q2 : q ≤ 512
  mem : (q : Int) ∈ S.ring.map (·.n)
  res : S.victim.1 = ((q : Int), true)
  good : Good S.victim.2
  budget : S.victim.2.budget = 0
  ring : S.victim.2.ring.map (·.n) = S.ring.map (·.n)
theorem told (h : Good S) (hb : S.budget = 0) (h0 : 0 < S.ring.length) : ∃ q, Told S q := by
  obtain ⟨hh, hv⟩ := victim_pos h hb h0
  have hs := spin_ok S.ring S.hand hh
  obtain ⟨q, hq, h1, h2⟩ := ring_nat h hs.mem
  refine ⟨q, h1, h2, hq ▸ hs.mem, by rw [hv, hq], h.victim (by omega), ?_, victim_ring_n h (by omega)⟩
  rw [hv]
  exact hb
theorem told_unm (h : Good S) (hb : S.budget = 0) (h0 : 0 < S.ring.length) {k : Nat} (hu : unm k (rot S.ring S.hand)) : unm (k + 1) (rot S.victim.2.ring S.victim.2.hand) := by
  obtain ⟨hh, hv⟩ := victim_pos h hb h0
  rw [hv]
  exact spin_unm _ _ hh _ hu
theorem len_of_map {a b : List Pg} (h : a.map (·.n) = b.map (·.n)) : a.length = b.length := by
  have := congrArg List.length h
  simpa using this
/-- No page bears a mark, the ring is R0 turned i times: the page at i is told. -/
theorem turn_step (h : Good S) (hb : S.budget = 0) {R0 : List Pg} {i : Nat} (hi : i < R0.length) (hr : rot S.ring S.hand = R0.drop i ++ R0.take i) (hu : ∀ x ∈ R0, x.m = false) (hnd : (R0.map (·.n)).Nodup) :
    ∃ q, Told S q ∧ (q : Int) ∉ (R0.take i).map (·.n) ∧ (∀ j : Nat, ((j : Int) ∈ (R0.take (i + 1)).map (·.n) ↔ j = q ∨ (j : Int) ∈ (R0.take i).map (·.n))) ∧
      rot S.victim.2.ring S.victim.2.hand = R0.drop (i + 1) ++ R0.take (i + 1) := by
  have hlen : S.ring.length = R0.length := by
    have := congrArg List.length hr
    simp only [rot, List.length_append, List.length_drop, List.length_take] at this
    omega
  have h0 : 0 < S.ring.length := by omega
  obtain ⟨q, hq⟩ := told h hb h0
  obtain ⟨hh, hv⟩ := victim_pos h hb h0
  obtain ⟨p, T, e1, e2, e3⟩ := spin_clear hh (fun x hx => by
    rw [hr, List.mem_append] at hx
    rcases hx with hx | hx
    · exact hu x (List.mem_of_mem_drop hx)
    · exact hu x (List.mem_of_mem_take hx))
  rw [hr, List.drop_eq_getElem_cons hi, List.cons_append] at e1
  injection e1 with e4 e5
  have hqp : (q : Int) = R0[i].n := by
    have h1 := hq.res
    rw [hv, e2, ← e4] at h1
    exact (congrArg Prod.fst h1).symm
  have htk : R0.take (i + 1) = R0.take i ++ [R0[i]] := by rw [List.take_succ_eq_append_getElem hi]
  refine ⟨q, hq, ?_, ?_, ?_⟩
  · intro hm
    obtain ⟨x, hx, hxn⟩ := List.mem_map.1 hm
    obtain ⟨j, hj⟩ := List.getElem?_of_mem hx
    rw [List.getElem?_take] at hj
    split at hj
    · next hji =>
      have a1 : (R0.map (·.n))[j]? = some (q : Int) := by rw [List.getElem?_map, hj, ← hxn]; rfl
      have a2 : (R0.map (·.n))[i]? = some (q : Int) := by rw [List.getElem?_map, List.getElem?_eq_getElem hi, hqp]; rfl
      have := (List.getElem?_inj (by simpa using hi) hnd).1 (a2.trans a1.symm)
      omega
    · cases hj
  · intro j
    rw [htk, List.map_append, List.mem_append]
    simp only [List.map_cons, List.map_nil, List.mem_singleton, ← hqp]
    constructor
    · rintro (h | h)
      · exact .inr h
      · exact .inl (by omega)
    · rintro (h | h)
      · exact .inr (by omega)
      · exact .inl h
  · rw [hv]
    show rot (spin S.ring S.hand).2.1 (spin S.ring S.hand).2.2 = _
    rw [e3, ← e5, ← e4, htk, List.append_assoc]
/-- A told page is let go. -/
theorem free_step (h : Good S) (hb : S.budget = 0) {q : Nat} (hq : Told S q) : (S.victim.2.add q 0).1 = 0 ∧ (S.victim.2.add q 0).2.ring.length + 1 = S.ring.length := by
  have hm : (q : Int) ∈ S.victim.2.ring.map (·.n) := by rw [hq.ring]; exact hq.mem
  have := add_zero_mem hq.good hm
  rw [len_of_map hq.ring] at this
  exact this
theorem empty_victim (h : Good S) (hb : S.budget = 0) (h0 : S.ring.length = 0) : S.victim = ((0, false), S.load) ∧ S.tot = 0 := by
  have e : S.ring = [] := List.eq_nil_of_length_eq_zero h0
  have ht : S.tot = 0 := by rw [h.tot, e]; rfl
  refine ⟨?_, ht⟩
  unfold Ck.victim
  rw [if_pos (by omega)]
end
end Go.Proofs.Ytghcojaggplkkaa
