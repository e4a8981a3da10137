/-
  What a store into one cell makes of an Epochs.
-/
import Derived.Test.YtbefknaffopeaaaRep
namespace Go.Proofs.Ytbefknaffopeaaa
open Go.RowKit
section
variable {w : World} {base : Nat} {L : Lay} {S : St}

theorem CntAt.set {k i : Nat} {t t' : Tal} {u : Value} (h : CntAt w k t) (hu : t.arr.setIfInBounds i u = t'.arr) : CntAt (w.setCell ⟨k, i, none⟩ u) k t' := by
  have := Blk.set_ h i u
  rw [hu] at this
  exact this
theorem CntAt.ne_int {k b k' : Nat} {t : Tal} {v : Int} (h : CntAt w k t) (h' : IntAt w b k' v) : k ≠ b := Blk.ne_ h h' (by decide)

theorem Cnts.get {ks : List Nat} {g : Gho} (h : Cnts w ks g) {k : Nat} (hk : k ∈ ks) : ∃ t, CntAt w k t ∧ (g = none ∨ g = some (k, t)) := by
  cases g with
  | none =>
    obtain ⟨t, ht⟩ := h k hk
    exact ⟨t, ht, .inl rfl⟩
  | some p =>
    obtain ⟨k0, t⟩ := p
    obtain ⟨h1, h2⟩ := h
    have := h2 k hk
    subst this
    exact ⟨t, h1, .inr rfl⟩

theorem Cnts.far {ks : List Nat} {g : Gho} (h : Cnts w ks g) {p : Addr} (hp : ∀ k t, CntAt w k t → k ≠ p.block) (u : Value) : Cnts (w.setCell p u) ks g := by
  cases g with
  | none =>
    intro k hk
    obtain ⟨t, ht⟩ := h k hk
    exact ⟨t, Blk.far ht (hp k t ht) u⟩
  | some q =>
    exact ⟨Blk.far h.1 (hp _ _ h.1) u, h.2⟩

theorem Cnts.step {ks : List Nat} {g : Gho} (h : Cnts w ks g) {k i : Nat} {t : Tal} {u : Value} (f : Tal → Tal) (ht : CntAt w k t) (hg : g = none ∨ g = some (k, t))
    (hu : t.arr.setIfInBounds i u = (f t).arr) : Cnts (w.setCell ⟨k, i, none⟩ u) ks (g.on f) := by
  rcases hg with rfl | rfl
  · intro k' hk'
    by_cases e : k' = k
    · subst e
      exact ⟨_, ht.set hu⟩
    · obtain ⟨t', ht'⟩ := h k' hk'
      exact ⟨t', Blk.far ht' (p := ⟨k, i, none⟩) e u⟩
  · exact ⟨ht.set hu, h.2⟩

theorem Rep.ks_now (_h : Rep w base L S) : L.nk ∈ L.ks := by simp [Lay.ks]
theorem Rep.ks_int (_h : Rep w base L S) {i : Nat} {p : Nat × Nat} (hp : L.ints[i]? = some p) : p.2 ∈ L.ks := by
  have := List.mem_of_getElem? hp
  simp only [Lay.ks, List.mem_cons, List.mem_map]
  exact .inr ⟨p, this, rfl⟩

/-- An access is counted. -/
theorem Rep.count (h : Rep w base L S) {k i : Nat} {t : Tal} {u : Value} (f : Tal → Tal) (ht : CntAt w k t) (hg : S.g = none ∨ S.g = some (k, t))
    (hu : t.arr.setIfInBounds i u = (f t).arr) : Rep (w.setCell ⟨k, i, none⟩ u) base L { S with g := S.g.on f } where
  eblk := h.eblk.far (p := ⟨k, i, none⟩) (Blk.ne_ h.eblk ht (by decide)) u
  now := Blk.far h.now (p := ⟨k, i, none⟩) (Blk.ne_ h.now ht (by decide)) u
  cv := row_far h.cv ht (by decide) _ u
  int := fun j p c hp hc => Blk.far (h.int j p c hp hc) (p := ⟨k, i, none⟩) (Blk.ne_ (h.int j p c hp hc) ht (by decide)) u
  nd := h.nd
  inblk := h.inblk.far (p := ⟨k, i, none⟩) (Blk.ne_ h.inblk ht (by decide)) u
  wv := row_far h.wv ht (by decide) _ u
  lc := h.lc
  li := h.li
  le := h.le
  one := h.one
  cnt := h.cnt.step f ht hg hu
  low := h.low

theorem IntAt.set {b k : Nat} {v v' : Int} (h : IntAt w b k v) : IntAt (w.setCell ⟨b, 0, none⟩ (.int .i64 v')) b k v' := Blk.set_ h 0 _

/-- The epoch is written. -/
theorem Rep.setNow (h : Rep w base L S) (v : Int) : Rep (w.setCell ⟨L.nb, 0, none⟩ (.int .i64 v)) base L { S with now := v } where
  eblk := h.eblk.far (p := ⟨L.nb, 0, none⟩) (Blk.ne_ h.eblk h.now (by decide)) _
  now := h.now.set
  cv := row_far h.cv h.now (by decide) _ _
  int := fun j p c hp hc => Blk.far (h.int j p c hp hc) (p := ⟨L.nb, 0, none⟩) (fun e => (List.nodup_cons.1 h.nd).1 (List.mem_map.2 ⟨p, List.mem_of_getElem? hp, e⟩)) _
  nd := h.nd
  inblk := h.inblk.far (p := ⟨L.nb, 0, none⟩) (Blk.ne_ h.inblk h.now (by decide)) _
  wv := row_far h.wv h.now (by decide) _ _
  lc := h.lc
  li := h.li
  le := h.le
  one := h.one
  cnt := h.cnt.far (p := ⟨L.nb, 0, none⟩) (fun _ _ ht => ht.ne_int h.now) _
  low := h.low

/-- A client's cell is written. -/
theorem Rep.setInt (h : Rep w base L S) {i : Nat} {q : Nat × Nat} (hq : L.ints[i]? = some q) (v : Int) : Rep (w.setCell ⟨q.1, 0, none⟩ (.int .i64 v)) base L { S with cells := S.cells.set i v } := by
  have hi : i < L.ints.length := (List.getElem?_eq_some_iff.1 hq).1
  have hci : S.cells[i]? = some (S.cells[i]'(by rw [h.lc]; exact hi)) := List.getElem?_eq_getElem _
  have hI := h.int i q _ hq hci
  exact {
    eblk := h.eblk.far (p := ⟨q.1, 0, none⟩) (Blk.ne_ h.eblk hI (by decide)) _
    now := Blk.far h.now (p := ⟨q.1, 0, none⟩) (fun e => (List.nodup_cons.1 h.nd).1 (List.mem_map.2 ⟨q, List.mem_of_getElem? hq, e.symm⟩)) _
    cv := row_far h.cv hI (by decide) _ _
    int := fun j p c hp hc => by
      by_cases e : i = j
      · subst e
        rw [List.getElem?_set_self (by rw [h.lc]; exact hi)] at hc
        injection hc with hc
        subst hc
        have : p = q := by rw [hq] at hp; injection hp with hp; exact hp.symm
        subst this
        exact hI.set
      · rw [List.getElem?_set_ne e] at hc
        refine Blk.far (h.int j p c hp hc) (p := ⟨q.1, 0, none⟩) (fun e' => e ?_) _
        have h2 := (List.nodup_cons.1 h.nd).2
        have hj : j < (L.ints.map (·.1)).length := by simpa using (List.getElem?_eq_some_iff.1 hp).1
        have := (List.getElem?_inj (by simpa using hi) h2 (i := i) (j := j)).1 (by simp [hq, hp, show p.1 = q.1 from e'])
        exact this
    nd := h.nd
    inblk := h.inblk.far (p := ⟨q.1, 0, none⟩) (Blk.ne_ h.inblk hI (by decide)) _
    wv := row_far h.wv hI (by decide) _ _
    lc := by simpa using h.lc
    li := h.li
    le := h.le
    one := h.one
    cnt := h.cnt.far (p := ⟨q.1, 0, none⟩) (fun _ _ ht => ht.ne_int hI) _
    low := h.low }

/-- Whether a client is in is written. -/
theorem Rep.setIn (h : Rep w base L S) (i : Nat) (b : Bool) : Rep (w.setCell ⟨L.inb, i, none⟩ (.bool b)) base L { S with ins := S.ins.set i b } where
  eblk := h.eblk.far (p := ⟨L.inb, i, none⟩) (Blk.ne_ h.eblk h.inblk (by decide)) _
  now := Blk.far h.now (p := ⟨L.inb, i, none⟩) (Blk.ne_ h.now h.inblk (by decide)) _
  cv := row_far h.cv h.inblk (by decide) _ _
  int := fun j p c hp hc => Blk.far (h.int j p c hp hc) (p := ⟨L.inb, i, none⟩) (Blk.ne_ (h.int j p c hp hc) h.inblk (by decide)) _
  nd := h.nd
  inblk := by
    have := h.inblk.set_ i (.bool b)
    rw [List.setIfInBounds_toArray, ← List.map_set] at this
    exact this
  wv := row_far h.wv h.inblk (by decide) _ _
  lc := h.lc
  li := by simpa using h.li
  le := h.le
  one := h.one
  cnt := h.cnt.far (p := ⟨L.inb, i, none⟩) (fun _ _ ht => Blk.ne_ ht h.inblk (by decide)) _
  low := h.low

theorem Rep.drew (h : Rep w base L S) : Rep w.drew base L S := ⟨h.eblk, h.now, h.cv, h.int, h.nd, h.inblk, h.wv, h.lc, h.li, h.le, h.one, by
  have := h.cnt
  revert this
  cases S.g <;> exact fun x => x, h.low⟩

/-- Whatever leaves its blocks leaves an Epochs. -/
theorem Rep.kept {w' : World} (h : Rep w base L S) (hk : Kept L.foot w w') : Rep w' base L S where
  eblk := h.eblk.kept hk (.inl rfl)
  now := Blk.kept h.now hk (.inr (.inl rfl))
  cv := ownsRow_kept h.cv hk fun g hg => .inr (.inr (.inr (.inr (.inl hg))))
  int := fun j p c hp hc => Blk.kept (h.int j p c hp hc) hk (.inr (.inr (.inl ⟨p, List.mem_of_getElem? hp, rfl⟩)))
  nd := h.nd
  inblk := h.inblk.kept hk (.inr (.inr (.inr (.inr (.inr (.inl rfl))))))
  wv := ownsRow_kept h.wv hk fun g hg => .inr (.inr (.inr (.inr (.inr (.inr hg)))))
  lc := h.lc
  li := h.li
  le := h.le
  one := h.one
  cnt := by
    have hc := h.cnt
    revert hc
    cases S.g with
    | none =>
      intro hc k hkk
      obtain ⟨t, ht⟩ := hc k hkk
      exact ⟨t, Blk.kept ht hk (.inr (.inr (.inr (.inl hkk))))⟩
    | some p =>
      rintro ⟨h1, h2⟩
      have : p.1 ∈ L.ks := by
        have := h2 L.nk (by simp [Lay.ks])
        rw [← this]
        simp [Lay.ks]
      exact ⟨Blk.kept h1 hk (.inr (.inr (.inr (.inl this)))), h2⟩
  low := h.low

theorem ownsRow_cells {w : World} {base : Nat} {e : TypeId} {size n : Nat} {v : Value} {xs : List Value} (h : w.ownsRow base e size v n xs) {g : Nat} (hg : v.ownBlock = some g) : ∃ c t f, w.heap[g]? = some (.cells c t f) := by
  rcases h.2 with ⟨rfl, _⟩ | ⟨g', cap, cur, rfl, hb, hh, _⟩
  · simp [Value.ownBlock] at hg
  · have : g' = g := by simpa [Value.ownBlock] using hg
    subst this
    exact ⟨_, _, _, hh⟩

/-- All that an Epochs is made of is there: blocks of cells. -/
theorem Rep.foot_cells (h : Rep w base L S) : ∀ b, L.foot b → ∃ c t f, w.heap[b]? = some (.cells c t f) := by
  intro b hb
  rcases hb with rfl | rfl | ⟨i, hi, rfl⟩ | hb | hb | rfl | hb
  · exact ⟨_, _, _, h.eblk⟩
  · exact ⟨_, _, _, h.now⟩
  · obtain ⟨j, hj⟩ := List.getElem?_of_mem hi
    have hjl : j < S.cells.length := by rw [h.lc]; exact (List.getElem?_eq_some_iff.1 hj).1
    exact ⟨_, _, _, h.int j i _ hj (List.getElem?_eq_getElem hjl)⟩
  · obtain ⟨t, ht, _⟩ := h.cnt.get hb
    exact ⟨_, _, _, ht⟩
  · exact ownsRow_cells h.cv hb
  · exact ⟨_, _, _, h.inblk⟩
  · exact ownsRow_cells h.wv hb
theorem Rep.foot_lt (h : Rep w base L S) : ∀ b, L.foot b → b < w.heap.size := by
  intro b hb
  obtain ⟨c, t, f, hc⟩ := h.foot_cells b hb
  exact (Array.getElem?_eq_some_iff.1 hc).1

/-- Other things wait: a row that is owned takes the elder one's place. -/
theorem Rep.newWaits {w2 : World} (h : Rep w base L S) (hk : Kept (fun b => L.foot b ∧ L.wv.ownBlock ≠ some b) w w2) {wv' : Value} {ws : List (Int × Int)} (ho : w2.ownsRow base 58 2 wv' ws.length (waitCells ws)) :
    Rep (w2.setCell ⟨L.eb, 3, none⟩ wv') base { L with wv := wv' } { S with waits := ws } := by
  have hne : ∀ {g t} {cs : Array Value}, Blk w g t cs → t ≠ 58 → L.wv.ownBlock ≠ some g := fun hb ht => own_blk_ne h.wv hb (Ne.symm ht)
  have e2 : Blk w2 L.eb 55 _ := h.eblk.kept hk ⟨.inl rfl, hne h.eblk (by decide)⟩
  have cvne : ∀ g, L.cv.ownBlock = some g → L.wv.ownBlock ≠ some g := by
    intro g hg
    rcases h.cv.2 with ⟨hv, _⟩ | ⟨g', cap, cur, hv, _, hh, _⟩
    · rw [hv] at hg; simp [Value.ownBlock] at hg
    · have : g' = g := by rw [hv] at hg; simpa [Value.ownBlock] using hg
      subst this
      exact hne (t := 50) hh (by decide)
  exact {
    eblk := e2.set_ 3 wv'
    now := blk_far (Blk.kept h.now hk ⟨.inr (.inl rfl), hne h.now (by decide)⟩) e2 (by decide) _ _
    cv := row_far (ownsRow_kept h.cv hk fun g hg => ⟨.inr (.inr (.inr (.inr (.inl hg)))), cvne g hg⟩) e2 (by decide) _ _
    int := fun j p c hp hc => blk_far (Blk.kept (h.int j p c hp hc) hk ⟨.inr (.inr (.inl ⟨p, List.mem_of_getElem? hp, rfl⟩)), hne (h.int j p c hp hc) (by decide)⟩) e2 (by decide) _ _
    nd := h.nd
    inblk := blk_far (h.inblk.kept hk ⟨.inr (.inr (.inr (.inr (.inr (.inl rfl))))), hne h.inblk (by decide)⟩) e2 (by decide) _ _
    wv := row_far ho e2 (by decide) _ _
    lc := h.lc
    li := h.li
    le := h.le
    one := h.one
    cnt := by
      have hc := h.cnt
      show Cnts _ L.ks S.g
      revert hc
      cases S.g with
      | none =>
        intro hc k hkk
        obtain ⟨t, ht⟩ := hc k hkk
        exact ⟨t, blk_far (Blk.kept ht hk ⟨.inr (.inr (.inr (.inl hkk))), hne ht (by decide)⟩) e2 (by decide) _ _⟩
      | some p =>
        rintro ⟨h1, h2⟩
        have : p.1 ∈ L.ks := by
          have := h2 L.nk (by simp [Lay.ks])
          rw [← this]
          simp [Lay.ks]
        exact ⟨blk_far (Blk.kept h1 hk ⟨.inr (.inr (.inr (.inl this))), hne h1 (by decide)⟩) e2 (by decide) _ _, h2⟩
    low := fun b hb => by
      rcases hb with hb | hb | hb | hb | hb | hb | hb
      · exact h.low b (.inl hb)
      · exact h.low b (.inr (.inl hb))
      · exact h.low b (.inr (.inr (.inl hb)))
      · exact h.low b (.inr (.inr (.inr (.inl hb))))
      · exact h.low b (.inr (.inr (.inr (.inr (.inl hb)))))
      · exact h.low b (.inr (.inr (.inr (.inr (.inr (.inl hb))))))
      · exact (ownsRow_lt ho hb).2 }

/-- An access that is counted, of a cell that is there: what a walk wants to know. -/
theorem Rep.getNow (h : Rep w base L S) : ∃ t, CntAt w L.nk t ∧ (S.g = none ∨ S.g = some (L.nk, t)) := h.cnt.get h.ks_now
theorem Rep.getInt (h : Rep w base L S) {i : Nat} {p : Nat × Nat} (hp : L.ints[i]? = some p) : ∃ t, CntAt w p.2 t ∧ (S.g = none ∨ S.g = some (p.2, t)) := h.cnt.get (h.ks_int hp)
end
end Go.Proofs.Ytbefknaffopeaaa
