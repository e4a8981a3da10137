/-
  The reference's clock: what Add makes of the ring's slice.
-/
import Derived.Test.YtghcojaggplkkaaRefD
import Derived.Deep.Upon
set_option maxHeartbeats 1000000
namespace Go.Proofs
open Go.RowKit
namespace Ytghcojaggplkkaa
theorem Try.info69 : (Try.prog.info? 69).map (fun i => (i.zero, i.size, i.bytes)) = some (some (.agg #[.int .i64 0, .int .i64 0, .bool false]), 3, 24) := by kernel_rfl
section
variable {P : Program} {w w' : World} {base : Nat}
theorem ringCells_len (r : List Pg) : (ringCells r).length = r.length * 3 := by
  induction r with
  | nil => rfl
  | cons p r ih => simp only [ringCells, List.flatMap_cons, List.length_append, List.length_cons, List.length_nil] at ih ⊢; omega
theorem ringCells_append (r q : List Pg) : ringCells (r ++ q) = ringCells r ++ ringCells q := by simp [ringCells]
theorem ringCells_take (r : List Pg) (i : Nat) : (ringCells r).take (i * 3) = ringCells (r.take i) := by
  induction r generalizing i with
  | nil => simp [ringCells]
  | cons p r ih =>
    cases i with
    | zero => simp [ringCells]
    | succ i =>
      have e1 : (i + 1) * 3 = i * 3 + 3 := by omega
      have := ih i
      simp only [ringCells] at this
      rw [e1]
      simp [ringCells, this]
theorem ringCells_drop (r : List Pg) (i : Nat) : (ringCells r).drop (i * 3) = ringCells (r.drop i) := by
  induction r generalizing i with
  | nil => simp [ringCells]
  | cons p r ih =>
    cases i with
    | zero => simp [ringCells]
    | succ i =>
      have e1 : (i + 1) * 3 = i * 3 + 3 := by omega
      have := ih i
      simp only [ringCells] at this
      rw [e1]
      simp [ringCells, this]
theorem ringCells_erase (r : List Pg) (i : Nat) : (ringCells r).take (i * 3) ++ (ringCells r).drop ((i + 1) * 3) = ringCells (r.eraseIdx i) := by
  rw [ringCells_take, ringCells_drop, ← ringCells_append, List.eraseIdx_eq_take_drop_succ]
theorem ringCells_one (r : List Pg) : ∀ u ∈ ringCells r, u.oneCell' = true := by
  intro u hu
  simp only [ringCells, List.mem_flatMap] at hu
  obtain ⟨p, _, hu⟩ := hu
  simp at hu
  rcases hu with rfl | rfl | rfl <;> rfl

/-- append(v, one more). -/
theorem run_append_rowS {t ty e : TypeId} {i : TypeInfo} {z : Value} {s bytes : Nat} (ht : P.underlying t = some (.slice e)) (hi : P.info? e = some i) (hz : i.zero = some z) (hsize : i.size = s) (hby : i.bytes = bytes) (hzs : z.cells.size = s)
    {v : Value} {n : Nat} {xs : List Value} (h : RowS w base e s v n xs) (a : Addr) (m c : Nat) (news : List Value) (hl : news.length = m * s) (hnews : ∀ j u, news[j]? = some u → w.cell? (a.add j) = some u) (h1 : ∀ u ∈ news, u.oneCell' = true) (hm : 0 < m)
    (h63 : n + m ≤ maxLen) (hbytes : (n + m) * bytes ≤ 140737488355328) (hbase : base ≤ w.heap.size) :
    ∃ g' cap' w', (Builtin.append_ #[t, t] ty #[v, .slice (some a) m c]).run P w = .ok (.slice (some ⟨g', 0, none⟩) (n + m) cap') w' ∧
      RowS w' base e s (.slice (some ⟨g', 0, none⟩) (n + m) cap') (n + m) (xs ++ news) ∧ Kept (fun b => v.ownBlock ≠ some b) w w' ∧ (v.ownBlock = some g' ∨ g' = w.heap.size) := by
  obtain ⟨hxl, h⟩ := h
  rcases h with ⟨rfl, rfl⟩ | ⟨g, cap, cur, rfl, hbg, hg, hnc, hcc, hcm, htake⟩
  · have : xs = [] := List.eq_nil_of_length_eq_zero (by simpa using hxl)
    subst this
    rw [Nat.zero_add] at h63 hbytes
    obtain ⟨cap', w', hr, h2, h3⟩ := run_append_none (P := P) (t := t) (ty := ty) (w := w) (base := base) ht hi hz hsize hby hzs a m c news hl hnews hm h63 hbytes hbase
    rw [Nat.zero_add]
    exact ⟨_, _, _, hr, h2, h3.mono fun _ _ _ => trivial, .inr rfl⟩
  · obtain ⟨g', cap', w', hr, h2, h3, h4⟩ := run_append_blk (P := P) (t := t) (ty := ty) (w := w) (base := base) ht hi hz hsize hby hzs hg hbg hnc hcc hcm htake hxl a m c news hl hnews h1 hm h63 hbytes hbase
    exact ⟨g', cap', w', hr, h2, h3.mono fun b _ hb e => hb (by rw [e]; rfl), h4.imp (fun e => by rw [e]; rfl) id⟩

/-- append(nil, s[k:]...). -/
theorem run_rest {t ty e : TypeId} {i : TypeInfo} {z : Value} {s bytes : Nat} (ht : P.underlying t = some (.slice e)) (hi : P.info? e = some i) (hz : i.zero = some z) (hsize : i.size = s) (hby : i.bytes = bytes) (hzs : z.cells.size = s) (hs0 : 0 < s)
    {g n cap : Nat} {xs : List Value} (h : RowS w base e s (.slice (some ⟨g, 0, none⟩) n cap) n xs) {k : Nat} (hk : k ≤ n) (a : Addr) (ha : k < cap → a = ⟨g, k * s, none⟩) (c : Nat) (h63 : n ≤ maxLen) (hbytes : n * bytes ≤ 140737488355328) (hbase : base ≤ w.heap.size) :
    ∃ rv w', (Builtin.append_ #[t, t] ty #[.slice none 0 0, .slice (some a) (n - k) c]).run P w = .ok rv w' ∧
      RowS w' base e s rv (n - k) (xs.drop (k * s)) ∧ Kept (fun _ => True) w w' ∧ (∀ b, rv.ownBlock = some b → w.heap.size ≤ b) := by
  subst hsize
  obtain ⟨hxl, h⟩ := h
  have hdl : (xs.drop (k * i.size)).length = (n - k) * i.size := by rw [List.length_drop, hxl, Nat.sub_mul]
  by_cases hm : n - k = 0
  · have hnil : xs.drop (k * i.size) = [] := List.eq_nil_of_length_eq_zero (by rw [hdl, hm, Nat.zero_mul])
    have hsrc : Src P i.size t (.slice (some a) (n - k) c) 0 [] w := by
      rw [hm]
      exact Src.ofSlice w ht a 0 c [] (by simp) (fun j u hj => by simp at hj) (fun u hu => by cases hu)
    have hr := run_append_nothing (P := P) w t t ty e i ht hi none 0 0 (Nat.le_refl _) _ hsrc
    refine ⟨_, _, hr, ⟨hdl, .inl ⟨rfl, hm⟩⟩, Kept.refl _ _, fun b hb => by simp [Value.ownBlock] at hb⟩
  · rcases h with ⟨h0, _⟩ | ⟨g0, cap0, cur, hv, hbg, hg, hnc, hcc, hcm, htake⟩
    · cases h0
    · injection hv with hA hn hc
      injection hA with hA
      injection hA with hA
      subst hA hc
      have hnews : ∀ j u, (xs.drop (k * i.size))[j]? = some u → w.cell? (a.add j) = some u := by
        intro j u hj
        rw [ha (by omega), addr_add, hg.cell]
        rw [List.getElem?_drop, ← htake, List.getElem?_take] at hj
        split at hj
        · simpa using hj
        · cases hj
      have hbs : (n - k) * bytes ≤ n * bytes := Nat.mul_le_mul_right _ (by omega)
      obtain ⟨cap', w', hr, h2, h3⟩ := run_append_none (P := P) (t := t) (ty := ty) (w := w) (base := base) ht hi hz rfl hby hzs a (n - k) c _ hdl hnews (by omega) (by omega) (by omega) hbase
      exact ⟨_, _, hr, h2, h3, fun b hb => by
        have : w.heap.size = b := by simpa [Value.ownBlock] using hb
        omega⟩

/-- append(s[:k:k], r...). -/
theorem run_glue {t ty e : TypeId} {i : TypeInfo} {z : Value} {s bytes : Nat} (ht : P.underlying t = some (.slice e)) (hi : P.info? e = some i) (hz : i.zero = some z) (hsize : i.size = s) (hby : i.bytes = bytes) (hzs : z.cells.size = s)
    {g n cap : Nat} {xs : List Value} (h : RowS w base e s (.slice (some ⟨g, 0, none⟩) n cap) n xs) {k : Nat} (hk : k ≤ n) {rv : Value} {m : Nat} {news : List Value} (hr : RowS w base e s rv m news) (h1 : ∀ u ∈ news, u.oneCell' = true)
    (h63 : k + m ≤ maxLen) (hbytes : (k + m) * bytes ≤ 140737488355328) (hbase : base ≤ w.heap.size) :
    ∃ g' cap' w', (Builtin.append_ #[t, t] ty #[.slice (some ⟨g, 0, none⟩) k k, rv]).run P w = .ok (.slice (some ⟨g', 0, none⟩) (k + m) cap') w' ∧
      RowS w' base e s (.slice (some ⟨g', 0, none⟩) (k + m) cap') (k + m) (xs.take (k * s) ++ news) ∧ Kept (fun b => g ≠ b) w w' ∧ (g' = g ∨ g' = w.heap.size) := by
  subst hsize
  obtain ⟨hxl, h⟩ := h
  obtain ⟨hnl, hr⟩ := hr
  rcases h with ⟨h0, _⟩ | ⟨g0, cap0, cur, hv, hbg, hg, hnc, hcc, hcm, htake⟩
  · cases h0
  · injection hv with hA hn hc
    injection hA with hA
    injection hA with hA
    subst hA hc
    have hks : k * i.size ≤ n * i.size := Nat.mul_le_mul_right _ hk
    have hkc : k * i.size ≤ cap * i.size := Nat.mul_le_mul_right _ (by omega)
    have htk : cur.toList.take (k * i.size) = xs.take (k * i.size) := by rw [← htake, List.take_take, Nat.min_eq_left hks]
    have hxk : (xs.take (k * i.size)).length = k * i.size := by rw [List.length_take, hxl, Nat.min_eq_left hks]
    by_cases hm : m = 0
    · subst hm
      have hnil : news = [] := List.eq_nil_of_length_eq_zero (by simpa using hnl)
      subst hnil
      have hsrc : Src P i.size t rv 0 [] w := by
        rcases hr with ⟨rfl, _⟩ | ⟨g2, cap2, cur2, rfl, _⟩
        · exact Src.ofNil w ht 0
        · exact Src.ofSlice w ht _ 0 _ [] (by simp) (fun j u hj => by simp at hj) (fun u hu => by cases hu)
      have hr := run_append_nothing (P := P) w t t ty e i ht hi (some ⟨g, 0, none⟩) k k (Nat.le_refl _) _ hsrc
      rw [Nat.add_zero, List.append_nil]
      exact ⟨_, _, _, hr, ⟨hxk, .inr ⟨g, k, cur, rfl, hbg, hg, Nat.le_refl _, by omega, by omega, htk⟩⟩, Kept.refl _ _, .inl rfl⟩
    · rcases hr with ⟨_, h0⟩ | ⟨g2, cap2, cur2, rfl, _, hg2, hnc2, hcc2, hcm2, htake2⟩
      · exact absurd h0 hm
      · have hnews : ∀ j u, news[j]? = some u → w.cell? ((⟨g2, 0, none⟩ : Addr).add j) = some u := by
          intro j u hj
          rw [addr_add, Nat.zero_add, hg2.cell]
          rw [← htake2, List.getElem?_take] at hj
          split at hj
          · simpa using hj
          · cases hj
        exact run_append_blk (P := P) (t := t) (ty := ty) (w := w) (base := base) ht hi hz rfl hby hzs hg hbg (Nat.le_refl k) (by omega) (by omega) htk hxk _ m cap2 news hnl hnews h1 (by omega) h63 hbytes hbase
end
end Ytghcojaggplkkaa
end Go.Proofs
