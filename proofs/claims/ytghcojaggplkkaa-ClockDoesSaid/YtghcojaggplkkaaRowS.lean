/-
  append onto a row of elements of s cells, whose slice may be shorter than its block.
-/
import Derived.Test.YtghcojaggplkkaaRefA
set_option maxHeartbeats 400000
namespace Go.Proofs
open Go.RowKit
namespace Ytghcojaggplkkaa
section
variable {P : Program} {w : World}
/-- A new array: what is behind a growing append. -/
theorem rowS_grown {base : Nat} {e : TypeId} {s : Nat} {z : Value} (hzs : z.cells.size = s) {xs : List Value} {N old : Nat} (hN : xs.length = N * s) (h63 : N ≤ maxLen) (hbase : base ≤ w.heap.size) :
    RowS (w.drew.alloc (.cells (xs.toArray ++ Builtin.zeroCells z.cells (grownCap w N old e - N)) e)) base e s (.slice (some ⟨w.heap.size, 0, none⟩) N (grownCap w N old e)) N xs ∧
      Kept (fun _ => True) w (w.drew.alloc (.cells (xs.toArray ++ Builtin.zeroCells z.cells (grownCap w N old e - N)) e)) := by
  have hge := grownCap_ge w N old e
  refine ⟨⟨hN, .inr ⟨w.heap.size, _, _, rfl, hbase, heap_alloc_new w.drew _, hge, ?_, grownCap_le_maxLen w N old e h63, ?_⟩⟩, ((Kept.refl _ w).drew.alloc _)⟩
  · simp only [Array.size_append, List.size_toArray, size_zeroCells, hzs, hN]
    rw [← Nat.add_mul]
    exact Nat.mul_le_mul_right _ (by omega)
  · rw [← hN]
    simp

/-- append onto the first n elements of a block, of m elements that lie at a. -/
theorem run_append_blk {t ty e : TypeId} {i : TypeInfo} {z : Value} {s bytes base : Nat} (ht : P.underlying t = some (.slice e)) (hi : P.info? e = some i) (hz : i.zero = some z) (hsize : i.size = s) (hby : i.bytes = bytes) (hzs : z.cells.size = s)
    {g n cap : Nat} {cur : Array Value} {xs : List Value} (hg : Blk w g e cur) (hbg : base ≤ g) (hnc : n ≤ cap) (hcc : cap * s ≤ cur.size) (hcm : cap ≤ maxLen) (htake : cur.toList.take (n * s) = xs) (hxl : xs.length = n * s)
    (a : Addr) (m c : Nat) (news : List Value) (hl : news.length = m * s) (hnews : ∀ j u, news[j]? = some u → w.cell? (a.add j) = some u) (h1 : ∀ u ∈ news, u.oneCell' = true) (hm : 0 < m)
    (h63 : n + m ≤ maxLen) (hbytes : (n + m) * bytes ≤ 140737488355328) (hbase : base ≤ w.heap.size) :
    ∃ g' cap' w', (Builtin.append_ #[t, t] ty #[.slice (some ⟨g, 0, none⟩) n cap, .slice (some a) m c]).run P w = .ok (.slice (some ⟨g', 0, none⟩) (n + m) cap') w' ∧
      RowS w' base e s (.slice (some ⟨g', 0, none⟩) (n + m) cap') (n + m) (xs ++ news) ∧ Kept (fun b => g ≠ b) w w' ∧ (g' = g ∨ g' = w.heap.size) := by
  subst hby hsize
  have hsmall : n + m ≤ 9223372036854775807 := by simp only [maxLen] at h63; omega
  have hN : (xs ++ news).length = (n + m) * i.size := by rw [List.length_append, hxl, hl, Nat.add_mul]
  by_cases hroom : n + m ≤ cap
  · have hfit : n * i.size + news.length ≤ cur.size := by
      rw [hl, ← Nat.add_mul]
      exact Nat.le_trans (Nat.mul_le_mul_right _ hroom) hcc
    have hr := run_append_room (P := P) w t ty e i ht hi g n cap cur hg a m c news hl hnews h1 hroom hfit
    refine ⟨g, cap, _, hr, ⟨hN, .inr ⟨g, cap, _, rfl, hbg, setRow_heap w g cur _ e _ hg, hroom, ?_, hcm, ?_⟩⟩, ⟨rfl, rfl, rfl, by simp [World.setRow], fun j _ hj => setRow_other w g j _ (Ne.symm hj)⟩, .inl rfl⟩
    · simp only [List.size_toArray, List.length_append, List.length_take, List.length_drop, Array.length_toList]
      omega
    · rw [htake, ← hN]
      exact List.take_left
  · have holds : ∀ j u, xs[j]? = some u → w.cell? ((⟨g, 0, none⟩ : Addr).add j) = some u := by
      intro j u hj
      rw [addr_add, Nat.zero_add, hg.cell]
      rw [← htake, List.getElem?_take] at hj
      split at hj
      · simpa using hj
      · cases hj
    have hr := run_append_grow (P := P) w t ty e i z ht hi hz ⟨g, 0, none⟩ n cap xs hxl holds a m c news hl hnews (by omega) (by omega) (growslice_fits (by omega) hbytes)
    obtain ⟨h2, h3⟩ := rowS_grown (w := w) (base := base) (e := e) hzs (xs := xs ++ news) (N := n + m) (old := cap) hN h63 hbase
    have e2 : xs.toArray ++ news.toArray = (xs ++ news).toArray := by simp
    rw [e2] at hr
    exact ⟨_, _, _, hr, h2, h3.mono fun _ _ _ => trivial, .inr rfl⟩
/-- append onto nothing. -/
theorem run_append_none {t ty e : TypeId} {i : TypeInfo} {z : Value} {s bytes base : Nat} (ht : P.underlying t = some (.slice e)) (hi : P.info? e = some i) (hz : i.zero = some z) (hsize : i.size = s) (hby : i.bytes = bytes) (hzs : z.cells.size = s)
    (a : Addr) (m c : Nat) (news : List Value) (hl : news.length = m * s) (hnews : ∀ j u, news[j]? = some u → w.cell? (a.add j) = some u) (hm : 0 < m)
    (h63 : m ≤ maxLen) (hbytes : m * bytes ≤ 140737488355328) (hbase : base ≤ w.heap.size) :
    ∃ cap' w', (Builtin.append_ #[t, t] ty #[.slice none 0 0, .slice (some a) m c]).run P w = .ok (.slice (some ⟨w.heap.size, 0, none⟩) m cap') w' ∧
      RowS w' base e s (.slice (some ⟨w.heap.size, 0, none⟩) m cap') m news ∧ Kept (fun _ => True) w w' := by
  subst hby hsize
  have hr := run_append_nil (P := P) w t ty e i z ht hi hz a m c news hl hnews hm (by simp only [maxLen] at h63; omega) (by omega)
  obtain ⟨h2, h3⟩ := rowS_grown (w := w) (base := base) (e := e) hzs (xs := news) (N := m) (old := 0) hl h63 hbase
  exact ⟨_, _, hr, h2, h3⟩
end
end Ytghcojaggplkkaa
end Go.Proofs
