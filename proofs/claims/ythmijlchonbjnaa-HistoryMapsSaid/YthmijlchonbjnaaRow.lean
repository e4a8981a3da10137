/-
  Slices whose elements take k cells each: to read, and of one's own; append.
-/
import Derived.Test.YthmijlchonbjnaaProg
import Derived.Test.YthmijlchonbjnaaRowK
import Derived.Deep.DrawnRows
import Derived.StillTailTactics
import Derived.WalkLawsBesides
import Derived.Shelf.Abstract
import Derived.Deep.AppendSrc
import Derived.Deep.Upon
set_option maxHeartbeats 400000
namespace Go.Proofs
open Go.RowKit
theorem info_parts {P : Program} {e : TypeId} {z : Option Value} {s b : Nat} (h : (P.info? e).map (fun i => (i.zero, i.size, i.bytes)) = some (z, s, b)) : ∃ i, P.info? e = some i ∧ i.zero = z ∧ i.size = s ∧ i.bytes = b := by
  cases hi : P.info? e with
  | none => rw [hi] at h; cases h
  | some i =>
    rw [hi] at h
    simp only [Option.map_some, Option.some.injEq, Prod.mk.injEq] at h
    exact ⟨i, rfl, h.1, h.2.1, h.2.2⟩
namespace Ythmijlchonbjnaa
/-- The slice value v reads as the list l, each element of k cells. -/
def RdK {α : Type} (k : Nat) (enc : α → List Value) (w : World) (v : Value) (l : List α) : Prop :=
  ∃ A c, v = .slice A l.length c ∧ l.length ≤ c ∧ ∀ i x, l[i]? = some x → ∃ b off, A = some ⟨b, off, none⟩ ∧ b < w.heap.size ∧ ∀ j u, (enc x)[j]? = some u → w.cell? ⟨b, off + i * k + j, none⟩ = some u
section
variable {α : Type} {k : Nat} {enc : α → List Value} {w w' : World} {v : Value} {l : List α}
theorem RdK.kept {K : Nat → Prop} (h : RdK k enc w v l) (hk : Kept K w w') (ho : l ≠ [] → ∀ g, v.ownBlock = some g → K g) : RdK k enc w' v l := by
  obtain ⟨A, c, rfl, hlc, hA⟩ := h
  refine ⟨A, c, rfl, hlc, fun i x hx => ?_⟩
  obtain ⟨b, off, ha, hb, h1⟩ := hA i x hx
  have hne : l ≠ [] := fun e => by rw [e] at hx; simp at hx
  exact ⟨b, off, ha, Nat.lt_of_lt_of_le hb hk.size, fun j u hu => (hk.cell (p := ⟨b, off + i * k + j, none⟩) hb (ho hne b (by rw [ha]; rfl))).trans (h1 j u hu)⟩
theorem RdK.all (h : RdK k enc w v l) (hk : Kept (fun _ => True) w w') : RdK k enc w' v l := h.kept hk fun _ _ _ => trivial
theorem RdK.nil (w : World) : RdK k enc w (.slice none 0 0) [] := ⟨none, 0, rfl, Nat.le_refl _, fun i x hx => by simp at hx⟩
theorem RdK.form (h : RdK k enc w v l) : ∃ A c, v = .slice A l.length c := by
  obtain ⟨A, c, rfl, _⟩ := h
  exact ⟨A, c, rfl⟩
theorem RdK.some_ (h : RdK k enc w v l) (hne : l ≠ []) : ∃ b off c, v = .slice (some ⟨b, off, none⟩) l.length c ∧ l.length ≤ c ∧ b < w.heap.size ∧ ∀ i x, l[i]? = some x → ∀ j u, (enc x)[j]? = some u → w.cell? ⟨b, off + i * k + j, none⟩ = some u := by
  obtain ⟨A, c, rfl, hlc, hA⟩ := h
  obtain ⟨x, l', rfl⟩ : ∃ x l', l = x :: l' := by
    cases l with
    | nil => exact absurd rfl hne
    | cons x l' => exact ⟨x, l', rfl⟩
  obtain ⟨b, off, rfl, hb, _⟩ := hA 0 x rfl
  refine ⟨b, off, c, rfl, hlc, hb, fun i y hy => ?_⟩
  obtain ⟨b2, off2, he, _, h1⟩ := hA i y hy
  injection he with he
  injection he with he1 he2
  subst he1 he2
  exact h1
end
/-- The slice value v holds the list l at the head of a block that nobody else has. -/
def RowN {α : Type} (k : Nat) (enc : α → List Value) (w : World) (base : Nat) (e : TypeId) (v : Value) (l : List α) : Prop :=
  (v = .slice none 0 0 ∧ l = []) ∨
  ∃ g cap cur, v = .slice (some ⟨g, 0, none⟩) l.length cap ∧ base ≤ g ∧ Blk w g e cur ∧ l.length ≤ cap ∧ cap * k ≤ cur.size ∧ cap ≤ maxLen ∧ cur.toList.take (l.length * k) = l.flatMap enc
/-- k cells each, none of them a row of cells. -/
structure Enc {α : Type} (k : Nat) (enc : α → List Value) : Prop where
  len : ∀ x, (enc x).length = k
  one : ∀ x, ∀ u ∈ enc x, u.oneCell' = true
section
variable {α : Type} {k : Nat} {enc : α → List Value} (E : Enc k enc)
include E
theorem flat_len (l : List α) : (l.flatMap enc).length = l.length * k := by
  induction l with
  | nil => simp
  | cons x l ih => rw [List.flatMap_cons, List.length_append, E.len, ih, List.length_cons, Nat.add_mul, Nat.one_mul, Nat.add_comm]
theorem flat_one (l : List α) : ∀ u ∈ l.flatMap enc, u.oneCell' = true := by
  intro u hu
  obtain ⟨x, _, h⟩ := List.mem_flatMap.1 hu
  exact E.one x u h
theorem flat_get : ∀ (l : List α) (i : Nat) (x : α) (j : Nat) (u : Value), l[i]? = some x → (enc x)[j]? = some u → (l.flatMap enc)[i * k + j]? = some u
  | [], i, x, j, u, h, _ => by simp at h
  | y :: l, 0, x, j, u, h, hu => by
    simp at h
    subst h
    rw [List.flatMap_cons, Nat.zero_mul, Nat.zero_add, List.getElem?_append_left (by have := (List.getElem?_eq_some_iff.1 hu).1; omega)]
    exact hu
  | y :: l, i + 1, x, j, u, h, hu => by
    have h' : l[i]? = some x := by simpa using h
    rw [List.flatMap_cons, List.getElem?_append_right (by rw [E.len, Nat.add_mul]; omega), E.len]
    have e : (i + 1) * k + j - k = i * k + j := by rw [Nat.add_mul]; omega
    rw [e]
    exact flat_get l i x j u h' hu
theorem flat_get' (l : List α) (n : Nat) (u : Value) (h : (l.flatMap enc)[n]? = some u) (hk : 0 < k) : ∃ x, l[n / k]? = some x ∧ (enc x)[n % k]? = some u := by
  have hn : n < l.length * k := by
    have := (List.getElem?_eq_some_iff.1 h).1
    rwa [flat_len E] at this
  have hd : n / k < l.length := (Nat.div_lt_iff_lt_mul hk).2 hn
  obtain ⟨x, hx⟩ : ∃ x, l[n / k]? = some x := ⟨_, List.getElem?_eq_getElem hd⟩
  obtain ⟨v, hv⟩ : ∃ v, (enc x)[n % k]? = some v := ⟨_, List.getElem?_eq_getElem (by rw [E.len]; exact Nat.mod_lt _ hk)⟩
  have h2 := flat_get E l (n / k) x (n % k) v hx hv
  rw [Nat.mul_comm, Nat.div_add_mod] at h2
  rw [h] at h2
  injection h2 with h2
  exact ⟨x, hx, by rw [hv, h2]⟩
end
section
variable {α : Type} {k : Nat} {enc : α → List Value} {w w' : World} {base : Nat} {e : TypeId} {v : Value} {l : List α}
theorem RowN.nil (w : World) (base : Nat) (e : TypeId) : RowN k enc w base e (.slice none 0 0) [] := .inl ⟨rfl, rfl⟩
theorem RowN.kept {K : Nat → Prop} (h : RowN k enc w base e v l) (hk : Kept K w w') (ho : ∀ g, v.ownBlock = some g → K g) : RowN k enc w' base e v l := by
  rcases h with h | ⟨g, cap, cur, hv, hb, hh, r⟩
  · exact .inl h
  · subst hv
    exact .inr ⟨g, cap, cur, rfl, hb, hh.kept hk (ho g rfl), r⟩
theorem RowN.all (h : RowN k enc w base e v l) (hk : Kept (fun _ => True) w w') : RowN k enc w' base e v l := h.kept hk fun _ _ => trivial
theorem RowN.low {base' : Nat} (h : RowN k enc w base e v l) (hb : base' ≤ base) : RowN k enc w base' e v l := by
  rcases h with h | ⟨g, cap, cur, hv, hg, r⟩
  · exact .inl h
  · exact .inr ⟨g, cap, cur, hv, Nat.le_trans hb hg, r⟩
theorem RowN.form (h : RowN k enc w base e v l) : ∃ A c, v = .slice A l.length c := by
  rcases h with ⟨rfl, rfl⟩ | ⟨g, cap, cur, rfl, _⟩
  · exact ⟨_, _, rfl⟩
  · exact ⟨_, _, rfl⟩
theorem RowN.lt (h : RowN k enc w base e v l) {g : Nat} (hg : v.ownBlock = some g) : g < w.heap.size ∧ base ≤ g := by
  rcases h with ⟨rfl, _⟩ | ⟨g', cap, cur, rfl, hb, hh, _⟩
  · simp [Value.ownBlock] at hg
  · have : g' = g := by simpa [Value.ownBlock] using hg
    subst this
    exact ⟨hh.lt, hb⟩
theorem RowN.blk (h : RowN k enc w base e v l) {g : Nat} (hg : v.ownBlock = some g) : ∃ cs, Blk w g e cs := by
  rcases h with ⟨rfl, _⟩ | ⟨g', cap, cur, rfl, hb, hh, _⟩
  · simp [Value.ownBlock] at hg
  · have : g' = g := by simpa [Value.ownBlock] using hg
    subst this
    exact ⟨cur, hh⟩
theorem RowN.rd (E : Enc k enc) (h : RowN k enc w base e v l) : RdK k enc w v l := by
  rcases h with ⟨rfl, rfl⟩ | ⟨g, cap, cur, rfl, hb, hh, hc, _, _, ht⟩
  · exact RdK.nil w
  · refine ⟨_, cap, rfl, hc, fun i x hx => ⟨g, 0, rfl, hh.lt, fun j u hu => ?_⟩⟩
    have h1 := flat_get E l i x j u hx hu
    rw [Nat.zero_add, hh.cell]
    rw [← ht, List.getElem?_take] at h1
    split at h1
    · simpa using h1
    · cases h1
theorem RdK.src {P : Program} {t : TypeId} (E : Enc k enc) (hk0 : 0 < k) (ht : P.underlying t = some (.slice e)) (h : RdK k enc w v l) : Src P k t v l.length (l.flatMap enc) w := by
  by_cases hne : l = []
  · subst hne
    obtain ⟨A, c, rfl, _⟩ := h
    cases A with
    | none => exact Src.ofNil w ht c
    | some a => exact Src.ofSlice w ht a 0 c [] (by simp) (fun j u hj => by simp at hj) (fun u hu => by cases hu)
  · obtain ⟨b, off, c, rfl, _, _, hc⟩ := h.some_ hne
    refine Src.ofSlice w ht _ _ _ _ (flat_len E l) (fun j u hj => ?_) (flat_one E l)
    obtain ⟨x, hx, hu⟩ := flat_get' E l j u hj hk0
    rw [addr_add]
    have := hc (j / k) x hx (j % k) u hu
    have hdm := Nat.div_add_mod j k
    rw [Nat.mul_comm] at hdm
    rw [Nat.add_assoc, hdm] at this
    exact this
/-- append(v, x...). -/
theorem run_append_rowN {P : Program} {t ty : TypeId} {z : Value} {bytes : Nat} (E : Enc k enc) (hk0 : 0 < k) (ht : P.underlying t = some (.slice e)) (hi : (P.info? e).map (fun i => (i.zero, i.size, i.bytes)) = some (some z, k, bytes)) (hz : z.cells.size = k)
    {x : Value} {m : List α} (h : RowN k enc w base e v l) (hx : RdK k enc w x m) (h63 : l.length + m.length ≤ maxLen) (hbytes : (l.length + m.length) * bytes ≤ 140737488355328) (hbase : base ≤ w.heap.size) :
    ∃ v' w', (Builtin.append_ #[t, t] ty #[v, x]).run P w = .ok v' w' ∧ RowN k enc w' base e v' (l ++ m) ∧ Kept (fun b => v.ownBlock ≠ some b) w w' ∧ (v'.ownBlock = v.ownBlock ∨ v'.ownBlock = some w.heap.size) ∧ w.heap.size ≤ w'.heap.size := by
  obtain ⟨i, hi0, hz0, hs1, hb1⟩ := info_parts hi
  have hsrc := hx.src (P := P) (t := t) E hk0 ht
  have hsrc' : Src P i.size t x m.length (m.flatMap enc) w := by rw [hs1]; exact hsrc
  have hsmall : l.length + m.length ≤ 9223372036854775807 := by simp only [maxLen] at h63; omega
  have hfl : ((l ++ m).flatMap enc) = l.flatMap enc ++ m.flatMap enc := List.flatMap_append
  by_cases hm : m.length = 0
  · have hm0 : m = [] := List.eq_nil_of_length_eq_zero hm
    subst hm0
    obtain ⟨A, c, hv⟩ := h.form
    subst hv
    have hle : l.length ≤ c := by
      rcases h with ⟨h0, hx⟩ | ⟨g, cap, cur, hv, _, _, hnc, _⟩
      · rw [hx]; exact Nat.zero_le _
      · injection hv with _ _ hc
        rw [hc]; exact hnc
    have hr := run_append_nothing (P := P) w t t ty e i ht hi0 A l.length c hle x hsrc'
    exact ⟨_, _, hr, by rw [List.append_nil]; exact h, Kept.refl _ _, .inl rfl, Nat.le_refl _⟩
  · have grow : ∀ (base0 : Option Addr) (old : Nat), v = .slice base0 l.length old → old < l.length + m.length → (Builtin.firstCells i.size l.length (.slice base0 l.length old)).run P w.drew = .ok (l.flatMap enc).toArray w.drew →
        ∃ v' w', (Builtin.append_ #[t, t] ty #[v, x]).run P w = .ok v' w' ∧ RowN k enc w' base e v' (l ++ m) ∧ Kept (fun b => v.ownBlock ≠ some b) w w' ∧ (v'.ownBlock = v.ownBlock ∨ v'.ownBlock = some w.heap.size) ∧ w.heap.size ≤ w'.heap.size := fun base0 old hv ho hf => by
      subst hv
      have hr := run_append_grow_src (P := P) w t t ty e i z ht hi0 hz0 base0 l.length old (l.flatMap enc) hf x m.length (m.flatMap enc) hsrc' ho (by omega) (growslice_fits ho (by rw [hb1]; exact hbytes))
      have hge := grownCap_ge w (l.length + m.length) old e
      have hml := grownCap_le_maxLen w (l.length + m.length) old e h63
      refine ⟨_, _, hr, .inr ⟨w.heap.size, _, _, by rw [List.length_append], hbase, heap_alloc_new w.drew _, by rw [List.length_append]; exact hge, ?_, hml, ?_⟩, ((Kept.refl _ w).drew.alloc _).mono fun _ _ _ => trivial, .inr rfl, by simp⟩
      · simp only [Array.size_append, List.size_toArray, size_zeroCells, hz, List.length_append, flat_len E]
        rw [Nat.sub_mul, Nat.add_mul]
        have := Nat.mul_le_mul_right k hge
        rw [Nat.add_mul] at this
        omega
      · rw [Array.toList_append, hfl, List.length_append, List.take_append_of_le_length (by simp [flat_len E, Nat.add_mul]), List.take_of_length_le (by simp [flat_len E, Nat.add_mul])]
    rcases h with ⟨rfl, rfl⟩ | ⟨g, cap, cur, rfl, hbg, hg, hnc, hcc, hcm, htake⟩
    · exact grow none 0 rfl (by simp; omega) (run_firstCells_none w.drew _ _ _ _)
    · by_cases hroom : l.length + m.length ≤ cap
      · have hcell : ∀ j, j < (m.flatMap enc).length → (l.length * k + j) < cur.size := fun j hj => by
          rw [flat_len E] at hj
          have := Nat.mul_le_mul_right k hroom
          rw [Nat.add_mul] at this
          omega
        have hr : (Builtin.append_ #[t, t] ty #[.slice (some ⟨g, 0, none⟩) l.length cap, x]).run P w = .ok (.slice (some ⟨g, 0, none⟩) (l.length + m.length) cap) (w.setRow g (cur.toList.take (l.length * k) ++ m.flatMap enc ++ cur.toList.drop (l.length * k + (m.flatMap enc).length)).toArray) := by
          obtain ⟨b, off, c, rfl, _, _, hc⟩ := hx.some_ (fun e => hm (by rw [e]; rfl))
          have hnews : ∀ j u, (m.flatMap enc)[j]? = some u → w.cell? ((⟨b, off, none⟩ : Addr).add j) = some u := fun j u hj => by
            obtain ⟨y, hy, hu⟩ := flat_get' E m j u hj hk0
            rw [addr_add]
            have := hc (j / k) y hy (j % k) u hu
            have hdm := Nat.div_add_mod j k
            rw [Nat.mul_comm] at hdm
            rw [Nat.add_assoc, hdm] at this
            exact this
          have := run_append_room (P := P) w t ty e i ht hi0 g l.length cap cur hg ⟨b, off, none⟩ m.length c (m.flatMap enc) (by rw [hs1]; exact flat_len E m) hnews (flat_one E m) hroom (by
            rw [hs1, flat_len E]
            have := Nat.mul_le_mul_right k hroom
            rw [Nat.add_mul] at this
            omega)
          rw [hs1] at this
          exact this
        rw [htake] at hr
        refine ⟨_, _, hr, .inr ⟨g, cap, _, by rw [List.length_append], hbg, setRow_heap w g cur _ e _ hg, by rw [List.length_append]; exact hroom, ?_, hcm, ?_⟩, ⟨rfl, rfl, rfl, by simp [World.setRow], fun q _ hq => setRow_other w g q _ (fun e => hq (by simp [Value.ownBlock, e]))⟩, .inl rfl, by simp [World.setRow]⟩
        · have := Nat.mul_le_mul_right k hroom
          rw [Nat.add_mul] at this
          simp only [List.size_toArray, List.length_append, List.length_drop, Array.length_toList, flat_len E]
          omega
        · rw [hfl]
          have hl : (l ++ m).length * k = (l.flatMap enc ++ m.flatMap enc).length := by simp [flat_len E, Nat.add_mul]
          rw [hl]
          exact List.take_left
      · refine grow (some ⟨g, 0, none⟩) cap rfl (by omega) ?_
        refine run_firstCells_some w.drew _ _ _ _ _ _ (by rw [hs1]; exact flat_len E l) fun j u hj => ?_
        rw [addr_add, Nat.zero_add]
        show w.cell? _ = _
        rw [hg.cell]
        rw [← htake, List.getElem?_take] at hj
        split at hj
        · simpa using hj
        · cases hj
end
end Ythmijlchonbjnaa
end Go.Proofs
