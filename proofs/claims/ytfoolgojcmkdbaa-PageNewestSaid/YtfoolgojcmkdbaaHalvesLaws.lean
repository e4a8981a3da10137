/-
  The halves of a page that is cut: they may be; each key is in just one of them: in plain Lean.
-/
import Derived.Test.YtfoolgojcmkdbaaCheckLaws
import Derived.Test.YtfoolgojcmkdbaaFind
set_option maxHeartbeats 1000000
namespace Go.Proofs.Ytfoolgojcmkdbaa
def lp (p : Page) (key : ByteArray) (at_ : Int) (i k : Nat) : Page := ⟨p.level, p.low, key, false, at_, p.items.take i, p.kids.take k⟩
def rp (p : Page) (key : ByteArray) (i k : Nat) : Page := ⟨p.level, key, p.high, p.last, p.side, p.items.drop i, p.kids.drop k⟩
/-- Where a page may be cut. -/
structure Cut (p : Page) (key : ByteArray) (at_ : Int) (i k : Nat) : Prop where
  chk : check p = true
  key_ : isKey key = true
  low : key ≠ p.low
  cov : covers p key = true
  page : isPage at_ = true
  ati : ∃ f, At (p.items.map (·.key)) key i f
  atk : ∃ g, At (p.kids.map (·.key)) key k g ∧ (p.level = 0 ∨ g = true)
section
variable {p : Page} {key : ByteArray} {at_ : Int} {i k : Nat}
theorem covers_iff {p : Page} {q : ByteArray} : covers p q = true ↔ lt q p.low = false ∧ (p.last = true ∨ lt q p.high = true) := by
  unfold covers
  simp [Bool.and_eq_true, Bool.or_eq_true]
theorem Cut.low_lt (h : Cut p key at_ i k) : lt p.low key = true := by
  cases h1 : lt p.low key with
  | true => rfl
  | false => exact absurd (lt_total (covers_iff.1 h.cov).1 h1) h.low
theorem any_sub {α : Type} {f : α → Bool} {l m : List α} (h : l.any f = false) (hs : ∀ x ∈ m, x ∈ l) : m.any f = false := by
  rw [List.any_eq_false] at h ⊢
  exact fun x hx => h x (hs x hx)
theorem At.take_lt {ks : List ByteArray} {q : ByteArray} {i : Nat} {f : Bool} (h : At ks q i f) {x : ByteArray} (hx : x ∈ ks.take i) : lt x q = true := by
  obtain ⟨j, hj⟩ := List.getElem?_of_mem hx
  rw [List.getElem?_take] at hj
  split at hj
  · next hlt => exact h.lo j x hlt hj
  · cases hj
theorem At.drop_ge {ks : List ByteArray} {q : ByteArray} {i : Nat} {f : Bool} (h : At ks q i f) {x : ByteArray} (hx : x ∈ ks.drop i) : lt x q = false := by
  obtain ⟨j, hj⟩ := List.getElem?_of_mem hx
  rw [List.getElem?_drop] at hj
  exact h.hi (i + j) x (Nat.le_add_right _ _) hj
theorem bounds_l (h : Cut p key at_ i k) : bounds (lp p key at_ i k) = true := by
  have hb := (check_iff.1 h.chk).1
  have h1 := h.low_lt
  have h2 := h.key_
  have h3 := h.page
  unfold bounds at hb ⊢
  simp only [Bool.and_eq_true] at hb ⊢
  exact ⟨hb.1, hb.2.1, hb.2.2.1, by simp [lp, h1, h2, h3]⟩
theorem key_size (h : isKey key = true) : (key.size : Int) ≤ 16 := by
  unfold isKey at h
  simp only [Bool.and_eq_true, decide_eq_true_eq] at h
  exact h.2
theorem bounds_r (h : Cut p key at_ i k) : bounds (rp p key i k) = true := by
  have hb := (check_iff.1 h.chk).1
  have h1 := key_size h.key_
  have hc := (covers_iff.1 h.cov).2
  unfold bounds at hb ⊢
  simp only [Bool.and_eq_true, decide_eq_true_eq] at hb ⊢
  refine ⟨h1, hb.2.1, hb.2.2.1, ?_⟩
  have hb3 := hb.2.2.2
  show (if p.last then !(nonEmpty p.high) && decide (p.side = 0) else isKey p.high && (lt key p.high && isPage p.side)) = true
  by_cases hl : p.last = true
  · rw [if_pos hl] at hb3 ⊢
    exact hb3
  · rw [if_neg hl] at hb3 ⊢
    have hc2 : lt key p.high = true := hc.resolve_left hl
    simp only [Bool.and_eq_true] at hb3 ⊢
    exact ⟨hb3.1, hc2, hb3.2.2⟩
theorem Cut.kpos (h : Cut p key at_ i k) (hl : p.level ≠ 0) : 1 ≤ k ∧ ∃ x, p.kids[k]? = some x ∧ x.key = key := by
  obtain ⟨g, hg, hlg⟩ := h.atk
  have hg1 : g = true := hlg.resolve_left hl
  subst hg1
  have hin : Inner p := (check_iff.1 h.chk).2.2 hl
  have h1 : (p.kids.map (·.key))[k]? = some key := by simpa using hg.is.symm
  obtain ⟨x, hx, hxk⟩ : ∃ x, p.kids[k]? = some x ∧ x.key = key := by simpa [Option.map_eq_some_iff] using h1
  refine ⟨?_, x, hx, hxk⟩
  rcases Nat.eq_zero_or_pos k with h0 | h0
  · exfalso
    subst h0
    have hh : p.kids.headD default = x := by rw [List.headD_eq_head?_getD, List.head?_eq_getElem?, hx]; rfl
    have := hin.head
    rw [hh, hxk] at this
    exact h.low this
  · exact h0
theorem check_l (h : Cut p key at_ i k) : check (lp p key at_ i k) = true := by
  obtain ⟨_, hlf, hin⟩ := check_iff.1 h.chk
  obtain ⟨f, hf⟩ := h.ati
  obtain ⟨g, hg, _⟩ := h.atk
  refine check_iff.2 ⟨bounds_l h, fun hl => ?_, fun hl => ?_⟩
  · have L := hlf hl
    refine ⟨by simp [lp, L.kids], by simp only [lp, List.length_take]; have := L.len; omega, any_sub L.good fun x hx => List.mem_of_mem_take hx, ?_, fun q hq => ?_⟩
    · simp only [lp, List.map_take]
      exact List.Pairwise.sublist (List.take_sublist _ _) L.sorted
    · simp only [lp, List.map_take] at hq
      have h1 := L.cov q (List.mem_of_mem_take hq)
      exact covers_iff.2 ⟨(covers_iff.1 h1).1, .inr (hf.take_lt hq)⟩
  · have L := hin hl
    obtain ⟨hk, x, hx, hxk⟩ := h.kpos hl
    have hlt := (List.getElem?_eq_some_iff.1 hx).1
    refine ⟨by simp [lp, L.items], ?_, ?_, any_sub L.good fun x hx => List.mem_of_mem_take hx, ?_, fun q hq => ?_⟩
    · simp only [lp, List.length_take]
      have := L.len
      omega
    · have := L.head
      simp only [lp]
      rw [← this, List.headD_eq_head?_getD, List.headD_eq_head?_getD, List.head?_eq_getElem?, List.head?_eq_getElem?, List.getElem?_take, if_pos (by omega)]
    · simp only [lp, List.map_take]
      exact List.Pairwise.sublist (List.take_sublist _ _) L.sorted
    · simp only [lp, List.map_take] at hq
      have h1 := L.cov q (List.mem_of_mem_take hq)
      exact covers_iff.2 ⟨(covers_iff.1 h1).1, .inr (hg.take_lt hq)⟩
theorem check_r (h : Cut p key at_ i k) : check (rp p key i k) = true := by
  obtain ⟨_, hlf, hin⟩ := check_iff.1 h.chk
  obtain ⟨f, hf⟩ := h.ati
  obtain ⟨g, hg, _⟩ := h.atk
  refine check_iff.2 ⟨bounds_r h, fun hl => ?_, fun hl => ?_⟩
  · have L := hlf hl
    refine ⟨by simp [rp, L.kids], by simp only [rp, List.length_drop]; have := L.len; omega, any_sub L.good fun x hx => List.mem_of_mem_drop hx, ?_, fun q hq => ?_⟩
    · simp only [rp, List.map_drop]
      exact List.Pairwise.sublist (List.drop_sublist _ _) L.sorted
    · simp only [rp, List.map_drop] at hq
      have h1 := L.cov q (List.mem_of_mem_drop hq)
      exact covers_iff.2 ⟨hf.drop_ge hq, (covers_iff.1 h1).2⟩
  · have L := hin hl
    obtain ⟨hk, x, hx, hxk⟩ := h.kpos hl
    have hlt := (List.getElem?_eq_some_iff.1 hx).1
    refine ⟨by simp [rp, L.items], ?_, ?_, any_sub L.good fun x hx => List.mem_of_mem_drop hx, ?_, fun q hq => ?_⟩
    · simp only [rp, List.length_drop]
      have := L.len
      omega
    · simp only [rp]
      rw [List.headD_eq_head?_getD, List.head?_eq_getElem?, List.getElem?_drop, Nat.add_zero, hx]
      exact hxk
    · simp only [rp, List.map_drop]
      exact List.Pairwise.sublist (List.drop_sublist _ _) L.sorted
    · simp only [rp, List.map_drop] at hq
      have h1 := L.cov q (List.mem_of_mem_drop hq)
      exact covers_iff.2 ⟨hg.drop_ge hq, (covers_iff.1 h1).2⟩
theorem covers_one (h : Cut p key at_ i k) (o : ByteArray) : covers p o = (covers (lp p key at_ i k) o || covers (rp p key i k) o) ∧ (covers (lp p key at_ i k) o && covers (rp p key i k) o) = false := by
  have h1 := h.low_lt
  have h2 := (covers_iff.1 h.cov).2
  unfold covers
  simp only [lp, rp]
  cases ha : lt o key with
  | true =>
    cases hb : lt o p.low with
    | true => simp
    | false =>
      refine ⟨?_, by simp⟩
      rcases h2 with h2 | h2
      · simp [h2]
      · simp [lt_trans ha h2]
  | false =>
    cases hb : lt o p.low with
    | true =>
      rw [lt_trans hb h1] at ha
      cases ha
    | false => simp
theorem find_one (h : Cut p key at_ i k) (o : ByteArray) : (find p.items o).2 = ((find (p.items.take i) o).2 || (find (p.items.drop i) o).2) ∧ ((find (p.items.take i) o).2 && (find (p.items.drop i) o).2) = false ∧
    ((find (p.items.take i) o).2 = true → (find p.items o).1 = (find (p.items.take i) o).1) ∧ ((find (p.items.drop i) o).2 = true → (find p.items o).1 = (find (p.items.drop i) o).1) := by
  obtain ⟨f, hf⟩ := h.ati
  have e : p.items.find? (keyIs o) = ((p.items.take i).find? (keyIs o)).or ((p.items.drop i).find? (keyIs o)) := by
    rw [← List.find?_append, List.take_append_drop]
  unfold find
  rw [e]
  cases h1 : (p.items.take i).find? (keyIs o) with
  | none =>
    cases h2 : (p.items.drop i).find? (keyIs o) with
    | none => simp
    | some y => simp
  | some x =>
    cases h2 : (p.items.drop i).find? (keyIs o) with
    | none => simp
    | some y =>
      exfalso
      have a1 : x.key = o := toList_inj (by simpa [keyIs] using List.find?_some h1)
      have a2 : y.key = o := toList_inj (by simpa [keyIs] using List.find?_some h2)
      have b1 := hf.take_lt (x := x.key) (by rw [← List.map_take]; exact List.mem_map.2 ⟨x, List.mem_of_find?_eq_some h1, rfl⟩)
      have b2 := hf.drop_ge (x := y.key) (by rw [← List.map_drop]; exact List.mem_map.2 ⟨y, List.mem_of_find?_eq_some h2, rfl⟩)
      rw [a1] at b1
      rw [a2, b1] at b2
      cases b2
theorem halves_back (p : Page) (key : ByteArray) (at_ : Int) (i k : Nat) : (⟨(lp p key at_ i k).level, (lp p key at_ i k).low, (rp p key i k).high, (rp p key i k).last, (rp p key i k).side, (lp p key at_ i k).items ++ (rp p key i k).items, (lp p key at_ i k).kids ++ (rp p key i k).kids⟩ : Page) = p := by
  simp [lp, rp]
end
end Go.Proofs.Ytfoolgojcmkdbaa
