/-
  What a history of calls done one at a time tells, in plain Lean.
-/
import Derived.Test.YthmijlchonbjnaaRight
set_option maxHeartbeats 400000
namespace Go.Proofs
namespace Ythmijlchonbjnaa
theorem toList_inj {a b : ByteArray} (h : a.toList = b.toList) : a = b := by
  rw [Lib.toList_data, Lib.toList_data] at h
  cases a; cases b
  simpa [Array.toList_inj] using h
theorem keyIs_eq {q : ByteArray} {x : Item} (h : keyIs q x = true) : x.key = q := toList_inj (by simpa [keyIs] using h)
theorem keyIs_self (x : Item) : keyIs x.key x = true := by simp [keyIs]
theorem key_bytes (x : Item) : (⟨(keyOf x).toArray⟩ : ByteArray) = x.key := by simp [keyOf]
theorem keyOf_eq {x : Item} {s : List UInt8} (h : x.key = ⟨s.toArray⟩) : keyOf x = s := by simp [keyOf, h]
/-- Each update's number is its place's. -/
def Nos (us : List Item) : Prop := ∀ (j : Nat) (y : Item), us[j]? = some y → y.no = (j : Int) + 1
theorem Nos.nil : Nos [] := fun j y h => by simp at h
theorem Nos.snoc {us : List Item} {z : Item} (h : Nos us) (hz : z.no = (us.length : Int) + 1) : Nos (us ++ [z]) := fun j y hy => by
  rcases Nat.lt_or_ge j us.length with h1 | h1
  · rw [List.getElem?_append_left h1] at hy
    exact h j y hy
  · rw [List.getElem?_append_right h1] at hy
    have h2 := (List.getElem?_eq_some_iff.1 hy).1
    have h3 : j = us.length := by simp at h2; omega
    subst h3
    simp at hy
    rw [← hy, hz]
theorem Nos.mem {us : List Item} (h : Nos us) {y : Item} (hy : y ∈ us) : 1 ≤ y.no ∧ y.no ≤ us.length := by
  obtain ⟨j, hj⟩ := List.getElem?_of_mem hy
  have := h j y hj
  have := (List.getElem?_eq_some_iff.1 hj).1
  omega
theorem Nos.inj {us : List Item} (h : Nos us) {y z : Item} (hy : y ∈ us) (hz : z ∈ us) (he : y.no = z.no) : y = z := by
  obtain ⟨j, hj⟩ := List.getElem?_of_mem hy
  obtain ⟨k, hk⟩ := List.getElem?_of_mem hz
  have h1 := h j y hj
  have h2 := h k z hk
  have : j = k := by omega
  subst this
  rw [hj] at hk
  injection hk
/-! what lies behind a number -/
theorem fold_mem (us : List Item) (q : ByteArray) (no : Int) : ∀ (s : List Item) (acc : Option Item) (x : Item), (∀ y ∈ s, y ∈ us) → (∀ y, acc = some y → y ∈ us ∧ keyIs q y = true ∧ y.no ≤ no) → s.foldl (pick q no) acc = some x → x ∈ us ∧ keyIs q x = true ∧ x.no ≤ no
  | [], acc, x, _, ha, h => ha x h
  | z :: s, acc, x, hs, ha, h => by
    refine fold_mem us q no s (pick q no acc z) x (fun y hy => hs y (List.mem_cons_of_mem _ hy)) (fun y hy => ?_) h
    unfold pick at hy
    split at hy
    · next ht =>
      injection hy with hy
      subst hy
      unfold takes at ht
      simp only [Bool.and_eq_true, decide_eq_true_eq] at ht
      exact ⟨hs _ List.mem_cons_self, ht.1, ht.2.1⟩
    · exact ha y hy
theorem lastF_mem {us : List Item} {q : ByteArray} {no : Int} {x : Item} (h : lastF us q no = some x) : x ∈ us ∧ keyIs q x = true ∧ x.no ≤ no :=
  fold_mem us q no us none x (fun _ h => h) (fun _ h => by cases h) h
theorem behindF_yes {us : List Item} {q : ByteArray} {no : Int} (h : (behindF us q no).2 = true) : (behindF us q no).1 ∈ us ∧ (behindF us q no).1.key = q ∧ (behindF us q no).1.no ≤ no ∧ lastF us q no = some (behindF us q no).1 ∧ (behindF us q no).1.gone = false := by
  unfold behindF at h ⊢
  cases hl : lastF us q no with
  | none => rw [hl] at h; cases h
  | some x =>
    rw [hl] at h
    obtain ⟨h1, h2, h3⟩ := lastF_mem hl
    simp only at h ⊢
    split at h
    · cases h
    · next hg =>
      rw [if_neg hg]
      exact ⟨h1, keyIs_eq h2, h3, rfl, by simpa using hg⟩
theorem behindF_no {us : List Item} {q : ByteArray} {no : Int} (h : (behindF us q no).2 = false) : (behindF us q no).1 = default := by
  unfold behindF at h ⊢
  cases hl : lastF us q no with
  | none => rfl
  | some x =>
    rw [hl] at h
    simp only at h ⊢
    split at h
    · next hg => simp [hg]
    · cases h
theorem fold_skip (q : ByteArray) (no : Int) : ∀ (s : List Item) (acc : Option Item), (∀ x ∈ s, no < x.no) → s.foldl (pick q no) acc = acc
  | [], _, _ => rfl
  | x :: s, acc, h => by
    have hx := h x List.mem_cons_self
    have : pick q no acc x = acc := by
      unfold pick takes
      rw [if_neg]
      simp only [Bool.and_eq_true, decide_eq_true_eq]
      omega
    rw [List.foldl_cons, this]
    exact fold_skip q no s acc fun y hy => h y (List.mem_cons_of_mem _ hy)
theorem lastF_pre (us vs : List Item) (q : ByteArray) (no : Int) (h : ∀ x ∈ vs, no < x.no) : lastF (us ++ vs) q no = lastF us q no := by
  unfold lastF
  rw [List.foldl_append, fold_skip q no vs _ h]
theorem behindF_pre (us vs : List Item) (q : ByteArray) (no : Int) (h : ∀ x ∈ vs, no < x.no) : behindF (us ++ vs) q no = behindF us q no := by
  unfold behindF
  rw [lastF_pre us vs q no h]
/-! keys -/
theorem lt_of_le_ne {x y : List UInt8} (h : x ≤ y) (hne : x ≠ y) : x < y := Classical.byContradiction fun hn => hne (List.le_antisymm h (List.not_lt.1 hn))
theorem compact_facts (d : Array (List UInt8)) (hs : ∀ i j : Nat, i < j → j < d.size → d[i]! ≤ d[j]!) : ∀ m, m ≤ d.size → (Lib.compactUpTo d m).Pairwise (· < ·) ∧ ∀ x, x ∈ Lib.compactUpTo d m ↔ ∃ j, j < m ∧ d[j]! = x
  | 0, _ => ⟨by simp [Lib.compactUpTo], fun x => by simp [Lib.compactUpTo]⟩
  | m + 1, hm => by
    obtain ⟨h1, h2⟩ := compact_facts d hs m (by omega)
    rw [Lib.compactUpTo_succ]
    by_cases hk : Lib.keeps d m = true
    · rw [if_pos hk]
      refine ⟨List.pairwise_append.2 ⟨h1, List.pairwise_singleton _ _, fun x hx y hy => ?_⟩, fun x => ?_⟩
      · rw [List.mem_singleton.1 hy]
        obtain ⟨j, hj, rfl⟩ := (h2 x).1 hx
        have hm0 : m ≠ 0 := by omega
        have hne : d[m]! ≠ d[m - 1]! := by
          have := hk
          unfold Lib.keeps at this
          simp only [decide_eq_true_eq] at this
          rcases this with h | h
          · exact absurd h hm0
          · exact h
        have hlt : d[m - 1]! < d[m]! := lt_of_le_ne (hs (m - 1) m (by omega) (by omega)) (fun e => hne e.symm)
        rcases Nat.lt_or_ge j (m - 1) with h | h
        · exact List.lt_of_le_of_lt (hs j (m - 1) h (by omega)) hlt
        · have : j = m - 1 := by omega
          rw [this]
          exact hlt
      · rw [List.mem_append, h2, List.mem_singleton]
        constructor
        · rintro (⟨j, hj, he⟩ | rfl)
          · exact ⟨j, by omega, he⟩
          · exact ⟨m, by omega, rfl⟩
        · rintro ⟨j, hj, he⟩
          rcases Nat.lt_or_ge j m with h | h
          · exact .inl ⟨j, h, he⟩
          · have : j = m := by omega
            subst this
            exact .inr he.symm
    · rw [if_neg hk, List.append_nil]
      refine ⟨h1, fun x => ?_⟩
      rw [h2]
      have hk2 : m ≠ 0 ∧ d[m]! = d[m - 1]! := by
        unfold Lib.keeps at hk
        simp only [decide_eq_true_eq] at hk
        exact ⟨fun h => hk (.inl h), Classical.byContradiction fun h => hk (.inr h)⟩
      constructor
      · rintro ⟨j, hj, he⟩
        exact ⟨j, by omega, he⟩
      · rintro ⟨j, hj, he⟩
        rcases Nat.lt_or_ge j m with h | h
        · exact ⟨j, h, he⟩
        · have : j = m := by omega
          subst this
          exact ⟨j - 1, by omega, by rw [← hk2.2]; exact he⟩
theorem keysF_facts (l : List Item) : (keysF l).Pairwise (· < ·) ∧ ∀ s, s ∈ keysF l ↔ ∃ x ∈ l, keyOf x = s := by
  obtain ⟨zs, hz⟩ : ∃ zs, (l.map keyOf).mergeSort (fun x y => decide (x ≤ y)) = zs := ⟨_, rfl⟩
  have hp : zs.Perm (l.map keyOf) := hz ▸ List.mergeSort_perm _ _
  have hs : zs.Pairwise fun a b => a ≤ b := by
    have tr : ∀ a b c : List UInt8, decide (a ≤ b) = true → decide (b ≤ c) = true → decide (a ≤ c) = true := fun a b c h1 h2 => by simp only [decide_eq_true_eq] at *; exact List.le_trans h1 h2
    have tot : ∀ a b : List UInt8, (decide (a ≤ b) || decide (b ≤ a)) = true := fun a b => by simp only [Bool.or_eq_true, decide_eq_true_eq]; exact List.le_total a b
    have := List.pairwise_mergeSort tr tot (l.map keyOf)
    rw [hz] at this
    exact this.imp (by simp)
  have hf := compact_facts zs.toArray (fun i j hij hj => by
    have hj' : j < zs.length := by simpa using hj
    have h1 := List.pairwise_iff_getElem.1 hs i j (by omega) hj' hij
    rw [getElem!_pos zs.toArray i (by simp; omega), getElem!_pos zs.toArray j (by simpa using hj')]
    simpa using h1) zs.length (by simp)
  have he : keysF l = Lib.compactUpTo zs.toArray zs.length := by unfold keysF Lib.compact; rw [hz]
  rw [he]
  refine ⟨hf.1, fun s => ?_⟩
  rw [hf.2]
  constructor
  · rintro ⟨j, hj, rfl⟩
    have hm : zs[j] ∈ l.map keyOf := hp.mem_iff.1 (List.getElem_mem hj)
    rw [getElem!_pos zs.toArray j (by simpa using hj)]
    simpa using List.mem_map.1 hm
  · rintro ⟨x, hx, rfl⟩
    obtain ⟨j, hj, he⟩ := List.getElem_of_mem (hp.mem_iff.2 (List.mem_map_of_mem (f := keyOf) hx))
    refine ⟨j, hj, ?_⟩
    rw [getElem!_pos zs.toArray j (by simpa using hj)]
    simpa using he
theorem keysF_sorted (l : List Item) : (keysF l).Pairwise (· < ·) := (keysF_facts l).1
theorem mem_keysF {l : List Item} {s : List UInt8} : s ∈ keysF l ↔ ∃ x ∈ l, keyOf x = s := (keysF_facts l).2 s
/-! the map -/
theorem itemAt_some {us : List Item} {no : Int} {s : List UInt8} {x : Item} (h : itemAt us no s = some x) : behindF us ⟨s.toArray⟩ no = (x, true) ∧ x ∈ us ∧ keyOf x = s ∧ x.no ≤ no := by
  unfold itemAt at h
  split at h
  · next h2 =>
    injection h with h
    obtain ⟨h3, h4, h5, _⟩ := behindF_yes h2
    rw [h] at h3 h4 h5
    refine ⟨?_, h3, keyOf_eq h4, h5⟩
    rw [← h, ← h2]
  · cases h
theorem mem_mapF {us : List Item} {no : Int} {x : Item} : x ∈ mapF us no ↔ behindF us x.key no = (x, true) := by
  unfold mapF
  rw [List.mem_filterMap]
  constructor
  · rintro ⟨s, _, h⟩
    obtain ⟨h1, _, h3, _⟩ := itemAt_some h
    rw [← h3, key_bytes] at h1
    exact h1
  · intro h
    have h2 : (behindF us x.key no).2 = true := by rw [h]
    have h3 := (behindF_yes h2).1
    rw [h] at h3
    refine ⟨keyOf x, mem_keysF.2 ⟨x, h3, rfl⟩, ?_⟩
    unfold itemAt
    rw [key_bytes, h]
    rfl
/-- What a look through a list for a key comes to. -/
def look (m : List Item) (q : ByteArray) : Bool × ByteArray := m.foldl (fun r x => if keyIs q x = true then (true, x.val) else r) (false, ⟨#[]⟩)
theorem look_snoc {m : List Item} {k : Nat} {x : Item} (hx : m[k]? = some x) (q : ByteArray) : look (m.take (k + 1)) q = if keyIs q x = true then (true, x.val) else look (m.take k) q := by
  unfold look
  rw [List.take_add_one, hx, List.foldl_append]
  rfl
theorem look_fold (q : ByteArray) (v : ByteArray) : ∀ (m : List Item) (r : Bool × ByteArray), (∀ x ∈ m, keyIs q x = true → x.val = v) → m.foldl (fun r x => if keyIs q x = true then (true, x.val) else r) r = if m.any (keyIs q) = true then (true, v) else r
  | [], r, _ => rfl
  | x :: m, r, h => by
    rw [List.foldl_cons, look_fold q v m _ fun y hy => h y (List.mem_cons_of_mem _ hy), List.any_cons]
    cases hx : keyIs q x with
    | true =>
      have := h x List.mem_cons_self hx
      simp [this]
    | false => simp
theorem look_map (us : List Item) (no : Int) (q : ByteArray) : look (mapF us no) q = ((behindF us q no).2, (behindF us q no).1.val) := by
  unfold look
  rw [look_fold q (behindF us q no).1.val (mapF us no) _ fun x hx hk => by
    have h := mem_mapF.1 hx
    rw [keyIs_eq hk] at h
    rw [h]]
  cases hb : (behindF us q no).2 with
  | true =>
    obtain ⟨_, h2, _⟩ := behindF_yes hb
    have hm : (behindF us q no).1 ∈ mapF us no := mem_mapF.2 (by rw [h2]; exact Prod.ext rfl hb)
    rw [if_pos]
    refine List.any_eq_true.2 ⟨_, hm, ?_⟩
    have := keyIs_self (behindF us q no).1
    rwa [h2] at this
  | false =>
    rw [if_neg, behindF_no hb]
    · rfl
    · rw [Bool.not_eq_true, List.any_eq_false]
      intro x hx hk
      have h := mem_mapF.1 hx
      rw [keyIs_eq hk] at h
      rw [h] at hb
      cases hb
/-! calls done one at a time -/
/-- A call, done behind these, and answered as the map had it. -/
def Entry (p : List PC) (x : PC) : Prop := ∃ e a tt, x.fin = some (e, a, tt) ∧ a.err = 0 ∧ x.from_ = ((updF p).length : Int) ∧
  ((x.c.kind = 1 ∧ x.eff = 0 ∧ a.no = ((updF p).length : Int) ∧ tt = ((updF p).length : Int) ∧ (a.is, a.val) = look (mapF (updF p) ((updF p).length : Int)) x.c.key) ∨
   ((x.c.kind = 2 ∨ x.c.kind = 3) ∧ x.eff = ((updF p).length : Int) + 1 ∧ a.no = ((updF p).length : Int) + 1 ∧ tt = ((updF p).length : Int) + 1))
def Good (l : List PC) : Prop := ∀ (i : Nat) (x : PC), l[i]? = some x → Entry (l.take i) x
theorem Good.nil : Good [] := fun i x h => by simp at h
theorem Good.snoc {l : List PC} {x : PC} (h : Good l) (hx : Entry l x) : Good (l ++ [x]) := fun i y hy => by
  rcases Nat.lt_or_ge i l.length with h1 | h1
  · rw [List.getElem?_append_left h1] at hy
    rw [List.take_append_of_le_length (by omega)]
    exact h i y hy
  · rw [List.getElem?_append_right h1] at hy
    have h2 := (List.getElem?_eq_some_iff.1 hy).1
    have h3 : i = l.length := by simp at h2; omega
    subst h3
    simp at hy
    subst hy
    rw [List.take_left]
    exact hx
theorem updF_snoc (l : List PC) (x : PC) : updF (l ++ [x]) = updF l ++ (if 0 < x.eff then [⟨x.c.key, x.c.val, x.eff, x.c.kind == 3⟩] else []) := by
  unfold updF
  rw [List.filterMap_append]
  by_cases h : 0 < x.eff <;> simp [h]
theorem Good.nos {l : List PC} (h : Good l) : ∀ i, i ≤ l.length → Nos (updF (l.take i))
  | 0, _ => by simp [updF, Nos.nil]
  | i + 1, hi => by
    have ih := h.nos i (by omega)
    obtain ⟨x, hx⟩ : ∃ x, l[i]? = some x := ⟨_, List.getElem?_eq_getElem (by omega)⟩
    obtain ⟨e, a, tt, _, _, _, h1⟩ := h i x hx
    rcases h1 with ⟨_, h2, _⟩ | ⟨_, h2, _⟩
    · rw [updF_no hx (by omega)]
      exact ih
    · rw [updF_yes hx (by omega)]
      exact ih.snoc h2
theorem Good.nosAll {l : List PC} (h : Good l) : Nos (updF l) := by
  have := h.nos l.length (Nat.le_refl _)
  rwa [List.take_length] at this
theorem Good.behind {l : List PC} (h : Good l) (i : Nat) (q : ByteArray) : behindF (updF l) q ((updF (l.take i)).length : Int) = behindF (updF (l.take i)) q ((updF (l.take i)).length : Int) := by
  have hs : updF l = updF (l.take i) ++ updF (l.drop i) := by
    conv => lhs; rw [← List.take_append_drop i l]
    unfold updF
    exact List.filterMap_append
  have hn := h.nosAll
  rw [hs] at hn ⊢
  refine behindF_pre _ _ _ _ fun x hx => ?_
  obtain ⟨j, hj⟩ := List.getElem?_of_mem hx
  have := hn ((updF (l.take i)).length + j) x (by rw [List.getElem?_append_right (by omega)]; rw [Nat.add_sub_cancel_left]; exact hj)
  omega
theorem eff_le {l : List PC} (h : Good l) {i : Nat} (hi : i ≤ l.length) {y : PC} (hy : y ∈ l.take i) : y.eff ≤ ((updF (l.take i)).length : Int) := by
  by_cases h0 : 0 < y.eff
  · have hm : (⟨y.c.key, y.c.val, y.eff, y.c.kind == 3⟩ : Item) ∈ updF (l.take i) := by
      unfold updF
      rw [List.mem_filterMap]
      exact ⟨y, hy, by rw [if_pos h0]⟩
    exact ((h.nos i hi).mem hm).2
  · omega
theorem Good.fine {l : List PC} (h : Good l) (m : List PC) (i : Nat) (x : PC) (hx : l[i]? = some x) : ∃ e a tt, Fine (l ++ m) i x e a tt := by
  obtain ⟨e, a, tt, hf, he, hfr, h1⟩ := h i x hx
  have hil := (List.getElem?_eq_some_iff.1 hx).1
  refine ⟨e, a, tt, hf, he, ?_, fun h0 => ?_⟩
  · rcases h1 with ⟨h2, _⟩ | ⟨h2, _⟩
    · exact .inl h2
    · exact .inr h2
  · rcases h1 with ⟨_, h2, _⟩ | ⟨_, h2, _, h4⟩
    · omega
    · refine ⟨by omega, by omega, ?_⟩
      unfold onceF
      rw [List.take_append_of_le_length (by omega), Bool.not_eq_true', List.any_eq_false]
      intro y hy hye
      have := eff_le h (by omega) hy
      have h5 : y.eff = x.eff := by simpa using hye
      omega
theorem Good.judge {l : List PC} (h : Good l) {m : List PC} (hm : updF (l ++ m) = updF l) {i : Nat} {x : PC} (hx : l[i]? = some x) {e : Nat} {a : Ans} {tt : Int} (hf : x.fin = some (e, a, tt)) : judge (l ++ m) x a tt = true := by
  obtain ⟨e', a', tt', hf', _, hfr, h1⟩ := h i x hx
  rw [hf] at hf'
  injection hf' with hf'
  injection hf' with e1 hf'
  injection hf' with e2 e3
  subst e2 e3
  unfold Ythmijlchonbjnaa.judge
  rcases h1 with ⟨h2, _, h3, h4, h5⟩ | ⟨h2, h3, h4, _⟩
  · rw [if_pos h2, hm]
    unfold gotF
    rw [look_map] at h5
    injection h5 with h6 h7
    rw [h3, h4, hfr, h.behind, h6, h7]
    simp
  · rw [if_neg (by omega), h4, h3]
    simp
end Ythmijlchonbjnaa
end Go.Proofs
