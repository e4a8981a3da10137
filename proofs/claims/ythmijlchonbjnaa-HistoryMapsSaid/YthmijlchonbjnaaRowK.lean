/-
  A row of one-cell elements whose slice may have been cut shorter than its block: append, cut; and an append that is handed to the walk by its run.
-/
import Derived.Test.YthmijlchonbjnaaKit
namespace Go.Proofs.Ythmijlchonbjnaa
open Go.RowKit

/-- The slice value v holds the cells xs, at the head of a block that nobody else has. -/
def Row1 (w : World) (base : Nat) (e : TypeId) (v : Value) (xs : List Value) : Prop :=
  (v = .slice none 0 0 ∧ xs = []) ∨
  ∃ g cap cur, v = .slice (some ⟨g, 0, none⟩) xs.length cap ∧ base ≤ g ∧ Blk w g e cur ∧ xs.length ≤ cap ∧ cap ≤ cur.size ∧ cap ≤ maxLen ∧ cur.toList.take xs.length = xs

section
variable {w w' : World} {base : Nat} {e : TypeId} {v : Value} {xs : List Value}
theorem Row1.nil (w : World) (base : Nat) (e : TypeId) : Row1 w base e (.slice none 0 0) [] := .inl ⟨rfl, rfl⟩
theorem Row1.kept {K : Nat → Prop} (h : Row1 w base e v xs) (hk : Kept K w w') (ho : ∀ g, v.ownBlock = some g → K g) : Row1 w' base e v xs := by
  rcases h with h | ⟨g, cap, cur, hv, hb, hh, r⟩
  · exact .inl h
  · subst hv
    exact .inr ⟨g, cap, cur, rfl, hb, hh.kept hk (ho g rfl), r⟩
theorem Row1.drew (h : Row1 w base e v xs) : Row1 w.drew base e v xs := h
theorem Row1.alloc (h : Row1 w base e v xs) (o : Obj) : Row1 (w.alloc o) base e v xs := h.kept (K := fun _ => True) ((Kept.refl _ w).alloc o) fun _ _ => trivial
theorem Row1.lt (h : Row1 w base e v xs) {g : Nat} (hg : v.ownBlock = some g) : g < w.heap.size ∧ base ≤ g := by
  rcases h with ⟨rfl, _⟩ | ⟨g', cap, cur, rfl, hb, hh, _⟩
  · simp [Value.ownBlock] at hg
  · have : g' = g := by simpa [Value.ownBlock] using hg
    subst this
    exact ⟨hh.lt, hb⟩
theorem Row1.blk (h : Row1 w base e v xs) {g : Nat} (hg : v.ownBlock = some g) : ∃ cs, Blk w g e cs := by
  rcases h with ⟨rfl, _⟩ | ⟨g', cap, cur, rfl, hb, hh, _⟩
  · simp [Value.ownBlock] at hg
  · have : g' = g := by simpa [Value.ownBlock] using hg
    subst this
    exact ⟨cur, hh⟩
theorem Row1.ne_ (h : Row1 w base e v xs) {g : Nat} {t : TypeId} {cs : Array Value} (hg : Blk w g t cs) (hne : e ≠ t) : v.ownBlock ≠ some g := by
  intro he
  obtain ⟨cs', h'⟩ := h.blk he
  exact Blk.ne_ h' hg hne rfl
theorem Row1.far (h : Row1 w base e v xs) {b : Nat} {t : TypeId} {cs : Array Value} (hb : Blk w b t cs) (hne : e ≠ t) (i : Nat) (u : Value) : Row1 (w.setCell ⟨b, i, none⟩ u) base e v xs :=
  h.kept (K := fun c => c ≠ b) ((Kept.refl _ w).setCell (fun _ hn => hn rfl) u) fun _ hg e' => h.ne_ hb hne (e' ▸ hg)
theorem Row1.form (h : Row1 w base e v xs) : ∃ A c, v = .slice A xs.length c := by
  rcases h with ⟨rfl, rfl⟩ | ⟨g, cap, cur, rfl, _⟩
  · exact ⟨_, _, rfl⟩
  · exact ⟨_, _, rfl⟩
theorem Row1.at_ (h : Row1 w base e v xs) {i : Nat} {x : Value} (hi : xs[i]? = some x) : ∃ g cap, v = .slice (some ⟨g, 0, none⟩) xs.length cap ∧ w.cell? ⟨g, i, none⟩ = some x := by
  rcases h with ⟨rfl, rfl⟩ | ⟨g, cap, cur, rfl, _, hh, _, _, _, ht⟩
  · simp at hi
  · refine ⟨g, cap, rfl, ?_⟩
    rw [hh.cell]
    have hl := (List.getElem?_eq_some_iff.1 hi).1
    rw [← ht, List.getElem?_take] at hi
    simpa [hl] using hi
end

theorem addr_add (b o j : Nat) : (⟨b, o, none⟩ : Addr).add j = ⟨b, o + j, none⟩ := by
  unfold Addr.add
  split
  · next h => rw [h, Nat.add_zero]
  · rfl
section
variable {P : Program} {w : World}
/-- A new array: what is behind a growing append. -/
theorem row1_grown {base : Nat} {e : TypeId} {z : Value} (hzs : z.cells.size = 1) {xs : List Value} {old : Nat} (h63 : xs.length ≤ maxLen) (hbase : base ≤ w.heap.size) (N : Nat) (hN : N = xs.length) :
    Row1 (w.drew.alloc (.cells (xs.toArray ++ Builtin.zeroCells z.cells (grownCap w N old e - N)) e)) base e (.slice (some ⟨w.heap.size, 0, none⟩) N (grownCap w N old e)) xs ∧
      Kept (fun _ => True) w (w.drew.alloc (.cells (xs.toArray ++ Builtin.zeroCells z.cells (grownCap w N old e - N)) e)) := by
  subst hN
  have hge := grownCap_ge w xs.length old e
  refine ⟨.inr ⟨w.heap.size, _, _, rfl, hbase, heap_alloc_new w.drew _, hge, ?_, grownCap_le_maxLen w xs.length old e h63, ?_⟩, ((Kept.refl _ w).drew.alloc _)⟩
  · simp only [Array.size_append, List.size_toArray, size_zeroCells, hzs]
    omega
  · simp

/-- 'append(s, x)' of one element. -/
theorem run_append_row1 {t ty e : TypeId} {i : TypeInfo} {z : Value} {bytes base : Nat} (ht : P.underlying t = some (.slice e)) (hi : P.info? e = some i) (hz : i.zero = some z) (hsize : i.size = 1) (hby : i.bytes = bytes) (hzs : z.cells.size = 1)
    {v : Value} {xs : List Value} (h : Row1 w base e v xs) (a : Addr) (c : Nat) (x : Value) (hx : w.cell? a = some x) (h1 : x.oneCell' = true) (h63 : xs.length + 1 ≤ maxLen) (hbytes : (xs.length + 1) * bytes ≤ 140737488355328) (hbase : base ≤ w.heap.size) :
    ∃ g cap w', (Builtin.append_ #[t, t] ty #[v, .slice (some a) 1 c]).run P w = .ok (.slice (some ⟨g, 0, none⟩) (xs.length + 1) cap) w' ∧ Row1 w' base e (.slice (some ⟨g, 0, none⟩) (xs.length + 1) cap) (xs ++ [x]) ∧
      Kept (fun b => v.ownBlock ≠ some b) w w' ∧ (v.ownBlock = some g ∨ g = w.heap.size) := by
  subst hby
  have hsmall : xs.length + 1 ≤ 9223372036854775807 := by simp only [maxLen] at h63; omega
  have hnews : ∀ j u, [x][j]? = some u → w.cell? (a.add j) = some u := by
    intro j u hj
    match j, hj with
    | 0, hj => simp at hj; subst hj; simpa [Addr.add] using hx
  have hN : xs.length + 1 = (xs ++ [x]).length := by simp
  rcases h with ⟨rfl, rfl⟩ | ⟨g, cap, cur, rfl, hbg, hg, hnc, hcc, hcm, htake⟩
  · have hr := run_append_nil (P := P) w t ty e i z ht hi hz a 1 c [x] (by rw [hsize]; rfl) hnews (by omega) (by omega) (by have hb := hbytes; simp only [List.length_nil, Nat.zero_add] at hb; omega)
    obtain ⟨h2, h3⟩ := row1_grown (w := w) (base := base) (e := e) hzs (xs := [x]) (old := 0) h63 hbase 1 rfl
    exact ⟨_, _, _, hr, h2, h3.mono fun _ _ _ => trivial, .inr rfl⟩
  · by_cases hroom : xs.length + 1 ≤ cap
    · have hr := run_append_room (P := P) w t ty e i ht hi g xs.length cap cur hg a 1 c [x] (by rw [hsize]; rfl) hnews (by simpa using h1) hroom (by rw [hsize]; simp; omega)
      refine ⟨g, cap, _, hr, .inr ⟨g, cap, _, by rw [← hN], hbg, setRow_heap w g cur _ e _ hg, by rw [← hN]; exact hroom, ?_, hcm, ?_⟩, ⟨rfl, rfl, rfl, by simp [World.setRow], fun k _ hk => setRow_other w g k _ (fun e => hk (by simp [Value.ownBlock, e]))⟩, .inl rfl⟩
      · simp only [hsize, Nat.mul_one, List.size_toArray, List.length_append, List.length_take, List.length_drop, Array.length_toList, List.length_cons, List.length_nil]
        omega
      · rw [hsize, Nat.mul_one, htake]
        exact List.take_left
    · have holds : ∀ j u, xs[j]? = some u → w.cell? ((⟨g, 0, none⟩ : Addr).add j) = some u := by
        intro j u hj
        rw [addr_add, Nat.zero_add, hg.cell]
        have hl := (List.getElem?_eq_some_iff.1 hj).1
        rw [← htake, List.getElem?_take] at hj
        simpa [hl] using hj
      have hr := run_append_grow (P := P) w t ty e i z ht hi hz ⟨g, 0, none⟩ xs.length cap xs (by rw [hsize, Nat.mul_one]) holds a 1 c [x] (by rw [hsize]; rfl) hnews (by omega) (by omega) (growslice_fits (by omega) hbytes)
      obtain ⟨h2, h3⟩ := row1_grown (w := w) (base := base) (e := e) hzs (xs := xs ++ [x]) (old := cap) (by simpa using h63) hbase (xs.length + 1) hN
      simp only [← List.toArray_appendList, List.append_toArray] at h2 h3 hr
      exact ⟨_, _, _, hr, h2, h3.mono fun _ _ _ => trivial, .inr rfl⟩

/-- 'append(s[:at:at], s[at+1:]...)': the element at 'at' is taken out. The source as the cut gives it: at 'at + 1 = cap' the elder address. -/
theorem run_append_cut {t ty e : TypeId} {i : TypeInfo} {z : Value} {bytes base : Nat} (ht : P.underlying t = some (.slice e)) (hi : P.info? e = some i) (hz : i.zero = some z) (hsize : i.size = 1) (hby : i.bytes = bytes) (hzs : z.cells.size = 1)
    {g n cap : Nat} {xs : List Value} (h : Row1 w base e (.slice (some ⟨g, 0, none⟩) n cap) xs) {k : Nat} (hk : k < xs.length) (a : Addr) (ha : k + 1 < cap → a = ⟨g, k + 1, none⟩) (h63 : xs.length ≤ maxLen) (hbytes : xs.length * bytes ≤ 140737488355328) (hbase : base ≤ w.heap.size) :
    ∃ g' cap' w', (Builtin.append_ #[t, t] ty #[.slice (some ⟨g, 0, none⟩) k k, .slice (some a) (n - (k + 1)) (cap - (k + 1))]).run P w = .ok (.slice (some ⟨g', 0, none⟩) (n - 1) cap') w' ∧
      Row1 w' base e (.slice (some ⟨g', 0, none⟩) (n - 1) cap') (xs.eraseIdx k) ∧ Kept (fun b => g ≠ b) w w' ∧ (g' = g ∨ g' = w.heap.size) := by
  subst hby
  rcases h with ⟨h0, _⟩ | ⟨g0, cap0, cur, hv, hbg, hg, hnc, hcc, hcm, htake⟩
  · cases h0
  · injection hv with hA hn hc
    injection hA with hA
    injection hA with hA
    subst hA hn hc
    have hsmall : xs.length ≤ 9223372036854775807 := by simp only [maxLen] at h63; omega
    have hcellat : ∀ j u, xs[j]? = some u → w.cell? ⟨g, j, none⟩ = some u := by
      intro j u hj
      rw [hg.cell]
      have hl := (List.getElem?_eq_some_iff.1 hj).1
      rw [← htake, List.getElem?_take] at hj
      simpa [hl] using hj
    have hadd := addr_add
    have hnews : ∀ j u, (xs.drop (k + 1))[j]? = some u → w.cell? (a.add j) = some u := by
      intro j u hj
      have hl := (List.getElem?_eq_some_iff.1 hj).1
      simp only [List.length_drop] at hl
      rw [ha (by omega), hadd]
      rw [List.getElem?_drop] at hj
      exact hcellat _ u hj
    have hlen : (xs.drop (k + 1)).length = (xs.length - (k + 1)) * i.size := by rw [hsize]; simp
    have hto : (xs.take k).length = k * i.size := by rw [hsize]; simp; omega
    have hxe : xs.eraseIdx k = xs.take k ++ xs.drop (k + 1) := List.eraseIdx_eq_take_drop_succ _ _
    have hN : xs.length - 1 = (xs.eraseIdx k).length := by rw [hxe]; simp; omega
    by_cases hm : xs.length - (k + 1) = 0
    · have hnil : xs.drop (k + 1) = [] := List.drop_eq_nil_of_le (by omega)
      have hr := run_append_room (P := P) w t ty e i ht hi g k k cur hg a (xs.length - (k + 1)) (cap - (k + 1)) (xs.drop (k + 1)) hlen hnews (by rw [hnil]; simp) (by omega) (by rw [hsize, hnil]; simp; omega)
      have e1 : k + (xs.length - (k + 1)) = xs.length - 1 := by omega
      rw [e1] at hr
      refine ⟨g, k, _, hr, .inr ⟨g, k, _, by rw [← hN], hbg, setRow_heap w g cur _ e _ hg, by rw [← hN]; omega, ?_, by omega, ?_⟩, ⟨rfl, rfl, rfl, by simp [World.setRow], fun j _ hj => setRow_other w g j _ (Ne.symm hj)⟩, .inl rfl⟩
      · rw [hnil]
        simp only [hsize, Nat.mul_one, List.size_toArray, List.length_append, List.length_take, List.length_drop, Array.length_toList, List.length_nil]
        omega
      · rw [hxe, hnil, hsize, Nat.mul_one, List.append_nil, List.append_nil]
        have hkl : (xs.take k).length = k := by simp; omega
        rw [hkl]
        rw [List.take_append_of_le_length (by simp; omega), List.take_take, Nat.min_self]
        have : cur.toList.take k = (cur.toList.take xs.length).take k := by rw [List.take_take, Nat.min_eq_left (by omega)]
        rw [this, htake]
    · have holds : ∀ j u, (xs.take k)[j]? = some u → w.cell? ((⟨g, 0, none⟩ : Addr).add j) = some u := by
        intro j u hj
        rw [hadd, Nat.zero_add]
        have hl := (List.getElem?_eq_some_iff.1 hj).1
        rw [List.getElem?_take] at hj
        split at hj
        · exact hcellat j u hj
        · cases hj
      have e1 : k + (xs.length - (k + 1)) = xs.length - 1 := by omega
      have hr := run_append_grow (P := P) w t ty e i z ht hi hz ⟨g, 0, none⟩ k k (xs.take k) hto holds a (xs.length - (k + 1)) (cap - (k + 1)) (xs.drop (k + 1)) hlen hnews (by omega) (by omega)
        (growslice_fits (by omega) (Nat.le_trans (Nat.mul_le_mul_right _ (by omega)) hbytes))
      rw [e1] at hr
      obtain ⟨h2, h3⟩ := row1_grown (w := w) (base := base) (e := e) hzs (xs := xs.eraseIdx k) (old := k) (by omega) hbase (xs.length - 1) hN
      have e2 : (xs.take k).toArray ++ (xs.drop (k + 1)).toArray = (xs.eraseIdx k).toArray := by rw [hxe]; simp
      rw [e2] at hr
      exact ⟨_, _, _, hr, h2, h3.mono fun _ _ _ => trivial, .inr rfl⟩

/-- An append whose run is known, at the operation. -/
theorem wp_append_run {o : Oper} {a : Act} {K : Act → World → Prop} {Q : Exit → Act → World → Prop} (s x : Operand) (t : TypeId)
    (ho : o.op = .call { callee := .builtin .append, args := #[s, x], argTypes := #[t, t] }) {vs vx v' : Value} {w' : World} (hs : a.eval s = vs) (hx : a.eval x = vx)
    (hr : (Builtin.append_ #[t, t] o.type #[vs, vx]).run P w = .ok v' w') (h : K (a.put o.dst v') w') : o.wp P a w K Q := by
  unfold Oper.wp execOp
  simp only [ho, resolve, invoke, builtin, Sem.run_bind, Sem.run_pure, Result.andThen_ok, List.map_toArray, List.map_cons, List.map_nil, hs, hx, hr]
  exact h
theorem wpList_append_run {ops : Array Oper} {rest : List Oper} {o : Oper} {a : Act} {Q : Exit → Act → World → Prop} (hgd : o.guard = none) (s x : Operand) (t : TypeId)
    (ho : o.op = .call { callee := .builtin .append, args := #[s, x], argTypes := #[t, t] }) {vs vx v' : Value} {w' : World} (hs : a.eval s = vs) (hx : a.eval x = vx)
    (hr : (Builtin.append_ #[t, t] o.type #[vs, vx]).run P w = .ok v' w') (h : wpList P ops Q rest (a.put o.dst v') w') : wpList P ops Q (o :: rest) a w :=
  wpList_plain hgd fun _ hK => wp_append_run s x t ho hs hx hr (hK _ _ h)
theorem step_append_run {ops : Array Oper} {o : Oper} {a : Act} {K : Act → World → Prop} {Q : Exit → Act → World → Prop} {E : Prop} (hgd : o.guard = none) (s x : Operand) (t : TypeId)
    (ho : o.op = .call { callee := .builtin .append, args := #[s, x], argTypes := #[t, t] }) {vs vx v' : Value} {w' : World} (hs : a.eval s = vs) (hx : a.eval x = vx)
    (hr : (Builtin.append_ #[t, t] o.type #[vs, vx]).run P w = .ok v' w') (h : K (a.put o.dst v') w') : if Region.wanted o (yielded ops a.tmps) = true then Oper.wp P o a w K Q else E := by
  have hw : Region.wanted o (yielded ops a.tmps) = true := by simp [Region.wanted, hgd]
  rw [if_pos hw]
  exact wp_append_run s x t ho hs hx hr h
end
end Go.Proofs.Ythmijlchonbjnaa
