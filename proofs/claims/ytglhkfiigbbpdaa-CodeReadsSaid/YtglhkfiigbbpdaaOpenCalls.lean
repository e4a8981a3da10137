/-
  Calls that came in, opened; what their bulk gives.
-/
import Derived.Test.YtglhkfiigbbpdaaOpenBytes
import Derived.Test.YtglhkfiigbbpdaaWS
namespace Go.Proofs.Ytglhkfiigbbpdaa
open Go.ChangeShapes Go.WideShapes Go.ChangeAt Go.RowKit
theorem bytes29 : Try.prog.bytesOf 29 = 48 := by kernel_rfl
section
variable {H : Type}
theorem bulk_one (d : DataW H) : 1 ≤ Rows.uptoBulk d := by
  cases d with
  | lit l => cases l <;> simp [Rows.uptoBulk]
  | nil => simp [Rows.uptoBulk]
  | ptr d => simp [Rows.uptoBulk]
  | slice elems spare => simp [Rows.uptoBulk]
  | agg parts => simp [Rows.uptoBulk]
  | iface t d => simp [Rows.uptoBulk]
  | map entries => simp [Rows.uptoBulk]
  | held h => simp [Rows.uptoBulk]
theorem bulk_len : ∀ l : List (DataW H), l.length ≤ Rows.uptoBulkAll l
  | [] => Nat.zero_le _
  | x :: r => by
    have := bulk_one x
    have := bulk_len r
    simp only [Rows.uptoBulkAll, List.length_cons]
    omega
theorem bulk_mem {d : DataW H} : ∀ {l : List (DataW H)}, d ∈ l → Rows.uptoBulk d ≤ Rows.uptoBulkAll l
  | x :: r, h => by
    simp only [Rows.uptoBulkAll]
    cases List.mem_cons.1 h with
    | inl e => subst e; omega
    | inr e => have := bulk_mem e; omega
theorem weight_bulk : ∀ (l : List Cl) (ds : List (DataW H)), l.length = ds.length → (∀ (i : Nat) (c : Cl) (d : DataW H), l[i]? = some c → ds[i]? = some d → c.b.length + 1 ≤ Rows.uptoBulk d) → weight l ≤ Rows.uptoBulkAll ds
  | [], _, _, _ => by simp [weight]
  | c :: l, [], h, _ => by cases h
  | c :: l, d :: ds, hl, h => by
    have h1 := weight_bulk l ds (by simpa using hl) fun i c d hc hd => h (i + 1) c d hc hd
    have h2 := h 0 c d rfl rfl
    simp only [weight, List.map_cons, List.sum_cons, Rows.uptoBulkAll] at h1 ⊢
    omega
/-- A slice of calls that came in. -/
theorem open_calls {enc : TypeId × Value → H} {W : World} {a : Option Addr} {len cap : Nat} {d : DataW H} {p : List MemPlace} (h : DataW.Trod enc Try.prog W 0 (fun _ => true) true 22 (.slice a len cap) d p) :
    ∃ l, len = l.length ∧ CallsIn W a l ∧ len ≤ cap ∧ weight l ≤ Rows.uptoBulk d ∧ (l = [] ∨ ∃ elems spare, d = .slice elems spare ∧ elems.length = l.length) := by
  obtain ⟨fuel, hf⟩ := h
  rcases open_slice_fields Try.underlying22 Try.underlying29 (by kernel_rfl) (by kernel_rfl) hf with ⟨hcs, _⟩ | ⟨ad, l, c, m, D, Pl, hcs, _, hlc, hm, hmm, hx, hi⟩
  · simp [Value.cells] at hcs
    obtain ⟨rfl, rfl, rfl⟩ := hcs
    exact ⟨[], rfl, ⟨fun i p hp => by simp at hp⟩, Nat.le_refl _, by simp [weight], .inl rfl⟩
  · simp [Value.cells] at hcs
    obtain ⟨rfl, rfl, rfl⟩ := hcs
    simp only [if_true] at hmm
    subst hmm
    simp only [Prod.mk.injEq] at hx
    obtain ⟨hd, hp⟩ := hx
    have hcell : ∀ i, i < len → ∃ (q : Cl) (v : Value), W.cell? (ad.add (i * 4)) = some (.int .i64 q.k) ∧ W.cell? (ad.add (i * 4 + 1)) = some (.int .u64 (q.n : Int)) ∧ W.cell? (ad.add (i * 4 + 2)) = some (.int .i64 q.many) ∧
        W.cell? (ad.add (i * 4 + 3)) = some v ∧ Rd W v q.b ∧ q.n < 18446744073709551616 ∧ q.many ≤ 9223372036854775807 ∧ q.b.length + 1 ≤ Rows.uptoBulk (D i) := by
      intro i hil
      obtain ⟨ys, n, hDi, _, _, hf⟩ := hi i (by omega)
      obtain ⟨v0, y0, c0, _, t0⟩ := hf 0 _ rfl
      obtain ⟨v1, y1, c1, _, t1⟩ := hf 1 _ rfl
      obtain ⟨v2, y2, c2, _, t2⟩ := hf 2 _ rfl
      obtain ⟨v3, y3, c3, hy3, t3⟩ := hf 3 _ rfl
      obtain ⟨k0, e0, _, _⟩ := DataW.trod_int Try.underlying3 t0
      obtain ⟨k1, e1, _, wf1⟩ := DataW.trod_int Try.underlying27 t1
      obtain ⟨k2, e2, _, wf2⟩ := DataW.trod_int Try.underlying3 t2
      simp only [List.cons.injEq, and_true] at e0 e1 e2
      subst e0 e1 e2
      obtain ⟨a3, l3, n3, rfl⟩ : ∃ a l c, v3 = .slice a l c := by
        rcases open_ints Try.underlying26 Try.underlying5 cells5 t3 with ⟨hcs, _⟩ | ⟨ad, l, c, zs, hcs, _⟩
        · simp only [List.cons.injEq, and_true] at hcs
          exact ⟨_, _, _, hcs⟩
        · simp only [List.cons.injEq, and_true] at hcs
          exact ⟨_, _, _, hcs⟩
      obtain ⟨l, rfl, hrd, hel⟩ := open_bytes t3
      have hwf1 := u64_of_wf wf1
      have hwf2 : k2 ≤ 9223372036854775807 := by
        simp only [Lit.wf, Bool.and_eq_true, decide_eq_true_eq] at wf2
        exact wf2.2
      have hm3 : y3.1 ∈ ys.map (·.1) := List.mem_map.2 ⟨y3, List.mem_of_getElem? hy3, rfl⟩
      have hb3 := bulk_mem hm3
      have hb : l.length + 1 ≤ Rows.uptoBulk y3.1 := by
        rcases hel with rfl | ⟨elems, spare, he, hle⟩
        · exact bulk_one _
        · rw [he]
          have := bulk_len elems
          simp only [Rows.uptoBulk]
          omega
      refine ⟨⟨k0, k1.toNat, k2, l⟩, _, c0, ?_, c2, c3, hrd, ?_, hwf2, ?_⟩
      · show _ = some (Value.int .u64 (k1.toNat : Int))
        rw [Int.toNat_of_nonneg hwf1.1]
        exact c1
      · show k1.toNat < _
        omega
      · rw [hDi]
        simp only [Rows.uptoBulk]
        omega
    have hdflt : Cl := ⟨0, 0, 0, []⟩
    have hlen : ((List.range len).map fun i => if h : i < len then Classical.choose (hcell i h) else hdflt).length = len := by simp
    refine ⟨(List.range len).map fun i => if h : i < len then Classical.choose (hcell i h) else hdflt, hlen.symm, ⟨?_⟩, hlc, ?_, ?_⟩
    · intro i q hq
      have hil : i < len := by simpa using (List.getElem?_eq_some_iff.1 hq).1
      have hqe : Classical.choose (hcell i hil) = q := by simpa [hil] using hq
      have hsp := Classical.choose_spec (hcell i hil)
      rw [hqe] at hsp
      obtain ⟨v, h0, h1, h2, h3, hrd, hn, hmany, _⟩ := hsp
      obtain ⟨b, off, spot⟩ := ad
      have hspot : spot = none := by
        obtain ⟨_, _, h2, _⟩ := hcell 0 (by omega)
        simpa [Addr.add] using World.cell?_spot h2
      subst hspot
      rw [addr_add] at h0 h1 h2 h3
      exact ⟨b, off, v, rfl, lt_of_cell h0, h0, by rw [Nat.add_assoc]; exact h1, by rw [Nat.add_assoc]; exact h2, by rw [Nat.add_assoc]; exact h3, hrd, hn, hmany⟩
    · rw [hd]
      refine Nat.le_trans (weight_bulk _ ((List.range len).map D) (by simp) fun i c d hc hd => ?_) (by simp only [Rows.uptoBulk]; omega)
      have hil : i < len := by simpa using (List.getElem?_eq_some_iff.1 hc).1
      have hqe : Classical.choose (hcell i hil) = c := by simpa [hil] using hc
      have hde : D i = d := by simpa [hil] using hd
      obtain ⟨_, _, _, _, _, _, _, _, h⟩ := Classical.choose_spec (hcell i hil)
      rw [hqe, hde] at h
      exact h
    · exact .inr ⟨_, _, hd, by simp⟩
end
end Go.Proofs.Ytglhkfiigbbpdaa
