/-
  A writer, the bytes that are wanted, a slice of the law's own: side by side. Calls that came in.
-/
import Derived.Test.YtglhkfiigbbpdaaRefForm
import Derived.Test.YtglhkfiigbbpdaaAwake
set_option maxHeartbeats 400000
namespace Go.Proofs
open Go.RowKit
theorem Try.cells29 : Try.prog.cellsOf 29 = 4 := by kernel_rfl
namespace Ytglhkfiigbbpdaa
/-- A call that came in. -/
structure Cl where
  k : Int
  n : Nat
  many : Int
  b : List UInt8
structure CallsIn (w : World) (A : Option Addr) (l : List Cl) : Prop where
  at_ : ∀ (i : Nat) (p : Cl), l[i]? = some p → ∃ b off v, A = some ⟨b, off, none⟩ ∧ b < w.heap.size ∧ w.cell? ⟨b, off + i * 4, none⟩ = some (.int .i64 p.k) ∧ w.cell? ⟨b, off + i * 4 + 1, none⟩ = some (.int .u64 (p.n : Int)) ∧
    w.cell? ⟨b, off + i * 4 + 2, none⟩ = some (.int .i64 p.many) ∧ w.cell? ⟨b, off + i * 4 + 3, none⟩ = some v ∧ Rd w v p.b ∧ p.n < 18446744073709551616 ∧ p.many ≤ 9223372036854775807
def weight (l : List Cl) : Nat := (l.map fun c => c.b.length + 1).sum
/-- What a call lays down. -/
def laidC (c : Cl) : List UInt8 := if c.k = 0 then form c.n else if c.k = 1 then form c.b.length ++ c.b else c.b
theorem laidC_len (c : Cl) (hn : c.n < 18446744073709551616) (hb : c.b.length < 18446744073709551616) : (laidC c).length ≤ 10 * (c.b.length + 1) := by
  have h1 := form_len hn
  have h2 := form_len hb
  unfold laidC
  split
  · omega
  · split
    · rw [List.length_append]; omega
    · omega
theorem weight_get : ∀ {l : List Cl} {i : Nat} {c : Cl}, l[i]? = some c → c.b.length + 1 ≤ weight l
  | [], i, c, h => by cases h
  | d :: l, 0, c, h => by
    cases h
    simp only [weight, List.map_cons, List.sum_cons]
    omega
  | d :: l, i + 1, c, h => by
    have := weight_get (l := l) (i := i) h
    simp only [weight, List.map_cons, List.sum_cons] at this ⊢
    omega
theorem weight_take (l : List Cl) (i : Nat) : weight (l.take i) ≤ weight l := by
  have : weight l = weight (l.take i) + weight (l.drop i) := by
    unfold weight
    rw [← List.sum_append, ← List.map_append, List.take_append_drop]
  omega
theorem all_len : ∀ (l : List Cl), (∀ c ∈ l, c.n < 18446744073709551616 ∧ c.b.length < 18446744073709551616) → (l.flatMap laidC).length ≤ 10 * weight l
  | [], _ => by simp [weight]
  | c :: l, h => by
    have h1 := all_len l fun d hd => h d (List.mem_cons_of_mem _ hd)
    have h2 := h c List.mem_cons_self
    have h3 := laidC_len c h2.1 h2.2
    have e : weight (c :: l) = (c.b.length + 1) + weight l := by simp [weight]
    rw [List.flatMap_cons, List.length_append, e]
    omega

structure WS (w : World) (base wb : Nat) (v wantv bv : Value) (C D : List UInt8) (xs : List Value) : Prop where
  rep : WRep w base wb v C
  want : Row1 w base 5 wantv (bc D)
  b : Row1 w base 5 bv xs
  a1 : ∀ x, wfoot wb v x → wantv.ownBlock ≠ some x ∧ bv.ownBlock ≠ some x
  a2 : ∀ x, wantv.ownBlock = some x → bv.ownBlock ≠ some x
section
variable {w w' : World} {base wb : Nat} {v wantv bv : Value} {C D : List UInt8} {xs : List Value}
def wsFoot (wb : Nat) (v wantv bv : Value) (x : Nat) : Prop := wfoot wb v x ∨ wantv.ownBlock = some x ∨ bv.ownBlock = some x
theorem WS.foot_lt (h : WS w base wb v wantv bv C D xs) : ∀ x, wsFoot wb v wantv bv x → x < w.heap.size ∧ base ≤ x := by
  rintro x (hx | hx | hx)
  · exact ⟨h.rep.foot_lt x hx, h.rep.foot_low x hx⟩
  · exact h.want.lt hx
  · exact h.b.lt hx
theorem WS.kept (h : WS w base wb v wantv bv C D xs) (hk : Kept (wsFoot wb v wantv bv) w w') : WS w' base wb v wantv bv C D xs :=
  ⟨h.rep.kept (hk.mono fun _ _ hx => .inl hx), h.want.kept hk fun _ hx => .inr (.inl hx), h.b.kept hk fun _ hx => .inr (.inr hx), h.a1, h.a2⟩
theorem WS.past {w0 wi wj : World} (h : WS wi base wb v wantv bv C D xs) (q : Kept (fun b => b < base) w0 wi) (hk : Kept (fun b => ¬ wsFoot wb v wantv bv b) wi wj) : Kept (fun b => b < base) w0 wj :=
  q.trans' hk fun i _ hi hf => Nat.not_lt_of_le (h.foot_lt i hf).2 hi
/-- The writer has laid down. -/
theorem WS.laid {C' : List UInt8} (h : WS w base wb v wantv bv C D xs) (hl : Laid w w' base wb v C') : ∃ v', WS w' base wb v' wantv bv C' D xs ∧ Kept (fun b => ¬ wsFoot wb v wantv bv b) w w' := by
  obtain ⟨v', hr, ho, hk⟩ := hl
  refine ⟨v', ⟨hr, h.want.kept hk fun x hx hf => (h.a1 x hf).1 hx, h.b.kept hk fun x hx hf => (h.a1 x hf).2 hx, fun x hx => ?_, h.a2⟩, hk.mono fun x _ hx hf => hx (.inl hf)⟩
  rcases hx with rfl | hx
  · exact h.a1 _ (.inl rfl)
  · rcases ho x hx with h1 | h1
    · exact h.a1 x (.inr h1)
    · refine ⟨fun e => ?_, fun e => ?_⟩
      · have := (h.want.lt e).1; omega
      · have := (h.b.lt e).1; omega
/-- What is wanted has grown. -/
theorem WS.grown {wantv' : Value} {D' : List UInt8} (h : WS w base wb v wantv bv C D xs) (hr : Row1 w' base 5 wantv' (bc D')) (hk : Kept (fun b => wantv.ownBlock ≠ some b) w w') (hat : wantv'.ownBlock = wantv.ownBlock ∨ wantv'.ownBlock = some w.heap.size) :
    WS w' base wb v wantv' bv C D' xs ∧ Kept (fun b => ¬ wsFoot wb v wantv bv b) w w' := by
  refine ⟨⟨h.rep.kept (hk.mono fun x _ hx e => (h.a1 x hx).1 e), hr, h.b.kept hk fun x hx e => h.a2 x e hx, fun x hx => ⟨fun e => ?_, (h.a1 x hx).2⟩, fun x hx e => ?_⟩, hk.mono fun x _ hx e => hx (.inr (.inl e))⟩
  · rcases hat with e1 | e1
    · exact (h.a1 x hx).1 (e1 ▸ e)
    · rw [e1] at e
      cases e
      exact Nat.lt_irrefl _ (h.rep.foot_lt _ hx)
  · rcases hat with e1 | e1
    · exact h.a2 x (e1 ▸ hx) e
    · rw [e1] at hx
      cases hx
      exact Nat.lt_irrefl _ (h.b.lt e).1
/-- The law's own slice is turned. -/
theorem WS.bset {g cap j : Nat} {n : Nat} (h : WS w base wb v wantv (.slice (some ⟨g, 0, none⟩) n cap) C D xs) (u : Value) :
    WS (w.setCell ⟨g, j, none⟩ u) base wb v wantv (.slice (some ⟨g, 0, none⟩) n cap) C D (xs.set j u) ∧ Kept (fun b => ¬ wsFoot wb v wantv (.slice (some ⟨g, 0, none⟩) n cap) b) w (w.setCell ⟨g, j, none⟩ u) := by
  have hk : Kept (fun b => b ≠ g) w (w.setCell ⟨g, j, none⟩ u) := (Kept.refl _ w).setCell (fun _ hn => hn rfl) u
  refine ⟨⟨h.rep.kept (hk.mono fun x _ hx e => (h.a1 x hx).2 (by rw [e]; rfl)), h.want.kept hk fun x hx e => h.a2 x hx (by rw [e]; rfl), ?_, h.a1, h.a2⟩, hk.mono fun x _ hx e => hx (.inr (.inr (by rw [e]; rfl)))⟩
  rcases h.b with ⟨h0, _⟩ | ⟨g0, cap0, cur, hv, hbg, hg, hnc, hcc, hcm, ht⟩
  · cases h0
  · injection hv with hA hn hc
    injection hA with hA
    injection hA with hA
    subst hA hc
    refine .inr ⟨g, cap, cur.setIfInBounds j u, by rw [List.length_set, ← hn], hbg, hg.set_ j u, by rw [List.length_set]; exact hnc, by simpa using hcc, hcm, ?_⟩
    rw [Array.toList_setIfInBounds, List.length_set, List.take_set, ht]
end
end Ytglhkfiigbbpdaa
end Go.Proofs
