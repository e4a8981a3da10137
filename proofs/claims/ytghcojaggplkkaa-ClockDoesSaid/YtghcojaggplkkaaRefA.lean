/-
  The reference's clock, in memory: the same state.
-/
import Derived.Test.YtghcojaggplkkaaRefT
set_option maxHeartbeats 1000000
namespace Go.Proofs
open Go.RowKit
namespace Ytghcojaggplkkaa
def Ck.tal (S : Ck) : Tal := match S.g with | some p => p.2 | none => Tal.zero
/-- The cells of the reference's ring. -/
def ringCells (r : List Pg) : List Value := r.flatMap fun p => [.int .i64 p.n, .int .i64 p.b, .bool p.m]
/-- A row whose slice may be shorter than its block. -/
def RowS (w : World) (base : Nat) (e : TypeId) (s : Nat) (v : Value) (n : Nat) (xs : List Value) : Prop :=
  xs.length = n * s ∧ ((v = .slice none 0 0 ∧ n = 0) ∨ ∃ g cap cur, v = .slice (some ⟨g, 0, none⟩) n cap ∧ base ≤ g ∧ Blk w g e cur ∧ n ≤ cap ∧ cap * s ≤ cur.size ∧ cap ≤ maxLen ∧ cur.toList.take (n * s) = xs)
section
variable {w w' : World} {base : Nat} {e : TypeId} {s n : Nat} {v : Value} {xs : List Value}
theorem RowS.kept {K : Nat → Prop} (h : RowS w base e s v n xs) (hk : Kept K w w') (ho : ∀ g, v.ownBlock = some g → K g) : RowS w' base e s v n xs := by
  obtain ⟨h1, h2⟩ := h
  refine ⟨h1, h2.imp id ?_⟩
  rintro ⟨g, cap, cur, hv, hb, hh, r⟩
  subst hv
  exact ⟨g, cap, cur, rfl, hb, hh.kept hk (ho g rfl), r⟩
theorem RowS.blk (h : RowS w base e s v n xs) {g : Nat} (hg : v.ownBlock = some g) : ∃ cs, Blk w g e cs ∧ base ≤ g := by
  rcases h.2 with ⟨rfl, _⟩ | ⟨g', cap, cur, rfl, hb, hh, _⟩
  · simp [Value.ownBlock] at hg
  · have : g' = g := by simpa [Value.ownBlock] using hg
    subst this
    exact ⟨cur, hh, hb⟩
theorem RowS.ne_ (h : RowS w base e s v n xs) {g : Nat} {t : TypeId} {cs : Array Value} (hg : Blk w g t cs) (hne : e ≠ t) : v.ownBlock ≠ some g := by
  intro he
  obtain ⟨cs', h', _⟩ := h.blk he
  exact Blk.ne_ h' hg hne rfl
theorem RowS.far (h : RowS w base e s v n xs) {b : Nat} {t : TypeId} {cs : Array Value} (hb : Blk w b t cs) (hne : e ≠ t) (i : Nat) (u : Value) : RowS (w.setCell ⟨b, i, none⟩ u) base e s v n xs :=
  h.kept (K := fun c => c ≠ b) ((Kept.refl _ w).setCell (fun _ hn => hn rfl) u) fun g hg e' => h.ne_ hb hne (e' ▸ hg)
theorem RowS.form (h : RowS w base e s v n xs) : ∃ A c, v = .slice A n c := by
  rcases h.2 with ⟨rfl, rfl⟩ | ⟨g, cap, cur, rfl, _⟩
  · exact ⟨_, _, rfl⟩
  · exact ⟨_, _, rfl⟩
theorem RowS.at_ (h : RowS w base e s v n xs) {i : Nat} {x : Value} (hi : xs[i]? = some x) : ∃ g cap, v = .slice (some ⟨g, 0, none⟩) n cap ∧ w.cell? ⟨g, i, none⟩ = some x := by
  have hl := (List.getElem?_eq_some_iff.1 hi).1
  rcases h.2 with ⟨rfl, rfl⟩ | ⟨g, cap, cur, rfl, _, hh, _, _, _, ht⟩
  · have := h.1
    simp at this
    subst this
    simp at hi
  · refine ⟨g, cap, rfl, ?_⟩
    rw [hh.cell]
    rw [← ht, List.getElem?_take] at hi
    have := h.1
    split at hi
    · simpa using hi
    · cases hi
end
structure RLay where
  rb : Nat
  lv : Value
def RLay.foot (R : RLay) (b : Nat) : Prop := b = R.rb ∨ R.lv.ownBlock = some b
def refCells (S : Ck) (lv : Value) : Array Value :=
  #[.int .i64 S.budget, lv, .int .i64 S.hand, .int .i64 S.tal.l, .int .i64 S.tal.s, .int .i64 S.tal.c, .int .i64 S.tal.m, .int .i64 S.tal.a]
structure RRep (w : World) (base : Nat) (R : RLay) (S : Ck) : Prop where
  rblk : Blk w R.rb 49 (refCells S R.lv)
  lv : RowS w base 69 3 R.lv S.ring.length (ringCells S.ring)
  some_ : S.g ≠ none
  low : ∀ b, R.foot b → base ≤ b
end Ytghcojaggplkkaa
end Go.Proofs
