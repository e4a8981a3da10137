/-
  Words for memory, over no program: a block known whole, a world that keeps some of its blocks, a slice that reads as a list.
-/
import Derived.WalkKit
import Derived.Lib.Hide
import Derived.Deep.Slices
import Derived.Deep.Fields
import Derived.ChangeSame
import Derived.Deep.AppendLies
import Derived.Deep.Draws
import Derived.Maps.AppendAt
import Derived.RegionTactic
import Derived.OwnWalk
namespace Go.Proofs.Ythmijlchonbjnaa
open Go.RowKit Go.ChangeShapes Go.WideShapes Go.Deep

/-- Block g is just the cells cs of element type t, none frozen. -/
def Blk (w : World) (g : Nat) (t : TypeId) (cs : Array Value) : Prop := w.heap[g]? = some (.cells cs t (0, 0))

section
variable {w w' : World} {g : Nat} {t : TypeId} {cs : Array Value}
theorem Blk.lt (h : Blk w g t cs) : g < w.heap.size := by
  rcases Nat.lt_or_ge g w.heap.size with hlt | hge
  · exact hlt
  · unfold Blk at h; rw [Array.getElem?_eq_none hge] at h; cases h
theorem Blk.cell (h : Blk w g t cs) (i : Nat) : w.cell? ⟨g, i, none⟩ = cs[i]? := cell_of_row w g i cs t (0, 0) h
theorem Blk.frozen (h : Blk w g t cs) (i : Nat) : w.frozen? ⟨g, i, none⟩ = false := by
  unfold Blk at h
  simp [World.frozen?, h]
theorem Blk.new (w : World) (t : TypeId) (cs : Array Value) : Blk (w.alloc (.cells cs t)) w.heap.size t cs := heap_alloc_new w _
theorem Blk.drew (h : Blk w g t cs) : Blk w.drew g t cs := h
theorem Blk.drewN (h : Blk w g t cs) (n : Nat) : Blk (w.drewN n) g t cs := h
theorem Blk.alloc (h : Blk w g t cs) (o : Obj) : Blk (w.alloc o) g t cs := (Below.heap_alloc w o g h.lt).trans h
theorem Blk.set_ (h : Blk w g t cs) (i : Nat) (u : Value) : Blk (w.setCell ⟨g, i, none⟩ u) g t (cs.setIfInBounds i u) := by
  unfold Blk at h ⊢
  simp [World.setCell, Array.getElem?_modify, h]
theorem Blk.far (h : Blk w g t cs) {p : Addr} (hp : g ≠ p.block) (u : Value) : Blk (w.setCell p u) g t cs := (Below.heap_setCell w p u g hp).trans h
theorem Blk.below {B : Nat} (h : Blk w g t cs) (hb : Below B w w') (hg : g < B) : Blk w' g t cs := (hb.block g hg).trans h
theorem Blk.grown {row : Option Nat} (h : Blk w g t cs) (hb : w.grownBy w' row) (hg : some g ≠ row) : Blk w' g t cs := (hb.block g h.lt hg).trans h
theorem Blk.ne_ {g' : Nat} {t' : TypeId} {cs' : Array Value} (h : Blk w g t cs) (h' : Blk w g' t' cs') (hne : t ≠ t') : g ≠ g' := by
  rintro rfl
  unfold Blk at h h'
  rw [h] at h'
  injection h' with h'
  injection h' with _ ht
  exact hne ht
theorem Blk.inj {cs' : Array Value} (h : Blk w g t cs) (h' : Blk w g t cs') : cs = cs' := by
  unfold Blk at h h'
  rw [h] at h'
  injection h' with h'
  injection h'
theorem own_blk_ne {base : Nat} {e : TypeId} {size n : Nat} {v : Value} {xs : List Value} (h : w.ownsRow base e size v n xs) (hg : Blk w g t cs) (hne : e ≠ t) : v.ownBlock ≠ some g := by
  rcases h.2 with ⟨rfl, _⟩ | ⟨g', cap, cur, rfl, _, hh, _⟩
  · simp [Value.ownBlock]
  · intro he
    have : g' = g := by simpa [Value.ownBlock] using he
    subst this
    exact Blk.ne_ (t := e) hh hg hne rfl
end

theorem row_far {w : World} {base : Nat} {e : TypeId} {size n : Nat} {v : Value} {xs : List Value} (h : w.ownsRow base e size v n xs) {b : Nat} {t : TypeId} {cs : Array Value} (hb : Blk w b t cs) (hne : e ≠ t) (i : Nat) (u : Value) :
    (w.setCell ⟨b, i, none⟩ u).ownsRow base e size v n xs := ownsRow_setCell_other h (a := ⟨b, i, none⟩) (own_blk_ne h hb hne) u
theorem blk_far {w : World} {g : Nat} {t : TypeId} {cs : Array Value} (h : Blk w g t cs) {b : Nat} {t' : TypeId} {cs' : Array Value} (hb : Blk w b t' cs') (hne : t ≠ t') (i : Nat) (u : Value) :
    Blk (w.setCell ⟨b, i, none⟩ u) g t cs := h.far (p := ⟨b, i, none⟩) (Blk.ne_ h hb hne) u

/-- The world w' is w where K says so; the streams are as they were; no block has gone. -/
structure Kept (K : Nat → Prop) (w w' : World) : Prop where
  os : w'.os = w.os
  tape : w'.tape = w.tape
  output : w'.output = w.output
  size : w.heap.size ≤ w'.heap.size
  block : ∀ k, k < w.heap.size → K k → w'.heap[k]? = w.heap[k]?

section
variable {K K' : Nat → Prop} {w w' w2 : World}
theorem Kept.refl (K : Nat → Prop) (w : World) : Kept K w w := ⟨rfl, rfl, rfl, Nat.le_refl _, fun _ _ _ => rfl⟩
theorem Kept.trans (h : Kept K w w') (k : Kept K w' w2) : Kept K w w2 :=
  ⟨k.os.trans h.os, k.tape.trans h.tape, k.output.trans h.output, Nat.le_trans h.size k.size, fun i hi hk => (k.block i (Nat.lt_of_lt_of_le hi h.size) hk).trans (h.block i hi hk)⟩
/-- Two steps, the second of which may also touch what is new since the first began. -/
theorem Kept.trans' (h : Kept K w w') (k : Kept K' w' w2) (hk : ∀ i, i < w.heap.size → K i → K' i) : Kept K w w2 :=
  ⟨k.os.trans h.os, k.tape.trans h.tape, k.output.trans h.output, Nat.le_trans h.size k.size, fun i hi hK => (k.block i (Nat.lt_of_lt_of_le hi h.size) (hk i hi hK)).trans (h.block i hi hK)⟩
theorem Kept.mono (h : Kept K w w') (hk : ∀ i, i < w.heap.size → K' i → K i) : Kept K' w w' :=
  ⟨h.os, h.tape, h.output, h.size, fun i hi hK => h.block i hi (hk i hi hK)⟩
theorem Kept.drew (h : Kept K w w') : Kept K w w'.drew := ⟨h.os, h.tape, h.output, h.size, h.block⟩
theorem Kept.drewN (h : Kept K w w') (n : Nat) : Kept K w (w'.drewN n) := ⟨h.os, h.tape, h.output, h.size, h.block⟩
theorem Kept.alloc (h : Kept K w w') (o : Obj) : Kept K w (w'.alloc o) :=
  h.trans ⟨rfl, rfl, rfl, by simp, fun k hk _ => Below.heap_alloc _ _ _ (by omega)⟩
theorem Kept.setCell (h : Kept K w w') {p : Addr} (hp : p.block < w.heap.size → ¬ K p.block) (u : Value) : Kept K w (w'.setCell p u) :=
  ⟨h.os, h.tape, h.output, by simpa [World.setCell] using h.size, fun k hk hK => (Below.heap_setCell _ _ _ _ (fun e => by subst e; exact hp hk hK)).trans (h.block k hk hK)⟩
theorem Kept.grown (h : Kept K w w') {row : Option Nat} (hg : w'.grownBy w2 row) (hr : ∀ k, row = some k → k < w.heap.size → ¬ K k) : Kept K w w2 :=
  ⟨hg.os.trans h.os, hg.tape.trans h.tape, hg.output.trans h.output, Nat.le_trans h.size hg.size, fun k hk hK => (hg.block k (Nat.lt_of_lt_of_le hk h.size) (fun e => hr k e.symm hk hK)).trans (h.block k hk hK)⟩
theorem Blk.kept {g : Nat} {t : TypeId} {cs : Array Value} (hb : Blk w g t cs) (h : Kept K w w') (hk : K g) : Blk w' g t cs := (h.block g hb.lt hk).trans hb
theorem Kept.below (h : Kept K w w') {B : Nat} (hB : B ≤ w.heap.size) (hk : ∀ k, k < B → K k) : Below B w w' := ⟨h.os, h.tape, h.output, h.size, fun k hkB => h.block k (by omega) (hk k hkB)⟩
theorem Kept.cell (h : Kept K w w') {p : Addr} (hp : p.block < w.heap.size) (hk : K p.block) : w'.cell? p = w.cell? p := World.cell?_of_block (w := w) (h.block p.block hp hk)
theorem Kept.frozen (h : Kept K w w') {p : Addr} (hp : p.block < w.heap.size) (hk : K p.block) : w'.frozen? p = w.frozen? p := World.frozen?_of_block (w := w) (h.block p.block hp hk)
theorem ownsRow_kept {base : Nat} {e : TypeId} {size n : Nat} {v : Value} {xs : List Value} (h : w.ownsRow base e size v n xs) (hk : Kept K w w') (ho : ∀ g, v.ownBlock = some g → K g) : w'.ownsRow base e size v n xs := by
  obtain ⟨h1, h2⟩ := h
  refine ⟨h1, ?_⟩
  rcases h2 with h2 | ⟨g, cap, cur, hv, hg, hh, r⟩
  · exact Or.inl h2
  · subst hv
    refine Or.inr ⟨g, cap, cur, rfl, hg, ?_, r⟩
    have hlt : g < w.heap.size := Blk.lt (t := e) hh
    rw [hk.block g hlt (ho g (by simp [Value.ownBlock]))]
    exact hh
theorem own_low {base base' : Nat} {e : TypeId} {size n : Nat} {v : Value} {xs : List Value} (h : w.ownsRow base e size v n xs) (hb : base' ≤ base) : w.ownsRow base' e size v n xs :=
  ⟨h.1, h.2.imp id fun ⟨g, cap, cur, h1, h2, h3⟩ => ⟨g, cap, cur, h1, Nat.le_trans hb h2, h3⟩⟩
theorem own_high {base base' : Nat} {e : TypeId} {size n : Nat} {v : Value} {xs : List Value} (h : w.ownsRow base e size v n xs) (hb : ∀ g, v.ownBlock = some g → base' ≤ g) : w.ownsRow base' e size v n xs :=
  ⟨h.1, h.2.imp id fun ⟨g, cap, cur, h1, h2, h3⟩ => ⟨g, cap, cur, h1, hb g (by rw [h1]; rfl), h3⟩⟩
theorem ownsRow_lt {base : Nat} {e : TypeId} {size n : Nat} {v : Value} {xs : List Value} (h : w.ownsRow base e size v n xs) {g : Nat} (hg : v.ownBlock = some g) : g < w.heap.size ∧ base ≤ g := by
  rcases h.2 with ⟨rfl, _⟩ | ⟨g', cap, cur, rfl, hb, hh, _⟩
  · simp [Value.ownBlock] at hg
  · have : g' = g := by simpa [Value.ownBlock] using hg
    subst this
    exact ⟨Blk.lt (t := e) hh, hb⟩
end
end Go.Proofs.Ythmijlchonbjnaa
