/-
  What an Epochs is in memory.
-/
import Derived.Test.YtbefknaffopeaaaCell
namespace Go.Proofs.Ytbefknaffopeaaa
open Go.RowKit

/-- The accesses counted: 'none': each cell has a count of its own, which nobody reads; 'some (k, t)': all are counted by block k. -/
abbrev Gho := Option (Nat × Tal)
def Gho.on (g : Gho) (f : Tal → Tal) : Gho := g.map fun p => (p.1, f p.2)
def Cnts (w : World) (ks : List Nat) (g : Gho) : Prop :=
  match g with
  | none => ∀ k ∈ ks, ∃ t, CntAt w k t
  | some (k0, t) => CntAt w k0 t ∧ ∀ k ∈ ks, k = k0

/-- The state: the epoch, the clients' cells, who is in, what waits, the count. -/
structure St where
  now : Int
  cells : List Int
  ins : List Bool
  waits : List (Int × Int)
  g : Gho

/-- Where it lies: the struct's block, the epoch's cell and its count, the clients' cells and their counts, the slice of these, the block of who is in, the slice of what waits. -/
structure Lay where
  eb : Nat
  nb : Nat
  nk : Nat
  ints : List (Nat × Nat)
  cv : Value
  inb : Nat
  wv : Value

def Lay.ks (L : Lay) : List Nat := L.nk :: L.ints.map (·.2)
def Lay.foot (L : Lay) (b : Nat) : Prop := b = L.eb ∨ b = L.nb ∨ (∃ i ∈ L.ints, b = i.1) ∨ b ∈ L.ks ∨ L.cv.ownBlock = some b ∨ b = L.inb ∨ L.wv.ownBlock = some b

def ptrOf (p : Nat × Nat) : Value := .pointer (some ⟨p.1, 0, none⟩)
def waitCells (l : List (Int × Int)) : List Value := l.flatMap fun p => [.int .i64 p.1, .int .i64 p.2]

structure Rep (w : World) (base : Nat) (L : Lay) (S : St) : Prop where
  eblk : Blk w L.eb 55 #[.pointer (some ⟨L.nb, 0, none⟩), L.cv, .slice (some ⟨L.inb, 0, none⟩) L.ints.length L.ints.length, L.wv]
  now : IntAt w L.nb L.nk S.now
  cv : w.ownsRow base 50 1 L.cv L.ints.length (L.ints.map ptrOf)
  int : ∀ (i : Nat) (p : Nat × Nat) (c : Int), L.ints[i]? = some p → S.cells[i]? = some c → IntAt w p.1 p.2 c
  nd : (L.nb :: L.ints.map (·.1)).Nodup
  inblk : Blk w L.inb 4 (S.ins.map Value.bool).toArray
  wv : w.ownsRow base 58 2 L.wv S.waits.length (waitCells S.waits)
  lc : S.cells.length = L.ints.length
  li : S.ins.length = L.ints.length
  le : L.ints.length ≤ 64
  one : 1 ≤ L.ints.length
  cnt : Cnts w L.ks S.g
  low : ∀ b, L.foot b → base ≤ b

section
variable {w : World} {base : Nat} {L : Lay} {S : St}
theorem Rep.pos (h : Rep w base L S) {i : Nat} (hi : i < L.ints.length) : ∃ g cap, L.cv = .slice (some ⟨g, 0, none⟩) L.ints.length cap := by
  obtain ⟨g, cap, hv, _⟩ := h.cv.form (by omega)
  exact ⟨g, cap, hv⟩
end
end Go.Proofs.Ytbefknaffopeaaa
