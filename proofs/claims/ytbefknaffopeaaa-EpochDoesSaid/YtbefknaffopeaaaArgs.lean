/-
  The arguments of a law: a slice of calls, each a kind and a number.
-/
import Derived.Test.YtbefknaffopeaaaOps
namespace Go.Proofs
open Go.RowKit
namespace Ytbefknaffopeaaa
/-- The slice value v holds the calls l. -/
structure OpsIn (w : World) (A : Option Addr) (l : List (Int × Int)) : Prop where
  len : l.length * 16 ≤ 140737488351232
  at_ : ∀ (i : Nat) (p : Int × Int), l[i]? = some p → ∃ b off, A = some ⟨b, off, none⟩ ∧ b < w.heap.size ∧ w.cell? ⟨b, off + i * 2, none⟩ = some (.int .i64 p.1) ∧ w.cell? ⟨b, off + i * 2 + 1, none⟩ = some (.int .i64 p.2)
theorem OpsIn.get {w w' : World} {A : Option Addr} {l : List (Int × Int)} (h : OpsIn w A l) (hk : Kept (fun b => b < w.heap.size) w w') {i : Nat} (hi : i < l.length) :
    ∃ b off p, l[i]? = some p ∧ A = some ⟨b, off, none⟩ ∧ w'.cell? ⟨b, off + i * 2, none⟩ = some (.int .i64 p.1) ∧ w'.cell? ⟨b, off + i * 2 + 1, none⟩ = some (.int .i64 p.2) := by
  obtain ⟨b, off, hA, hb, h1, h2⟩ := h.at_ i _ (List.getElem?_eq_getElem hi)
  exact ⟨b, off, _, List.getElem?_eq_getElem hi, hA, (hk.cell (p := ⟨b, off + i * 2, none⟩) hb hb).trans h1, (hk.cell (p := ⟨b, off + i * 2 + 1, none⟩) hb hb).trans h2⟩
end Ytbefknaffopeaaa
end Go.Proofs
