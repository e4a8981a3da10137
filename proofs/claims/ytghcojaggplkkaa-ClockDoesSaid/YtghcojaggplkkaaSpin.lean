/-
  The hand's way round the ring, in plain Lean.
-/
import Derived.Test.YtghcojaggplkkaaRep
namespace Go.Proofs.Ytghcojaggplkkaa

def marks (r : List Pg) : Nat := r.countP (·.m)
def clearM (p : Pg) : Pg := { p with m := false }
def spinF : Nat → List Pg → Nat → Int × List Pg × Nat
  | 0, r, h => (0, r, h)
  | f + 1, r, h => match r[h]? with
    | none => (0, r, h)
    | some p => if p.m then spinF f (r.set h (clearM p)) ((h + 1) % r.length) else (p.n, r, (h + 1) % r.length)
/-- The page that is to go, the ring and the hand behind it. -/
def spin (r : List Pg) (h : Nat) : Int × List Pg × Nat := spinF (marks r + 1) r h

theorem marks_set : ∀ (r : List Pg) (h : Nat) (p : Pg), r[h]? = some p → p.m = true → marks (r.set h (clearM p)) + 1 = marks r
  | [], h, p, hp, _ => by simp at hp
  | q :: r, 0, p, hp, hm => by
    simp at hp
    subst hp
    simp [marks, List.countP_cons, clearM, hm]
  | q :: r, h + 1, p, hp, hm => by
    have := marks_set r h p (by simpa using hp) hm
    simp only [marks, List.set_cons_succ, List.countP_cons] at this ⊢
    omega

theorem spin_go {r : List Pg} {h : Nat} {p : Pg} (hp : r[h]? = some p) (hm : p.m = true) : spin r h = spin (r.set h (clearM p)) ((h + 1) % r.length) := by
  have := marks_set r h p hp hm
  unfold spin
  rw [this]
  simp only [spinF, hp, hm, if_true]
theorem spin_stop {r : List Pg} {h : Nat} {p : Pg} (hp : r[h]? = some p) (hm : p.m = false) : spin r h = (p.n, r, (h + 1) % r.length) := by
  unfold spin
  simp only [spinF, hp, hm]
  rfl
end Go.Proofs.Ytghcojaggplkkaa
