/-
  The chapter's example, reckoned.
-/
import Derived.Test.YtghcojaggplkkaaPure
namespace Go.Proofs.Ytghcojaggplkkaa
def ex0 (g : Gho) : Ck := ⟨100, 0, [], 0, g⟩
def ex1 (g : Gho) : Ck := ⟨100, 60, [⟨1, 60, true⟩], 0, g.on Tal.add⟩
def ex2 (g : Gho) : Ck := ⟨100, 120, [⟨1, 60, true⟩, ⟨2, 60, true⟩], 0, (g.on Tal.add).on Tal.add⟩
def ex3 (g : Gho) : Ck := ⟨100, 120, [⟨1, 60, false⟩, ⟨2, 60, false⟩], 1, ((g.on Tal.add).on Tal.add).on Tal.load⟩
def ex4 (g : Gho) : Ck := ⟨100, 120, [⟨1, 60, false⟩, ⟨2, 60, true⟩], 1, ((g.on Tal.add).on Tal.add).on Tal.load⟩
def ex5 (g : Gho) : Ck := ⟨100, 120, [⟨1, 60, false⟩, ⟨2, 60, false⟩], 1, (((g.on Tal.add).on Tal.add).on Tal.load).on Tal.load⟩
def ex6 (g : Gho) : Ck := ⟨100, 60, [⟨2, 60, false⟩], 0, ((((g.on Tal.add).on Tal.add).on Tal.load).on Tal.load).on Tal.add⟩
theorem ex_1 (g : Gho) : (ex0 g).add 1 60 = (0, ex1 g) := by simp [ex0, ex1, Ck.add, idx]
theorem ex_2 (g : Gho) : (ex1 g).add 2 60 = (0, ex2 g) := by simp [ex1, ex2, Ck.add, idx]
theorem ex_3 (g : Gho) : (ex2 g).victim = ((1, true), ex3 g) := by simp [ex2, ex3, Ck.victim, Ck.load, spin, spinF, marks, clearM]
theorem ex_4 (g : Gho) : (ex3 g).touch 2 = ex4 g := by simp [ex3, ex4, Ck.touch, idx, List.findIdx?_cons]
theorem ex_5 (g : Gho) : (ex4 g).victim = ((1, true), ex5 g) := by simp [ex4, ex5, Ck.victim, Ck.load, spin, spinF, marks, clearM]
theorem ex_6 (g : Gho) : (ex5 g).add 1 0 = (0, ex6 g) := by simp [ex5, ex6, Ck.add, idx, pageB, dropHand, List.findIdx?_cons]
theorem ex_7 (g : Gho) : (ex6 g).victim = ((0, false), (ex6 g).load) := by simp [ex6, Ck.victim]
theorem ex_8 (S : Ck) : (S.add 0 1) = (1, S) := by simp [Ck.add]
end Go.Proofs.Ytghcojaggplkkaa
