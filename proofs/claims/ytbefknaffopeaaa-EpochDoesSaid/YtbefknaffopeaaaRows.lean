/-
  No cell of these rows narrows 'for every input' (looked for: loops, veiled, ifaces, maps, wideKeys, modest, calm, conditions, laid).
  DERIVED. THE GIVEN ROWS OF THIS SEAT. 4 by the template 'for every input the law returns true; each argument reads behind the call as it read before'; 0 by the template 'total and deterministic' (their statements: YtbefknaffopeaaaTotals.lean).
  GIVEN WITH THE SEED: the statements are not yours to turn. If you find one false, say at which input.
  Laid BY PROGRAM, IN A SANDBOX (cutbox-rows.mjs): the forced cells as the released guide's own fill.sh prints them over the translation edb379041d30cb9b… (all of the seat's roots in one cut). By AI agents, Wed Nov 11 2026. No macro, syntax, notation, axiom, sorry.
-/
import Derived.Test.YtbefknaffopeaaaChecked
import GoSem.Claim
import GoSem.ClaimJoined
import GoSem.ClaimMapViews
import Derived.JoinedTies
import Derived.KernelRfl
namespace Go.Proofs.Ytbefknaffopeaaa
/- THE CELL 'sum', in the pinned program and in every row, IS THE sha256 OF THE DUMP (.gsa) THAT YtbefknaffopeaaaProg.lean LOADS. Nothing in Lean hashes anything: it is a label: what it is worth is what the hold of that sum in a sandbox is worth. -/
noncomputable def Try.pinned : Pinned := { name := "ytbefknaffopeaaa", sum := "edb379041d30cb9bc9cb25c2075ebd0e29b0472d730f60307b63747052b1d7fe", checked := Try.checked }
namespace Rows
def none {H : Type} : Left H := { results := [], args := [] }

/-- 'pollardlaw06.EpochHolds': WHATEVER THE INPUT: true; the input reads as it did. -/
def epochHoldsSpec : ChangeSpec := { name := "epochHolds", fn := fun _ => fun
  | [d1, d2, d3] => { results := [.lit (.bool true)], args := [d1, d2, d3] }
  | _ => none }
def epochHoldsRow : OpenClaim := { program := "ytbefknaffopeaaa", sum := "edb379041d30cb9bc9cb25c2075ebd0e29b0472d730f60307b63747052b1d7fe", func := "pollard/pollardlaw06.EpochHolds", spec := "epochHolds", inPlace := ["sync/atomic.StoreInt64", "sync/atomic.AddInt64", "sync/atomic.LoadInt64"], unfollowed := true, recurses := true, apart := false }
def EpochHoldsSaid : Prop := epochHoldsRow.holds Try.pinned (OpenSpec.ofChange epochHoldsSpec)

/-- ITS FALSE NEIGHBOUR: 'it returns false'. Refute it at one input. -/
def epochHoldsWrong : ChangeSpec := { name := "epochHolds", fn := fun _ => fun
  | [d1, d2, d3] => { results := [.lit (.bool false)], args := [d1, d2, d3] }
  | _ => none }
def EpochHoldsWrongFalsely : Prop := epochHoldsRow.holds Try.pinned (OpenSpec.ofChange epochHoldsWrong)

/-- 'pollardlaw06.EpochOnce': WHATEVER THE INPUT: true; the input reads as it did. -/
def epochOnceSpec : ChangeSpec := { name := "epochOnce", fn := fun _ => fun
  | [d1, d2] => { results := [.lit (.bool true)], args := [d1, d2] }
  | _ => none }
def epochOnceRow : OpenClaim := { program := "ytbefknaffopeaaa", sum := "edb379041d30cb9bc9cb25c2075ebd0e29b0472d730f60307b63747052b1d7fe", func := "pollard/pollardlaw06.EpochOnce", spec := "epochOnce", inPlace := ["sync/atomic.StoreInt64", "sync/atomic.AddInt64", "sync/atomic.LoadInt64"], unfollowed := true, recurses := true, apart := false }
def EpochOnceSaid : Prop := epochOnceRow.holds Try.pinned (OpenSpec.ofChange epochOnceSpec)

/-- ITS FALSE NEIGHBOUR: 'it returns false'. Refute it at one input. -/
def epochOnceWrong : ChangeSpec := { name := "epochOnce", fn := fun _ => fun
  | [d1, d2] => { results := [.lit (.bool false)], args := [d1, d2] }
  | _ => none }
def EpochOnceWrongFalsely : Prop := epochOnceRow.holds Try.pinned (OpenSpec.ofChange epochOnceWrong)

/-- 'pollardlaw06.EpochRises': WHATEVER THE INPUT: true; the input reads as it did. -/
def epochRisesSpec : ChangeSpec := { name := "epochRises", fn := fun _ => fun
  | [d1, d2] => { results := [.lit (.bool true)], args := [d1, d2] }
  | _ => none }
def epochRisesRow : OpenClaim := { program := "ytbefknaffopeaaa", sum := "edb379041d30cb9bc9cb25c2075ebd0e29b0472d730f60307b63747052b1d7fe", func := "pollard/pollardlaw06.EpochRises", spec := "epochRises", inPlace := ["sync/atomic.StoreInt64", "sync/atomic.AddInt64", "sync/atomic.LoadInt64"], unfollowed := true, recurses := true, apart := false }
def EpochRisesSaid : Prop := epochRisesRow.holds Try.pinned (OpenSpec.ofChange epochRisesSpec)

/-- ITS FALSE NEIGHBOUR: 'it returns false'. Refute it at one input. -/
def epochRisesWrong : ChangeSpec := { name := "epochRises", fn := fun _ => fun
  | [d1, d2] => { results := [.lit (.bool false)], args := [d1, d2] }
  | _ => none }
def EpochRisesWrongFalsely : Prop := epochRisesRow.holds Try.pinned (OpenSpec.ofChange epochRisesWrong)

/-- 'pollardlaw06.EpochDoes': WHATEVER THE INPUT: true; the input reads as it did. -/
def epochDoesSpec : ChangeSpec := { name := "epochDoes", fn := fun _ => fun
  | [d1, d2] => { results := [.lit (.bool true)], args := [d1, d2] }
  | _ => none }
def epochDoesRow : OpenClaim := { program := "ytbefknaffopeaaa", sum := "edb379041d30cb9bc9cb25c2075ebd0e29b0472d730f60307b63747052b1d7fe", func := "pollard/pollardlaw06.EpochDoes", spec := "epochDoes", inPlace := ["sync/atomic.StoreInt64", "sync/atomic.AddInt64", "sync/atomic.LoadInt64"], unfollowed := true, recurses := true, apart := false }
def EpochDoesSaid : Prop := epochDoesRow.holds Try.pinned (OpenSpec.ofChange epochDoesSpec)

/-- ITS FALSE NEIGHBOUR: 'it returns false'. Refute it at one input. -/
def epochDoesWrong : ChangeSpec := { name := "epochDoes", fn := fun _ => fun
  | [d1, d2] => { results := [.lit (.bool false)], args := [d1, d2] }
  | _ => none }
def EpochDoesWrongFalsely : Prop := epochDoesRow.holds Try.pinned (OpenSpec.ofChange epochDoesWrong)

/- THE SECOND FORM. 'bulk': how many values and letters a reading holds, each counted each time it is reached (what is shared counts as often as it is met; a slice's spare places count too). A statement '..UptoSaid' is the law's where the arguments, and the package variables that the reading takes, are together of bulk at most 1048576: NARROWER than '..Said'. Prove '..Said' where nothing that the law and all that it calls make is longer than what came in: it says more and counts as full. Else prove '..UptoSaid'. A law counts once. -/
mutual
def uptoBulk {H : Type} : DataW H → Nat
  | .lit (.string bytes) => bytes.length + 1
  | .lit _ => 1
  | .nil => 1
  | .ptr d => uptoBulk d + 1
  | .slice elems spare => uptoBulkAll elems + uptoBulkAll spare + 1
  | .agg parts => uptoBulkAll parts + 1
  | .iface _ d => uptoBulk d + 1
  | .map entries => uptoBulkEntries entries + 1
  | .held _ => 1
def uptoBulkAll {H : Type} : List (DataW H) → Nat
  | [] => 0
  | d :: r => uptoBulk d + uptoBulkAll r
def uptoBulkEntries {H : Type} : List (Lit × DataW H) → Nat
  | [] => 0
  | x :: r => uptoBulkEntry x + uptoBulkEntries r
def uptoBulkEntry {H : Type} : Lit × DataW H → Nat
  | (.string bytes, d) => bytes.length + uptoBulk d + 1
  | (_, d) => uptoBulk d + 1
 end
def uptoSmall : (H : Type) → List (DataW H) → Bool := fun _ ds => decide (uptoBulkAll ds ≤ 1048576)
def OpenSpec.upto (s : _root_.Go.ChangeSpec) : _root_.Go.OpenSpec := { _root_.Go.OpenSpec.ofChange s with cond := some uptoSmall }

/-- 'pollardlaw06.EpochHolds', WHERE WHAT IT READS IS OF BULK AT MOST 1048576: true; the input reads as it did. -/
def epochHoldsUptoRow : OpenClaim := { program := "ytbefknaffopeaaa", sum := "edb379041d30cb9bc9cb25c2075ebd0e29b0472d730f60307b63747052b1d7fe", func := "pollard/pollardlaw06.EpochHolds", spec := "epochHolds", inPlace := ["sync/atomic.StoreInt64", "sync/atomic.AddInt64", "sync/atomic.LoadInt64"], unfollowed := true, recurses := true, apart := false, narrowed := true }
def EpochHoldsUptoSaid : Prop := epochHoldsUptoRow.holds Try.pinned (OpenSpec.upto epochHoldsSpec)

/-- 'pollardlaw06.EpochOnce', WHERE WHAT IT READS IS OF BULK AT MOST 1048576: true; the input reads as it did. -/
def epochOnceUptoRow : OpenClaim := { program := "ytbefknaffopeaaa", sum := "edb379041d30cb9bc9cb25c2075ebd0e29b0472d730f60307b63747052b1d7fe", func := "pollard/pollardlaw06.EpochOnce", spec := "epochOnce", inPlace := ["sync/atomic.StoreInt64", "sync/atomic.AddInt64", "sync/atomic.LoadInt64"], unfollowed := true, recurses := true, apart := false, narrowed := true }
def EpochOnceUptoSaid : Prop := epochOnceUptoRow.holds Try.pinned (OpenSpec.upto epochOnceSpec)

/-- 'pollardlaw06.EpochRises', WHERE WHAT IT READS IS OF BULK AT MOST 1048576: true; the input reads as it did. -/
def epochRisesUptoRow : OpenClaim := { program := "ytbefknaffopeaaa", sum := "edb379041d30cb9bc9cb25c2075ebd0e29b0472d730f60307b63747052b1d7fe", func := "pollard/pollardlaw06.EpochRises", spec := "epochRises", inPlace := ["sync/atomic.StoreInt64", "sync/atomic.AddInt64", "sync/atomic.LoadInt64"], unfollowed := true, recurses := true, apart := false, narrowed := true }
def EpochRisesUptoSaid : Prop := epochRisesUptoRow.holds Try.pinned (OpenSpec.upto epochRisesSpec)

/-- 'pollardlaw06.EpochDoes', WHERE WHAT IT READS IS OF BULK AT MOST 1048576: true; the input reads as it did. -/
def epochDoesUptoRow : OpenClaim := { program := "ytbefknaffopeaaa", sum := "edb379041d30cb9bc9cb25c2075ebd0e29b0472d730f60307b63747052b1d7fe", func := "pollard/pollardlaw06.EpochDoes", spec := "epochDoes", inPlace := ["sync/atomic.StoreInt64", "sync/atomic.AddInt64", "sync/atomic.LoadInt64"], unfollowed := true, recurses := true, apart := false, narrowed := true }
def EpochDoesUptoSaid : Prop := epochDoesUptoRow.holds Try.pinned (OpenSpec.upto epochDoesSpec)

end Rows
end Go.Proofs.Ytbefknaffopeaaa
