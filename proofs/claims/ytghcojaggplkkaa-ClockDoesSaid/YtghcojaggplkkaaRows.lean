/-
  No cell of these rows narrows 'for every input' (looked for: loops, veiled, ifaces, maps, wideKeys, modest, calm, conditions, laid).
  DERIVED. THE GIVEN ROWS OF THIS SEAT. 3 by the template 'for every input the law returns true; each argument reads behind the call as it read before'; 0 by the template 'total and deterministic' (their statements: YtghcojaggplkkaaTotals.lean).
  GIVEN WITH THE SEED: the statements are not yours to turn. If you find one false, say at which input.
  Laid BY PROGRAM, IN A SANDBOX (cutbox-rows.mjs): the forced cells as the released guide's own fill.sh prints them over the translation 4a8ad86c15ae8348… (all of the seat's roots in one cut). By AI agents, Wed Nov 11 2026. No macro, syntax, notation, axiom, sorry.
-/
import Derived.Test.YtghcojaggplkkaaChecked
import GoSem.Claim
import GoSem.ClaimJoined
import GoSem.ClaimMapViews
import Derived.JoinedTies
import Derived.KernelRfl
namespace Go.Proofs.Ytghcojaggplkkaa
/- THE CELL 'sum', in the pinned program and in every row, IS THE sha256 OF THE DUMP (.gsa) THAT YtghcojaggplkkaaProg.lean LOADS. Nothing in Lean hashes anything: it is a label: what it is worth is what the hold of that sum in a sandbox is worth. -/
noncomputable def Try.pinned : Pinned := { name := "ytghcojaggplkkaa", sum := "4a8ad86c15ae83483024aa4a6c22016313658b5c2171bb1dd1ed92f4669fb4a8", checked := Try.checked }
namespace Rows
def none {H : Type} : Left H := { results := [], args := [] }

/-- 'pollardlaw14.ClockTurns': WHATEVER THE INPUT: true; the input reads as it did. -/
def clockTurnsSpec : ChangeSpec := { name := "clockTurns", fn := fun _ => fun
  | [d1, d2] => { results := [.lit (.bool true)], args := [d1, d2] }
  | _ => none }
def clockTurnsRow : OpenClaim := { program := "ytghcojaggplkkaa", sum := "4a8ad86c15ae83483024aa4a6c22016313658b5c2171bb1dd1ed92f4669fb4a8", func := "pollard/pollardlaw14.ClockTurns", spec := "clockTurns", inPlace := ["sync/atomic.StoreInt64", "sync/atomic.AddInt64", "sync/atomic.LoadInt64"], apart := false }
def ClockTurnsSaid : Prop := clockTurnsRow.holds Try.pinned (OpenSpec.ofChange clockTurnsSpec)

/-- ITS FALSE NEIGHBOUR: 'it returns false'. Refute it at one input. -/
def clockTurnsWrong : ChangeSpec := { name := "clockTurns", fn := fun _ => fun
  | [d1, d2] => { results := [.lit (.bool false)], args := [d1, d2] }
  | _ => none }
def ClockTurnsWrongFalsely : Prop := clockTurnsRow.holds Try.pinned (OpenSpec.ofChange clockTurnsWrong)

/-- 'pollardlaw14.ClockFrees': WHATEVER THE INPUT: true; the input reads as it did. -/
def clockFreesSpec : ChangeSpec := { name := "clockFrees", fn := fun _ => fun
  | [d1, d2] => { results := [.lit (.bool true)], args := [d1, d2] }
  | _ => none }
def clockFreesRow : OpenClaim := { program := "ytghcojaggplkkaa", sum := "4a8ad86c15ae83483024aa4a6c22016313658b5c2171bb1dd1ed92f4669fb4a8", func := "pollard/pollardlaw14.ClockFrees", spec := "clockFrees", inPlace := ["sync/atomic.StoreInt64", "sync/atomic.AddInt64", "sync/atomic.LoadInt64"], apart := false }
def ClockFreesSaid : Prop := clockFreesRow.holds Try.pinned (OpenSpec.ofChange clockFreesSpec)

/-- ITS FALSE NEIGHBOUR: 'it returns false'. Refute it at one input. -/
def clockFreesWrong : ChangeSpec := { name := "clockFrees", fn := fun _ => fun
  | [d1, d2] => { results := [.lit (.bool false)], args := [d1, d2] }
  | _ => none }
def ClockFreesWrongFalsely : Prop := clockFreesRow.holds Try.pinned (OpenSpec.ofChange clockFreesWrong)

/-- 'pollardlaw14.ClockDoes': WHATEVER THE INPUT: true; the input reads as it did. -/
def clockDoesSpec : ChangeSpec := { name := "clockDoes", fn := fun _ => fun
  | [d1, d2] => { results := [.lit (.bool true)], args := [d1, d2] }
  | _ => none }
def clockDoesRow : OpenClaim := { program := "ytghcojaggplkkaa", sum := "4a8ad86c15ae83483024aa4a6c22016313658b5c2171bb1dd1ed92f4669fb4a8", func := "pollard/pollardlaw14.ClockDoes", spec := "clockDoes", inPlace := ["sync/atomic.StoreInt64", "sync/atomic.AddInt64", "sync/atomic.LoadInt64"], apart := false }
def ClockDoesSaid : Prop := clockDoesRow.holds Try.pinned (OpenSpec.ofChange clockDoesSpec)

/-- ITS FALSE NEIGHBOUR: 'it returns false'. Refute it at one input. -/
def clockDoesWrong : ChangeSpec := { name := "clockDoes", fn := fun _ => fun
  | [d1, d2] => { results := [.lit (.bool false)], args := [d1, d2] }
  | _ => none }
def ClockDoesWrongFalsely : Prop := clockDoesRow.holds Try.pinned (OpenSpec.ofChange clockDoesWrong)

/- THE SECOND FORM. 'bulk': how many values and letters a reading holds, each counted each time it is reached (what is shared counts as often as it is met; a slice's spare places count too). A statement '..UptoSaid' is the law's where the arguments, and the package variables that the reading takes, are together of bulk at most 1048576: NARROWER than '..Said'. Prove '..Said' where nothing that the law and all that it calls make is longer than what came in: it says more and counts as full. Else prove '..UptoSaid'. A law counts once. -/
mutual
def uptoBulk {H : Type} : DataW H → Nat
  | .lit (.string bytes) => bytes.length + 1
  | .lit _ => 1
  | .nil => 1
  | .ptr d => uptoBulk d + 1
  | .slice elems spare => uptoBulkAll elems + uptoBulkAll spare + 1
  | .agg parts => uptoBulkAll parts + 1
  | .iface _ d => uptoBulk d + 1
  | .map entries => uptoBulkEntries entries + 1
  | .held _ => 1
def uptoBulkAll {H : Type} : List (DataW H) → Nat
  | [] => 0
  | d :: r => uptoBulk d + uptoBulkAll r
def uptoBulkEntries {H : Type} : List (Lit × DataW H) → Nat
  | [] => 0
  | x :: r => uptoBulkEntry x + uptoBulkEntries r
def uptoBulkEntry {H : Type} : Lit × DataW H → Nat
  | (.string bytes, d) => bytes.length + uptoBulk d + 1
  | (_, d) => uptoBulk d + 1
 end
def uptoSmall : (H : Type) → List (DataW H) → Bool := fun _ ds => decide (uptoBulkAll ds ≤ 1048576)
def OpenSpec.upto (s : _root_.Go.ChangeSpec) : _root_.Go.OpenSpec := { _root_.Go.OpenSpec.ofChange s with cond := some uptoSmall }

/-- 'pollardlaw14.ClockTurns', WHERE WHAT IT READS IS OF BULK AT MOST 1048576: true; the input reads as it did. -/
def clockTurnsUptoRow : OpenClaim := { program := "ytghcojaggplkkaa", sum := "4a8ad86c15ae83483024aa4a6c22016313658b5c2171bb1dd1ed92f4669fb4a8", func := "pollard/pollardlaw14.ClockTurns", spec := "clockTurns", inPlace := ["sync/atomic.StoreInt64", "sync/atomic.AddInt64", "sync/atomic.LoadInt64"], apart := false, narrowed := true }
def ClockTurnsUptoSaid : Prop := clockTurnsUptoRow.holds Try.pinned (OpenSpec.upto clockTurnsSpec)

/-- 'pollardlaw14.ClockFrees', WHERE WHAT IT READS IS OF BULK AT MOST 1048576: true; the input reads as it did. -/
def clockFreesUptoRow : OpenClaim := { program := "ytghcojaggplkkaa", sum := "4a8ad86c15ae83483024aa4a6c22016313658b5c2171bb1dd1ed92f4669fb4a8", func := "pollard/pollardlaw14.ClockFrees", spec := "clockFrees", inPlace := ["sync/atomic.StoreInt64", "sync/atomic.AddInt64", "sync/atomic.LoadInt64"], apart := false, narrowed := true }
def ClockFreesUptoSaid : Prop := clockFreesUptoRow.holds Try.pinned (OpenSpec.upto clockFreesSpec)

/-- 'pollardlaw14.ClockDoes', WHERE WHAT IT READS IS OF BULK AT MOST 1048576: true; the input reads as it did. -/
def clockDoesUptoRow : OpenClaim := { program := "ytghcojaggplkkaa", sum := "4a8ad86c15ae83483024aa4a6c22016313658b5c2171bb1dd1ed92f4669fb4a8", func := "pollard/pollardlaw14.ClockDoes", spec := "clockDoes", inPlace := ["sync/atomic.StoreInt64", "sync/atomic.AddInt64", "sync/atomic.LoadInt64"], apart := false, narrowed := true }
def ClockDoesUptoSaid : Prop := clockDoesUptoRow.holds Try.pinned (OpenSpec.upto clockDoesSpec)

end Rows
end Go.Proofs.Ytghcojaggplkkaa
