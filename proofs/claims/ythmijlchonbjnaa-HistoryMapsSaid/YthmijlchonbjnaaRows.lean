/-
  No cell of these rows narrows 'for every input' (looked for: loops, veiled, ifaces, maps, wideKeys, modest, calm, conditions, laid).
  DERIVED. THE GIVEN ROWS OF THIS SEAT. 3 by the template 'for every input the law returns true; each argument reads behind the call as it read before'; 0 by the template 'total and deterministic' (their statements: YthmijlchonbjnaaTotals.lean).
  GIVEN WITH THE SEED: the statements are not yours to turn. If you find one false, say at which input.
  Laid BY PROGRAM, IN A SANDBOX (cutbox-rows.mjs): the forced cells as the released guide's own fill.sh prints them over the translation e4445717d3cfaad7… (all of the seat's roots in one cut). By AI agents, Wed Nov 11 2026. No macro, syntax, notation, axiom, sorry.
-/
import Derived.Test.YthmijlchonbjnaaChecked
import GoSem.Claim
import GoSem.ClaimJoined
import GoSem.ClaimMapViews
import Derived.JoinedTies
import Derived.KernelRfl
namespace Go.Proofs.Ythmijlchonbjnaa
/- THE CELL 'sum', in the pinned program and in every row, IS THE sha256 OF THE DUMP (.gsa) THAT YthmijlchonbjnaaProg.lean LOADS. Nothing in Lean hashes anything: it is a label: what it is worth is what the hold of that sum in a sandbox is worth. -/
noncomputable def Try.pinned : Pinned := { name := "ythmijlchonbjnaa", sum := "e4445717d3cfaad7a690dde06578415bf970b80a67094eaf57c6d39ad58816a4", checked := Try.checked }
namespace Rows
def none {H : Type} : Left H := { results := [], args := [] }

/-- 'pollardlaw25.HistoryTells': WHATEVER THE INPUT: true; the input reads as it did. -/
def historyTellsSpec : ChangeSpec := { name := "historyTells", fn := fun _ => fun
  | [d1, d2, d3] => { results := [.lit (.bool true)], args := [d1, d2, d3] }
  | _ => none }
def historyTellsRow : OpenClaim := { program := "ythmijlchonbjnaa", sum := "e4445717d3cfaad7a690dde06578415bf970b80a67094eaf57c6d39ad58816a4", func := "pollard/pollardlaw25.HistoryTells", spec := "historyTells", inPlace := ["internal/bytealg.abigen_runtime_cmpstring"], unfollowed := true, recurses := true, apart := false }
def HistoryTellsSaid : Prop := historyTellsRow.holds Try.pinned (OpenSpec.ofChange historyTellsSpec)

/-- ITS FALSE NEIGHBOUR: 'it returns false'. Refute it at one input. -/
def historyTellsWrong : ChangeSpec := { name := "historyTells", fn := fun _ => fun
  | [d1, d2, d3] => { results := [.lit (.bool false)], args := [d1, d2, d3] }
  | _ => none }
def HistoryTellsWrongFalsely : Prop := historyTellsRow.holds Try.pinned (OpenSpec.ofChange historyTellsWrong)

/-- 'pollardlaw25.HistoryMaps': WHATEVER THE INPUT: true; the input reads as it did. -/
def historyMapsSpec : ChangeSpec := { name := "historyMaps", fn := fun _ => fun
  | [d] => { results := [.lit (.bool true)], args := [d] }
  | _ => none }
def historyMapsRow : OpenClaim := { program := "ythmijlchonbjnaa", sum := "e4445717d3cfaad7a690dde06578415bf970b80a67094eaf57c6d39ad58816a4", func := "pollard/pollardlaw25.HistoryMaps", spec := "historyMaps", inPlace := ["internal/bytealg.abigen_runtime_cmpstring"], unfollowed := true, recurses := true, apart := false }
def HistoryMapsSaid : Prop := historyMapsRow.holds Try.pinned (OpenSpec.ofChange historyMapsSpec)

/-- ITS FALSE NEIGHBOUR: 'it returns false'. Refute it at one input. -/
def historyMapsWrong : ChangeSpec := { name := "historyMaps", fn := fun _ => fun
  | [d] => { results := [.lit (.bool false)], args := [d] }
  | _ => none }
def HistoryMapsWrongFalsely : Prop := historyMapsRow.holds Try.pinned (OpenSpec.ofChange historyMapsWrong)

/-- 'pollardlaw25.HistoryAlone': WHATEVER THE INPUT: true; the input reads as it did. -/
def historyAloneSpec : ChangeSpec := { name := "historyAlone", fn := fun _ => fun
  | [d] => { results := [.lit (.bool true)], args := [d] }
  | _ => none }
def historyAloneRow : OpenClaim := { program := "ythmijlchonbjnaa", sum := "e4445717d3cfaad7a690dde06578415bf970b80a67094eaf57c6d39ad58816a4", func := "pollard/pollardlaw25.HistoryAlone", spec := "historyAlone", inPlace := ["internal/bytealg.abigen_runtime_cmpstring"], unfollowed := true, recurses := true, apart := false }
def HistoryAloneSaid : Prop := historyAloneRow.holds Try.pinned (OpenSpec.ofChange historyAloneSpec)

/-- ITS FALSE NEIGHBOUR: 'it returns false'. Refute it at one input. -/
def historyAloneWrong : ChangeSpec := { name := "historyAlone", fn := fun _ => fun
  | [d] => { results := [.lit (.bool false)], args := [d] }
  | _ => none }
def HistoryAloneWrongFalsely : Prop := historyAloneRow.holds Try.pinned (OpenSpec.ofChange historyAloneWrong)

/- THE SECOND FORM. 'bulk': how many values and letters a reading holds, each counted each time it is reached (what is shared counts as often as it is met; a slice's spare places count too). A statement '..UptoSaid' is the law's where the arguments, and the package variables that the reading takes, are together of bulk at most 1048576: NARROWER than '..Said'. Prove '..Said' where nothing that the law and all that it calls make is longer than what came in: it says more and counts as full. Else prove '..UptoSaid'. A law counts once. -/
mutual
def uptoBulk {H : Type} : DataW H → Nat
  | .lit (.string bytes) => bytes.length + 1
  | .lit _ => 1
  | .nil => 1
  | .ptr d => uptoBulk d + 1
  | .slice elems spare => uptoBulkAll elems + uptoBulkAll spare + 1
  | .agg parts => uptoBulkAll parts + 1
  | .iface _ d => uptoBulk d + 1
  | .map entries => uptoBulkEntries entries + 1
  | .held _ => 1
def uptoBulkAll {H : Type} : List (DataW H) → Nat
  | [] => 0
  | d :: r => uptoBulk d + uptoBulkAll r
def uptoBulkEntries {H : Type} : List (Lit × DataW H) → Nat
  | [] => 0
  | x :: r => uptoBulkEntry x + uptoBulkEntries r
def uptoBulkEntry {H : Type} : Lit × DataW H → Nat
  | (.string bytes, d) => bytes.length + uptoBulk d + 1
  | (_, d) => uptoBulk d + 1
 end
def uptoSmall : (H : Type) → List (DataW H) → Bool := fun _ ds => decide (uptoBulkAll ds ≤ 1048576)
def OpenSpec.upto (s : _root_.Go.ChangeSpec) : _root_.Go.OpenSpec := { _root_.Go.OpenSpec.ofChange s with cond := some uptoSmall }

/-- 'pollardlaw25.HistoryTells', WHERE WHAT IT READS IS OF BULK AT MOST 1048576: true; the input reads as it did. -/
def historyTellsUptoRow : OpenClaim := { program := "ythmijlchonbjnaa", sum := "e4445717d3cfaad7a690dde06578415bf970b80a67094eaf57c6d39ad58816a4", func := "pollard/pollardlaw25.HistoryTells", spec := "historyTells", inPlace := ["internal/bytealg.abigen_runtime_cmpstring"], unfollowed := true, recurses := true, apart := false, narrowed := true }
def HistoryTellsUptoSaid : Prop := historyTellsUptoRow.holds Try.pinned (OpenSpec.upto historyTellsSpec)

/-- 'pollardlaw25.HistoryMaps', WHERE WHAT IT READS IS OF BULK AT MOST 1048576: true; the input reads as it did. -/
def historyMapsUptoRow : OpenClaim := { program := "ythmijlchonbjnaa", sum := "e4445717d3cfaad7a690dde06578415bf970b80a67094eaf57c6d39ad58816a4", func := "pollard/pollardlaw25.HistoryMaps", spec := "historyMaps", inPlace := ["internal/bytealg.abigen_runtime_cmpstring"], unfollowed := true, recurses := true, apart := false, narrowed := true }
def HistoryMapsUptoSaid : Prop := historyMapsUptoRow.holds Try.pinned (OpenSpec.upto historyMapsSpec)

/-- 'pollardlaw25.HistoryAlone', WHERE WHAT IT READS IS OF BULK AT MOST 1048576: true; the input reads as it did. -/
def historyAloneUptoRow : OpenClaim := { program := "ythmijlchonbjnaa", sum := "e4445717d3cfaad7a690dde06578415bf970b80a67094eaf57c6d39ad58816a4", func := "pollard/pollardlaw25.HistoryAlone", spec := "historyAlone", inPlace := ["internal/bytealg.abigen_runtime_cmpstring"], unfollowed := true, recurses := true, apart := false, narrowed := true }
def HistoryAloneUptoSaid : Prop := historyAloneUptoRow.holds Try.pinned (OpenSpec.upto historyAloneSpec)

end Rows
end Go.Proofs.Ythmijlchonbjnaa
