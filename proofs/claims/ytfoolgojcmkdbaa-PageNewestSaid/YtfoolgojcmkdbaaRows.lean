/-
  No cell of these rows narrows 'for every input' (looked for: loops, veiled, ifaces, maps, wideKeys, modest, calm, conditions, laid).
  DERIVED. THE GIVEN ROWS OF THIS SEAT. 3 by the template 'for every input the law returns true; each argument reads behind the call as it read before'; 0 by the template 'total and deterministic' (their statements: YtfoolgojcmkdbaaTotals.lean).
  GIVEN WITH THE SEED: the statements are not yours to turn. If you find one false, say at which input.
  Laid BY PROGRAM, IN A SANDBOX (cutbox-rows.mjs): the forced cells as the released guide's own fill.sh prints them over the translation 1caabac093a8c273… (all of the seat's roots in one cut). By AI agents, Wed Nov 11 2026. No macro, syntax, notation, axiom, sorry.
-/
import Derived.Test.YtfoolgojcmkdbaaChecked
import GoSem.Claim
import GoSem.ClaimJoined
import GoSem.ClaimMapViews
import Derived.JoinedTies
import Derived.KernelRfl
namespace Go.Proofs.Ytfoolgojcmkdbaa
/- THE CELL 'sum', in the pinned program and in every row, IS THE sha256 OF THE DUMP (.gsa) THAT YtfoolgojcmkdbaaProg.lean LOADS. Nothing in Lean hashes anything: it is a label: what it is worth is what the hold of that sum in a sandbox is worth. -/
noncomputable def Try.pinned : Pinned := { name := "ytfoolgojcmkdbaa", sum := "1caabac093a8c2732eb815e7853e6fa8de0b9f80c6815acf59edcf003b12f909", checked := Try.checked }
namespace Rows
def none {H : Type} : Left H := { results := [], args := [] }

/-- 'pollardlaw10.PageNewest': WHATEVER THE INPUT: true; the input reads as it did. -/
def pageNewestSpec : ChangeSpec := { name := "pageNewest", fn := fun _ => fun
  | [d1, d2] => { results := [.lit (.bool true)], args := [d1, d2] }
  | _ => none }
def pageNewestRow : OpenClaim := { program := "ytfoolgojcmkdbaa", sum := "1caabac093a8c2732eb815e7853e6fa8de0b9f80c6815acf59edcf003b12f909", func := "pollard/pollardlaw10.PageNewest", spec := "pageNewest", inPlace := ["internal/bytealg.abigen_runtime_cmpstring", "slices.overlaps[pollard/api.Item]"], unfollowed := true, recurses := true, apart := false }
def PageNewestSaid : Prop := pageNewestRow.holds Try.pinned (OpenSpec.ofChange pageNewestSpec)

/-- ITS FALSE NEIGHBOUR: 'it returns false'. Refute it at one input. -/
def pageNewestWrong : ChangeSpec := { name := "pageNewest", fn := fun _ => fun
  | [d1, d2] => { results := [.lit (.bool false)], args := [d1, d2] }
  | _ => none }
def PageNewestWrongFalsely : Prop := pageNewestRow.holds Try.pinned (OpenSpec.ofChange pageNewestWrong)

/-- 'pollardlaw10.PageDown': WHATEVER THE INPUT: true; the input reads as it did. -/
def pageDownSpec : ChangeSpec := { name := "pageDown", fn := fun _ => fun
  | [d1, d2] => { results := [.lit (.bool true)], args := [d1, d2] }
  | _ => none }
def pageDownRow : OpenClaim := { program := "ytfoolgojcmkdbaa", sum := "1caabac093a8c2732eb815e7853e6fa8de0b9f80c6815acf59edcf003b12f909", func := "pollard/pollardlaw10.PageDown", spec := "pageDown", inPlace := ["internal/bytealg.abigen_runtime_cmpstring", "slices.overlaps[pollard/api.Item]"], unfollowed := true, recurses := true, apart := false }
def PageDownSaid : Prop := pageDownRow.holds Try.pinned (OpenSpec.ofChange pageDownSpec)

/-- ITS FALSE NEIGHBOUR: 'it returns false'. Refute it at one input. -/
def pageDownWrong : ChangeSpec := { name := "pageDown", fn := fun _ => fun
  | [d1, d2] => { results := [.lit (.bool false)], args := [d1, d2] }
  | _ => none }
def PageDownWrongFalsely : Prop := pageDownRow.holds Try.pinned (OpenSpec.ofChange pageDownWrong)

/-- 'pollardlaw10.PageHalves': WHATEVER THE INPUT: true; the input reads as it did. -/
def pageHalvesSpec : ChangeSpec := { name := "pageHalves", fn := fun _ => fun
  | [d1, d2, d3, d4] => { results := [.lit (.bool true)], args := [d1, d2, d3, d4] }
  | _ => none }
def pageHalvesRow : OpenClaim := { program := "ytfoolgojcmkdbaa", sum := "1caabac093a8c2732eb815e7853e6fa8de0b9f80c6815acf59edcf003b12f909", func := "pollard/pollardlaw10.PageHalves", spec := "pageHalves", inPlace := ["internal/bytealg.abigen_runtime_cmpstring", "slices.overlaps[pollard/api.Item]"], unfollowed := true, recurses := true, apart := false }
def PageHalvesSaid : Prop := pageHalvesRow.holds Try.pinned (OpenSpec.ofChange pageHalvesSpec)

/-- ITS FALSE NEIGHBOUR: 'it returns false'. Refute it at one input. -/
def pageHalvesWrong : ChangeSpec := { name := "pageHalves", fn := fun _ => fun
  | [d1, d2, d3, d4] => { results := [.lit (.bool false)], args := [d1, d2, d3, d4] }
  | _ => none }
def PageHalvesWrongFalsely : Prop := pageHalvesRow.holds Try.pinned (OpenSpec.ofChange pageHalvesWrong)

/- THE SECOND FORM. 'bulk': how many values and letters a reading holds, each counted each time it is reached (what is shared counts as often as it is met; a slice's spare places count too). A statement '..UptoSaid' is the law's where the arguments, and the package variables that the reading takes, are together of bulk at most 1048576: NARROWER than '..Said'. Prove '..Said' where nothing that the law and all that it calls make is longer than what came in: it says more and counts as full. Else prove '..UptoSaid'. A law counts once. -/
mutual
def uptoBulk {H : Type} : DataW H → Nat
  | .lit (.string bytes) => bytes.length + 1
  | .lit _ => 1
  | .nil => 1
  | .ptr d => uptoBulk d + 1
  | .slice elems spare => uptoBulkAll elems + uptoBulkAll spare + 1
  | .agg parts => uptoBulkAll parts + 1
  | .iface _ d => uptoBulk d + 1
  | .map entries => uptoBulkEntries entries + 1
  | .held _ => 1
def uptoBulkAll {H : Type} : List (DataW H) → Nat
  | [] => 0
  | d :: r => uptoBulk d + uptoBulkAll r
def uptoBulkEntries {H : Type} : List (Lit × DataW H) → Nat
  | [] => 0
  | x :: r => uptoBulkEntry x + uptoBulkEntries r
def uptoBulkEntry {H : Type} : Lit × DataW H → Nat
  | (.string bytes, d) => bytes.length + uptoBulk d + 1
  | (_, d) => uptoBulk d + 1
 end
def uptoSmall : (H : Type) → List (DataW H) → Bool := fun _ ds => decide (uptoBulkAll ds ≤ 1048576)
def OpenSpec.upto (s : _root_.Go.ChangeSpec) : _root_.Go.OpenSpec := { _root_.Go.OpenSpec.ofChange s with cond := some uptoSmall }

/-- 'pollardlaw10.PageNewest', WHERE WHAT IT READS IS OF BULK AT MOST 1048576: true; the input reads as it did. -/
def pageNewestUptoRow : OpenClaim := { program := "ytfoolgojcmkdbaa", sum := "1caabac093a8c2732eb815e7853e6fa8de0b9f80c6815acf59edcf003b12f909", func := "pollard/pollardlaw10.PageNewest", spec := "pageNewest", inPlace := ["internal/bytealg.abigen_runtime_cmpstring", "slices.overlaps[pollard/api.Item]"], unfollowed := true, recurses := true, apart := false, narrowed := true }
def PageNewestUptoSaid : Prop := pageNewestUptoRow.holds Try.pinned (OpenSpec.upto pageNewestSpec)

/-- 'pollardlaw10.PageDown', WHERE WHAT IT READS IS OF BULK AT MOST 1048576: true; the input reads as it did. -/
def pageDownUptoRow : OpenClaim := { program := "ytfoolgojcmkdbaa", sum := "1caabac093a8c2732eb815e7853e6fa8de0b9f80c6815acf59edcf003b12f909", func := "pollard/pollardlaw10.PageDown", spec := "pageDown", inPlace := ["internal/bytealg.abigen_runtime_cmpstring", "slices.overlaps[pollard/api.Item]"], unfollowed := true, recurses := true, apart := false, narrowed := true }
def PageDownUptoSaid : Prop := pageDownUptoRow.holds Try.pinned (OpenSpec.upto pageDownSpec)

/-- 'pollardlaw10.PageHalves', WHERE WHAT IT READS IS OF BULK AT MOST 1048576: true; the input reads as it did. -/
def pageHalvesUptoRow : OpenClaim := { program := "ytfoolgojcmkdbaa", sum := "1caabac093a8c2732eb815e7853e6fa8de0b9f80c6815acf59edcf003b12f909", func := "pollard/pollardlaw10.PageHalves", spec := "pageHalves", inPlace := ["internal/bytealg.abigen_runtime_cmpstring", "slices.overlaps[pollard/api.Item]"], unfollowed := true, recurses := true, apart := false, narrowed := true }
def PageHalvesUptoSaid : Prop := pageHalvesUptoRow.holds Try.pinned (OpenSpec.upto pageHalvesSpec)

end Rows
end Go.Proofs.Ytfoolgojcmkdbaa
