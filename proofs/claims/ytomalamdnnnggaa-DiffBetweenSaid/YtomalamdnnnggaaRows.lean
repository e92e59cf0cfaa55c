/-
  No cell of these rows narrows 'for every input' (looked for: loops, veiled, ifaces, maps, wideKeys, modest, calm, conditions, laid).
  DERIVED. THE GIVEN ROWS OF THIS SEAT. 3 by the template 'for every input the law returns true; each argument reads behind the call as it read before'; 0 by the template 'total and deterministic' (their statements: YtomalamdnnnggaaTotals.lean).
  GIVEN WITH THE SEED: the statements are not yours to turn. If you find one false, say at which input.
  Laid BY PROGRAM, IN A SANDBOX (cutbox-rows.mjs): the forced cells as the released guide's own fill.sh prints them over the translation b110c3a44b9cd60b… (all of the seat's roots in one cut). By AI agents, Wed Nov 11 2026. No macro, syntax, notation, axiom, sorry.
-/
import Derived.Test.YtomalamdnnnggaaChecked
import GoSem.Claim
import GoSem.ClaimJoined
import GoSem.ClaimMapViews
import Derived.JoinedTies
import Derived.KernelRfl
namespace Go.Proofs.Ytomalamdnnnggaa
/- THE CELL 'sum', in the pinned program and in every row, IS THE sha256 OF THE DUMP (.gsa) THAT YtomalamdnnnggaaProg.lean LOADS. Nothing in Lean hashes anything: it is a label: what it is worth is what the hold of that sum in a sandbox is worth. -/
noncomputable def Try.pinned : Pinned := { name := "ytomalamdnnnggaa", sum := "b110c3a44b9cd60b67ddafc06c5b936dfb61d72bac8aed80d50a5391d0ad4b72", checked := Try.checked }
namespace Rows
def none {H : Type} : Left H := { results := [], args := [] }

/-- 'copyistlaw26.DiffBetween': WHATEVER THE INPUT: true; the input reads as it did. -/
def diffBetweenSpec : ChangeSpec := { name := "diffBetween", fn := fun _ => fun
  | [d1, d2] => { results := [.lit (.bool true)], args := [d1, d2] }
  | _ => none }
def diffBetweenRow : OpenClaim := { program := "ytomalamdnnnggaa", sum := "b110c3a44b9cd60b67ddafc06c5b936dfb61d72bac8aed80d50a5391d0ad4b72", func := "copyist/copyistlaw26.DiffBetween", spec := "diffBetween", apart := false }
def DiffBetweenSaid : Prop := diffBetweenRow.holds Try.pinned (OpenSpec.ofChange diffBetweenSpec)

/-- ITS FALSE NEIGHBOUR: 'it returns false'. Refute it at one input. -/
def diffBetweenWrong : ChangeSpec := { name := "diffBetween", fn := fun _ => fun
  | [d1, d2] => { results := [.lit (.bool false)], args := [d1, d2] }
  | _ => none }
def DiffBetweenWrongFalsely : Prop := diffBetweenRow.holds Try.pinned (OpenSpec.ofChange diffBetweenWrong)

/-- 'copyistlaw26.DiffTurns': WHATEVER THE INPUT: true; the input reads as it did. -/
def diffTurnsSpec : ChangeSpec := { name := "diffTurns", fn := fun _ => fun
  | [d1, d2, d3] => { results := [.lit (.bool true)], args := [d1, d2, d3] }
  | _ => none }
def diffTurnsRow : OpenClaim := { program := "ytomalamdnnnggaa", sum := "b110c3a44b9cd60b67ddafc06c5b936dfb61d72bac8aed80d50a5391d0ad4b72", func := "copyist/copyistlaw26.DiffTurns", spec := "diffTurns", apart := false }
def DiffTurnsSaid : Prop := diffTurnsRow.holds Try.pinned (OpenSpec.ofChange diffTurnsSpec)

/-- ITS FALSE NEIGHBOUR: 'it returns false'. Refute it at one input. -/
def diffTurnsWrong : ChangeSpec := { name := "diffTurns", fn := fun _ => fun
  | [d1, d2, d3] => { results := [.lit (.bool false)], args := [d1, d2, d3] }
  | _ => none }
def DiffTurnsWrongFalsely : Prop := diffTurnsRow.holds Try.pinned (OpenSpec.ofChange diffTurnsWrong)

/-- 'copyistlaw26.DiffGroups': WHATEVER THE INPUT: true; the input reads as it did. -/
def diffGroupsSpec : ChangeSpec := { name := "diffGroups", fn := fun _ => fun
  | [d] => { results := [.lit (.bool true)], args := [d] }
  | _ => none }
def diffGroupsRow : OpenClaim := { program := "ytomalamdnnnggaa", sum := "b110c3a44b9cd60b67ddafc06c5b936dfb61d72bac8aed80d50a5391d0ad4b72", func := "copyist/copyistlaw26.DiffGroups", spec := "diffGroups", apart := false }
def DiffGroupsSaid : Prop := diffGroupsRow.holds Try.pinned (OpenSpec.ofChange diffGroupsSpec)

/-- ITS FALSE NEIGHBOUR: 'it returns false'. Refute it at one input. -/
def diffGroupsWrong : ChangeSpec := { name := "diffGroups", fn := fun _ => fun
  | [d] => { results := [.lit (.bool false)], args := [d] }
  | _ => none }
def DiffGroupsWrongFalsely : Prop := diffGroupsRow.holds Try.pinned (OpenSpec.ofChange diffGroupsWrong)

/- THE SECOND FORM. 'bulk': how many values and letters a reading holds, each counted each time it is reached (what is shared counts as often as it is met; a slice's spare places count too). A statement '..UptoSaid' is the law's where the arguments, and the package variables that the reading takes, are together of bulk at most 1048576: NARROWER than '..Said'. Prove '..Said' where nothing that the law and all that it calls make is longer than what came in: it says more and counts as full. Else prove '..UptoSaid'. A law counts once. -/
mutual
def uptoBulk {H : Type} : DataW H → Nat
  | .lit (.string bytes) => bytes.length + 1
  | .lit _ => 1
  | .nil => 1
  | .ptr d => uptoBulk d + 1
  | .slice elems spare => uptoBulkAll elems + uptoBulkAll spare + 1
  | .agg parts => uptoBulkAll parts + 1
  | .iface _ d => uptoBulk d + 1
  | .map entries => uptoBulkEntries entries + 1
  | .held _ => 1
def uptoBulkAll {H : Type} : List (DataW H) → Nat
  | [] => 0
  | d :: r => uptoBulk d + uptoBulkAll r
def uptoBulkEntries {H : Type} : List (Lit × DataW H) → Nat
  | [] => 0
  | x :: r => uptoBulkEntry x + uptoBulkEntries r
def uptoBulkEntry {H : Type} : Lit × DataW H → Nat
  | (.string bytes, d) => bytes.length + uptoBulk d + 1
  | (_, d) => uptoBulk d + 1
 end
def uptoSmall : (H : Type) → List (DataW H) → Bool := fun _ ds => decide (uptoBulkAll ds ≤ 1048576)
def OpenSpec.upto (s : _root_.Go.ChangeSpec) : _root_.Go.OpenSpec := { _root_.Go.OpenSpec.ofChange s with cond := some uptoSmall }

/-- 'copyistlaw26.DiffBetween', WHERE WHAT IT READS IS OF BULK AT MOST 1048576: true; the input reads as it did. -/
def diffBetweenUptoRow : OpenClaim := { program := "ytomalamdnnnggaa", sum := "b110c3a44b9cd60b67ddafc06c5b936dfb61d72bac8aed80d50a5391d0ad4b72", func := "copyist/copyistlaw26.DiffBetween", spec := "diffBetween", apart := false, narrowed := true }
def DiffBetweenUptoSaid : Prop := diffBetweenUptoRow.holds Try.pinned (OpenSpec.upto diffBetweenSpec)

/-- 'copyistlaw26.DiffTurns', WHERE WHAT IT READS IS OF BULK AT MOST 1048576: true; the input reads as it did. -/
def diffTurnsUptoRow : OpenClaim := { program := "ytomalamdnnnggaa", sum := "b110c3a44b9cd60b67ddafc06c5b936dfb61d72bac8aed80d50a5391d0ad4b72", func := "copyist/copyistlaw26.DiffTurns", spec := "diffTurns", apart := false, narrowed := true }
def DiffTurnsUptoSaid : Prop := diffTurnsUptoRow.holds Try.pinned (OpenSpec.upto diffTurnsSpec)

/-- 'copyistlaw26.DiffGroups', WHERE WHAT IT READS IS OF BULK AT MOST 1048576: true; the input reads as it did. -/
def diffGroupsUptoRow : OpenClaim := { program := "ytomalamdnnnggaa", sum := "b110c3a44b9cd60b67ddafc06c5b936dfb61d72bac8aed80d50a5391d0ad4b72", func := "copyist/copyistlaw26.DiffGroups", spec := "diffGroups", apart := false, narrowed := true }
def DiffGroupsUptoSaid : Prop := diffGroupsUptoRow.holds Try.pinned (OpenSpec.upto diffGroupsSpec)

end Rows
end Go.Proofs.Ytomalamdnnnggaa
