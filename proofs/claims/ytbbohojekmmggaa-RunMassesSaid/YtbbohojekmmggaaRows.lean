/-
  No cell of these rows narrows 'for every input' (looked for: loops, veiled, ifaces, maps, wideKeys, modest, calm, conditions, laid).
  DERIVED. THE GIVEN ROWS OF THIS SEAT. 3 by the template 'for every input the law returns true; each argument reads behind the call as it read before'; 0 by the template 'total and deterministic' (their statements: YtbbohojekmmggaaTotals.lean).
  GIVEN WITH THE SEED: the statements are not yours to turn. If you find one false, say at which input.
  Laid BY PROGRAM, IN A SANDBOX (cutbox-rows.mjs): the forced cells as the released guide's own fill.sh prints them over the translation 4fe8a38c56d99bfd… (all of the seat's roots in one cut). By AI agents, Wed Nov 11 2026. No macro, syntax, notation, axiom, sorry.
-/
import Derived.Test.YtbbohojekmmggaaChecked
import GoSem.Claim
import GoSem.ClaimJoined
import GoSem.ClaimMapViews
import Derived.JoinedTies
import Derived.KernelRfl
namespace Go.Proofs.Ytbbohojekmmggaa
/- THE CELL 'sum', in the pinned program and in every row, IS THE sha256 OF THE DUMP (.gsa) THAT YtbbohojekmmggaaProg.lean LOADS. Nothing in Lean hashes anything: it is a label: what it is worth is what the hold of that sum in a sandbox is worth. -/
noncomputable def Try.pinned : Pinned := { name := "ytbbohojekmmggaa", sum := "4fe8a38c56d99bfd1ccf24fa8a48db50a3fe507a09581fe2a17e925ea3c13a43", checked := Try.checked }
namespace Rows
def none {H : Type} : Left H := { results := [], args := [] }

/-- 'copyistlaw15.RunCuts': WHATEVER THE INPUT: true; the input reads as it did. -/
def runCutsSpec : ChangeSpec := { name := "runCuts", fn := fun _ => fun
  | [d1, d2, d3] => { results := [.lit (.bool true)], args := [d1, d2, d3] }
  | _ => none }
def runCutsRow : OpenClaim := { program := "ytbbohojekmmggaa", sum := "4fe8a38c56d99bfd1ccf24fa8a48db50a3fe507a09581fe2a17e925ea3c13a43", func := "copyist/copyistlaw15.RunCuts", spec := "runCuts", apart := false }
def RunCutsSaid : Prop := runCutsRow.holds Try.pinned (OpenSpec.ofChange runCutsSpec)

/-- ITS FALSE NEIGHBOUR: 'it returns false'. Refute it at one input. -/
def runCutsWrong : ChangeSpec := { name := "runCuts", fn := fun _ => fun
  | [d1, d2, d3] => { results := [.lit (.bool false)], args := [d1, d2, d3] }
  | _ => none }
def RunCutsWrongFalsely : Prop := runCutsRow.holds Try.pinned (OpenSpec.ofChange runCutsWrong)

/-- 'copyistlaw15.RunAtoms': WHATEVER THE INPUT: true; the input reads as it did. -/
def runAtomsSpec : ChangeSpec := { name := "runAtoms", fn := fun _ => fun
  | [d1, d2] => { results := [.lit (.bool true)], args := [d1, d2] }
  | _ => none }
def runAtomsRow : OpenClaim := { program := "ytbbohojekmmggaa", sum := "4fe8a38c56d99bfd1ccf24fa8a48db50a3fe507a09581fe2a17e925ea3c13a43", func := "copyist/copyistlaw15.RunAtoms", spec := "runAtoms", apart := false }
def RunAtomsSaid : Prop := runAtomsRow.holds Try.pinned (OpenSpec.ofChange runAtomsSpec)

/-- ITS FALSE NEIGHBOUR: 'it returns false'. Refute it at one input. -/
def runAtomsWrong : ChangeSpec := { name := "runAtoms", fn := fun _ => fun
  | [d1, d2] => { results := [.lit (.bool false)], args := [d1, d2] }
  | _ => none }
def RunAtomsWrongFalsely : Prop := runAtomsRow.holds Try.pinned (OpenSpec.ofChange runAtomsWrong)

/-- 'copyistlaw15.RunMasses': WHATEVER THE INPUT: true; the input reads as it did. -/
def runMassesSpec : ChangeSpec := { name := "runMasses", fn := fun _ => fun
  | [d1, d2] => { results := [.lit (.bool true)], args := [d1, d2] }
  | _ => none }
def runMassesRow : OpenClaim := { program := "ytbbohojekmmggaa", sum := "4fe8a38c56d99bfd1ccf24fa8a48db50a3fe507a09581fe2a17e925ea3c13a43", func := "copyist/copyistlaw15.RunMasses", spec := "runMasses", apart := false }
def RunMassesSaid : Prop := runMassesRow.holds Try.pinned (OpenSpec.ofChange runMassesSpec)

/-- ITS FALSE NEIGHBOUR: 'it returns false'. Refute it at one input. -/
def runMassesWrong : ChangeSpec := { name := "runMasses", fn := fun _ => fun
  | [d1, d2] => { results := [.lit (.bool false)], args := [d1, d2] }
  | _ => none }
def RunMassesWrongFalsely : Prop := runMassesRow.holds Try.pinned (OpenSpec.ofChange runMassesWrong)

/- THE SECOND FORM. 'bulk': how many values and letters a reading holds, each counted each time it is reached (what is shared counts as often as it is met; a slice's spare places count too). A statement '..UptoSaid' is the law's where the arguments, and the package variables that the reading takes, are together of bulk at most 1048576: NARROWER than '..Said'. Prove '..Said' where nothing that the law and all that it calls make is longer than what came in: it says more and counts as full. Else prove '..UptoSaid'. A law counts once. -/
mutual
def uptoBulk {H : Type} : DataW H → Nat
  | .lit (.string bytes) => bytes.length + 1
  | .lit _ => 1
  | .nil => 1
  | .ptr d => uptoBulk d + 1
  | .slice elems spare => uptoBulkAll elems + uptoBulkAll spare + 1
  | .agg parts => uptoBulkAll parts + 1
  | .iface _ d => uptoBulk d + 1
  | .map entries => uptoBulkEntries entries + 1
  | .held _ => 1
def uptoBulkAll {H : Type} : List (DataW H) → Nat
  | [] => 0
  | d :: r => uptoBulk d + uptoBulkAll r
def uptoBulkEntries {H : Type} : List (Lit × DataW H) → Nat
  | [] => 0
  | x :: r => uptoBulkEntry x + uptoBulkEntries r
def uptoBulkEntry {H : Type} : Lit × DataW H → Nat
  | (.string bytes, d) => bytes.length + uptoBulk d + 1
  | (_, d) => uptoBulk d + 1
 end
def uptoSmall : (H : Type) → List (DataW H) → Bool := fun _ ds => decide (uptoBulkAll ds ≤ 1048576)
def OpenSpec.upto (s : _root_.Go.ChangeSpec) : _root_.Go.OpenSpec := { _root_.Go.OpenSpec.ofChange s with cond := some uptoSmall }

/-- 'copyistlaw15.RunCuts', WHERE WHAT IT READS IS OF BULK AT MOST 1048576: true; the input reads as it did. -/
def runCutsUptoRow : OpenClaim := { program := "ytbbohojekmmggaa", sum := "4fe8a38c56d99bfd1ccf24fa8a48db50a3fe507a09581fe2a17e925ea3c13a43", func := "copyist/copyistlaw15.RunCuts", spec := "runCuts", apart := false, narrowed := true }
def RunCutsUptoSaid : Prop := runCutsUptoRow.holds Try.pinned (OpenSpec.upto runCutsSpec)

/-- 'copyistlaw15.RunAtoms', WHERE WHAT IT READS IS OF BULK AT MOST 1048576: true; the input reads as it did. -/
def runAtomsUptoRow : OpenClaim := { program := "ytbbohojekmmggaa", sum := "4fe8a38c56d99bfd1ccf24fa8a48db50a3fe507a09581fe2a17e925ea3c13a43", func := "copyist/copyistlaw15.RunAtoms", spec := "runAtoms", apart := false, narrowed := true }
def RunAtomsUptoSaid : Prop := runAtomsUptoRow.holds Try.pinned (OpenSpec.upto runAtomsSpec)

/-- 'copyistlaw15.RunMasses', WHERE WHAT IT READS IS OF BULK AT MOST 1048576: true; the input reads as it did. -/
def runMassesUptoRow : OpenClaim := { program := "ytbbohojekmmggaa", sum := "4fe8a38c56d99bfd1ccf24fa8a48db50a3fe507a09581fe2a17e925ea3c13a43", func := "copyist/copyistlaw15.RunMasses", spec := "runMasses", apart := false, narrowed := true }
def RunMassesUptoSaid : Prop := runMassesUptoRow.holds Try.pinned (OpenSpec.upto runMassesSpec)

end Rows
end Go.Proofs.Ytbbohojekmmggaa
