/-
  No cell of these rows narrows 'for every input' (looked for: loops, veiled, ifaces, maps, wideKeys, modest, calm, conditions, laid).
  DERIVED. THE GIVEN ROWS OF THIS SEAT. 4 by the template 'for every input the law returns true; each argument reads behind the call as it read before'; 0 by the template 'total and deterministic' (their statements: YtbljidhiecbcfaaTotals.lean).
  GIVEN WITH THE SEED: the statements are not yours to turn. If you find one false, say at which input.
  Laid BY PROGRAM, IN A SANDBOX (cutbox-rows.mjs): the forced cells as the released guide's own fill.sh prints them over the translation 91720f7708fe59c6… (all of the seat's roots in one cut). By AI agents, Wed Nov 11 2026. No macro, syntax, notation, axiom, sorry.
-/
import Derived.Test.YtbljidhiecbcfaaChecked
import GoSem.Claim
import GoSem.ClaimJoined
import GoSem.ClaimMapViews
import Derived.JoinedTies
import Derived.KernelRfl
namespace Go.Proofs.Ytbljidhiecbcfaa
/- THE CELL 'sum', in the pinned program and in every row, IS THE sha256 OF THE DUMP (.gsa) THAT YtbljidhiecbcfaaProg.lean LOADS. Nothing in Lean hashes anything: it is a label: what it is worth is what the hold of that sum in a sandbox is worth. -/
noncomputable def Try.pinned : Pinned := { name := "ytbljidhiecbcfaa", sum := "91720f7708fe59c64cc0f93f3f343a03b8f55b6ac6ac94d7f8e6e7337f05d863", checked := Try.checked }
namespace Rows
def none {H : Type} : Left H := { results := [], args := [] }

/-- 'pigeonholelaw10.MergeTells': WHATEVER THE INPUT: true; the input reads as it did. -/
def mergeTellsSpec : ChangeSpec := { name := "mergeTells", fn := fun _ => fun
  | [d1, d2] => { results := [.lit (.bool true)], args := [d1, d2] }
  | _ => none }
def mergeTellsRow : OpenClaim := { program := "ytbljidhiecbcfaa", sum := "91720f7708fe59c64cc0f93f3f343a03b8f55b6ac6ac94d7f8e6e7337f05d863", func := "pigeonhole/pigeonholelaw10.MergeTells", spec := "mergeTells", unfollowed := true, recurses := true, apart := false }
def MergeTellsSaid : Prop := mergeTellsRow.holds Try.pinned (OpenSpec.ofChange mergeTellsSpec)

/-- ITS FALSE NEIGHBOUR: 'it returns false'. Refute it at one input. -/
def mergeTellsWrong : ChangeSpec := { name := "mergeTells", fn := fun _ => fun
  | [d1, d2] => { results := [.lit (.bool false)], args := [d1, d2] }
  | _ => none }
def MergeTellsWrongFalsely : Prop := mergeTellsRow.holds Try.pinned (OpenSpec.ofChange mergeTellsWrong)

/-- 'pigeonholelaw10.MergeSays': WHATEVER THE INPUT: true; the input reads as it did. -/
def mergeSaysSpec : ChangeSpec := { name := "mergeSays", fn := fun _ => fun
  | [d1, d2] => { results := [.lit (.bool true)], args := [d1, d2] }
  | _ => none }
def mergeSaysRow : OpenClaim := { program := "ytbljidhiecbcfaa", sum := "91720f7708fe59c64cc0f93f3f343a03b8f55b6ac6ac94d7f8e6e7337f05d863", func := "pigeonhole/pigeonholelaw10.MergeSays", spec := "mergeSays", unfollowed := true, recurses := true, apart := false }
def MergeSaysSaid : Prop := mergeSaysRow.holds Try.pinned (OpenSpec.ofChange mergeSaysSpec)

/-- ITS FALSE NEIGHBOUR: 'it returns false'. Refute it at one input. -/
def mergeSaysWrong : ChangeSpec := { name := "mergeSays", fn := fun _ => fun
  | [d1, d2] => { results := [.lit (.bool false)], args := [d1, d2] }
  | _ => none }
def MergeSaysWrongFalsely : Prop := mergeSaysRow.holds Try.pinned (OpenSpec.ofChange mergeSaysWrong)

/-- 'pigeonholelaw13.CaoLengths': WHATEVER THE INPUT: true; the input reads as it did. -/
def caoLengthsSpec : ChangeSpec := { name := "caoLengths", fn := fun _ => fun
  | [d1, d2] => { results := [.lit (.bool true)], args := [d1, d2] }
  | _ => none }
def caoLengthsRow : OpenClaim := { program := "ytbljidhiecbcfaa", sum := "91720f7708fe59c64cc0f93f3f343a03b8f55b6ac6ac94d7f8e6e7337f05d863", func := "pigeonhole/pigeonholelaw13.CaoLengths", spec := "caoLengths", unfollowed := true, recurses := true, apart := false }
def CaoLengthsSaid : Prop := caoLengthsRow.holds Try.pinned (OpenSpec.ofChange caoLengthsSpec)

/-- ITS FALSE NEIGHBOUR: 'it returns false'. Refute it at one input. -/
def caoLengthsWrong : ChangeSpec := { name := "caoLengths", fn := fun _ => fun
  | [d1, d2] => { results := [.lit (.bool false)], args := [d1, d2] }
  | _ => none }
def CaoLengthsWrongFalsely : Prop := caoLengthsRow.holds Try.pinned (OpenSpec.ofChange caoLengthsWrong)

/-- 'pigeonholelaw11.DiffTables': WHATEVER THE INPUT: true; the input reads as it did. -/
def diffTablesSpec : ChangeSpec := { name := "diffTables", fn := fun _ => fun
  | [d1, d2, d3, d4] => { results := [.lit (.bool true)], args := [d1, d2, d3, d4] }
  | _ => none }
def diffTablesRow : OpenClaim := { program := "ytbljidhiecbcfaa", sum := "91720f7708fe59c64cc0f93f3f343a03b8f55b6ac6ac94d7f8e6e7337f05d863", func := "pigeonhole/pigeonholelaw11.DiffTables", spec := "diffTables", unfollowed := true, recurses := true, apart := false }
def DiffTablesSaid : Prop := diffTablesRow.holds Try.pinned (OpenSpec.ofChange diffTablesSpec)

/-- ITS FALSE NEIGHBOUR: 'it returns false'. Refute it at one input. -/
def diffTablesWrong : ChangeSpec := { name := "diffTables", fn := fun _ => fun
  | [d1, d2, d3, d4] => { results := [.lit (.bool false)], args := [d1, d2, d3, d4] }
  | _ => none }
def DiffTablesWrongFalsely : Prop := diffTablesRow.holds Try.pinned (OpenSpec.ofChange diffTablesWrong)

/- THE SECOND FORM. 'bulk': how many values and letters a reading holds, each counted each time it is reached (what is shared counts as often as it is met; a slice's spare places count too). A statement '..UptoSaid' is the law's where the arguments, and the package variables that the reading takes, are together of bulk at most 1048576: NARROWER than '..Said'. Prove '..Said' where nothing that the law and all that it calls make is longer than what came in: it says more and counts as full. Else prove '..UptoSaid'. A law counts once. -/
mutual
def uptoBulk {H : Type} : DataW H → Nat
  | .lit (.string bytes) => bytes.length + 1
  | .lit _ => 1
  | .nil => 1
  | .ptr d => uptoBulk d + 1
  | .slice elems spare => uptoBulkAll elems + uptoBulkAll spare + 1
  | .agg parts => uptoBulkAll parts + 1
  | .iface _ d => uptoBulk d + 1
  | .map entries => uptoBulkEntries entries + 1
  | .held _ => 1
def uptoBulkAll {H : Type} : List (DataW H) → Nat
  | [] => 0
  | d :: r => uptoBulk d + uptoBulkAll r
def uptoBulkEntries {H : Type} : List (Lit × DataW H) → Nat
  | [] => 0
  | x :: r => uptoBulkEntry x + uptoBulkEntries r
def uptoBulkEntry {H : Type} : Lit × DataW H → Nat
  | (.string bytes, d) => bytes.length + uptoBulk d + 1
  | (_, d) => uptoBulk d + 1
 end
def uptoSmall : (H : Type) → List (DataW H) → Bool := fun _ ds => decide (uptoBulkAll ds ≤ 1048576)
def OpenSpec.upto (s : _root_.Go.ChangeSpec) : _root_.Go.OpenSpec := { _root_.Go.OpenSpec.ofChange s with cond := some uptoSmall }

/-- 'pigeonholelaw10.MergeTells', WHERE WHAT IT READS IS OF BULK AT MOST 1048576: true; the input reads as it did. -/
def mergeTellsUptoRow : OpenClaim := { program := "ytbljidhiecbcfaa", sum := "91720f7708fe59c64cc0f93f3f343a03b8f55b6ac6ac94d7f8e6e7337f05d863", func := "pigeonhole/pigeonholelaw10.MergeTells", spec := "mergeTells", unfollowed := true, recurses := true, apart := false, narrowed := true }
def MergeTellsUptoSaid : Prop := mergeTellsUptoRow.holds Try.pinned (OpenSpec.upto mergeTellsSpec)

/-- 'pigeonholelaw10.MergeSays', WHERE WHAT IT READS IS OF BULK AT MOST 1048576: true; the input reads as it did. -/
def mergeSaysUptoRow : OpenClaim := { program := "ytbljidhiecbcfaa", sum := "91720f7708fe59c64cc0f93f3f343a03b8f55b6ac6ac94d7f8e6e7337f05d863", func := "pigeonhole/pigeonholelaw10.MergeSays", spec := "mergeSays", unfollowed := true, recurses := true, apart := false, narrowed := true }
def MergeSaysUptoSaid : Prop := mergeSaysUptoRow.holds Try.pinned (OpenSpec.upto mergeSaysSpec)

/-- 'pigeonholelaw13.CaoLengths', WHERE WHAT IT READS IS OF BULK AT MOST 1048576: true; the input reads as it did. -/
def caoLengthsUptoRow : OpenClaim := { program := "ytbljidhiecbcfaa", sum := "91720f7708fe59c64cc0f93f3f343a03b8f55b6ac6ac94d7f8e6e7337f05d863", func := "pigeonhole/pigeonholelaw13.CaoLengths", spec := "caoLengths", unfollowed := true, recurses := true, apart := false, narrowed := true }
def CaoLengthsUptoSaid : Prop := caoLengthsUptoRow.holds Try.pinned (OpenSpec.upto caoLengthsSpec)

/-- 'pigeonholelaw11.DiffTables', WHERE WHAT IT READS IS OF BULK AT MOST 1048576: true; the input reads as it did. -/
def diffTablesUptoRow : OpenClaim := { program := "ytbljidhiecbcfaa", sum := "91720f7708fe59c64cc0f93f3f343a03b8f55b6ac6ac94d7f8e6e7337f05d863", func := "pigeonhole/pigeonholelaw11.DiffTables", spec := "diffTables", unfollowed := true, recurses := true, apart := false, narrowed := true }
def DiffTablesUptoSaid : Prop := diffTablesUptoRow.holds Try.pinned (OpenSpec.upto diffTablesSpec)

end Rows
end Go.Proofs.Ytbljidhiecbcfaa
