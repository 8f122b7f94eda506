/-
  No cell of these rows narrows 'for every input' (looked for: loops, veiled, ifaces, maps, wideKeys, modest, calm, conditions, laid).
  DERIVED. THE GIVEN ROWS OF THIS SEAT. 6 by the template 'for every input the law returns true; each argument reads behind the call as it read before'; 0 by the template 'total and deterministic' (their statements: YthbkdnojneffdaaTotals.lean).
  GIVEN WITH THE SEED: the statements are not yours to turn. If you find one false, say at which input.
  Laid BY PROGRAM, IN A SANDBOX (cutbox-rows.mjs): the forced cells as the released guide's own fill.sh prints them over the translation 622d75b7a7016af0… (all of the seat's roots in one cut). By AI agents, Wed Nov 11 2026. No macro, syntax, notation, axiom, sorry.
-/
import Derived.Test.YthbkdnojneffdaaChecked
import GoSem.Claim
import GoSem.ClaimJoined
import GoSem.ClaimMapViews
import Derived.JoinedTies
import Derived.KernelRfl
namespace Go.Proofs.Ythbkdnojneffdaa
/- THE CELL 'sum', in the pinned program and in every row, IS THE sha256 OF THE DUMP (.gsa) THAT YthbkdnojneffdaaProg.lean LOADS. Nothing in Lean hashes anything: it is a label: what it is worth is what the hold of that sum in a sandbox is worth. -/
noncomputable def Try.pinned : Pinned := { name := "ythbkdnojneffdaa", sum := "622d75b7a7016af0a9acf0f7e40593fae80a097dab8c4cefb9df2bfdb1737dc8", checked := Try.checked }
namespace Rows
def none {H : Type} : Left H := { results := [], args := [] }

/-- 'semvcslaw12.CellsValid': WHATEVER THE INPUT: true; the input reads as it did. -/
def cellsValidSpec : ChangeSpec := { name := "cellsValid", fn := fun _ => fun
  | [d] => { results := [.lit (.bool true)], args := [d] }
  | _ => none }
def cellsValidRow : OpenClaim := { program := "ythbkdnojneffdaa", sum := "622d75b7a7016af0a9acf0f7e40593fae80a097dab8c4cefb9df2bfdb1737dc8", func := "semvcs/semvcslaw12.CellsValid", spec := "cellsValid", apart := false }
def CellsValidSaid : Prop := cellsValidRow.holds Try.pinned (OpenSpec.ofChange cellsValidSpec)

/-- ITS FALSE NEIGHBOUR: 'it returns false'. Refute it at one input. -/
def cellsValidWrong : ChangeSpec := { name := "cellsValid", fn := fun _ => fun
  | [d] => { results := [.lit (.bool false)], args := [d] }
  | _ => none }
def CellsValidWrongFalsely : Prop := cellsValidRow.holds Try.pinned (OpenSpec.ofChange cellsValidWrong)

/-- 'semvcslaw12.CellsPuts': WHATEVER THE INPUT: true; the input reads as it did. -/
def cellsPutsSpec : ChangeSpec := { name := "cellsPuts", fn := fun _ => fun
  | [d1, d2] => { results := [.lit (.bool true)], args := [d1, d2] }
  | _ => none }
def cellsPutsRow : OpenClaim := { program := "ythbkdnojneffdaa", sum := "622d75b7a7016af0a9acf0f7e40593fae80a097dab8c4cefb9df2bfdb1737dc8", func := "semvcs/semvcslaw12.CellsPuts", spec := "cellsPuts", apart := false }
def CellsPutsSaid : Prop := cellsPutsRow.holds Try.pinned (OpenSpec.ofChange cellsPutsSpec)

/-- ITS FALSE NEIGHBOUR: 'it returns false'. Refute it at one input. -/
def cellsPutsWrong : ChangeSpec := { name := "cellsPuts", fn := fun _ => fun
  | [d1, d2] => { results := [.lit (.bool false)], args := [d1, d2] }
  | _ => none }
def CellsPutsWrongFalsely : Prop := cellsPutsRow.holds Try.pinned (OpenSpec.ofChange cellsPutsWrong)

/-- 'semvcslaw12.CellsBack': WHATEVER THE INPUT: true; the input reads as it did. -/
def cellsBackSpec : ChangeSpec := { name := "cellsBack", fn := fun _ => fun
  | [d1, d2] => { results := [.lit (.bool true)], args := [d1, d2] }
  | _ => none }
def cellsBackRow : OpenClaim := { program := "ythbkdnojneffdaa", sum := "622d75b7a7016af0a9acf0f7e40593fae80a097dab8c4cefb9df2bfdb1737dc8", func := "semvcs/semvcslaw12.CellsBack", spec := "cellsBack", apart := false }
def CellsBackSaid : Prop := cellsBackRow.holds Try.pinned (OpenSpec.ofChange cellsBackSpec)

/-- ITS FALSE NEIGHBOUR: 'it returns false'. Refute it at one input. -/
def cellsBackWrong : ChangeSpec := { name := "cellsBack", fn := fun _ => fun
  | [d1, d2] => { results := [.lit (.bool false)], args := [d1, d2] }
  | _ => none }
def CellsBackWrongFalsely : Prop := cellsBackRow.holds Try.pinned (OpenSpec.ofChange cellsBackWrong)

/-- 'semvcslaw12.CellsRegisters': WHATEVER THE INPUT: true; the input reads as it did. -/
def cellsRegistersSpec : ChangeSpec := { name := "cellsRegisters", fn := fun _ => fun
  | [d1, d2, d3, d4] => { results := [.lit (.bool true)], args := [d1, d2, d3, d4] }
  | _ => none }
def cellsRegistersRow : OpenClaim := { program := "ythbkdnojneffdaa", sum := "622d75b7a7016af0a9acf0f7e40593fae80a097dab8c4cefb9df2bfdb1737dc8", func := "semvcs/semvcslaw12.CellsRegisters", spec := "cellsRegisters", apart := false }
def CellsRegistersSaid : Prop := cellsRegistersRow.holds Try.pinned (OpenSpec.ofChange cellsRegistersSpec)

/-- ITS FALSE NEIGHBOUR: 'it returns false'. Refute it at one input. -/
def cellsRegistersWrong : ChangeSpec := { name := "cellsRegisters", fn := fun _ => fun
  | [d1, d2, d3, d4] => { results := [.lit (.bool false)], args := [d1, d2, d3, d4] }
  | _ => none }
def CellsRegistersWrongFalsely : Prop := cellsRegistersRow.holds Try.pinned (OpenSpec.ofChange cellsRegistersWrong)

/-- 'semvcslaw12.CellsApart': WHATEVER THE INPUT: true; the input reads as it did. -/
def cellsApartSpec : ChangeSpec := { name := "cellsApart", fn := fun _ => fun
  | [d1, d2, d3] => { results := [.lit (.bool true)], args := [d1, d2, d3] }
  | _ => none }
def cellsApartRow : OpenClaim := { program := "ythbkdnojneffdaa", sum := "622d75b7a7016af0a9acf0f7e40593fae80a097dab8c4cefb9df2bfdb1737dc8", func := "semvcs/semvcslaw12.CellsApart", spec := "cellsApart", apart := false }
def CellsApartSaid : Prop := cellsApartRow.holds Try.pinned (OpenSpec.ofChange cellsApartSpec)

/-- ITS FALSE NEIGHBOUR: 'it returns false'. Refute it at one input. -/
def cellsApartWrong : ChangeSpec := { name := "cellsApart", fn := fun _ => fun
  | [d1, d2, d3] => { results := [.lit (.bool false)], args := [d1, d2, d3] }
  | _ => none }
def CellsApartWrongFalsely : Prop := cellsApartRow.holds Try.pinned (OpenSpec.ofChange cellsApartWrong)

/-- 'semvcslaw12.CellsReads': WHATEVER THE INPUT: true; the input reads as it did. -/
def cellsReadsSpec : ChangeSpec := { name := "cellsReads", fn := fun _ => fun
  | [d1, d2, d3] => { results := [.lit (.bool true)], args := [d1, d2, d3] }
  | _ => none }
def cellsReadsRow : OpenClaim := { program := "ythbkdnojneffdaa", sum := "622d75b7a7016af0a9acf0f7e40593fae80a097dab8c4cefb9df2bfdb1737dc8", func := "semvcs/semvcslaw12.CellsReads", spec := "cellsReads", apart := false }
def CellsReadsSaid : Prop := cellsReadsRow.holds Try.pinned (OpenSpec.ofChange cellsReadsSpec)

/-- ITS FALSE NEIGHBOUR: 'it returns false'. Refute it at one input. -/
def cellsReadsWrong : ChangeSpec := { name := "cellsReads", fn := fun _ => fun
  | [d1, d2, d3] => { results := [.lit (.bool false)], args := [d1, d2, d3] }
  | _ => none }
def CellsReadsWrongFalsely : Prop := cellsReadsRow.holds Try.pinned (OpenSpec.ofChange cellsReadsWrong)

/- THE SECOND FORM. 'bulk': how many values and letters a reading holds, each counted each time it is reached (what is shared counts as often as it is met; a slice's spare places count too). A statement '..UptoSaid' is the law's where the arguments, and the package variables that the reading takes, are together of bulk at most 1048576: NARROWER than '..Said'. Prove '..Said' where nothing that the law and all that it calls make is longer than what came in: it says more and counts as full. Else prove '..UptoSaid'. A law counts once. -/
mutual
def uptoBulk {H : Type} : DataW H → Nat
  | .lit (.string bytes) => bytes.length + 1
  | .lit _ => 1
  | .nil => 1
  | .ptr d => uptoBulk d + 1
  | .slice elems spare => uptoBulkAll elems + uptoBulkAll spare + 1
  | .agg parts => uptoBulkAll parts + 1
  | .iface _ d => uptoBulk d + 1
  | .map entries => uptoBulkEntries entries + 1
  | .held _ => 1
def uptoBulkAll {H : Type} : List (DataW H) → Nat
  | [] => 0
  | d :: r => uptoBulk d + uptoBulkAll r
def uptoBulkEntries {H : Type} : List (Lit × DataW H) → Nat
  | [] => 0
  | x :: r => uptoBulkEntry x + uptoBulkEntries r
def uptoBulkEntry {H : Type} : Lit × DataW H → Nat
  | (.string bytes, d) => bytes.length + uptoBulk d + 1
  | (_, d) => uptoBulk d + 1
 end
def uptoSmall : (H : Type) → List (DataW H) → Bool := fun _ ds => decide (uptoBulkAll ds ≤ 1048576)
def OpenSpec.upto (s : _root_.Go.ChangeSpec) : _root_.Go.OpenSpec := { _root_.Go.OpenSpec.ofChange s with cond := some uptoSmall }

/-- 'semvcslaw12.CellsValid', WHERE WHAT IT READS IS OF BULK AT MOST 1048576: true; the input reads as it did. -/
def cellsValidUptoRow : OpenClaim := { program := "ythbkdnojneffdaa", sum := "622d75b7a7016af0a9acf0f7e40593fae80a097dab8c4cefb9df2bfdb1737dc8", func := "semvcs/semvcslaw12.CellsValid", spec := "cellsValid", apart := false, narrowed := true }
def CellsValidUptoSaid : Prop := cellsValidUptoRow.holds Try.pinned (OpenSpec.upto cellsValidSpec)

/-- 'semvcslaw12.CellsPuts', WHERE WHAT IT READS IS OF BULK AT MOST 1048576: true; the input reads as it did. -/
def cellsPutsUptoRow : OpenClaim := { program := "ythbkdnojneffdaa", sum := "622d75b7a7016af0a9acf0f7e40593fae80a097dab8c4cefb9df2bfdb1737dc8", func := "semvcs/semvcslaw12.CellsPuts", spec := "cellsPuts", apart := false, narrowed := true }
def CellsPutsUptoSaid : Prop := cellsPutsUptoRow.holds Try.pinned (OpenSpec.upto cellsPutsSpec)

/-- 'semvcslaw12.CellsBack', WHERE WHAT IT READS IS OF BULK AT MOST 1048576: true; the input reads as it did. -/
def cellsBackUptoRow : OpenClaim := { program := "ythbkdnojneffdaa", sum := "622d75b7a7016af0a9acf0f7e40593fae80a097dab8c4cefb9df2bfdb1737dc8", func := "semvcs/semvcslaw12.CellsBack", spec := "cellsBack", apart := false, narrowed := true }
def CellsBackUptoSaid : Prop := cellsBackUptoRow.holds Try.pinned (OpenSpec.upto cellsBackSpec)

/-- 'semvcslaw12.CellsRegisters', WHERE WHAT IT READS IS OF BULK AT MOST 1048576: true; the input reads as it did. -/
def cellsRegistersUptoRow : OpenClaim := { program := "ythbkdnojneffdaa", sum := "622d75b7a7016af0a9acf0f7e40593fae80a097dab8c4cefb9df2bfdb1737dc8", func := "semvcs/semvcslaw12.CellsRegisters", spec := "cellsRegisters", apart := false, narrowed := true }
def CellsRegistersUptoSaid : Prop := cellsRegistersUptoRow.holds Try.pinned (OpenSpec.upto cellsRegistersSpec)

/-- 'semvcslaw12.CellsApart', WHERE WHAT IT READS IS OF BULK AT MOST 1048576: true; the input reads as it did. -/
def cellsApartUptoRow : OpenClaim := { program := "ythbkdnojneffdaa", sum := "622d75b7a7016af0a9acf0f7e40593fae80a097dab8c4cefb9df2bfdb1737dc8", func := "semvcs/semvcslaw12.CellsApart", spec := "cellsApart", apart := false, narrowed := true }
def CellsApartUptoSaid : Prop := cellsApartUptoRow.holds Try.pinned (OpenSpec.upto cellsApartSpec)

/-- 'semvcslaw12.CellsReads', WHERE WHAT IT READS IS OF BULK AT MOST 1048576: true; the input reads as it did. -/
def cellsReadsUptoRow : OpenClaim := { program := "ythbkdnojneffdaa", sum := "622d75b7a7016af0a9acf0f7e40593fae80a097dab8c4cefb9df2bfdb1737dc8", func := "semvcs/semvcslaw12.CellsReads", spec := "cellsReads", apart := false, narrowed := true }
def CellsReadsUptoSaid : Prop := cellsReadsUptoRow.holds Try.pinned (OpenSpec.upto cellsReadsSpec)

end Rows
end Go.Proofs.Ythbkdnojneffdaa
