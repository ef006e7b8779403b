/-
  No cell of these rows narrows 'for every input' (looked for: loops, veiled, ifaces, maps, wideKeys, modest, calm, conditions, laid).
  DERIVED. THE GIVEN ROWS OF THIS SEAT. 4 by the template 'for every input the law returns true; each argument reads behind the call as it read before'; 0 by the template 'total and deterministic' (their statements: YtgagfkipdmoapaaTotals.lean).
  GIVEN WITH THE SEED: the statements are not yours to turn. If you find one false, say at which input.
  Laid BY PROGRAM, IN A SANDBOX (cutbox-rows.mjs): the forced cells as the released guide's own fill.sh prints them over the translation bc163e7a8c609b3f… (all of the seat's roots in one cut). By AI agents, Wed Nov 11 2026. No macro, syntax, notation, axiom, sorry.
-/
import Derived.Test.YtgagfkipdmoapaaChecked
import GoSem.Claim
import GoSem.ClaimJoined
import GoSem.ClaimMapViews
import Derived.JoinedTies
import Derived.KernelRfl
namespace Go.Proofs.Ytgagfkipdmoapaa
/- THE CELL 'sum', in the pinned program and in every row, IS THE sha256 OF THE DUMP (.gsa) THAT YtgagfkipdmoapaaProg.lean LOADS. Nothing in Lean hashes anything: it is a label: what it is worth is what the hold of that sum in a sandbox is worth. -/
noncomputable def Try.pinned : Pinned := { name := "ytgagfkipdmoapaa", sum := "bc163e7a8c609b3f701d9bbfd67d8862a15e1f3e7719b87a239419c0b963c64a", checked := Try.checked }
namespace Rows
def none {H : Type} : Left H := { results := [], args := [] }

/-- 'curtilagelaw21.PortFull': WHATEVER THE INPUT: true; the input reads as it did. -/
def portFullSpec : ChangeSpec := { name := "portFull", fn := fun _ => fun
  | [d] => { results := [.lit (.bool true)], args := [d] }
  | _ => none }
def portFullRow : OpenClaim := { program := "ytgagfkipdmoapaa", sum := "bc163e7a8c609b3f701d9bbfd67d8862a15e1f3e7719b87a239419c0b963c64a", func := "curtilage/curtilagelaw21.PortFull", spec := "portFull", apart := false }
def PortFullSaid : Prop := portFullRow.holds Try.pinned (OpenSpec.ofChange portFullSpec)

/-- ITS FALSE NEIGHBOUR: 'it returns false'. Refute it at one input. -/
def portFullWrong : ChangeSpec := { name := "portFull", fn := fun _ => fun
  | [d] => { results := [.lit (.bool false)], args := [d] }
  | _ => none }
def PortFullWrongFalsely : Prop := portFullRow.holds Try.pinned (OpenSpec.ofChange portFullWrong)

/-- 'curtilagelaw21.PortTicks': WHATEVER THE INPUT: true; the input reads as it did. -/
def portTicksSpec : ChangeSpec := { name := "portTicks", fn := fun _ => fun
  | [d1, d2, d3, d4] => { results := [.lit (.bool true)], args := [d1, d2, d3, d4] }
  | _ => none }
def portTicksRow : OpenClaim := { program := "ytgagfkipdmoapaa", sum := "bc163e7a8c609b3f701d9bbfd67d8862a15e1f3e7719b87a239419c0b963c64a", func := "curtilage/curtilagelaw21.PortTicks", spec := "portTicks", apart := false }
def PortTicksSaid : Prop := portTicksRow.holds Try.pinned (OpenSpec.ofChange portTicksSpec)

/-- ITS FALSE NEIGHBOUR: 'it returns false'. Refute it at one input. -/
def portTicksWrong : ChangeSpec := { name := "portTicks", fn := fun _ => fun
  | [d1, d2, d3, d4] => { results := [.lit (.bool false)], args := [d1, d2, d3, d4] }
  | _ => none }
def PortTicksWrongFalsely : Prop := portTicksRow.holds Try.pinned (OpenSpec.ofChange portTicksWrong)

/-- 'curtilagelaw21.PortOuts': WHATEVER THE INPUT: true; the input reads as it did. -/
def portOutsSpec : ChangeSpec := { name := "portOuts", fn := fun _ => fun
  | [d] => { results := [.lit (.bool true)], args := [d] }
  | _ => none }
def portOutsRow : OpenClaim := { program := "ytgagfkipdmoapaa", sum := "bc163e7a8c609b3f701d9bbfd67d8862a15e1f3e7719b87a239419c0b963c64a", func := "curtilage/curtilagelaw21.PortOuts", spec := "portOuts", apart := false }
def PortOutsSaid : Prop := portOutsRow.holds Try.pinned (OpenSpec.ofChange portOutsSpec)

/-- ITS FALSE NEIGHBOUR: 'it returns false'. Refute it at one input. -/
def portOutsWrong : ChangeSpec := { name := "portOuts", fn := fun _ => fun
  | [d] => { results := [.lit (.bool false)], args := [d] }
  | _ => none }
def PortOutsWrongFalsely : Prop := portOutsRow.holds Try.pinned (OpenSpec.ofChange portOutsWrong)

/-- 'curtilagelaw21.PortNumbers': WHATEVER THE INPUT: true; the input reads as it did. -/
def portNumbersSpec : ChangeSpec := { name := "portNumbers", fn := fun _ => fun
  | [d1, d2, d3, d4] => { results := [.lit (.bool true)], args := [d1, d2, d3, d4] }
  | _ => none }
def portNumbersRow : OpenClaim := { program := "ytgagfkipdmoapaa", sum := "bc163e7a8c609b3f701d9bbfd67d8862a15e1f3e7719b87a239419c0b963c64a", func := "curtilage/curtilagelaw21.PortNumbers", spec := "portNumbers", apart := false }
def PortNumbersSaid : Prop := portNumbersRow.holds Try.pinned (OpenSpec.ofChange portNumbersSpec)

/-- ITS FALSE NEIGHBOUR: 'it returns false'. Refute it at one input. -/
def portNumbersWrong : ChangeSpec := { name := "portNumbers", fn := fun _ => fun
  | [d1, d2, d3, d4] => { results := [.lit (.bool false)], args := [d1, d2, d3, d4] }
  | _ => none }
def PortNumbersWrongFalsely : Prop := portNumbersRow.holds Try.pinned (OpenSpec.ofChange portNumbersWrong)

/- THE SECOND FORM. 'bulk': how many values and letters a reading holds, each counted each time it is reached (what is shared counts as often as it is met; a slice's spare places count too). A statement '..UptoSaid' is the law's where the arguments, and the package variables that the reading takes, are together of bulk at most 1048576: NARROWER than '..Said'. Prove '..Said' where nothing that the law and all that it calls make is longer than what came in: it says more and counts as full. Else prove '..UptoSaid'. A law counts once. -/
mutual
def uptoBulk {H : Type} : DataW H → Nat
  | .lit (.string bytes) => bytes.length + 1
  | .lit _ => 1
  | .nil => 1
  | .ptr d => uptoBulk d + 1
  | .slice elems spare => uptoBulkAll elems + uptoBulkAll spare + 1
  | .agg parts => uptoBulkAll parts + 1
  | .iface _ d => uptoBulk d + 1
  | .map entries => uptoBulkEntries entries + 1
  | .held _ => 1
def uptoBulkAll {H : Type} : List (DataW H) → Nat
  | [] => 0
  | d :: r => uptoBulk d + uptoBulkAll r
def uptoBulkEntries {H : Type} : List (Lit × DataW H) → Nat
  | [] => 0
  | x :: r => uptoBulkEntry x + uptoBulkEntries r
def uptoBulkEntry {H : Type} : Lit × DataW H → Nat
  | (.string bytes, d) => bytes.length + uptoBulk d + 1
  | (_, d) => uptoBulk d + 1
 end
def uptoSmall : (H : Type) → List (DataW H) → Bool := fun _ ds => decide (uptoBulkAll ds ≤ 1048576)
def OpenSpec.upto (s : _root_.Go.ChangeSpec) : _root_.Go.OpenSpec := { _root_.Go.OpenSpec.ofChange s with cond := some uptoSmall }

/-- 'curtilagelaw21.PortFull', WHERE WHAT IT READS IS OF BULK AT MOST 1048576: true; the input reads as it did. -/
def portFullUptoRow : OpenClaim := { program := "ytgagfkipdmoapaa", sum := "bc163e7a8c609b3f701d9bbfd67d8862a15e1f3e7719b87a239419c0b963c64a", func := "curtilage/curtilagelaw21.PortFull", spec := "portFull", apart := false, narrowed := true }
def PortFullUptoSaid : Prop := portFullUptoRow.holds Try.pinned (OpenSpec.upto portFullSpec)

/-- 'curtilagelaw21.PortTicks', WHERE WHAT IT READS IS OF BULK AT MOST 1048576: true; the input reads as it did. -/
def portTicksUptoRow : OpenClaim := { program := "ytgagfkipdmoapaa", sum := "bc163e7a8c609b3f701d9bbfd67d8862a15e1f3e7719b87a239419c0b963c64a", func := "curtilage/curtilagelaw21.PortTicks", spec := "portTicks", apart := false, narrowed := true }
def PortTicksUptoSaid : Prop := portTicksUptoRow.holds Try.pinned (OpenSpec.upto portTicksSpec)

/-- 'curtilagelaw21.PortOuts', WHERE WHAT IT READS IS OF BULK AT MOST 1048576: true; the input reads as it did. -/
def portOutsUptoRow : OpenClaim := { program := "ytgagfkipdmoapaa", sum := "bc163e7a8c609b3f701d9bbfd67d8862a15e1f3e7719b87a239419c0b963c64a", func := "curtilage/curtilagelaw21.PortOuts", spec := "portOuts", apart := false, narrowed := true }
def PortOutsUptoSaid : Prop := portOutsUptoRow.holds Try.pinned (OpenSpec.upto portOutsSpec)

/-- 'curtilagelaw21.PortNumbers', WHERE WHAT IT READS IS OF BULK AT MOST 1048576: true; the input reads as it did. -/
def portNumbersUptoRow : OpenClaim := { program := "ytgagfkipdmoapaa", sum := "bc163e7a8c609b3f701d9bbfd67d8862a15e1f3e7719b87a239419c0b963c64a", func := "curtilage/curtilagelaw21.PortNumbers", spec := "portNumbers", apart := false, narrowed := true }
def PortNumbersUptoSaid : Prop := portNumbersUptoRow.holds Try.pinned (OpenSpec.upto portNumbersSpec)

end Rows
end Go.Proofs.Ytgagfkipdmoapaa
