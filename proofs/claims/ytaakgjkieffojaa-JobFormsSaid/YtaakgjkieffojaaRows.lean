/-
  No cell of these rows narrows 'for every input' (looked for: loops, veiled, ifaces, maps, wideKeys, modest, calm, conditions, laid).
  DERIVED. THE GIVEN ROWS OF THIS SEAT. 3 by the template 'for every input the law returns true; each argument reads behind the call as it read before'; 0 by the template 'total and deterministic' (their statements: YtaakgjkieffojaaTotals.lean).
  GIVEN WITH THE SEED: the statements are not yours to turn. If you find one false, say at which input.
  Laid BY PROGRAM, IN A SANDBOX (cutbox-rows.mjs): the forced cells as the released guide's own fill.sh prints them over the translation f1c3450a83573c52… (all of the seat's roots in one cut). By AI agents, Wed Nov 11 2026. No macro, syntax, notation, axiom, sorry.
-/
import Derived.Test.YtaakgjkieffojaaChecked
import GoSem.Claim
import GoSem.ClaimJoined
import GoSem.ClaimMapViews
import Derived.JoinedTies
import Derived.KernelRfl
namespace Go.Proofs.Ytaakgjkieffojaa
/- THE CELL 'sum', in the pinned program and in every row, IS THE sha256 OF THE DUMP (.gsa) THAT YtaakgjkieffojaaProg.lean LOADS. Nothing in Lean hashes anything: it is a label: what it is worth is what the hold of that sum in a sandbox is worth. -/
noncomputable def Try.pinned : Pinned := { name := "ytaakgjkieffojaa", sum := "f1c3450a83573c523dfb90be2142d64554246091b064402d39a6f17e588e98ee", checked := Try.checked }
namespace Rows
def none {H : Type} : Left H := { results := [], args := [] }

/-- 'curtilagelaw17.JobForms': WHATEVER THE INPUT: true; the input reads as it did. -/
def jobFormsSpec : ChangeSpec := { name := "jobForms", fn := fun _ => fun
  | [d1, d2, d3, d4] => { results := [.lit (.bool true)], args := [d1, d2, d3, d4] }
  | _ => none }
def jobFormsRow : OpenClaim := { program := "ytaakgjkieffojaa", sum := "f1c3450a83573c523dfb90be2142d64554246091b064402d39a6f17e588e98ee", func := "curtilage/curtilagelaw17.JobForms", spec := "jobForms", apart := false }
def JobFormsSaid : Prop := jobFormsRow.holds Try.pinned (OpenSpec.ofChange jobFormsSpec)

/-- ITS FALSE NEIGHBOUR: 'it returns false'. Refute it at one input. -/
def jobFormsWrong : ChangeSpec := { name := "jobForms", fn := fun _ => fun
  | [d1, d2, d3, d4] => { results := [.lit (.bool false)], args := [d1, d2, d3, d4] }
  | _ => none }
def JobFormsWrongFalsely : Prop := jobFormsRow.holds Try.pinned (OpenSpec.ofChange jobFormsWrong)

/-- 'curtilagelaw17.JobRights': WHATEVER THE INPUT: true; the input reads as it did. -/
def jobRightsSpec : ChangeSpec := { name := "jobRights", fn := fun _ => fun
  | [d1, d2, d3, d4, d5] => { results := [.lit (.bool true)], args := [d1, d2, d3, d4, d5] }
  | _ => none }
def jobRightsRow : OpenClaim := { program := "ytaakgjkieffojaa", sum := "f1c3450a83573c523dfb90be2142d64554246091b064402d39a6f17e588e98ee", func := "curtilage/curtilagelaw17.JobRights", spec := "jobRights", apart := false }
def JobRightsSaid : Prop := jobRightsRow.holds Try.pinned (OpenSpec.ofChange jobRightsSpec)

/-- ITS FALSE NEIGHBOUR: 'it returns false'. Refute it at one input. -/
def jobRightsWrong : ChangeSpec := { name := "jobRights", fn := fun _ => fun
  | [d1, d2, d3, d4, d5] => { results := [.lit (.bool false)], args := [d1, d2, d3, d4, d5] }
  | _ => none }
def JobRightsWrongFalsely : Prop := jobRightsRow.holds Try.pinned (OpenSpec.ofChange jobRightsWrong)

/-- 'curtilagelaw17.JobChains': WHATEVER THE INPUT: true; the input reads as it did. -/
def jobChainsSpec : ChangeSpec := { name := "jobChains", fn := fun _ => fun
  | [d1, d2] => { results := [.lit (.bool true)], args := [d1, d2] }
  | _ => none }
def jobChainsRow : OpenClaim := { program := "ytaakgjkieffojaa", sum := "f1c3450a83573c523dfb90be2142d64554246091b064402d39a6f17e588e98ee", func := "curtilage/curtilagelaw17.JobChains", spec := "jobChains", apart := false }
def JobChainsSaid : Prop := jobChainsRow.holds Try.pinned (OpenSpec.ofChange jobChainsSpec)

/-- ITS FALSE NEIGHBOUR: 'it returns false'. Refute it at one input. -/
def jobChainsWrong : ChangeSpec := { name := "jobChains", fn := fun _ => fun
  | [d1, d2] => { results := [.lit (.bool false)], args := [d1, d2] }
  | _ => none }
def JobChainsWrongFalsely : Prop := jobChainsRow.holds Try.pinned (OpenSpec.ofChange jobChainsWrong)

/- THE SECOND FORM. 'bulk': how many values and letters a reading holds, each counted each time it is reached (what is shared counts as often as it is met; a slice's spare places count too). A statement '..UptoSaid' is the law's where the arguments, and the package variables that the reading takes, are together of bulk at most 1048576: NARROWER than '..Said'. Prove '..Said' where nothing that the law and all that it calls make is longer than what came in: it says more and counts as full. Else prove '..UptoSaid'. A law counts once. -/
mutual
def uptoBulk {H : Type} : DataW H → Nat
  | .lit (.string bytes) => bytes.length + 1
  | .lit _ => 1
  | .nil => 1
  | .ptr d => uptoBulk d + 1
  | .slice elems spare => uptoBulkAll elems + uptoBulkAll spare + 1
  | .agg parts => uptoBulkAll parts + 1
  | .iface _ d => uptoBulk d + 1
  | .map entries => uptoBulkEntries entries + 1
  | .held _ => 1
def uptoBulkAll {H : Type} : List (DataW H) → Nat
  | [] => 0
  | d :: r => uptoBulk d + uptoBulkAll r
def uptoBulkEntries {H : Type} : List (Lit × DataW H) → Nat
  | [] => 0
  | x :: r => uptoBulkEntry x + uptoBulkEntries r
def uptoBulkEntry {H : Type} : Lit × DataW H → Nat
  | (.string bytes, d) => bytes.length + uptoBulk d + 1
  | (_, d) => uptoBulk d + 1
 end
def uptoSmall : (H : Type) → List (DataW H) → Bool := fun _ ds => decide (uptoBulkAll ds ≤ 1048576)
def OpenSpec.upto (s : _root_.Go.ChangeSpec) : _root_.Go.OpenSpec := { _root_.Go.OpenSpec.ofChange s with cond := some uptoSmall }

/-- 'curtilagelaw17.JobForms', WHERE WHAT IT READS IS OF BULK AT MOST 1048576: true; the input reads as it did. -/
def jobFormsUptoRow : OpenClaim := { program := "ytaakgjkieffojaa", sum := "f1c3450a83573c523dfb90be2142d64554246091b064402d39a6f17e588e98ee", func := "curtilage/curtilagelaw17.JobForms", spec := "jobForms", apart := false, narrowed := true }
def JobFormsUptoSaid : Prop := jobFormsUptoRow.holds Try.pinned (OpenSpec.upto jobFormsSpec)

/-- 'curtilagelaw17.JobRights', WHERE WHAT IT READS IS OF BULK AT MOST 1048576: true; the input reads as it did. -/
def jobRightsUptoRow : OpenClaim := { program := "ytaakgjkieffojaa", sum := "f1c3450a83573c523dfb90be2142d64554246091b064402d39a6f17e588e98ee", func := "curtilage/curtilagelaw17.JobRights", spec := "jobRights", apart := false, narrowed := true }
def JobRightsUptoSaid : Prop := jobRightsUptoRow.holds Try.pinned (OpenSpec.upto jobRightsSpec)

/-- 'curtilagelaw17.JobChains', WHERE WHAT IT READS IS OF BULK AT MOST 1048576: true; the input reads as it did. -/
def jobChainsUptoRow : OpenClaim := { program := "ytaakgjkieffojaa", sum := "f1c3450a83573c523dfb90be2142d64554246091b064402d39a6f17e588e98ee", func := "curtilage/curtilagelaw17.JobChains", spec := "jobChains", apart := false, narrowed := true }
def JobChainsUptoSaid : Prop := jobChainsUptoRow.holds Try.pinned (OpenSpec.upto jobChainsSpec)

end Rows
end Go.Proofs.Ytaakgjkieffojaa
