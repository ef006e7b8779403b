/-
  No cell of these rows narrows 'for every input' (looked for: loops, veiled, ifaces, maps, wideKeys, modest, calm, conditions, laid).
  DERIVED. THE GIVEN ROWS OF THIS SEAT. 5 by the template 'for every input the law returns true; each argument reads behind the call as it read before'; 0 by the template 'total and deterministic' (their statements: YtloclegkilgglaaTotals.lean).
  GIVEN WITH THE SEED: the statements are not yours to turn. If you find one false, say at which input.
  Laid BY PROGRAM, IN A SANDBOX (cutbox-rows.mjs): the forced cells as the released guide's own fill.sh prints them over the translation c018bd17a42de4c4… (all of the seat's roots in one cut). By AI agents, Wed Nov 11 2026. No macro, syntax, notation, axiom, sorry.
-/
import Derived.Test.YtloclegkilgglaaChecked
import GoSem.Claim
import GoSem.ClaimJoined
import GoSem.ClaimMapViews
import Derived.JoinedTies
import Derived.KernelRfl
namespace Go.Proofs.Ytloclegkilgglaa
/- THE CELL 'sum', in the pinned program and in every row, IS THE sha256 OF THE DUMP (.gsa) THAT YtloclegkilgglaaProg.lean LOADS. Nothing in Lean hashes anything: it is a label: what it is worth is what the hold of that sum in a sandbox is worth. -/
noncomputable def Try.pinned : Pinned := { name := "ytloclegkilgglaa", sum := "c018bd17a42de4c4e9fd2d276d3b8d6e5cddab37dd7d96abcc903b0ba2795582", checked := Try.checked }
namespace Rows
def none {H : Type} : Left H := { results := [], args := [] }

/-- 'curtilagelaw03.AesBack': WHATEVER THE INPUT: true; the input reads as it did. -/
def aesBackSpec : ChangeSpec := { name := "aesBack", fn := fun _ => fun
  | [d1, d2, d3, d4] => { results := [.lit (.bool true)], args := [d1, d2, d3, d4] }
  | _ => none }
def aesBackRow : OpenClaim := { program := "ytloclegkilgglaa", sum := "c018bd17a42de4c4e9fd2d276d3b8d6e5cddab37dd7d96abcc903b0ba2795582", func := "curtilage/curtilagelaw03.AesBack", spec := "aesBack", apart := false }
def AesBackSaid : Prop := aesBackRow.holds Try.pinned (OpenSpec.ofChange aesBackSpec)

/-- ITS FALSE NEIGHBOUR: 'it returns false'. Refute it at one input. -/
def aesBackWrong : ChangeSpec := { name := "aesBack", fn := fun _ => fun
  | [d1, d2, d3, d4] => { results := [.lit (.bool false)], args := [d1, d2, d3, d4] }
  | _ => none }
def AesBackWrongFalsely : Prop := aesBackRow.holds Try.pinned (OpenSpec.ofChange aesBackWrong)

/-- 'curtilagelaw03.AesField': WHATEVER THE INPUT: true; the input reads as it did. -/
def aesFieldSpec : ChangeSpec := { name := "aesField", fn := fun _ => fun
  | [d1, d2, d3] => { results := [.lit (.bool true)], args := [d1, d2, d3] }
  | _ => none }
def aesFieldRow : OpenClaim := { program := "ytloclegkilgglaa", sum := "c018bd17a42de4c4e9fd2d276d3b8d6e5cddab37dd7d96abcc903b0ba2795582", func := "curtilage/curtilagelaw03.AesField", spec := "aesField", apart := false }
def AesFieldSaid : Prop := aesFieldRow.holds Try.pinned (OpenSpec.ofChange aesFieldSpec)

/-- ITS FALSE NEIGHBOUR: 'it returns false'. Refute it at one input. -/
def aesFieldWrong : ChangeSpec := { name := "aesField", fn := fun _ => fun
  | [d1, d2, d3] => { results := [.lit (.bool false)], args := [d1, d2, d3] }
  | _ => none }
def AesFieldWrongFalsely : Prop := aesFieldRow.holds Try.pinned (OpenSpec.ofChange aesFieldWrong)

/-- 'curtilagelaw03.AesEncrypts': WHATEVER THE INPUT: true; the input reads as it did. -/
def aesEncryptsSpec : ChangeSpec := { name := "aesEncrypts", fn := fun _ => fun
  | [d1, d2, d3] => { results := [.lit (.bool true)], args := [d1, d2, d3] }
  | _ => none }
def aesEncryptsRow : OpenClaim := { program := "ytloclegkilgglaa", sum := "c018bd17a42de4c4e9fd2d276d3b8d6e5cddab37dd7d96abcc903b0ba2795582", func := "curtilage/curtilagelaw03.AesEncrypts", spec := "aesEncrypts", apart := false }
def AesEncryptsSaid : Prop := aesEncryptsRow.holds Try.pinned (OpenSpec.ofChange aesEncryptsSpec)

/-- ITS FALSE NEIGHBOUR: 'it returns false'. Refute it at one input. -/
def aesEncryptsWrong : ChangeSpec := { name := "aesEncrypts", fn := fun _ => fun
  | [d1, d2, d3] => { results := [.lit (.bool false)], args := [d1, d2, d3] }
  | _ => none }
def AesEncryptsWrongFalsely : Prop := aesEncryptsRow.holds Try.pinned (OpenSpec.ofChange aesEncryptsWrong)

/-- 'curtilagelaw03.AesSchedules': WHATEVER THE INPUT: true; the input reads as it did. -/
def aesSchedulesSpec : ChangeSpec := { name := "aesSchedules", fn := fun _ => fun
  | [d1, d2, d3] => { results := [.lit (.bool true)], args := [d1, d2, d3] }
  | _ => none }
def aesSchedulesRow : OpenClaim := { program := "ytloclegkilgglaa", sum := "c018bd17a42de4c4e9fd2d276d3b8d6e5cddab37dd7d96abcc903b0ba2795582", func := "curtilage/curtilagelaw03.AesSchedules", spec := "aesSchedules", apart := false }
def AesSchedulesSaid : Prop := aesSchedulesRow.holds Try.pinned (OpenSpec.ofChange aesSchedulesSpec)

/-- ITS FALSE NEIGHBOUR: 'it returns false'. Refute it at one input. -/
def aesSchedulesWrong : ChangeSpec := { name := "aesSchedules", fn := fun _ => fun
  | [d1, d2, d3] => { results := [.lit (.bool false)], args := [d1, d2, d3] }
  | _ => none }
def AesSchedulesWrongFalsely : Prop := aesSchedulesRow.holds Try.pinned (OpenSpec.ofChange aesSchedulesWrong)

/-- 'curtilagelaw03.AesArgs': WHATEVER THE INPUT: true; the input reads as it did. -/
def aesArgsSpec : ChangeSpec := { name := "aesArgs", fn := fun _ => fun
  | [d1, d2, d3, d4] => { results := [.lit (.bool true)], args := [d1, d2, d3, d4] }
  | _ => none }
def aesArgsRow : OpenClaim := { program := "ytloclegkilgglaa", sum := "c018bd17a42de4c4e9fd2d276d3b8d6e5cddab37dd7d96abcc903b0ba2795582", func := "curtilage/curtilagelaw03.AesArgs", spec := "aesArgs", apart := false }
def AesArgsSaid : Prop := aesArgsRow.holds Try.pinned (OpenSpec.ofChange aesArgsSpec)

/-- ITS FALSE NEIGHBOUR: 'it returns false'. Refute it at one input. -/
def aesArgsWrong : ChangeSpec := { name := "aesArgs", fn := fun _ => fun
  | [d1, d2, d3, d4] => { results := [.lit (.bool false)], args := [d1, d2, d3, d4] }
  | _ => none }
def AesArgsWrongFalsely : Prop := aesArgsRow.holds Try.pinned (OpenSpec.ofChange aesArgsWrong)

/- THE SECOND FORM. 'bulk': how many values and letters a reading holds, each counted each time it is reached (what is shared counts as often as it is met; a slice's spare places count too). A statement '..UptoSaid' is the law's where the arguments, and the package variables that the reading takes, are together of bulk at most 1048576: NARROWER than '..Said'. Prove '..Said' where nothing that the law and all that it calls make is longer than what came in: it says more and counts as full. Else prove '..UptoSaid'. A law counts once. -/
mutual
def uptoBulk {H : Type} : DataW H → Nat
  | .lit (.string bytes) => bytes.length + 1
  | .lit _ => 1
  | .nil => 1
  | .ptr d => uptoBulk d + 1
  | .slice elems spare => uptoBulkAll elems + uptoBulkAll spare + 1
  | .agg parts => uptoBulkAll parts + 1
  | .iface _ d => uptoBulk d + 1
  | .map entries => uptoBulkEntries entries + 1
  | .held _ => 1
def uptoBulkAll {H : Type} : List (DataW H) → Nat
  | [] => 0
  | d :: r => uptoBulk d + uptoBulkAll r
def uptoBulkEntries {H : Type} : List (Lit × DataW H) → Nat
  | [] => 0
  | x :: r => uptoBulkEntry x + uptoBulkEntries r
def uptoBulkEntry {H : Type} : Lit × DataW H → Nat
  | (.string bytes, d) => bytes.length + uptoBulk d + 1
  | (_, d) => uptoBulk d + 1
 end
def uptoSmall : (H : Type) → List (DataW H) → Bool := fun _ ds => decide (uptoBulkAll ds ≤ 1048576)
def OpenSpec.upto (s : _root_.Go.ChangeSpec) : _root_.Go.OpenSpec := { _root_.Go.OpenSpec.ofChange s with cond := some uptoSmall }

/-- 'curtilagelaw03.AesBack', WHERE WHAT IT READS IS OF BULK AT MOST 1048576: true; the input reads as it did. -/
def aesBackUptoRow : OpenClaim := { program := "ytloclegkilgglaa", sum := "c018bd17a42de4c4e9fd2d276d3b8d6e5cddab37dd7d96abcc903b0ba2795582", func := "curtilage/curtilagelaw03.AesBack", spec := "aesBack", apart := false, narrowed := true }
def AesBackUptoSaid : Prop := aesBackUptoRow.holds Try.pinned (OpenSpec.upto aesBackSpec)

/-- 'curtilagelaw03.AesField', WHERE WHAT IT READS IS OF BULK AT MOST 1048576: true; the input reads as it did. -/
def aesFieldUptoRow : OpenClaim := { program := "ytloclegkilgglaa", sum := "c018bd17a42de4c4e9fd2d276d3b8d6e5cddab37dd7d96abcc903b0ba2795582", func := "curtilage/curtilagelaw03.AesField", spec := "aesField", apart := false, narrowed := true }
def AesFieldUptoSaid : Prop := aesFieldUptoRow.holds Try.pinned (OpenSpec.upto aesFieldSpec)

/-- 'curtilagelaw03.AesEncrypts', WHERE WHAT IT READS IS OF BULK AT MOST 1048576: true; the input reads as it did. -/
def aesEncryptsUptoRow : OpenClaim := { program := "ytloclegkilgglaa", sum := "c018bd17a42de4c4e9fd2d276d3b8d6e5cddab37dd7d96abcc903b0ba2795582", func := "curtilage/curtilagelaw03.AesEncrypts", spec := "aesEncrypts", apart := false, narrowed := true }
def AesEncryptsUptoSaid : Prop := aesEncryptsUptoRow.holds Try.pinned (OpenSpec.upto aesEncryptsSpec)

/-- 'curtilagelaw03.AesSchedules', WHERE WHAT IT READS IS OF BULK AT MOST 1048576: true; the input reads as it did. -/
def aesSchedulesUptoRow : OpenClaim := { program := "ytloclegkilgglaa", sum := "c018bd17a42de4c4e9fd2d276d3b8d6e5cddab37dd7d96abcc903b0ba2795582", func := "curtilage/curtilagelaw03.AesSchedules", spec := "aesSchedules", apart := false, narrowed := true }
def AesSchedulesUptoSaid : Prop := aesSchedulesUptoRow.holds Try.pinned (OpenSpec.upto aesSchedulesSpec)

/-- 'curtilagelaw03.AesArgs', WHERE WHAT IT READS IS OF BULK AT MOST 1048576: true; the input reads as it did. -/
def aesArgsUptoRow : OpenClaim := { program := "ytloclegkilgglaa", sum := "c018bd17a42de4c4e9fd2d276d3b8d6e5cddab37dd7d96abcc903b0ba2795582", func := "curtilage/curtilagelaw03.AesArgs", spec := "aesArgs", apart := false, narrowed := true }
def AesArgsUptoSaid : Prop := aesArgsUptoRow.holds Try.pinned (OpenSpec.upto aesArgsSpec)

end Rows
end Go.Proofs.Ytloclegkilgglaa
