/-
  No cell of these rows narrows 'for every input' (looked for: loops, veiled, ifaces, maps, wideKeys, modest, calm, conditions, laid).
  DERIVED. THE GIVEN ROWS OF THIS SEAT. 5 by the template 'for every input the law returns true; each argument reads behind the call as it read before'; 0 by the template 'total and deterministic' (their statements: YtgfhkmpmdfdemaaTotals.lean).
  GIVEN WITH THE SEED: the statements are not yours to turn. If you find one false, say at which input.
  Laid BY PROGRAM, IN A SANDBOX (cutbox-rows.mjs): the forced cells as the released guide's own fill.sh prints them over the translation 10894cc6452a7501… (all of the seat's roots in one cut). By AI agents, Wed Nov 11 2026. No macro, syntax, notation, axiom, sorry.
-/
import Derived.Test.YtgfhkmpmdfdemaaChecked
import GoSem.Claim
import GoSem.ClaimJoined
import GoSem.ClaimMapViews
import Derived.JoinedTies
import Derived.KernelRfl
namespace Go.Proofs.Ytgfhkmpmdfdemaa
/- THE CELL 'sum', in the pinned program and in every row, IS THE sha256 OF THE DUMP (.gsa) THAT YtgfhkmpmdfdemaaProg.lean LOADS. Nothing in Lean hashes anything: it is a label: what it is worth is what the hold of that sum in a sandbox is worth. -/
noncomputable def Try.pinned : Pinned := { name := "ytgfhkmpmdfdemaa", sum := "10894cc6452a750155826f930c90d2d0dbfd4ada8b1e9f3349b31b294f79cc22", checked := Try.checked }
namespace Rows
def none {H : Type} : Left H := { results := [], args := [] }

/-- 'curtilagelaw12.FlashBlanks': WHATEVER THE INPUT: true; the input reads as it did. -/
def flashBlanksSpec : ChangeSpec := { name := "flashBlanks", fn := fun _ => fun
  | [d1, d2, d3, d4] => { results := [.lit (.bool true)], args := [d1, d2, d3, d4] }
  | _ => none }
def flashBlanksRow : OpenClaim := { program := "ytgfhkmpmdfdemaa", sum := "10894cc6452a750155826f930c90d2d0dbfd4ada8b1e9f3349b31b294f79cc22", func := "curtilage/curtilagelaw12.FlashBlanks", spec := "flashBlanks", inPlace := ["internal/bytealg.MakeNoZero"], apart := false }
def FlashBlanksSaid : Prop := flashBlanksRow.holds Try.pinned (OpenSpec.ofChange flashBlanksSpec)

/-- ITS FALSE NEIGHBOUR: 'it returns false'. Refute it at one input. -/
def flashBlanksWrong : ChangeSpec := { name := "flashBlanks", fn := fun _ => fun
  | [d1, d2, d3, d4] => { results := [.lit (.bool false)], args := [d1, d2, d3, d4] }
  | _ => none }
def FlashBlanksWrongFalsely : Prop := flashBlanksRow.holds Try.pinned (OpenSpec.ofChange flashBlanksWrong)

/-- 'curtilagelaw12.FlashWrites': WHATEVER THE INPUT: true; the input reads as it did. -/
def flashWritesSpec : ChangeSpec := { name := "flashWrites", fn := fun _ => fun
  | [d1, d2, d3, d4] => { results := [.lit (.bool true)], args := [d1, d2, d3, d4] }
  | _ => none }
def flashWritesRow : OpenClaim := { program := "ytgfhkmpmdfdemaa", sum := "10894cc6452a750155826f930c90d2d0dbfd4ada8b1e9f3349b31b294f79cc22", func := "curtilage/curtilagelaw12.FlashWrites", spec := "flashWrites", inPlace := ["internal/bytealg.MakeNoZero"], apart := false }
def FlashWritesSaid : Prop := flashWritesRow.holds Try.pinned (OpenSpec.ofChange flashWritesSpec)

/-- ITS FALSE NEIGHBOUR: 'it returns false'. Refute it at one input. -/
def flashWritesWrong : ChangeSpec := { name := "flashWrites", fn := fun _ => fun
  | [d1, d2, d3, d4] => { results := [.lit (.bool false)], args := [d1, d2, d3, d4] }
  | _ => none }
def FlashWritesWrongFalsely : Prop := flashWritesRow.holds Try.pinned (OpenSpec.ofChange flashWritesWrong)

/-- 'curtilagelaw12.FlashTears': WHATEVER THE INPUT: true; the input reads as it did. -/
def flashTearsSpec : ChangeSpec := { name := "flashTears", fn := fun _ => fun
  | [d1, d2, d3, d4, d5] => { results := [.lit (.bool true)], args := [d1, d2, d3, d4, d5] }
  | _ => none }
def flashTearsRow : OpenClaim := { program := "ytgfhkmpmdfdemaa", sum := "10894cc6452a750155826f930c90d2d0dbfd4ada8b1e9f3349b31b294f79cc22", func := "curtilage/curtilagelaw12.FlashTears", spec := "flashTears", inPlace := ["internal/bytealg.MakeNoZero"], apart := false }
def FlashTearsSaid : Prop := flashTearsRow.holds Try.pinned (OpenSpec.ofChange flashTearsSpec)

/-- ITS FALSE NEIGHBOUR: 'it returns false'. Refute it at one input. -/
def flashTearsWrong : ChangeSpec := { name := "flashTears", fn := fun _ => fun
  | [d1, d2, d3, d4, d5] => { results := [.lit (.bool false)], args := [d1, d2, d3, d4, d5] }
  | _ => none }
def FlashTearsWrongFalsely : Prop := flashTearsRow.holds Try.pinned (OpenSpec.ofChange flashTearsWrong)

/-- 'curtilagelaw12.FlashPlays': WHATEVER THE INPUT: true; the input reads as it did. -/
def flashPlaysSpec : ChangeSpec := { name := "flashPlays", fn := fun _ => fun
  | [d1, d2] => { results := [.lit (.bool true)], args := [d1, d2] }
  | _ => none }
def flashPlaysRow : OpenClaim := { program := "ytgfhkmpmdfdemaa", sum := "10894cc6452a750155826f930c90d2d0dbfd4ada8b1e9f3349b31b294f79cc22", func := "curtilage/curtilagelaw12.FlashPlays", spec := "flashPlays", inPlace := ["internal/bytealg.MakeNoZero"], apart := false }
def FlashPlaysSaid : Prop := flashPlaysRow.holds Try.pinned (OpenSpec.ofChange flashPlaysSpec)

/-- ITS FALSE NEIGHBOUR: 'it returns false'. Refute it at one input. -/
def flashPlaysWrong : ChangeSpec := { name := "flashPlays", fn := fun _ => fun
  | [d1, d2] => { results := [.lit (.bool false)], args := [d1, d2] }
  | _ => none }
def FlashPlaysWrongFalsely : Prop := flashPlaysRow.holds Try.pinned (OpenSpec.ofChange flashPlaysWrong)

/-- 'curtilagelaw12.FlashArgs': WHATEVER THE INPUT: true; the input reads as it did. -/
def flashArgsSpec : ChangeSpec := { name := "flashArgs", fn := fun _ => fun
  | [d1, d2, d3, d4] => { results := [.lit (.bool true)], args := [d1, d2, d3, d4] }
  | _ => none }
def flashArgsRow : OpenClaim := { program := "ytgfhkmpmdfdemaa", sum := "10894cc6452a750155826f930c90d2d0dbfd4ada8b1e9f3349b31b294f79cc22", func := "curtilage/curtilagelaw12.FlashArgs", spec := "flashArgs", inPlace := ["internal/bytealg.MakeNoZero"], apart := false }
def FlashArgsSaid : Prop := flashArgsRow.holds Try.pinned (OpenSpec.ofChange flashArgsSpec)

/-- ITS FALSE NEIGHBOUR: 'it returns false'. Refute it at one input. -/
def flashArgsWrong : ChangeSpec := { name := "flashArgs", fn := fun _ => fun
  | [d1, d2, d3, d4] => { results := [.lit (.bool false)], args := [d1, d2, d3, d4] }
  | _ => none }
def FlashArgsWrongFalsely : Prop := flashArgsRow.holds Try.pinned (OpenSpec.ofChange flashArgsWrong)

/- THE SECOND FORM. 'bulk': how many values and letters a reading holds, each counted each time it is reached (what is shared counts as often as it is met; a slice's spare places count too). A statement '..UptoSaid' is the law's where the arguments, and the package variables that the reading takes, are together of bulk at most 1048576: NARROWER than '..Said'. Prove '..Said' where nothing that the law and all that it calls make is longer than what came in: it says more and counts as full. Else prove '..UptoSaid'. A law counts once. -/
mutual
def uptoBulk {H : Type} : DataW H → Nat
  | .lit (.string bytes) => bytes.length + 1
  | .lit _ => 1
  | .nil => 1
  | .ptr d => uptoBulk d + 1
  | .slice elems spare => uptoBulkAll elems + uptoBulkAll spare + 1
  | .agg parts => uptoBulkAll parts + 1
  | .iface _ d => uptoBulk d + 1
  | .map entries => uptoBulkEntries entries + 1
  | .held _ => 1
def uptoBulkAll {H : Type} : List (DataW H) → Nat
  | [] => 0
  | d :: r => uptoBulk d + uptoBulkAll r
def uptoBulkEntries {H : Type} : List (Lit × DataW H) → Nat
  | [] => 0
  | x :: r => uptoBulkEntry x + uptoBulkEntries r
def uptoBulkEntry {H : Type} : Lit × DataW H → Nat
  | (.string bytes, d) => bytes.length + uptoBulk d + 1
  | (_, d) => uptoBulk d + 1
 end
def uptoSmall : (H : Type) → List (DataW H) → Bool := fun _ ds => decide (uptoBulkAll ds ≤ 1048576)
def OpenSpec.upto (s : _root_.Go.ChangeSpec) : _root_.Go.OpenSpec := { _root_.Go.OpenSpec.ofChange s with cond := some uptoSmall }

/-- 'curtilagelaw12.FlashBlanks', WHERE WHAT IT READS IS OF BULK AT MOST 1048576: true; the input reads as it did. -/
def flashBlanksUptoRow : OpenClaim := { program := "ytgfhkmpmdfdemaa", sum := "10894cc6452a750155826f930c90d2d0dbfd4ada8b1e9f3349b31b294f79cc22", func := "curtilage/curtilagelaw12.FlashBlanks", spec := "flashBlanks", inPlace := ["internal/bytealg.MakeNoZero"], apart := false, narrowed := true }
def FlashBlanksUptoSaid : Prop := flashBlanksUptoRow.holds Try.pinned (OpenSpec.upto flashBlanksSpec)

/-- 'curtilagelaw12.FlashWrites', WHERE WHAT IT READS IS OF BULK AT MOST 1048576: true; the input reads as it did. -/
def flashWritesUptoRow : OpenClaim := { program := "ytgfhkmpmdfdemaa", sum := "10894cc6452a750155826f930c90d2d0dbfd4ada8b1e9f3349b31b294f79cc22", func := "curtilage/curtilagelaw12.FlashWrites", spec := "flashWrites", inPlace := ["internal/bytealg.MakeNoZero"], apart := false, narrowed := true }
def FlashWritesUptoSaid : Prop := flashWritesUptoRow.holds Try.pinned (OpenSpec.upto flashWritesSpec)

/-- 'curtilagelaw12.FlashTears', WHERE WHAT IT READS IS OF BULK AT MOST 1048576: true; the input reads as it did. -/
def flashTearsUptoRow : OpenClaim := { program := "ytgfhkmpmdfdemaa", sum := "10894cc6452a750155826f930c90d2d0dbfd4ada8b1e9f3349b31b294f79cc22", func := "curtilage/curtilagelaw12.FlashTears", spec := "flashTears", inPlace := ["internal/bytealg.MakeNoZero"], apart := false, narrowed := true }
def FlashTearsUptoSaid : Prop := flashTearsUptoRow.holds Try.pinned (OpenSpec.upto flashTearsSpec)

/-- 'curtilagelaw12.FlashPlays', WHERE WHAT IT READS IS OF BULK AT MOST 1048576: true; the input reads as it did. -/
def flashPlaysUptoRow : OpenClaim := { program := "ytgfhkmpmdfdemaa", sum := "10894cc6452a750155826f930c90d2d0dbfd4ada8b1e9f3349b31b294f79cc22", func := "curtilage/curtilagelaw12.FlashPlays", spec := "flashPlays", inPlace := ["internal/bytealg.MakeNoZero"], apart := false, narrowed := true }
def FlashPlaysUptoSaid : Prop := flashPlaysUptoRow.holds Try.pinned (OpenSpec.upto flashPlaysSpec)

/-- 'curtilagelaw12.FlashArgs', WHERE WHAT IT READS IS OF BULK AT MOST 1048576: true; the input reads as it did. -/
def flashArgsUptoRow : OpenClaim := { program := "ytgfhkmpmdfdemaa", sum := "10894cc6452a750155826f930c90d2d0dbfd4ada8b1e9f3349b31b294f79cc22", func := "curtilage/curtilagelaw12.FlashArgs", spec := "flashArgs", inPlace := ["internal/bytealg.MakeNoZero"], apart := false, narrowed := true }
def FlashArgsUptoSaid : Prop := flashArgsUptoRow.holds Try.pinned (OpenSpec.upto flashArgsSpec)

end Rows
end Go.Proofs.Ytgfhkmpmdfdemaa
