/-
  NARROWER THAN 'FOR EVERY INPUT', by the rows' own cells (each row's printed sentence says how): LmsParts: laid · LmsRoots: laid · LmsPaths: laid · LmsSame: laid · LmsKnows: laid · LmsForces: laid.
  DERIVED. THE GIVEN ROWS OF THIS SEAT. 6 by the template 'for every input the law returns true; each argument reads behind the call as it read before'; 0 by the template 'total and deterministic' (their statements: YtmhagenbelpnfaaDoorTotals.lean).
  GIVEN WITH THE SEED: the statements are not yours to turn. If you find one false, say at which input.
  Laid BY PROGRAM, IN A SANDBOX (cutbox-rows.mjs): the forced cells as the released guide's own fill.sh prints them over the translation 1c478b0528110145… (all of the seat's roots in one cut). By AI agents, Wed Nov 11 2026. No macro, syntax, notation, axiom, sorry.
-/
import Derived.Test.YtmhagenbelpnfaaDoorChecked
import GoSem.Claim
import GoSem.ClaimJoined
import GoSem.ClaimMapViews
import Derived.JoinedTies
import Derived.KernelRfl
namespace Go.Proofs.YtmhagenbelpnfaaDoor
/- THE CELL 'sum', in the pinned program and in every row, IS THE sha256 OF THE DUMP (.gsa) THAT YtmhagenbelpnfaaDoorProg.lean LOADS. Nothing in Lean hashes anything: it is a label: what it is worth is what the hold of that sum in a sandbox is worth. -/
noncomputable def Tryd.pinned : Pinned := { name := "ytmhagenbelpnfaadoor", sum := "1c478b05281101452992a4b0e9b11128d59ef150673b5d8fb3208853bea625a7", checked := Tryd.checked }
namespace Rows
def none {H : Type} : Left H := { results := [], args := [] }

/- WHAT THE LISTED PACKAGE-LEVEL VARIABLES READ AS WHEN THE CALL BEGINS. Each datum BY PROGRAM (the guide's laid-datum.mjs) off the statement by which the dump's own 'gosem.cut.vars' lays the variable. In a bare row this is a premise. The card (YtmhagenbelpnfaaDoorCards.lean) ties it to the program's text. -/
def laid_curtilage_sha_first {H : Type} : DataW H := .agg [.lit (.int .u32 1779033703), .lit (.int .u32 3144134277), .lit (.int .u32 1013904242), .lit (.int .u32 2773480762), .lit (.int .u32 1359893119), .lit (.int .u32 2600822924), .lit (.int .u32 528734635), .lit (.int .u32 1541459225)]
def laid_curtilage_sha_rounds {H : Type} : DataW H := .agg [.lit (.int .u32 1116352408), .lit (.int .u32 1899447441), .lit (.int .u32 3049323471), .lit (.int .u32 3921009573), .lit (.int .u32 961987163), .lit (.int .u32 1508970993), .lit (.int .u32 2453635748), .lit (.int .u32 2870763221), .lit (.int .u32 3624381080), .lit (.int .u32 310598401), .lit (.int .u32 607225278), .lit (.int .u32 1426881987), .lit (.int .u32 1925078388), .lit (.int .u32 2162078206), .lit (.int .u32 2614888103), .lit (.int .u32 3248222580), .lit (.int .u32 3835390401), .lit (.int .u32 4022224774), .lit (.int .u32 264347078), .lit (.int .u32 604807628), .lit (.int .u32 770255983), .lit (.int .u32 1249150122), .lit (.int .u32 1555081692), .lit (.int .u32 1996064986), .lit (.int .u32 2554220882), .lit (.int .u32 2821834349), .lit (.int .u32 2952996808), .lit (.int .u32 3210313671), .lit (.int .u32 3336571891), .lit (.int .u32 3584528711), .lit (.int .u32 113926993), .lit (.int .u32 338241895), .lit (.int .u32 666307205), .lit (.int .u32 773529912), .lit (.int .u32 1294757372), .lit (.int .u32 1396182291), .lit (.int .u32 1695183700), .lit (.int .u32 1986661051), .lit (.int .u32 2177026350), .lit (.int .u32 2456956037), .lit (.int .u32 2730485921), .lit (.int .u32 2820302411), .lit (.int .u32 3259730800), .lit (.int .u32 3345764771), .lit (.int .u32 3516065817), .lit (.int .u32 3600352804), .lit (.int .u32 4094571909), .lit (.int .u32 275423344), .lit (.int .u32 430227734), .lit (.int .u32 506948616), .lit (.int .u32 659060556), .lit (.int .u32 883997877), .lit (.int .u32 958139571), .lit (.int .u32 1322822218), .lit (.int .u32 1537002063), .lit (.int .u32 1747873779), .lit (.int .u32 1955562222), .lit (.int .u32 2024104815), .lit (.int .u32 2227730452), .lit (.int .u32 2361852424), .lit (.int .u32 2428436474), .lit (.int .u32 2756734187), .lit (.int .u32 3204031479), .lit (.int .u32 3329325298)]
def laid_curtilage_ots_types {H : Type} : DataW H := .agg [.agg [.lit (.int .i64 1), .lit (.int .i64 265), .lit (.int .i64 7)], .agg [.lit (.int .i64 2), .lit (.int .i64 133), .lit (.int .i64 6)], .agg [.lit (.int .i64 4), .lit (.int .i64 67), .lit (.int .i64 4)], .agg [.lit (.int .i64 8), .lit (.int .i64 34), .lit (.int .i64 0)]]

/-- 'curtilagelaw06.LmsParts': WHATEVER THE INPUT: true; the input reads as it did. -/
def lmsPartsSpec : ChangeSpec := { name := "lmsParts", fn := fun _ => fun
  | [d1, d2, d3, d4, d5, d6] => { results := [.lit (.bool true)], args := [d1, d2, d3, d4, d5, d6] }
  | _ => none }
def lmsPartsRow : OpenClaim := { program := "ytmhagenbelpnfaadoor", sum := "1c478b05281101452992a4b0e9b11128d59ef150673b5d8fb3208853bea625a7", func := "curtilage/curtilagelaw06.LmsParts", spec := "lmsParts", unfollowed := true, recurses := true, named := ["curtilage/ots.types", "curtilage/sha.first", "curtilage/sha.rounds"], plainKeys := false, apart := false, laid := [("curtilage/sha.first", laid_curtilage_sha_first), ("curtilage/sha.rounds", laid_curtilage_sha_rounds), ("curtilage/ots.types", laid_curtilage_ots_types)] }
def LmsPartsSaid : Prop := lmsPartsRow.holds Tryd.pinned (OpenSpec.ofChange lmsPartsSpec)

/-- ITS FALSE NEIGHBOUR: 'it returns false'. Refute it at one input. -/
def lmsPartsWrong : ChangeSpec := { name := "lmsParts", fn := fun _ => fun
  | [d1, d2, d3, d4, d5, d6] => { results := [.lit (.bool false)], args := [d1, d2, d3, d4, d5, d6] }
  | _ => none }
def LmsPartsWrongFalsely : Prop := lmsPartsRow.holds Tryd.pinned (OpenSpec.ofChange lmsPartsWrong)

/-- 'curtilagelaw06.LmsRoots': WHATEVER THE INPUT: true; the input reads as it did. -/
def lmsRootsSpec : ChangeSpec := { name := "lmsRoots", fn := fun _ => fun
  | [d1, d2, d3, d4, d5, d6, d7, d8, d9] => { results := [.lit (.bool true)], args := [d1, d2, d3, d4, d5, d6, d7, d8, d9] }
  | _ => none }
def lmsRootsRow : OpenClaim := { program := "ytmhagenbelpnfaadoor", sum := "1c478b05281101452992a4b0e9b11128d59ef150673b5d8fb3208853bea625a7", func := "curtilage/curtilagelaw06.LmsRoots", spec := "lmsRoots", unfollowed := true, recurses := true, named := ["curtilage/ots.types", "curtilage/sha.first", "curtilage/sha.rounds"], plainKeys := false, apart := false, laid := [("curtilage/sha.first", laid_curtilage_sha_first), ("curtilage/sha.rounds", laid_curtilage_sha_rounds), ("curtilage/ots.types", laid_curtilage_ots_types)] }
def LmsRootsSaid : Prop := lmsRootsRow.holds Tryd.pinned (OpenSpec.ofChange lmsRootsSpec)

/-- ITS FALSE NEIGHBOUR: 'it returns false'. Refute it at one input. -/
def lmsRootsWrong : ChangeSpec := { name := "lmsRoots", fn := fun _ => fun
  | [d1, d2, d3, d4, d5, d6, d7, d8, d9] => { results := [.lit (.bool false)], args := [d1, d2, d3, d4, d5, d6, d7, d8, d9] }
  | _ => none }
def LmsRootsWrongFalsely : Prop := lmsRootsRow.holds Tryd.pinned (OpenSpec.ofChange lmsRootsWrong)

/-- 'curtilagelaw06.LmsPaths': WHATEVER THE INPUT: true; the input reads as it did. -/
def lmsPathsSpec : ChangeSpec := { name := "lmsPaths", fn := fun _ => fun
  | [d1, d2, d3] => { results := [.lit (.bool true)], args := [d1, d2, d3] }
  | _ => none }
def lmsPathsRow : OpenClaim := { program := "ytmhagenbelpnfaadoor", sum := "1c478b05281101452992a4b0e9b11128d59ef150673b5d8fb3208853bea625a7", func := "curtilage/curtilagelaw06.LmsPaths", spec := "lmsPaths", unfollowed := true, recurses := true, named := ["curtilage/ots.types", "curtilage/sha.first", "curtilage/sha.rounds"], plainKeys := false, apart := false, laid := [("curtilage/sha.first", laid_curtilage_sha_first), ("curtilage/sha.rounds", laid_curtilage_sha_rounds), ("curtilage/ots.types", laid_curtilage_ots_types)] }
def LmsPathsSaid : Prop := lmsPathsRow.holds Tryd.pinned (OpenSpec.ofChange lmsPathsSpec)

/-- ITS FALSE NEIGHBOUR: 'it returns false'. Refute it at one input. -/
def lmsPathsWrong : ChangeSpec := { name := "lmsPaths", fn := fun _ => fun
  | [d1, d2, d3] => { results := [.lit (.bool false)], args := [d1, d2, d3] }
  | _ => none }
def LmsPathsWrongFalsely : Prop := lmsPathsRow.holds Tryd.pinned (OpenSpec.ofChange lmsPathsWrong)

/-- 'curtilagelaw06.LmsSame': WHATEVER THE INPUT: true; the input reads as it did. -/
def lmsSameSpec : ChangeSpec := { name := "lmsSame", fn := fun _ => fun
  | [d1, d2, d3, d4, d5] => { results := [.lit (.bool true)], args := [d1, d2, d3, d4, d5] }
  | _ => none }
def lmsSameRow : OpenClaim := { program := "ytmhagenbelpnfaadoor", sum := "1c478b05281101452992a4b0e9b11128d59ef150673b5d8fb3208853bea625a7", func := "curtilage/curtilagelaw06.LmsSame", spec := "lmsSame", unfollowed := true, recurses := true, named := ["curtilage/ots.types", "curtilage/sha.first", "curtilage/sha.rounds"], plainKeys := false, apart := false, laid := [("curtilage/sha.first", laid_curtilage_sha_first), ("curtilage/sha.rounds", laid_curtilage_sha_rounds), ("curtilage/ots.types", laid_curtilage_ots_types)] }
def LmsSameSaid : Prop := lmsSameRow.holds Tryd.pinned (OpenSpec.ofChange lmsSameSpec)

/-- ITS FALSE NEIGHBOUR: 'it returns false'. Refute it at one input. -/
def lmsSameWrong : ChangeSpec := { name := "lmsSame", fn := fun _ => fun
  | [d1, d2, d3, d4, d5] => { results := [.lit (.bool false)], args := [d1, d2, d3, d4, d5] }
  | _ => none }
def LmsSameWrongFalsely : Prop := lmsSameRow.holds Tryd.pinned (OpenSpec.ofChange lmsSameWrong)

/-- 'curtilagelaw06.LmsKnows': WHATEVER THE INPUT: true; the input reads as it did. -/
def lmsKnowsSpec : ChangeSpec := { name := "lmsKnows", fn := fun _ => fun
  | [d1, d2, d3, d4, d5] => { results := [.lit (.bool true)], args := [d1, d2, d3, d4, d5] }
  | _ => none }
def lmsKnowsRow : OpenClaim := { program := "ytmhagenbelpnfaadoor", sum := "1c478b05281101452992a4b0e9b11128d59ef150673b5d8fb3208853bea625a7", func := "curtilage/curtilagelaw06.LmsKnows", spec := "lmsKnows", unfollowed := true, recurses := true, named := ["curtilage/ots.types", "curtilage/sha.first", "curtilage/sha.rounds"], plainKeys := false, apart := false, laid := [("curtilage/sha.first", laid_curtilage_sha_first), ("curtilage/sha.rounds", laid_curtilage_sha_rounds), ("curtilage/ots.types", laid_curtilage_ots_types)] }
def LmsKnowsSaid : Prop := lmsKnowsRow.holds Tryd.pinned (OpenSpec.ofChange lmsKnowsSpec)

/-- ITS FALSE NEIGHBOUR: 'it returns false'. Refute it at one input. -/
def lmsKnowsWrong : ChangeSpec := { name := "lmsKnows", fn := fun _ => fun
  | [d1, d2, d3, d4, d5] => { results := [.lit (.bool false)], args := [d1, d2, d3, d4, d5] }
  | _ => none }
def LmsKnowsWrongFalsely : Prop := lmsKnowsRow.holds Tryd.pinned (OpenSpec.ofChange lmsKnowsWrong)

/-- 'curtilagelaw06.LmsForces': WHATEVER THE INPUT: true; the input reads as it did. -/
def lmsForcesSpec : ChangeSpec := { name := "lmsForces", fn := fun _ => fun
  | [d1, d2, d3, d4, d5, d6, d7] => { results := [.lit (.bool true)], args := [d1, d2, d3, d4, d5, d6, d7] }
  | _ => none }
def lmsForcesRow : OpenClaim := { program := "ytmhagenbelpnfaadoor", sum := "1c478b05281101452992a4b0e9b11128d59ef150673b5d8fb3208853bea625a7", func := "curtilage/curtilagelaw06.LmsForces", spec := "lmsForces", unfollowed := true, recurses := true, named := ["curtilage/ots.types", "curtilage/sha.first", "curtilage/sha.rounds"], plainKeys := false, apart := false, laid := [("curtilage/sha.first", laid_curtilage_sha_first), ("curtilage/sha.rounds", laid_curtilage_sha_rounds), ("curtilage/ots.types", laid_curtilage_ots_types)] }
def LmsForcesSaid : Prop := lmsForcesRow.holds Tryd.pinned (OpenSpec.ofChange lmsForcesSpec)

/-- ITS FALSE NEIGHBOUR: 'it returns false'. Refute it at one input. -/
def lmsForcesWrong : ChangeSpec := { name := "lmsForces", fn := fun _ => fun
  | [d1, d2, d3, d4, d5, d6, d7] => { results := [.lit (.bool false)], args := [d1, d2, d3, d4, d5, d6, d7] }
  | _ => none }
def LmsForcesWrongFalsely : Prop := lmsForcesRow.holds Tryd.pinned (OpenSpec.ofChange lmsForcesWrong)

/- THE SECOND FORM. 'bulk': how many values and letters a reading holds, each counted each time it is reached (what is shared counts as often as it is met; a slice's spare places count too). A statement '..UptoSaid' is the law's where the arguments, and the package variables that the reading takes, are together of bulk at most 1048576: NARROWER than '..Said'. Prove '..Said' where nothing that the law and all that it calls make is longer than what came in: it says more and counts as full. Else prove '..UptoSaid'. A law counts once. -/
mutual
def uptoBulk {H : Type} : DataW H → Nat
  | .lit (.string bytes) => bytes.length + 1
  | .lit _ => 1
  | .nil => 1
  | .ptr d => uptoBulk d + 1
  | .slice elems spare => uptoBulkAll elems + uptoBulkAll spare + 1
  | .agg parts => uptoBulkAll parts + 1
  | .iface _ d => uptoBulk d + 1
  | .map entries => uptoBulkEntries entries + 1
  | .held _ => 1
def uptoBulkAll {H : Type} : List (DataW H) → Nat
  | [] => 0
  | d :: r => uptoBulk d + uptoBulkAll r
def uptoBulkEntries {H : Type} : List (Lit × DataW H) → Nat
  | [] => 0
  | x :: r => uptoBulkEntry x + uptoBulkEntries r
def uptoBulkEntry {H : Type} : Lit × DataW H → Nat
  | (.string bytes, d) => bytes.length + uptoBulk d + 1
  | (_, d) => uptoBulk d + 1
 end
def uptoSmall : (H : Type) → List (DataW H) → Bool := fun _ ds => decide (uptoBulkAll ds ≤ 1048576)
def OpenSpec.upto (s : _root_.Go.ChangeSpec) : _root_.Go.OpenSpec := { _root_.Go.OpenSpec.ofChange s with cond := some uptoSmall }

/-- 'curtilagelaw06.LmsParts', WHERE WHAT IT READS IS OF BULK AT MOST 1048576: true; the input reads as it did. -/
def lmsPartsUptoRow : OpenClaim := { program := "ytmhagenbelpnfaadoor", sum := "1c478b05281101452992a4b0e9b11128d59ef150673b5d8fb3208853bea625a7", func := "curtilage/curtilagelaw06.LmsParts", spec := "lmsParts", unfollowed := true, recurses := true, named := ["curtilage/ots.types", "curtilage/sha.first", "curtilage/sha.rounds"], plainKeys := false, apart := false, laid := [("curtilage/sha.first", laid_curtilage_sha_first), ("curtilage/sha.rounds", laid_curtilage_sha_rounds), ("curtilage/ots.types", laid_curtilage_ots_types)], narrowed := true }
def LmsPartsUptoSaid : Prop := lmsPartsUptoRow.holds Tryd.pinned (OpenSpec.upto lmsPartsSpec)

/-- 'curtilagelaw06.LmsRoots', WHERE WHAT IT READS IS OF BULK AT MOST 1048576: true; the input reads as it did. -/
def lmsRootsUptoRow : OpenClaim := { program := "ytmhagenbelpnfaadoor", sum := "1c478b05281101452992a4b0e9b11128d59ef150673b5d8fb3208853bea625a7", func := "curtilage/curtilagelaw06.LmsRoots", spec := "lmsRoots", unfollowed := true, recurses := true, named := ["curtilage/ots.types", "curtilage/sha.first", "curtilage/sha.rounds"], plainKeys := false, apart := false, laid := [("curtilage/sha.first", laid_curtilage_sha_first), ("curtilage/sha.rounds", laid_curtilage_sha_rounds), ("curtilage/ots.types", laid_curtilage_ots_types)], narrowed := true }
def LmsRootsUptoSaid : Prop := lmsRootsUptoRow.holds Tryd.pinned (OpenSpec.upto lmsRootsSpec)

/-- 'curtilagelaw06.LmsPaths', WHERE WHAT IT READS IS OF BULK AT MOST 1048576: true; the input reads as it did. -/
def lmsPathsUptoRow : OpenClaim := { program := "ytmhagenbelpnfaadoor", sum := "1c478b05281101452992a4b0e9b11128d59ef150673b5d8fb3208853bea625a7", func := "curtilage/curtilagelaw06.LmsPaths", spec := "lmsPaths", unfollowed := true, recurses := true, named := ["curtilage/ots.types", "curtilage/sha.first", "curtilage/sha.rounds"], plainKeys := false, apart := false, laid := [("curtilage/sha.first", laid_curtilage_sha_first), ("curtilage/sha.rounds", laid_curtilage_sha_rounds), ("curtilage/ots.types", laid_curtilage_ots_types)], narrowed := true }
def LmsPathsUptoSaid : Prop := lmsPathsUptoRow.holds Tryd.pinned (OpenSpec.upto lmsPathsSpec)

/-- 'curtilagelaw06.LmsSame', WHERE WHAT IT READS IS OF BULK AT MOST 1048576: true; the input reads as it did. -/
def lmsSameUptoRow : OpenClaim := { program := "ytmhagenbelpnfaadoor", sum := "1c478b05281101452992a4b0e9b11128d59ef150673b5d8fb3208853bea625a7", func := "curtilage/curtilagelaw06.LmsSame", spec := "lmsSame", unfollowed := true, recurses := true, named := ["curtilage/ots.types", "curtilage/sha.first", "curtilage/sha.rounds"], plainKeys := false, apart := false, laid := [("curtilage/sha.first", laid_curtilage_sha_first), ("curtilage/sha.rounds", laid_curtilage_sha_rounds), ("curtilage/ots.types", laid_curtilage_ots_types)], narrowed := true }
def LmsSameUptoSaid : Prop := lmsSameUptoRow.holds Tryd.pinned (OpenSpec.upto lmsSameSpec)

/-- 'curtilagelaw06.LmsKnows', WHERE WHAT IT READS IS OF BULK AT MOST 1048576: true; the input reads as it did. -/
def lmsKnowsUptoRow : OpenClaim := { program := "ytmhagenbelpnfaadoor", sum := "1c478b05281101452992a4b0e9b11128d59ef150673b5d8fb3208853bea625a7", func := "curtilage/curtilagelaw06.LmsKnows", spec := "lmsKnows", unfollowed := true, recurses := true, named := ["curtilage/ots.types", "curtilage/sha.first", "curtilage/sha.rounds"], plainKeys := false, apart := false, laid := [("curtilage/sha.first", laid_curtilage_sha_first), ("curtilage/sha.rounds", laid_curtilage_sha_rounds), ("curtilage/ots.types", laid_curtilage_ots_types)], narrowed := true }
def LmsKnowsUptoSaid : Prop := lmsKnowsUptoRow.holds Tryd.pinned (OpenSpec.upto lmsKnowsSpec)

/-- 'curtilagelaw06.LmsForces', WHERE WHAT IT READS IS OF BULK AT MOST 1048576: true; the input reads as it did. -/
def lmsForcesUptoRow : OpenClaim := { program := "ytmhagenbelpnfaadoor", sum := "1c478b05281101452992a4b0e9b11128d59ef150673b5d8fb3208853bea625a7", func := "curtilage/curtilagelaw06.LmsForces", spec := "lmsForces", unfollowed := true, recurses := true, named := ["curtilage/ots.types", "curtilage/sha.first", "curtilage/sha.rounds"], plainKeys := false, apart := false, laid := [("curtilage/sha.first", laid_curtilage_sha_first), ("curtilage/sha.rounds", laid_curtilage_sha_rounds), ("curtilage/ots.types", laid_curtilage_ots_types)], narrowed := true }
def LmsForcesUptoSaid : Prop := lmsForcesUptoRow.holds Tryd.pinned (OpenSpec.upto lmsForcesSpec)

end Rows
end Go.Proofs.YtmhagenbelpnfaaDoor
