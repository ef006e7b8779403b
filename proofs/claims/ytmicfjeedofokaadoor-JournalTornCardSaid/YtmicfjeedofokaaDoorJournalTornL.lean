/- 'JournalTorn' returns true for every input: a proof of the given card; its condition: the listed package variables hold what the program's text lays (tied by the card). -/
import Derived.Test.YtmicfjeedofokaaDoorAm31
import Derived.Test.YtmicfjeedofokaaDoorJnC
import Derived.Test.YtmicfjeedofokaaDoorJn11
import Derived.Test.YtmicfjeedofokaaDoorCards
import Derived.Test.YtmicfjeedofokaaDoorTie
import Derived.WalkKit
import Derived.ProofKit
import Derived.OpenShut
import Derived.Deep.DeepHandedRow
namespace Go.Proofs.YtmicfjeedofokaaDoor.torn
open Go.Am Go.Am.Job Go.Am.F
open Go.ChangeShapes Go.WideShapes Go.ChangeAt Go.RowKit
set_option linter.unusedVariables false
set_option linter.unusedSimpArgs false
def K : TKs := .cons (.struct (.cons (.int .u32) (.cons (.int .i64) (.cons (.int .i64) (.cons (.int .i64) .nil))))) (.cons (.struct (.cons (.int .u32) (.cons (.int .i64) (.cons (.int .i64) (.cons (.int .i64) .nil))))) (.cons (.struct (.cons (.int .u32) (.cons (.int .i64) (.cons (.int .i64) (.cons (.int .i64) .nil))))) (.cons (.slice (.slice (.int .u8))) (.cons (.slice .bool) .nil))))
theorem own : ownKnob Tryd.prog.godebug = none := by kernel_rfl
theorem laid : laidOutB Tryd.prog = true := by kernel_rfl
theorem law (dd : List D) (h : DNs K dd) : afun CL 5 r_law22_JournalTorn a_law22_JournalTorn dd [] (fun d _ => d = .raw (.bool true)) := by
  rcases dd with _ | ⟨d0, _ | ⟨d1, _ | ⟨d2, _ | ⟨d3, _ | ⟨d4, _ | ⟨d5, l⟩⟩⟩⟩⟩⟩
  · exact h.elim
  · exact h.2.elim
  · exact h.2.2.elim
  · exact h.2.2.2.elim
  · exact h.2.2.2.2.elim
  · obtain ⟨h1, h2, h3, h4, h5, -⟩ := h
    obtain ⟨a, rfl⟩ := dk_js _ h1
    obtain ⟨b, rfl⟩ := dk_js _ h2
    obtain ⟨s, rfl⟩ := dk_js _ h3
    obtain ⟨ms, rfl, hml, hms⟩ := h4
    obtain ⟨ws, rfl, hwl, hws⟩ := h5
    unfold maxLen at hml hwl
    exact torn_law CJ0 CJ1 CL jrL rfl a b s ms ws (by omega) (fun d hd => by obtain ⟨b, h1, -, h2⟩ := dk_bs (hms d hd); unfold maxLen at h2; exact ⟨b, h1, by omega⟩) (by omega) (fun d hd => by have h := hws d hd; unfold DK at h; exact h)
  · exact h.2.2.2.2.2.elim
theorem globs {W : World} (hL : laidMetH Tryd.prog Rows.journalTornRow.laid W) (g : Nat) (d : D) (h : CL.glob g = some d) : LR noPl W (old W) (.cptr d) (.pointer (some ⟨g, 0, none⟩)) := by
  have hL' : laidMet Tryd.prog Rows.journalTornRow.laid W := hL
  by_cases h0 : g = 0
  · subst h0
    have e : numsD .u32 firstZ = d := Option.some.inj ((CL_first : CL.glob 0 = some (numsD .u32 firstZ)).symm.trans h)
    subst e
    exact laid_glob (P := Tryd.prog) (t := (Tryd.prog.globals[0]?.map (·.type)).getD 0) (e := match Tryd.prog.underlying ((Tryd.prog.globals[0]?.map (·.type)).getD 0) with | some (.array _ e) => e | _ => 0) (n := firstZ.length) (name := (Rows.journalTornRow.laid.getD 0 ("", .nil)).1) hL' (List.mem_of_getElem? (i := 0) rfl) (by kernel_rfl) (by kernel_rfl) (by kernel_rfl) (by kernel_rfl) (by kernel_rfl) (by kernel_rfl) (by decide)
  by_cases h1 : g = 2
  · subst h1
    have e : numsD .u32 roundsZ = d := Option.some.inj ((CL_rounds : CL.glob 2 = some (numsD .u32 roundsZ)).symm.trans h)
    subst e
    exact laid_glob (P := Tryd.prog) (t := (Tryd.prog.globals[2]?.map (·.type)).getD 0) (e := match Tryd.prog.underlying ((Tryd.prog.globals[2]?.map (·.type)).getD 0) with | some (.array _ e) => e | _ => 0) (n := roundsZ.length) (name := (Rows.journalTornRow.laid.getD 1 ("", .nil)).1) hL' (List.mem_of_getElem? (i := 1) rfl) (by kernel_rfl) (by kernel_rfl) (by kernel_rfl) (by kernel_rfl) (by kernel_rfl) (by kernel_rfl) (by decide)
  · exact absurd h (by rw [CL_glob_none g h0 h1]; exact nofun)
def lay0 : Obj → Obj
  | .cells _ t frozen => .cells (firstZ.map fun z => Value.int .u32 z).toArray t frozen
  | o => o
def lay1 : Obj → Obj
  | .cells _ t frozen => .cells (roundsZ.map fun z => Value.int .u32 z).toArray t frozen
  | o => o
/-- a world for the witness: the variables hold what is laid -/
noncomputable def laidWorld (os : Os) : World := { World.holding Tryd.prog os ⟨#[], #[], []⟩ with heap := (((World.holding Tryd.prog os ⟨#[], #[], []⟩).heap.modify 0 lay0).modify 2 lay1) }
theorem laid_met (os : Os) : laidMet Tryd.prog Rows.journalTornRow.laid ((laidWorld os).forCall (fun _ _ => 0) ⟨#[], #[.agg #[.int .u32 0, .int .i64 0, .int .i64 0, .int .i64 0], .agg #[.int .u32 0, .int .i64 0, .int .i64 0, .int .i64 0], .agg #[.int .u32 0, .int .i64 0, .int .i64 0, .int .i64 0], .slice none 0 0, .slice none 0 0], []⟩).memory :=
  laidMet_of_run' 8 (by kernel_rfl) (by kernel_rfl)
theorem reads (os : Os) {H : Type} (enc : TypeId × Value → H) : ∃ places, DataW.whole enc Tryd.prog ((laidWorld os).forCall (fun _ _ => 0) ⟨#[], #[.agg #[.int .u32 0, .int .i64 0, .int .i64 0, .int .i64 0], .agg #[.int .u32 0, .int .i64 0, .int .i64 0, .int .i64 0], .agg #[.int .u32 0, .int .i64 0, .int .i64 0, .int .i64 0], .slice none 0 0, .slice none 0 0], []⟩).memory Tryd.f7.params.toList Rows.journalTornSpec.vars false #[.agg #[.int .u32 0, .int .i64 0, .int .i64 0, .int .i64 0], .agg #[.int .u32 0, .int .i64 0, .int .i64 0, .int .i64 0], .agg #[.int .u32 0, .int .i64 0, .int .i64 0, .int .i64 0], .slice none 0 0, .slice none 0 0].toList 8 = some ([.agg [.lit (.int .u32 0), .lit (.int .i64 0), .lit (.int .i64 0), .lit (.int .i64 0)], .agg [.lit (.int .u32 0), .lit (.int .i64 0), .lit (.int .i64 0), .lit (.int .i64 0)], .agg [.lit (.int .u32 0), .lit (.int .i64 0), .lit (.int .i64 0), .lit (.int .i64 0)], .nil, .nil], [], places) :=
  ⟨[], by kernel_rfl⟩
set_option maxRecDepth 100000 in
theorem lifted (os : Os) (started : os.Started) (H : Type) (enc : TypeId × Value → H) (F : Stop.Interp) :
    ReturnsInHanded {} Tryd.checked os 7 .any ((OpenSpec.ofChange Rows.journalTornSpec).preRow enc Tryd.prog Tryd.f7 Rows.journalTornRow.domain false Rows.journalTornRow.laid) (((OpenSpec.ofChange Rows.journalTornSpec).at F).post enc Tryd.prog Tryd.f7 false true false false) := by
  obtain ⟨places, hx⟩ := reads os enc
  refine returnsInHanded_of_row (C := Tryd.checked) (s := (OpenSpec.ofChange Rows.journalTornSpec)) own started (by kernel_rfl) Tryd.func7
    (witness_row_at (enc := enc) (C := Tryd.checked) false (laidWorld os) #[.agg #[.int .u32 0, .int .i64 0, .int .i64 0, .int .i64 0], .agg #[.int .u32 0, .int .i64 0, .int .i64 0, .int .i64 0], .agg #[.int .u32 0, .int .i64 0, .int .i64 0, .int .i64 0], .slice none 0 0, .slice none 0 0] rfl (by kernel_rfl) (by kernel_rfl) (by kernel_rfl)
      (OpenSpec.preRow_of_cond 8 hx (by kernel_rfl) (fun k hk => by cases hk) (by kernel_rfl) (laid_met os))) ?_
  intro W base args ds gs before hval hW _ _ _ hL _ _
  exact row_law (m_law22_JournalTorn CL ctxL) laid (n := 9) (ks := K) (tb := Tryd.f7.resultTypes.getD 0 0) (by kernel_rfl) (by kernel_rfl) rfl (by kernel_rfl) (by kernel_rfl) (fun ds h => by match ds, h with | [_, _, _, _, _], _ => rfl) (fun dd h _ => law dd h) hval hW (fun g d h => globs hL g d h)
theorem over : Rows.JournalTornSaid :=
  OpenClaim.holds_of_cond 7 Tryd.f7 rfl rfl rfl rfl rfl rfl rfl ⟨rfl, rfl, rfl, rfl, rfl⟩ rfl rfl rfl rfl rfl (by kernel_rfl) Tryd.func7 (by kernel_rfl)
    (of_decide_eq_true (by kernel_rfl)) (by unfold Func.isWrapper; first | (rw [if_pos (by decide +kernel)]; kernel_rfl) | (rw [if_neg (by decide +kernel)]; exact ⟨rfl, rfl⟩))
    (fun os started H enc _ F => by rw [OpenClaim.pre_eq_preRow]; exact lifted os started H enc F)
theorem plain (f : FuncId) (fn : Func) (hf : Tryd.pinned.checked.prog.funcNamed Rows.journalTornRow.func = some f) (hfn : Tryd.pinned.checked.prog.funcs[f]? = some fn) :
    false = Tryd.pinned.checked.prog.looks [] ∧ ∀ (j : Nat) t, fn.params[j]? = some t → Tryd.pinned.checked.prog.wantsStandIn t = false := by
  obtain rfl : f = 7 := (Option.some.inj ((show Tryd.prog.funcNamed Rows.journalTornRow.func = some 7 by kernel_rfl).symm.trans hf)).symm
  obtain rfl : fn = Tryd.f7 := (Option.some.inj (Tryd.func7.symm.trans hfn)).symm
  refine ⟨by kernel_rfl, fun j t ht => ?_⟩
  have hall : (Tryd.f7.params.toList.all fun t => !Tryd.prog.wantsStandIn t) = true := by kernel_rfl
  have := List.all_eq_true.1 hall t (by simpa using Array.mem_of_getElem? ht)
  exact (by simpa using this : Tryd.prog.wantsStandIn t = false)
theorem proved : Rows.JournalTornCardSaid :=
  Claim7.holds_tied_plain_at .later [] _ _ _ _ over (fun _ h => by cases h) (by kernel_rfl) (fun _ h => by cases h) journalTorn_row_tie rfl ⟨rfl, rfl⟩ (by kernel_rfl) rfl plain (by kernel_rfl)
#print axioms proved
end Go.Proofs.YtmicfjeedofokaaDoor.torn
