/- 'JournalGoes' returns true for every input: a proof of the given card; its condition: the listed package variables hold what the program's text lays (tied by the card). -/
import Derived.Test.YtmicfjeedofokaaDoorAm31
import Derived.Test.YtmicfjeedofokaaDoorJnC
import Derived.Test.YtmicfjeedofokaaDoorJn12
import Derived.Test.YtmicfjeedofokaaDoorCards
import Derived.Test.YtmicfjeedofokaaDoorTie
import Derived.WalkKit
import Derived.ProofKit
import Derived.OpenShut
import Derived.Deep.DeepHandedRow
namespace Go.Proofs.YtmicfjeedofokaaDoor.goes
open Go.Am Go.Am.Job Go.Am.F
open Go.ChangeShapes Go.WideShapes Go.ChangeAt Go.RowKit
set_option linter.unusedVariables false
set_option linter.unusedSimpArgs false
def K : TKs := .cons (.slice (.struct (.cons (.int .u32) (.cons (.int .i64) (.cons (.int .i64) (.cons (.int .i64) .nil)))))) .nil
theorem own : ownKnob Tryd.prog.godebug = none := by kernel_rfl
theorem laid : laidOutB Tryd.prog = true := by kernel_rfl
theorem law (dd : List D) (h : DNs K dd) : afun CL 1 r_law22_JournalGoes a_law22_JournalGoes dd [] (fun d _ => d = .raw (.bool true)) := by
  rcases dd with _ | ⟨d0, _ | ⟨d1, l⟩⟩
  · exact h.elim
  · obtain ⟨h1, -⟩ := h
    obtain ⟨ls, rfl, hll, hls⟩ := h1
    unfold maxLen at hll
    exact goes_law CJ0 CJ1 CL jrL rfl ls (by omega) (fun d hd => dk_js _ (hls d hd))
  · exact h.2.elim
theorem globs {W : World} (hL : laidMetH Tryd.prog Rows.journalGoesRow.laid W) (g : Nat) (d : D) (h : CL.glob g = some d) : LR noPl W (old W) (.cptr d) (.pointer (some ⟨g, 0, none⟩)) := by
  have hL' : laidMet Tryd.prog Rows.journalGoesRow.laid W := hL
  by_cases h0 : g = 0
  · subst h0
    have e : numsD .u32 firstZ = d := Option.some.inj ((CL_first : CL.glob 0 = some (numsD .u32 firstZ)).symm.trans h)
    subst e
    exact laid_glob (P := Tryd.prog) (t := (Tryd.prog.globals[0]?.map (·.type)).getD 0) (e := match Tryd.prog.underlying ((Tryd.prog.globals[0]?.map (·.type)).getD 0) with | some (.array _ e) => e | _ => 0) (n := firstZ.length) (name := (Rows.journalGoesRow.laid.getD 0 ("", .nil)).1) hL' (List.mem_of_getElem? (i := 0) rfl) (by kernel_rfl) (by kernel_rfl) (by kernel_rfl) (by kernel_rfl) (by kernel_rfl) (by kernel_rfl) (by decide)
  by_cases h1 : g = 2
  · subst h1
    have e : numsD .u32 roundsZ = d := Option.some.inj ((CL_rounds : CL.glob 2 = some (numsD .u32 roundsZ)).symm.trans h)
    subst e
    exact laid_glob (P := Tryd.prog) (t := (Tryd.prog.globals[2]?.map (·.type)).getD 0) (e := match Tryd.prog.underlying ((Tryd.prog.globals[2]?.map (·.type)).getD 0) with | some (.array _ e) => e | _ => 0) (n := roundsZ.length) (name := (Rows.journalGoesRow.laid.getD 1 ("", .nil)).1) hL' (List.mem_of_getElem? (i := 1) rfl) (by kernel_rfl) (by kernel_rfl) (by kernel_rfl) (by kernel_rfl) (by kernel_rfl) (by kernel_rfl) (by decide)
  · exact absurd h (by rw [CL_glob_none g h0 h1]; exact nofun)
def lay0 : Obj → Obj
  | .cells _ t frozen => .cells (firstZ.map fun z => Value.int .u32 z).toArray t frozen
  | o => o
def lay1 : Obj → Obj
  | .cells _ t frozen => .cells (roundsZ.map fun z => Value.int .u32 z).toArray t frozen
  | o => o
/-- a world for the witness: the variables hold what is laid -/
noncomputable def laidWorld (os : Os) : World := { World.holding Tryd.prog os ⟨#[], #[], []⟩ with heap := (((World.holding Tryd.prog os ⟨#[], #[], []⟩).heap.modify 0 lay0).modify 2 lay1) }
theorem laid_met (os : Os) : laidMet Tryd.prog Rows.journalGoesRow.laid ((laidWorld os).forCall (fun _ _ => 0) ⟨#[], #[.slice none 0 0], []⟩).memory :=
  laidMet_of_run' 8 (by kernel_rfl) (by kernel_rfl)
theorem reads (os : Os) {H : Type} (enc : TypeId × Value → H) : ∃ places, DataW.whole enc Tryd.prog ((laidWorld os).forCall (fun _ _ => 0) ⟨#[], #[.slice none 0 0], []⟩).memory Tryd.f4.params.toList Rows.journalGoesSpec.vars false #[.slice none 0 0].toList 8 = some ([.nil], [], places) :=
  ⟨[], by kernel_rfl⟩
set_option maxRecDepth 100000 in
theorem lifted (os : Os) (started : os.Started) (H : Type) (enc : TypeId × Value → H) (F : Stop.Interp) :
    ReturnsInHanded {} Tryd.checked os 4 .any ((OpenSpec.ofChange Rows.journalGoesSpec).preRow enc Tryd.prog Tryd.f4 Rows.journalGoesRow.domain false Rows.journalGoesRow.laid) (((OpenSpec.ofChange Rows.journalGoesSpec).at F).post enc Tryd.prog Tryd.f4 false true false false) := by
  obtain ⟨places, hx⟩ := reads os enc
  refine returnsInHanded_of_row (C := Tryd.checked) (s := (OpenSpec.ofChange Rows.journalGoesSpec)) own started (by kernel_rfl) Tryd.func4
    (witness_row_at (enc := enc) (C := Tryd.checked) false (laidWorld os) #[.slice none 0 0] rfl (by kernel_rfl) (by kernel_rfl) (by kernel_rfl)
      (OpenSpec.preRow_of_cond 8 hx (by kernel_rfl) (fun k hk => by cases hk) (by kernel_rfl) (laid_met os))) ?_
  intro W base args ds gs before hval hW _ _ _ hL _ _
  exact row_law (m_law22_JournalGoes CL ctxL) laid (n := 9) (ks := K) (tb := Tryd.f4.resultTypes.getD 0 0) (by kernel_rfl) (by kernel_rfl) rfl (by kernel_rfl) (by kernel_rfl) (fun ds h => by match ds, h with | [_], _ => rfl) (fun dd h _ => law dd h) hval hW (fun g d h => globs hL g d h)
theorem over : Rows.JournalGoesSaid :=
  OpenClaim.holds_of_cond 4 Tryd.f4 rfl rfl rfl rfl rfl rfl rfl ⟨rfl, rfl, rfl, rfl, rfl⟩ rfl rfl rfl rfl rfl (by kernel_rfl) Tryd.func4 (by kernel_rfl)
    (of_decide_eq_true (by kernel_rfl)) (by unfold Func.isWrapper; first | (rw [if_pos (by decide +kernel)]; kernel_rfl) | (rw [if_neg (by decide +kernel)]; exact ⟨rfl, rfl⟩))
    (fun os started H enc _ F => by rw [OpenClaim.pre_eq_preRow]; exact lifted os started H enc F)
theorem plain (f : FuncId) (fn : Func) (hf : Tryd.pinned.checked.prog.funcNamed Rows.journalGoesRow.func = some f) (hfn : Tryd.pinned.checked.prog.funcs[f]? = some fn) :
    false = Tryd.pinned.checked.prog.looks [] ∧ ∀ (j : Nat) t, fn.params[j]? = some t → Tryd.pinned.checked.prog.wantsStandIn t = false := by
  obtain rfl : f = 4 := (Option.some.inj ((show Tryd.prog.funcNamed Rows.journalGoesRow.func = some 4 by kernel_rfl).symm.trans hf)).symm
  obtain rfl : fn = Tryd.f4 := (Option.some.inj (Tryd.func4.symm.trans hfn)).symm
  refine ⟨by kernel_rfl, fun j t ht => ?_⟩
  have hall : (Tryd.f4.params.toList.all fun t => !Tryd.prog.wantsStandIn t) = true := by kernel_rfl
  have := List.all_eq_true.1 hall t (by simpa using Array.mem_of_getElem? ht)
  exact (by simpa using this : Tryd.prog.wantsStandIn t = false)
theorem proved : Rows.JournalGoesCardSaid :=
  Claim7.holds_tied_plain_at .later [] _ _ _ _ over (fun _ h => by cases h) (by kernel_rfl) (fun _ h => by cases h) journalGoes_row_tie rfl ⟨rfl, rfl⟩ (by kernel_rfl) rfl plain (by kernel_rfl)
#print axioms proved
end Go.Proofs.YtmicfjeedofokaaDoor.goes
