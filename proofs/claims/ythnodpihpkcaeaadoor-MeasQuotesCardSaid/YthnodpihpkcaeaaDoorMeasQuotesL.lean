/- 'MeasQuotes' returns true for every input: a proof of the given card; its condition: the listed package variables hold what the program's text lays (tied by the card). -/
import Derived.Test.YthnodpihpkcaeaaDoorAm31
import Derived.Test.YthnodpihpkcaeaaDoorMsC
import Derived.Test.YthnodpihpkcaeaaDoorCards
import Derived.Test.YthnodpihpkcaeaaDoorTie
import Derived.WalkKit
import Derived.ProofKit
import Derived.OpenShut
import Derived.Deep.DeepHandedRow
namespace Go.Proofs.YthnodpihpkcaeaaDoor.quotes
open Go.Am Go.Am.Job Go.Am.F
open Go.ChangeShapes Go.WideShapes Go.ChangeAt Go.RowKit
set_option linter.unusedVariables false
set_option linter.unusedSimpArgs false
def K : TKs := .cons (.arr 32 (.int .u8)) (.cons (.slice (.struct (.cons (.int .i64) (.cons (.slice (.int .u8)) .nil)))) (.cons (.slice (.int .u8)) (.cons (.slice (.int .u8)) (.cons (.int .u8) (.cons (.int .u8) .nil)))))
theorem own : ownKnob Tryd.prog.godebug = none := by kernel_rfl
theorem laid : laidOutB Tryd.prog = true := by kernel_rfl
theorem law (dd : List D) (h : DNs K dd) : afun C 6 r_law16_MeasQuotes a_law16_MeasQuotes dd [] (fun d _ => d = .raw (.bool true)) := by
  rcases dd with _ | ⟨d0, _ | ⟨d1, _ | ⟨d2, _ | ⟨d3, _ | ⟨d4, _ | ⟨d5, _ | ⟨d6, l⟩⟩⟩⟩⟩⟩⟩
  · exact h.elim
  · exact h.2.elim
  · exact h.2.2.elim
  · exact h.2.2.2.elim
  · exact h.2.2.2.2.elim
  · exact h.2.2.2.2.2.elim
  · obtain ⟨h1, h2, h3, h4, h5, h6, -⟩ := h
    obtain ⟨key, rfl, hk⟩ := dk_arr8 h1
    obtain ⟨acts, rfl, hal, hacts⟩ := h2
    obtain ⟨n0, rfl, hn, -⟩ := dn_bs h3
    obtain ⟨o0, rfl, ho, -⟩ := dn_bs h4
    unfold DN DK at h5 h6
    obtain ⟨a, rfl⟩ := h5
    obtain ⟨t, rfl⟩ := h6
    exact quotes_law C C1 C2 C3 C4 Cp ql key hk acts hal (fun d hd => act_of (hacts d hd)) n0 o0 hn ho a t
  · exact h.2.2.2.2.2.2.elim
theorem globs {W : World} (hL : laidMetH Tryd.prog Rows.measQuotesRow.laid W) (g : Nat) (d : D) (h : C.glob g = some d) : LR noPl W (old W) (.cptr d) (.pointer (some ⟨g, 0, none⟩)) := by
  have hL' : laidMet Tryd.prog Rows.measQuotesRow.laid W := hL
  by_cases h0 : g = 0
  · subst h0
    have e : numsD .u32 firstZ = d := Option.some.inj ((C_first : C.glob 0 = some (numsD .u32 firstZ)).symm.trans h)
    subst e
    exact laid_glob (P := Tryd.prog) (t := (Tryd.prog.globals[0]?.map (·.type)).getD 0) (e := match Tryd.prog.underlying ((Tryd.prog.globals[0]?.map (·.type)).getD 0) with | some (.array _ e) => e | _ => 0) (n := firstZ.length) (name := (Rows.measQuotesRow.laid.getD 0 ("", .nil)).1) hL' (List.mem_of_getElem? (i := 0) rfl) (by kernel_rfl) (by kernel_rfl) (by kernel_rfl) (by kernel_rfl) (by kernel_rfl) (by kernel_rfl) (by decide)
  by_cases h1 : g = 1
  · subst h1
    have e : numsD .u32 roundsZ = d := Option.some.inj ((C_rounds : C.glob 1 = some (numsD .u32 roundsZ)).symm.trans h)
    subst e
    exact laid_glob (P := Tryd.prog) (t := (Tryd.prog.globals[1]?.map (·.type)).getD 0) (e := match Tryd.prog.underlying ((Tryd.prog.globals[1]?.map (·.type)).getD 0) with | some (.array _ e) => e | _ => 0) (n := roundsZ.length) (name := (Rows.measQuotesRow.laid.getD 1 ("", .nil)).1) hL' (List.mem_of_getElem? (i := 1) rfl) (by kernel_rfl) (by kernel_rfl) (by kernel_rfl) (by kernel_rfl) (by kernel_rfl) (by kernel_rfl) (by decide)
  · exact absurd h (by rw [C_glob_none g h0 h1]; exact nofun)
def lay0 : Obj → Obj
  | .cells _ t frozen => .cells (firstZ.map fun z => Value.int .u32 z).toArray t frozen
  | o => o
def lay1 : Obj → Obj
  | .cells _ t frozen => .cells (roundsZ.map fun z => Value.int .u32 z).toArray t frozen
  | o => o
/-- a world for the witness: the variables hold what is laid -/
noncomputable def laidWorld (os : Os) : World := { World.holding Tryd.prog os ⟨#[], #[], []⟩ with heap := (((World.holding Tryd.prog os ⟨#[], #[], []⟩).heap.modify 0 lay0).modify 1 lay1) }
theorem laid_met (os : Os) : laidMet Tryd.prog Rows.measQuotesRow.laid ((laidWorld os).forCall (fun _ _ => 0) ⟨#[], #[.agg (Array.replicate 32 (Value.int .u8 0)), .slice none 0 0, .slice none 0 0, .slice none 0 0, .int .u8 0, .int .u8 0], []⟩).memory :=
  laidMet_of_run' 8 (by kernel_rfl) (by kernel_rfl)
theorem reads (os : Os) {H : Type} (enc : TypeId × Value → H) : ∃ places, DataW.whole enc Tryd.prog ((laidWorld os).forCall (fun _ _ => 0) ⟨#[], #[.agg (Array.replicate 32 (Value.int .u8 0)), .slice none 0 0, .slice none 0 0, .slice none 0 0, .int .u8 0, .int .u8 0], []⟩).memory Tryd.f3.params.toList Rows.measQuotesSpec.vars false #[.agg (Array.replicate 32 (Value.int .u8 0)), .slice none 0 0, .slice none 0 0, .slice none 0 0, .int .u8 0, .int .u8 0].toList 8 = some ([.agg (List.replicate 32 (.lit (.int .u8 0))), .nil, .nil, .nil, .lit (.int .u8 0), .lit (.int .u8 0)], [], places) :=
  ⟨[], by kernel_rfl⟩
set_option maxRecDepth 100000 in
theorem lifted (os : Os) (started : os.Started) (H : Type) (enc : TypeId × Value → H) (F : Stop.Interp) :
    ReturnsInHanded {} Tryd.checked os 3 .any ((OpenSpec.ofChange Rows.measQuotesSpec).preRow enc Tryd.prog Tryd.f3 Rows.measQuotesRow.domain false Rows.measQuotesRow.laid) (((OpenSpec.ofChange Rows.measQuotesSpec).at F).post enc Tryd.prog Tryd.f3 false true false false) := by
  obtain ⟨places, hx⟩ := reads os enc
  refine returnsInHanded_of_row (C := Tryd.checked) (s := (OpenSpec.ofChange Rows.measQuotesSpec)) own started (by kernel_rfl) Tryd.func3
    (witness_row_at (enc := enc) (C := Tryd.checked) false (laidWorld os) #[.agg (Array.replicate 32 (Value.int .u8 0)), .slice none 0 0, .slice none 0 0, .slice none 0 0, .int .u8 0, .int .u8 0] rfl (by kernel_rfl) (by kernel_rfl) (by kernel_rfl)
      (OpenSpec.preRow_of_cond 8 hx (by kernel_rfl) (fun k hk => by cases hk) (by kernel_rfl) (laid_met os))) ?_
  intro W base args ds gs before hval hW _ _ _ hL _ _
  exact row_law (m_law16_MeasQuotes C ctx) laid (n := 9) (ks := K) (tb := Tryd.f3.resultTypes.getD 0 0) (by kernel_rfl) (by kernel_rfl) rfl (by kernel_rfl) (by kernel_rfl) (fun ds h => by match ds, h with | [_, _, _, _, _, _], _ => rfl) (fun dd h _ => law dd h) hval hW (fun g d h => globs hL g d h)
theorem over : Rows.MeasQuotesSaid :=
  OpenClaim.holds_of_cond 3 Tryd.f3 rfl rfl rfl rfl rfl rfl rfl ⟨rfl, rfl, rfl, rfl, rfl⟩ rfl rfl rfl rfl rfl (by kernel_rfl) Tryd.func3 (by kernel_rfl)
    (of_decide_eq_true (by kernel_rfl)) (by unfold Func.isWrapper; first | (rw [if_pos (by decide +kernel)]; kernel_rfl) | (rw [if_neg (by decide +kernel)]; exact ⟨rfl, rfl⟩))
    (fun os started H enc _ F => by rw [OpenClaim.pre_eq_preRow]; exact lifted os started H enc F)
theorem plain (f : FuncId) (fn : Func) (hf : Tryd.pinned.checked.prog.funcNamed Rows.measQuotesRow.func = some f) (hfn : Tryd.pinned.checked.prog.funcs[f]? = some fn) :
    false = Tryd.pinned.checked.prog.looks [] ∧ ∀ (j : Nat) t, fn.params[j]? = some t → Tryd.pinned.checked.prog.wantsStandIn t = false := by
  obtain rfl : f = 3 := (Option.some.inj ((show Tryd.prog.funcNamed Rows.measQuotesRow.func = some 3 by kernel_rfl).symm.trans hf)).symm
  obtain rfl : fn = Tryd.f3 := (Option.some.inj (Tryd.func3.symm.trans hfn)).symm
  refine ⟨by kernel_rfl, fun j t ht => ?_⟩
  have hall : (Tryd.f3.params.toList.all fun t => !Tryd.prog.wantsStandIn t) = true := by kernel_rfl
  have := List.all_eq_true.1 hall t (by simpa using Array.mem_of_getElem? ht)
  exact (by simpa using this : Tryd.prog.wantsStandIn t = false)
theorem proved : Rows.MeasQuotesCardSaid :=
  Claim7.holds_tied_plain_at .later [] _ _ _ _ over (fun _ h => by cases h) (by kernel_rfl) (fun _ h => by cases h) measQuotes_row_tie rfl ⟨rfl, rfl⟩ (by kernel_rfl) rfl plain (by kernel_rfl)
#print axioms proved
end Go.Proofs.YthnodpihpkcaeaaDoor.quotes
