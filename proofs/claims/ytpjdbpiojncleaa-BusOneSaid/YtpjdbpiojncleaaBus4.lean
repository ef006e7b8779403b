/- all functions together -/
import Derived.Test.YtpjdbpiojncleaaBus3
import Derived.Test.YtpjdbpiojncleaaAm29
namespace Go.Am
namespace Job
set_option linter.unusedVariables false
set_option linter.unusedSimpArgs false
def G0 : Nat → Option D := fun _ => none
noncomputable def C : Ctx := ⟨G0, fnTab [(4, fAwake), (6, fAsk), (10, fTick), (9, fDrop), (8, fAsked), (7, fServes), (5, fNew), (12, fNext), (11, fThere)], fun _ => none⟩
theorem ctx : CtxOK C P :=
  have c0 := ctx_nil (G := G0) (P := P)
  have c1 := ctx_cons (there_ok _ c0) c0
  have c2 := ctx_cons (next_ok _ c1) c1
  have c3 := ctx_cons (new_ok _ c2) c2
  have c4 := ctx_cons (serves_ok _ c3) c3
  have c5 := ctx_cons (asked_ok _ c4) c4
  have c6 := ctx_cons (drop_ok _ c5 rfl) c5
  have c7 := ctx_cons (tick_ok _ c6 rfl) c6
  have c8 := ctx_cons (ask_ok _ c7 rfl rfl) c7
  ctx_cons (awake_ok _ c8 rfl rfl rfl) c8
end Job
end Go.Am
