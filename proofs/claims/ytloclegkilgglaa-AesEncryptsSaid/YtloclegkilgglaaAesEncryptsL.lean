/- 'AesEncrypts' returns true for every input: a proof of the given statement; no condition. -/
import Derived.Test.YtloclegkilgglaaAm29
import Derived.Test.YtloclegkilgglaaAesCE
namespace Go.Proofs.Ytloclegkilgglaa.encrypts
open Go.Am Go.Am.Job Go.Am.F
open Go.ChangeShapes Go.WideShapes Go.ChangeAt Go.RowKit
set_option linter.unusedVariables false
set_option linter.unusedSimpArgs false
def K : TKs := .cons (.arr 32 (.int .u8)) (.cons .bool (.cons (.arr 16 (.int .u8)) .nil))
theorem own : ownKnob Try.prog.godebug = none := by kernel_rfl
theorem laid : laidOutB Try.prog = true := by kernel_rfl
theorem law (dd : List D) (h : DNs K dd) : afun Ce 3 r_law03_AesEncrypts a_law03_AesEncrypts dd [] (fun d _ => d = .raw (.bool true)) := by
  rcases dd with _ | ⟨d0, _ | ⟨d1, _ | ⟨d2, _ | ⟨d3, l⟩⟩⟩⟩
  · exact h.elim
  · exact h.2.elim
  · exact h.2.2.elim
  · obtain ⟨h1, h2, h3, -⟩ := h
    obtain ⟨p, rfl, hp⟩ := dk_arr8 h1
    obtain ⟨b, rfl, hb⟩ := dk_arr8 h3
    unfold DN DK at h2
    obtain ⟨l, rfl⟩ := h2
    exact encrypts_law Ce CW aesCe rfl rfl rfl rfl rfl rfl rfl rfl rfl rfl p l b hp hb
  · exact h.2.2.2.elim
set_option maxRecDepth 100000 in
theorem lifted (os : Os) (started : os.Started) (H : Type) (enc : TypeId × Value → H) :
    ReturnsInHanded {} Try.checked os 5 .any (Rows.aesEncryptsSpec.pre6 enc Try.prog Try.f5 Rows.aesEncryptsRow.domain false) (Rows.aesEncryptsSpec.post enc Try.prog Try.f5 false true false false) := by
  refine returnsInHanded_of_change (C := Try.checked) own started (by kernel_rfl) Try.func5
    (ChangeSpec.witness6 (enc := enc) (C := Try.checked) false ⟨#[], #[.agg (Array.replicate 32 (Value.int .u8 0)), .bool false, .agg (Array.replicate 16 (Value.int .u8 0))], []⟩ 8 (by kernel_rfl) (by kernel_rfl) (by kernel_rfl) (by kernel_rfl)) ?_
  intro W base args ds gs before hval hW hcnd _
  exact row_law (m_law03_AesEncrypts Ce ctxe) laid (n := 9) (ks := K) (tb := Try.f5.resultTypes.getD 0 0) (by kernel_rfl) (by kernel_rfl) rfl (by kernel_rfl) (by kernel_rfl) (fun ds h => by match ds, h with | [_, _, _], _ => rfl) (fun dd h _ => law dd h) hval hW (fun _ _ h => by cases h)
theorem over : Rows.aesEncryptsRow.holds Try.pinned (OpenSpec.ofChange Rows.aesEncryptsSpec) :=
  OpenClaim.holds_of_wide 5 Try.f5 rfl rfl rfl rfl rfl rfl rfl ⟨rfl, rfl, rfl, rfl, rfl⟩ rfl rfl rfl rfl rfl (by kernel_rfl) Try.func5 (by kernel_rfl)
    (of_decide_eq_true (by kernel_rfl)) (by unfold Func.isWrapper; first | (rw [if_pos (by decide +kernel)]; kernel_rfl) | (rw [if_neg (by decide +kernel)]; exact ⟨rfl, rfl⟩))
    (fun os started H enc _ => lifted os started H enc)
theorem proved : Rows.AesEncryptsSaid := over
#print axioms proved
end Go.Proofs.Ytloclegkilgglaa.encrypts
