/- 'FlashTears' returns true for every input: a proof of the given statement; no condition. -/
import Derived.Test.YtgfhkmpmdfdemaaAm29
import Derived.Test.YtgfhkmpmdfdemaaFlC
namespace Go.Proofs.Ytgfhkmpmdfdemaa.tears
open Go.Am Go.Am.Job Go.Am.F
open Go.ChangeShapes Go.WideShapes Go.ChangeAt Go.RowKit
set_option linter.unusedVariables false
set_option linter.unusedSimpArgs false
def K : TKs := .cons (.slice (.int .u8)) (.cons (.slice (.int .u8)) (.cons (.int .u8) (.cons (.slice (.slice (.int .u8))) (.cons .bool .nil))))
theorem own : ownKnob Try.prog.godebug = none := by kernel_rfl
theorem laid : laidOutB Try.prog = true := by kernel_rfl
theorem law (dd : List D) (h : DNs K dd) : afun C 5 r_law12_FlashTears a_law12_FlashTears dd [] (fun d _ => d = .raw (.bool true)) := by
  rcases dd with _ | ⟨d0, _ | ⟨d1, _ | ⟨d2, _ | ⟨d3, _ | ⟨d4, _ | ⟨d5, l⟩⟩⟩⟩⟩⟩
  · exact h.elim
  · exact h.2.elim
  · exact h.2.2.elim
  · exact h.2.2.2.elim
  · exact h.2.2.2.2.elim
  · obtain ⟨h1, h2, h3, h4, h5, -⟩ := h
    obtain ⟨p, rfl, hp, -⟩ := dn_bs h1
    obtain ⟨q, rfl, hq, -⟩ := dn_bs h2
    obtain ⟨ms, rfl, hml, hms⟩ := h4
    unfold DN DK at h3 h5
    obtain ⟨a, rfl⟩ := h3
    obtain ⟨e, rfl⟩ := h5
    exact tears_law C flC rfl rfl rfl rfl p q a ms e hp hq hml (fun d hd => by obtain ⟨b, h1, -, h2⟩ := dk_bs (hms d hd); exact ⟨b, h1, h2⟩)
  · exact h.2.2.2.2.2.elim
set_option maxRecDepth 100000 in
theorem lifted (os : Os) (started : os.Started) (H : Type) (enc : TypeId × Value → H) :
    ReturnsInHanded {} Try.checked os 5 .any (Rows.flashTearsSpec.pre6 enc Try.prog Try.f5 Rows.flashTearsRow.domain false) (Rows.flashTearsSpec.post enc Try.prog Try.f5 false true false false) := by
  refine returnsInHanded_of_change (C := Try.checked) own started (by kernel_rfl) Try.func5
    (ChangeSpec.witness6 (enc := enc) (C := Try.checked) false ⟨#[], #[.slice none 0 0, .slice none 0 0, .int .u8 0, .slice none 0 0, .bool false], []⟩ 8 (by kernel_rfl) (by kernel_rfl) (by kernel_rfl) (by kernel_rfl)) ?_
  intro W base args ds gs before hval hW hcnd _
  exact row_law (m_law12_FlashTears C ctx) laid (n := 9) (ks := K) (tb := Try.f5.resultTypes.getD 0 0) (by kernel_rfl) (by kernel_rfl) rfl (by kernel_rfl) (by kernel_rfl) (fun ds h => by match ds, h with | [_, _, _, _, _], _ => rfl) (fun dd h _ => law dd h) hval hW (fun _ _ h => by cases h)
theorem over : Rows.flashTearsRow.holds Try.pinned (OpenSpec.ofChange Rows.flashTearsSpec) :=
  OpenClaim.holds_of_wide 5 Try.f5 rfl rfl rfl rfl rfl rfl rfl ⟨rfl, rfl, rfl, rfl, rfl⟩ rfl rfl rfl rfl rfl (by kernel_rfl) Try.func5 (by kernel_rfl)
    (of_decide_eq_true (by kernel_rfl)) (by unfold Func.isWrapper; first | (rw [if_pos (by decide +kernel)]; kernel_rfl) | (rw [if_neg (by decide +kernel)]; exact ⟨rfl, rfl⟩))
    (fun os started H enc _ => lifted os started H enc)
theorem proved : Rows.FlashTearsSaid := over
#print axioms proved
end Go.Proofs.Ytgfhkmpmdfdemaa.tears
