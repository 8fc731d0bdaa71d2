/- FoldTexts holds of every text: the call returns true, and the argument reads afterwards as it read before. No condition. -/
import Derived.Test.YtingeadhfbcacaaGreatMa5
import Derived.Test.YtingeadhfbcacaaGreatMa6
set_option linter.unusedSimpArgs false
set_option linter.unusedVariables false
namespace Go.Proofs.YtingeadhfbcacaaGreat
open Go Go.Vx Go.Vx.Tryz Go.ChangeShapes Go.WideShapes Go.ChangeAt Go.RowKit
set_option maxRecDepth 100000
theorem foldTexts_own : ownKnob Tryz.prog.godebug = none := by kernel_rfl
theorem foldTexts_lifted (os : Os) (started : os.Started) (H : Type) (enc : TypeId × Value → H) :
    ReturnsInHanded {} Tryz.checked os 7 .any (Rows.foldTextsSpec.pre6 enc Tryz.prog Tryz.f7 Rows.foldTextsRow.domain false) (Rows.foldTextsSpec.post enc Tryz.prog Tryz.f7 false true false false) := by
  refine returnsInHanded_of_change_sized (C := Tryz.checked) foldTexts_own started (by kernel_rfl) Tryz.func7
    (ChangeSpec.witness6 (enc := enc) (C := Tryz.checked) false ⟨#[], #[.string ByteArray.empty], []⟩ 8 (by kernel_rfl) (by kernel_rfl) (by kernel_rfl) (by kernel_rfl)) ?_
  intro W base args ds gs before hval hW _ _ _
  exact text_calls (tb := 4) Tryz.params7 (by kernel_rfl) (by kernel_rfl) rfl (fun _ => rfl) (fun x => foldTexts x) hval hW
theorem foldTexts_holds : Rows.FoldTextsSaid :=
  OpenClaim.holds_of_wide 7 Tryz.f7 rfl rfl rfl rfl rfl rfl rfl ⟨rfl, rfl, rfl, rfl, rfl⟩ rfl rfl rfl rfl rfl (by kernel_rfl) Tryz.func7 (by kernel_rfl)
    (of_decide_eq_true (by kernel_rfl)) (by unfold Func.isWrapper; rw [if_neg (of_decide_eq_false (by kernel_rfl))]; exact ⟨rfl, rfl⟩)
    (fun os started H enc _ => foldTexts_lifted os started H enc)
#print axioms foldTexts_holds
end Go.Proofs.YtingeadhfbcacaaGreat
