/- HoistTexts holds of every text: the call returns true, and the argument reads afterwards as it read before. No condition. -/
import Derived.Test.YtingeadhfbcacaaGreatMa6
import Derived.Test.YtingeadhfbcacaaGreatMa7
set_option linter.unusedSimpArgs false
set_option linter.unusedVariables false
namespace Go.Proofs.YtingeadhfbcacaaGreat
open Go Go.Vx Go.Vx.Tryz Go.ChangeShapes Go.WideShapes Go.ChangeAt Go.RowKit
set_option maxRecDepth 100000
theorem hoistTexts_own : ownKnob Tryz.prog.godebug = none := by kernel_rfl
theorem hoistTexts_lifted (os : Os) (started : os.Started) (H : Type) (enc : TypeId × Value → H) :
    ReturnsInHanded {} Tryz.checked os 4 .any (Rows.hoistTextsSpec.pre6 enc Tryz.prog Tryz.f4 Rows.hoistTextsRow.domain false) (Rows.hoistTextsSpec.post enc Tryz.prog Tryz.f4 false true false false) := by
  refine returnsInHanded_of_change_sized (C := Tryz.checked) hoistTexts_own started (by kernel_rfl) Tryz.func4
    (ChangeSpec.witness6 (enc := enc) (C := Tryz.checked) false ⟨#[], #[.string ByteArray.empty], []⟩ 8 (by kernel_rfl) (by kernel_rfl) (by kernel_rfl) (by kernel_rfl)) ?_
  intro W base args ds gs before hval hW _ _ _
  exact text_calls (tb := 4) Tryz.params4 (by kernel_rfl) (by kernel_rfl) rfl (fun _ => rfl) (fun x => hoistTexts x) hval hW
theorem hoistTexts_holds : Rows.HoistTextsSaid :=
  OpenClaim.holds_of_wide 4 Tryz.f4 rfl rfl rfl rfl rfl rfl rfl ⟨rfl, rfl, rfl, rfl, rfl⟩ rfl rfl rfl rfl rfl (by kernel_rfl) Tryz.func4 (by kernel_rfl)
    (of_decide_eq_true (by kernel_rfl)) (by unfold Func.isWrapper; rw [if_neg (of_decide_eq_false (by kernel_rfl))]; exact ⟨rfl, rfl⟩)
    (fun os started H enc _ => hoistTexts_lifted os started H enc)
#print axioms hoistTexts_holds
end Go.Proofs.YtingeadhfbcacaaGreat
