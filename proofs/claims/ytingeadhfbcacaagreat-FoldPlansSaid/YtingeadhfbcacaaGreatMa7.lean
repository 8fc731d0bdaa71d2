/- FoldPlans holds of every plan: the call returns true, and the argument reads afterwards as it read before. No condition. -/
import Derived.Test.YtingeadhfbcacaaGreatMa5
import Derived.Test.YtingeadhfbcacaaGreatMa6
set_option linter.unusedSimpArgs false
set_option linter.unusedVariables false
namespace Go.Proofs.YtingeadhfbcacaaGreat
open Go Go.Vx Go.Vx.Tryz Go.ChangeShapes Go.WideShapes Go.ChangeAt Go.RowKit
set_option maxRecDepth 100000
theorem foldPlans_own : ownKnob Tryz.prog.godebug = none := by kernel_rfl
theorem foldPlans_lifted (os : Os) (started : os.Started) (H : Type) (enc : TypeId × Value → H) :
    ReturnsInHanded {} Tryz.checked os 6 .any (Rows.foldPlansSpec.pre6 enc Tryz.prog Tryz.f6 Rows.foldPlansRow.domain false) (Rows.foldPlansSpec.post enc Tryz.prog Tryz.f6 false true false false) := by
  refine returnsInHanded_of_change_sized (C := Tryz.checked) foldPlans_own started (by kernel_rfl) Tryz.func6
    (ChangeSpec.witness6 (enc := enc) (C := Tryz.checked) false ⟨#[], #[.agg #[.int .i64 0, .int .i64 0, .string ByteArray.empty, .slice none 0 0, .slice none 0 0]], []⟩ 8 (by kernel_rfl) (by kernel_rfl) (by kernel_rfl) (by kernel_rfl)) ?_
  intro W base args ds gs before hval hW _ hsz _
  exact plan_callsR (tb := 4) Tryz.params6 (by kernel_rfl) (by kernel_rfl) rfl (fun _ => rfl) (fun p hin => foldPlans p hin) hval hW hsz
theorem foldPlans_holds : Rows.FoldPlansSaid :=
  OpenClaim.holds_of_wide 6 Tryz.f6 rfl rfl rfl rfl rfl rfl rfl ⟨rfl, rfl, rfl, rfl, rfl⟩ rfl rfl rfl rfl rfl (by kernel_rfl) Tryz.func6 (by kernel_rfl)
    (of_decide_eq_true (by kernel_rfl)) (by unfold Func.isWrapper; rw [if_neg (of_decide_eq_false (by kernel_rfl))]; exact ⟨rfl, rfl⟩)
    (fun os started H enc _ => foldPlans_lifted os started H enc)
#print axioms foldPlans_holds
end Go.Proofs.YtingeadhfbcacaaGreat
