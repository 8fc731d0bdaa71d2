/- HoistPlans holds of every plan: the call returns true, and the argument reads afterwards as it read before. No condition. -/
import Derived.Test.YtingeadhfbcacaaGreatMa6
namespace Go.Proofs.YtingeadhfbcacaaGreat
open Go Go.Vx Go.Vx.Tryz Go.ChangeShapes Go.WideShapes Go.ChangeAt Go.RowKit
set_option maxRecDepth 100000
theorem own_knob : ownKnob Tryz.prog.godebug = none := by kernel_rfl
theorem hoistPlans_lifted (os : Os) (started : os.Started) (H : Type) (enc : TypeId × Value → H) :
    ReturnsInHanded {} Tryz.checked os 3 .any (Rows.hoistPlansSpec.pre6 enc Tryz.prog Tryz.f3 Rows.hoistPlansRow.domain false) (Rows.hoistPlansSpec.post enc Tryz.prog Tryz.f3 false true false false) := by
  refine returnsInHanded_of_change_sized (C := Tryz.checked) own_knob started (by kernel_rfl) Tryz.func3
    (ChangeSpec.witness6 (enc := enc) (C := Tryz.checked) false ⟨#[], #[.agg #[.int .i64 0, .int .i64 0, .string ByteArray.empty, .slice none 0 0, .slice none 0 0]], []⟩ 8 (by kernel_rfl) (by kernel_rfl) (by kernel_rfl) (by kernel_rfl)) ?_
  intro W base args ds gs before hval hW _ hsz _
  exact plan_calls (tb := 4) Tryz.params3 (by kernel_rfl) (by kernel_rfl) rfl (fun _ => rfl) (fun p => hoistPlans p) hval hW hsz
theorem hoistPlans_holds : Rows.HoistPlansSaid :=
  OpenClaim.holds_of_wide 3 Tryz.f3 rfl rfl rfl rfl rfl rfl rfl ⟨rfl, rfl, rfl, rfl, rfl⟩ rfl rfl rfl rfl rfl (by kernel_rfl) Tryz.func3 (by kernel_rfl)
    (of_decide_eq_true (by kernel_rfl)) (by unfold Func.isWrapper; rw [if_neg (of_decide_eq_false (by kernel_rfl))]; exact ⟨rfl, rfl⟩)
    (fun os started H enc _ => hoistPlans_lifted os started H enc)
#print axioms hoistPlans_holds
end Go.Proofs.YtingeadhfbcacaaGreat
