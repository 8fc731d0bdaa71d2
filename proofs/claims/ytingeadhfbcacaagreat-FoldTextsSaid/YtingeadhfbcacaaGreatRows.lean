/-
  NARROWER THAN 'FOR EVERY INPUT', by the rows' own cells (each row's printed sentence says how): HoistPlans: loops · HoistLeaves: loops · FoldPlans: loops.
  DERIVED. THE GIVEN ROWS OF THIS SEAT. 5 by the template 'for every input the law returns true; each argument reads behind the call as it read before'; 0 by the template 'total and deterministic' (their statements: YtingeadhfbcacaaGreatTotals.lean).
  GIVEN WITH THE SEED: the statements are not yours to turn. If you find one false, say at which input.
  Laid BY PROGRAM, IN A SANDBOX (cutbox-rows.mjs): the forced cells as the released guide's own fill.sh prints them over the translation d8ca0beec9342551… (all of the seat's roots in one cut). By AI agents, Wed Nov 11 2026. No macro, syntax, notation, axiom, sorry.
-/
import Derived.Test.YtingeadhfbcacaaGreatChecked
import GoSem.Claim
import GoSem.ClaimJoined
import GoSem.ClaimMapViews
import Derived.JoinedTies
import Derived.KernelRfl
namespace Go.Proofs.YtingeadhfbcacaaGreat
/- THE CELL 'sum', in the pinned program and in every row, IS THE sha256 OF THE DUMP (.gsa) THAT YtingeadhfbcacaaGreatProg.lean LOADS. Nothing in Lean hashes anything: it is a label: what it is worth is what the hold of that sum in a sandbox is worth. -/
noncomputable def Tryz.pinned : Pinned := { name := "ytingeadhfbcacaagreat", sum := "d8ca0beec93425511877dcd4aeeb1f1b1eff9a775f39c89213ad5d8ee9b47be7", checked := Tryz.checked }
namespace Rows
def none {H : Type} : Left H := { results := [], args := [] }

/-- 'isthmuslaw16.HoistPlans': WHATEVER THE INPUT: true; the input reads as it did. -/
def hoistPlansSpec : ChangeSpec := { name := "hoistPlans", fn := fun _ => fun
  | [d] => { results := [.lit (.bool true)], args := [d] }
  | _ => none }
def hoistPlansRow : OpenClaim := { program := "ytingeadhfbcacaagreat", sum := "d8ca0beec93425511877dcd4aeeb1f1b1eff9a775f39c89213ad5d8ee9b47be7", func := "isthmus/isthmuslaw16.HoistPlans", spec := "hoistPlans", inPlace := ["internal/bytealg.IndexByteString", "internal/bytealg.IndexString"], unfollowed := true, recurses := true, named := ["internal/bytealg.MaxLen"], loops := true, apart := false }
def HoistPlansSaid : Prop := hoistPlansRow.holds Tryz.pinned (OpenSpec.ofChange hoistPlansSpec)

/-- ITS FALSE NEIGHBOUR: 'it returns false'. Refute it at one input. -/
def hoistPlansWrong : ChangeSpec := { name := "hoistPlans", fn := fun _ => fun
  | [d] => { results := [.lit (.bool false)], args := [d] }
  | _ => none }
def HoistPlansWrongFalsely : Prop := hoistPlansRow.holds Tryz.pinned (OpenSpec.ofChange hoistPlansWrong)

/-- 'isthmuslaw16.HoistTexts': WHATEVER THE INPUT: true; the input reads as it did. -/
def hoistTextsSpec : ChangeSpec := { name := "hoistTexts", fn := fun _ => fun
  | [d] => { results := [.lit (.bool true)], args := [d] }
  | _ => none }
def hoistTextsRow : OpenClaim := { program := "ytingeadhfbcacaagreat", sum := "d8ca0beec93425511877dcd4aeeb1f1b1eff9a775f39c89213ad5d8ee9b47be7", func := "isthmus/isthmuslaw16.HoistTexts", spec := "hoistTexts", inPlace := ["internal/bytealg.IndexByteString", "internal/bytealg.IndexString"], unfollowed := true, recurses := true, named := ["internal/bytealg.MaxLen"], apart := false }
def HoistTextsSaid : Prop := hoistTextsRow.holds Tryz.pinned (OpenSpec.ofChange hoistTextsSpec)

/-- ITS FALSE NEIGHBOUR: 'it returns false'. Refute it at one input. -/
def hoistTextsWrong : ChangeSpec := { name := "hoistTexts", fn := fun _ => fun
  | [d] => { results := [.lit (.bool false)], args := [d] }
  | _ => none }
def HoistTextsWrongFalsely : Prop := hoistTextsRow.holds Tryz.pinned (OpenSpec.ofChange hoistTextsWrong)

/-- 'isthmuslaw16.HoistLeaves': WHATEVER THE INPUT: true; the input reads as it did. -/
def hoistLeavesSpec : ChangeSpec := { name := "hoistLeaves", fn := fun _ => fun
  | [d] => { results := [.lit (.bool true)], args := [d] }
  | _ => none }
def hoistLeavesRow : OpenClaim := { program := "ytingeadhfbcacaagreat", sum := "d8ca0beec93425511877dcd4aeeb1f1b1eff9a775f39c89213ad5d8ee9b47be7", func := "isthmus/isthmuslaw16.HoistLeaves", spec := "hoistLeaves", inPlace := ["internal/bytealg.IndexByteString", "internal/bytealg.IndexString"], unfollowed := true, recurses := true, named := ["internal/bytealg.MaxLen"], loops := true, apart := false }
def HoistLeavesSaid : Prop := hoistLeavesRow.holds Tryz.pinned (OpenSpec.ofChange hoistLeavesSpec)

/-- ITS FALSE NEIGHBOUR: 'it returns false'. Refute it at one input. -/
def hoistLeavesWrong : ChangeSpec := { name := "hoistLeaves", fn := fun _ => fun
  | [d] => { results := [.lit (.bool false)], args := [d] }
  | _ => none }
def HoistLeavesWrongFalsely : Prop := hoistLeavesRow.holds Tryz.pinned (OpenSpec.ofChange hoistLeavesWrong)

/-- 'isthmuslaw15.FoldPlans': WHATEVER THE INPUT: true; the input reads as it did. -/
def foldPlansSpec : ChangeSpec := { name := "foldPlans", fn := fun _ => fun
  | [d] => { results := [.lit (.bool true)], args := [d] }
  | _ => none }
def foldPlansRow : OpenClaim := { program := "ytingeadhfbcacaagreat", sum := "d8ca0beec93425511877dcd4aeeb1f1b1eff9a775f39c89213ad5d8ee9b47be7", func := "isthmus/isthmuslaw15.FoldPlans", spec := "foldPlans", inPlace := ["internal/bytealg.IndexByteString", "internal/bytealg.IndexString"], unfollowed := true, recurses := true, named := ["internal/bytealg.MaxLen"], loops := true, apart := false }
def FoldPlansSaid : Prop := foldPlansRow.holds Tryz.pinned (OpenSpec.ofChange foldPlansSpec)

/-- ITS FALSE NEIGHBOUR: 'it returns false'. Refute it at one input. -/
def foldPlansWrong : ChangeSpec := { name := "foldPlans", fn := fun _ => fun
  | [d] => { results := [.lit (.bool false)], args := [d] }
  | _ => none }
def FoldPlansWrongFalsely : Prop := foldPlansRow.holds Tryz.pinned (OpenSpec.ofChange foldPlansWrong)

/-- 'isthmuslaw15.FoldTexts': WHATEVER THE INPUT: true; the input reads as it did. -/
def foldTextsSpec : ChangeSpec := { name := "foldTexts", fn := fun _ => fun
  | [d] => { results := [.lit (.bool true)], args := [d] }
  | _ => none }
def foldTextsRow : OpenClaim := { program := "ytingeadhfbcacaagreat", sum := "d8ca0beec93425511877dcd4aeeb1f1b1eff9a775f39c89213ad5d8ee9b47be7", func := "isthmus/isthmuslaw15.FoldTexts", spec := "foldTexts", inPlace := ["internal/bytealg.IndexByteString", "internal/bytealg.IndexString"], unfollowed := true, recurses := true, named := ["internal/bytealg.MaxLen"], apart := false }
def FoldTextsSaid : Prop := foldTextsRow.holds Tryz.pinned (OpenSpec.ofChange foldTextsSpec)

/-- ITS FALSE NEIGHBOUR: 'it returns false'. Refute it at one input. -/
def foldTextsWrong : ChangeSpec := { name := "foldTexts", fn := fun _ => fun
  | [d] => { results := [.lit (.bool false)], args := [d] }
  | _ => none }
def FoldTextsWrongFalsely : Prop := foldTextsRow.holds Tryz.pinned (OpenSpec.ofChange foldTextsWrong)

/- THE SECOND FORM. 'bulk': how many values and letters a reading holds, each counted each time it is reached (what is shared counts as often as it is met; a slice's spare places count too). A statement '..UptoSaid' is the law's where the arguments, and the package variables that the reading takes, are together of bulk at most 1048576: NARROWER than '..Said'. Prove '..Said' where nothing that the law and all that it calls make is longer than what came in: it says more and counts as full. Else prove '..UptoSaid'. A law counts once. -/
mutual
def uptoBulk {H : Type} : DataW H → Nat
  | .lit (.string bytes) => bytes.length + 1
  | .lit _ => 1
  | .nil => 1
  | .ptr d => uptoBulk d + 1
  | .slice elems spare => uptoBulkAll elems + uptoBulkAll spare + 1
  | .agg parts => uptoBulkAll parts + 1
  | .iface _ d => uptoBulk d + 1
  | .map entries => uptoBulkEntries entries + 1
  | .held _ => 1
def uptoBulkAll {H : Type} : List (DataW H) → Nat
  | [] => 0
  | d :: r => uptoBulk d + uptoBulkAll r
def uptoBulkEntries {H : Type} : List (Lit × DataW H) → Nat
  | [] => 0
  | x :: r => uptoBulkEntry x + uptoBulkEntries r
def uptoBulkEntry {H : Type} : Lit × DataW H → Nat
  | (.string bytes, d) => bytes.length + uptoBulk d + 1
  | (_, d) => uptoBulk d + 1
 end
def uptoSmall : (H : Type) → List (DataW H) → Bool := fun _ ds => decide (uptoBulkAll ds ≤ 1048576)
def OpenSpec.upto (s : _root_.Go.ChangeSpec) : _root_.Go.OpenSpec := { _root_.Go.OpenSpec.ofChange s with cond := some uptoSmall }

/-- 'isthmuslaw16.HoistPlans', WHERE WHAT IT READS IS OF BULK AT MOST 1048576: true; the input reads as it did. -/
def hoistPlansUptoRow : OpenClaim := { program := "ytingeadhfbcacaagreat", sum := "d8ca0beec93425511877dcd4aeeb1f1b1eff9a775f39c89213ad5d8ee9b47be7", func := "isthmus/isthmuslaw16.HoistPlans", spec := "hoistPlans", inPlace := ["internal/bytealg.IndexByteString", "internal/bytealg.IndexString"], unfollowed := true, recurses := true, named := ["internal/bytealg.MaxLen"], loops := true, apart := false, narrowed := true }
def HoistPlansUptoSaid : Prop := hoistPlansUptoRow.holds Tryz.pinned (OpenSpec.upto hoistPlansSpec)

/-- 'isthmuslaw16.HoistTexts', WHERE WHAT IT READS IS OF BULK AT MOST 1048576: true; the input reads as it did. -/
def hoistTextsUptoRow : OpenClaim := { program := "ytingeadhfbcacaagreat", sum := "d8ca0beec93425511877dcd4aeeb1f1b1eff9a775f39c89213ad5d8ee9b47be7", func := "isthmus/isthmuslaw16.HoistTexts", spec := "hoistTexts", inPlace := ["internal/bytealg.IndexByteString", "internal/bytealg.IndexString"], unfollowed := true, recurses := true, named := ["internal/bytealg.MaxLen"], apart := false, narrowed := true }
def HoistTextsUptoSaid : Prop := hoistTextsUptoRow.holds Tryz.pinned (OpenSpec.upto hoistTextsSpec)

/-- 'isthmuslaw16.HoistLeaves', WHERE WHAT IT READS IS OF BULK AT MOST 1048576: true; the input reads as it did. -/
def hoistLeavesUptoRow : OpenClaim := { program := "ytingeadhfbcacaagreat", sum := "d8ca0beec93425511877dcd4aeeb1f1b1eff9a775f39c89213ad5d8ee9b47be7", func := "isthmus/isthmuslaw16.HoistLeaves", spec := "hoistLeaves", inPlace := ["internal/bytealg.IndexByteString", "internal/bytealg.IndexString"], unfollowed := true, recurses := true, named := ["internal/bytealg.MaxLen"], loops := true, apart := false, narrowed := true }
def HoistLeavesUptoSaid : Prop := hoistLeavesUptoRow.holds Tryz.pinned (OpenSpec.upto hoistLeavesSpec)

/-- 'isthmuslaw15.FoldPlans', WHERE WHAT IT READS IS OF BULK AT MOST 1048576: true; the input reads as it did. -/
def foldPlansUptoRow : OpenClaim := { program := "ytingeadhfbcacaagreat", sum := "d8ca0beec93425511877dcd4aeeb1f1b1eff9a775f39c89213ad5d8ee9b47be7", func := "isthmus/isthmuslaw15.FoldPlans", spec := "foldPlans", inPlace := ["internal/bytealg.IndexByteString", "internal/bytealg.IndexString"], unfollowed := true, recurses := true, named := ["internal/bytealg.MaxLen"], loops := true, apart := false, narrowed := true }
def FoldPlansUptoSaid : Prop := foldPlansUptoRow.holds Tryz.pinned (OpenSpec.upto foldPlansSpec)

/-- 'isthmuslaw15.FoldTexts', WHERE WHAT IT READS IS OF BULK AT MOST 1048576: true; the input reads as it did. -/
def foldTextsUptoRow : OpenClaim := { program := "ytingeadhfbcacaagreat", sum := "d8ca0beec93425511877dcd4aeeb1f1b1eff9a775f39c89213ad5d8ee9b47be7", func := "isthmus/isthmuslaw15.FoldTexts", spec := "foldTexts", inPlace := ["internal/bytealg.IndexByteString", "internal/bytealg.IndexString"], unfollowed := true, recurses := true, named := ["internal/bytealg.MaxLen"], apart := false, narrowed := true }
def FoldTextsUptoSaid : Prop := foldTextsUptoRow.holds Tryz.pinned (OpenSpec.upto foldTextsSpec)

end Rows
end Go.Proofs.YtingeadhfbcacaaGreat
