/- ShareLeaves holds of every plan: the call returns true, and the argument reads afterwards as it read before. The listed tables are tied to the program's text. -/
import Derived.Test.YtingeadhfbcacaaGreatDoorMs5
import Derived.Test.YtingeadhfbcacaaGreatDoorMs6
import Derived.Test.YtingeadhfbcacaaGreatDoorCards
import Derived.Test.YtingeadhfbcacaaGreatDoorTie
import Derived.LaidMore
import Derived.OpenShut
import Derived.Stop.Joined
import Derived.LaidSub
set_option linter.unusedSimpArgs false
set_option linter.unusedVariables false
namespace Go.Vx.Tryz
open Go Go.Vx Go.Proofs Go.ChangeShapes Go.WideShapes Go.ChangeAt Go.RowKit Go.Joins
set_option maxRecDepth 100000
theorem plan_callsW {H : Type} {enc : TypeId × Value → H} {f : FuncId} {fn : Func} {s : ChangeSpec} {tb : TypeId} (hp : fn.params = #[27]) (hr : fn.resultTypes = #[tb]) (hb : Tryz.prog.underlying tb = some .bool) (hs : s.vars = []) (hf : ∀ d, s.fn H [d] = { results := [.lit (.bool true)], args := [d] })
    {W : World} (law : ∀ (p : Pl) (_ : inR p.root = true) {F G : Nat → Prop} {A : Option Addr} {l c : Nat} {B : Option Addr} {bl bc : Nat}, NdsR W F p.root.kids A l c → IntsR W G p.cells B bl bc → (∀ x, F x ∨ G x → x < W.heap.size) → CallsX E.P f #[plA p A l c B bl bc] W (IsV (.bool true) W) never)
    {base : Nat} {args : Array Value} {ds gs : List (DataW H)} {before : List MemPlace} (hval : ∀ (j : Nat) t v, fn.params[j]? = some t → args[j]? = some v → Value.okWide Tryz.prog W .any base t v) (hW : DataW.Whole enc Tryz.prog fn.params.toList s.vars false W args.toList ds gs before)
    (hsz : (DataW.weightsEach Tryz.prog (fn.params.toList ++ s.plain.varTypes Tryz.prog) (ds ++ gs)).all (· ≤ reachBytes) = true) :
    Calls Tryz.prog f args W fun e W' => ∃ v, e = .returned v ∧ s.post enc Tryz.prog fn false true false false W args v W' := by
  have hW' := hW
  obtain ⟨p, q, hA, hV, _, _, _⟩ := hW
  rw [hp] at hA
  obtain ⟨v, d, rfl, rfl, h0⟩ := trodAll_one hA
  have hx : Fits 27 d := fun m hm => by
    have := List.all_eq_true.1 hsz m (DataW.weights_mem_each (j := 0) (by rw [hp]; rfl) rfl m hm)
    exact of_decide_eq_true this
  obtain ⟨P, A, l, c, B, bl, bc, rfl, hin, h1, h2⟩ := read_planR (hval 0 27 v (by rw [hp]; rfl) rfl) h0 hx
  refine (law P hin h1 h2 fun x hx => by rcases hx with h | h <;> exact h).out.mono fun e W' h => ?_
  cases e with
  | returned v =>
    have h : v = Value.bool true ∧ Ext W W' := h
    obtain ⟨rfl, hE⟩ := h
    exact ⟨_, rfl, post_true hp hr hb hs hf laidOut readable27 types27 hW' hE⟩
  | panicked ch => exact (h : never ch W').elim
  | outgrown => exact h.elim
abbrev laids : List (String × DataW Unit) := Go.Proofs.YtingeadhfbcacaaGreatDoor.Rows.shareLeavesRow.laid
theorem tab_of {W : World} (h : laidMetH Tryz.prog laids W) : Tab W := by
  have h2 := laidMetH.filter (fun x => x.1 == "internal/strconv.uint64pow10") h
  have e : laids.filter (fun x => x.1 == "internal/strconv.uint64pow10") = [("internal/strconv.uint64pow10", Lib.tabData .u64 Lib.pow10Tab)] := by rfl
  rw [e, MakeChecks.laidMetH_plain _ _ _ (by kernel_rfl)] at h2
  exact Lib.tabIs_of_head (g := 0) (t := 151) (e := 144) (n := 20) (by kernel_rfl) (by kernel_rfl) (by kernel_rfl) (by kernel_rfl) (by kernel_rfl) (by kernel_rfl) h2
theorem door_met (os : Os) (args : Array Value) : laidMetH Tryz.prog laids ((World.doorLaid Tryz.prog 400 os).forCall (fun _ _ => 0) ⟨#[], args, []⟩).memory :=
  laidMetH_of_parts3 (fuel := 8) (laidMet_of_run' 8 (by kernel_rfl) (by kernel_rfl)) (by kernel_rfl) (by kernel_rfl)
end Go.Vx.Tryz
namespace Go.Proofs.YtingeadhfbcacaaGreatDoor
open Go Go.Vx Go.Vx.Tryz Go.ChangeShapes Go.WideShapes Go.ChangeAt Go.RowKit
set_option maxRecDepth 100000
theorem shareLeaves_own : ownKnob Tryz.prog.godebug = none := by kernel_rfl
theorem shareLeaves_lifted (os : Os) (started : os.Started) (H : Type) (enc : TypeId × Value → H) :
    ReturnsInHanded {} Tryz.checked os 3 .any (fun w args => (Rows.shareLeavesSpec.pre enc Tryz.prog Tryz.f3 [] false w args ∧ laidMetH Tryz.prog laids w) ∧ sizedMet enc Tryz.prog Tryz.f3 (OpenSpec.ofChange Rows.shareLeavesSpec) false w args)
      (Rows.shareLeavesSpec.post enc Tryz.prog Tryz.f3 false true false false) := by
  refine returnsInHanded_of_change_and (C := Tryz.checked) (X := fun w _ => laidMetH Tryz.prog laids w) (fun _ _ _ hh h => h.of_heap hh) shareLeaves_own started (by kernel_rfl) Tryz.func3
    (ChangeSpec.witness_shaped (enc := enc) (C := Tryz.checked) (os := os) (X := fun w _ => laidMetH Tryz.prog laids w) false (World.doorLaid Tryz.prog 400 os) #[.agg #[.int .i64 0, .int .i64 0, .string ByteArray.empty, .slice none 0 0, .slice none 0 0]] 8 rfl (World.shaped_of_RefB (by kernel_rfl) (by kernel_rfl)) (by kernel_rfl) (by kernel_rfl) (by kernel_rfl) (door_met os _)) ?_
  intro W base args ds gs before hval hW _ hsz hL _
  exact plan_callsW (tb := 4) Tryz.params3 (by kernel_rfl) (by kernel_rfl) rfl (fun _ => rfl) (fun p hin => shareLeaves_c p hin (tab_of hL)) hval hW hsz
theorem shareLeaves_holds : Rows.ShareLeavesSaid :=
  OpenClaim.holds_of_wide 3 Tryz.f3 rfl rfl rfl rfl rfl rfl rfl ⟨rfl, rfl, rfl, rfl, rfl⟩ rfl rfl rfl rfl rfl (by kernel_rfl) Tryz.func3 (by kernel_rfl)
    (of_decide_eq_true (by kernel_rfl)) (by unfold Func.isWrapper; rw [if_neg (of_decide_eq_false (by kernel_rfl))]; exact ⟨rfl, rfl⟩)
    (fun os started H enc _ => shareLeaves_lifted os started H enc)
theorem shareLeavesCard_holds : Rows.ShareLeavesCardSaid :=
  Claim7.holds_tied_plain_at .later [] [.data, .data, .data] true (true, "62f2a4b3be3db9e0a9c451500fefa42f46d87b417eaa62c686069ee3c28f93e9") true
    shareLeaves_holds (fun _ h => by cases h) (by kernel_rfl) (fun _ h => by cases h) shareLeaves_row_tie rfl ⟨rfl, rfl⟩ (by kernel_rfl) rfl
    (fun f fn hf hfn => by
      obtain rfl : f = 3 := Option.some.inj ((show Tryz.prog.funcNamed "isthmus/isthmuslaw17.ShareLeaves" = some 3 by kernel_rfl).symm.trans hf) |>.symm
      obtain rfl : fn = Tryz.f3 := (Option.some.inj (Tryz.func3.symm.trans hfn)).symm
      exact ⟨by kernel_rfl, fun j t ht => by
        rw [Tryz.params3] at ht
        have hm : t ∈ [27] := by simpa using Array.mem_of_getElem? ht
        have hall : ([27].all fun u => !Tryz.prog.wantsStandIn u) = true := by kernel_rfl
        exact (show Tryz.prog.wantsStandIn t = false by simpa using List.all_eq_true.1 hall t hm)⟩)
    (by kernel_rfl)
#print axioms shareLeavesCard_holds
end Go.Proofs.YtingeadhfbcacaaGreatDoor
