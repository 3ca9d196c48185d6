/-
  The law UirLocal: for every input it returns true, and each argument reads as it did.
  Conditions: none.
-/
import Derived.Test.YtjodnadlplicmaaRows
import Derived.Test.YtjodnadlplicmaaUe5
import Derived.Test.YtjodnadlplicmaaBr0
import Derived.WalkKit
import Derived.ProofKit
import Derived.OpenShut
import Derived.ShutString
import Derived.ChangeOld
import Derived.Below
import Derived.SizedLaws
import Derived.Handed
import Derived.KernelRfl
namespace Go.Proofs.Ytjodnadlplicmaa.uirLocal
open Go.ChangeShapes Go.WideShapes Go.ChangeAt Go.RowKit
open Go.Proofs.Ytjodnadlplicmaa.AM (law_calls args_again args_len mixed reads leafA uirLocal_law)
set_option linter.unusedVariables false
theorem own : ownKnob Try.prog.godebug = none := by kernel_rfl
theorem cells : Try.f4.params.toList.mapM (leafA Try.prog 30) = some [(false, [(.slice 120 (List.replicate 10 (.int .i64) ++ List.replicate 3 .bool ++ List.replicate 3 (.int .i64) ++ [.bool]))]), (true, (List.replicate 8 (.int .i64))), (false, [(.slice 8 [(.int .i64)])])] := by kernel_rfl
theorem laidOut : laidOutB Try.prog = true := by kernel_rfl
theorem readable : (Try.f4.params.toList.all fun t => Try.prog.readableRec t && decide (t < Try.prog.types.size)) = true := by kernel_rfl
set_option maxRecDepth 100000 in
theorem lifted (os : Os) (started : os.Started) (H : Type) (enc : TypeId × Value → H) :
    ReturnsInHanded {} Try.checked os 4 .any (Rows.uirLocalSpec.pre6 enc Try.prog Try.f4 Rows.uirLocalRow.domain false) (Rows.uirLocalSpec.post enc Try.prog Try.f4 false true false false) := by
  refine returnsInHanded_of_change_sized (C := Try.checked) own started (by kernel_rfl) Try.func4
    (ChangeSpec.witness6 (enc := enc) (C := Try.checked) false ⟨#[], #[.slice none 0 0, .agg #[.int .i64 0, .int .i64 0, .int .i64 0, .int .i64 0, .int .i64 0, .int .i64 0, .int .i64 0, .int .i64 0], .slice none 0 0], []⟩ 8 (by kernel_rfl) (by kernel_rfl) (by kernel_rfl) (by kernel_rfl)) ?_
  intro W base args ds gs before hval0 hW hcnd hsz0 _
  have hW' := hW
  obtain ⟨p, q, hA0, hV, rfl, hfz, hnd⟩ := hW
  have hA : DataW.TrodAll enc Try.prog W 0 (fun _ => true) true Try.f4.params.toList args.toList ds p := hA0
  obtain ⟨rfl, rfl⟩ := trodVars_none hV
  have hw : ∀ w ∈ DataW.weightsEach Try.prog Try.f4.params.toList ds, w ≤ reachBytes := by
    intro w hw
    have h1 : (DataW.weightsEach Try.prog (Try.f4.params.toList ++ []) (ds ++ [])).all (· ≤ reachBytes) = true := hsz0
    rw [List.append_nil, List.append_nil] at h1
    exact of_decide_eq_true (List.all_eq_true.1 h1 w hw)
  have hlen : ds.length = 3 := (args_len hA).trans (by kernel_rfl)
  have hval : ∀ (j : Nat) t v, Try.f4.params.toList[j]? = some t → args.toList[j]? = some v → Value.okWide Try.prog W .any base t v := fun j t v a b => hval0 j t v (by rw [← Array.getElem?_toList]; exact a) (by rw [← Array.getElem?_toList]; exact b)
  have hread : ∀ t ∈ Try.f4.params.toList, Try.prog.readableRec t = true ∧ t < Try.prog.types.size := fun t ht => by
    have := List.all_eq_true.1 readable t ht
    rw [Bool.and_eq_true] at this
    exact ⟨this.1, of_decide_eq_true this.2⟩
  obtain ⟨args⟩ := args
  refine (law_calls mixed reads 30 hA hval hw cells (fun h us hu => uirLocal_law h us hu)).mono fun e W' ⟨he, bel⟩ => ?_
  subst he
  have hagain := args_again laidOut bel _ _ _ _ hread hA
  obtain ⟨d0, d1, d2, rfl⟩ : ∃ d0 d1 d2, ds = [d0, d1, d2] := by
    match ds, hlen with
    | [d0, d1, d2], _ => exact ⟨d0, d1, d2, rfl⟩
  exact ⟨_, rfl, _, _, _, [], _, [], hW', trodAll_mk1 (shut_bool Try.underlying4 _), hagain, rfl, bel.frame _, fun h => by cases h⟩
theorem over : Rows.uirLocalRow.holds Try.pinned (OpenSpec.ofChange Rows.uirLocalSpec) :=
  OpenClaim.holds_of_wide 4 Try.f4 rfl rfl rfl rfl rfl rfl rfl ⟨rfl, rfl, rfl, rfl, rfl⟩ rfl rfl rfl rfl rfl (by kernel_rfl) Try.func4 (by kernel_rfl)
    (of_decide_eq_true (by kernel_rfl)) (by unfold Func.isWrapper; first | (rw [if_pos (by decide +kernel)]; kernel_rfl) | (rw [if_neg (by decide +kernel)]; exact ⟨rfl, rfl⟩))
    (fun os started H enc _ => lifted os started H enc)
theorem proved : Rows.UirLocalSaid := over
end Go.Proofs.Ytjodnadlplicmaa.uirLocal
namespace Go.Proofs.Ytjodnadlplicmaa
/-- The law, under a short name. -/
theorem uirLocal_holds : Rows.UirLocalSaid := uirLocal.proved
#print axioms uirLocal_holds
end Go.Proofs.Ytjodnadlplicmaa
