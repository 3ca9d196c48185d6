/-
  The law ScanPlaces: for every input it returns true, and each argument reads as it did.
  Conditions: none.
-/
import Derived.Test.YtfbldlgjlgcpoaaDoorRows
import Derived.Test.YtfbldlgjlgcpoaaDoorCards
import Derived.Test.YtfbldlgjlgcpoaaDoorTie
import Derived.Test.YtfbldlgjlgcpoaaDoorSb3
import Derived.Test.YtfbldlgjlgcpoaaDoorBr4
import Derived.Test.YtfbldlgjlgcpoaaDoorAm31
import Derived.WalkKit
import Derived.ProofKit
import Derived.OpenShut
import Derived.ShutString
import Derived.ChangeOld
import Derived.Below
import Derived.SizedLaws
import Derived.Handed
import Derived.KernelRfl
import Derived.ChangeVars
import Derived.JoinedOf
import Derived.RowKit
import Derived.SevenTiedAt
import Derived.FnData
import Derived.LaidMore
namespace Go.Proofs.YtfbldlgjlgcpoaaDoor.scanPlaces
open Go.ChangeShapes Go.WideShapes Go.ChangeAt Go.RowKit
open Go.Proofs.YtfbldlgjlgcpoaaDoor.AM (law_callsV returns_shaped sentinel_cell args_again args_len mixed reads leafA scanPlaces_law)
set_option linter.unusedVariables false
theorem own : ownKnob Tryd.prog.godebug = none := by kernel_rfl
theorem cells : Tryd.f5.params.toList.mapM (leafA Tryd.prog 30) = some [(false, [.str])] := by kernel_rfl
theorem laidOut : laidOutB Tryd.prog = true := by kernel_rfl
theorem readable : (Tryd.f5.params.toList.all fun t => Tryd.prog.readableRec t && decide (t < Tryd.prog.types.size)) = true := by kernel_rfl
def listed : List (String × DataW Unit) := [("math/bits.deBruijn32tab", Rows.laid_math_bits_deBruijn32tab), ("math/bits.deBruijn64tab", Rows.laid_math_bits_deBruijn64tab), ("internal/strconv.uint64pow10", Rows.laid_internal_strconv_uint64pow10), ("strconv.ErrRange", Rows.laid_strconv_ErrRange), ("strconv.ErrSyntax", Rows.laid_strconv_ErrSyntax)]
theorem start_met (os : Os) (args : Array Value) : laidMet Tryd.prog listed ((World.doorLaid Tryd.prog 62 os).forCall (fun _ _ => 0) ⟨#[], args, []⟩).memory := laidMet_of_run' 8 (by kernel_rfl) (by kernel_rfl)
set_option maxRecDepth 100000 in
theorem lifted (os : Os) (started : os.Started) (H : Type) (enc : TypeId × Value → H) :
    ReturnsInHanded {} Tryd.checked os 5 .any (fun w args => (Rows.scanPlacesSpec.pre enc Tryd.prog Tryd.f5 [] false w args ∧ laidMet Tryd.prog listed w) ∧ sizedMet enc Tryd.prog Tryd.f5 (OpenSpec.ofChange Rows.scanPlacesSpec) false w args)
      (Rows.scanPlacesSpec.post enc Tryd.prog Tryd.f5 false true false false) := by
  refine returns_shaped (C := Tryd.checked) (X := fun w _ => laidMet Tryd.prog listed w) (fun _ _ _ hh h => h.of_heap hh) own started (by kernel_rfl) Tryd.func5
    (ChangeSpec.witness_shaped (enc := enc) (C := Tryd.checked) (os := os) (X := fun w _ => laidMet Tryd.prog listed w) false (World.doorLaid Tryd.prog 62 os) #[.string ⟨#[]⟩] 8 rfl (World.shaped_of_RefB (by kernel_rfl) (by kernel_rfl)) (by kernel_rfl) (by kernel_rfl) (by kernel_rfl) (start_met os _)) ?_
  intro W base args ds gs before hval0 hW hsz0 hL hsh
  have hW' := hW
  obtain ⟨p, q, hA0, hV, rfl, hfz, hnd⟩ := hW
  have hA : DataW.TrodAll enc Tryd.prog W 0 (fun _ => true) true Tryd.f5.params.toList args.toList ds p := hA0
  obtain ⟨rfl, rfl⟩ := trodVars_none hV
  have hw : ∀ w ∈ DataW.weightsEach Tryd.prog Tryd.f5.params.toList ds, w ≤ reachBytes := by
    intro w hw
    have h1 : (DataW.weightsEach Tryd.prog (Tryd.f5.params.toList ++ []) (ds ++ [])).all (· ≤ reachBytes) = true := hsz0
    rw [List.append_nil, List.append_nil] at h1
    exact of_decide_eq_true (List.all_eq_true.1 h1 w hw)
  have hlen : ds.length = 1 := (args_len hA).trans (by kernel_rfl)
  have hval : ∀ (j : Nat) t v, Tryd.f5.params.toList[j]? = some t → args.toList[j]? = some v → Value.okWide Tryd.prog W .any base t v := fun j t v a b => hval0 j t v (by rw [← Array.getElem?_toList]; exact a) (by rw [← Array.getElem?_toList]; exact b)
  have hread : ∀ t ∈ Tryd.f5.params.toList, Tryd.prog.readableRec t = true ∧ t < Tryd.prog.types.size := fun t ht => by
    have := List.all_eq_true.1 readable t ht
    rw [Bool.and_eq_true] at this
    exact ⟨this.1, of_decide_eq_true this.2⟩
  obtain ⟨m0, c0⟩ := Go.Proofs.cell_of_shapedOpen_int (P := Tryd.prog) (g := 0) (t := 3) (zero := #[.int .i64 0]) hsh (of_decide_eq_true (by kernel_rfl)) (by kernel_rfl) rfl (by kernel_rfl) (by kernel_rfl) Tryd.underlying3
  obtain ⟨u1, q1, c1⟩ := sentinel_cell (n := "strconv.ErrSyntax") (g := 1) (t := 53) hL (List.mem_cons_of_mem _ (List.mem_cons_of_mem _ (List.mem_cons_of_mem _ (List.mem_cons_of_mem _ (List.mem_cons_self ..))))) (by kernel_rfl) (by kernel_rfl) Tryd.underlying53
  have hglob : ∀ (i : Nat) (l : List Value), ([[.int .i64 m0], [.iface u1 (.chan (some 0))]] : List (List Value))[i]? = some l → i < W.heap.size ∧ ∀ (j : Nat) v, l[j]? = some v → ∃ c, W.cell? ⟨i, j, none⟩ = some c ∧ (∀ σ g, AM.VR σ g v c) ∧ AM.single v = true := by
    intro i l hi
    match i, hi with
    | 0, hi => cases hi; exact ⟨(AM.cell_spot c0).2, fun j v hj => by match j, hj with | 0, hj => cases hj; exact ⟨_, c0, fun σ g => .int _ _, rfl⟩ | j + 1, hj => simp at hj⟩
    | 1, hi => cases hi; exact ⟨(AM.cell_spot c1).2, fun j v hj => by match j, hj with | 0, hj => cases hj; exact ⟨_, c1, fun σ g => .iface _ _ _ (.any 0 q1), rfl⟩ | j + 1, hj => simp at hj⟩
    | i + 2, hi => simp at hi
  obtain ⟨args⟩ := args
  refine (law_callsV [[.int .i64 m0], [.iface u1 (.chan (some 0))]] mixed reads 30 hglob hA hval hw cells (fun h us hgl hu => scanPlaces_law h us hgl hu)).mono fun e W' ⟨he, bel⟩ => ?_
  subst he
  have hagain := args_again laidOut bel _ _ _ _ hread hA
  obtain ⟨d0, rfl⟩ : ∃ d0, ds = [d0] := by
    match ds, hlen with
    | [d0], _ => exact ⟨d0, rfl⟩
  exact ⟨_, rfl, _, _, _, [], _, [], hW', trodAll_mk1 (shut_bool Tryd.underlying4 _), hagain, rfl, bel.frame _, fun h => by cases h⟩
theorem over : Rows.scanPlacesRow.holds Tryd.pinned (OpenSpec.ofChange Rows.scanPlacesSpec) :=
  OpenClaim.holds_of_wide 5 Tryd.f5 rfl rfl rfl rfl rfl rfl rfl ⟨rfl, rfl, rfl, rfl, rfl⟩ rfl rfl rfl rfl rfl (by kernel_rfl) Tryd.func5 (by kernel_rfl)
    (of_decide_eq_true (by kernel_rfl)) (by unfold Func.isWrapper; first | (rw [if_pos (by decide +kernel)]; kernel_rfl) | (rw [if_neg (by decide +kernel)]; exact ⟨rfl, rfl⟩))
    (fun os started H enc _ => lifted os started H enc)
theorem proved : Rows.ScanPlacesCardSaid :=
  Claim7.holds_tied_plain_at .later [] [.data, .data, .data, .sentinel, .sentinel] true (true, "193caedae7b8bfa0dbe605106f6dc828fd0e28ba8cb839f73c0f9367c3f92ae1") true
    over (fun _ h => by cases h) (by kernel_rfl) (fun _ h => by cases h) scanPlaces_row_tie rfl ⟨rfl, rfl⟩ (by kernel_rfl) (by kernel_rfl)
    (fun f fn hf hfn => by
      obtain rfl : f = 5 := Option.some.inj ((show Tryd.prog.funcNamed "belated/belatedlaw4.ScanPlaces" = some 5 by kernel_rfl).symm.trans hf) |>.symm
      obtain rfl : fn = Tryd.f5 := (Option.some.inj (Tryd.func5.symm.trans hfn)).symm
      exact ⟨by kernel_rfl, fun j t ht => by
        have hall : (Tryd.f5.params.toList.all fun t => !Tryd.prog.wantsStandIn t) = true := by kernel_rfl
        have hm : t ∈ Tryd.f5.params.toList := List.mem_of_getElem? (i := j) (by rw [Array.getElem?_toList]; exact ht)
        have h1 := List.all_eq_true.1 hall t hm
        rw [Bool.not_eq_true'] at h1
        exact h1⟩)
    (by kernel_rfl)
end Go.Proofs.YtfbldlgjlgcpoaaDoor.scanPlaces
namespace Go.Proofs.YtfbldlgjlgcpoaaDoor
/-- The law, under a short name. -/
theorem scanPlaces_holds : Rows.ScanPlacesCardSaid := scanPlaces.proved
#print axioms scanPlaces_holds
end Go.Proofs.YtfbldlgjlgcpoaaDoor
