/-
  The law CatParses: for every input it returns true, and each argument reads as it did.
  Conditions: none.
-/
import Derived.Test.YtljdbheclfaloaaGreatDoorPy7
import Derived.Test.YtljdbheclfaloaaGreatDoorCards
import Derived.Test.YtljdbheclfaloaaGreatDoorRows
import Derived.Test.YtljdbheclfaloaaGreatDoorTie
import Derived.WalkKit
import Derived.ProofKit
import Derived.OpenShut
import Derived.ShutString
import Derived.ChangeOld
import Derived.Below
import Derived.SizedLaws
import Derived.Handed
import Derived.KernelRfl
import Derived.ChangeVars
import Derived.JoinedOf
import Derived.RowKit
import Derived.SevenTiedAt
import Derived.FnData
import Derived.LaidMore
namespace Go.Proofs.YtljdbheclfaloaaGreatDoor.catParses
open Go.ChangeShapes Go.WideShapes Go.ChangeAt Go.RowKit
open Go.Proofs.YtljdbheclfaloaaGreatDoor.AM (law_callsV returns_shaped sentinel_cell args_again args_len mixed reads leafA catParses_law)
set_option linter.unusedVariables false
theorem own : ownKnob Tryz.prog.godebug = none := by kernel_rfl
theorem cells : Tryz.f3.params.toList.mapM (leafA Tryz.prog 30) = some [(false, [.str]), (false, [(.slice 24 [.str, .bool])])] := by kernel_rfl
theorem laidOut : laidOutB Tryz.prog = true := by kernel_rfl
theorem readable : (Tryz.f3.params.toList.all fun t => Tryz.prog.readableRec t && decide (t < Tryz.prog.types.size)) = true := by kernel_rfl
def listed : List (String × DataW Unit) := [("math/bits.deBruijn32tab", Rows.laid_math_bits_deBruijn32tab), ("math/bits.deBruijn64tab", Rows.laid_math_bits_deBruijn64tab), ("internal/strconv.uint64pow10", Rows.laid_internal_strconv_uint64pow10), ("strconv.ErrRange", Rows.laid_strconv_ErrRange), ("strconv.ErrSyntax", Rows.laid_strconv_ErrSyntax)]
theorem start_met (os : Os) (args : Array Value) : laidMet Tryz.prog listed ((World.doorLaid Tryz.prog 62 os).forCall (fun _ _ => 0) ⟨#[], args, []⟩).memory := laidMet_of_run' 8 (by kernel_rfl) (by kernel_rfl)
set_option maxRecDepth 100000 in
theorem lifted (os : Os) (started : os.Started) (H : Type) (enc : TypeId × Value → H) :
    ReturnsInHanded {} Tryz.checked os 3 .any (fun w args => (Rows.catParsesSpec.pre enc Tryz.prog Tryz.f3 [] false w args ∧ laidMet Tryz.prog listed w) ∧ sizedMet enc Tryz.prog Tryz.f3 (OpenSpec.ofChange Rows.catParsesSpec) false w args)
      (Rows.catParsesSpec.post enc Tryz.prog Tryz.f3 false true false false) := by
  refine returns_shaped (C := Tryz.checked) (X := fun w _ => laidMet Tryz.prog listed w) (fun _ _ _ hh h => h.of_heap hh) own started (by kernel_rfl) Tryz.func3
    (ChangeSpec.witness_shaped (enc := enc) (C := Tryz.checked) (os := os) (X := fun w _ => laidMet Tryz.prog listed w) false (World.doorLaid Tryz.prog 62 os) #[.string ⟨#[]⟩, .slice none 0 0] 8 rfl (World.shaped_of_RefB (by kernel_rfl) (by kernel_rfl)) (by kernel_rfl) (by kernel_rfl) (by kernel_rfl) (start_met os _)) ?_
  intro W base args ds gs before hval0 hW hsz0 hL hsh
  have hW' := hW
  obtain ⟨p, q, hA0, hV, rfl, hfz, hnd⟩ := hW
  have hA : DataW.TrodAll enc Tryz.prog W 0 (fun _ => true) true Tryz.f3.params.toList args.toList ds p := hA0
  obtain ⟨rfl, rfl⟩ := trodVars_none hV
  have hw : ∀ w ∈ DataW.weightsEach Tryz.prog Tryz.f3.params.toList ds, w ≤ reachBytes := by
    intro w hw
    have h1 : (DataW.weightsEach Tryz.prog (Tryz.f3.params.toList ++ []) (ds ++ [])).all (· ≤ reachBytes) = true := hsz0
    rw [List.append_nil, List.append_nil] at h1
    exact of_decide_eq_true (List.all_eq_true.1 h1 w hw)
  have hlen : ds.length = 2 := (args_len hA).trans (by kernel_rfl)
  have hval : ∀ (j : Nat) t v, Tryz.f3.params.toList[j]? = some t → args.toList[j]? = some v → Value.okWide Tryz.prog W .any base t v := fun j t v a b => hval0 j t v (by rw [← Array.getElem?_toList]; exact a) (by rw [← Array.getElem?_toList]; exact b)
  have hread : ∀ t ∈ Tryz.f3.params.toList, Tryz.prog.readableRec t = true ∧ t < Tryz.prog.types.size := fun t ht => by
    have := List.all_eq_true.1 readable t ht
    rw [Bool.and_eq_true] at this
    exact ⟨this.1, of_decide_eq_true this.2⟩
  obtain ⟨m0, c0⟩ := Go.Proofs.cell_of_shapedOpen_int (P := Tryz.prog) (g := 0) (t := 3) (zero := #[.int .i64 0]) hsh (of_decide_eq_true (by kernel_rfl)) (by kernel_rfl) rfl (by kernel_rfl) (by kernel_rfl) Tryz.underlying3
  obtain ⟨u1, q1, c1⟩ := sentinel_cell (n := "strconv.ErrSyntax") (g := 1) (t := 173) hL (List.mem_cons_of_mem _ (List.mem_cons_of_mem _ (List.mem_cons_of_mem _ (List.mem_cons_of_mem _ (List.mem_cons_self ..))))) (by kernel_rfl) (by kernel_rfl) Tryz.underlying173
  have hglob : ∀ (i : Nat) (l : List Value), ([[.int .i64 m0], [.iface u1 (.chan (some 0))]] : List (List Value))[i]? = some l → i < W.heap.size ∧ ∀ (j : Nat) v, l[j]? = some v → ∃ c, W.cell? ⟨i, j, none⟩ = some c ∧ (∀ σ g, AM.VR σ g v c) ∧ AM.single v = true := by
    intro i l hi
    match i, hi with
    | 0, hi => cases hi; exact ⟨(AM.cell_spot c0).2, fun j v hj => by match j, hj with | 0, hj => cases hj; exact ⟨_, c0, fun σ g => .int _ _, rfl⟩ | j + 1, hj => simp at hj⟩
    | 1, hi => cases hi; exact ⟨(AM.cell_spot c1).2, fun j v hj => by match j, hj with | 0, hj => cases hj; exact ⟨_, c1, fun σ g => .iface _ _ _ (.any 0 q1), rfl⟩ | j + 1, hj => simp at hj⟩
    | i + 2, hi => simp at hi
  obtain ⟨args⟩ := args
  refine (law_callsV [[.int .i64 m0], [.iface u1 (.chan (some 0))]] mixed reads 30 hglob hA hval hw cells (fun h us hgl hu => catParses_law h us hgl hu)).mono fun e W' ⟨he, bel⟩ => ?_
  subst he
  have hagain := args_again laidOut bel _ _ _ _ hread hA
  obtain ⟨d0, d1, rfl⟩ : ∃ d0 d1, ds = [d0, d1] := by
    match ds, hlen with
    | [d0, d1], _ => exact ⟨d0, d1, rfl⟩
  exact ⟨_, rfl, _, _, _, [], _, [], hW', trodAll_mk1 (shut_bool Tryz.underlying4 _), hagain, rfl, bel.frame _, fun h => by cases h⟩
theorem over : Rows.catParsesRow.holds Tryz.pinned (OpenSpec.ofChange Rows.catParsesSpec) :=
  OpenClaim.holds_of_wide 3 Tryz.f3 rfl rfl rfl rfl rfl rfl rfl ⟨rfl, rfl, rfl, rfl, rfl⟩ rfl rfl rfl rfl rfl (by kernel_rfl) Tryz.func3 (by kernel_rfl)
    (of_decide_eq_true (by kernel_rfl)) (by unfold Func.isWrapper; first | (rw [if_pos (by decide +kernel)]; kernel_rfl) | (rw [if_neg (by decide +kernel)]; exact ⟨rfl, rfl⟩))
    (fun os started H enc _ => lifted os started H enc)
theorem proved : Rows.CatParsesCardSaid :=
  Claim7.holds_tied_plain_at .later [] [.data, .data, .data, .sentinel, .sentinel] true (true, "02a5f903b8a4ab1d52bed3920cbc4884f00e6045e341d3883358339d422c6e18") true
    over (fun _ h => by cases h) (by kernel_rfl) (fun _ h => by cases h) catParses_row_tie rfl ⟨rfl, rfl⟩ (by kernel_rfl) (by kernel_rfl)
    (fun f fn hf hfn => by
      obtain rfl : f = 3 := Option.some.inj ((show Tryz.prog.funcNamed "belated/belatedlaw12.CatParses" = some 3 by kernel_rfl).symm.trans hf) |>.symm
      obtain rfl : fn = Tryz.f3 := (Option.some.inj (Tryz.func3.symm.trans hfn)).symm
      exact ⟨by kernel_rfl, fun j t ht => by
        have hall : (Tryz.f3.params.toList.all fun t => !Tryz.prog.wantsStandIn t) = true := by kernel_rfl
        have hm : t ∈ Tryz.f3.params.toList := List.mem_of_getElem? (i := j) (by rw [Array.getElem?_toList]; exact ht)
        have h1 := List.all_eq_true.1 hall t hm
        rw [Bool.not_eq_true'] at h1
        exact h1⟩)
    (by kernel_rfl)
end Go.Proofs.YtljdbheclfaloaaGreatDoor.catParses
namespace Go.Proofs.YtljdbheclfaloaaGreatDoor
/-- The law, under a short name. -/
theorem catParses_holds : Rows.CatParsesCardSaid := catParses.proved
#print axioms catParses_holds
end Go.Proofs.YtljdbheclfaloaaGreatDoor
