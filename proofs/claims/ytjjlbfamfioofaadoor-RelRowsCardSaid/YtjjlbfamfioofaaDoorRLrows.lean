/-
  The law RelRows: for every input it returns true, and each argument reads as it did.
  Conditions: none.
-/
import Derived.Test.YtjjlbfamfioofaaDoorRows
import Derived.Test.YtjjlbfamfioofaaDoorCards
import Derived.Test.YtjjlbfamfioofaaDoorTie
import Derived.Test.YtjjlbfamfioofaaDoorRo4
import Derived.Test.YtjjlbfamfioofaaDoorBr0
import Derived.Test.YtjjlbfamfioofaaDoorAm30
import Derived.WalkKit
import Derived.ProofKit
import Derived.OpenShut
import Derived.ShutString
import Derived.ChangeOld
import Derived.Below
import Derived.SizedLaws
import Derived.Handed
import Derived.KernelRfl
import Derived.ChangeVars
import Derived.JoinedOf
import Derived.RowKit
import Derived.SevenTiedAt
import Derived.FnData
namespace Go.Proofs.YtjjlbfamfioofaaDoor.relRows
open Go.ChangeShapes Go.WideShapes Go.ChangeAt Go.RowKit
open Go.Proofs.YtjjlbfamfioofaaDoor.AM (law_callsG args_again args_len mixed reads leafA leafs cells_of_datum relRows_law)
set_option linter.unusedVariables false
set_option linter.unusedSimpArgs false
theorem own : ownKnob Tryd.prog.godebug = none := by kernel_rfl
theorem cells : Tryd.f4.params.toList.mapM (leafA Tryd.prog 30) = some [(false, [(.int .u32)]), (true, (List.replicate 32 (.int .u32)))] := by kernel_rfl
theorem laidOut : laidOutB Tryd.prog = true := by kernel_rfl
theorem readable : (Tryd.f4.params.toList.all fun t => Tryd.prog.readableRec t && decide (t < Tryd.prog.types.size)) = true := by kernel_rfl
theorem named : Tryd.prog.globalNamed "math/bits.deBruijn32tab" = some 0 := by kernel_rfl
theorem namedType : (Tryd.prog.globals[0]?).map (·.type) = some 50 := by kernel_rfl
def tab : List Value := [.int .u8 0, .int .u8 1, .int .u8 28, .int .u8 2, .int .u8 29, .int .u8 14, .int .u8 24, .int .u8 3, .int .u8 30, .int .u8 22, .int .u8 20, .int .u8 15, .int .u8 25, .int .u8 17, .int .u8 4, .int .u8 8, .int .u8 31, .int .u8 27, .int .u8 13, .int .u8 23, .int .u8 21, .int .u8 19, .int .u8 16, .int .u8 7, .int .u8 26, .int .u8 12, .int .u8 18, .int .u8 6, .int .u8 11, .int .u8 5, .int .u8 10, .int .u8 9]
theorem tabLeafs : ∃ l, leafs Tryd.prog 5 50 = some l ∧ AM.scal l = true := ⟨(List.replicate 32 (.int .u8)), by kernel_rfl, by kernel_rfl⟩
theorem tabDatum : (AM.flatD (Rows.laid_math_bits_deBruijn32tab : DataW Unit)).map AM.litV = tab := by kernel_rfl
noncomputable def laidWorld (os : Os) : World :=
  { World.holding Tryd.prog os ⟨#[], #[], []⟩ with heap := (World.holding Tryd.prog os ⟨#[], #[], []⟩).heap.modify 0 fun
      | .cells _ t frozen => .cells ⟨tab⟩ t frozen
      | o => o }
theorem laidWorld_row (os : Os) : ((laidWorld os).forCall (fun _ _ => 0) ⟨#[], #[.int .u32 0, .agg #[.int .u32 0, .int .u32 0, .int .u32 0, .int .u32 0, .int .u32 0, .int .u32 0, .int .u32 0, .int .u32 0, .int .u32 0, .int .u32 0, .int .u32 0, .int .u32 0, .int .u32 0, .int .u32 0, .int .u32 0, .int .u32 0, .int .u32 0, .int .u32 0, .int .u32 0, .int .u32 0, .int .u32 0, .int .u32 0, .int .u32 0, .int .u32 0, .int .u32 0, .int .u32 0, .int .u32 0, .int .u32 0, .int .u32 0, .int .u32 0, .int .u32 0, .int .u32 0]], []⟩).memory.heap[0]? = some (.cells ⟨tab⟩ 50 (0, 0)) := by kernel_rfl
theorem laidWorld_met (os : Os) : laidMet Tryd.prog [("math/bits.deBruijn32tab", Rows.laid_math_bits_deBruijn32tab)] ((laidWorld os).forCall (fun _ _ => 0) ⟨#[], #[.int .u32 0, .agg #[.int .u32 0, .int .u32 0, .int .u32 0, .int .u32 0, .int .u32 0, .int .u32 0, .int .u32 0, .int .u32 0, .int .u32 0, .int .u32 0, .int .u32 0, .int .u32 0, .int .u32 0, .int .u32 0, .int .u32 0, .int .u32 0, .int .u32 0, .int .u32 0, .int .u32 0, .int .u32 0, .int .u32 0, .int .u32 0, .int .u32 0, .int .u32 0, .int .u32 0, .int .u32 0, .int .u32 0, .int .u32 0, .int .u32 0, .int .u32 0, .int .u32 0, .int .u32 0]], []⟩).memory := by
  refine ⟨_, ⟨0, 50, ⟨tab⟩, 8, [], [], by kernel_rfl, by kernel_rfl, by kernel_rfl, by kernel_rfl, rfl, rfl⟩, by decide +kernel, fun b off h => ?_⟩
  rw [List.append_nil, List.append_nil] at h
  obtain ⟨i, hi, e⟩ := MemPlace.mem_row.1 h
  cases e
  refine ⟨⟨_, _, laidWorld_row os⟩, fun u v hc => ?_⟩
  simp only [World.cell?, laidWorld_row os] at hc
  have hmem : Value.iface u v ∈ tab := by
    simp at hc
    exact List.mem_of_getElem? (i := i) (by simpa using hc)
  have : tab.all (fun c => match c with | .iface _ _ => false | _ => true) = true := by decide +kernel
  have := List.all_eq_true.1 this _ hmem
  cases this
set_option maxRecDepth 100000 in
theorem lifted (os : Os) (started : os.Started) (H : Type) (enc : TypeId × Value → H) :
    ReturnsInHanded {} Tryd.checked os 4 .any (fun w args => (Rows.relRowsSpec.pre enc Tryd.prog Tryd.f4 [] false w args ∧ laidMet Tryd.prog [("math/bits.deBruijn32tab", Rows.laid_math_bits_deBruijn32tab)] w) ∧ sizedMet enc Tryd.prog Tryd.f4 (OpenSpec.ofChange Rows.relRowsSpec) false w args)
      (Rows.relRowsSpec.post enc Tryd.prog Tryd.f4 false true false false) := by
  refine returnsInHanded_of_change_and (C := Tryd.checked) (X := fun w _ => laidMet Tryd.prog [("math/bits.deBruijn32tab", Rows.laid_math_bits_deBruijn32tab)] w) (fun _ _ _ hh h => h.of_heap hh) own started (by kernel_rfl) Tryd.func4
    (ChangeSpec.witness_at (enc := enc) (C := Tryd.checked) (os := os) (X := fun w _ => laidMet Tryd.prog [("math/bits.deBruijn32tab", Rows.laid_math_bits_deBruijn32tab)] w) false (laidWorld os) #[.int .u32 0, .agg #[.int .u32 0, .int .u32 0, .int .u32 0, .int .u32 0, .int .u32 0, .int .u32 0, .int .u32 0, .int .u32 0, .int .u32 0, .int .u32 0, .int .u32 0, .int .u32 0, .int .u32 0, .int .u32 0, .int .u32 0, .int .u32 0, .int .u32 0, .int .u32 0, .int .u32 0, .int .u32 0, .int .u32 0, .int .u32 0, .int .u32 0, .int .u32 0, .int .u32 0, .int .u32 0, .int .u32 0, .int .u32 0, .int .u32 0, .int .u32 0, .int .u32 0, .int .u32 0]] 8 rfl (by kernel_rfl) (by kernel_rfl) (by kernel_rfl) (by kernel_rfl) (by kernel_rfl) (laidWorld_met os)) ?_
  intro W base args ds gs before hval0 hW hcnd hsz0 hL _
  have hW' := hW
  obtain ⟨p, q, hA0, hV, rfl, hfz, hnd⟩ := hW
  have hA : DataW.TrodAll enc Tryd.prog W 0 (fun _ => true) true Tryd.f4.params.toList args.toList ds p := hA0
  obtain ⟨rfl, rfl⟩ := trodVars_none hV
  have hw : ∀ w ∈ DataW.weightsEach Tryd.prog Tryd.f4.params.toList ds, w ≤ reachBytes := by
    intro w hw
    have h1 : (DataW.weightsEach Tryd.prog (Tryd.f4.params.toList ++ []) (ds ++ [])).all (· ≤ reachBytes) = true := hsz0
    rw [List.append_nil, List.append_nil] at h1
    exact of_decide_eq_true (List.all_eq_true.1 h1 w hw)
  have hlen : ds.length = 2 := (args_len hA).trans (by kernel_rfl)
  have hval : ∀ (j : Nat) t v, Tryd.f4.params.toList[j]? = some t → args.toList[j]? = some v → Value.okWide Tryd.prog W .any base t v := fun j t v a b => hval0 j t v (by rw [← Array.getElem?_toList]; exact a) (by rw [← Array.getElem?_toList]; exact b)
  have hread : ∀ t ∈ Tryd.f4.params.toList, Tryd.prog.readableRec t = true ∧ t < Tryd.prog.types.size := fun t ht => by
    have := List.all_eq_true.1 readable t ht
    rw [Bool.and_eq_true] at this
    exact ⟨this.1, of_decide_eq_true this.2⟩
  obtain ⟨ps, ⟨g, t, cs, fuel, p1, q1, hg, ht, hvar, hd, _, _⟩, _⟩ := hL
  obtain rfl := Option.some.inj (named.symm.trans hg)
  obtain rfl := Option.some.inj (namedType.symm.trans ht)
  have hcs : cs.toList = tab := by
    obtain ⟨l, hl1, hl2⟩ := tabLeafs
    rw [cells_of_datum 5 _ l hl1 hl2 fuel _ _ hd]
    exact tabDatum
  have hglob : ∀ (i : Nat) (l : List Value), [tab][i]? = some l → i < W.heap.size ∧ ∀ (j : Nat) v, l[j]? = some v → W.cell? ⟨i, j, none⟩ = some v ∧ AM.plain1 v = true := by
    intro i l hi
    obtain ⟨rfl, rfl⟩ : i = 0 ∧ tab = l := by
      match i, hi with
      | 0, hi => exact ⟨rfl, Option.some.inj hi⟩
      | i + 1, hi => simp at hi
    have hc := World.var?_cell hg hvar
    have hin : ∀ (j : Nat) v, tab[j]? = some v → W.cell? ⟨0, j, none⟩ = some v := fun j v hj => by rw [hc j, ← Array.getElem?_toList, hcs]; exact hj
    refine ⟨?_, fun j v hj => ⟨hin j v hj, ?_⟩⟩
    · exact (AM.cell_spot (hin 0 _ rfl)).2
    · have : tab.all AM.plain1 = true := by decide +kernel
      exact List.all_eq_true.1 this _ (List.mem_of_getElem? hj)
  obtain ⟨args⟩ := args
  refine (law_callsG [tab] mixed reads 30 hglob hA hval hw cells (fun h us hgl hu => relRows_law h us hgl hu)).mono fun e W' ⟨he, bel⟩ => ?_
  subst he
  have hagain := args_again laidOut bel _ _ _ _ hread hA
  obtain ⟨d0, d1, rfl⟩ : ∃ d0 d1, ds = [d0, d1] := by
    match ds, hlen with
    | [d0, d1], _ => exact ⟨d0, d1, rfl⟩
  exact ⟨_, rfl, _, _, _, [], _, [], hW', trodAll_mk1 (shut_bool Tryd.underlying4 _), hagain, rfl, bel.frame _, fun h => by cases h⟩
theorem over : Rows.relRowsRow.holds Tryd.pinned (OpenSpec.ofChange Rows.relRowsSpec) :=
  OpenClaim.holds_of_wide 4 Tryd.f4 rfl rfl rfl rfl rfl rfl rfl ⟨rfl, rfl, rfl, rfl, rfl⟩ rfl rfl rfl rfl rfl (by kernel_rfl) Tryd.func4 (by kernel_rfl)
    (of_decide_eq_true (by kernel_rfl)) (by unfold Func.isWrapper; first | (rw [if_pos (by decide +kernel)]; kernel_rfl) | (rw [if_neg (by decide +kernel)]; exact ⟨rfl, rfl⟩))
    (fun os started H enc _ => lifted os started H enc)
theorem proved : Rows.RelRowsCardSaid :=
  Claim7.holds_tied_plain_at .later [] [.data] true (true, "755872ca826373f987f2b12f105f8c1d3fd52d10e18f07478b1615eca53f25e7") false
    over (fun _ h => by cases h) (by kernel_rfl) (fun _ h => by cases h) relRows_row_tie rfl ⟨rfl, rfl⟩ (by kernel_rfl) rfl
    (fun f fn hf hfn => by
      obtain rfl : f = 4 := Option.some.inj ((show Tryd.prog.funcNamed "belated/belatedlaw2.RelRows" = some 4 by kernel_rfl).symm.trans hf) |>.symm
      obtain rfl : fn = Tryd.f4 := (Option.some.inj (Tryd.func4.symm.trans hfn)).symm
      exact ⟨by kernel_rfl, fun j t ht => by
        have hall : (Tryd.f4.params.toList.all fun t => !Tryd.prog.wantsStandIn t) = true := by kernel_rfl
        have hm : t ∈ Tryd.f4.params.toList := List.mem_of_getElem? (i := j) (by rw [Array.getElem?_toList]; exact ht)
        have h1 := List.all_eq_true.1 hall t hm
        rw [Bool.not_eq_true'] at h1
        exact h1⟩)
    (by kernel_rfl)
end Go.Proofs.YtjjlbfamfioofaaDoor.relRows
namespace Go.Proofs.YtjjlbfamfioofaaDoor
/-- The law, under a short name. -/
theorem relRows_holds : Rows.RelRowsCardSaid := relRows.proved
#print axioms relRows_holds
end Go.Proofs.YtjjlbfamfioofaaDoor
