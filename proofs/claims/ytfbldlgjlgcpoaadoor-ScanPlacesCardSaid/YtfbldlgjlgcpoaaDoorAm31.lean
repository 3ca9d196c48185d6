/-
  AM, part 31: package variables that are listed, one by one; laws that also want the world's shape.
  Conditions: none; each statement bears its own.
-/
import Derived.Test.YtfbldlgjlgcpoaaDoorAf
import Derived.WideShapes
import Derived.LaidMore
import Derived.LaidLaws
import Derived.HandedShaped
import Derived.Shelf.Vars
namespace Go.Proofs.YtfbldlgjlgcpoaaDoor.AM
open Go.RowKit
set_option linter.unusedSimpArgs false
set_option linter.unusedVariables false

/-- A listed variable's own cells, and what they read as. -/
theorem laid_var {P : Program} {W : World} : ∀ {laid : List (String × DataW Unit)} {ps : List MemPlace} {n : String} {d : DataW Unit}, DataW.LaidVars P W laid ps → (n, d) ∈ laid →
    ∃ g t cs fuel p, P.globalNamed n = some g ∧ (P.globals[g]?).map (·.type) = some t ∧ W.var? P n = some cs ∧ DataW.trod (fun _ => ()) P W 0 (fun _ => true) false fuel t cs.toList = some (d, p) ∧ ∀ i, i < cs.size → MemPlace.cell g i ∈ ps
  | [], ps, n, d, h, hm => by cases hm
  | (m, e) :: r, ps, n, d, h, hm => by
    obtain ⟨g, t, cs, fuel, p, q, h1, h2, h3, h4, h5, rfl⟩ := h
    rcases List.mem_cons.1 hm with hm | hm
    · cases hm
      refine ⟨g, t, cs, fuel, p, h1, h2, h3, h4, fun i hi => ?_⟩
      simp only [MemPlace.row, List.mem_append, List.mem_map, List.mem_range]
      exact .inl (.inl ⟨i, hi, by simp⟩)
    · obtain ⟨g', t', cs', fuel', p', k1, k2, k3, k4, k5⟩ := laid_var h5 hm
      exact ⟨g', t', cs', fuel', p', k1, k2, k3, k4, fun i hi => List.mem_append_right _ (k5 i hi)⟩
theorem trod_ptr_inv {P : Program} {W : World} {fuel : Nat} {u : TypeId} {cs : List Value} {d : DataW Unit} {p : List MemPlace} (h : DataW.trod (fun _ => ()) P W 0 (fun _ => true) false fuel u cs = some (.ptr d, p)) : ∃ e, P.underlying u = some (.pointer e) := by
  cases fuel with
  | zero => simp [DataW.trod] at h
  | succ fuel =>
    unfold DataW.trod at h
    split at h
    all_goals first
      | (rename_i hu; exact ⟨_, hu⟩)
      | (exfalso; simp at h; done)
      | (exfalso; simp only [Option.map_eq_some_iff, Option.bind_eq_some_iff] at h; obtain ⟨_, _, h⟩ := h; cases h; done)
      | (exfalso; split at h
         · simp only [Option.map_eq_some_iff, Option.bind_eq_some_iff] at h
           first
             | (obtain ⟨_, _, _, _, h⟩ := h; cases h; done)
             | (obtain ⟨_, _, h⟩ := h; cases h; done)
             | cases h
         · cases h
         done)
      | (exfalso; split at h <;> (first | (cases h; done) | (simp at h; done) | (simp only [Option.map_eq_some_iff] at h; obtain ⟨_, _, h⟩ := h; cases h; done)); done)
      | (exfalso; split at h
         · split at h
           · simp only [Option.bind_eq_some_iff] at h
             obtain ⟨_, _, h⟩ := h
             split at h <;> cases h
           · cases h
         · cases h)
theorem trod_iface_inv {P : Program} {W : World} {fuel : Nat} {t : TypeId} {ms : Array (String × TypeId)} {cs : List Value} {nm : String} {d : DataW Unit} {p : List MemPlace} (hu : P.underlying t = some (.interface ms)) (h : DataW.trod (fun _ => ()) P W 0 (fun _ => true) false fuel t cs = some (.iface nm (.ptr d), p)) :
    ∃ u v e, cs = [.iface u v] ∧ P.underlying u = some (.pointer e) := by
  cases fuel with
  | zero => simp [DataW.trod] at h
  | succ fuel =>
    unfold DataW.trod at h
    rw [hu] at h
    split at h <;> (first | (rename_i he; cases he; done) | (simp at h; done) | skip)
    · rename_i u v _
      split at h
      · simp at h
      · obtain ⟨y, h1, h2⟩ := Option.map_eq_some_iff.1 h
        obtain ⟨y1, y2⟩ := y
        simp only [Prod.mk.injEq, DataW.iface.injEq] at h2
        obtain ⟨⟨_, rfl⟩, _⟩ := h2
        obtain ⟨e, he⟩ := trod_ptr_inv h1
        exact ⟨u, v, e, rfl, he⟩
      · cases h
/-- A listed error of the library's: some interface value that bears a pointer. -/
theorem sentinel_cell {P : Program} {W : World} {laid : List (String × DataW Unit)} {n nm : String} {d : DataW Unit} {g : Nat} {t : TypeId} {ms : Array (String × TypeId)} (hL : laidMet P laid W) (hm : (n, .iface nm (.ptr d)) ∈ laid) (hg : P.globalNamed n = some g) (ht : (P.globals[g]?).map (·.type) = some t) (hu : P.underlying t = some (.interface ms)) :
    ∃ u q, W.cell? ⟨g, 0, none⟩ = some (.iface u (.pointer q)) := by
  obtain ⟨ps, hv, _, hok⟩ := hL
  obtain ⟨g', t', cs, fuel, p, k1, k2, k3, k4, k5⟩ := laid_var hv hm
  obtain rfl := Option.some.inj (hg.symm.trans k1)
  obtain rfl := Option.some.inj (ht.symm.trans k2)
  obtain ⟨u, v, e, hcs, hp⟩ := trod_iface_inv hu k4
  have hc := World.var?_cell hg k3 0
  have h0 : cs[0]? = some (.iface u v) := by rw [← Array.getElem?_toList, hcs]; rfl
  rw [h0] at hc
  have hsz : 0 < cs.size := by
    have := congrArg List.length hcs; simp at this; omega
  have := (hok g 0 (k5 0 hsz)).2 u v hc
  obtain ⟨a, rfl⟩ := Go.WideShapes.okWide_pointer hp this
  exact ⟨u, a, hc⟩
variable {H : Type} {enc : TypeId × Value → H}
theorem returns_shaped {a : Assume} {C : Checked} {os : Os} {f : FuncId} {fn : Func} {s : ChangeSpec} {conds : List PathCond} {apart fresh handsOn again : Bool} {X : World → Array Value → Prop}
    (hX : ∀ (w w' : World) (args : Array Value), w.heap = w'.heap → X w args → X w' args)
    (own : ownKnob C.prog.godebug = none) (started : os.Started) (noInit : C.prog.inits.idxOf? f = none) (hfn : C.prog.funcs[f]? = some fn)
    (witness : ∃ (w : World) (tape : Tape) (i : Input), w.os = os ∧ (w.forCall tape i).Shaped C.prog ∧ i.vars = [] ∧ Input.okWide C.prog (w.forCall tape i) .any w.heap.size f i ∧
      ((s.pre enc C.prog fn conds apart (w.forCall tape i).memory i.args ∧ X (w.forCall tape i).memory i.args) ∧ sizedMet enc C.prog fn (OpenSpec.ofChange s) apart (w.forCall tape i).memory i.args) ∧ a.holds C.prog (lone (Frame.enter C.prog f i.args .normal) [] (w.forCall tape i)))
    (contract : ∀ (W : World) (base : Nat) (args : Array Value) (ds gs : List (DataW H)) (before : List MemPlace),
      (∀ (j : Nat) t v, fn.params[j]? = some t → args[j]? = some v → Value.okWide C.prog W .any base t v) →
      DataW.Whole enc C.prog fn.params.toList s.vars apart W args.toList ds gs before →
      (DataW.weightsEach C.prog (fn.params.toList ++ s.plain.varTypes C.prog) (ds ++ gs)).all (· ≤ reachBytes) = true → X W args → W.ShapedOpen C.prog →
      Calls C.prog f args W fun e W' => ∃ v, e = .returned v ∧ s.post enc C.prog fn apart fresh handsOn again W args v W') :
    ReturnsInHanded a C os f .any (fun w args => (s.pre enc C.prog fn conds apart w args ∧ X w args) ∧ sizedMet enc C.prog fn (OpenSpec.ofChange s) apart w args) (s.post enc C.prog fn apart fresh handsOn again) := by
  refine returnsInHanded_of_calls own started noInit witness ?_
  intro w tape i _ hsh _ hok hpre _
  obtain ⟨_, _, _, fn', hfn', _, _, _, _, hval⟩ := hok
  obtain rfl : fn' = fn := Option.some.inj (hfn'.symm.trans hfn)
  obtain ⟨⟨⟨ds, gs, before, hw, hc⟩, hx⟩, hz⟩ := hpre
  refine (contract (w.forCall tape i) w.heap.size i.args ds gs before hval (DataW.Whole.of_heap (w' := w.forCall tape i) (by rfl) hw) (hz.weights hw) (hX _ _ _ (by rfl) hx) hsh).mono fun e W' ⟨v, he, hp⟩ => ?_
  subst he
  exact ChangeSpec.post_blind hp
end Go.Proofs.YtfbldlgjlgcpoaaDoor.AM
