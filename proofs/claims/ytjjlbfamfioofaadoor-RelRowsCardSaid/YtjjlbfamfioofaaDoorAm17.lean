/-
  AM, part 17: an operation in the model's calculus: where the abstract machine does it, the model goes on likewise. What is asked of calls stands as a hypothesis here.
  Conditions: none.
-/
import Derived.Test.YtjjlbfamfioofaaDoorAm16
import Derived.Orders
namespace Go.Proofs.YtjjlbfamfioofaaDoor.AM
open Go.RowKit

set_option linter.unusedSimpArgs false
set_option linter.unusedVariables false
variable {P : Program} {G N : Nat} {σ : Emb} {g : Mem} {w : World} {h : Heap}

/-- What a function of the abstract machine comes to the model's comes to. -/
def CallsOk (P : Program) (G N : Nat) (call : Caller) : Prop :=
  ∀ f args h v h', call f args h = some (v, h') → ∀ (σ : Emb) (g : Mem) (w : World) (cargs : List Value), Sub g h → MR G N σ g w → VRs σ g args cargs →
    entered P f = true ∧ Calls P f ⟨cargs⟩ w fun e w' => ∃ cv, e = .returned cv ∧ Done G N σ g w h v h' cv w'

theorem callFunc_run {f : FuncId} (h : entered P f = true) (args : Array Value) : (callFunc f args).run P w = .ok (.enter f args) w := by
  unfold entered at h
  cases hf : P.funcs[f]? with
  | none => rw [hf] at h; cases h
  | some fn =>
    rw [hf] at h
    simp only [Bool.and_eq_true, bne_iff_ne, ne_eq] at h
    obtain ⟨h1, h2⟩ := h
    have h3 : fn.body.isNone = false := by cases hb : fn.body <;> simp_all
    simp only [callFunc, Sem.run_bind, run_program, Result.andThen_ok, hf]
    simp [h2, h3]

/-- Calls stand for calls alone. -/
theorem norm_call {ty : TypeId} {op : Op} {ao : AOp} (hn : normOp P ty op = some ao) (hk : (∃ f l, ao = .call f l) ∨ ∃ f l, ao = .callv f l) : ∃ c, op = .call c := by
  have hno : (∀ f l, ao ≠ .call f l) → (∀ f l, ao ≠ .callv f l) → False := fun h1 h2 => by
    rcases hk with ⟨f, l, e⟩ | ⟨f, l, e⟩
    · exact h1 _ _ e
    · exact h2 _ _ e
  cases op
  case call c => exact ⟨c, rfl⟩
  case binOp op t x y yt =>
    exfalso
    have eqs : ∀ neg, normEq P neg t x y = some ao → False := by
      intro neg hne
      unfold normEq at hne
      repeat' split at hne
      all_goals first
        | (cases hne; done)
        | (simp only [Option.some.injEq] at hne; subst hne; exact hno (by simp) (by simp))
        | (obtain ⟨z, _, rfl⟩ := opt_map_some hne; exact hno (by simp) (by simp))
    simp only [normOp] at hn
    cases op <;> simp only at hn
    case eql => exact eqs false hn
    case neq => exact eqs true hn
    all_goals
      split at hn
      · simp only [Option.some.injEq] at hn; subst hn; exact hno (by simp) (by simp)
      · cases hn
  case makeFunc fn a b =>
    exfalso
    cases fn <;> simp only [normOp, reduceCtorEq, Option.some.injEq] at hn
    subst hn; exact hno (by simp) (by simp)
  case makeMap t r =>
    exfalso
    have hn : normMap (P.underlying t) r = some ao := hn
    rw [normMap_mk hn] at hno
    exact hno (by simp) (by simp)
  case slice t x lo hi mx =>
    exfalso
    cases mx with
    | some y => simp [normOp] at hn
    | none =>
      simp only [normOp] at hn
      repeat' split at hn
      all_goals first
        | (cases hn; done)
        | (simp only [Option.some.injEq] at hn; subst hn; exact hno (by simp) (by simp))
        | (obtain ⟨z, _, hn⟩ := Option.bind_eq_some_iff.1 hn
           split at hn <;> first | (cases hn; done) | (simp only [Option.some.injEq] at hn; subst hn; exact hno (by simp) (by simp)))
  all_goals
    exfalso
    simp only [normOp, reduceCtorEq] at hn
    try (
      repeat' split at hn
      all_goals first
        | (cases hn; done)
        | (simp only [Option.some.injEq] at hn; subst hn; exact hno (by simp) (by simp))
        | (obtain ⟨z, _, rfl⟩ := opt_map_some hn; exact hno (by simp) (by simp))
        | (obtain ⟨z, _, hn⟩ := Option.bind_eq_some_iff.1 hn
           split at hn <;> first | (cases hn; done) | (simp only [Option.some.injEq] at hn; subst hn; exact hno (by simp) (by simp))))

/-- An operation, whatever it is. -/
theorem op_wp {call : Caller} (hF : CallsOk P G N call) (hm : MR G N σ g w) (hs : Sub g h) {o : Oper} {ao : AOp} (hn : normOp P o.type o.op = some ao) {ρ : Operand → Value} {a : Act}
    (hv : ∀ x ∈ o.op.operands, VR σ g (ρ x) (a.eval x)) (hc : ∀ v, ρ (.const v) = v) (hfn : ∀ f, ρ (.func f) = .func (.func f) #[] #[]) {v : Value} {h' : Heap} (he : evOp call ρ h ao = some (v, h'))
    {next : Act → World → Prop} {Q : Exit → Act → World → Prop} (hnext : ∀ cv w', Done G N σ g w h v h' cv w' → next (a.put o.dst cv) w') : o.wp P a w next Q := by
  unfold Oper.wp
  by_cases hacts : ao.acts = true
  · by_cases hcl : ∃ f l, ao = .call f l
    · obtain ⟨f, l, rfl⟩ := hcl
      obtain ⟨dst, op, ty, pos, after, guard⟩ := o
      obtain ⟨c, rfl⟩ : ∃ c, op = .call c := norm_call hn (.inl ⟨f, l, rfl⟩)
      · obtain ⟨callee, ⟨as⟩, ⟨ts⟩⟩ := c
        simp only [normOp, normCall] at hn
        have hcall : callee = .value (.func f) ∧ as = l := by
          split at hn
          · repeat' split at hn
            all_goals first | (cases hn; done)
          · repeat' split at hn
            all_goals first | (cases hn; done)
          · split at hn <;> cases hn
          · split at hn <;> cases hn
          · split at hn
            · simp only [Option.some.injEq, AOp.call.injEq] at hn; obtain ⟨rfl, rfl⟩ := hn; exact ⟨rfl, rfl⟩
            · cases hn
          · cases hn
          · cases hn
        obtain ⟨rfl, rfl⟩ := hcall
        simp only [evOp] at he
        have hargs : VRs σ g (as.map ρ) (as.map a.eval) := VRs_map fun x hx => hv x (by simp [Op.operands, Call.operands, hx])
        obtain ⟨hent, hcalls⟩ := hF _ _ _ _ _ he σ g w _ hs hm hargs
        have hrun : (execOp a.eval ⟨dst, .call ⟨.value (.func f), ⟨as⟩, ⟨ts⟩⟩, ty, pos, after, guard⟩).run P w = .ok (.enter f ⟨as.map a.eval⟩) w := by
          simp only [execOp, resolve, Sem.run_bind, Deferred.ofValue, Act.eval, Sem.run_pure, Result.andThen_ok, invoke]
          rw [callFunc_run hent]
          simp
        rw [hrun]
        refine hcalls.mono fun e w' hh => ?_
        obtain ⟨cv, rfl, hd⟩ := hh
        exact hnext cv w' hd
    · by_cases hcl' : ∃ f l, ao = .callv f l
      · obtain ⟨f, l, rfl⟩ := hcl'
        obtain ⟨dst, op, ty, pos, after, guard⟩ := o
        obtain ⟨c, rfl⟩ : ∃ c, op = .call c := norm_call hn (.inr ⟨f, l, rfl⟩)
        obtain ⟨callee, ⟨as⟩, ⟨ts⟩⟩ := c
        simp only [normOp, normCall] at hn
        have hcall : callee = .value f ∧ as = l := by
          split at hn
          · repeat' split at hn
            all_goals first | (cases hn; done)
          · repeat' split at hn
            all_goals first | (cases hn; done)
          · split at hn <;> cases hn
          · split at hn <;> cases hn
          · split at hn <;> cases hn
          · simp only [Option.some.injEq, AOp.callv.injEq] at hn; obtain ⟨rfl, rfl⟩ := hn; exact ⟨rfl, rfl⟩
          · cases hn
        obtain ⟨rfl, rfl⟩ := hcall
        have hf := hv f (by simp [Op.operands, Call.operands])
        simp only [evOp] at he
        split at he
        · rename_i gid fa fb hfv
          rw [hfv] at hf
          generalize hcf : a.eval f = cf at hf
          cases hf with
          | func _ xs ys us vs hx hu =>
            have hargs : VRs σ g (as.map ρ) (as.map a.eval) := VRs_map fun x hx => hv x (by simp [Op.operands, Call.operands, hx])
            obtain ⟨hent, hcalls⟩ := hF _ _ _ _ _ he σ g w _ hs hm ((hx.append hargs).append hu)
            have hrun : (execOp a.eval ⟨dst, .call ⟨.value f, ⟨as⟩, ⟨ts⟩⟩, ty, pos, after, guard⟩).run P w = .ok (.enter gid ⟨ys ++ as.map a.eval ++ vs⟩) w := by
              simp only [execOp, resolve, Sem.run_bind, hcf, Deferred.ofValue, Sem.run_pure, Result.andThen_ok, invoke]
              rw [callFunc_run hent]
              simp
            rw [hrun]
            refine hcalls.mono fun e w' hh => ?_
            obtain ⟨cv, rfl, hd⟩ := hh
            exact hnext cv w' hd
        · cases he
      · obtain ⟨cv, w', hrun, hd⟩ := act_op call hm hs hn hacts hv he (fun f l e => hcl ⟨f, l, e⟩) (fun f l e => hcl' ⟨f, l, e⟩)
        rcases hrun with hrun | ⟨hrun, rfl⟩
        · rw [hrun]; exact hnext cv w' hd
        · rw [hrun]; exact hnext undef w' hd
  · by_cases hmakes : ao.makes = true
    · obtain ⟨cv, w', hrun, hd⟩ := make_op call hm hs hn hmakes hv (fun v => ⟨hc v, rfl⟩) he
      rw [hrun]; exact hnext cv w' hd
    · obtain ⟨rfl, cv, hrun, hvr⟩ := still_op call hm hs hn (by simpa using hacts) (by simpa using hmakes) hv (fun v => ⟨hc v, rfl⟩) he
      rw [hrun]; exact hnext cv w (Done.same hm hs hvr)
end Go.Proofs.YtjjlbfamfioofaaDoor.AM
