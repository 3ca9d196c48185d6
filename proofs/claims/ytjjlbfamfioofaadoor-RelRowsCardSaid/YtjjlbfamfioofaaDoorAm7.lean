/-
  AM, part 7: the operations that neither act nor make memory: what the abstract machine does, the model does.
  Conditions: none.
-/
import Derived.Test.YtjjlbfamfioofaaDoorAm6
namespace Go.Proofs.YtjjlbfamfioofaaDoor.AM
open Go.RowKit

set_option linter.unusedSimpArgs false
variable {P : Program} {G N : Nat} {σ : Emb} {g : Mem} {w : World}

/-- The operation comes to a value and leaves the world. -/
def Still (P : Program) (w : World) (σ : Emb) (g : Mem) (v : Value) (s : Sem Next) : Prop := ∃ cv, s.run P w = .ok (.value cv) w ∧ VR σ g v cv

theorem still_of {s : Sem Value} {v : Value} (h : ∃ cv, s.run P w = .ok cv w ∧ VR σ g v cv) : Still P w σ g v (do pure (.value (← s))) := by
  obtain ⟨cv, h1, h2⟩ := h
  exact ⟨cv, by simp [h1], h2⟩

theorem bin_sound {op : BinOp} {t : TypeId} {x y : Operand} {u v r cu cv : Value} (hu : VR σ g u cu) (hv : VR σ g v cv) (h : binVal op u v = some r) :
    ((do eqGuard op t x y cu cv; binOp op t cu cv : Sem Value)).run P w = .ok r w ∧ plain1 r = true := by
  have ints : ∀ (k k' : IntKind) (a b : Int), u = .int k a → v = .int k' b → ((do eqGuard op t x y cu cv; binOp op t cu cv : Sem Value)).run P w = .ok r w ∧ plain1 r = true := by
    rintro k k' a b rfl rfl
    rw [hu.int_inv, hv.int_inv]
    cases op <;> simp only [binVal] at h
    case shl | shr =>
      split at h
      · cases h
      · rename_i hb
        cases h
        exact ⟨by simp [eqGuard_at_int, binOp, Op.shift, hb, shl, shr], rfl⟩
    all_goals
      split at h
      · rename_i hk
        subst hk
        simp only [binInt] at h
        first
          | (cases h; refine ⟨?_, rfl⟩; simp [eqGuard_at_int, binOp, Op.intArith, Op.intBits, Op.intCmp, Go.bits]; done)
          | (split at h
             · cases h
             · rename_i hb; cases h; refine ⟨?_, rfl⟩; simp [eqGuard_at_int, binOp, Op.intDiv, hb])
      · cases h
  cases hu' : u with
  | int k a =>
    cases hv' : v with
    | int k' b => exact ints k k' a b hu' hv'
    | _ => subst hu'; subst hv'; cases op <;> simp [binVal] at h
  | string a =>
    cases hv' : v with
    | string b =>
      subst hu'; subst hv'
      rw [hu.string_inv, hv.string_inv]
      cases op <;> simp only [binVal, reduceCtorEq] at h
      case add =>
        split at h
        · rename_i hle
          cases h; refine ⟨?_, rfl⟩
          have hno : ¬ (((a.size + b.size : Nat) : Int) > IntKind.i64.max) := by rw [IntKind.max_i64]; omega
          rw [eqGuard_at_string]
          show (Op.stringOp .add a b).run P w = _
          unfold Op.stringOp
          simp only [if_neg hno, Sem.run_pure]
        · cases h
      case eql => cases h; refine ⟨?_, rfl⟩; simp [eqGuard_at_string, binOp, Op.stringOp, beq_toListBytes]
      case neq => cases h; refine ⟨?_, rfl⟩; simp [eqGuard_at_string, binOp, Op.stringOp, bne, beq_toListBytes]
    | _ => subst hu'; subst hv'; cases op <;> simp [binVal] at h
  | _ => subst hu'; cases op <;> simp [binVal] at h

theorem un_sound {op : UnOp} {u r cu : Value} (hu : VR σ g u cu) (h : unVal op u = some r) : (Op.unary op cu).run P w = .ok r w ∧ plain1 r = true := by
  cases u <;> cases op <;> simp only [unVal, reduceCtorEq, Option.some.injEq] at h
  all_goals first
    | (rw [hu.int_inv]; subst h; refine ⟨?_, rfl⟩; simp [Op.unary, Op.intArith, Op.intBits, Go.bits]; done)
    | (rw [hu.bool_inv]; subst h; refine ⟨?_, rfl⟩; simp [Op.unary]; done)

set_option maxHeartbeats 4000000 in
theorem leafEq_eqv {k : EqK} {d : TypeDesc} (hd : eqK1 d = some k) {t : TypeId} (ht : P.underlying t = some d) {u v cu cv : Value} (hu : VR σ g u cu) (hv : VR σ g v cv) {b : Bool}
    (h : leafEq k u v = some b) {op : BinOp} {x y : Operand} (hi : k = .iface → isNilIface x = true ∨ isNilIface y = true) :
    (eqGuard op t x y cu cv).run P w = .ok () w ∧ (Op.equal t cu cv).run P w = .ok b w := by
  have hm : Op.maxDepth = 9999 + 1 := rfl
  unfold Op.equal
  rw [hm]
  generalize 9999 = n
  cases d <;> simp only [eqK1, Option.some.injEq, reduceCtorEq] at hd <;> subst hd <;> cases hu <;> cases hv <;> simp only [leafEq, Option.some.injEq, reduceCtorEq] at h <;> (try subst h)
  all_goals first
    | (constructor
       · first | simp [eqGuard_at_bool, eqGuard_at_pointer, eqGuard_at_slice, eqGuard_at_map, eqGuard_at_func, eqGuard_at_nilFunc, eqGuard_at_iface, eqGuard_nil_iface]
       · simp [Op.equalIn, run_und ht]
       done)
    | skip
  · constructor
    · rcases hi rfl with hx | hx
      · cases x <;> simp only [isNilIface, Bool.false_eq_true] at hx
        rw [eqGuard_nil_constL]; rfl
      · cases y <;> simp only [isNilIface, Bool.false_eq_true] at hx
        rw [eqGuard_nil_constR]; rfl
    · simp [Op.equalIn, run_und ht]
end Go.Proofs.YtjjlbfamfioofaaDoor.AM
