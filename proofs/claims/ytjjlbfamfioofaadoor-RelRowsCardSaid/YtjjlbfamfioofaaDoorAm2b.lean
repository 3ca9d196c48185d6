/-
  AM, part 2b: evaluation, one step at a time: what comes behind is data, so that nothing is looked at before it is reached.
  Conditions: none.
-/
import Derived.Test.YtjjlbfamfioofaaDoorAm2
namespace Go.Proofs.YtjjlbfamfioofaaDoor.AM
open Go.RowKit

section
variable {call : Caller} {F : Funcs}
/-- What comes behind an operation. -/
noncomputable def nextO (call : Caller) (d : Option Nat) (l : List AOper) (s : St) : Option (Value × Heap) → Option St
  | some r => evOps call l (s.put d r.1 r.2)
  | none => none
noncomputable def guardO (call : Caller) (d : Option Nat) (op : AOp) (l : List AOper) (s : St) : Bool → Value → Option St
  | b, .bool c => if c = b then nextO call d l s (evOp call s.eval s.h op) else evOps call l (s.put d undef s.h)
  | _, _ => evOps call l (s.put d undef s.h)
def pairO (h : Heap) : Option Value → Option (Value × Heap)
  | some v => some (v, h)
  | none => none
noncomputable def condD (F : Funcs) (a b : ACode) (s : St) : Value → Option (AEx × St)
  | .bool true => D F a s
  | .bool false => D F b s
  | _ => none
def normalD : Option St → Option (AEx × St)
  | some s => some (.normal, s)
  | none => none
def endR (h : Heap) : Option Value → Heap → Option (Value × Heap)
  | some v, _ => some (v, h)
  | none, _ => none

theorem E_nil (s : St) : evOps call [] s = some s := rfl
theorem E_cons (d : Option Nat) (op : AOp) (l : List AOper) (s : St) : evOps call (⟨d, op, none⟩ :: l) s = nextO call d l s (evOp call s.eval s.h op) := by
  simp only [evOps, evOper, wants, if_true]
  cases evOp call s.eval s.h op <;> rfl
theorem E_guard (d : Option Nat) (op : AOp) (j : Nat) (b : Bool) (l : List AOper) (s : St) : evOps call (⟨d, op, some (j, b)⟩ :: l) s = guardO call d op l s b (s.t.getD j undef) := by
  unfold evOps evOper wants
  cases hx : s.t.getD j undef with
  | bool c =>
    simp only [guardO, hx]
    by_cases h : c = b
    · simp only [h, beq_self_eq_true, if_true]
      cases evOp call s.eval s.h op <;> rfl
    · simp [h]
  | _ => simp only [guardO, hx, Bool.false_eq_true, if_false]; rfl
theorem next_some (d : Nat) (l : List AOper) (t : List Value) (h h' : Heap) (v : Value) : nextO call (some d) l ⟨t, h⟩ (some (v, h')) = evOps call l ⟨t.set d v, h'⟩ := rfl
theorem next_none (l : List AOper) (t : List Value) (h h' : Heap) (v : Value) : nextO call none l ⟨t, h⟩ (some (v, h')) = evOps call l ⟨t, h'⟩ := rfl
theorem next_bad (d : Option Nat) (l : List AOper) (s : St) : nextO call d l s none = none := rfl
theorem guard_tt (d : Option Nat) (op : AOp) (l : List AOper) (s : St) : guardO call d op l s true (.bool true) = nextO call d l s (evOp call s.eval s.h op) := rfl
theorem guard_ff (d : Option Nat) (op : AOp) (l : List AOper) (s : St) : guardO call d op l s false (.bool false) = nextO call d l s (evOp call s.eval s.h op) := rfl
theorem guard_tf (d : Nat) (op : AOp) (l : List AOper) (t : List Value) (h : Heap) : guardO call (some d) op l ⟨t, h⟩ true (.bool false) = evOps call l ⟨t.set d undef, h⟩ := rfl
theorem guard_ft (d : Nat) (op : AOp) (l : List AOper) (t : List Value) (h : Heap) : guardO call (some d) op l ⟨t, h⟩ false (.bool true) = evOps call l ⟨t.set d undef, h⟩ := rfl
theorem guard_tu (d : Nat) (op : AOp) (l : List AOper) (t : List Value) (h : Heap) (b : Bool) : guardO call (some d) op l ⟨t, h⟩ b undef = evOps call l ⟨t.set d undef, h⟩ := by cases b <;> rfl

theorem ev_tmp (t : List Value) (h : Heap) (i : Nat) : St.eval ⟨t, h⟩ (.tmp i) = t.getD i undef := rfl
theorem ev_const (s : St) (v : Value) : St.eval s (.const v) = v := rfl
theorem ev_global (s : St) (g : Nat) : St.eval s (.global g) = ptr g 0 0 := rfl
theorem ev_func (s : St) (f : FuncId) : St.eval s (.func f) = .func (.func f) #[] #[] := rfl
theorem get_succ (v : Value) (t : List Value) (i : Nat) : (v :: t).getD (i + 1) undef = t.getD i undef := rfl
theorem get_zero (v : Value) (t : List Value) : (v :: t).getD 0 undef = v := rfl

variable (ρ : Operand → Value) (h : Heap)
theorem O_mv (x : Operand) : evOp call ρ h (.mv x) = some (ρ x, h) := rfl
def pickO (h : Heap) (a b : Value) : Value → Option (Value × Heap)
  | .bool true => some (a, h)
  | .bool false => some (b, h)
  | _ => none
theorem O_pick (c a b : Operand) : evOp call ρ h (.pick c a b) = pickO h (ρ a) (ρ b) (ρ c) := by
  simp only [evOp]; generalize ρ c = x
  cases x with
  | bool t => cases t <;> rfl
  | _ => rfl
theorem O_bin (op : BinOp) (x y : Operand) : evOp call ρ h (.bin op x y) = pairO h (binVal op (ρ x) (ρ y)) := by simp only [evOp]; cases binVal op (ρ x) (ρ y) <;> rfl
theorem O_un (op : UnOp) (x : Operand) : evOp call ρ h (.un op x) = pairO h (unVal op (ρ x)) := by simp only [evOp]; cases unVal op (ρ x) <;> rfl
def convO (h : Heap) (k : IntKind) : Value → Option (Value × Heap)
  | .int _ n => some (.int k (k.wrap n), h)
  | _ => none
theorem O_conv (k : IntKind) (x : Operand) : evOp call ρ h (.conv k x) = convO h k (ρ x) := by
  simp only [evOp]; generalize ρ x = x; cases x <;> rfl
theorem O_call (f : FuncId) (as : List Operand) : evOp call ρ h (.call f as) = call f (as.map ρ) h := rfl
def lenO (h : Heap) : Value → Option (Value × Heap)
  | .slice _ n _ => some (.int .i64 n, h)
  | _ => none
theorem O_len (x : Operand) : evOp call ρ h (.len x) = lenO h (ρ x) := by
  simp only [evOp]; generalize ρ x = x; cases x <;> rfl
theorem len_slice (a : Option Addr) (n c : Nat) : lenO h (.slice a n c) = some (.int .i64 n, h) := rfl
variable (k : IntKind) (a b : Int)
theorem B_add : binVal .add (.int k a) (.int k b) = some (.int k (k.wrap (a + b))) := by simp [binVal, binInt]
theorem B_sub : binVal .sub (.int k a) (.int k b) = some (.int k (k.wrap (a - b))) := by simp [binVal, binInt]
theorem B_mul : binVal .mul (.int k a) (.int k b) = some (.int k (k.wrap (a * b))) := by simp [binVal, binInt]
theorem B_quo (hb : b ≠ 0) : binVal .quo (.int k a) (.int k b) = some (.int k (k.wrap (a.tdiv b))) := by simp [binVal, binInt, hb]
theorem B_rem (hb : b ≠ 0) : binVal .rem (.int k a) (.int k b) = some (.int k (a.tmod b)) := by simp [binVal, binInt, hb]
theorem B_band : binVal .and (.int k a) (.int k b) = some (.int k (Go.bits .and k a b)) := by simp [binVal, binInt]
theorem B_bor : binVal .or (.int k a) (.int k b) = some (.int k (Go.bits .or k a b)) := by simp [binVal, binInt]
theorem B_bxor : binVal .xor (.int k a) (.int k b) = some (.int k (Go.bits .xor k a b)) := by simp [binVal, binInt]
theorem B_bandNot : binVal .andNot (.int k a) (.int k b) = some (.int k (Go.bits .andNot k a b)) := by simp [binVal, binInt]
theorem B_eql : binVal .eql (.int k a) (.int k b) = some (.bool (a == b)) := by simp [binVal, binInt]
theorem B_neq : binVal .neq (.int k a) (.int k b) = some (.bool (a != b)) := by simp [binVal, binInt]
theorem B_lss : binVal .lss (.int k a) (.int k b) = some (.bool (decide (a < b))) := by simp [binVal, binInt]
theorem B_leq : binVal .leq (.int k a) (.int k b) = some (.bool (decide (a ≤ b))) := by simp [binVal, binInt]
theorem B_gtr : binVal .gtr (.int k a) (.int k b) = some (.bool (decide (b < a))) := by simp [binVal, binInt]
theorem B_geq : binVal .geq (.int k a) (.int k b) = some (.bool (decide (b ≤ a))) := by simp [binVal, binInt]
theorem B_shl' (k' : IntKind) (hb : 0 ≤ b) : binVal .shl (.int k a) (.int k' b) = some (.int k (shl k a b)) := by
  simp only [binVal]; rw [if_neg (by omega)]
theorem B_shr' (k' : IntKind) (hb : 0 ≤ b) : binVal .shr (.int k a) (.int k' b) = some (.int k (shr k a b)) := by
  simp only [binVal]; rw [if_neg (by omega)]
theorem U_not (b : Bool) : unVal .not (.bool b) = some (.bool !b) := rfl
theorem U_neg : unVal .neg (.int k a) = some (.int k (k.wrap (0 - a))) := rfl
end

section
variable {F : Funcs} (s : St)
theorem C_ops (l : List AOper) : D F (.ops l) s = normalD (evOps (DF F) l s) := by rw [D_ops]; cases evOps (DF F) l s <;> rfl
theorem normal_some : normalD (some s) = some (.normal, s) := rfl
theorem C_cond (c : Operand) (a b : ACode) : D F (.cond c a b) s = condD F a b s (s.eval c) := by
  rw [D_cond]; generalize s.eval c = x
  cases x with
  | bool t => cases t <;> rfl
  | _ => rfl
theorem cond_tt (a b : ACode) : condD F a b s (.bool true) = D F a s := rfl
theorem cond_ff (a b : ACode) : condD F a b s (.bool false) = D F b s := rfl
theorem then_normal (b : ACode) : thenD F b (some (.normal, s)) = D F b s := rfl
theorem then_exit (b : ACode) (j : Nat) : thenD F b (some (.exit j, s)) = some (.exit j, s) := rfl
theorem then_ret (b : ACode) : thenD F b (some (.ret, s)) = some (.ret, s) := rfl
theorem block_normal (id : Nat) : endBlock id (some (.normal, s)) = some (.normal, s) := rfl
theorem block_ret (id : Nat) : endBlock id (some (.ret, s)) = some (.ret, s) := rfl
theorem block_exit (id : Nat) : endBlock id (some (.exit id, s)) = some (.normal, s) := by simp [endBlock]
theorem block_other {id j : Nat} (h : j ≠ id) : endBlock id (some (.exit j, s)) = some (.exit j, s) := by simp [endBlock, h]
theorem end_ret (h : Heap) (i : Nat) (t : List Value) : endF h [.tmp i] (some (.ret, ⟨t, h⟩)) = some (t.getD i undef, h) := by simp [endF, aResults, aRes, finish]
theorem end_normal (h : Heap) (i : Nat) (t : List Value) : endF h [.tmp i] (some (.normal, ⟨t, h⟩)) = some (t.getD i undef, h) := by simp [endF, aResults, aRes, finish]
end
end Go.Proofs.YtjjlbfamfioofaaDoor.AM
