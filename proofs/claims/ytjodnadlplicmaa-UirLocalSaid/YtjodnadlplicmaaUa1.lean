/-
  Instructions: what the program's small functions on them come to.
  Conditions: none.
-/
import Derived.Test.YtjodnadlplicmaaBk
import Derived.Test.YtjodnadlplicmaaAe
import Derived.Test.YtjodnadlplicmaaAf
namespace Go.Proofs.Ytjodnadlplicmaa.AM
open Go.RowKit
set_option linter.unusedSimpArgs false
set_option linter.unusedVariables false

/-- An instruction. -/
structure Ins where
  op : Int
  dst : Int
  a : Int
  b : Int
  imm : Int
  loc : Int
  off : Int
  index : Int
  size : Int
  fn : Int
  acq : Bool
  weak : Bool
  rel : Bool
  pred : Int
  succ : Int
  to : Int
  zero : Bool
def insL (i : Ins) : List Value := [.int .i64 i.op, .int .i64 i.dst, .int .i64 i.a, .int .i64 i.b, .int .i64 i.imm, .int .i64 i.loc, .int .i64 i.off, .int .i64 i.index, .int .i64 i.size, .int .i64 i.fn, .bool i.acq, .bool i.weak, .bool i.rel, .int .i64 i.pred, .int .i64 i.succ, .int .i64 i.to, .bool i.zero]
theorem insL_len (i : Ins) : (insL i).length = 17 := by simp [insL]
theorem insL_plain (i : Ins) : (insL i).all plain1 = true := rfl

def regV (r : Int) : Bool := decide (0 ≤ r) && decide (r < 8)
theorem uir_register_c (r : Int) (h : Heap) : DF FF n_uir_register [.int .i64 r] h = some (.bool (regV r), h) := by
  refine fun_wpU F_uir_register ?_
  unfold regV
  by_cases h0 : 0 ≤ r
  · simp only [c_uir_register, C_ops, D_ret, normal_some, E_nil, E_cons, E_guard, next_some, guard_tt, ev_tmp, ev_const, get_succ, get_zero, List.set_cons_succ, List.set_cons_zero, O_mv, O_pick, pickO, O_bin, pairO, B_lss, B_geq, List.cons_append, List.nil_append, List.length_cons, List.length_nil, Nat.reduceSub, Nat.zero_add, Bool.true_and, W_some, W_seq, Q_cont_normal, Q_ret, fillU_zero, fillU_succ, eq_self, h0, decide_true]
  · simp only [c_uir_register, C_ops, D_ret, normal_some, E_nil, E_cons, E_guard, next_some, guard_tf, ev_tmp, ev_const, get_succ, get_zero, List.set_cons_succ, List.set_cons_zero, O_mv, O_pick, pickO, O_bin, pairO, B_geq, List.cons_append, List.nil_append, List.length_cons, List.length_nil, Nat.reduceSub, Nat.zero_add, Bool.false_and, W_some, W_seq, Q_cont_normal, Q_ret, fillU_zero, fillU_succ, eq_self, h0, decide_false]
theorem ref_reg_c (r : Int) (h : Heap) : DF FF n_belatedref3_reg [.int .i64 r] h = some (.bool (regV r), h) := by
  refine fun_wpU F_belatedref3_reg ?_
  unfold regV
  by_cases h0 : 0 ≤ r
  · simp only [c_belatedref3_reg, C_ops, D_ret, normal_some, E_nil, E_cons, E_guard, next_some, guard_tt, ev_tmp, ev_const, get_succ, get_zero, List.set_cons_succ, List.set_cons_zero, O_mv, O_pick, pickO, O_bin, pairO, B_lss, B_geq, List.cons_append, List.nil_append, List.length_cons, List.length_nil, Nat.reduceSub, Nat.zero_add, Bool.true_and, W_some, W_seq, Q_cont_normal, Q_ret, fillU_zero, fillU_succ, eq_self, h0, decide_true]
  · simp only [c_belatedref3_reg, C_ops, D_ret, normal_some, E_nil, E_cons, E_guard, next_some, guard_tf, ev_tmp, ev_const, get_succ, get_zero, List.set_cons_succ, List.set_cons_zero, O_mv, O_pick, pickO, O_bin, pairO, B_geq, List.cons_append, List.nil_append, List.length_cons, List.length_nil, Nat.reduceSub, Nat.zero_add, Bool.false_and, W_some, W_seq, Q_cont_normal, Q_ret, fillU_zero, fillU_succ, eq_self, h0, decide_false]
def fenceV (n : Int) : Bool := decide (1 ≤ n) && decide (n ≤ 3)
theorem uir_fence_c (n : Int) (h : Heap) : DF FF n_uir_fence [.int .i64 n] h = some (.bool (fenceV n), h) := by
  refine fun_wpU F_uir_fence ?_
  unfold fenceV
  by_cases h0 : 1 ≤ n
  · simp only [c_uir_fence, C_ops, D_ret, normal_some, E_nil, E_cons, E_guard, next_some, guard_tt, ev_tmp, ev_const, get_succ, get_zero, List.set_cons_succ, List.set_cons_zero, O_mv, O_pick, pickO, O_bin, pairO, B_leq, B_geq, List.cons_append, List.nil_append, List.length_cons, List.length_nil, Nat.reduceSub, Nat.zero_add, Bool.true_and, W_some, W_seq, Q_cont_normal, Q_ret, fillU_zero, fillU_succ, eq_self, h0, decide_true]
  · simp only [c_uir_fence, C_ops, D_ret, normal_some, E_nil, E_cons, E_guard, next_some, guard_tf, ev_tmp, ev_const, get_succ, get_zero, List.set_cons_succ, List.set_cons_zero, O_mv, O_pick, pickO, O_bin, pairO, B_geq, List.cons_append, List.nil_append, List.length_cons, List.length_nil, Nat.reduceSub, Nat.zero_add, Bool.false_and, W_some, W_seq, Q_cont_normal, Q_ret, fillU_zero, fillU_succ, eq_self, h0, decide_false]
def accessF (loc off size index : Int) : Bool := (decide (0 ≤ loc) && decide (loc < 3)) && ((maskV off size != 0) && ((index == -1) || regV index))
def accessV (i : Ins) : Bool := accessF i.loc i.off i.size i.index
theorem uir_access_c (i : Ins) (h : Heap) : DF FF n_uir_access [agg (insL i)] h = some (.bool (accessV i), h) := by
  refine fun_wpU F_uir_access ?_
  simp only [c_uir_access, C_ops, normal_some, E_nil, E_cons, next_some, ev_tmp, ev_const, get_succ, get_zero, List.set_cons_succ, List.set_cons_zero, O_mv, pairO, O_load1, load1_ptr, List.cons_append, List.nil_append, List.length_cons, List.length_nil, Nat.reduceSub, Nat.zero_add, W_some, W_seq, Q_cont_normal, O_box, O_off, off_ptr, read1_skip0, read1_there, fillU_zero, fillU_succ, eq_self, laid_agg, box_some, insL_len]
  unfold accessV accessF
  unfold insL
  simp only [E_cons, E_guard, next_some, ev_tmp, ev_const, get_succ, get_zero, List.set_cons_succ, List.set_cons_zero, O_mv, O_bin, pairO, B_geq, List.getElem?_cons_zero, List.getElem?_cons_succ]
  repeat' (first
    | (refine guard_split ?_ ?_ <;> intro hc <;> simp only [D_ret, normal_some, E_nil, E_cons, E_guard, next_some, guard_tt, guard_tf, guard_tu, ev_tmp, ev_const, get_succ, get_zero, List.set_cons_succ, List.set_cons_zero, O_mv, O_pick, pickO, O_bin, pairO, O_call, List.map_cons, List.map_nil, O_load1, load1_ptr, B_eql, B_neq, B_lss, Nat.zero_add, Bool.true_and, Bool.false_and, W_some, Q_cont_normal, O_off, off_ptr, read1_skip0, read1_there, List.getElem?_cons_zero, List.getElem?_cons_succ, hc, mask22])
    | (refine guard_splitF ?_ ?_ <;> intro hc <;> simp only [D_ret, normal_some, E_nil, E_cons, E_guard, next_some, guard_tt, guard_ff, guard_ft, ev_tmp, ev_const, get_succ, get_zero, List.set_cons_succ, List.set_cons_zero, O_mv, O_pick, pickO, pairO, O_call, List.map_cons, List.map_nil, O_load1, load1_ptr, Nat.zero_add, Bool.false_or, Bool.true_or, W_some, Q_cont_normal, O_off, off_ptr, read1_skip0, read1_there, List.getElem?_cons_zero, List.getElem?_cons_succ, hc, uir_register_c]))
  all_goals (rw [Q_more _ _ _ _ _ rfl]; rfl)
end Go.Proofs.Ytjodnadlplicmaa.AM
