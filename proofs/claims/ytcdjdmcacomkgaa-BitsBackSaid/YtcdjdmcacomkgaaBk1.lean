/-
  The small functions of the bits: what they come to.
  Conditions: none.
-/
import Derived.Test.YtcdjdmcacomkgaaCode
import Derived.Test.YtcdjdmcacomkgaaAm2b
namespace Go.Proofs.Ytcdjdmcacomkgaa.AM
open Go.RowKit
set_option linter.unusedSimpArgs false
set_option linter.unusedVariables false

def sized (n : Int) : Bool := n == 1 || n == 2 || n == 4 || n == 8
theorem sized_cases {n : Int} (h : sized n = true) : n = 1 ∨ n = 2 ∨ n = 4 ∨ n = 8 := by
  simpa [sized, or_assoc] using h

theorem size30 (n : Int) (h : Heap) : DF FF 30 [.int .i64 n] h = some (.bool (sized n), h) := by
  rw [DF_eq F30]
  cases h1 : n == 1 <;> cases h2 : n == 2 <;> cases h3 : n == 4 <;> simp only [c30, D_seq, C_ops, C_cond, D_block, D_exit, D_ret, D_skip, normal_some, cond_tt, cond_ff, then_normal, then_exit, then_ret, block_normal, block_ret, block_exit, E_nil, E_cons, E_guard, next_some, next_none, guard_tt, guard_ff, guard_tf, guard_ft, guard_tu, ev_tmp, ev_const, ev_global, ev_func, get_succ, get_zero, List.set_cons_succ, List.set_cons_zero, O_mv, O_pick, pickO, O_bin, pairO, O_un, O_conv, convO, O_call, List.map_cons, List.map_nil, O_len, lenO, B_add, B_sub, B_mul, B_band, B_bor, B_bxor, B_bandNot, B_eql, B_neq, B_lss, B_leq, B_gtr, B_geq, U_not, U_neg, List.cons_append, List.nil_append, List.replicate_succ, List.replicate_zero, List.length_cons, List.length_nil, Nat.reduceAdd, Nat.reduceSub, Nat.zero_add, end_ret, end_normal, Bool.false_or, Bool.or_false, Bool.true_or, Bool.or_true, Bool.not_true, Bool.not_false, Bool.true_and, Bool.and_true, Bool.false_and, Bool.and_false, sized, h1, h2, h3]
theorem size31 (n : Int) (h : Heap) : DF FF 31 [.int .i64 n] h = some (.bool (sized n), h) := by
  rw [DF_eq F31]
  cases h1 : n == 1 <;> cases h2 : n == 2 <;> cases h3 : n == 4 <;> simp only [c31, D_seq, C_ops, C_cond, D_block, D_exit, D_ret, D_skip, normal_some, cond_tt, cond_ff, then_normal, then_exit, then_ret, block_normal, block_ret, block_exit, E_nil, E_cons, E_guard, next_some, next_none, guard_tt, guard_ff, guard_tf, guard_ft, guard_tu, ev_tmp, ev_const, ev_global, ev_func, get_succ, get_zero, List.set_cons_succ, List.set_cons_zero, O_mv, O_pick, pickO, O_bin, pairO, O_un, O_conv, convO, O_call, List.map_cons, List.map_nil, O_len, lenO, B_add, B_sub, B_mul, B_band, B_bor, B_bxor, B_bandNot, B_eql, B_neq, B_lss, B_leq, B_gtr, B_geq, U_not, U_neg, List.cons_append, List.nil_append, List.replicate_succ, List.replicate_zero, List.length_cons, List.length_nil, Nat.reduceAdd, Nat.reduceSub, Nat.zero_add, end_ret, end_normal, Bool.false_or, Bool.or_false, Bool.true_or, Bool.or_true, Bool.not_true, Bool.not_false, Bool.true_and, Bool.and_true, Bool.false_and, Bool.and_false, sized, h1, h2, h3]
theorem low28 (v n : Int) (h : Heap) (h0 : 0 ≤ IntKind.i64.wrap (8 * n)) : DF FF 28 [.int .i64 v, .int .i64 n] h = some (.int .i64 (if n = 8 then v else Go.bits .and .i64 v (IntKind.i64.wrap (shl .i64 1 (IntKind.i64.wrap (8 * n)) - 1))), h) := by
  rw [DF_eq F28]
  have hs := B_shl' .i64 1 _ .i64 h0
  by_cases h1 : n = 8
  · have h2 : (n == 8) = true := by simpa using h1
    simp only [c28, D_seq, C_ops, C_cond, D_block, D_exit, D_ret, D_skip, normal_some, cond_tt, cond_ff, then_normal, then_exit, then_ret, block_normal, block_ret, block_exit, E_nil, E_cons, E_guard, next_some, next_none, guard_tt, guard_ff, guard_tf, guard_ft, guard_tu, ev_tmp, ev_const, ev_global, ev_func, get_succ, get_zero, List.set_cons_succ, List.set_cons_zero, O_mv, O_pick, pickO, O_bin, pairO, O_un, O_conv, convO, O_call, List.map_cons, List.map_nil, O_len, lenO, B_add, B_sub, B_mul, B_band, B_bor, B_bxor, B_bandNot, B_eql, B_neq, B_lss, B_leq, B_gtr, B_geq, U_not, U_neg, List.cons_append, List.nil_append, List.replicate_succ, List.replicate_zero, List.length_cons, List.length_nil, Nat.reduceAdd, Nat.reduceSub, Nat.zero_add, end_ret, end_normal, Bool.false_or, Bool.or_false, Bool.true_or, Bool.or_true, Bool.not_true, Bool.not_false, Bool.true_and, Bool.and_true, Bool.false_and, Bool.and_false, h2, if_pos h1]
  · have h2 : (n == 8) = false := by simpa using h1
    simp only [c28, D_seq, C_ops, C_cond, D_block, D_exit, D_ret, D_skip, normal_some, cond_tt, cond_ff, then_normal, then_exit, then_ret, block_normal, block_ret, block_exit, E_nil, E_cons, E_guard, next_some, next_none, guard_tt, guard_ff, guard_tf, guard_ft, guard_tu, ev_tmp, ev_const, ev_global, ev_func, get_succ, get_zero, List.set_cons_succ, List.set_cons_zero, O_mv, O_pick, pickO, O_bin, pairO, O_un, O_conv, convO, O_call, List.map_cons, List.map_nil, O_len, lenO, B_add, B_sub, B_mul, B_band, B_bor, B_bxor, B_bandNot, B_eql, B_neq, B_lss, B_leq, B_gtr, B_geq, U_not, U_neg, List.cons_append, List.nil_append, List.replicate_succ, List.replicate_zero, List.length_cons, List.length_nil, Nat.reduceAdd, Nat.reduceSub, Nat.zero_add, end_ret, end_normal, Bool.false_or, Bool.or_false, Bool.true_or, Bool.or_true, Bool.not_true, Bool.not_false, Bool.true_and, Bool.and_true, Bool.false_and, Bool.and_false, h2, hs, if_neg h1]
theorem byte29 (v k : Int) (h : Heap) (h0 : 0 ≤ IntKind.i64.wrap (8 * k)) : DF FF 29 [.int .i64 v, .int .i64 k] h = some (.int .i64 (Go.bits .and .i64 (shr .i64 v (IntKind.i64.wrap (8 * k))) 255), h) := by
  rw [DF_eq F29]
  have hs := B_shr' .i64 v _ .i64 h0
  simp only [c29, D_seq, C_ops, C_cond, D_block, D_exit, D_ret, D_skip, normal_some, cond_tt, cond_ff, then_normal, then_exit, then_ret, block_normal, block_ret, block_exit, E_nil, E_cons, E_guard, next_some, next_none, guard_tt, guard_ff, guard_tf, guard_ft, guard_tu, ev_tmp, ev_const, ev_global, ev_func, get_succ, get_zero, List.set_cons_succ, List.set_cons_zero, O_mv, O_pick, pickO, O_bin, pairO, O_un, O_conv, convO, O_call, List.map_cons, List.map_nil, O_len, lenO, B_add, B_sub, B_mul, B_band, B_bor, B_bxor, B_bandNot, B_eql, B_neq, B_lss, B_leq, B_gtr, B_geq, U_not, U_neg, List.cons_append, List.nil_append, List.replicate_succ, List.replicate_zero, List.length_cons, List.length_nil, Nat.reduceAdd, Nat.reduceSub, Nat.zero_add, end_ret, end_normal, Bool.false_or, Bool.or_false, Bool.true_or, Bool.or_true, Bool.not_true, Bool.not_false, Bool.true_and, Bool.and_true, Bool.false_and, Bool.and_false, hs]
end Go.Proofs.Ytcdjdmcacomkgaa.AM
