/-
  Where an access lies: both masks, both places, what a mask counts.
  Conditions: none.
-/
import Derived.Test.YtcdjdmcacomkgaaBk1
import Derived.Test.YtcdjdmcacomkgaaBv
namespace Go.Proofs.Ytcdjdmcacomkgaa.AM
open Go.RowKit
set_option linter.unusedSimpArgs false
set_option linter.unusedVariables false

def okAt (off n : Int) : Bool := sized n && decide (0 ≤ off) && decide (off ≤ 8 - n) && decide (off.tmod n = 0)
/-- The mask, by number. -/
def maskV (off n : Int) : Int := if okAt off n then (2 ^ n.toNat - 1) * 2 ^ off.toNat else 0
theorem ok_cases {off n : Int} (h : okAt off n = true) : (n = 1 ∧ (off = 0 ∨ off = 1 ∨ off = 2 ∨ off = 3 ∨ off = 4 ∨ off = 5 ∨ off = 6 ∨ off = 7)) ∨ (n = 2 ∧ (off = 0 ∨ off = 2 ∨ off = 4 ∨ off = 6)) ∨ (n = 4 ∧ (off = 0 ∨ off = 4)) ∨ (n = 8 ∧ off = 0) := by
  unfold okAt at h
  simp only [Bool.and_eq_true, decide_eq_true_eq] at h
  obtain ⟨⟨⟨h1, h2⟩, h3⟩, h4⟩ := h
  rw [Int.tmod_eq_emod_of_nonneg h2] at h4
  rcases sized_cases h1 with rfl | rfl | rfl | rfl <;> omega
/-- What holds of the fifteen places holds of every one. -/
theorem ok_all {p : Int → Int → Prop} (h : ∀ q ∈ [((0 : Int), (1 : Int)), (1, 1), (2, 1), (3, 1), (4, 1), (5, 1), (6, 1), (7, 1), (0, 2), (2, 2), (4, 2), (6, 2), (0, 4), (4, 4), (0, 8)], p q.1 q.2) {off n : Int} (hk : okAt off n = true) : p off n := by
  rcases ok_cases hk with ⟨rfl, rfl | rfl | rfl | rfl | rfl | rfl | rfl | rfl⟩ | ⟨rfl, rfl | rfl | rfl | rfl⟩ | ⟨rfl, rfl | rfl⟩ | ⟨rfl, rfl⟩ <;>
  · exact h (_, _) (by simp only [List.mem_cons, Prod.mk.injEq, List.not_mem_nil, or_false, Int.reduceEq, and_self, and_false, and_true, false_and, true_or, or_true, false_or])

theorem mask22_ok {off n : Int} (hk : okAt off n = true) (h : Heap) : DF FF 22 [.int .i64 off, .int .i64 n] h = some (.int .i64 (maskV off n), h) := by
  refine ok_all (p := fun off n => DF FF 22 [.int .i64 off, .int .i64 n] h = some (.int .i64 (maskV off n), h)) ?_ hk
  intro q hq
  simp only [List.mem_cons, List.not_mem_nil, or_false] at hq
  rcases hq with rfl | rfl | rfl | rfl | rfl | rfl | rfl | rfl | rfl | rfl | rfl | rfl | rfl | rfl | rfl <;>
  · rw [DF_eq F22]
    simp only [c22, D_seq, D_block, then_normal, then_exit, then_ret, block_normal, block_ret, block_exit, C_ops, C_cond, D_exit, D_ret, D_skip, normal_some, cond_tt, cond_ff, E_nil, E_cons, E_guard, next_some, next_none, guard_tt, guard_ff, guard_tf, guard_ft, guard_tu, ev_tmp, ev_const, ev_global, ev_func, get_succ, get_zero, List.set_cons_succ, List.set_cons_zero, O_mv, O_pick, pickO, O_bin, pairO, O_un, O_conv, convO, O_call, List.map_cons, List.map_nil, O_len, lenO, B_add, B_sub, B_mul, B_band, B_bor, B_bxor, B_bandNot, B_eql, B_neq, B_lss, B_leq, B_gtr, B_geq, B_shl', B_shr', B_rem, B_quo, U_not, U_neg, List.cons_append, List.nil_append, List.replicate_succ, List.replicate_zero, List.length_cons, List.length_nil, Nat.reduceAdd, Nat.reduceSub, Nat.zero_add, end_ret, end_normal, Bool.false_or, Bool.or_false, Bool.true_or, Bool.or_true, Bool.not_true, Bool.not_false, Bool.true_and, Bool.and_true, Bool.false_and, Bool.and_false, shl, shr, IntKind.wrap_i64, IntKind.bits, Int.reduceAdd, Int.reduceSub, Int.reduceMul, Int.reduceMod, Int.reduceTMod, Int.reduceTDiv, Int.reduceDiv, Int.reduceNeg, Int.reduceLT, Int.reduceLE, Int.reduceGT, Int.reduceGE, Int.reduceBEq, Int.reduceBNe, Int.reduceToNat, Int.reducePow, Int.reduceEq, Int.reduceNe, Nat.reduceMul, Nat.reducePow, Nat.reduceLT, Nat.reduceLeDiff, Nat.reduceBEq, decide_true, decide_false, ne_eq, not_true_eq_false, not_false_eq_true, reduceIte, Nat.min_def, Int.ofNat_eq_natCast, Int.reduceFDiv, size30, sized]
    rfl
theorem mask23_ok {off n : Int} (hk : okAt off n = true) (h : Heap) : DF FF 23 [.int .i64 off, .int .i64 n] h = some (.int .i64 (maskV off n), h) := by
  refine ok_all (p := fun off n => DF FF 23 [.int .i64 off, .int .i64 n] h = some (.int .i64 (maskV off n), h)) ?_ hk
  intro q hq
  simp only [List.mem_cons, List.not_mem_nil, or_false] at hq
  rcases hq with rfl | rfl | rfl | rfl | rfl | rfl | rfl | rfl | rfl | rfl | rfl | rfl | rfl | rfl | rfl <;>
  · rw [DF_eq F23]
    simp only [c23, D_seq, D_block, then_normal, then_exit, then_ret, block_normal, block_ret, block_exit, C_ops, C_cond, D_exit, D_ret, D_skip, normal_some, cond_tt, cond_ff, E_nil, E_cons, E_guard, next_some, next_none, guard_tt, guard_ff, guard_tf, guard_ft, guard_tu, ev_tmp, ev_const, ev_global, ev_func, get_succ, get_zero, List.set_cons_succ, List.set_cons_zero, O_mv, O_pick, pickO, O_bin, pairO, O_un, O_conv, convO, O_call, List.map_cons, List.map_nil, O_len, lenO, B_add, B_sub, B_mul, B_band, B_bor, B_bxor, B_bandNot, B_eql, B_neq, B_lss, B_leq, B_gtr, B_geq, B_shl', B_shr', B_rem, B_quo, U_not, U_neg, List.cons_append, List.nil_append, List.replicate_succ, List.replicate_zero, List.length_cons, List.length_nil, Nat.reduceAdd, Nat.reduceSub, Nat.zero_add, end_ret, end_normal, Bool.false_or, Bool.or_false, Bool.true_or, Bool.or_true, Bool.not_true, Bool.not_false, Bool.true_and, Bool.and_true, Bool.false_and, Bool.and_false, shl, shr, IntKind.wrap_i64, IntKind.bits, Int.reduceAdd, Int.reduceSub, Int.reduceMul, Int.reduceMod, Int.reduceTMod, Int.reduceTDiv, Int.reduceDiv, Int.reduceNeg, Int.reduceLT, Int.reduceLE, Int.reduceGT, Int.reduceGE, Int.reduceBEq, Int.reduceBNe, Int.reduceToNat, Int.reducePow, Int.reduceEq, Int.reduceNe, Nat.reduceMul, Nat.reducePow, Nat.reduceLT, Nat.reduceLeDiff, Nat.reduceBEq, decide_true, decide_false, ne_eq, not_true_eq_false, not_false_eq_true, reduceIte, Nat.min_def, Int.ofNat_eq_natCast, Int.reduceFDiv, size31, sized, D_loop]
    rfl
theorem wrap_small {n : Int} (h : -9223372036854775808 ≤ n ∧ n ≤ 9223372036854775807) : IntKind.i64.wrap n = n := wrap_in h
/-- Where it lies nowhere. -/
theorem mask22_no {off n : Int} (hk : okAt off n = false) (h : Heap) : DF FF 22 [.int .i64 off, .int .i64 n] h = some (.int .i64 0, h) := by
  rw [DF_eq F22]
  cases h1 : sized n
  · simp only [c22, D_seq, D_block, then_normal, then_exit, then_ret, block_normal, block_ret, block_exit, C_ops, C_cond, D_exit, D_ret, D_skip, normal_some, cond_tt, cond_ff, E_nil, E_cons, E_guard, next_some, next_none, guard_tt, guard_ff, guard_tf, guard_ft, guard_tu, ev_tmp, ev_const, ev_global, ev_func, get_succ, get_zero, List.set_cons_succ, List.set_cons_zero, O_mv, O_pick, pickO, O_bin, pairO, O_un, O_conv, convO, O_call, List.map_cons, List.map_nil, O_len, lenO, B_add, B_sub, B_mul, B_band, B_bor, B_bxor, B_bandNot, B_eql, B_neq, B_lss, B_leq, B_gtr, B_geq, B_shl', B_shr', B_rem, B_quo, U_not, U_neg, List.cons_append, List.nil_append, List.replicate_succ, List.replicate_zero, List.length_cons, List.length_nil, Nat.reduceAdd, Nat.reduceSub, Nat.zero_add, end_ret, end_normal, Bool.false_or, Bool.or_false, Bool.true_or, Bool.or_true, Bool.not_true, Bool.not_false, Bool.true_and, Bool.and_true, Bool.false_and, Bool.and_false, size30, h1]
  · have hn := sized_cases h1
    have hw : IntKind.i64.wrap (8 - n) = 8 - n := wrap_small (by omega)
    have hz : n ≠ 0 := by omega
    by_cases h2 : off < 0
    · simp only [c22, D_seq, D_block, then_normal, then_exit, then_ret, block_normal, block_ret, block_exit, C_ops, C_cond, D_exit, D_ret, D_skip, normal_some, cond_tt, cond_ff, E_nil, E_cons, E_guard, next_some, next_none, guard_tt, guard_ff, guard_tf, guard_ft, guard_tu, ev_tmp, ev_const, ev_global, ev_func, get_succ, get_zero, List.set_cons_succ, List.set_cons_zero, O_mv, O_pick, pickO, O_bin, pairO, O_un, O_conv, convO, O_call, List.map_cons, List.map_nil, O_len, lenO, B_add, B_sub, B_mul, B_band, B_bor, B_bxor, B_bandNot, B_eql, B_neq, B_lss, B_leq, B_gtr, B_geq, B_shl', B_shr', B_rem, B_quo, U_not, U_neg, List.cons_append, List.nil_append, List.replicate_succ, List.replicate_zero, List.length_cons, List.length_nil, Nat.reduceAdd, Nat.reduceSub, Nat.zero_add, end_ret, end_normal, Bool.false_or, Bool.or_false, Bool.true_or, Bool.or_true, Bool.not_true, Bool.not_false, Bool.true_and, Bool.and_true, Bool.false_and, Bool.and_false, size30, h1, h2, decide_true]
    · by_cases h3 : 8 - n < off
      · simp only [c22, D_seq, D_block, then_normal, then_exit, then_ret, block_normal, block_ret, block_exit, C_ops, C_cond, D_exit, D_ret, D_skip, normal_some, cond_tt, cond_ff, E_nil, E_cons, E_guard, next_some, next_none, guard_tt, guard_ff, guard_tf, guard_ft, guard_tu, ev_tmp, ev_const, ev_global, ev_func, get_succ, get_zero, List.set_cons_succ, List.set_cons_zero, O_mv, O_pick, pickO, O_bin, pairO, O_un, O_conv, convO, O_call, List.map_cons, List.map_nil, O_len, lenO, B_add, B_sub, B_mul, B_band, B_bor, B_bxor, B_bandNot, B_eql, B_neq, B_lss, B_leq, B_gtr, B_geq, B_shl', B_shr', B_rem, B_quo, U_not, U_neg, List.cons_append, List.nil_append, List.replicate_succ, List.replicate_zero, List.length_cons, List.length_nil, Nat.reduceAdd, Nat.reduceSub, Nat.zero_add, end_ret, end_normal, Bool.false_or, Bool.or_false, Bool.true_or, Bool.or_true, Bool.not_true, Bool.not_false, Bool.true_and, Bool.and_true, Bool.false_and, Bool.and_false, size30, h1, h2, decide_true, decide_false, hw, h3]
      · have h4 : (off.tmod n != 0) = true := by
          cases h5 : off.tmod n != 0
          · have h6 : off.tmod n = 0 := by simpa using h5
            have : okAt off n = true := by
              simp [okAt, h1, h6]; omega
            rw [this] at hk; cases hk
          · rfl
        simp only [c22, D_seq, D_block, then_normal, then_exit, then_ret, block_normal, block_ret, block_exit, C_ops, C_cond, D_exit, D_ret, D_skip, normal_some, cond_tt, cond_ff, E_nil, E_cons, E_guard, next_some, next_none, guard_tt, guard_ff, guard_tf, guard_ft, guard_tu, ev_tmp, ev_const, ev_global, ev_func, get_succ, get_zero, List.set_cons_succ, List.set_cons_zero, O_mv, O_pick, pickO, O_bin, pairO, O_un, O_conv, convO, O_call, List.map_cons, List.map_nil, O_len, lenO, B_add, B_sub, B_mul, B_band, B_bor, B_bxor, B_bandNot, B_eql, B_neq, B_lss, B_leq, B_gtr, B_geq, B_shl', B_shr', B_rem, B_quo, U_not, U_neg, List.cons_append, List.nil_append, List.replicate_succ, List.replicate_zero, List.length_cons, List.length_nil, Nat.reduceAdd, Nat.reduceSub, Nat.zero_add, end_ret, end_normal, Bool.false_or, Bool.or_false, Bool.true_or, Bool.or_true, Bool.not_true, Bool.not_false, Bool.true_and, Bool.and_true, Bool.false_and, Bool.and_false, size30, h1, h2, decide_true, decide_false, hw, h3, ne_eq, hz, not_false_eq_true, h4]
theorem mask23_no {off n : Int} (hk : okAt off n = false) (h : Heap) : DF FF 23 [.int .i64 off, .int .i64 n] h = some (.int .i64 0, h) := by
  rw [DF_eq F23]
  cases h1 : sized n
  · simp only [c23, D_seq, D_block, then_normal, then_exit, then_ret, block_normal, block_ret, block_exit, C_ops, C_cond, D_exit, D_ret, D_skip, normal_some, cond_tt, cond_ff, E_nil, E_cons, E_guard, next_some, next_none, guard_tt, guard_ff, guard_tf, guard_ft, guard_tu, ev_tmp, ev_const, ev_global, ev_func, get_succ, get_zero, List.set_cons_succ, List.set_cons_zero, O_mv, O_pick, pickO, O_bin, pairO, O_un, O_conv, convO, O_call, List.map_cons, List.map_nil, O_len, lenO, B_add, B_sub, B_mul, B_band, B_bor, B_bxor, B_bandNot, B_eql, B_neq, B_lss, B_leq, B_gtr, B_geq, B_shl', B_shr', B_rem, B_quo, U_not, U_neg, List.cons_append, List.nil_append, List.replicate_succ, List.replicate_zero, List.length_cons, List.length_nil, Nat.reduceAdd, Nat.reduceSub, Nat.zero_add, end_ret, end_normal, Bool.false_or, Bool.or_false, Bool.true_or, Bool.or_true, Bool.not_true, Bool.not_false, Bool.true_and, Bool.and_true, Bool.false_and, Bool.and_false, size31, h1]
  · have hn := sized_cases h1
    have hw : IntKind.i64.wrap (8 - n) = 8 - n := wrap_small (by omega)
    have hz : n ≠ 0 := by omega
    by_cases h2 : off < 0
    · simp only [c23, D_seq, D_block, then_normal, then_exit, then_ret, block_normal, block_ret, block_exit, C_ops, C_cond, D_exit, D_ret, D_skip, normal_some, cond_tt, cond_ff, E_nil, E_cons, E_guard, next_some, next_none, guard_tt, guard_ff, guard_tf, guard_ft, guard_tu, ev_tmp, ev_const, ev_global, ev_func, get_succ, get_zero, List.set_cons_succ, List.set_cons_zero, O_mv, O_pick, pickO, O_bin, pairO, O_un, O_conv, convO, O_call, List.map_cons, List.map_nil, O_len, lenO, B_add, B_sub, B_mul, B_band, B_bor, B_bxor, B_bandNot, B_eql, B_neq, B_lss, B_leq, B_gtr, B_geq, B_shl', B_shr', B_rem, B_quo, U_not, U_neg, List.cons_append, List.nil_append, List.replicate_succ, List.replicate_zero, List.length_cons, List.length_nil, Nat.reduceAdd, Nat.reduceSub, Nat.zero_add, end_ret, end_normal, Bool.false_or, Bool.or_false, Bool.true_or, Bool.or_true, Bool.not_true, Bool.not_false, Bool.true_and, Bool.and_true, Bool.false_and, Bool.and_false, size31, h1, h2, decide_true]
    · by_cases h3 : 8 - n < off
      · simp only [c23, D_seq, D_block, then_normal, then_exit, then_ret, block_normal, block_ret, block_exit, C_ops, C_cond, D_exit, D_ret, D_skip, normal_some, cond_tt, cond_ff, E_nil, E_cons, E_guard, next_some, next_none, guard_tt, guard_ff, guard_tf, guard_ft, guard_tu, ev_tmp, ev_const, ev_global, ev_func, get_succ, get_zero, List.set_cons_succ, List.set_cons_zero, O_mv, O_pick, pickO, O_bin, pairO, O_un, O_conv, convO, O_call, List.map_cons, List.map_nil, O_len, lenO, B_add, B_sub, B_mul, B_band, B_bor, B_bxor, B_bandNot, B_eql, B_neq, B_lss, B_leq, B_gtr, B_geq, B_shl', B_shr', B_rem, B_quo, U_not, U_neg, List.cons_append, List.nil_append, List.replicate_succ, List.replicate_zero, List.length_cons, List.length_nil, Nat.reduceAdd, Nat.reduceSub, Nat.zero_add, end_ret, end_normal, Bool.false_or, Bool.or_false, Bool.true_or, Bool.or_true, Bool.not_true, Bool.not_false, Bool.true_and, Bool.and_true, Bool.false_and, Bool.and_false, size31, h1, h2, decide_true, decide_false, hw, h3]
      · have h4 : (off.tmod n != 0) = true := by
          cases h5 : off.tmod n != 0
          · have h6 : off.tmod n = 0 := by simpa using h5
            have : okAt off n = true := by
              simp [okAt, h1, h6]; omega
            rw [this] at hk; cases hk
          · rfl
        simp only [c23, D_seq, D_block, then_normal, then_exit, then_ret, block_normal, block_ret, block_exit, C_ops, C_cond, D_exit, D_ret, D_skip, normal_some, cond_tt, cond_ff, E_nil, E_cons, E_guard, next_some, next_none, guard_tt, guard_ff, guard_tf, guard_ft, guard_tu, ev_tmp, ev_const, ev_global, ev_func, get_succ, get_zero, List.set_cons_succ, List.set_cons_zero, O_mv, O_pick, pickO, O_bin, pairO, O_un, O_conv, convO, O_call, List.map_cons, List.map_nil, O_len, lenO, B_add, B_sub, B_mul, B_band, B_bor, B_bxor, B_bandNot, B_eql, B_neq, B_lss, B_leq, B_gtr, B_geq, B_shl', B_shr', B_rem, B_quo, U_not, U_neg, List.cons_append, List.nil_append, List.replicate_succ, List.replicate_zero, List.length_cons, List.length_nil, Nat.reduceAdd, Nat.reduceSub, Nat.zero_add, end_ret, end_normal, Bool.false_or, Bool.or_false, Bool.true_or, Bool.or_true, Bool.not_true, Bool.not_false, Bool.true_and, Bool.and_true, Bool.false_and, Bool.and_false, size31, h1, h2, decide_true, decide_false, hw, h3, ne_eq, hz, not_false_eq_true, h4]
theorem mask22 (off n : Int) (h : Heap) : DF FF 22 [.int .i64 off, .int .i64 n] h = some (.int .i64 (maskV off n), h) := by
  cases hk : okAt off n
  · rw [mask22_no hk, maskV, hk]; rfl
  · exact mask22_ok hk h
theorem mask23 (off n : Int) (h : Heap) : DF FF 23 [.int .i64 off, .int .i64 n] h = some (.int .i64 (maskV off n), h) := by
  cases hk : okAt off n
  · rw [mask23_no hk, maskV, hk]; rfl
  · exact mask23_ok hk h
end Go.Proofs.Ytcdjdmcacomkgaa.AM
