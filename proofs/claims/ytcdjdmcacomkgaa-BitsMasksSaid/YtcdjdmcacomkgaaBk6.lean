/-
  What is laid in, places, counts, what instructions compute: both ways.
  Conditions: the values are in int's range.
-/
import Derived.Test.YtcdjdmcacomkgaaBk5
namespace Go.Proofs.Ytcdjdmcacomkgaa.AM
open Go.RowKit
set_option linter.unusedSimpArgs false
set_option linter.unusedVariables false

theorem b_maskV {off n : Int} (hk : okAt off n = true) : ∀ k, k < 64 → bi (maskV off n) k = (decide (off.toNat ≤ k) && decide (k < off.toNat + n.toNat)) :=
  ok_all (p := fun off n => ∀ k, k < 64 → bi (maskV off n) k = (decide (off.toNat ≤ k) && decide (k < off.toNat + n.toNat))) (by decide +kernel) hk
theorem union_mask {off n : Int} (hk : okAt off n = true) : unionV [maskV off n] = maskV off n :=
  ok_all (p := fun off n => unionV [maskV off n] = maskV off n) (by decide +kernel) hk
theorem W_maskV (off n : Int) : W (maskV off n) := by
  cases hk : okAt off n
  · unfold maskV W; rw [hk]; simp
  · exact ok_all (p := fun off n => W (maskV off n)) (by unfold W; decide +kernel) hk
/-- What is laid in. -/
def putV (v off n x : Int) : Int := if okAt off n then blendV v (shl .i64 x (8 * off)) (maskV off n) else v
theorem W_putV (v off n x : Int) (hv : W v) : W (putV v off n x) := by
  unfold putV; split
  · exact W_blendV _ _ _
  · exact hv
theorem ints_last (h : Heap) (m : Int) : Ints (h ++ [AObj.cells [.int .i64 m] 0 false]) (slc h.length 0 0 1 1) [m] := ⟨_, rfl, by rw [show ([m] : List Int).length = 1 from rfl, read_last h _ 1 (by simp)]; rfl⟩
theorem blend_low (v x : Int) {off n : Int} (hk : okAt off n = true) (y : Int) (hy : ∀ i, i < 64 → bi y i = (decide (i < 8 * n.toNat) && bi x i)) : blendV v (shl .i64 y (8 * off)) (maskV off n) = blendV v (shl .i64 x (8 * off)) (maskV off n) := by
  have hr := ok_range hk
  refine ext (W_blendV _ _ _) (W_blendV _ _ _) fun i hi => ?_
  rw [b_blendV _ _ _ hi, b_blendV _ _ _ hi, b_maskV hk _ (by omega)]
  split
  · rename_i hc
    simp only [Bool.and_eq_true, decide_eq_true_eq] at hc
    rw [b_shl _ _ (by omega) (by omega) hi, b_shl _ _ (by omega) (by omega) hi, hy _ (by omega)]
    simp [show i - (8 * off).toNat < 8 * n.toNat by omega]
  · rfl
theorem put12 (v off n x : Int) (hv : W v) (hx : W x) (h : Heap) : DF FF n_bits_Put [.int .i64 v, .int .i64 off, .int .i64 n, .int .i64 x] h = some (.int .i64 (putV v off n x), h) := by
  refine fun_wp F_bits_Put ?_
  cases hk : okAt off n
  · simp only [c_bits_Put, C_ops, C_cond, D_exit, D_ret, D_skip, normal_some, cond_tt, cond_ff, E_nil, E_cons, E_guard, next_some, next_none, guard_tt, guard_ff, guard_tf, guard_ft, guard_tu, ev_tmp, ev_const, ev_global, ev_func, get_succ, get_zero, List.set_cons_succ, List.set_cons_zero, O_mv, O_pick, pickO, O_bin, pairO, O_un, O_conv, convO, O_call, List.map_cons, List.map_nil, O_len, len_slice, O_atRow, O_load1, load1_ptr, O_load, load_ptr, O_mkRow, O_build, mk_some, build_some, partsV_nil, partsV_cons, zeros_zero, zeros_succ, fill_nil, fill_int, fill_bool, fill_slice, fill_string, Nat.lt_add_one, Nat.zero_lt_succ, Nat.reduceLT, Nat.zero_lt_one, B_add, B_sub, B_mul, B_band, B_bor, B_bxor, B_bandNot, B_eql, B_neq, B_lss, B_leq, B_gtr, B_geq, B_shl', B_shr', B_rem, B_quo, U_not, U_neg, List.cons_append, List.nil_append, List.replicate_succ, List.replicate_zero, List.length_cons, List.length_nil, Nat.reduceAdd, Nat.reduceSub, Nat.zero_add, end_ret, end_normal, Bool.false_or, Bool.or_false, Bool.true_or, Bool.or_true, Bool.not_true, Bool.not_false, Bool.true_and, Bool.and_true, Bool.false_and, Bool.and_false, W_some, W_seq, W_block, Q_cont_normal, Q_cont_ret, Q_cont_exit, Q_block_normal, Q_block_ret, Q_block_exit, Q_loop_normal, Q_loop_ret, Q_loop_exit, Q_ret, Q_ret', mask22, mask_no hk]
    simp [putV, hk]
  · have hr := ok_range hk
    have h0 : (0 : Int) ≤ 8 * off := by omega
    have h1 : 0 ≤ IntKind.i64.wrap (8 * n) := by rw [wrap8 (by omega)]; omega
    have hB := blend14 v (shl .i64 (if n = 8 then x else Go.bits .and .i64 x (IntKind.i64.wrap (shl .i64 1 (IntKind.i64.wrap (8 * n)) - 1))) (8 * off)) hv (W_shl _ _) [maskV off n] (slc h.length 0 0 1 1) (h ++ [AObj.cells [.int .i64 (maskV off n)] 0 false]) (ints_last h _) (by simp)
    simp only [c_bits_Put, C_ops, C_cond, D_exit, D_ret, D_skip, normal_some, cond_tt, cond_ff, E_nil, E_cons, E_guard, next_some, next_none, guard_tt, guard_ff, guard_tf, guard_ft, guard_tu, ev_tmp, ev_const, ev_global, ev_func, get_succ, get_zero, List.set_cons_succ, List.set_cons_zero, O_mv, O_pick, pickO, O_bin, pairO, O_un, O_conv, convO, O_call, List.map_cons, List.map_nil, O_len, len_slice, O_atRow, O_load1, load1_ptr, O_load, load_ptr, O_mkRow, O_build, mk_some, build_some, partsV_nil, partsV_cons, zeros_zero, zeros_succ, fill_nil, fill_int, fill_bool, fill_slice, fill_string, Nat.lt_add_one, Nat.zero_lt_succ, Nat.reduceLT, Nat.zero_lt_one, B_add, B_sub, B_mul, B_band, B_bor, B_bxor, B_bandNot, B_eql, B_neq, B_lss, B_leq, B_gtr, B_geq, B_shl', B_shr', B_rem, B_quo, U_not, U_neg, List.cons_append, List.nil_append, List.replicate_succ, List.replicate_zero, List.length_cons, List.length_nil, Nat.reduceAdd, Nat.reduceSub, Nat.zero_add, end_ret, end_normal, Bool.false_or, Bool.or_false, Bool.true_or, Bool.or_true, Bool.not_true, Bool.not_false, Bool.true_and, Bool.and_true, Bool.false_and, Bool.and_false, W_some, W_seq, W_block, Q_cont_normal, Q_cont_ret, Q_cont_exit, Q_block_normal, Q_block_ret, Q_block_exit, Q_loop_normal, Q_loop_ret, Q_loop_exit, Q_ret, Q_ret', mask22, mask_ne hk, wrap8 (k := off) (by omega), h0, low28 _ _ _ h1, hB]
    rw [Q_more _ _ _ _ _ rfl]
    simp only [get_succ, get_zero, putV, hk, if_true]
    rw [union_mask hk, blend_low v x hk _ fun i hi => lowV x n hx (by omega) hi]
theorem put13 (v off n x : Int) (hv : W v) (hx : W x) (h : Heap) : DF FF n_belatedref1_Put [.int .i64 v, .int .i64 off, .int .i64 n, .int .i64 x] h = some (.int .i64 (putV v off n x), h) := by
  refine fun_wp F_belatedref1_Put ?_
  cases hk : okAt off n
  · simp only [c_belatedref1_Put, C_ops, C_cond, D_exit, D_ret, D_skip, normal_some, cond_tt, cond_ff, E_nil, E_cons, E_guard, next_some, next_none, guard_tt, guard_ff, guard_tf, guard_ft, guard_tu, ev_tmp, ev_const, ev_global, ev_func, get_succ, get_zero, List.set_cons_succ, List.set_cons_zero, O_mv, O_pick, pickO, O_bin, pairO, O_un, O_conv, convO, O_call, List.map_cons, List.map_nil, O_len, len_slice, O_atRow, O_load1, load1_ptr, O_load, load_ptr, O_mkRow, O_build, mk_some, build_some, partsV_nil, partsV_cons, zeros_zero, zeros_succ, fill_nil, fill_int, fill_bool, fill_slice, fill_string, Nat.lt_add_one, Nat.zero_lt_succ, Nat.reduceLT, Nat.zero_lt_one, B_add, B_sub, B_mul, B_band, B_bor, B_bxor, B_bandNot, B_eql, B_neq, B_lss, B_leq, B_gtr, B_geq, B_shl', B_shr', B_rem, B_quo, U_not, U_neg, List.cons_append, List.nil_append, List.replicate_succ, List.replicate_zero, List.length_cons, List.length_nil, Nat.reduceAdd, Nat.reduceSub, Nat.zero_add, end_ret, end_normal, Bool.false_or, Bool.or_false, Bool.true_or, Bool.or_true, Bool.not_true, Bool.not_false, Bool.true_and, Bool.and_true, Bool.false_and, Bool.and_false, W_some, W_seq, W_block, Q_cont_normal, Q_cont_ret, Q_cont_exit, Q_block_normal, Q_block_ret, Q_block_exit, Q_loop_normal, Q_loop_ret, Q_loop_exit, Q_ret, Q_ret', mask23, mask_no hk]
    simp [putV, hk]
  · have hr := ok_range hk
    have h0 : (0 : Int) ≤ 8 * off := by omega
    simp only [c_belatedref1_Put, C_ops, C_cond, D_exit, D_ret, D_skip, normal_some, cond_tt, cond_ff, E_nil, E_cons, E_guard, next_some, next_none, guard_tt, guard_ff, guard_tf, guard_ft, guard_tu, ev_tmp, ev_const, ev_global, ev_func, get_succ, get_zero, List.set_cons_succ, List.set_cons_zero, O_mv, O_pick, pickO, O_bin, pairO, O_un, O_conv, convO, O_call, List.map_cons, List.map_nil, O_len, len_slice, O_atRow, O_load1, load1_ptr, O_load, load_ptr, O_mkRow, O_build, mk_some, build_some, partsV_nil, partsV_cons, zeros_zero, zeros_succ, fill_nil, fill_int, fill_bool, fill_slice, fill_string, Nat.lt_add_one, Nat.zero_lt_succ, Nat.reduceLT, Nat.zero_lt_one, B_add, B_sub, B_mul, B_band, B_bor, B_bxor, B_bandNot, B_eql, B_neq, B_lss, B_leq, B_gtr, B_geq, B_shl', B_shr', B_rem, B_quo, U_not, U_neg, List.cons_append, List.nil_append, List.replicate_succ, List.replicate_zero, List.length_cons, List.length_nil, Nat.reduceAdd, Nat.reduceSub, Nat.zero_add, end_ret, end_normal, Bool.false_or, Bool.or_false, Bool.true_or, Bool.or_true, Bool.not_true, Bool.not_false, Bool.true_and, Bool.and_true, Bool.false_and, Bool.and_false, W_some, W_seq, W_block, Q_cont_normal, Q_cont_ret, Q_cont_exit, Q_block_normal, Q_block_ret, Q_block_exit, Q_loop_normal, Q_loop_ret, Q_loop_exit, Q_ret, Q_ret', mask23, mask_ne hk, wrap8 (k := off) (by omega), h0, blend17 v _ _ hv (W_shl _ _) (W_maskV _ _)]
    simp [putV, hk]

/-- The place. -/
def placeV (off index n : Int) : Int := if sized n then Go.bits .andNot .i64 (Go.bits .and .i64 (IntKind.i64.wrap (off + index)) 7) (IntKind.i64.wrap (n - 1)) else -1
theorem and_seven (x : Int) : ∃ k : Nat, k < 8 ∧ Go.bits .and .i64 x 7 = k := by
  refine ⟨(B x &&& 7#64).toNat, ?_, ?_⟩
  · rw [BitVec.toNat_and]
    exact Nat.lt_of_le_of_lt Nat.and_le_right (by decide)
  · have : (B x &&& 7#64).toNat < 8 := by
      rw [BitVec.toNat_and]
      exact Nat.lt_of_le_of_lt Nat.and_le_right (by decide)
    unfold Go.bits
    exact wrap_small (by show -9223372036854775808 ≤ ((B x &&& 7#64).toNat : Int) ∧ ((B x &&& 7#64).toNat : Int) ≤ _; omega)
theorem place24 (off index n : Int) (h : Heap) : DF FF n_bits_Place [.int .i64 off, .int .i64 index, .int .i64 n] h = some (.int .i64 (placeV off index n), h) := by
  refine fun_wp F_bits_Place ?_
  cases hk : sized n
  · simp only [c_bits_Place, C_ops, C_cond, D_exit, D_ret, D_skip, normal_some, cond_tt, cond_ff, E_nil, E_cons, E_guard, next_some, next_none, guard_tt, guard_ff, guard_tf, guard_ft, guard_tu, ev_tmp, ev_const, ev_global, ev_func, get_succ, get_zero, List.set_cons_succ, List.set_cons_zero, O_mv, O_pick, pickO, O_bin, pairO, O_un, O_conv, convO, O_call, List.map_cons, List.map_nil, O_len, len_slice, O_atRow, O_load1, load1_ptr, O_load, load_ptr, O_mkRow, O_build, mk_some, build_some, partsV_nil, partsV_cons, zeros_zero, zeros_succ, fill_nil, fill_int, fill_bool, fill_slice, fill_string, Nat.lt_add_one, Nat.zero_lt_succ, Nat.reduceLT, Nat.zero_lt_one, B_add, B_sub, B_mul, B_band, B_bor, B_bxor, B_bandNot, B_eql, B_neq, B_lss, B_leq, B_gtr, B_geq, B_shl', B_shr', B_rem, B_quo, U_not, U_neg, List.cons_append, List.nil_append, List.replicate_succ, List.replicate_zero, List.length_cons, List.length_nil, Nat.reduceAdd, Nat.reduceSub, Nat.zero_add, end_ret, end_normal, Bool.false_or, Bool.or_false, Bool.true_or, Bool.or_true, Bool.not_true, Bool.not_false, Bool.true_and, Bool.and_true, Bool.false_and, Bool.and_false, W_some, W_seq, W_block, Q_cont_normal, Q_cont_ret, Q_cont_exit, Q_block_normal, Q_block_ret, Q_block_exit, Q_loop_normal, Q_loop_ret, Q_loop_exit, Q_ret, Q_ret', size30, hk]
    simp [placeV, hk]
  · simp only [c_bits_Place, C_ops, C_cond, D_exit, D_ret, D_skip, normal_some, cond_tt, cond_ff, E_nil, E_cons, E_guard, next_some, next_none, guard_tt, guard_ff, guard_tf, guard_ft, guard_tu, ev_tmp, ev_const, ev_global, ev_func, get_succ, get_zero, List.set_cons_succ, List.set_cons_zero, O_mv, O_pick, pickO, O_bin, pairO, O_un, O_conv, convO, O_call, List.map_cons, List.map_nil, O_len, len_slice, O_atRow, O_load1, load1_ptr, O_load, load_ptr, O_mkRow, O_build, mk_some, build_some, partsV_nil, partsV_cons, zeros_zero, zeros_succ, fill_nil, fill_int, fill_bool, fill_slice, fill_string, Nat.lt_add_one, Nat.zero_lt_succ, Nat.reduceLT, Nat.zero_lt_one, B_add, B_sub, B_mul, B_band, B_bor, B_bxor, B_bandNot, B_eql, B_neq, B_lss, B_leq, B_gtr, B_geq, B_shl', B_shr', B_rem, B_quo, U_not, U_neg, List.cons_append, List.nil_append, List.replicate_succ, List.replicate_zero, List.length_cons, List.length_nil, Nat.reduceAdd, Nat.reduceSub, Nat.zero_add, end_ret, end_normal, Bool.false_or, Bool.or_false, Bool.true_or, Bool.or_true, Bool.not_true, Bool.not_false, Bool.true_and, Bool.and_true, Bool.false_and, Bool.and_false, W_some, W_seq, W_block, Q_cont_normal, Q_cont_ret, Q_cont_exit, Q_block_normal, Q_block_ret, Q_block_exit, Q_loop_normal, Q_loop_ret, Q_loop_exit, Q_ret, Q_ret', size30, hk]
    simp [placeV, hk]
theorem place_eq : ∀ k : Nat, k < 8 → ∀ n ∈ [(1 : Int), 2, 4, 8], IntKind.i64.wrap ((k : Int) - (k : Int).tmod n) = Go.bits .andNot .i64 (k : Int) (IntKind.i64.wrap (n - 1)) := by decide +kernel
theorem place25 (off index n : Int) (h : Heap) : DF FF n_belatedref1_Place [.int .i64 off, .int .i64 index, .int .i64 n] h = some (.int .i64 (placeV off index n), h) := by
  refine fun_wp F_belatedref1_Place ?_
  cases hk : sized n
  · simp only [c_belatedref1_Place, C_ops, C_cond, D_exit, D_ret, D_skip, normal_some, cond_tt, cond_ff, E_nil, E_cons, E_guard, next_some, next_none, guard_tt, guard_ff, guard_tf, guard_ft, guard_tu, ev_tmp, ev_const, ev_global, ev_func, get_succ, get_zero, List.set_cons_succ, List.set_cons_zero, O_mv, O_pick, pickO, O_bin, pairO, O_un, O_conv, convO, O_call, List.map_cons, List.map_nil, O_len, len_slice, O_atRow, O_load1, load1_ptr, O_load, load_ptr, O_mkRow, O_build, mk_some, build_some, partsV_nil, partsV_cons, zeros_zero, zeros_succ, fill_nil, fill_int, fill_bool, fill_slice, fill_string, Nat.lt_add_one, Nat.zero_lt_succ, Nat.reduceLT, Nat.zero_lt_one, B_add, B_sub, B_mul, B_band, B_bor, B_bxor, B_bandNot, B_eql, B_neq, B_lss, B_leq, B_gtr, B_geq, B_shl', B_shr', B_rem, B_quo, U_not, U_neg, List.cons_append, List.nil_append, List.replicate_succ, List.replicate_zero, List.length_cons, List.length_nil, Nat.reduceAdd, Nat.reduceSub, Nat.zero_add, end_ret, end_normal, Bool.false_or, Bool.or_false, Bool.true_or, Bool.or_true, Bool.not_true, Bool.not_false, Bool.true_and, Bool.and_true, Bool.false_and, Bool.and_false, W_some, W_seq, W_block, Q_cont_normal, Q_cont_ret, Q_cont_exit, Q_block_normal, Q_block_ret, Q_block_exit, Q_loop_normal, Q_loop_ret, Q_loop_exit, Q_ret, Q_ret', size31, hk]
    simp [placeV, hk]
  · have hn := sized_cases hk
    have hz : n ≠ 0 := by omega
    simp only [c_belatedref1_Place, C_ops, C_cond, D_exit, D_ret, D_skip, normal_some, cond_tt, cond_ff, E_nil, E_cons, E_guard, next_some, next_none, guard_tt, guard_ff, guard_tf, guard_ft, guard_tu, ev_tmp, ev_const, ev_global, ev_func, get_succ, get_zero, List.set_cons_succ, List.set_cons_zero, O_mv, O_pick, pickO, O_bin, pairO, O_un, O_conv, convO, O_call, List.map_cons, List.map_nil, O_len, len_slice, O_atRow, O_load1, load1_ptr, O_load, load_ptr, O_mkRow, O_build, mk_some, build_some, partsV_nil, partsV_cons, zeros_zero, zeros_succ, fill_nil, fill_int, fill_bool, fill_slice, fill_string, Nat.lt_add_one, Nat.zero_lt_succ, Nat.reduceLT, Nat.zero_lt_one, B_add, B_sub, B_mul, B_band, B_bor, B_bxor, B_bandNot, B_eql, B_neq, B_lss, B_leq, B_gtr, B_geq, B_shl', B_shr', B_rem, B_quo, U_not, U_neg, List.cons_append, List.nil_append, List.replicate_succ, List.replicate_zero, List.length_cons, List.length_nil, Nat.reduceAdd, Nat.reduceSub, Nat.zero_add, end_ret, end_normal, Bool.false_or, Bool.or_false, Bool.true_or, Bool.or_true, Bool.not_true, Bool.not_false, Bool.true_and, Bool.and_true, Bool.false_and, Bool.and_false, W_some, W_seq, W_block, Q_cont_normal, Q_cont_ret, Q_cont_exit, Q_block_normal, Q_block_ret, Q_block_exit, Q_loop_normal, Q_loop_ret, Q_loop_exit, Q_ret, Q_ret', size31, hk, ne_eq, hz, not_false_eq_true]
    obtain ⟨k, h8, e⟩ := and_seven (IntKind.i64.wrap (off + index))
    simp only [placeV, hk, if_true, e]
    rw [place_eq k h8 n (by simp only [List.mem_cons, List.not_mem_nil, or_false]; exact hn)]

def tab : ByteArray := ⟨#[0, 1, 1, 2, 1, 2, 2, 3, 1, 2, 2, 3, 2, 3, 3, 4, 1, 2, 2, 3, 2, 3, 3, 4, 2, 3, 3, 4, 3, 4, 4, 5, 1, 2, 2, 3, 2, 3, 3, 4, 2, 3, 3, 4, 3, 4, 4, 5, 2, 3, 3, 4, 3, 4, 4, 5, 3, 4, 4, 5, 4, 5, 5, 6, 1, 2, 2, 3, 2, 3, 3, 4, 2, 3, 3, 4, 3, 4, 4, 5, 2, 3, 3, 4, 3, 4, 4, 5, 3, 4, 4, 5, 4, 5, 5, 6, 2, 3, 3, 4, 3, 4, 4, 5, 3, 4, 4, 5, 4, 5, 5, 6, 3, 4, 4, 5, 4, 5, 5, 6, 4, 5, 5, 6, 5, 6, 6, 7, 1, 2, 2, 3, 2, 3, 3, 4, 2, 3, 3, 4, 3, 4, 4, 5, 2, 3, 3, 4, 3, 4, 4, 5, 3, 4, 4, 5, 4, 5, 5, 6, 2, 3, 3, 4, 3, 4, 4, 5, 3, 4, 4, 5, 4, 5, 5, 6, 3, 4, 4, 5, 4, 5, 5, 6, 4, 5, 5, 6, 5, 6, 6, 7, 2, 3, 3, 4, 3, 4, 4, 5, 3, 4, 4, 5, 4, 5, 5, 6, 3, 4, 4, 5, 4, 5, 5, 6, 4, 5, 5, 6, 5, 6, 6, 7, 3, 4, 4, 5, 4, 5, 5, 6, 4, 5, 5, 6, 5, 6, 6, 7, 4, 5, 5, 6, 5, 6, 6, 7, 5, 6, 6, 7, 6, 7, 7, 8]⟩
def c_math_bits_OnesCount8' : AFunc := ⟨6, [.tmp 2],
 (.seq (.ops [⟨(some 2), .mv (.const (.int .i64 0)), none⟩])
 (.seq (.ops [⟨(some 3), .mv (.tmp 0), none⟩,
   ⟨(some 4), .idxStr (.const (.string tab)) (.tmp 3), none⟩,
   ⟨(some 5), .conv .i64 (.tmp 4), none⟩,
   ⟨(some 2), .mv (.tmp 5), none⟩])
 .ret))⟩
theorem F_math_bits_OnesCount8' : FF 32 = some c_math_bits_OnesCount8' := F_math_bits_OnesCount8
/-- How many of the lowest eight bits. -/
def pop (f : Nat → Bool) : Nat → Nat
  | 0 => 0
  | n + 1 => pop f n + if f n then 1 else 0
theorem tab_is : ∀ b, b < 256 → tab.data.toList[b]? = some (UInt8.ofNat (pop (fun k => b.testBit k) 8)) := by decide +kernel
theorem pop_le (f : Nat → Bool) (n : Nat) : pop f n ≤ n := by
  induction n with
  | zero => exact Nat.le_refl _
  | succ n ih => unfold pop; split <;> omega
theorem pop_congr {f g : Nat → Bool} {n : Nat} (h : ∀ k, k < n → f k = g k) : pop f n = pop g n := by
  induction n with
  | zero => rfl
  | succ n ih => unfold pop; rw [ih fun k hk => h k (by omega), h n (by omega)]
def idxO (h : Heap) : Value → Value → Option (Value × Heap)
  | .string s, .int _ k => if 0 ≤ k then (s.data.toList[k.toNat]?).map fun b => (.int .u8 b.toNat, h) else none
  | _, _ => none
theorem O_idxStr {call : Caller} (ρ : Operand → Value) (h : Heap) (x i : Operand) : evOp call ρ h (.idxStr x i) = idxO h (ρ x) (ρ i) := by
  simp only [evOp]; generalize ρ x = x; generalize ρ i = y
  cases x with
  | string s => cases y <;> rfl
  | _ => rfl
theorem idx_some {h : Heap} {s : ByteArray} {kk : IntKind} {k : Int} {b : UInt8} (h0 : 0 ≤ k) (hb : s.data.toList[k.toNat]? = some b) : idxO h (.string s) (.int kk k) = some (.int .u8 b.toNat, h) := by
  simp only [idxO]; rw [if_pos h0, hb]; rfl
/-- How many bytes a mask has. -/
def countV (m : Int) : Int := pop (fun k => bi m k) 8
theorem u8_wrap (m : Int) : IntKind.u8.wrap m = ((B m).toNat % 256 : Nat) := by
  have e : IntKind.u8.wrap m = m % 256 := by simp [IntKind.wrap, IntKind.signed, IntKind.bits]
  rw [e]
  unfold B
  rw [BitVec.toNat_ofInt]
  have h0 : 0 ≤ m % ((2 ^ 64 : Nat) : Int) := Int.emod_nonneg _ (by decide)
  rw [Int.natCast_emod, Int.toNat_of_nonneg h0, two64]
  show m % 256 = m % 18446744073709551616 % 256
  omega
theorem count26 (m : Int) (h : Heap) : DF FF n_bits_Count [.int .i64 m] h = some (.int .i64 (countV m), h) := by
  have h32 : ∀ b : Nat, b < 256 → DF FF n_math_bits_OnesCount8 [.int .u8 b] h = some (.int .i64 (pop (fun k => b.testBit k) 8), h) := by
    intro b hb
    refine fun_wp F_math_bits_OnesCount8' ?_
    have hi := idx_some (h := h) (s := tab) (kk := .u8) (k := (b : Int)) (by omega) (tab_is b hb)
    have hp := pop_le (fun k => b.testBit k) 8
    simp only [c_math_bits_OnesCount8', C_ops, C_cond, D_exit, D_ret, D_skip, normal_some, cond_tt, cond_ff, E_nil, E_cons, E_guard, next_some, next_none, guard_tt, guard_ff, guard_tf, guard_ft, guard_tu, ev_tmp, ev_const, ev_global, ev_func, get_succ, get_zero, List.set_cons_succ, List.set_cons_zero, O_mv, O_pick, pickO, O_bin, pairO, O_un, O_conv, convO, O_call, List.map_cons, List.map_nil, O_len, len_slice, O_atRow, O_load1, load1_ptr, O_load, load_ptr, O_mkRow, O_build, mk_some, build_some, partsV_nil, partsV_cons, zeros_zero, zeros_succ, fill_nil, fill_int, fill_bool, fill_slice, fill_string, Nat.lt_add_one, Nat.zero_lt_succ, Nat.reduceLT, Nat.zero_lt_one, B_add, B_sub, B_mul, B_band, B_bor, B_bxor, B_bandNot, B_eql, B_neq, B_lss, B_leq, B_gtr, B_geq, B_shl', B_shr', B_rem, B_quo, U_not, U_neg, List.cons_append, List.nil_append, List.replicate_succ, List.replicate_zero, List.length_cons, List.length_nil, Nat.reduceAdd, Nat.reduceSub, Nat.zero_add, end_ret, end_normal, Bool.false_or, Bool.or_false, Bool.true_or, Bool.or_true, Bool.not_true, Bool.not_false, Bool.true_and, Bool.and_true, Bool.false_and, Bool.and_false, W_some, W_seq, W_block, Q_cont_normal, Q_cont_ret, Q_cont_exit, Q_block_normal, Q_block_ret, Q_block_exit, Q_loop_normal, Q_loop_ret, Q_loop_exit, Q_ret, Q_ret', O_idxStr, hi]
    rw [wrap_small (by simp [UInt8.toNat_ofNat]; omega)]
    simp [UInt8.toNat_ofNat]; omega
  refine fun_wp F_bits_Count ?_
  simp only [c_bits_Count, C_ops, C_cond, D_exit, D_ret, D_skip, normal_some, cond_tt, cond_ff, E_nil, E_cons, E_guard, next_some, next_none, guard_tt, guard_ff, guard_tf, guard_ft, guard_tu, ev_tmp, ev_const, ev_global, ev_func, get_succ, get_zero, List.set_cons_succ, List.set_cons_zero, O_mv, O_pick, pickO, O_bin, pairO, O_un, O_conv, convO, O_call, List.map_cons, List.map_nil, O_len, len_slice, O_atRow, O_load1, load1_ptr, O_load, load_ptr, O_mkRow, O_build, mk_some, build_some, partsV_nil, partsV_cons, zeros_zero, zeros_succ, fill_nil, fill_int, fill_bool, fill_slice, fill_string, Nat.lt_add_one, Nat.zero_lt_succ, Nat.reduceLT, Nat.zero_lt_one, B_add, B_sub, B_mul, B_band, B_bor, B_bxor, B_bandNot, B_eql, B_neq, B_lss, B_leq, B_gtr, B_geq, B_shl', B_shr', B_rem, B_quo, U_not, U_neg, List.cons_append, List.nil_append, List.replicate_succ, List.replicate_zero, List.length_cons, List.length_nil, Nat.reduceAdd, Nat.reduceSub, Nat.zero_add, end_ret, end_normal, Bool.false_or, Bool.or_false, Bool.true_or, Bool.or_true, Bool.not_true, Bool.not_false, Bool.true_and, Bool.and_true, Bool.false_and, Bool.and_false, W_some, W_seq, W_block, Q_cont_normal, Q_cont_ret, Q_cont_exit, Q_block_normal, Q_block_ret, Q_block_exit, Q_loop_normal, Q_loop_ret, Q_loop_exit, Q_ret, Q_ret', u8_wrap, h32 _ (Nat.mod_lt _ (by decide))]
  congr 4
  refine pop_congr fun k hk => ?_
  show ((B m).toNat % 2 ^ 8).testBit k = _
  rw [Nat.testBit_mod_two_pow]; simp [hk, bi, BitVec.getLsbD]
theorem count27 (m : Int) (hm : W m) (h : Heap) : DF FF n_belatedref1_Count [.int .i64 m] h = some (.int .i64 (countV m), h) := by
  refine fun_wp F_belatedref1_Count ?_
  simp only [c_belatedref1_Count, C_ops, C_cond, D_exit, D_ret, D_skip, normal_some, cond_tt, cond_ff, E_nil, E_cons, E_guard, next_some, next_none, guard_tt, guard_ff, guard_tf, guard_ft, guard_tu, ev_tmp, ev_const, ev_global, ev_func, get_succ, get_zero, List.set_cons_succ, List.set_cons_zero, O_mv, O_pick, pickO, O_bin, pairO, O_un, O_conv, convO, O_call, List.map_cons, List.map_nil, O_len, len_slice, O_atRow, O_load1, load1_ptr, O_load, load_ptr, O_mkRow, O_build, mk_some, build_some, partsV_nil, partsV_cons, zeros_zero, zeros_succ, fill_nil, fill_int, fill_bool, fill_slice, fill_string, Nat.lt_add_one, Nat.zero_lt_succ, Nat.reduceLT, Nat.zero_lt_one, B_add, B_sub, B_mul, B_band, B_bor, B_bxor, B_bandNot, B_eql, B_neq, B_lss, B_leq, B_gtr, B_geq, B_shl', B_shr', B_rem, B_quo, U_not, U_neg, List.cons_append, List.nil_append, List.replicate_succ, List.replicate_zero, List.length_cons, List.length_nil, Nat.reduceAdd, Nat.reduceSub, Nat.zero_add, end_ret, end_normal, Bool.false_or, Bool.or_false, Bool.true_or, Bool.or_true, Bool.not_true, Bool.not_false, Bool.true_and, Bool.and_true, Bool.false_and, Bool.and_false, W_some, W_seq, W_block, Q_cont_normal, Q_cont_ret, Q_cont_exit, Q_block_normal, Q_block_ret, Q_block_exit, Q_loop_normal, Q_loop_ret, Q_loop_exit, Q_ret, Q_ret']
  refine loop_wp (fun r s => ∃ (k : Nat), r + k = 8 ∧
      ∃ j : Nat → Value, s = ⟨[.int .i64 m, j 1, j 2, .int .i64 (pop (fun k => bi m k) k), .int .i64 k, j 5, j 6, j 7, j 8, j 9, j 10, j 11, j 12, j 13, j 14, j 15], h⟩) ?_ 8 _ ?_
  · rintro r s ⟨k, hr, j, rfl⟩
    by_cases hlt : k < 8
    · have h1 : (k : Int) < 8 := by omega
      have h2 : (0 : Int) ≤ k := by omega
      have hp := pop_le (fun k => bi m k) k
      have e : bi (shr .i64 m k) 0 = bi m k := by
        rw [b_shr m k hm (by omega) (by omega)]
        simp [show k < 64 by omega]
      simp only [C_ops, C_cond, D_exit, D_ret, D_skip, normal_some, cond_tt, cond_ff, E_nil, E_cons, E_guard, next_some, next_none, guard_tt, guard_ff, guard_tf, guard_ft, guard_tu, ev_tmp, ev_const, ev_global, ev_func, get_succ, get_zero, List.set_cons_succ, List.set_cons_zero, O_mv, O_pick, pickO, O_bin, pairO, O_un, O_conv, convO, O_call, List.map_cons, List.map_nil, O_len, len_slice, O_atRow, O_load1, load1_ptr, O_load, load_ptr, O_mkRow, O_build, mk_some, build_some, partsV_nil, partsV_cons, zeros_zero, zeros_succ, fill_nil, fill_int, fill_bool, fill_slice, fill_string, Nat.lt_add_one, Nat.zero_lt_succ, Nat.reduceLT, Nat.zero_lt_one, B_add, B_sub, B_mul, B_band, B_bor, B_bxor, B_bandNot, B_eql, B_neq, B_lss, B_leq, B_gtr, B_geq, B_shl', B_shr', B_rem, B_quo, U_not, U_neg, List.cons_append, List.nil_append, List.replicate_succ, List.replicate_zero, List.length_cons, List.length_nil, Nat.reduceAdd, Nat.reduceSub, Nat.zero_add, end_ret, end_normal, Bool.false_or, Bool.or_false, Bool.true_or, Bool.or_true, Bool.not_true, Bool.not_false, Bool.true_and, Bool.and_true, Bool.false_and, Bool.and_false, W_some, W_seq, W_block, Q_cont_normal, Q_cont_ret, Q_cont_exit, Q_block_normal, Q_block_ret, Q_block_exit, Q_loop_normal, Q_loop_ret, Q_loop_exit, Q_ret, Q_ret', h1, h2, decide_true, and_one, e, wrap_small (n := k + 1) (by omega)]
      refine ⟨r - 1, by omega, k + 1, by omega, ?_⟩
      have e2 : IntKind.i64.wrap ((pop (fun k => bi m k) k : Nat) + if bi m k then 1 else 0) = ((pop (fun k => bi m k) (k + 1) : Nat) : Int) := by
        rw [pop]
        cases bi m k <;> (simp only [if_true, if_false, Bool.false_eq_true]; rw [wrap_small (by omega)]; omega)
      rw [e2]
      exact junk rfl
    · have h1 : ¬ (k : Int) < 8 := by omega
      simp only [C_ops, C_cond, D_exit, D_ret, D_skip, normal_some, cond_tt, cond_ff, E_nil, E_cons, E_guard, next_some, next_none, guard_tt, guard_ff, guard_tf, guard_ft, guard_tu, ev_tmp, ev_const, ev_global, ev_func, get_succ, get_zero, List.set_cons_succ, List.set_cons_zero, O_mv, O_pick, pickO, O_bin, pairO, O_un, O_conv, convO, O_call, List.map_cons, List.map_nil, O_len, len_slice, O_atRow, O_load1, load1_ptr, O_load, load_ptr, O_mkRow, O_build, mk_some, build_some, partsV_nil, partsV_cons, zeros_zero, zeros_succ, fill_nil, fill_int, fill_bool, fill_slice, fill_string, Nat.lt_add_one, Nat.zero_lt_succ, Nat.reduceLT, Nat.zero_lt_one, B_add, B_sub, B_mul, B_band, B_bor, B_bxor, B_bandNot, B_eql, B_neq, B_lss, B_leq, B_gtr, B_geq, B_shl', B_shr', B_rem, B_quo, U_not, U_neg, List.cons_append, List.nil_append, List.replicate_succ, List.replicate_zero, List.length_cons, List.length_nil, Nat.reduceAdd, Nat.reduceSub, Nat.zero_add, end_ret, end_normal, Bool.false_or, Bool.or_false, Bool.true_or, Bool.or_true, Bool.not_true, Bool.not_false, Bool.true_and, Bool.and_true, Bool.false_and, Bool.and_false, W_some, W_seq, W_block, Q_cont_normal, Q_cont_ret, Q_cont_exit, Q_block_normal, Q_block_ret, Q_block_exit, Q_loop_normal, Q_loop_ret, Q_loop_exit, Q_ret, Q_ret', h1, decide_false]
      rw [show k = 8 by omega]; rfl
  · exact ⟨0, by omega, junk rfl⟩
end Go.Proofs.Ytcdjdmcacomkgaa.AM
