/-
  What is taken out: both ways.
  Conditions: the value is in int's range.
-/
import Derived.Test.YtcdjdmcacomkgaaBk2
import Derived.Test.YtcdjdmcacomkgaaAm2c
namespace Go.Proofs.Ytcdjdmcacomkgaa.AM
open Go.RowKit
set_option linter.unusedSimpArgs false
set_option linter.unusedVariables false

theorem ok_range {off n : Int} (hk : okAt off n = true) : 0 ≤ off ∧ off ≤ 7 ∧ 1 ≤ n ∧ n ≤ 8 ∧ off + n ≤ 8 ∧ sized n = true := by
  rcases ok_cases hk with ⟨rfl, h⟩ | ⟨rfl, h⟩ | ⟨rfl, h⟩ | ⟨rfl, h⟩ <;> exact ⟨by omega, by omega, by omega, by omega, by omega, rfl⟩
theorem mask_ne {off n : Int} (hk : okAt off n = true) : (maskV off n == 0) = false :=
  ok_all (p := fun off n => (maskV off n == 0) = false) (by decide) hk
theorem mask_no {off n : Int} (hk : okAt off n = false) : (maskV off n == 0) = true := by simp [maskV, hk]
theorem wrap8 {k : Int} (h : 0 ≤ k ∧ k ≤ 8) : IntKind.i64.wrap (8 * k) = 8 * k := wrap_small (by omega)

/-- What is taken out, by bits. -/
def getV (v off n : Int) : Int := if okAt off n then ((B v >>> (8 * off.toNat)) &&& BitVec.ofNat 64 (2 ^ (8 * n.toNat) - 1)).toInt else 0
theorem W_getV (v off n : Int) : W (getV v off n) := by
  unfold getV; split
  · exact W_toInt _
  · unfold W; omega
theorem b_lows {n : Nat} (hn : n ≤ 64) {i : Nat} (hi : i < 64) : (BitVec.ofNat 64 (2 ^ n - 1)).getLsbD i = decide (i < n) := by
  rw [BitVec.getLsbD_ofNat, Nat.testBit_two_pow_sub_one]; simp [hi]
theorem b_getV (v : Int) {off n : Int} (hk : okAt off n = true) {i : Nat} (hi : i < 64) : bi (getV v off n) i = (decide (i < 8 * n.toNat) && bi v (8 * off.toNat + i)) := by
  have := ok_range hk
  unfold getV bi
  rw [if_pos hk, B_toInt, BitVec.getLsbD_and, b_lows (by omega) hi, BitVec.getLsbD_ushiftRight, Bool.and_comm]
theorem b_one {i : Nat} (hi : i < 64) : bi 1 i = decide (i = 0) := by
  unfold bi; rw [show B 1 = 1#64 from rfl, BitVec.getLsbD_one]; simp
theorem lowV (v n : Int) (hv : W v) (h1 : 1 ≤ n ∧ n ≤ 8) {i : Nat} (hi : i < 64) :
    bi (if n = 8 then v else Go.bits .and .i64 v (IntKind.i64.wrap (shl .i64 1 (IntKind.i64.wrap (8 * n)) - 1))) i = (decide (i < 8 * n.toNat) && bi v i) := by
  split
  · subst n; simp; intro _; omega
  · rw [b_and, b_wrap, wrap8 (by omega), Bool.and_comm]
    congr 1
    have e : shl .i64 1 (8 * n) - 1 = ((2 ^ (8 * n.toNat) - 1 : Nat) : Int) := by
      have : n = 1 ∨ n = 2 ∨ n = 3 ∨ n = 4 ∨ n = 5 ∨ n = 6 ∨ n = 7 := by omega
      rcases this with rfl | rfl | rfl | rfl | rfl | rfl | rfl <;> rfl
    rw [e]
    unfold bi B
    rw [BitVec.ofInt_natCast, b_lows (by omega) hi]
theorem W_low (v n : Int) (hv : W v) : W (if n = 8 then v else Go.bits .and .i64 v (IntKind.i64.wrap (shl .i64 1 (IntKind.i64.wrap (8 * n)) - 1))) := by
  split
  · exact hv
  · exact W_bits _ _ _

theorem get10 (v off n : Int) (h : Heap) : DF FF n_bits_Get [.int .i64 v, .int .i64 off, .int .i64 n] h = some (.int .i64 (getV v off n), h) := by
  rw [DF_eq F_bits_Get]
  cases hk : okAt off n
  · simp only [c_bits_Get, D_seq, D_block, then_normal, then_exit, then_ret, block_normal, block_ret, block_exit, C_ops, C_cond, D_exit, D_ret, D_skip, normal_some, cond_tt, cond_ff, E_nil, E_cons, E_guard, next_some, next_none, guard_tt, guard_ff, guard_tf, guard_ft, guard_tu, ev_tmp, ev_const, ev_global, ev_func, get_succ, get_zero, List.set_cons_succ, List.set_cons_zero, O_mv, O_pick, pickO, O_bin, pairO, O_un, O_conv, convO, O_call, List.map_cons, List.map_nil, O_len, len_slice, O_atRow, O_load1, load1_ptr, O_load, load_ptr, O_mkRow, O_build, mk_some, build_some, partsV_nil, partsV_cons, zeros_zero, zeros_succ, fill_nil, fill_int, fill_bool, fill_slice, fill_string, Nat.lt_add_one, Nat.zero_lt_succ, Nat.reduceLT, Nat.zero_lt_one, B_add, B_sub, B_mul, B_band, B_bor, B_bxor, B_bandNot, B_eql, B_neq, B_lss, B_leq, B_gtr, B_geq, B_shl', B_shr', B_rem, B_quo, U_not, U_neg, List.cons_append, List.nil_append, List.replicate_succ, List.replicate_zero, List.length_cons, List.length_nil, Nat.reduceAdd, Nat.reduceSub, Nat.zero_add, end_ret, end_normal, Bool.false_or, Bool.or_false, Bool.true_or, Bool.or_true, Bool.not_true, Bool.not_false, Bool.true_and, Bool.and_true, Bool.false_and, Bool.and_false, mask22, mask_no hk]
    simp [getV, hk]
  · have hr := ok_range hk
    have h0 : (0 : Int) ≤ 8 * off := by omega
    have h1 : 0 ≤ IntKind.i64.wrap (8 * n) := by rw [wrap8 (by omega)]; omega
    simp only [c_bits_Get, D_seq, D_block, then_normal, then_exit, then_ret, block_normal, block_ret, block_exit, C_ops, C_cond, D_exit, D_ret, D_skip, normal_some, cond_tt, cond_ff, E_nil, E_cons, E_guard, next_some, next_none, guard_tt, guard_ff, guard_tf, guard_ft, guard_tu, ev_tmp, ev_const, ev_global, ev_func, get_succ, get_zero, List.set_cons_succ, List.set_cons_zero, O_mv, O_pick, pickO, O_bin, pairO, O_un, O_conv, convO, O_call, List.map_cons, List.map_nil, O_len, len_slice, O_atRow, O_load1, load1_ptr, O_load, load_ptr, O_mkRow, O_build, mk_some, build_some, partsV_nil, partsV_cons, zeros_zero, zeros_succ, fill_nil, fill_int, fill_bool, fill_slice, fill_string, Nat.lt_add_one, Nat.zero_lt_succ, Nat.reduceLT, Nat.zero_lt_one, B_add, B_sub, B_mul, B_band, B_bor, B_bxor, B_bandNot, B_eql, B_neq, B_lss, B_leq, B_gtr, B_geq, B_shl', B_shr', B_rem, B_quo, U_not, U_neg, List.cons_append, List.nil_append, List.replicate_succ, List.replicate_zero, List.length_cons, List.length_nil, Nat.reduceAdd, Nat.reduceSub, Nat.zero_add, end_ret, end_normal, Bool.false_or, Bool.or_false, Bool.true_or, Bool.or_true, Bool.not_true, Bool.not_false, Bool.true_and, Bool.and_true, Bool.false_and, Bool.and_false, mask22, mask_ne hk, wrap8 (k := off) (by omega), h0, low28 _ _ _ h1]
    congr 3
    refine ext (W_low _ _ (W_wrap _)) (W_getV _ _ _) fun i hi => ?_
    rw [lowV _ _ (W_wrap _) (by omega) hi, b_getV v hk hi, b_ushr v _ (by omega)]
    congr 3; omega

/-- A byte. -/
def byteV (v : Int) (k : Int) : Int := Go.bits .and .i64 (shr .i64 v (8 * k)) 255
theorem byte29' (v k : Int) (hk : 0 ≤ k ∧ k ≤ 8) (h : Heap) : DF FF n_belatedref1_Byte [.int .i64 v, .int .i64 k] h = some (.int .i64 (byteV v k), h) := by
  rw [byte29 v k h (by rw [wrap8 hk]; omega), wrap8 hk]; rfl
theorem b_255 {i : Nat} (hi : i < 64) : bi 255 i = decide (i < 8) := by
  have : (255 : Int) = ((2 ^ 8 - 1 : Nat) : Int) := rfl
  rw [this]; unfold bi B; rw [BitVec.ofInt_natCast, b_lows (by omega) hi]
theorem b_byteV {v k : Int} (hv : W v) (hk : 0 ≤ k ∧ k ≤ 7) {i : Nat} (hi : i < 64) : bi (byteV v k) i = (decide (i < 8) && bi v (8 * k.toNat + i)) := by
  unfold byteV
  rw [b_and, b_255 hi, b_shr v _ hv (by omega) hi, Bool.and_comm]
  by_cases h8 : i < 8
  · rw [if_pos (by omega)]; congr 2; omega
  · simp [h8]

theorem get11 (v off n : Int) (hv : W v) (h : Heap) : DF FF n_belatedref1_Get [.int .i64 v, .int .i64 off, .int .i64 n] h = some (.int .i64 (getV v off n), h) := by
  refine fun_wp F_belatedref1_Get ?_
  cases hk : okAt off n
  · simp only [c_belatedref1_Get, C_ops, C_cond, D_exit, D_ret, D_skip, normal_some, cond_tt, cond_ff, E_nil, E_cons, E_guard, next_some, next_none, guard_tt, guard_ff, guard_tf, guard_ft, guard_tu, ev_tmp, ev_const, ev_global, ev_func, get_succ, get_zero, List.set_cons_succ, List.set_cons_zero, O_mv, O_pick, pickO, O_bin, pairO, O_un, O_conv, convO, O_call, List.map_cons, List.map_nil, O_len, len_slice, O_atRow, O_load1, load1_ptr, O_load, load_ptr, O_mkRow, O_build, mk_some, build_some, partsV_nil, partsV_cons, zeros_zero, zeros_succ, fill_nil, fill_int, fill_bool, fill_slice, fill_string, Nat.lt_add_one, Nat.zero_lt_succ, Nat.reduceLT, Nat.zero_lt_one, B_add, B_sub, B_mul, B_band, B_bor, B_bxor, B_bandNot, B_eql, B_neq, B_lss, B_leq, B_gtr, B_geq, B_shl', B_shr', B_rem, B_quo, U_not, U_neg, List.cons_append, List.nil_append, List.replicate_succ, List.replicate_zero, List.length_cons, List.length_nil, Nat.reduceAdd, Nat.reduceSub, Nat.zero_add, end_ret, end_normal, Bool.false_or, Bool.or_false, Bool.true_or, Bool.or_true, Bool.not_true, Bool.not_false, Bool.true_and, Bool.and_true, Bool.false_and, Bool.and_false, W_some, W_seq, W_block, Q_cont_normal, Q_cont_ret, Q_cont_exit, Q_block_normal, Q_block_ret, Q_block_exit, Q_loop_normal, Q_loop_ret, Q_loop_exit, Q_ret, Q_ret', mask23, mask_no hk]
    simp [getV, hk]
  · have hr := ok_range hk
    simp only [c_belatedref1_Get, C_ops, C_cond, D_exit, D_ret, D_skip, normal_some, cond_tt, cond_ff, E_nil, E_cons, E_guard, next_some, next_none, guard_tt, guard_ff, guard_tf, guard_ft, guard_tu, ev_tmp, ev_const, ev_global, ev_func, get_succ, get_zero, List.set_cons_succ, List.set_cons_zero, O_mv, O_pick, pickO, O_bin, pairO, O_un, O_conv, convO, O_call, List.map_cons, List.map_nil, O_len, len_slice, O_atRow, O_load1, load1_ptr, O_load, load_ptr, O_mkRow, O_build, mk_some, build_some, partsV_nil, partsV_cons, zeros_zero, zeros_succ, fill_nil, fill_int, fill_bool, fill_slice, fill_string, Nat.lt_add_one, Nat.zero_lt_succ, Nat.reduceLT, Nat.zero_lt_one, B_add, B_sub, B_mul, B_band, B_bor, B_bxor, B_bandNot, B_eql, B_neq, B_lss, B_leq, B_gtr, B_geq, B_shl', B_shr', B_rem, B_quo, U_not, U_neg, List.cons_append, List.nil_append, List.replicate_succ, List.replicate_zero, List.length_cons, List.length_nil, Nat.reduceAdd, Nat.reduceSub, Nat.zero_add, end_ret, end_normal, Bool.false_or, Bool.or_false, Bool.true_or, Bool.or_true, Bool.not_true, Bool.not_false, Bool.true_and, Bool.and_true, Bool.false_and, Bool.and_false, W_some, W_seq, W_block, Q_cont_normal, Q_cont_ret, Q_cont_exit, Q_block_normal, Q_block_ret, Q_block_exit, Q_loop_normal, Q_loop_ret, Q_loop_exit, Q_ret, Q_ret', mask23, mask_ne hk]
    refine loop_wp (fun m s => ∃ (k : Nat) (out : Int), m + k = n.toNat ∧ W out ∧ (∀ i, i < 64 → bi out i = (decide (i < 8 * k) && bi v (8 * off.toNat + i))) ∧
      ∃ j : Nat → Value, s = ⟨[.int .i64 v, .int .i64 off, .int .i64 n, j 3, j 4, j 5, j 6, .int .i64 out, .int .i64 k, j 9, j 10, j 11, j 12, j 13, j 14, j 15, j 16, j 17, j 18, j 19, j 20, j 21, j 22, j 23, j 24, j 25, j 26, j 27, j 28], h⟩) ?_ n.toNat _ ?_
    · rintro m s ⟨k, out, hm, hW, hb, j, rfl⟩
      by_cases hlt : (k : Int) < n
      · have hs : IntKind.i64.wrap (off + k) = off + k := wrap_small (by omega)
        have h8 : (0 : Int) ≤ 8 * k := by omega
        simp only [C_ops, C_cond, D_exit, D_ret, D_skip, normal_some, cond_tt, cond_ff, E_nil, E_cons, E_guard, next_some, next_none, guard_tt, guard_ff, guard_tf, guard_ft, guard_tu, ev_tmp, ev_const, ev_global, ev_func, get_succ, get_zero, List.set_cons_succ, List.set_cons_zero, O_mv, O_pick, pickO, O_bin, pairO, O_un, O_conv, convO, O_call, List.map_cons, List.map_nil, O_len, len_slice, O_atRow, O_load1, load1_ptr, O_load, load_ptr, O_mkRow, O_build, mk_some, build_some, partsV_nil, partsV_cons, zeros_zero, zeros_succ, fill_nil, fill_int, fill_bool, fill_slice, fill_string, Nat.lt_add_one, Nat.zero_lt_succ, Nat.reduceLT, Nat.zero_lt_one, B_add, B_sub, B_mul, B_band, B_bor, B_bxor, B_bandNot, B_eql, B_neq, B_lss, B_leq, B_gtr, B_geq, B_shl', B_shr', B_rem, B_quo, U_not, U_neg, List.cons_append, List.nil_append, List.replicate_succ, List.replicate_zero, List.length_cons, List.length_nil, Nat.reduceAdd, Nat.reduceSub, Nat.zero_add, end_ret, end_normal, Bool.false_or, Bool.or_false, Bool.true_or, Bool.or_true, Bool.not_true, Bool.not_false, Bool.true_and, Bool.and_true, Bool.false_and, Bool.and_false, W_some, W_seq, W_block, Q_cont_normal, Q_cont_ret, Q_cont_exit, Q_block_normal, Q_block_ret, Q_block_exit, Q_loop_normal, Q_loop_ret, Q_loop_exit, Q_ret, Q_ret', hlt, decide_true, hs, byte29' v (off + k) (by omega), wrap8 (k := k) (by omega), h8, wrap_small (n := k + 1) (by omega)]
        refine ⟨m - 1, by omega, k + 1, _, by omega, W_bits _ _ _, fun i hi => ?_, junk rfl⟩
        rw [b_or, hb i hi, b_shl _ _ (by omega) (by omega) hi, b_byteV hv (by omega) (by omega)]
        by_cases h1 : i < 8 * k
        · simp [h1, show i < 8 * (k + 1) by omega, show i < (8 * (k : Int)).toNat by omega]
        · by_cases h2 : i < 8 * (k + 1)
          · have e : 8 * (off + (k : Int)).toNat + (i - (8 * (k : Int)).toNat) = 8 * off.toNat + i := by omega
            simp [h1, h2, e, show ¬ i < (8 * (k : Int)).toNat by omega, show i - (8 * (k : Int)).toNat < 8 by omega]
          · simp [h1, h2, show ¬ i - (8 * (k : Int)).toNat < 8 by omega]
      · simp only [C_ops, C_cond, D_exit, D_ret, D_skip, normal_some, cond_tt, cond_ff, E_nil, E_cons, E_guard, next_some, next_none, guard_tt, guard_ff, guard_tf, guard_ft, guard_tu, ev_tmp, ev_const, ev_global, ev_func, get_succ, get_zero, List.set_cons_succ, List.set_cons_zero, O_mv, O_pick, pickO, O_bin, pairO, O_un, O_conv, convO, O_call, List.map_cons, List.map_nil, O_len, len_slice, O_atRow, O_load1, load1_ptr, O_load, load_ptr, O_mkRow, O_build, mk_some, build_some, partsV_nil, partsV_cons, zeros_zero, zeros_succ, fill_nil, fill_int, fill_bool, fill_slice, fill_string, Nat.lt_add_one, Nat.zero_lt_succ, Nat.reduceLT, Nat.zero_lt_one, B_add, B_sub, B_mul, B_band, B_bor, B_bxor, B_bandNot, B_eql, B_neq, B_lss, B_leq, B_gtr, B_geq, B_shl', B_shr', B_rem, B_quo, U_not, U_neg, List.cons_append, List.nil_append, List.replicate_succ, List.replicate_zero, List.length_cons, List.length_nil, Nat.reduceAdd, Nat.reduceSub, Nat.zero_add, end_ret, end_normal, Bool.false_or, Bool.or_false, Bool.true_or, Bool.or_true, Bool.not_true, Bool.not_false, Bool.true_and, Bool.and_true, Bool.false_and, Bool.and_false, W_some, W_seq, W_block, Q_cont_normal, Q_cont_ret, Q_cont_exit, Q_block_normal, Q_block_ret, Q_block_exit, Q_loop_normal, Q_loop_ret, Q_loop_exit, Q_ret, Q_ret', hlt, decide_false]
        have hk' : k = n.toNat := by omega
        congr 3
        refine ext hW (W_getV _ _ _) fun i hi => ?_
        rw [hb i hi, b_getV v hk hi, hk']
    · exact ⟨0, 0, by omega, by unfold W; omega, fun i hi => by simp [bi, B], junk rfl⟩
end Go.Proofs.Ytcdjdmcacomkgaa.AM
