/-
  Values blended: both ways.
  Conditions: the values are in int's range.
-/
import Derived.Test.YtcdjdmcacomkgaaBk4
namespace Go.Proofs.Ytcdjdmcacomkgaa.AM
open Go.RowKit
set_option linter.unusedSimpArgs false
set_option linter.unusedVariables false

/-- A value by its bits. -/
def ofBits (f : Nat → Bool) : Nat → BitVec 64
  | 0 => 0#64
  | n + 1 => ofBits f n ||| (if f n then 1#64 <<< n else 0#64)
theorem b_ofBits (f : Nat → Bool) (n : Nat) {i : Nat} (hi : i < 64) : (ofBits f n).getLsbD i = (decide (i < n) && f i) := by
  induction n with
  | zero => simp [ofBits]
  | succ n ih =>
    rw [ofBits, BitVec.getLsbD_or, ih]
    by_cases h : i = n
    · subst h
      cases f i <;> simp [hi]
    · have e : (if f n = true then 1#64 <<< n else 0#64).getLsbD i = false := by
        split
        · rw [BitVec.getLsbD_shiftLeft, BitVec.getLsbD_one]; simp; omega
        · simp
      rw [e, Bool.or_false]
      by_cases h2 : i < n
      · simp [h2, show i < n + 1 by omega]
      · simp [h2, show ¬ i < n + 1 by omega]
def blendV (v w u : Int) : Int := (ofBits (fun i => if bi u (i / 8) then bi w i else bi v i) 64).toInt
theorem W_blendV (v w u : Int) : W (blendV v w u) := W_toInt _
theorem b_blendV (v w u : Int) {i : Nat} (hi : i < 64) : bi (blendV v w u) i = if bi u (i / 8) then bi w i else bi v i := by
  unfold blendV bi
  rw [B_toInt, b_ofBits _ _ hi]; simp [hi, bi]
theorem and_one (x : Int) : Go.bits .and .i64 x 1 = if bi x 0 then 1 else 0 := by
  refine ext (W_bits _ _ _) (by split <;> (unfold W; omega)) fun i hi => ?_
  rw [b_and, b_one hi]
  by_cases h : i = 0
  · subst h
    cases bi x 0 <;> rfl
  · simp only [h, decide_false, Bool.and_false]
    split
    · rw [b_one hi]; simp [h]
    · simp [bi, B]
theorem bit_is {u : Int} (hu : W u) {k : Nat} (hk : k < 64) : (Go.bits .and .i64 (shr .i64 u k) 1 == 1) = bi u k := by
  have e : bi (shr .i64 u k) 0 = bi u k := by
    rw [b_shr u k hu (by omega) (by omega)]
    simp [show k < 64 from hk]
  rw [and_one, e]
  cases bi u k <;> rfl

theorem blend14 (v w : Int) (hv : W v) (hw : W w) (ms : List Int) (s : Value) (h : Heap) (hs : Ints h s ms) (hl : ms.length < 4000000000) : DF FF n_bits_Blend [.int .i64 v, .int .i64 w, s] h = some (.int .i64 (blendV v w (unionV ms)), h) := by
  have hu := union15 ms s h hs hl
  obtain ⟨p, rfl, hr⟩ := hs
  refine fun_wp F_bits_Blend ?_
  simp only [c_bits_Blend, C_ops, C_cond, D_exit, D_ret, D_skip, normal_some, cond_tt, cond_ff, E_nil, E_cons, E_guard, next_some, next_none, guard_tt, guard_ff, guard_tf, guard_ft, guard_tu, ev_tmp, ev_const, ev_global, ev_func, get_succ, get_zero, List.set_cons_succ, List.set_cons_zero, O_mv, O_pick, pickO, O_bin, pairO, O_un, O_conv, convO, O_call, List.map_cons, List.map_nil, O_len, len_slice, O_atRow, O_load1, load1_ptr, O_load, load_ptr, O_mkRow, O_build, mk_some, build_some, partsV_nil, partsV_cons, zeros_zero, zeros_succ, fill_nil, fill_int, fill_bool, fill_slice, fill_string, Nat.lt_add_one, Nat.zero_lt_succ, Nat.reduceLT, Nat.zero_lt_one, B_add, B_sub, B_mul, B_band, B_bor, B_bxor, B_bandNot, B_eql, B_neq, B_lss, B_leq, B_gtr, B_geq, B_shl', B_shr', B_rem, B_quo, U_not, U_neg, List.cons_append, List.nil_append, List.replicate_succ, List.replicate_zero, List.length_cons, List.length_nil, Nat.reduceAdd, Nat.reduceSub, Nat.zero_add, end_ret, end_normal, Bool.false_or, Bool.or_false, Bool.true_or, Bool.or_true, Bool.not_true, Bool.not_false, Bool.true_and, Bool.and_true, Bool.false_and, Bool.and_false, W_some, W_seq, W_block, Q_cont_normal, Q_cont_ret, Q_cont_exit, Q_block_normal, Q_block_ret, Q_block_exit, Q_loop_normal, Q_loop_ret, Q_loop_exit, Q_ret, Q_ret']
  refine loop_wp (fun m s => ∃ (k : Nat) (all : Int), m + k = 8 ∧ W all ∧ (∀ i, i < 64 → bi all i = (decide (i < 8 * k) && bi (unionV ms) (i / 8))) ∧
      ∃ j : Nat → Value, s = ⟨[.int .i64 v, .int .i64 w, .slice (some p) ms.length 1, j 3, j 4, j 5, j 6, .int .i64 all, j 8, .int .i64 k, j 10, j 11, j 12, j 13, j 14, j 15, j 16, j 17, j 18, j 19, j 20, j 21, j 22, j 23, j 24, j 25, j 26, j 27, j 28, j 29, j 30], h⟩) ?_ 8 _ ?_
  · rintro m s ⟨k, all, hm, hW, hb, j, rfl⟩
    by_cases hlt : k < 8
    · have h1 : (k : Int) < 8 := by omega
      have h2 : (0 : Int) ≤ k := by omega
      have h8 : (0 : Int) ≤ 8 * k := by omega
      simp only [C_ops, C_cond, D_exit, D_ret, D_skip, normal_some, cond_tt, cond_ff, E_nil, E_cons, E_guard, next_some, next_none, guard_tt, guard_ff, guard_tf, guard_ft, guard_tu, ev_tmp, ev_const, ev_global, ev_func, get_succ, get_zero, List.set_cons_succ, List.set_cons_zero, O_mv, O_pick, pickO, O_bin, pairO, O_un, O_conv, convO, O_call, List.map_cons, List.map_nil, O_len, len_slice, O_atRow, O_load1, load1_ptr, O_load, load_ptr, O_mkRow, O_build, mk_some, build_some, partsV_nil, partsV_cons, zeros_zero, zeros_succ, fill_nil, fill_int, fill_bool, fill_slice, fill_string, Nat.lt_add_one, Nat.zero_lt_succ, Nat.reduceLT, Nat.zero_lt_one, B_add, B_sub, B_mul, B_band, B_bor, B_bxor, B_bandNot, B_eql, B_neq, B_lss, B_leq, B_gtr, B_geq, B_shl', B_shr', B_rem, B_quo, U_not, U_neg, List.cons_append, List.nil_append, List.replicate_succ, List.replicate_zero, List.length_cons, List.length_nil, Nat.reduceAdd, Nat.reduceSub, Nat.zero_add, end_ret, end_normal, Bool.false_or, Bool.or_false, Bool.true_or, Bool.or_true, Bool.not_true, Bool.not_false, Bool.true_and, Bool.and_true, Bool.false_and, Bool.and_false, W_some, W_seq, W_block, Q_cont_normal, Q_cont_ret, Q_cont_exit, Q_block_normal, Q_block_ret, Q_block_exit, Q_loop_normal, Q_loop_ret, Q_loop_exit, Q_ret, Q_ret', h1, h2, decide_true, hu, bit_is (W_bits .and (orL ms) 255) (k := k) (by omega)]
      have hbit := bit_is (u := unionV ms) (W_bits _ _ _) (k := k) (by omega)
      simp only [C_ops, C_cond, D_exit, D_ret, D_skip, normal_some, cond_tt, cond_ff, E_nil, E_cons, E_guard, next_some, next_none, guard_tt, guard_ff, guard_tf, guard_ft, guard_tu, ev_tmp, ev_const, ev_global, ev_func, get_succ, get_zero, List.set_cons_succ, List.set_cons_zero, O_mv, O_pick, pickO, O_bin, pairO, O_un, O_conv, convO, O_call, List.map_cons, List.map_nil, O_len, len_slice, O_atRow, O_load1, load1_ptr, O_load, load_ptr, O_mkRow, O_build, mk_some, build_some, partsV_nil, partsV_cons, zeros_zero, zeros_succ, fill_nil, fill_int, fill_bool, fill_slice, fill_string, Nat.lt_add_one, Nat.zero_lt_succ, Nat.reduceLT, Nat.zero_lt_one, B_add, B_sub, B_mul, B_band, B_bor, B_bxor, B_bandNot, B_eql, B_neq, B_lss, B_leq, B_gtr, B_geq, B_shl', B_shr', B_rem, B_quo, U_not, U_neg, List.cons_append, List.nil_append, List.replicate_succ, List.replicate_zero, List.length_cons, List.length_nil, Nat.reduceAdd, Nat.reduceSub, Nat.zero_add, end_ret, end_normal, Bool.false_or, Bool.or_false, Bool.true_or, Bool.or_true, Bool.not_true, Bool.not_false, Bool.true_and, Bool.and_true, Bool.false_and, Bool.and_false, W_some, W_seq, W_block, Q_cont_normal, Q_cont_ret, Q_cont_exit, Q_block_normal, Q_block_ret, Q_block_exit, Q_loop_normal, Q_loop_ret, Q_loop_exit, Q_ret, Q_ret', hbit]
      cases hc : bi (unionV ms) k
      · simp only [C_ops, C_cond, D_exit, D_ret, D_skip, normal_some, cond_tt, cond_ff, E_nil, E_cons, E_guard, next_some, next_none, guard_tt, guard_ff, guard_tf, guard_ft, guard_tu, ev_tmp, ev_const, ev_global, ev_func, get_succ, get_zero, List.set_cons_succ, List.set_cons_zero, O_mv, O_pick, pickO, O_bin, pairO, O_un, O_conv, convO, O_call, List.map_cons, List.map_nil, O_len, len_slice, O_atRow, O_load1, load1_ptr, O_load, load_ptr, O_mkRow, O_build, mk_some, build_some, partsV_nil, partsV_cons, zeros_zero, zeros_succ, fill_nil, fill_int, fill_bool, fill_slice, fill_string, Nat.lt_add_one, Nat.zero_lt_succ, Nat.reduceLT, Nat.zero_lt_one, B_add, B_sub, B_mul, B_band, B_bor, B_bxor, B_bandNot, B_eql, B_neq, B_lss, B_leq, B_gtr, B_geq, B_shl', B_shr', B_rem, B_quo, U_not, U_neg, List.cons_append, List.nil_append, List.replicate_succ, List.replicate_zero, List.length_cons, List.length_nil, Nat.reduceAdd, Nat.reduceSub, Nat.zero_add, end_ret, end_normal, Bool.false_or, Bool.or_false, Bool.true_or, Bool.or_true, Bool.not_true, Bool.not_false, Bool.true_and, Bool.and_true, Bool.false_and, Bool.and_false, W_some, W_seq, W_block, Q_cont_normal, Q_cont_ret, Q_cont_exit, Q_block_normal, Q_block_ret, Q_block_exit, Q_loop_normal, Q_loop_ret, Q_loop_exit, Q_ret, Q_ret', wrap_small (n := k + 1) (by omega)]
        refine ⟨m - 1, by omega, k + 1, all, by omega, hW, fun i hi => ?_, junk rfl⟩
        rw [hb i hi]
        by_cases h3 : i < 8 * k
        · simp [h3, show i < 8 * (k + 1) by omega]
        · by_cases h4 : i < 8 * (k + 1)
          · simp [h3, h4, show i / 8 = k by omega, hc]
          · simp [h3, h4]
      · simp only [C_ops, C_cond, D_exit, D_ret, D_skip, normal_some, cond_tt, cond_ff, E_nil, E_cons, E_guard, next_some, next_none, guard_tt, guard_ff, guard_tf, guard_ft, guard_tu, ev_tmp, ev_const, ev_global, ev_func, get_succ, get_zero, List.set_cons_succ, List.set_cons_zero, O_mv, O_pick, pickO, O_bin, pairO, O_un, O_conv, convO, O_call, List.map_cons, List.map_nil, O_len, len_slice, O_atRow, O_load1, load1_ptr, O_load, load_ptr, O_mkRow, O_build, mk_some, build_some, partsV_nil, partsV_cons, zeros_zero, zeros_succ, fill_nil, fill_int, fill_bool, fill_slice, fill_string, Nat.lt_add_one, Nat.zero_lt_succ, Nat.reduceLT, Nat.zero_lt_one, B_add, B_sub, B_mul, B_band, B_bor, B_bxor, B_bandNot, B_eql, B_neq, B_lss, B_leq, B_gtr, B_geq, B_shl', B_shr', B_rem, B_quo, U_not, U_neg, List.cons_append, List.nil_append, List.replicate_succ, List.replicate_zero, List.length_cons, List.length_nil, Nat.reduceAdd, Nat.reduceSub, Nat.zero_add, end_ret, end_normal, Bool.false_or, Bool.or_false, Bool.true_or, Bool.or_true, Bool.not_true, Bool.not_false, Bool.true_and, Bool.and_true, Bool.false_and, Bool.and_false, W_some, W_seq, W_block, Q_cont_normal, Q_cont_ret, Q_cont_exit, Q_block_normal, Q_block_ret, Q_block_exit, Q_loop_normal, Q_loop_ret, Q_loop_exit, Q_ret, Q_ret', wrap_small (n := k + 1) (by omega), wrap8 (k := k) (by omega), h8]
        refine ⟨m - 1, by omega, k + 1, _, by omega, W_bits _ _ _, fun i hi => ?_, junk rfl⟩
        rw [b_or, hb i hi, b_shl _ _ (by omega) (by omega) hi, b_255 (by omega)]
        by_cases h3 : i < 8 * k
        · simp [h3, show i < 8 * (k + 1) by omega, show i < (8 * (k : Int)).toNat by omega]
        · by_cases h4 : i < 8 * (k + 1)
          · simp [h3, h4, show i / 8 = k by omega, hc, show ¬ i < (8 * (k : Int)).toNat by omega, show i - (8 * (k : Int)).toNat < 8 by omega]
          · simp [h3, h4, show ¬ i - (8 * (k : Int)).toNat < 8 by omega]
    · have h1 : ¬ (k : Int) < 8 := by omega
      simp only [C_ops, C_cond, D_exit, D_ret, D_skip, normal_some, cond_tt, cond_ff, E_nil, E_cons, E_guard, next_some, next_none, guard_tt, guard_ff, guard_tf, guard_ft, guard_tu, ev_tmp, ev_const, ev_global, ev_func, get_succ, get_zero, List.set_cons_succ, List.set_cons_zero, O_mv, O_pick, pickO, O_bin, pairO, O_un, O_conv, convO, O_call, List.map_cons, List.map_nil, O_len, len_slice, O_atRow, O_load1, load1_ptr, O_load, load_ptr, O_mkRow, O_build, mk_some, build_some, partsV_nil, partsV_cons, zeros_zero, zeros_succ, fill_nil, fill_int, fill_bool, fill_slice, fill_string, Nat.lt_add_one, Nat.zero_lt_succ, Nat.reduceLT, Nat.zero_lt_one, B_add, B_sub, B_mul, B_band, B_bor, B_bxor, B_bandNot, B_eql, B_neq, B_lss, B_leq, B_gtr, B_geq, B_shl', B_shr', B_rem, B_quo, U_not, U_neg, List.cons_append, List.nil_append, List.replicate_succ, List.replicate_zero, List.length_cons, List.length_nil, Nat.reduceAdd, Nat.reduceSub, Nat.zero_add, end_ret, end_normal, Bool.false_or, Bool.or_false, Bool.true_or, Bool.or_true, Bool.not_true, Bool.not_false, Bool.true_and, Bool.and_true, Bool.false_and, Bool.and_false, W_some, W_seq, W_block, Q_cont_normal, Q_cont_ret, Q_cont_exit, Q_block_normal, Q_block_ret, Q_block_exit, Q_loop_normal, Q_loop_ret, Q_loop_exit, Q_ret, Q_ret', h1, decide_false]
      congr 3
      refine ext (W_bits _ _ _) (W_blendV _ _ _) fun i hi => ?_
      rw [b_or, b_andNot _ _ hi, b_and, hb i hi, b_blendV _ _ _ hi]
      simp only [show i < 8 * k by omega, decide_true, Bool.true_and]
      cases bi (unionV ms) (i / 8) <;> simp
  · exact ⟨0, 0, by omega, by unfold W; omega, fun i hi => by simp [bi, B], junk rfl⟩

theorem blend17 (v w u : Int) (hv : W v) (hw : W w) (hu : W u) (h : Heap) : DF FF n_belatedref1_Blend [.int .i64 v, .int .i64 w, .int .i64 u] h = some (.int .i64 (blendV v w u), h) := by
  refine fun_wp F_belatedref1_Blend ?_
  simp only [c_belatedref1_Blend, C_ops, C_cond, D_exit, D_ret, D_skip, normal_some, cond_tt, cond_ff, E_nil, E_cons, E_guard, next_some, next_none, guard_tt, guard_ff, guard_tf, guard_ft, guard_tu, ev_tmp, ev_const, ev_global, ev_func, get_succ, get_zero, List.set_cons_succ, List.set_cons_zero, O_mv, O_pick, pickO, O_bin, pairO, O_un, O_conv, convO, O_call, List.map_cons, List.map_nil, O_len, len_slice, O_atRow, O_load1, load1_ptr, O_load, load_ptr, O_mkRow, O_build, mk_some, build_some, partsV_nil, partsV_cons, zeros_zero, zeros_succ, fill_nil, fill_int, fill_bool, fill_slice, fill_string, Nat.lt_add_one, Nat.zero_lt_succ, Nat.reduceLT, Nat.zero_lt_one, B_add, B_sub, B_mul, B_band, B_bor, B_bxor, B_bandNot, B_eql, B_neq, B_lss, B_leq, B_gtr, B_geq, B_shl', B_shr', B_rem, B_quo, U_not, U_neg, List.cons_append, List.nil_append, List.replicate_succ, List.replicate_zero, List.length_cons, List.length_nil, Nat.reduceAdd, Nat.reduceSub, Nat.zero_add, end_ret, end_normal, Bool.false_or, Bool.or_false, Bool.true_or, Bool.or_true, Bool.not_true, Bool.not_false, Bool.true_and, Bool.and_true, Bool.false_and, Bool.and_false, W_some, W_seq, W_block, Q_cont_normal, Q_cont_ret, Q_cont_exit, Q_block_normal, Q_block_ret, Q_block_exit, Q_loop_normal, Q_loop_ret, Q_loop_exit, Q_ret, Q_ret']
  refine loop_wp (fun m s => ∃ (k : Nat) (out : Int), m + k = 8 ∧ W out ∧ (∀ i, i < 64 → bi out i = (decide (i < 8 * k) && (if bi u (i / 8) then bi w i else bi v i))) ∧
      ∃ j : Nat → Value, s = ⟨[.int .i64 v, .int .i64 w, .int .i64 u, j 3, j 4, j 5, j 6, .int .i64 out, .int .i64 k, j 9, j 10, j 11, j 12, j 13, j 14, j 15, j 16, j 17, j 18, j 19, j 20, j 21, j 22, j 23, j 24, j 25, j 26, j 27, j 28, j 29, j 30, j 31], h⟩) ?_ 8 _ ?_
  · rintro m s ⟨k, out, hm, hW, hb, j, rfl⟩
    by_cases hlt : k < 8
    · have h1 : (k : Int) < 8 := by omega
      have h2 : (0 : Int) ≤ k := by omega
      have h8 : (0 : Int) ≤ 8 * k := by omega
      have key : ∀ x, W x → (∀ i, bi u k = true → bi x i = bi w i) → (∀ i, bi u k = false → bi x i = bi v i) → ∀ i, i < 64 → bi (Go.bits .or .i64 out (shl .i64 (byteV x k) (8 * k))) i = (decide (i < 8 * (k + 1)) && (if bi u (i / 8) then bi w i else bi v i)) := by
        intro x hx e1 e2 i hi
        rw [b_or, hb i hi, b_shl _ _ (by omega) (by omega) hi, b_byteV hx (by omega) (by omega)]
        by_cases h3 : i < 8 * k
        · simp [h3, show i < 8 * (k + 1) by omega, show i < (8 * (k : Int)).toNat by omega]
        · by_cases h4 : i < 8 * (k + 1)
          · have e : 8 * (k : Int).toNat + (i - (8 * (k : Int)).toNat) = i := by omega
            rw [e]
            cases hc : bi u k
            · simp [h3, h4, show i / 8 = k by omega, hc, show ¬ i < (8 * (k : Int)).toNat by omega, show i - (8 * (k : Int)).toNat < 8 by omega, e2 i hc]
            · simp [h3, h4, show i / 8 = k by omega, hc, show ¬ i < (8 * (k : Int)).toNat by omega, show i - (8 * (k : Int)).toNat < 8 by omega, e1 i hc]
          · simp [h3, h4, show ¬ i - (8 * (k : Int)).toNat < 8 by omega]
      have hbit := bit_is hu (k := k) (by omega)
      simp only [C_ops, C_cond, D_exit, D_ret, D_skip, normal_some, cond_tt, cond_ff, E_nil, E_cons, E_guard, next_some, next_none, guard_tt, guard_ff, guard_tf, guard_ft, guard_tu, ev_tmp, ev_const, ev_global, ev_func, get_succ, get_zero, List.set_cons_succ, List.set_cons_zero, O_mv, O_pick, pickO, O_bin, pairO, O_un, O_conv, convO, O_call, List.map_cons, List.map_nil, O_len, len_slice, O_atRow, O_load1, load1_ptr, O_load, load_ptr, O_mkRow, O_build, mk_some, build_some, partsV_nil, partsV_cons, zeros_zero, zeros_succ, fill_nil, fill_int, fill_bool, fill_slice, fill_string, Nat.lt_add_one, Nat.zero_lt_succ, Nat.reduceLT, Nat.zero_lt_one, B_add, B_sub, B_mul, B_band, B_bor, B_bxor, B_bandNot, B_eql, B_neq, B_lss, B_leq, B_gtr, B_geq, B_shl', B_shr', B_rem, B_quo, U_not, U_neg, List.cons_append, List.nil_append, List.replicate_succ, List.replicate_zero, List.length_cons, List.length_nil, Nat.reduceAdd, Nat.reduceSub, Nat.zero_add, end_ret, end_normal, Bool.false_or, Bool.or_false, Bool.true_or, Bool.or_true, Bool.not_true, Bool.not_false, Bool.true_and, Bool.and_true, Bool.false_and, Bool.and_false, W_some, W_seq, W_block, Q_cont_normal, Q_cont_ret, Q_cont_exit, Q_block_normal, Q_block_ret, Q_block_exit, Q_loop_normal, Q_loop_ret, Q_loop_exit, Q_ret, Q_ret', h1, h2, decide_true, byte29' v k (by omega), hbit]
      cases hc : bi u k
      · simp only [C_ops, C_cond, D_exit, D_ret, D_skip, normal_some, cond_tt, cond_ff, E_nil, E_cons, E_guard, next_some, next_none, guard_tt, guard_ff, guard_tf, guard_ft, guard_tu, ev_tmp, ev_const, ev_global, ev_func, get_succ, get_zero, List.set_cons_succ, List.set_cons_zero, O_mv, O_pick, pickO, O_bin, pairO, O_un, O_conv, convO, O_call, List.map_cons, List.map_nil, O_len, len_slice, O_atRow, O_load1, load1_ptr, O_load, load_ptr, O_mkRow, O_build, mk_some, build_some, partsV_nil, partsV_cons, zeros_zero, zeros_succ, fill_nil, fill_int, fill_bool, fill_slice, fill_string, Nat.lt_add_one, Nat.zero_lt_succ, Nat.reduceLT, Nat.zero_lt_one, B_add, B_sub, B_mul, B_band, B_bor, B_bxor, B_bandNot, B_eql, B_neq, B_lss, B_leq, B_gtr, B_geq, B_shl', B_shr', B_rem, B_quo, U_not, U_neg, List.cons_append, List.nil_append, List.replicate_succ, List.replicate_zero, List.length_cons, List.length_nil, Nat.reduceAdd, Nat.reduceSub, Nat.zero_add, end_ret, end_normal, Bool.false_or, Bool.or_false, Bool.true_or, Bool.or_true, Bool.not_true, Bool.not_false, Bool.true_and, Bool.and_true, Bool.false_and, Bool.and_false, W_some, W_seq, W_block, Q_cont_normal, Q_cont_ret, Q_cont_exit, Q_block_normal, Q_block_ret, Q_block_exit, Q_loop_normal, Q_loop_ret, Q_loop_exit, Q_ret, Q_ret', wrap_small (n := k + 1) (by omega), wrap8 (k := k) (by omega), h8]
        exact ⟨m - 1, by omega, k + 1, _, by omega, W_bits _ _ _, key v hv (fun i q => by rw [hc] at q; cases q) (fun i _ => rfl), junk rfl⟩
      · simp only [C_ops, C_cond, D_exit, D_ret, D_skip, normal_some, cond_tt, cond_ff, E_nil, E_cons, E_guard, next_some, next_none, guard_tt, guard_ff, guard_tf, guard_ft, guard_tu, ev_tmp, ev_const, ev_global, ev_func, get_succ, get_zero, List.set_cons_succ, List.set_cons_zero, O_mv, O_pick, pickO, O_bin, pairO, O_un, O_conv, convO, O_call, List.map_cons, List.map_nil, O_len, len_slice, O_atRow, O_load1, load1_ptr, O_load, load_ptr, O_mkRow, O_build, mk_some, build_some, partsV_nil, partsV_cons, zeros_zero, zeros_succ, fill_nil, fill_int, fill_bool, fill_slice, fill_string, Nat.lt_add_one, Nat.zero_lt_succ, Nat.reduceLT, Nat.zero_lt_one, B_add, B_sub, B_mul, B_band, B_bor, B_bxor, B_bandNot, B_eql, B_neq, B_lss, B_leq, B_gtr, B_geq, B_shl', B_shr', B_rem, B_quo, U_not, U_neg, List.cons_append, List.nil_append, List.replicate_succ, List.replicate_zero, List.length_cons, List.length_nil, Nat.reduceAdd, Nat.reduceSub, Nat.zero_add, end_ret, end_normal, Bool.false_or, Bool.or_false, Bool.true_or, Bool.or_true, Bool.not_true, Bool.not_false, Bool.true_and, Bool.and_true, Bool.false_and, Bool.and_false, W_some, W_seq, W_block, Q_cont_normal, Q_cont_ret, Q_cont_exit, Q_block_normal, Q_block_ret, Q_block_exit, Q_loop_normal, Q_loop_ret, Q_loop_exit, Q_ret, Q_ret', wrap_small (n := k + 1) (by omega), wrap8 (k := k) (by omega), h8, byte29' w k (by omega)]
        exact ⟨m - 1, by omega, k + 1, _, by omega, W_bits _ _ _, key w hw (fun i _ => rfl) (fun i q => by rw [hc] at q; cases q), junk rfl⟩
    · have h1 : ¬ (k : Int) < 8 := by omega
      simp only [C_ops, C_cond, D_exit, D_ret, D_skip, normal_some, cond_tt, cond_ff, E_nil, E_cons, E_guard, next_some, next_none, guard_tt, guard_ff, guard_tf, guard_ft, guard_tu, ev_tmp, ev_const, ev_global, ev_func, get_succ, get_zero, List.set_cons_succ, List.set_cons_zero, O_mv, O_pick, pickO, O_bin, pairO, O_un, O_conv, convO, O_call, List.map_cons, List.map_nil, O_len, len_slice, O_atRow, O_load1, load1_ptr, O_load, load_ptr, O_mkRow, O_build, mk_some, build_some, partsV_nil, partsV_cons, zeros_zero, zeros_succ, fill_nil, fill_int, fill_bool, fill_slice, fill_string, Nat.lt_add_one, Nat.zero_lt_succ, Nat.reduceLT, Nat.zero_lt_one, B_add, B_sub, B_mul, B_band, B_bor, B_bxor, B_bandNot, B_eql, B_neq, B_lss, B_leq, B_gtr, B_geq, B_shl', B_shr', B_rem, B_quo, U_not, U_neg, List.cons_append, List.nil_append, List.replicate_succ, List.replicate_zero, List.length_cons, List.length_nil, Nat.reduceAdd, Nat.reduceSub, Nat.zero_add, end_ret, end_normal, Bool.false_or, Bool.or_false, Bool.true_or, Bool.or_true, Bool.not_true, Bool.not_false, Bool.true_and, Bool.and_true, Bool.false_and, Bool.and_false, W_some, W_seq, W_block, Q_cont_normal, Q_cont_ret, Q_cont_exit, Q_block_normal, Q_block_ret, Q_block_exit, Q_loop_normal, Q_loop_ret, Q_loop_exit, Q_ret, Q_ret', h1, decide_false]
      congr 3
      refine ext hW (W_blendV _ _ _) fun i hi => ?_
      rw [hb i hi, b_blendV _ _ _ hi]
      simp [show i < 8 * k by omega]
  · exact ⟨0, 0, by omega, by unfold W; omega, fun i hi => by simp [bi, B], junk rfl⟩
end Go.Proofs.Ytcdjdmcacomkgaa.AM
