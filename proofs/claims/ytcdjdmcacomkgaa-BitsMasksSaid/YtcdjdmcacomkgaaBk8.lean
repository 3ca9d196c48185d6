/-
  What is laid in is taken out; masks that part the bytes: what the functions of the abstract machine come to.
  Conditions: the values are in int's range.
-/
import Derived.Test.YtcdjdmcacomkgaaBk7
namespace Go.Proofs.Ytcdjdmcacomkgaa.AM
open Go.RowKit
set_option linter.unusedSimpArgs false
set_option linter.unusedVariables false

theorem b_zero (i : Nat) : bi 0 i = false := by simp [bi, B]
theorem b_union1 (a : Int) {k : Nat} (hk : k < 64) : bi (unionV [a]) k = (bi a k && decide (k < 8)) := by
  unfold unionV orL; simp only [List.foldl_cons, List.foldl_nil]; rw [b_and, b_or, b_zero, b_255 hk, Bool.false_or]
theorem b_union2 (a b : Int) {k : Nat} (hk : k < 64) : bi (unionV [a, b]) k = ((bi a k || bi b k) && decide (k < 8)) := by
  unfold unionV orL; simp only [List.foldl_cons, List.foldl_nil]; rw [b_and, b_or, b_or, b_zero, b_255 hk, Bool.false_or]
theorem ints_one (H : Heap) (m : Int) : Ints (H ++ [AObj.cells [.int .i64 m] 0 false]) (slc H.length 0 0 1 1) [m] := ints_last H m
theorem ints_two (h : Heap) (a b : Int) : Ints (h ++ [AObj.cells [.int .i64 a, .int .i64 b] 0 false]) (slc h.length 0 0 2 1) [a, b] := ⟨_, rfl, by rw [show ([a, b] : List Int).length = 2 from rfl, read_last h _ 2 (by simp)]; rfl⟩
theorem call14a (H : Heap) {v w : Int} (m : Int) (hv : W v) (hw : W w) : DF FF n_bits_Blend [.int .i64 v, .int .i64 w, slc H.length 0 0 1 1] (H ++ [AObj.cells [.int .i64 m] 0 false]) = some (.int .i64 (blendV v w (unionV [m])), H ++ [AObj.cells [.int .i64 m] 0 false]) :=
  blend14 v w hv hw [m] _ _ (ints_one H m) (by simp)
theorem call14b (H : Heap) {v w : Int} (a b : Int) (hv : W v) (hw : W w) : DF FF n_bits_Blend [.int .i64 v, .int .i64 w, slc H.length 0 0 2 1] (H ++ [AObj.cells [.int .i64 a, .int .i64 b] 0 false]) = some (.int .i64 (blendV v w (unionV [a, b])), H ++ [AObj.cells [.int .i64 a, .int .i64 b] 0 false]) :=
  blend14 v w hv hw [a, b] _ _ (ints_two H a b) (by simp)
theorem call15b (H : Heap) (a b : Int) : DF FF n_bits_Union [slc H.length 0 0 2 1] (H ++ [AObj.cells [.int .i64 a, .int .i64 b] 0 false]) = some (.int .i64 (unionV [a, b]), H ++ [AObj.cells [.int .i64 a, .int .i64 b] 0 false]) :=
  union15 [a, b] _ _ (ints_two H a b) (by simp)
theorem call16b (H : Heap) (a b : Int) : DF FF n_bits_Meet [slc H.length 0 0 2 1] (H ++ [AObj.cells [.int .i64 a, .int .i64 b] 0 false]) = some (.int .i64 (meetV [a, b]), H ++ [AObj.cells [.int .i64 a, .int .i64 b] 0 false]) :=
  meet16 [a, b] _ _ (ints_two H a b) (by simp)
theorem W_meet2 (a b : Int) : W (meetV [a, b]) := W_bits .and (Go.bits .and .i64 255 a) b
theorem W_255 : W 255 := by unfold W; omega

set_option maxHeartbeats 2000000 in
set_option maxRecDepth 20000 in
theorem law5 (v w m : Int) (hv : W v) (hw : W w) (h : Heap) : DF FF n_belatedlaw1_BitsParts [.int .i64 v, .int .i64 w, .int .i64 m] h = some (.bool true, h) := by
  refine fun_wp F_belatedlaw1_BitsParts ?_
  obtain ⟨M, hM⟩ : ∃ M, Go.bits .and .i64 m 255 = M := ⟨_, rfl⟩
  have bM : ∀ k, k < 64 → bi M k = (bi m k && decide (k < 8)) := fun k hk => by rw [← hM, b_and, b_255 hk]
  obtain ⟨N, hN⟩ : ∃ N, Go.bits .andNot .i64 255 M = N := ⟨_, rfl⟩
  have bN : ∀ k, k < 64 → bi N k = (decide (k < 8) && !bi M k) := fun k hk => by rw [← hN, b_andNot _ _ hk, b_255 hk]
  obtain ⟨x, hx⟩ : ∃ x, blendV v w (unionV [M]) = x := ⟨_, rfl⟩
  have Wx : W x := by rw [← hx]; exact W_blendV _ _ _
  have bx : ∀ i, i < 64 → bi x i = if bi M (i / 8) then bi w i else bi v i := fun i hi => by
    rw [← hx, b_blendV _ _ _ hi, b_union1 _ (by omega)]; simp [show i / 8 < 8 by omega]
  have e1 : (blendV x w (unionV [N]) == w) = true := by
    rw [beq_iff_eq]
    refine ext (W_blendV _ _ _) hw fun i hi => ?_
    rw [b_blendV _ _ _ hi, b_union1 _ (by omega), bN _ (by omega), bx i hi]
    cases bi M (i / 8) <;> simp [show i / 8 < 8 by omega]
  have e2 : (blendV v x (unionV [M]) == x) = true := by
    rw [beq_iff_eq]
    refine ext (W_blendV _ _ _) Wx fun i hi => ?_
    rw [b_blendV _ _ _ hi, b_union1 _ (by omega), bx i hi]
    cases bi M (i / 8) <;> simp [show i / 8 < 8 by omega]
  have e3 : (blendV x v (unionV [M]) == v) = true := by
    rw [beq_iff_eq]
    refine ext (W_blendV _ _ _) hv fun i hi => ?_
    rw [b_blendV _ _ _ hi, b_union1 _ (by omega), bx i hi]
    cases bi M (i / 8) <;> simp [show i / 8 < 8 by omega]
  have e4 : (blendV v w (unionV [M, N]) == w) = true := by
    rw [beq_iff_eq]
    refine ext (W_blendV _ _ _) hw fun i hi => ?_
    rw [b_blendV _ _ _ hi, b_union2 _ _ (by omega), bN _ (by omega)]
    cases bi M (i / 8) <;> simp [show i / 8 < 8 by omega]
  have e5 : (unionV [M, N] == 255) = true := by
    rw [beq_iff_eq]
    refine ext (W_bits _ _ _) W_255 fun i hi => ?_
    rw [b_union2 _ _ hi, bN _ hi, b_255 hi]
    cases bi M i <;> cases decide (i < 8) <;> rfl
  have e6 : (meetV [M, N] == 0) = true := by
    rw [beq_iff_eq]
    refine ext (W_meet2 _ _) (by unfold W; omega) fun i hi => ?_
    unfold meetV; simp only [List.foldl_cons, List.foldl_nil]
    rw [b_and, b_and, bN _ hi, b_zero]
    cases bi M i <;> simp
  simp only [c_belatedlaw1_BitsParts, C_ops, C_cond, D_exit, D_ret, D_skip, normal_some, cond_tt, cond_ff, E_nil, E_cons, E_guard, next_some, next_none, guard_tt, guard_ff, guard_tf, guard_ft, guard_tu, ev_tmp, ev_const, ev_global, ev_func, get_succ, get_zero, List.set_cons_succ, List.set_cons_zero, O_mv, O_pick, pickO, O_bin, pairO, O_un, O_conv, convO, O_call, List.map_cons, List.map_nil, O_len, len_slice, O_atRow, O_load1, load1_ptr, O_load, load_ptr, O_mkRow, O_build, mk_some, build_some, partsV_nil, partsV_cons, zeros_zero, zeros_succ, fill_nil, fill_int, fill_bool, fill_slice, fill_string, Nat.lt_add_one, Nat.zero_lt_succ, Nat.reduceLT, Nat.zero_lt_one, B_add, B_sub, B_mul, B_band, B_bor, B_bxor, B_bandNot, B_eql, B_neq, B_lss, B_leq, B_gtr, B_geq, B_shl', B_shr', B_rem, B_quo, U_not, U_neg, List.cons_append, List.nil_append, List.replicate_succ, List.replicate_zero, List.length_cons, List.length_nil, Nat.reduceAdd, Nat.reduceSub, Nat.zero_add, end_ret, end_normal, Bool.false_or, Bool.or_false, Bool.true_or, Bool.or_true, Bool.not_true, Bool.not_false, Bool.true_and, Bool.and_true, Bool.false_and, Bool.and_false, W_some, W_seq, W_block, Q_cont_normal, Q_cont_ret, Q_cont_exit, Q_block_normal, Q_block_ret, Q_block_exit, Q_loop_normal, Q_loop_ret, Q_loop_exit, Q_ret, Q_ret', able9, hM, hN, call14a _ _ hv hw, hx, call14a _ _ Wx hw, call14a _ _ hv Wx, call14a _ _ Wx hv, call14b _ _ _ hv hw, call15b, call16b, e1, e2, e3, e4, e5, e6]
  simp only [List.append_assoc]
  rw [Q_more _ _ _ _ _ rfl]
  rfl

theorem ok_zero {off n : Int} (hk : okAt off n = true) : okAt 0 n = true := ok_all (p := fun off n => okAt 0 n = true) (by decide +kernel) hk
theorem count_mask {off n : Int} (hk : okAt off n = true) : (countV (maskV off n) != n) = false := ok_all (p := fun off n => (countV (maskV off n) != n) = false) (by decide +kernel) hk
theorem place_self {off n : Int} (hk : okAt off n = true) : (placeV off 0 n == off) = true := ok_all (p := fun off n => (placeV off 0 n == off) = true) (by decide +kernel) hk
theorem place_ok : ∀ k : Nat, k < 8 → ∀ n ∈ [(1 : Int), 2, 4, 8], okAt (Go.bits .andNot .i64 (k : Int) (IntKind.i64.wrap (n - 1))) n = true ∧ ((Go.bits .andNot .i64 (k : Int) (IntKind.i64.wrap (n - 1))).tmod n == 0) = true := by decide +kernel
theorem and7 (x : Int) : Go.bits .and .i64 x 7 = x % 8 := by
  have h8 : (B x &&& 7#64).toNat < 8 := by
    rw [BitVec.toNat_and]
    exact Nat.lt_of_le_of_lt Nat.and_le_right (by decide)
  have e : (B x &&& 7#64).toNat = (B x).toNat % 8 := by
    rw [BitVec.toNat_and]; exact Nat.and_two_pow_sub_one_eq_mod (B x).toNat 3
  have e2 : Go.bits .and .i64 x 7 = ((B x &&& 7#64).toNat : Int) := by
    unfold Go.bits
    exact wrap_small (by show -9223372036854775808 ≤ ((B x &&& 7#64).toNat : Int) ∧ ((B x &&& 7#64).toNat : Int) ≤ _; omega)
  rw [e2, e]
  unfold B
  rw [BitVec.toNat_ofInt]
  have h0 : 0 ≤ x % ((2 ^ 64 : Nat) : Int) := Int.emod_nonneg _ (by decide)
  rw [Int.natCast_emod, Int.toNat_of_nonneg h0, two64]
  show x % 18446744073709551616 % 8 = x % 8
  omega
theorem place_seven (off index n : Int) : placeV off (Go.bits .and .i64 index 7) n = placeV off index n := by
  unfold placeV
  have : Go.bits .and .i64 (IntKind.i64.wrap (off + Go.bits .and .i64 index 7)) 7 = Go.bits .and .i64 (IntKind.i64.wrap (off + index)) 7 := by
    simp only [and7, IntKind.wrap_i64]; omega
  rw [this]
theorem apart {off n other : Int} (hk : okAt off n = true) (ho : okAt other n = true) (hne : maskV other n ≠ maskV off n) : other.toNat + n.toNat ≤ off.toNat ∨ off.toNat + n.toNat ≤ other.toNat := by
  have hk' := ok_cases hk
  have ho' := ok_cases ho
  have : other ≠ off := fun e => hne (by rw [e])
  omega
set_option maxHeartbeats 2000000 in
set_option maxRecDepth 20000 in
theorem law8 (v x off n other index : Int) (hv : W v) (hx : W x) (h : Heap) : DF FF n_belatedlaw1_BitsBack [.int .i64 v, .int .i64 x, .int .i64 off, .int .i64 n, .int .i64 other, .int .i64 index] h = some (.bool true, h) := by
  refine fun_wp F_belatedlaw1_BitsBack ?_
  cases hk : okAt off n
  · have e1 : (putV v off n x == v) = true := by simp [putV, hk]
    have e2 : (getV v off n == 0) = true := by simp [getV, hk]
    simp only [c_belatedlaw1_BitsBack, C_ops, C_cond, D_exit, D_ret, D_skip, normal_some, cond_tt, cond_ff, E_nil, E_cons, E_guard, next_some, next_none, guard_tt, guard_ff, guard_tf, guard_ft, guard_tu, ev_tmp, ev_const, ev_global, ev_func, get_succ, get_zero, List.set_cons_succ, List.set_cons_zero, O_mv, O_pick, pickO, O_bin, pairO, O_un, O_conv, convO, O_call, List.map_cons, List.map_nil, O_len, len_slice, O_atRow, O_load1, load1_ptr, O_load, load_ptr, O_mkRow, O_build, mk_some, build_some, partsV_nil, partsV_cons, zeros_zero, zeros_succ, fill_nil, fill_int, fill_bool, fill_slice, fill_string, Nat.lt_add_one, Nat.zero_lt_succ, Nat.reduceLT, Nat.zero_lt_one, B_add, B_sub, B_mul, B_band, B_bor, B_bxor, B_bandNot, B_eql, B_neq, B_lss, B_leq, B_gtr, B_geq, B_shl', B_shr', B_rem, B_quo, U_not, U_neg, List.cons_append, List.nil_append, List.replicate_succ, List.replicate_zero, List.length_cons, List.length_nil, Nat.reduceAdd, Nat.reduceSub, Nat.zero_add, end_ret, end_normal, Bool.false_or, Bool.or_false, Bool.true_or, Bool.or_true, Bool.not_true, Bool.not_false, Bool.true_and, Bool.and_true, Bool.false_and, Bool.and_false, W_some, W_seq, W_block, Q_cont_normal, Q_cont_ret, Q_cont_exit, Q_block_normal, Q_block_ret, Q_block_exit, Q_loop_normal, Q_loop_ret, Q_loop_exit, Q_ret, Q_ret', able9, mask22, mask_no hk, put12 v off n x hv hx, get10, e1, e2]
  · have hr := ok_range hk
    have Wp := W_putV v off n x hv
    have hz : n ≠ 0 := by omega
    obtain ⟨p, hp⟩ : ∃ p, putV v off n x = p := ⟨_, rfl⟩
    rw [hp] at Wp
    have bp : ∀ i, i < 64 → bi p i = if decide (off.toNat ≤ i / 8) && decide (i / 8 < off.toNat + n.toNat) then bi (shl .i64 x (8 * off)) i else bi v i := fun i hi => by
      rw [← hp, putV, if_pos hk, b_blendV _ _ _ hi, b_maskV hk _ (by omega)]
    have e1 : (getV p off n != getV x 0 n) = false := by
      have : getV p off n = getV x 0 n := by
        refine ext (W_getV _ _ _) (W_getV _ _ _) fun i hi => ?_
        rw [b_getV p hk hi, b_getV x (ok_zero hk) hi]
        by_cases hl : i < 8 * n.toNat
        · rw [bp _ (by omega), b_shl _ _ (by omega) (by omega) (by omega)]
          have a1 : off.toNat ≤ (8 * off.toNat + i) / 8 := by omega
          have a2 : (8 * off.toNat + i) / 8 < off.toNat + n.toNat := by omega
          have a3 : ¬ 8 * off.toNat + i < (8 * off).toNat := by omega
          have a4 : 8 * off.toNat + i - (8 * off).toNat = 8 * (0 : Int).toNat + i := by simp; omega
          rw [a4]
          simp [a1, a2, a3, hl]
        · simp [hl]
      rw [this]; simp
    have e2 : (blendV p v (unionV [maskV off n]) != v) = false := by
      have : blendV p v (unionV [maskV off n]) = v := by
        rw [union_mask hk]
        refine ext (W_blendV _ _ _) hv fun i hi => ?_
        rw [b_blendV _ _ _ hi, b_maskV hk _ (by omega), bp _ hi]
        split
        · rfl
        · rfl
      rw [this]; simp
    have e3 := count_mask hk
    obtain ⟨k, hk8, hkk⟩ := and_seven (IntKind.i64.wrap (off + index))
    have hpl : placeV off index n = Go.bits .andNot .i64 (k : Int) (IntKind.i64.wrap (n - 1)) := by rw [placeV, if_pos hr.2.2.2.2.2, hkk]
    obtain ⟨o1, o2⟩ := place_ok k hk8 n (by simp only [List.mem_cons, List.not_mem_nil, or_false]; exact sized_cases hr.2.2.2.2.2)
    rw [← hpl] at o1 o2
    have e4 : (maskV (placeV off index n) n != 0) = true := by
      have := mask_ne o1; rw [bne, this]; rfl
    have e5 := place_self hk
    have fin : ∀ (s6 : Bool), s6 = true → s6 = true := fun _ h => h
    cases ho : maskV other n != 0
    · simp only [c_belatedlaw1_BitsBack, C_ops, C_cond, D_exit, D_ret, D_skip, normal_some, cond_tt, cond_ff, E_nil, E_cons, E_guard, next_some, next_none, guard_tt, guard_ff, guard_tf, guard_ft, guard_tu, ev_tmp, ev_const, ev_global, ev_func, get_succ, get_zero, List.set_cons_succ, List.set_cons_zero, O_mv, O_pick, pickO, O_bin, pairO, O_un, O_conv, convO, O_call, List.map_cons, List.map_nil, O_len, len_slice, O_atRow, O_load1, load1_ptr, O_load, load_ptr, O_mkRow, O_build, mk_some, build_some, partsV_nil, partsV_cons, zeros_zero, zeros_succ, fill_nil, fill_int, fill_bool, fill_slice, fill_string, Nat.lt_add_one, Nat.zero_lt_succ, Nat.reduceLT, Nat.zero_lt_one, B_add, B_sub, B_mul, B_band, B_bor, B_bxor, B_bandNot, B_eql, B_neq, B_lss, B_leq, B_gtr, B_geq, B_shl', B_shr', B_rem, B_quo, U_not, U_neg, List.cons_append, List.nil_append, List.replicate_succ, List.replicate_zero, List.length_cons, List.length_nil, Nat.reduceAdd, Nat.reduceSub, Nat.zero_add, end_ret, end_normal, Bool.false_or, Bool.or_false, Bool.true_or, Bool.or_true, Bool.not_true, Bool.not_false, Bool.true_and, Bool.and_true, Bool.false_and, Bool.and_false, W_some, W_seq, W_block, Q_cont_normal, Q_cont_ret, Q_cont_exit, Q_block_normal, Q_block_ret, Q_block_exit, Q_loop_normal, Q_loop_ret, Q_loop_exit, Q_ret, Q_ret', able9, mask22, mask_ne hk, put12 v off n x hv hx, hp, get10, e1, call14a _ _ Wp hv, e2, count26, e3, ho, place24, e4, ne_eq, hz, not_false_eq_true, o2, e5, place_seven, beq_self_eq_true]
      rw [Q_more _ _ _ _ _ rfl]
      rfl
    · have ho' : okAt other n = true := by
        cases hq : okAt other n
        · simp [maskV, hq] at ho
        · rfl
      cases hd : maskV other n != maskV off n
      · simp only [c_belatedlaw1_BitsBack, C_ops, C_cond, D_exit, D_ret, D_skip, normal_some, cond_tt, cond_ff, E_nil, E_cons, E_guard, next_some, next_none, guard_tt, guard_ff, guard_tf, guard_ft, guard_tu, ev_tmp, ev_const, ev_global, ev_func, get_succ, get_zero, List.set_cons_succ, List.set_cons_zero, O_mv, O_pick, pickO, O_bin, pairO, O_un, O_conv, convO, O_call, List.map_cons, List.map_nil, O_len, len_slice, O_atRow, O_load1, load1_ptr, O_load, load_ptr, O_mkRow, O_build, mk_some, build_some, partsV_nil, partsV_cons, zeros_zero, zeros_succ, fill_nil, fill_int, fill_bool, fill_slice, fill_string, Nat.lt_add_one, Nat.zero_lt_succ, Nat.reduceLT, Nat.zero_lt_one, B_add, B_sub, B_mul, B_band, B_bor, B_bxor, B_bandNot, B_eql, B_neq, B_lss, B_leq, B_gtr, B_geq, B_shl', B_shr', B_rem, B_quo, U_not, U_neg, List.cons_append, List.nil_append, List.replicate_succ, List.replicate_zero, List.length_cons, List.length_nil, Nat.reduceAdd, Nat.reduceSub, Nat.zero_add, end_ret, end_normal, Bool.false_or, Bool.or_false, Bool.true_or, Bool.or_true, Bool.not_true, Bool.not_false, Bool.true_and, Bool.and_true, Bool.false_and, Bool.and_false, W_some, W_seq, W_block, Q_cont_normal, Q_cont_ret, Q_cont_exit, Q_block_normal, Q_block_ret, Q_block_exit, Q_loop_normal, Q_loop_ret, Q_loop_exit, Q_ret, Q_ret', able9, mask22, mask_ne hk, put12 v off n x hv hx, hp, get10, e1, call14a _ _ Wp hv, e2, count26, e3, ho, hd, place24, e4, ne_eq, hz, not_false_eq_true, o2, e5, place_seven, beq_self_eq_true]
        rw [Q_more _ _ _ _ _ rfl]
        rfl
      · have hap := apart hk ho' (by simpa using hd)
        have hr' := ok_range ho'
        have e6 : (meetV [maskV other n, maskV off n] != 0) = false := by
          have : meetV [maskV other n, maskV off n] = 0 := by
            refine ext (W_meet2 _ _) (by unfold W; omega) fun i hi => ?_
            unfold meetV; simp only [List.foldl_cons, List.foldl_nil]
            rw [b_and, b_and, b_maskV ho' _ hi, b_maskV hk _ hi, b_zero, b_255 hi]
            by_cases q : other.toNat ≤ i ∧ i < other.toNat + n.toNat
            · have : ¬ (off.toNat ≤ i ∧ i < off.toNat + n.toNat) := by omega
              simp; omega
            · simp; omega
          rw [this]; rfl
        have e7 : (getV p other n != getV v other n) = false := by
          have : getV p other n = getV v other n := by
            refine ext (W_getV _ _ _) (W_getV _ _ _) fun i hi => ?_
            rw [b_getV p ho' hi, b_getV v ho' hi]
            by_cases hl : i < 8 * n.toNat
            · rw [bp _ (by omega), if_neg]
              simp only [Bool.and_eq_true, decide_eq_true_eq]
              omega
            · simp [hl]
          rw [this]; simp
        simp only [c_belatedlaw1_BitsBack, C_ops, C_cond, D_exit, D_ret, D_skip, normal_some, cond_tt, cond_ff, E_nil, E_cons, E_guard, next_some, next_none, guard_tt, guard_ff, guard_tf, guard_ft, guard_tu, ev_tmp, ev_const, ev_global, ev_func, get_succ, get_zero, List.set_cons_succ, List.set_cons_zero, O_mv, O_pick, pickO, O_bin, pairO, O_un, O_conv, convO, O_call, List.map_cons, List.map_nil, O_len, len_slice, O_atRow, O_load1, load1_ptr, O_load, load_ptr, O_mkRow, O_build, mk_some, build_some, partsV_nil, partsV_cons, zeros_zero, zeros_succ, fill_nil, fill_int, fill_bool, fill_slice, fill_string, Nat.lt_add_one, Nat.zero_lt_succ, Nat.reduceLT, Nat.zero_lt_one, B_add, B_sub, B_mul, B_band, B_bor, B_bxor, B_bandNot, B_eql, B_neq, B_lss, B_leq, B_gtr, B_geq, B_shl', B_shr', B_rem, B_quo, U_not, U_neg, List.cons_append, List.nil_append, List.replicate_succ, List.replicate_zero, List.length_cons, List.length_nil, Nat.reduceAdd, Nat.reduceSub, Nat.zero_add, end_ret, end_normal, Bool.false_or, Bool.or_false, Bool.true_or, Bool.or_true, Bool.not_true, Bool.not_false, Bool.true_and, Bool.and_true, Bool.false_and, Bool.and_false, W_some, W_seq, W_block, Q_cont_normal, Q_cont_ret, Q_cont_exit, Q_block_normal, Q_block_ret, Q_block_exit, Q_loop_normal, Q_loop_ret, Q_loop_exit, Q_ret, Q_ret', able9, mask22, mask_ne hk, put12 v off n x hv hx, hp, get10, e1, call14a _ _ Wp hv, e2, count26, e3, ho, hd, call16b, e6, e7, place24, e4, ne_eq, hz, not_false_eq_true, o2, e5, place_seven, beq_self_eq_true]
        simp only [List.append_assoc]
        rw [Q_more _ _ _ _ _ rfl]
        rfl
end Go.Proofs.Ytcdjdmcacomkgaa.AM
