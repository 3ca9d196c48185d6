/-
  The laws of relations: what is told of any relation; sets, pairs, crosses.
  Conditions: none.
-/
import Derived.Test.YtjjlbfamfioofaaRl4
namespace Go.Proofs.Ytjjlbfamfioofaa.AM
open Go.RowKit
set_option linter.unusedSimpArgs false
set_option linter.unusedVariables false

theorem evK_mem (s : U) (k e : Nat) : e ∈ evK s k ↔ e < k ∧ s.getLsbD e = true := by
  unfold evK; rw [List.mem_filter, List.mem_range]
theorem pairsK_mem (r : Nat → U) (k x y : Nat) : (x, y) ∈ pairsK r k ↔ x < k ∧ y < 32 ∧ Bt r x y := by
  unfold pairsK
  rw [List.mem_flatMap]
  constructor
  · rintro ⟨a, ha, h⟩
    rw [List.mem_map] at h
    obtain ⟨b, hb, e⟩ := h
    cases e
    have := (evK_mem _ _ _).1 hb
    exact ⟨by simpa using ha, this.1, this.2⟩
  · rintro ⟨h1, h2, h3⟩
    exact ⟨x, by simpa using h1, List.mem_map.2 ⟨y, (evK_mem _ _ _).2 ⟨h2, h3⟩, rfl⟩⟩
theorem count_pairs (r : Nat → U) (k : Nat) : countR r k = (pairsK r k).length := by
  induction k with
  | zero => rfl
  | succ k ih => rw [pairsK_succ, List.length_append, List.length_map, evL_pop, ← ih]; rfl
def shS (f : Nat × Nat → Nat) (l : List (Nat × Nat)) : U := l.foldl (fun s p => s ||| (1#32 <<< f p)) 0#32
theorem shS_bit (f : Nat × Nat → Nat) (l : List (Nat × Nat)) (x : U) {i : Nat} (hi : i < 32) : (l.foldl (fun s p => s ||| (1#32 <<< f p)) x).getLsbD i = true ↔ (x.getLsbD i = true ∨ ∃ p ∈ l, f p = i) := by
  induction l generalizing x with
  | nil => simp
  | cons p l ih =>
    rw [List.foldl_cons, ih, BitVec.getLsbD_or, Bool.or_eq_true, u_one hi, decide_eq_true_eq]
    simp only [List.mem_cons, exists_eq_or_imp, or_assoc, eq_comm (a := i)]
theorem shS_succ (f : Nat × Nat → Nat) (l : List (Nat × Nat)) {k : Nat} (hk : k < l.length) : shS f (l.take (k + 1)) = shS f (l.take k) ||| (1#32 <<< f l[k]) := by
  unfold shS; rw [List.take_succ_eq_append_getElem hk, List.foldl_append]; rfl
theorem eqAgg_pair (h : Heap) (x y z w : Int) (neg : Bool) : eqAggO h neg [.int, .int] (agg [.int .i64 x, .int .i64 y]) (agg [.int .i64 z, .int .i64 w]) = some (.bool ((x == z && y == w) != neg), h) := by
  refine eqAgg_some h rfl rfl ?_
  simp only [rowEq, leafEq, if_true]
  cases hx : x == z <;> cases hy : y == w <;> rfl
theorem arr2_0 (H : Heap) (p : Addr) : arrO H 2 1 (.pointer (some p)) (.int .i64 0) = some (.pointer (some p), H) := rfl
theorem arr2_1 (H : Heap) (b o : Nat) (s : Option Nat) : arrO H 2 1 (.pointer (some ⟨b, o, s⟩)) (.int .i64 1) = some (.pointer (some ⟨b, o + 1, s⟩), H) := rfl
set_option maxRecDepth 20000 in
set_option maxHeartbeats 1000000 in
theorem law_RelTells (r : Nat → U) (a b : Int) (h : Heap) : DF FF n_belatedlaw2_RelTells [agg (relV r), .int .i64 a, .int .i64 b] h = some (.bool true, h) := by
  refine fun_wpU F_belatedlaw2_RelTells ?_
  obtain ⟨P, hP⟩ : ∃ P, P = pairsK r 32 := ⟨_, rfl⟩
  obtain ⟨v7, H1, l1, l2, l3⟩ := rel_Pairs_c r (h ++ [.cells (relV r) 0 false])
  obtain ⟨L1, rfl⟩ := l3
  obtain ⟨v8, H2, m1, m2, m3⟩ := ref_Pairs_c r (h ++ [.cells (relV r) 0 false] ++ L1)
  rw [← hP] at l2 m2
  have s7 : Sl H2 v7 2 (P.map pairN) := Sl.pre l2.sl m3
  have s8 : Sl H2 v8 2 (P.map pairN) := m2.sl
  have hpre : Pre h H2 := Pre.trans ⟨_, rfl⟩ (Pre.trans ⟨_, rfl⟩ m3)
  have r3 : Heap.read H2 ⟨h.length, 0, some 0⟩ 32 = some (relV r) := by
    obtain ⟨L2, rfl⟩ := m3
    simp only [C_ops, C_cond, D_exit, D_ret, D_skip, normal_some, cond_tt, cond_ff, E_nil, E_cons, E_guard, next_some, next_none, guard_tt, guard_ff, guard_tf, guard_ft, guard_tu, ev_tmp, ev_const, ev_global, ev_func, get_succ, get_zero, List.set_cons_succ, List.set_cons_zero, O_mv, O_pick, pickO, O_bin, pairO, O_un, O_conv, convO, O_call, List.map_cons, List.map_nil, O_len, len_slice, O_atRow, O_load1, load1_ptr, O_load, load_ptr, O_mkRow, O_build, mk_some, build_some, partsV_nil, partsV_cons, zeros_zero, zeros_succ, fill_nil, fill_int, fill_bool, fill_slice, fill_string, Nat.lt_add_one, Nat.zero_lt_succ, Nat.reduceLT, Nat.zero_lt_one, B_add, B_sub, B_mul, B_band, B_bor, B_bxor, B_bandNot, B_eql, B_neq, B_lss, B_leq, B_gtr, B_geq, B_shl', B_shr', B_rem, B_quo, U_not, U_neg, List.cons_append, List.nil_append, List.length_cons, List.length_nil, Nat.reduceAdd, Nat.reduceSub, Nat.zero_add, end_ret, end_normal, Bool.false_or, Bool.or_false, Bool.true_or, Bool.or_true, Bool.not_true, Bool.not_false, Bool.true_and, Bool.and_true, Bool.false_and, Bool.and_false, W_some, W_seq, W_block, Q_cont_normal, Q_cont_ret, Q_cont_exit, Q_block_normal, Q_block_ret, Q_block_exit, Q_loop_normal, Q_loop_ret, Q_loop_exit, Q_ret, Q_ret', slc, O_append, O_slice, cut_to, cut_from, cut_all, cut_mid, Option.map_none, O_alloc, O_box, O_atArr, arr_some, O_off, off_ptr, O_field, O_field1, field1_agg, pair_some, O_extract, extract_tup, wrote_some, O_store1, store1_int, store1_bool, store1_string, store1_slice, store1_ptr, store1_func, store1_nilFunc, store1_map, O_store, store_agg, O_nilCheck, nilCheck_ptr, nilCheck_func, read1_skip, read1_skip0, read1_next, read1_there, read_skip, read_skip0, read_next, read_there, pre_some, cons_some, write1_skip, write1_skip0, write1_next, write1_there, write_skip, write_skip0, write_next, write_there, fillU_zero, fillU_succ, List.append_assoc, List.length_append, List.append_nil, rowOf_len, rowOf_get, rowOf_set, Int.toNat_natCast, Nat.mul_one, Nat.add_zero, Option.map_some, List.getElem?_cons_zero, List.getElem?_cons_succ, Q_out, O_idxStr, O_idxArr, idxArr_nat, O_max2, max_int, O_min2, min_int, Q_retE, Q_retE2, Q_retE3, Bool.bne_false, Bool.bne_true, beq_self_eq_true, Bool.true_beq, Bool.false_beq, O_eqv, eqv_bool, Int.reduceLE, Int.reduceLT, Int.reduceToNat, fill_rel1, fill_rel2, fill_rel3, Q_cellsE, cellsE_ptr, outE_rel, eq_self, arr_nat, row_nat, laid_agg, box_some, O_again, again_agg, O_again1, O_eqAgg, eq_rel, relV_len, relV_get, relV_mixput, relV_mixall, mix_zero, mix_at, rowOf_mixset, rowOf_mixall, relV_zero, Q_for_normal, Q_for_exit, Q_for_ret, u_or, u_and, u_andNot, u_shl, u_shl1, u_bit, u_eq, u_ne]
  have hPl : P.length ≤ 1024 := by rw [hP]; have := pairsK_len r 32; omega
  have e1 : ((P.length : Int) != (P.length : Int)) = false := by simp
  have e2 : ((countR r 32 : Int) != (P.length : Int)) = false := by rw [count_pairs, hP]; simp
  have e3 : (emptyR r == ((P.length : Int) == 0)) = true := by
    rw [beq_iff_eq]
    refine bool_iff.2 ?_
    rw [empty_iff, beq_iff_eq]
    constructor
    · intro hc
      have : P = [] := by
        rw [hP, List.eq_nil_iff_forall_not_mem]
        rintro ⟨x, y⟩ hxy
        obtain ⟨h1, h2, h3⟩ := (pairsK_mem _ _ _ _).1 hxy
        exact hc x y h1 h2 h3
      rw [this]; rfl
    · intro hc x y hx hy hb
      have hm := (pairsK_mem r 32 x y).2 ⟨hx, hy, hb⟩
      rw [← hP] at hm
      have := List.length_pos_of_mem hm
      omega
  simp only [List.append_assoc, List.cons_append, List.nil_append] at l1 m1
  simp only [c_belatedlaw2_RelTells, C_ops, C_cond, D_exit, D_ret, D_skip, normal_some, cond_tt, cond_ff, E_nil, E_cons, E_guard, next_some, next_none, guard_tt, guard_ff, guard_tf, guard_ft, guard_tu, ev_tmp, ev_const, ev_global, ev_func, get_succ, get_zero, List.set_cons_succ, List.set_cons_zero, O_mv, O_pick, pickO, O_bin, pairO, O_un, O_conv, convO, O_call, List.map_cons, List.map_nil, O_len, len_slice, O_atRow, O_load1, load1_ptr, O_load, load_ptr, O_mkRow, O_build, mk_some, build_some, partsV_nil, partsV_cons, zeros_zero, zeros_succ, fill_nil, fill_int, fill_bool, fill_slice, fill_string, Nat.lt_add_one, Nat.zero_lt_succ, Nat.reduceLT, Nat.zero_lt_one, B_add, B_sub, B_mul, B_band, B_bor, B_bxor, B_bandNot, B_eql, B_neq, B_lss, B_leq, B_gtr, B_geq, B_shl', B_shr', B_rem, B_quo, U_not, U_neg, List.cons_append, List.nil_append, List.length_cons, List.length_nil, Nat.reduceAdd, Nat.reduceSub, Nat.zero_add, end_ret, end_normal, Bool.false_or, Bool.or_false, Bool.true_or, Bool.or_true, Bool.not_true, Bool.not_false, Bool.true_and, Bool.and_true, Bool.false_and, Bool.and_false, W_some, W_seq, W_block, Q_cont_normal, Q_cont_ret, Q_cont_exit, Q_block_normal, Q_block_ret, Q_block_exit, Q_loop_normal, Q_loop_ret, Q_loop_exit, Q_ret, Q_ret', slc, O_append, O_slice, cut_to, cut_from, cut_all, cut_mid, Option.map_none, O_alloc, O_box, O_atArr, arr_some, O_off, off_ptr, O_field, O_field1, field1_agg, pair_some, O_extract, extract_tup, wrote_some, O_store1, store1_int, store1_bool, store1_string, store1_slice, store1_ptr, store1_func, store1_nilFunc, store1_map, O_store, store_agg, O_nilCheck, nilCheck_ptr, nilCheck_func, read1_skip, read1_skip0, read1_next, read1_there, read_skip, read_skip0, read_next, read_there, pre_some, cons_some, write1_skip, write1_skip0, write1_next, write1_there, write_skip, write_skip0, write_next, write_there, fillU_zero, fillU_succ, List.append_assoc, List.length_append, List.append_nil, rowOf_len, rowOf_get, rowOf_set, Int.toNat_natCast, Nat.mul_one, Nat.add_zero, Option.map_some, List.getElem?_cons_zero, List.getElem?_cons_succ, Q_out, O_idxStr, O_idxArr, idxArr_nat, O_max2, max_int, O_min2, min_int, Q_retE, Q_retE2, Q_retE3, Bool.bne_false, Bool.bne_true, beq_self_eq_true, Bool.true_beq, Bool.false_beq, O_eqv, eqv_bool, Int.reduceLE, Int.reduceLT, Int.reduceToNat, fill_rel1, fill_rel2, fill_rel3, Q_cellsE, cellsE_ptr, outE_rel, eq_self, arr_nat, row_nat, laid_agg, box_some, O_again, again_agg, O_again1, O_eqAgg, eq_rel, relV_len, relV_get, relV_mixput, relV_mixall, mix_zero, mix_at, rowOf_mixset, rowOf_mixall, relV_zero, Q_for_normal, Q_for_exit, Q_for_ret, u_or, u_and, u_andNot, u_shl, u_shl1, u_bit, u_eq, u_ne, able2, l1, m1, l2.len, m2.len, List.length_map, e1, r3, rel_Count_c, e2, rel_Empty_c, e3]
  refine for_wp P.length (fun k st => ∃ j : Nat → Value, st = ⟨[j 0, .int .i64 a, .int .i64 b, .pointer (some ⟨h.length, 0, some 0⟩), j 4, j 5, j 6, v7, v8, .int .u32 (shS Prod.fst (P.take k)).toNat, .int .u32 (shS Prod.snd (P.take k)).toNat, .bool ((P.take k).any fun p => (p.1 : Int) == a && (p.2 : Int) == b), .int .i64 k, j 13, j 14, j 15, j 16, j 17, j 18, j 19, j 20, j 21, j 22, j 23, j 24, j 25, j 26, j 27, j 28, j 29, j 30, j 31, j 32, j 33, j 34, j 35, j 36, j 37, j 38, j 39, j 40, j 41, j 42, j 43, j 44, j 45, j 46, j 47, j 48, j 49, j 50, j 51, j 52, j 53, j 54, j 55, j 56, j 57, j 58, j 59, j 60, j 61, j 62, j 63, j 64, j 65, j 66, j 67, j 68, j 69, j 70, j 71, j 72, j 73, j 74, j 75, j 76, j 77, j 78, j 79, j 80, j 81, j 82, j 83, j 84, j 85, j 86, j 87, j 88, j 89, j 90, j 91, j 92, j 93, j 94, j 95, j 96, j 97, j 98, j 99, j 100, j 101, j 102, j 103, j 104, j 105, j 106, j 107, j 108, j 109, j 110, j 111, j 112], H2⟩) ?_ ?_ _ ?_
  · rintro k st hk ⟨j, rfl⟩
    have h1 : (k : Int) < P.length := by omega
    obtain ⟨b7, o7, w7, p1, p2⟩ := s7.atH (k := k) (by simpa using hk)
    obtain ⟨b8, o8, w8, q1, q2⟩ := s8.atH (k := k) (by simpa using hk)
    rw [List.getElem_map] at p2 q2
    obtain ⟨x, y, hxy⟩ : ∃ x y, P[k] = (x, y) := ⟨_, _, rfl⟩
    rw [hxy] at p2 q2
    simp only [pairN] at p2 q2
    have q3 := read1_of0 q2 (x := .int .i64 (x : Int)) rfl
    have q4 := read1_of q2 (i := 1) (x := .int .i64 (y : Int)) rfl
    have t1 := shS_succ Prod.fst P hk
    have t2 := shS_succ Prod.snd P hk
    rw [hxy] at t1 t2
    have t3 : ((P.take (k + 1)).any fun p => (p.1 : Int) == a && (p.2 : Int) == b) = (((P.take k).any fun p => (p.1 : Int) == a && (p.2 : Int) == b) || ((x : Int) == a && (y : Int) == b)) := by
      rw [List.take_succ_eq_append_getElem hk, List.any_append, hxy]; simp
    rw [t1, t2, t3]
    have e4 : ((x : Int) == x && (y : Int) == y) = true := by simp
    cases hc : ((P.take k).any fun p => (p.1 : Int) == a && (p.2 : Int) == b)
    · simp only [C_ops, C_cond, D_exit, D_ret, D_skip, normal_some, cond_tt, cond_ff, E_nil, E_cons, E_guard, next_some, next_none, guard_tt, guard_ff, guard_tf, guard_ft, guard_tu, ev_tmp, ev_const, ev_global, ev_func, get_succ, get_zero, List.set_cons_succ, List.set_cons_zero, O_mv, O_pick, pickO, O_bin, pairO, O_un, O_conv, convO, O_call, List.map_cons, List.map_nil, O_len, len_slice, O_atRow, O_load1, load1_ptr, O_load, load_ptr, O_mkRow, O_build, mk_some, build_some, partsV_nil, partsV_cons, zeros_zero, zeros_succ, fill_nil, fill_int, fill_bool, fill_slice, fill_string, Nat.lt_add_one, Nat.zero_lt_succ, Nat.reduceLT, Nat.zero_lt_one, B_add, B_sub, B_mul, B_band, B_bor, B_bxor, B_bandNot, B_eql, B_neq, B_lss, B_leq, B_gtr, B_geq, B_shl', B_shr', B_rem, B_quo, U_not, U_neg, List.cons_append, List.nil_append, List.length_cons, List.length_nil, Nat.reduceAdd, Nat.reduceSub, Nat.zero_add, end_ret, end_normal, Bool.false_or, Bool.or_false, Bool.true_or, Bool.or_true, Bool.not_true, Bool.not_false, Bool.true_and, Bool.and_true, Bool.false_and, Bool.and_false, W_some, W_seq, W_block, Q_cont_normal, Q_cont_ret, Q_cont_exit, Q_block_normal, Q_block_ret, Q_block_exit, Q_loop_normal, Q_loop_ret, Q_loop_exit, Q_ret, Q_ret', slc, O_append, O_slice, cut_to, cut_from, cut_all, cut_mid, Option.map_none, O_alloc, O_box, O_atArr, arr_some, O_off, off_ptr, O_field, O_field1, field1_agg, pair_some, O_extract, extract_tup, wrote_some, O_store1, store1_int, store1_bool, store1_string, store1_slice, store1_ptr, store1_func, store1_nilFunc, store1_map, O_store, store_agg, O_nilCheck, nilCheck_ptr, nilCheck_func, read1_skip, read1_skip0, read1_next, read1_there, read_skip, read_skip0, read_next, read_there, pre_some, cons_some, write1_skip, write1_skip0, write1_next, write1_there, write_skip, write_skip0, write_next, write_there, fillU_zero, fillU_succ, List.append_assoc, List.length_append, List.append_nil, rowOf_len, rowOf_get, rowOf_set, Int.toNat_natCast, Nat.mul_one, Nat.add_zero, Option.map_some, List.getElem?_cons_zero, List.getElem?_cons_succ, Q_out, O_idxStr, O_idxArr, idxArr_nat, O_max2, max_int, O_min2, min_int, Q_retE, Q_retE2, Q_retE3, Bool.bne_false, Bool.bne_true, beq_self_eq_true, Bool.true_beq, Bool.false_beq, O_eqv, eqv_bool, Int.reduceLE, Int.reduceLT, Int.reduceToNat, fill_rel1, fill_rel2, fill_rel3, Q_cellsE, cellsE_ptr, outE_rel, eq_self, arr_nat, row_nat, laid_agg, box_some, O_again, again_agg, O_again1, O_eqAgg, eq_rel, relV_len, relV_get, relV_mixput, relV_mixall, mix_zero, mix_at, rowOf_mixset, rowOf_mixall, relV_zero, Q_for_normal, Q_for_exit, Q_for_ret, u_or, u_and, u_andNot, u_shl, u_shl1, u_bit, u_eq, u_ne, m2.len, List.length_map, h1, decide_true, p1, p2, q1, q2, q3, q4, eqAgg_pair, e4, nat0, arr2_0, arr2_1, hc, wrap_nat (k := k) (by omega)]
      exact junk rfl
    · simp only [C_ops, C_cond, D_exit, D_ret, D_skip, normal_some, cond_tt, cond_ff, E_nil, E_cons, E_guard, next_some, next_none, guard_tt, guard_ff, guard_tf, guard_ft, guard_tu, ev_tmp, ev_const, ev_global, ev_func, get_succ, get_zero, List.set_cons_succ, List.set_cons_zero, O_mv, O_pick, pickO, O_bin, pairO, O_un, O_conv, convO, O_call, List.map_cons, List.map_nil, O_len, len_slice, O_atRow, O_load1, load1_ptr, O_load, load_ptr, O_mkRow, O_build, mk_some, build_some, partsV_nil, partsV_cons, zeros_zero, zeros_succ, fill_nil, fill_int, fill_bool, fill_slice, fill_string, Nat.lt_add_one, Nat.zero_lt_succ, Nat.reduceLT, Nat.zero_lt_one, B_add, B_sub, B_mul, B_band, B_bor, B_bxor, B_bandNot, B_eql, B_neq, B_lss, B_leq, B_gtr, B_geq, B_shl', B_shr', B_rem, B_quo, U_not, U_neg, List.cons_append, List.nil_append, List.length_cons, List.length_nil, Nat.reduceAdd, Nat.reduceSub, Nat.zero_add, end_ret, end_normal, Bool.false_or, Bool.or_false, Bool.true_or, Bool.or_true, Bool.not_true, Bool.not_false, Bool.true_and, Bool.and_true, Bool.false_and, Bool.and_false, W_some, W_seq, W_block, Q_cont_normal, Q_cont_ret, Q_cont_exit, Q_block_normal, Q_block_ret, Q_block_exit, Q_loop_normal, Q_loop_ret, Q_loop_exit, Q_ret, Q_ret', slc, O_append, O_slice, cut_to, cut_from, cut_all, cut_mid, Option.map_none, O_alloc, O_box, O_atArr, arr_some, O_off, off_ptr, O_field, O_field1, field1_agg, pair_some, O_extract, extract_tup, wrote_some, O_store1, store1_int, store1_bool, store1_string, store1_slice, store1_ptr, store1_func, store1_nilFunc, store1_map, O_store, store_agg, O_nilCheck, nilCheck_ptr, nilCheck_func, read1_skip, read1_skip0, read1_next, read1_there, read_skip, read_skip0, read_next, read_there, pre_some, cons_some, write1_skip, write1_skip0, write1_next, write1_there, write_skip, write_skip0, write_next, write_there, fillU_zero, fillU_succ, List.append_assoc, List.length_append, List.append_nil, rowOf_len, rowOf_get, rowOf_set, Int.toNat_natCast, Nat.mul_one, Nat.add_zero, Option.map_some, List.getElem?_cons_zero, List.getElem?_cons_succ, Q_out, O_idxStr, O_idxArr, idxArr_nat, O_max2, max_int, O_min2, min_int, Q_retE, Q_retE2, Q_retE3, Bool.bne_false, Bool.bne_true, beq_self_eq_true, Bool.true_beq, Bool.false_beq, O_eqv, eqv_bool, Int.reduceLE, Int.reduceLT, Int.reduceToNat, fill_rel1, fill_rel2, fill_rel3, Q_cellsE, cellsE_ptr, outE_rel, eq_self, arr_nat, row_nat, laid_agg, box_some, O_again, again_agg, O_again1, O_eqAgg, eq_rel, relV_len, relV_get, relV_mixput, relV_mixall, mix_zero, mix_at, rowOf_mixset, rowOf_mixall, relV_zero, Q_for_normal, Q_for_exit, Q_for_ret, u_or, u_and, u_andNot, u_shl, u_shl1, u_bit, u_eq, u_ne, m2.len, List.length_map, h1, decide_true, p1, p2, q1, q2, q3, q4, eqAgg_pair, e4, nat0, arr2_0, arr2_1, hc, wrap_nat (k := k) (by omega)]
      exact junk rfl
  · rintro st ⟨j, rfl⟩
    have h1 : ¬ ((P.length : Nat) : Int) < P.length := by omega
    have f1 : (hasR r a b == P.any fun p => (p.1 : Int) == a && (p.2 : Int) == b) = true := by
      rw [beq_iff_eq]
      refine bool_iff.2 ?_
      unfold hasR
      simp only [Bool.and_eq_true, decide_eq_true_eq, List.any_eq_true, beq_iff_eq]
      constructor
      · rintro ⟨⟨ha, ha'⟩, ⟨hb, hb'⟩, hc⟩
        refine ⟨(a.toNat, b.toNat), ?_, by simp; omega, by simp; omega⟩
        rw [hP]; exact (pairsK_mem _ _ _ _).2 ⟨by omega, by omega, hc⟩
      · rintro ⟨⟨x, y⟩, hm, hx, hy⟩
        rw [hP] at hm
        obtain ⟨g1, g2, g3⟩ := (pairsK_mem _ _ _ _).1 hm
        simp only at hx hy
        subst hx hy
        exact ⟨by omega, by omega, by simpa using g3⟩
    have f2 : (domainR r == shS Prod.fst P) = true := by
      rw [beq_iff_eq]
      refine u_ext fun i hi => bool_iff.2 ?_
      unfold shS
      rw [domain_bit _ hi, shS_bit _ _ _ hi]
      constructor
      · rintro ⟨y, hy, hb⟩
        exact .inr ⟨(i, y), by rw [hP]; exact (pairsK_mem _ _ _ _).2 ⟨hi, hy, hb⟩, rfl⟩
      · rintro (hz | ⟨⟨x, y⟩, hm, hx⟩)
        · simp at hz
        · rw [hP] at hm
          obtain ⟨g1, g2, g3⟩ := (pairsK_mem _ _ _ _).1 hm
          simp only at hx; subst hx
          exact ⟨y, g2, g3⟩
    have f3 : (rangeR r == shS Prod.snd P) = true := by
      rw [beq_iff_eq]
      refine u_ext fun i hi => bool_iff.2 ?_
      unfold shS
      rw [range_bit, shS_bit _ _ _ hi]
      constructor
      · rintro ⟨x, hx, hb⟩
        exact .inr ⟨(x, i), by rw [hP]; exact (pairsK_mem _ _ _ _).2 ⟨hx, hi, hb⟩, rfl⟩
      · rintro (hz | ⟨⟨x, y⟩, hm, hy⟩)
        · simp at hz
        · rw [hP] at hm
          obtain ⟨g1, g2, g3⟩ := (pairsK_mem _ _ _ _).1 hm
          simp only at hy; subst hy
          exact ⟨x, g1, g3⟩
    have f4 : (irreflR r == irreflK r 32) = true := by
      rw [beq_iff_eq]; refine bool_iff.2 ?_; rw [irrefl_iff, irreflK_iff]
    have f5 : (acyclicR r == irreflK (ofTab (plusT (tabOf r) 32)) 32) = true := by
      rw [beq_iff_eq]; refine bool_iff.2 ?_
      rw [acyclic_iff, irreflK_iff]
      exact ⟨fun hc x hx hb => hc x hx ((same_at (same_plus r) hx x).2 hb), fun hc x hx hb => hc x hx ((same_at (same_plus r) hx x).1 hb)⟩
    simp only [C_ops, C_cond, D_exit, D_ret, D_skip, normal_some, cond_tt, cond_ff, E_nil, E_cons, E_guard, next_some, next_none, guard_tt, guard_ff, guard_tf, guard_ft, guard_tu, ev_tmp, ev_const, ev_global, ev_func, get_succ, get_zero, List.set_cons_succ, List.set_cons_zero, O_mv, O_pick, pickO, O_bin, pairO, O_un, O_conv, convO, O_call, List.map_cons, List.map_nil, O_len, len_slice, O_atRow, O_load1, load1_ptr, O_load, load_ptr, O_mkRow, O_build, mk_some, build_some, partsV_nil, partsV_cons, zeros_zero, zeros_succ, fill_nil, fill_int, fill_bool, fill_slice, fill_string, Nat.lt_add_one, Nat.zero_lt_succ, Nat.reduceLT, Nat.zero_lt_one, B_add, B_sub, B_mul, B_band, B_bor, B_bxor, B_bandNot, B_eql, B_neq, B_lss, B_leq, B_gtr, B_geq, B_shl', B_shr', B_rem, B_quo, U_not, U_neg, List.cons_append, List.nil_append, List.length_cons, List.length_nil, Nat.reduceAdd, Nat.reduceSub, Nat.zero_add, end_ret, end_normal, Bool.false_or, Bool.or_false, Bool.true_or, Bool.or_true, Bool.not_true, Bool.not_false, Bool.true_and, Bool.and_true, Bool.false_and, Bool.and_false, W_some, W_seq, W_block, Q_cont_normal, Q_cont_ret, Q_cont_exit, Q_block_normal, Q_block_ret, Q_block_exit, Q_loop_normal, Q_loop_ret, Q_loop_exit, Q_ret, Q_ret', slc, O_append, O_slice, cut_to, cut_from, cut_all, cut_mid, Option.map_none, O_alloc, O_box, O_atArr, arr_some, O_off, off_ptr, O_field, O_field1, field1_agg, pair_some, O_extract, extract_tup, wrote_some, O_store1, store1_int, store1_bool, store1_string, store1_slice, store1_ptr, store1_func, store1_nilFunc, store1_map, O_store, store_agg, O_nilCheck, nilCheck_ptr, nilCheck_func, read1_skip, read1_skip0, read1_next, read1_there, read_skip, read_skip0, read_next, read_there, pre_some, cons_some, write1_skip, write1_skip0, write1_next, write1_there, write_skip, write_skip0, write_next, write_there, fillU_zero, fillU_succ, List.append_assoc, List.length_append, List.append_nil, rowOf_len, rowOf_get, rowOf_set, Int.toNat_natCast, Nat.mul_one, Nat.add_zero, Option.map_some, List.getElem?_cons_zero, List.getElem?_cons_succ, Q_out, O_idxStr, O_idxArr, idxArr_nat, O_max2, max_int, O_min2, min_int, Q_retE, Q_retE2, Q_retE3, Bool.bne_false, Bool.bne_true, beq_self_eq_true, Bool.true_beq, Bool.false_beq, O_eqv, eqv_bool, Int.reduceLE, Int.reduceLT, Int.reduceToNat, fill_rel1, fill_rel2, fill_rel3, Q_cellsE, cellsE_ptr, outE_rel, eq_self, arr_nat, row_nat, laid_agg, box_some, O_again, again_agg, O_again1, O_eqAgg, eq_rel, relV_len, relV_get, relV_mixput, relV_mixall, mix_zero, mix_at, rowOf_mixset, rowOf_mixall, relV_zero, Q_for_normal, Q_for_exit, Q_for_ret, u_or, u_and, u_andNot, u_shl, u_shl1, u_bit, u_eq, u_ne, m2.len, List.length_map, h1, decide_false, List.take_length, r3, rel_Has_c, f1, rel_Domain_c, f2, rel_Range_c, f3, rel_Irreflexive_c, ref_Irreflexive_c, f4, rel_Acyclic_c, ref_Acyclic_c, f5]
    rw [Q_pre hpre _ _ _ rfl]
    rfl
  · exact junk rfl
theorem relTells_law (h : Heap) (us : List Value) (hu : TypedAs h [(true, (List.replicate 32 (.int .u32))), (false, [(.int .i64)]), (false, [(.int .i64)])] us) : ∃ h', DF FF n_belatedlaw2_RelTells us h = some (.bool true, h') := by
  match us, hu with
  | [a, b, c], ⟨h0, h1, h2, _⟩ =>
    obtain ⟨r, rfl⟩ := typed_rel h0
    obtain ⟨x, rfl, _⟩ := typed_int h1
    obtain ⟨y, rfl, _⟩ := typed_int h2
    exact ⟨h, law_RelTells r x y h⟩
end Go.Proofs.Ytjjlbfamfioofaa.AM
