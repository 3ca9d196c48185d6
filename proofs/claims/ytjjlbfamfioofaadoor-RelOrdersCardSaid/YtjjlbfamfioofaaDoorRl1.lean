/-
  The laws of relations: what their functions come to, first part.
  Conditions: none.
-/
import Derived.Test.YtjjlbfamfioofaaDoorRm
namespace Go.Proofs.YtjjlbfamfioofaaDoor.AM
open Go.RowKit
set_option linter.unusedSimpArgs false
set_option linter.unusedVariables false

theorem Pair1 (h : Heap) (x y : Int) : DF FF n_rel_Pair [.slice (some ⟨h.length, 0, some 0⟩) 1 2] (h ++ [.cells [.int .i64 x, .int .i64 y] 0 false]) = some (agg (relV (pairR [(x, y)])), h ++ [.cells [.int .i64 x, .int .i64 y] 0 false]) :=
  rel_Pair_c [(x, y)] _ _ (Sl.last (rows := [[.int .i64 x, .int .i64 y]]) h (by simp) rfl (by simp) 0 false) (by simp)
theorem Pair1_0 (h : Heap)  (x y : Int) : DF FF n_rel_Pair [.slice (some ⟨h.length, 0, some 0⟩) 1 2] (h ++ [.cells [.int .i64 x, .int .i64 y] 0 false]) = some (agg (relV (pairR [(x, y)])), h ++ [.cells [.int .i64 x, .int .i64 y] 0 false]) := by
  have := Pair1 (h ++ []) x y
  simpa using this
theorem Pair1_1 (h : Heap) (a0 : AObj) (x y : Int) : DF FF n_rel_Pair [.slice (some ⟨h.length + 1, 0, some 0⟩) 1 2] (h ++ [a0, .cells [.int .i64 x, .int .i64 y] 0 false]) = some (agg (relV (pairR [(x, y)])), h ++ [a0, .cells [.int .i64 x, .int .i64 y] 0 false]) := by
  have := Pair1 (h ++ [a0]) x y
  simpa using this
theorem Pair1_2 (h : Heap) (a0 a1 : AObj) (x y : Int) : DF FF n_rel_Pair [.slice (some ⟨h.length + 2, 0, some 0⟩) 1 2] (h ++ [a0, a1, .cells [.int .i64 x, .int .i64 y] 0 false]) = some (agg (relV (pairR [(x, y)])), h ++ [a0, a1, .cells [.int .i64 x, .int .i64 y] 0 false]) := by
  have := Pair1 (h ++ [a0, a1]) x y
  simpa using this
theorem Pair1_3 (h : Heap) (a0 a1 a2 : AObj) (x y : Int) : DF FF n_rel_Pair [.slice (some ⟨h.length + 3, 0, some 0⟩) 1 2] (h ++ [a0, a1, a2, .cells [.int .i64 x, .int .i64 y] 0 false]) = some (agg (relV (pairR [(x, y)])), h ++ [a0, a1, a2, .cells [.int .i64 x, .int .i64 y] 0 false]) := by
  have := Pair1 (h ++ [a0, a1, a2]) x y
  simpa using this
def ab0 : Nat → U := pairR [(0, 1)]
def ab1 : Nat → U := pairR [(1, 2)]
theorem ab_has : hasR (seqK [ab0, ab1]) 0 2 = true := by decide +kernel
theorem ab_count : countR (seqK [ab0, ab1]) 32 = 1 := by decide +kernel
theorem ab01 : Bt ab0 0 1 := by decide +kernel
theorem ab12 : Bt ab1 1 2 := by decide +kernel
theorem hasR_nat (r : Nat → U) {a b : Nat} (ha : a < 32) (hb : b < 32) : hasR r a b = (r a).getLsbD b := by
  unfold hasR
  rw [decide_eq_true (show (0 : Int) ≤ a ∧ (a : Int) < 32 by omega), decide_eq_true (show (0 : Int) ≤ b ∧ (b : Int) < 32 by omega)]; rfl
theorem ab_plus : hasR (plusR (unionK [ab0, ab1])) 0 2 = true := by
  have h : Bt (plusR (unionK [ab0, ab1])) 0 2 := plus_trans _ (m := 1) (by omega) (plus_up _ ((union_bit _ _ _).2 ⟨ab0, by simp, ab01⟩)) (plus_up _ ((union_bit _ _ _).2 ⟨ab1, by simp, ab12⟩))
  exact (hasR_nat (plusR (unionK [ab0, ab1])) (a := 0) (b := 2) (by omega) (by omega)).trans h
theorem ab_cyc : acyclicR (unionK [ab0, invR ab0]) = false := by
  rw [Bool.eq_false_iff]
  intro h
  refine (acyclic_iff _).1 h 0 (by omega) (plus_trans _ (m := 1) (by omega) (plus_up _ ((union_bit _ _ _).2 ⟨ab0, by simp, ab01⟩)) (plus_up _ ((union_bit _ _ _).2 ⟨invR ab0, by simp, (inv_bit _ _ (by omega)).2 ab01⟩)))
theorem ab_first : (((firstS 3).toNat : Int) == 7) = true := by decide +kernel
set_option maxRecDepth 20000 in
theorem able2 (h : Heap) : DF FF n_belatedlaw2_able [] h = some (.bool true, h) := by
  refine fun_wpU F_belatedlaw2_able ?_
  have e1 : (((countR (seqK [pairR [(0, 1)], pairR [(1, 2)]]) 32 : Nat) : Int) == 1) = true := by rw [show countR (seqK [pairR [(0, 1)], pairR [(1, 2)]]) 32 = 1 from ab_count]; rfl
  simp only [c_belatedlaw2_able, C_ops, C_cond, D_exit, D_ret, D_skip, normal_some, cond_tt, cond_ff, E_nil, E_cons, E_guard, next_some, next_none, guard_tt, guard_ff, guard_tf, guard_ft, guard_tu, ev_tmp, ev_const, ev_global, ev_func, get_succ, get_zero, List.set_cons_succ, List.set_cons_zero, O_mv, O_pick, pickO, O_bin, pairO, O_un, O_conv, convO, O_call, List.map_cons, List.map_nil, O_len, len_slice, O_atRow, O_load1, load1_ptr, O_load, load_ptr, O_mkRow, O_build, mk_some, build_some, partsV_nil, partsV_cons, zeros_zero, zeros_succ, fill_nil, fill_int, fill_bool, fill_slice, fill_string, Nat.lt_add_one, Nat.zero_lt_succ, Nat.reduceLT, Nat.zero_lt_one, B_add, B_sub, B_mul, B_band, B_bor, B_bxor, B_bandNot, B_eql, B_neq, B_lss, B_leq, B_gtr, B_geq, B_shl', B_shr', B_rem, B_quo, U_not, U_neg, List.cons_append, List.nil_append, List.length_cons, List.length_nil, Nat.reduceAdd, Nat.reduceSub, Nat.zero_add, end_ret, end_normal, Bool.false_or, Bool.or_false, Bool.true_or, Bool.or_true, Bool.not_true, Bool.not_false, Bool.true_and, Bool.and_true, Bool.false_and, Bool.and_false, W_some, W_seq, W_block, Q_cont_normal, Q_cont_ret, Q_cont_exit, Q_block_normal, Q_block_ret, Q_block_exit, Q_loop_normal, Q_loop_ret, Q_loop_exit, Q_ret, Q_ret', slc, O_append, O_slice, cut_to, cut_from, cut_all, cut_mid, Option.map_none, O_alloc, O_box, O_atArr, arr_some, O_off, off_ptr, O_field, O_field1, field1_agg, pair_some, O_extract, extract_tup, wrote_some, O_store1, store1_int, store1_bool, store1_string, store1_slice, store1_ptr, store1_func, store1_nilFunc, store1_map, O_store, store_agg, O_nilCheck, nilCheck_ptr, nilCheck_func, read1_skip, read1_skip0, read1_next, read1_there, read_skip, read_skip0, read_next, read_there, pre_some, cons_some, write1_skip, write1_skip0, write1_next, write1_there, write_skip, write_skip0, write_next, write_there, fillU_zero, fillU_succ, List.append_assoc, List.length_append, List.append_nil, rowOf_len, rowOf_get, rowOf_set, Int.toNat_natCast, Nat.mul_one, Nat.add_zero, Option.map_some, List.getElem?_cons_zero, List.getElem?_cons_succ, Q_out, O_idxStr, O_idxArr, idxArr_nat, O_max2, max_int, O_min2, min_int, Q_retE, Q_retE2, Q_retE3, Bool.bne_false, Bool.bne_true, beq_self_eq_true, Bool.true_beq, Bool.false_beq, O_eqv, eqv_bool, Int.reduceLE, Int.reduceLT, Int.reduceToNat, fill_rel1, fill_rel2, fill_rel3, Q_cellsE, cellsE_ptr, outE_rel, eq_self, arr_nat, row_nat, laid_agg, box_some, O_again, again_agg, O_again1, O_eqAgg, eq_rel, relV_len, relV_get, relV_mixput, relV_mixall, mix_zero, mix_at, rowOf_mixset, rowOf_mixall, relV_zero, Q_for_normal, Q_for_exit, Q_for_ret, u_or, u_and, u_andNot, u_shl, u_shl1, u_bit, u_eq, u_ne, fill_two, Pair1_0, Pair1_1, Union2_0, Union2_1, Union2_2, Union2_3, Union2_4, Union2_5, Union2_6, Union2_7, Union2_8, Union2_9, Union2_10, Union2_11, Union2_12, Union2_13, Union2_14, Union2_15, Union2_16, Union2_17, Union2_18, Union2_19, Union2_20, Union2_21, Union2_22, Union2_23, Union2_24, Union2_25, Union2_26, Union3_0, Union3_1, Union3_2, Union3_3, Union3_4, Union3_5, Union3_6, Union3_7, Union3_8, Union3_9, Union3_10, Union3_11, Union3_12, Union3_13, Union3_14, Union3_15, Union3_16, Union3_17, Union3_18, Union3_19, Union3_20, Union3_21, Union3_22, Union3_23, Union3_24, Union3_25, Union3_26, Meet2_0, Meet2_1, Meet2_2, Meet2_3, Meet2_4, Meet2_5, Meet2_6, Meet2_7, Meet2_8, Meet2_9, Meet2_10, Meet2_11, Meet2_12, Meet2_13, Meet2_14, Meet2_15, Meet2_16, Meet2_17, Meet2_18, Meet2_19, Meet2_20, Meet2_21, Meet2_22, Meet2_23, Meet2_24, Meet2_25, Meet2_26, Seq2_0, Seq2_1, Seq2_2, Seq2_3, Seq2_4, Seq2_5, Seq2_6, Seq2_7, Seq2_8, Seq2_9, Seq2_10, Seq2_11, Seq2_12, Seq2_13, Seq2_14, Seq2_15, Seq2_16, Seq2_17, Seq2_18, Seq2_19, Seq2_20, Seq2_21, Seq2_22, Seq2_23, Seq2_24, Seq2_25, Seq2_26, Seq3_0, Seq3_1, Seq3_2, Seq3_3, Seq3_4, Seq3_5, Seq3_6, Seq3_7, Seq3_8, Seq3_9, Seq3_10, Seq3_11, Seq3_12, Seq3_13, Seq3_14, Seq3_15, Seq3_16, Seq3_17, Seq3_18, Seq3_19, Seq3_20, Seq3_21, Seq3_22, Seq3_23, Seq3_24, Seq3_25, Seq3_26, rel_Has_c, show hasR (seqK [pairR [(0, 1)], pairR [(1, 2)]]) 0 2 = true from ab_has, rel_Count_c, e1, rel_Plus_c, show hasR (plusR (unionK [pairR [(0, 1)], pairR [(1, 2)]])) 0 2 = true from ab_plus, rel_Inverse_c, rel_Acyclic_c,
    show acyclicR (unionK [pairR [(0, 1)], invR (pairR [(0, 1)])]) = false from ab_cyc, rel_First_c, ab_first]
  rw [Q_more _ _ _ _ _ rfl]
  rfl

end Go.Proofs.YtjjlbfamfioofaaDoor.AM
