/-
  The laws of relations: sides.
  Conditions: none.
-/
import Derived.Test.YtjjlbfamfioofaaRl3
namespace Go.Proofs.Ytjjlbfamfioofaa.AM
open Go.RowKit
set_option linter.unusedSimpArgs false
set_option linter.unusedVariables false

theorem Q_pre {h H : Heap} (p : Pre h H) (i : Nat) (t : List Value) (r : Option (Value × Heap)) (hf : flat (t.getD i undef) = true) : retQ h [.tmp i] r .ret ⟨t, H⟩ = (some (t.getD i undef, h) = r) := by
  obtain ⟨L, rfl⟩ := p; exact Q_more h L i t r hf
theorem u_eq0 (x : U) : (((x.toNat : Int) == 0) : Bool) = (x == 0#32) := u_eq x 0#32
theorem u_ne0 (x : U) : (((x.toNat : Int) != 0) : Bool) = (x != 0#32) := u_ne x 0#32
theorem u_nonzero {x : U} (h : x ≠ 0#32) : ∃ e, e < 32 ∧ x.getLsbD e = true := by
  apply Classical.byContradiction
  intro hc
  refine h (u_ext fun i hi => ?_)
  have : ¬ x.getLsbD i = true := fun h => hc ⟨i, hi, h⟩
  rw [Bool.not_eq_true] at this
  rw [this]; simp
theorem evK_pop (s : U) (k : Nat) : (evK s k).length = pop (fun e => s.getLsbD e) k := by
  induction k with
  | zero => rfl
  | succ k ih =>
    rw [evK_succ]
    unfold pop
    split
    · rename_i h; rw [List.length_append, ih]; rfl
    · rename_i h; rw [ih]; rfl
theorem evL_pop (s : U) : (evL s).length = popU s := evK_pop s 32
theorem pop_zero (n : Nat) : pop (fun _ => false) n = 0 := by
  induction n with
  | zero => rfl
  | succ n ih => unfold pop; rw [ih]; rfl
theorem pop_one (c : Bool) (e n : Nat) (he : e < n) : pop (fun k => c && decide (k = e)) n = if c then 1 else 0 := by
  have h1 : n = e + (1 + (n - e - 1)) := by omega
  rw [h1, pop_add, pop_add]
  rw [pop_congr (g := fun _ => false) (fun k hk => by simp; intro _; omega), pop_zero]
  rw [pop_congr (f := fun k => (c && decide (e + (1 + k) = e))) (g := fun _ => false) (fun k hk => by simp), pop_zero]
  unfold pop; unfold pop
  cases c <;> simp
theorem count_cross (a b : U) (k : Nat) : countR (crossR a b) k = pop (fun e => a.getLsbD e) k * popU b := by
  induction k with
  | zero => simp [countR, pop]
  | succ k ih =>
    unfold countR pop
    rw [ih, Nat.add_mul]
    congr 1
    cases h : a.getLsbD k
    · simp only [crossR, h]
      unfold popU
      rw [pop_congr (g := fun _ => false) (fun i _ => by simp), pop_zero]
      simp
    · simp [crossR, h]
theorem count_id (a : U) (k : Nat) (hk : k ≤ 32) : countR (idR a) k = pop (fun e => a.getLsbD e) k := by
  induction k with
  | zero => rfl
  | succ k ih =>
    unfold countR pop
    rw [ih (by omega)]
    congr 1
    unfold popU idR
    rw [← pop_one (a.getLsbD k) k 32 (by omega)]
    refine pop_congr fun i hi => ?_
    rw [BitVec.getLsbD_and, u_one hi]
    by_cases h : i = k
    · subst h; rfl
    · simp [h]
set_option maxRecDepth 20000 in
set_option maxHeartbeats 1000000 in
theorem law_RelSides (a b : U) (r : Nat → U) (h : Heap) : DF FF n_belatedlaw2_RelSides [.int .u32 a.toNat, .int .u32 b.toNat, agg (relV r)] h = some (.bool true, h) := by
  refine fun_wpU F_belatedlaw2_RelSides ?_
  have e1 : emptyR (minusR r (crossR (domainR r) (rangeR r))) = true := (empty_iff _).2 fun x y hx hy hc => by
    rw [minus_bit _ _ _ hy, cross_bit, domain_bit _ hx, range_bit] at hc
    exact hc.2 ⟨⟨y, hy, hc.1⟩, ⟨x, hx, hc.1⟩⟩
  have e2 : ((countR (crossR a b) 32 : Int) != IntKind.i64.wrap (((evL a).length : Int) * ((evL b).length : Int))) = false := by
    have h1 := popU_le a
    have h2 := popU_le b
    have h3 : popU a * popU b ≤ 32 * 32 := Nat.mul_le_mul h1 h2
    rw [count_cross, evL_pop, evL_pop, ← Int.natCast_mul]
    rw [wrapS (by omega)]
    show (((popU a * popU b : Nat) : Int) != _) = false
    simp
  have e3 : sameR (seqK [idR a, r, idR b]) (meetK [r, crossR a b]) = true := same_of fun x y hx hy => by
    rw [seq3_bit _ _ _ hx, meet_bit _ hx hy]
    simp only [List.mem_cons, List.not_mem_nil, or_false, forall_eq_or_imp, forall_eq]
    rw [cross_bit]
    constructor
    · rintro ⟨e, he, ⟨d, hd, h1, h2⟩, h3⟩
      rw [id_bit _ _ hd] at h1
      rw [id_bit _ _ hy] at h3
      obtain ⟨h1, rfl⟩ := h1
      obtain ⟨h3, rfl⟩ := h3
      exact ⟨h2, h1, h3⟩
    · rintro ⟨h1, h2, h3⟩
      exact ⟨y, hy, ⟨x, hx, (id_bit _ _ hx).2 ⟨h2, rfl⟩, h1⟩, (id_bit _ _ hy).2 ⟨h3, rfl⟩⟩
  have e4 : (domainR (invR r) == rangeR r) = true := by
    rw [beq_iff_eq]
    refine u_ext fun i hi => bool_iff.2 ?_
    rw [domain_bit _ hi, range_bit]
    exact ⟨fun ⟨e, he, h1⟩ => ⟨e, he, (inv_bit _ _ he).1 h1⟩, fun ⟨e, he, h1⟩ => ⟨e, he, (inv_bit _ _ he).2 h1⟩⟩
  have e5 : ((countR (idR a) 32 : Int) == ((evL a).length : Int)) = true := by
    rw [count_id a 32 (Nat.le_refl _), evL_pop]; simp [popU]
  obtain ⟨v1, H1, l1, l2, l3⟩ := rel_List_c a (h ++ [.cells (relV r) 0 false, .cells (relV (crossR a b)) 0 false])
  obtain ⟨L1, rfl⟩ := l3
  obtain ⟨v2, H2, m1, m2, m3⟩ := rel_List_c b (h ++ [.cells (relV r) 0 false, .cells (relV (crossR a b)) 0 false] ++ L1)
  obtain ⟨L2, rfl⟩ := m3
  obtain ⟨H, hH⟩ : ∃ H, H = h ++ .cells (relV r) 0 false :: .cells (relV (crossR a b)) 0 false :: (L1 ++ L2) := ⟨_, rfl⟩
  have r1 : ∀ M, Heap.read (H ++ M) ⟨h.length, 0, some 0⟩ 32 = some (relV r) := fun M => by rw [hH]; simp only [C_ops, C_cond, D_exit, D_ret, D_skip, normal_some, cond_tt, cond_ff, E_nil, E_cons, E_guard, next_some, next_none, guard_tt, guard_ff, guard_tf, guard_ft, guard_tu, ev_tmp, ev_const, ev_global, ev_func, get_succ, get_zero, List.set_cons_succ, List.set_cons_zero, O_mv, O_pick, pickO, O_bin, pairO, O_un, O_conv, convO, O_call, List.map_cons, List.map_nil, O_len, len_slice, O_atRow, O_load1, load1_ptr, O_load, load_ptr, O_mkRow, O_build, mk_some, build_some, partsV_nil, partsV_cons, zeros_zero, zeros_succ, fill_nil, fill_int, fill_bool, fill_slice, fill_string, Nat.lt_add_one, Nat.zero_lt_succ, Nat.reduceLT, Nat.zero_lt_one, B_add, B_sub, B_mul, B_band, B_bor, B_bxor, B_bandNot, B_eql, B_neq, B_lss, B_leq, B_gtr, B_geq, B_shl', B_shr', B_rem, B_quo, U_not, U_neg, List.cons_append, List.nil_append, List.length_cons, List.length_nil, Nat.reduceAdd, Nat.reduceSub, Nat.zero_add, end_ret, end_normal, Bool.false_or, Bool.or_false, Bool.true_or, Bool.or_true, Bool.not_true, Bool.not_false, Bool.true_and, Bool.and_true, Bool.false_and, Bool.and_false, W_some, W_seq, W_block, Q_cont_normal, Q_cont_ret, Q_cont_exit, Q_block_normal, Q_block_ret, Q_block_exit, Q_loop_normal, Q_loop_ret, Q_loop_exit, Q_ret, Q_ret', slc, O_append, O_slice, cut_to, cut_from, cut_all, cut_mid, Option.map_none, O_alloc, O_box, O_atArr, arr_some, O_off, off_ptr, O_field, O_field1, field1_agg, pair_some, O_extract, extract_tup, wrote_some, O_store1, store1_int, store1_bool, store1_string, store1_slice, store1_ptr, store1_func, store1_nilFunc, store1_map, O_store, store_agg, O_nilCheck, nilCheck_ptr, nilCheck_func, read1_skip, read1_skip0, read1_next, read1_there, read_skip, read_skip0, read_next, read_there, pre_some, cons_some, write1_skip, write1_skip0, write1_next, write1_there, write_skip, write_skip0, write_next, write_there, fillU_zero, fillU_succ, List.append_assoc, List.length_append, List.append_nil, rowOf_len, rowOf_get, rowOf_set, Int.toNat_natCast, Nat.mul_one, Nat.add_zero, Option.map_some, List.getElem?_cons_zero, List.getElem?_cons_succ, Q_out, O_idxStr, O_idxArr, idxArr_nat, O_max2, max_int, O_min2, min_int, Q_retE, Q_retE2, Q_retE3, Bool.bne_false, Bool.bne_true, beq_self_eq_true, Bool.true_beq, Bool.false_beq, O_eqv, eqv_bool, Int.reduceLE, Int.reduceLT, Int.reduceToNat, fill_rel1, fill_rel2, fill_rel3, Q_cellsE, cellsE_ptr, outE_rel, eq_self, arr_nat, row_nat, laid_agg, box_some, O_again, again_agg, O_again1, O_eqAgg, eq_rel, relV_len, relV_get, relV_mixput, relV_mixall, mix_zero, mix_at, rowOf_mixset, rowOf_mixall, relV_zero, Q_for_normal, Q_for_exit, Q_for_ret, u_or, u_and, u_andNot, u_shl, u_shl1, u_bit, u_eq, u_ne]
  have r2 : ∀ M, Heap.read (H ++ M) ⟨h.length + 1, 0, some 0⟩ 32 = some (relV (crossR a b)) := fun M => by rw [hH]; simp only [C_ops, C_cond, D_exit, D_ret, D_skip, normal_some, cond_tt, cond_ff, E_nil, E_cons, E_guard, next_some, next_none, guard_tt, guard_ff, guard_tf, guard_ft, guard_tu, ev_tmp, ev_const, ev_global, ev_func, get_succ, get_zero, List.set_cons_succ, List.set_cons_zero, O_mv, O_pick, pickO, O_bin, pairO, O_un, O_conv, convO, O_call, List.map_cons, List.map_nil, O_len, len_slice, O_atRow, O_load1, load1_ptr, O_load, load_ptr, O_mkRow, O_build, mk_some, build_some, partsV_nil, partsV_cons, zeros_zero, zeros_succ, fill_nil, fill_int, fill_bool, fill_slice, fill_string, Nat.lt_add_one, Nat.zero_lt_succ, Nat.reduceLT, Nat.zero_lt_one, B_add, B_sub, B_mul, B_band, B_bor, B_bxor, B_bandNot, B_eql, B_neq, B_lss, B_leq, B_gtr, B_geq, B_shl', B_shr', B_rem, B_quo, U_not, U_neg, List.cons_append, List.nil_append, List.length_cons, List.length_nil, Nat.reduceAdd, Nat.reduceSub, Nat.zero_add, end_ret, end_normal, Bool.false_or, Bool.or_false, Bool.true_or, Bool.or_true, Bool.not_true, Bool.not_false, Bool.true_and, Bool.and_true, Bool.false_and, Bool.and_false, W_some, W_seq, W_block, Q_cont_normal, Q_cont_ret, Q_cont_exit, Q_block_normal, Q_block_ret, Q_block_exit, Q_loop_normal, Q_loop_ret, Q_loop_exit, Q_ret, Q_ret', slc, O_append, O_slice, cut_to, cut_from, cut_all, cut_mid, Option.map_none, O_alloc, O_box, O_atArr, arr_some, O_off, off_ptr, O_field, O_field1, field1_agg, pair_some, O_extract, extract_tup, wrote_some, O_store1, store1_int, store1_bool, store1_string, store1_slice, store1_ptr, store1_func, store1_nilFunc, store1_map, O_store, store_agg, O_nilCheck, nilCheck_ptr, nilCheck_func, read1_skip, read1_skip0, read1_next, read1_there, read_skip, read_skip0, read_next, read_there, pre_some, cons_some, write1_skip, write1_skip0, write1_next, write1_there, write_skip, write_skip0, write_next, write_there, fillU_zero, fillU_succ, List.append_assoc, List.length_append, List.append_nil, rowOf_len, rowOf_get, rowOf_set, Int.toNat_natCast, Nat.mul_one, Nat.add_zero, Option.map_some, List.getElem?_cons_zero, List.getElem?_cons_succ, Q_out, O_idxStr, O_idxArr, idxArr_nat, O_max2, max_int, O_min2, min_int, Q_retE, Q_retE2, Q_retE3, Bool.bne_false, Bool.bne_true, beq_self_eq_true, Bool.true_beq, Bool.false_beq, O_eqv, eqv_bool, Int.reduceLE, Int.reduceLT, Int.reduceToNat, fill_rel1, fill_rel2, fill_rel3, Q_cellsE, cellsE_ptr, outE_rel, eq_self, arr_nat, row_nat, laid_agg, box_some, O_again, again_agg, O_again1, O_eqAgg, eq_rel, relV_len, relV_get, relV_mixput, relV_mixall, mix_zero, mix_at, rowOf_mixset, rowOf_mixall, relV_zero, Q_for_normal, Q_for_exit, Q_for_ret, u_or, u_and, u_andNot, u_shl, u_shl1, u_bit, u_eq, u_ne]
  have r1' := r1 []
  have r2' := r2 []
  rw [List.append_nil] at r1' r2'
  obtain ⟨v3, H3, n1, n2, n3⟩ := rel_List_c a (H ++ [.cells (relV r ++ relV (crossR a b)) 0 false, .cells (relV (idR a) ++ (relV r ++ relV (idR b))) 0 false])
  simp only [List.append_assoc, List.cons_append, List.nil_append] at l1 m1 n1
  rw [← hH] at m1
  have hend : Pre h H3 := Pre.trans (Pre.trans ⟨_, hH⟩ ⟨_, rfl⟩) n3
  have fin : ∀ (o : Bool), ((a == 0#32) || (b == 0#32)) = o → emptyR (crossR a b) = o → (a ≠ 0#32 → b ≠ 0#32 → domainR (crossR a b) = a ∧ rangeR (crossR a b) = b) → WPD (D FF c_belatedlaw2_RelSides.body ⟨[.int .u32 a.toNat, .int .u32 b.toNat, agg (relV r)] ++ fillU (c_belatedlaw2_RelSides.ntmps - 3), h⟩) (retQ h c_belatedlaw2_RelSides.res (some (.bool true, h))) := by
    intro o ho he hd
    have tail : ∀ t24 t25 t : Nat, True := fun _ _ _ => trivial
    by_cases ha : a = 0#32
    · have ha1 : (a == 0#32) = true := by simp [ha]
      have ha2 : (a != 0#32) = false := by simp [ha]
      have ho1 : o = true := by rw [← ho, ha1]; rfl
      rw [ho1] at he
      simp only [c_belatedlaw2_RelSides, C_ops, C_cond, D_exit, D_ret, D_skip, normal_some, cond_tt, cond_ff, E_nil, E_cons, E_guard, next_some, next_none, guard_tt, guard_ff, guard_tf, guard_ft, guard_tu, ev_tmp, ev_const, ev_global, ev_func, get_succ, get_zero, List.set_cons_succ, List.set_cons_zero, O_mv, O_pick, pickO, O_bin, pairO, O_un, O_conv, convO, O_call, List.map_cons, List.map_nil, O_len, len_slice, O_atRow, O_load1, load1_ptr, O_load, load_ptr, O_mkRow, O_build, mk_some, build_some, partsV_nil, partsV_cons, zeros_zero, zeros_succ, fill_nil, fill_int, fill_bool, fill_slice, fill_string, Nat.lt_add_one, Nat.zero_lt_succ, Nat.reduceLT, Nat.zero_lt_one, B_add, B_sub, B_mul, B_band, B_bor, B_bxor, B_bandNot, B_eql, B_neq, B_lss, B_leq, B_gtr, B_geq, B_shl', B_shr', B_rem, B_quo, U_not, U_neg, List.cons_append, List.nil_append, List.length_cons, List.length_nil, Nat.reduceAdd, Nat.reduceSub, Nat.zero_add, end_ret, end_normal, Bool.false_or, Bool.or_false, Bool.true_or, Bool.or_true, Bool.not_true, Bool.not_false, Bool.true_and, Bool.and_true, Bool.false_and, Bool.and_false, W_some, W_seq, W_block, Q_cont_normal, Q_cont_ret, Q_cont_exit, Q_block_normal, Q_block_ret, Q_block_exit, Q_loop_normal, Q_loop_ret, Q_loop_exit, Q_ret, Q_ret', slc, O_append, O_slice, cut_to, cut_from, cut_all, cut_mid, Option.map_none, O_alloc, O_box, O_atArr, arr_some, O_off, off_ptr, O_field, O_field1, field1_agg, pair_some, O_extract, extract_tup, wrote_some, O_store1, store1_int, store1_bool, store1_string, store1_slice, store1_ptr, store1_func, store1_nilFunc, store1_map, O_store, store_agg, O_nilCheck, nilCheck_ptr, nilCheck_func, read1_skip, read1_skip0, read1_next, read1_there, read_skip, read_skip0, read_next, read_there, pre_some, cons_some, write1_skip, write1_skip0, write1_next, write1_there, write_skip, write_skip0, write_next, write_there, fillU_zero, fillU_succ, List.append_assoc, List.length_append, List.append_nil, rowOf_len, rowOf_get, rowOf_set, Int.toNat_natCast, Nat.mul_one, Nat.add_zero, Option.map_some, List.getElem?_cons_zero, List.getElem?_cons_succ, Q_out, O_idxStr, O_idxArr, idxArr_nat, O_max2, max_int, O_min2, min_int, Q_retE, Q_retE2, Q_retE3, Bool.bne_false, Bool.bne_true, beq_self_eq_true, Bool.true_beq, Bool.false_beq, O_eqv, eqv_bool, Int.reduceLE, Int.reduceLT, Int.reduceToNat, fill_rel1, fill_rel2, fill_rel3, Q_cellsE, cellsE_ptr, outE_rel, eq_self, arr_nat, row_nat, laid_agg, box_some, O_again, again_agg, O_again1, O_eqAgg, eq_rel, relV_len, relV_get, relV_mixput, relV_mixall, mix_zero, mix_at, rowOf_mixset, rowOf_mixall, relV_zero, Q_for_normal, Q_for_exit, Q_for_ret, u_or, u_and, u_andNot, u_shl, u_shl1, u_bit, u_eq, u_ne, able2, rel_Cross_c, u_ne0, u_eq0, ha1, ha2, rel_Empty_c, he, O_eqv, eqv_bool, rel_Domain_c, rel_Range_c, rel_Minus_c, e1, rel_Count_c, l1, l2.len, m1, m2.len, List.length_map, e2, ← hH, r1, r2, r1', r2', rel_Id_c, Union2_0, Union2_1, Union2_2, Union2_3, Union2_4, Union2_5, Union2_6, Union2_7, Union2_8, Union2_9, Union2_10, Union2_11, Union2_12, Union2_13, Union2_14, Union2_15, Union2_16, Union2_17, Union2_18, Union2_19, Union2_20, Union2_21, Union2_22, Union2_23, Union2_24, Union2_25, Union2_26, Union3_0, Union3_1, Union3_2, Union3_3, Union3_4, Union3_5, Union3_6, Union3_7, Union3_8, Union3_9, Union3_10, Union3_11, Union3_12, Union3_13, Union3_14, Union3_15, Union3_16, Union3_17, Union3_18, Union3_19, Union3_20, Union3_21, Union3_22, Union3_23, Union3_24, Union3_25, Union3_26, Meet2_0, Meet2_1, Meet2_2, Meet2_3, Meet2_4, Meet2_5, Meet2_6, Meet2_7, Meet2_8, Meet2_9, Meet2_10, Meet2_11, Meet2_12, Meet2_13, Meet2_14, Meet2_15, Meet2_16, Meet2_17, Meet2_18, Meet2_19, Meet2_20, Meet2_21, Meet2_22, Meet2_23, Meet2_24, Meet2_25, Meet2_26, Seq2_0, Seq2_1, Seq2_2, Seq2_3, Seq2_4, Seq2_5, Seq2_6, Seq2_7, Seq2_8, Seq2_9, Seq2_10, Seq2_11, Seq2_12, Seq2_13, Seq2_14, Seq2_15, Seq2_16, Seq2_17, Seq2_18, Seq2_19, Seq2_20, Seq2_21, Seq2_22, Seq2_23, Seq2_24, Seq2_25, Seq2_26, Seq3_0, Seq3_1, Seq3_2, Seq3_3, Seq3_4, Seq3_5, Seq3_6, Seq3_7, Seq3_8, Seq3_9, Seq3_10, Seq3_11, Seq3_12, Seq3_13, Seq3_14, Seq3_15, Seq3_16, Seq3_17, Seq3_18, Seq3_19, Seq3_20, Seq3_21, Seq3_22, Seq3_23, Seq3_24, Seq3_25, Seq3_26, e3, rel_Inverse_c, e4, n1, n2.len, e5]
      rw [Q_pre hend _ _ _ rfl]
      rfl
    · have ha1 : (a == 0#32) = false := by simp [ha]
      have ha2 : (a != 0#32) = true := by simp [ha]
      by_cases hb : b = 0#32
      · have hb1 : (b == 0#32) = true := by simp [hb]
        have hb2 : (b != 0#32) = false := by simp [hb]
        have ho1 : o = true := by rw [← ho, hb1]; simp
        rw [ho1] at he
        simp only [c_belatedlaw2_RelSides, C_ops, C_cond, D_exit, D_ret, D_skip, normal_some, cond_tt, cond_ff, E_nil, E_cons, E_guard, next_some, next_none, guard_tt, guard_ff, guard_tf, guard_ft, guard_tu, ev_tmp, ev_const, ev_global, ev_func, get_succ, get_zero, List.set_cons_succ, List.set_cons_zero, O_mv, O_pick, pickO, O_bin, pairO, O_un, O_conv, convO, O_call, List.map_cons, List.map_nil, O_len, len_slice, O_atRow, O_load1, load1_ptr, O_load, load_ptr, O_mkRow, O_build, mk_some, build_some, partsV_nil, partsV_cons, zeros_zero, zeros_succ, fill_nil, fill_int, fill_bool, fill_slice, fill_string, Nat.lt_add_one, Nat.zero_lt_succ, Nat.reduceLT, Nat.zero_lt_one, B_add, B_sub, B_mul, B_band, B_bor, B_bxor, B_bandNot, B_eql, B_neq, B_lss, B_leq, B_gtr, B_geq, B_shl', B_shr', B_rem, B_quo, U_not, U_neg, List.cons_append, List.nil_append, List.length_cons, List.length_nil, Nat.reduceAdd, Nat.reduceSub, Nat.zero_add, end_ret, end_normal, Bool.false_or, Bool.or_false, Bool.true_or, Bool.or_true, Bool.not_true, Bool.not_false, Bool.true_and, Bool.and_true, Bool.false_and, Bool.and_false, W_some, W_seq, W_block, Q_cont_normal, Q_cont_ret, Q_cont_exit, Q_block_normal, Q_block_ret, Q_block_exit, Q_loop_normal, Q_loop_ret, Q_loop_exit, Q_ret, Q_ret', slc, O_append, O_slice, cut_to, cut_from, cut_all, cut_mid, Option.map_none, O_alloc, O_box, O_atArr, arr_some, O_off, off_ptr, O_field, O_field1, field1_agg, pair_some, O_extract, extract_tup, wrote_some, O_store1, store1_int, store1_bool, store1_string, store1_slice, store1_ptr, store1_func, store1_nilFunc, store1_map, O_store, store_agg, O_nilCheck, nilCheck_ptr, nilCheck_func, read1_skip, read1_skip0, read1_next, read1_there, read_skip, read_skip0, read_next, read_there, pre_some, cons_some, write1_skip, write1_skip0, write1_next, write1_there, write_skip, write_skip0, write_next, write_there, fillU_zero, fillU_succ, List.append_assoc, List.length_append, List.append_nil, rowOf_len, rowOf_get, rowOf_set, Int.toNat_natCast, Nat.mul_one, Nat.add_zero, Option.map_some, List.getElem?_cons_zero, List.getElem?_cons_succ, Q_out, O_idxStr, O_idxArr, idxArr_nat, O_max2, max_int, O_min2, min_int, Q_retE, Q_retE2, Q_retE3, Bool.bne_false, Bool.bne_true, beq_self_eq_true, Bool.true_beq, Bool.false_beq, O_eqv, eqv_bool, Int.reduceLE, Int.reduceLT, Int.reduceToNat, fill_rel1, fill_rel2, fill_rel3, Q_cellsE, cellsE_ptr, outE_rel, eq_self, arr_nat, row_nat, laid_agg, box_some, O_again, again_agg, O_again1, O_eqAgg, eq_rel, relV_len, relV_get, relV_mixput, relV_mixall, mix_zero, mix_at, rowOf_mixset, rowOf_mixall, relV_zero, Q_for_normal, Q_for_exit, Q_for_ret, u_or, u_and, u_andNot, u_shl, u_shl1, u_bit, u_eq, u_ne, able2, rel_Cross_c, u_ne0, u_eq0, ha1, ha2, hb1, hb2, rel_Empty_c, he, O_eqv, eqv_bool, rel_Domain_c, rel_Range_c, rel_Minus_c, e1, rel_Count_c, l1, l2.len, m1, m2.len, List.length_map, e2, ← hH, r1, r2, r1', r2', rel_Id_c, Union2_0, Union2_1, Union2_2, Union2_3, Union2_4, Union2_5, Union2_6, Union2_7, Union2_8, Union2_9, Union2_10, Union2_11, Union2_12, Union2_13, Union2_14, Union2_15, Union2_16, Union2_17, Union2_18, Union2_19, Union2_20, Union2_21, Union2_22, Union2_23, Union2_24, Union2_25, Union2_26, Union3_0, Union3_1, Union3_2, Union3_3, Union3_4, Union3_5, Union3_6, Union3_7, Union3_8, Union3_9, Union3_10, Union3_11, Union3_12, Union3_13, Union3_14, Union3_15, Union3_16, Union3_17, Union3_18, Union3_19, Union3_20, Union3_21, Union3_22, Union3_23, Union3_24, Union3_25, Union3_26, Meet2_0, Meet2_1, Meet2_2, Meet2_3, Meet2_4, Meet2_5, Meet2_6, Meet2_7, Meet2_8, Meet2_9, Meet2_10, Meet2_11, Meet2_12, Meet2_13, Meet2_14, Meet2_15, Meet2_16, Meet2_17, Meet2_18, Meet2_19, Meet2_20, Meet2_21, Meet2_22, Meet2_23, Meet2_24, Meet2_25, Meet2_26, Seq2_0, Seq2_1, Seq2_2, Seq2_3, Seq2_4, Seq2_5, Seq2_6, Seq2_7, Seq2_8, Seq2_9, Seq2_10, Seq2_11, Seq2_12, Seq2_13, Seq2_14, Seq2_15, Seq2_16, Seq2_17, Seq2_18, Seq2_19, Seq2_20, Seq2_21, Seq2_22, Seq2_23, Seq2_24, Seq2_25, Seq2_26, Seq3_0, Seq3_1, Seq3_2, Seq3_3, Seq3_4, Seq3_5, Seq3_6, Seq3_7, Seq3_8, Seq3_9, Seq3_10, Seq3_11, Seq3_12, Seq3_13, Seq3_14, Seq3_15, Seq3_16, Seq3_17, Seq3_18, Seq3_19, Seq3_20, Seq3_21, Seq3_22, Seq3_23, Seq3_24, Seq3_25, Seq3_26, e3, rel_Inverse_c, e4, n1, n2.len, e5]
        rw [Q_pre hend _ _ _ rfl]
        rfl
      · have hb1 : (b == 0#32) = false := by simp [hb]
        have hb2 : (b != 0#32) = true := by simp [hb]
        have ho1 : o = false := by rw [← ho, ha1, hb1]; rfl
        rw [ho1] at he
        obtain ⟨d1, d2⟩ := hd ha hb
        have d1' : (domainR (crossR a b) != a) = false := by simp [d1]
        have d2' : (rangeR (crossR a b) != b) = false := by simp [d2]
        simp only [c_belatedlaw2_RelSides, C_ops, C_cond, D_exit, D_ret, D_skip, normal_some, cond_tt, cond_ff, E_nil, E_cons, E_guard, next_some, next_none, guard_tt, guard_ff, guard_tf, guard_ft, guard_tu, ev_tmp, ev_const, ev_global, ev_func, get_succ, get_zero, List.set_cons_succ, List.set_cons_zero, O_mv, O_pick, pickO, O_bin, pairO, O_un, O_conv, convO, O_call, List.map_cons, List.map_nil, O_len, len_slice, O_atRow, O_load1, load1_ptr, O_load, load_ptr, O_mkRow, O_build, mk_some, build_some, partsV_nil, partsV_cons, zeros_zero, zeros_succ, fill_nil, fill_int, fill_bool, fill_slice, fill_string, Nat.lt_add_one, Nat.zero_lt_succ, Nat.reduceLT, Nat.zero_lt_one, B_add, B_sub, B_mul, B_band, B_bor, B_bxor, B_bandNot, B_eql, B_neq, B_lss, B_leq, B_gtr, B_geq, B_shl', B_shr', B_rem, B_quo, U_not, U_neg, List.cons_append, List.nil_append, List.length_cons, List.length_nil, Nat.reduceAdd, Nat.reduceSub, Nat.zero_add, end_ret, end_normal, Bool.false_or, Bool.or_false, Bool.true_or, Bool.or_true, Bool.not_true, Bool.not_false, Bool.true_and, Bool.and_true, Bool.false_and, Bool.and_false, W_some, W_seq, W_block, Q_cont_normal, Q_cont_ret, Q_cont_exit, Q_block_normal, Q_block_ret, Q_block_exit, Q_loop_normal, Q_loop_ret, Q_loop_exit, Q_ret, Q_ret', slc, O_append, O_slice, cut_to, cut_from, cut_all, cut_mid, Option.map_none, O_alloc, O_box, O_atArr, arr_some, O_off, off_ptr, O_field, O_field1, field1_agg, pair_some, O_extract, extract_tup, wrote_some, O_store1, store1_int, store1_bool, store1_string, store1_slice, store1_ptr, store1_func, store1_nilFunc, store1_map, O_store, store_agg, O_nilCheck, nilCheck_ptr, nilCheck_func, read1_skip, read1_skip0, read1_next, read1_there, read_skip, read_skip0, read_next, read_there, pre_some, cons_some, write1_skip, write1_skip0, write1_next, write1_there, write_skip, write_skip0, write_next, write_there, fillU_zero, fillU_succ, List.append_assoc, List.length_append, List.append_nil, rowOf_len, rowOf_get, rowOf_set, Int.toNat_natCast, Nat.mul_one, Nat.add_zero, Option.map_some, List.getElem?_cons_zero, List.getElem?_cons_succ, Q_out, O_idxStr, O_idxArr, idxArr_nat, O_max2, max_int, O_min2, min_int, Q_retE, Q_retE2, Q_retE3, Bool.bne_false, Bool.bne_true, beq_self_eq_true, Bool.true_beq, Bool.false_beq, O_eqv, eqv_bool, Int.reduceLE, Int.reduceLT, Int.reduceToNat, fill_rel1, fill_rel2, fill_rel3, Q_cellsE, cellsE_ptr, outE_rel, eq_self, arr_nat, row_nat, laid_agg, box_some, O_again, again_agg, O_again1, O_eqAgg, eq_rel, relV_len, relV_get, relV_mixput, relV_mixall, mix_zero, mix_at, rowOf_mixset, rowOf_mixall, relV_zero, Q_for_normal, Q_for_exit, Q_for_ret, u_or, u_and, u_andNot, u_shl, u_shl1, u_bit, u_eq, u_ne, able2, rel_Cross_c, u_ne0, u_eq0, ha1, ha2, hb1, hb2, rel_Empty_c, he, O_eqv, eqv_bool, rel_Domain_c, rel_Range_c, d1', d2', rel_Minus_c, e1, rel_Count_c, l1, l2.len, m1, m2.len, List.length_map, e2, ← hH, r1, r2, r1', r2', rel_Id_c, Union2_0, Union2_1, Union2_2, Union2_3, Union2_4, Union2_5, Union2_6, Union2_7, Union2_8, Union2_9, Union2_10, Union2_11, Union2_12, Union2_13, Union2_14, Union2_15, Union2_16, Union2_17, Union2_18, Union2_19, Union2_20, Union2_21, Union2_22, Union2_23, Union2_24, Union2_25, Union2_26, Union3_0, Union3_1, Union3_2, Union3_3, Union3_4, Union3_5, Union3_6, Union3_7, Union3_8, Union3_9, Union3_10, Union3_11, Union3_12, Union3_13, Union3_14, Union3_15, Union3_16, Union3_17, Union3_18, Union3_19, Union3_20, Union3_21, Union3_22, Union3_23, Union3_24, Union3_25, Union3_26, Meet2_0, Meet2_1, Meet2_2, Meet2_3, Meet2_4, Meet2_5, Meet2_6, Meet2_7, Meet2_8, Meet2_9, Meet2_10, Meet2_11, Meet2_12, Meet2_13, Meet2_14, Meet2_15, Meet2_16, Meet2_17, Meet2_18, Meet2_19, Meet2_20, Meet2_21, Meet2_22, Meet2_23, Meet2_24, Meet2_25, Meet2_26, Seq2_0, Seq2_1, Seq2_2, Seq2_3, Seq2_4, Seq2_5, Seq2_6, Seq2_7, Seq2_8, Seq2_9, Seq2_10, Seq2_11, Seq2_12, Seq2_13, Seq2_14, Seq2_15, Seq2_16, Seq2_17, Seq2_18, Seq2_19, Seq2_20, Seq2_21, Seq2_22, Seq2_23, Seq2_24, Seq2_25, Seq2_26, Seq3_0, Seq3_1, Seq3_2, Seq3_3, Seq3_4, Seq3_5, Seq3_6, Seq3_7, Seq3_8, Seq3_9, Seq3_10, Seq3_11, Seq3_12, Seq3_13, Seq3_14, Seq3_15, Seq3_16, Seq3_17, Seq3_18, Seq3_19, Seq3_20, Seq3_21, Seq3_22, Seq3_23, Seq3_24, Seq3_25, Seq3_26, e3, rel_Inverse_c, e4, n1, n2.len, e5]
        rw [Q_pre hend _ _ _ rfl]
        rfl
  refine fin _ rfl ?_ ?_
  · refine bool_iff.2 ?_
    rw [empty_iff, Bool.or_eq_true, beq_iff_eq, beq_iff_eq]
    constructor
    · intro hc
      apply Classical.byContradiction
      intro hn
      obtain ⟨x, hx, h1⟩ := u_nonzero (x := a) (fun q => hn (.inl q))
      obtain ⟨y, hy, h2⟩ := u_nonzero (x := b) (fun q => hn (.inr q))
      exact hc x y hx hy ((cross_bit _ _ _ _).2 ⟨h1, h2⟩)
    · rintro hc x y hx hy h1
      rw [cross_bit] at h1
      rcases hc with rfl | rfl
      · simp at h1
      · simp at h1
  · intro ha hb
    obtain ⟨x, hx, h1⟩ := u_nonzero ha
    obtain ⟨y, hy, h2⟩ := u_nonzero hb
    constructor
    · refine u_ext fun i hi => bool_iff.2 ?_
      rw [domain_bit _ hi]
      exact ⟨fun ⟨e, he, h3⟩ => ((cross_bit _ _ _ _).1 h3).1, fun h3 => ⟨y, hy, (cross_bit _ _ _ _).2 ⟨h3, h2⟩⟩⟩
    · refine u_ext fun i hi => bool_iff.2 ?_
      rw [range_bit]
      exact ⟨fun ⟨e, he, h3⟩ => ((cross_bit _ _ _ _).1 h3).2, fun h3 => ⟨x, hx, (cross_bit _ _ _ _).2 ⟨h1, h3⟩⟩⟩
theorem relSides_law (h : Heap) (us : List Value) (hu : TypedAs h [(false, [(.int .u32)]), (false, [(.int .u32)]), (true, (List.replicate 32 (.int .u32)))] us) : ∃ h', DF FF n_belatedlaw2_RelSides us h = some (.bool true, h') := by
  match us, hu with
  | [a, b, c], ⟨h0, h1, h2, _⟩ =>
    obtain ⟨f, rfl⟩ := typed_set h0
    obtain ⟨g, rfl⟩ := typed_set h1
    obtain ⟨r, rfl⟩ := typed_rel h2
    exact ⟨h, law_RelSides f g r h⟩
end Go.Proofs.Ytjjlbfamfioofaa.AM
