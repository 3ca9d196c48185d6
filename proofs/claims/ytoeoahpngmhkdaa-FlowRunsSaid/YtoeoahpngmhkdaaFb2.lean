/-
  The flow laws' trial of a small code.
  Conditions: none.
-/
import Derived.Test.YtoeoahpngmhkdaaFb1
namespace Go.Proofs.Ytoeoahpngmhkdaa.AM
open Go.RowKit
set_option linter.unusedSimpArgs false
set_option linter.unusedVariables false

def ab0 : Ins := ⟨4, 1, -1, -1, 0, 0, 0, -1, 8, 0, false, false, false, 0, 0, 0, false⟩
def ab1 : Ins := ⟨9, -1, 1, -1, 0, 0, 0, -1, 0, 0, false, false, false, 0, 0, 3, true⟩
def ab2 : Ins := ⟨5, -1, 1, -1, 0, 1, 0, -1, 8, 0, false, false, false, 0, 0, 0, false⟩
theorem fill_ins3 (a b c : Ins) : fillRow (zeros (insL zeroI) 3) [(0, 17, agg (insL a)), (17, 17, agg (insL b)), (34, 17, agg (insL c))] = some (insL a ++ insL b ++ insL c) :=
  fill_whole3 (c := 17) (z := insL zeroI) rfl rfl rfl rfl
theorem fill_able : fillRow [.int .i64 0, .int .i64 0, .int .i64 0, .int .i64 0, .int .i64 0, .int .i64 0, .int .i64 0, .int .i64 0, .int .i64 0, .int .i64 0, .bool false, .bool false, .bool false, .int .i64 0, .int .i64 0, .int .i64 0, .bool false, .int .i64 0, .int .i64 0, .int .i64 0, .int .i64 0, .int .i64 0, .int .i64 0, .int .i64 0, .int .i64 0, .int .i64 0, .int .i64 0, .bool false, .bool false, .bool false, .int .i64 0, .int .i64 0, .int .i64 0, .bool false, .int .i64 0, .int .i64 0, .int .i64 0, .int .i64 0, .int .i64 0, .int .i64 0, .int .i64 0, .int .i64 0, .int .i64 0, .int .i64 0, .bool false, .bool false, .bool false, .int .i64 0, .int .i64 0, .int .i64 0, .bool false] [(0, 17, agg [.int .i64 4, .int .i64 1, .int .i64 (-1), .int .i64 (-1), .int .i64 0, .int .i64 0, .int .i64 0, .int .i64 (-1), .int .i64 8, .int .i64 0, .bool false, .bool false, .bool false, .int .i64 0, .int .i64 0, .int .i64 0, .bool false]), (17, 17, agg [.int .i64 9, .int .i64 (-1), .int .i64 1, .int .i64 (-1), .int .i64 0, .int .i64 0, .int .i64 0, .int .i64 (-1), .int .i64 0, .int .i64 0, .bool false, .bool false, .bool false, .int .i64 0, .int .i64 0, .int .i64 3, .bool true]), (34, 17, agg [.int .i64 5, .int .i64 (-1), .int .i64 1, .int .i64 (-1), .int .i64 0, .int .i64 1, .int .i64 0, .int .i64 (-1), .int .i64 8, .int .i64 0, .bool false, .bool false, .bool false, .int .i64 0, .int .i64 0, .int .i64 0, .bool false])] = some (insL ab0 ++ (insL ab1 ++ insL ab2)) := fill_ins3 ab0 ab1 ab2
theorem able_right : rightC [ab0, ab1, ab2] = true := by decide
theorem able_paths : pathsN [ab0, ab1, ab2] 9 0 = [[0, 1, 2], [0, 1]] := by decide
theorem able_data : dataV [ab0, ab1, ab2] 2 = 1 := by decide
theorem able_ctrl : ctrlV [ab0, ab1, ab2] 2 = 1 := by decide
theorem able_def : defP [ab0, ab1, ab2] 2 1 = 0 := by decide
theorem InsSl_able (h : Heap) : InsSl (h ++ [.cells (insL ab0 ++ (insL ab1 ++ insL ab2)) 0 false]) (.slice (some ⟨h.length, 0, some 0⟩) 3 17) [ab0, ab1, ab2] := by
  refine ⟨.inr ⟨h.length, 0, 0, rfl, ?_⟩, by simp [insL_len]⟩
  unfold Heap.read
  simp [insL_len]
  rfl
set_option maxHeartbeats 1000000 in
theorem law_able_c (h : Heap) : DF FF n_belatedlaw10_able [] h = some (.bool true, h) := by
  refine fun_wpU F_belatedlaw10_able ?_
  have hc := InsSl_able h
  obtain ⟨v, H', h1, h2, h3⟩ := flow_Paths_c hc able_right
  have pH : Pre h H' := ((Pre.refl h).more _).trans h3
  have hl : ∀ K, lenO K v = some (.int .i64 2, K) := fun K => by rw [h2.len, able_paths]; rfl
  obtain ⟨b, o, w, x, d1, d2, d3⟩ := h2.at (k := 0) (by rw [able_paths]; decide)
  obtain ⟨b', o', w', x', d1', d2', d3'⟩ := h2.at (k := 1) (by rw [able_paths]; decide)
  have e3 : Own (h ++ [.cells (insL ab0 ++ (insL ab1 ++ insL ab2)) 0 false]) H' x 1 ([0, 1, 2].map intR) := by
    have : (pathsN [ab0, ab1, ab2] 9 0)[0]'(by rw [able_paths]; decide) = [0, 1, 2] := by simp [able_paths]
    rw [this] at d3; exact d3
  have e3' : Own (h ++ [.cells (insL ab0 ++ (insL ab1 ++ insL ab2)) 0 false]) H' x' 1 ([0, 1].map intR) := by
    have : (pathsN [ab0, ab1, ab2] 9 0)[1]'(by rw [able_paths]; decide) = [0, 1] := by simp [able_paths]
    rw [this] at d3'; exact d3'
  have l3 : ∀ K, lenO K x = some (.int .i64 3, K) := fun K => e3.len K
  have l2 : ∀ K, lenO K x' = some (.int .i64 2, K) := fun K => e3'.len K
  have r0 : ∀ K, rowO K 1 v (.int .i64 0) = some (.pointer (some ⟨b, o, some w⟩), K) := d1
  have r1 : ∀ K, rowO K 1 v (.int .i64 1) = some (.pointer (some ⟨b', o', some w'⟩), K) := d1'
  have on : On H' (.slice (some ⟨h.length, 0, some 0⟩) 3 17) x [ab0, ab1, ab2] [0, 1, 2] [ab0, ab1, ab2] := by
    have := On.of (f := 9) (k := 0) (hc.pre h3) (p := x) (l := [0, 1, 2]) e3.sl (by rw [able_paths]; simp) (by decide)
    exact this
  have fD := flow_Data_c (by decide) on 2
  have fC := flow_Ctrl_c (by decide) on 2
  have fE := flow_Def_c on 2 1
  rw [able_data, show ((1 : Nat) : Int) = 1 from rfl] at fD
  rw [able_ctrl, show ((1 : Nat) : Int) = 1 from rfl] at fC
  rw [able_def] at fE
  simp only [c_belatedlaw10_able, C_ops, C_cond, D_exit, D_ret, D_skip, normal_some, cond_tt, cond_ff, E_nil, E_cons, E_guard, next_some, next_none, guard_tt, guard_ff, guard_tf, guard_ft, guard_tu, ev_tmp, ev_const, ev_global, ev_func, get_succ, get_zero, List.set_cons_succ, List.set_cons_zero, O_mv, O_pick, pickO, O_bin, pairO, O_un, O_conv, convO, O_call, List.map_cons, List.map_nil, O_len, len_slice, O_atRow, O_load1, load1_ptr, O_load, load_ptr, O_mkRow, O_build, mk_some, build_some, partsV_nil, partsV_cons, zeros_zero, zeros_succ, fill_nil, fill_int, fill_bool, fill_slice, fill_string, Nat.lt_add_one, Nat.zero_lt_succ, Nat.reduceLT, Nat.zero_lt_one, B_add, B_sub, B_mul, B_band, B_bor, B_bxor, B_bandNot, B_eql, B_neq, B_lss, B_leq, B_gtr, B_geq, B_shl', B_shr', B_rem, B_quo, U_not, U_neg, List.cons_append, List.nil_append, List.length_cons, List.length_nil, Nat.reduceAdd, Nat.reduceSub, Nat.zero_add, end_ret, end_normal, Bool.false_or, Bool.or_false, Bool.true_or, Bool.or_true, Bool.not_true, Bool.not_false, Bool.true_and, Bool.and_true, Bool.false_and, Bool.and_false, W_some, W_seq, W_block, Q_cont_normal, Q_cont_ret, Q_cont_exit, Q_block_normal, Q_block_ret, Q_block_exit, Q_loop_normal, Q_loop_ret, Q_loop_exit, Q_ret, Q_ret', slc, O_append, O_slice, cut_to, cut_from, cut_all, cut_mid, Option.map_none, O_alloc, O_box, O_atArr, arr_some, O_off, off_ptr, O_field, O_field1, field1_agg, pair_some, O_extract, extract_tup, wrote_some, O_store1, store1_int, store1_bool, store1_string, store1_slice, store1_ptr, store1_func, store1_nilFunc, store1_map, O_store, store_agg, O_nilCheck, nilCheck_ptr, nilCheck_func, read1_skip, read1_skip0, read1_next, read1_there, read_skip, read_skip0, read_next, read_there, pre_some, cons_some, write1_skip, write1_skip0, write1_next, write1_there, write_skip, write_skip0, write_next, write_there, fillU_zero, fillU_succ, List.append_assoc, List.length_append, List.append_nil, Int.toNat_natCast, Nat.mul_one, Nat.add_zero, Option.map_some, List.getElem?_cons_zero, List.getElem?_cons_succ, Q_ret2Q, Q_ret3Q, fin_int3, fin_ib, finish_same, Q_retEct, cellsTE_ptr, outTE_some, again1_int, again1_bool, again1_string, again1_slice, Q_out, O_max2, max_int, O_min2, min_int, Q_retE, Q_retE2, Q_retE3, Bool.bne_false, Bool.bne_true, beq_self_eq_true, Bool.true_beq, Bool.false_beq, O_eqv, eqv_bool, Int.reduceLE, Int.reduceLT, Int.reduceToNat, eq_self, arr_nat, row_nat, laid_agg, box_some, O_again, again_agg, O_again1, O_eqAgg, Q_for_normal, Q_for_exit, Q_for_ret, List.replicate_succ, List.replicate_zero, fill_able, h1, hl, r0, r1, d2, d2', l2, l3, fD, fC, fE, Int.reduceBEq]
  rw [Q_pre pH _ _ _ rfl]; rfl
end Go.Proofs.Ytoeoahpngmhkdaa.AM
