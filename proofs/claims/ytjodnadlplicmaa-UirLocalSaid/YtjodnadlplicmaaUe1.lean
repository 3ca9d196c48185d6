/-
  The document's thread: its small methods.
  Conditions: none.
-/
import Derived.Test.YtjodnadlplicmaaUb8
import Derived.Test.YtjodnadlplicmaaUb6
namespace Go.Proofs.Ytjodnadlplicmaa.AM
open Go.RowKit
set_option linter.unusedSimpArgs false
set_option linter.unusedVariables false

/-- A thread's cells. -/
def thL (c : Value) (R : List Int) (p : Int) (q : Value) : List Value := c :: (regsL R ++ [.int .i64 p, q])
section
variable {c q : Value} {R : List Int} {p : Int}
theorem th_len (h : R.length = 8) : (thL c R p q).length = 11 := by simp [thL, regsL_len, h]
theorem th_0 : (thL c R p q)[0]? = some c := by simp [thL]
theorem th_9 (h : R.length = 8) : (thL c R p q)[9]? = some (.int .i64 p) := by
  have : (regsL R).length = 8 := by rw [regsL_len, h]
  unfold thL
  rw [List.getElem?_cons_succ, List.getElem?_append_right (by omega), this]; rfl
theorem th_10 (h : R.length = 8) : (thL c R p q)[10]? = some q := by
  have : (regsL R).length = 8 := by rw [regsL_len, h]
  unfold thL
  rw [List.getElem?_cons_succ, List.getElem?_append_right (by omega), this]; rfl
theorem th_r (h : R.length = 8) {n : Nat} (hn : n < 8) : (thL c R p q)[1 + n]? = some (.int .i64 (R.getD n 0)) := by
  have : (regsL R).length = 8 := by rw [regsL_len, h]
  unfold thL
  rw [Nat.add_comm, List.getElem?_cons_succ, List.getElem?_append_left (by omega), regsL_get (by omega)]
theorem th_s9 (h : R.length = 8) (x : Int) : (thL c R p q).set 9 (.int .i64 x) = thL c R x q := by
  have : (regsL R).length = 8 := by rw [regsL_len, h]
  unfold thL
  rw [List.set_cons_succ, List.set_append_right _ _ (by omega), this]; rfl
theorem th_s10 (h : R.length = 8) (x : Value) : (thL c R p q).set 10 x = thL c R p x := by
  have : (regsL R).length = 8 := by rw [regsL_len, h]
  unfold thL
  rw [List.set_cons_succ, List.set_append_right _ _ (by omega), this]; rfl
theorem th_sr (h : R.length = 8) {n : Nat} (hn : n < 8) (x : Int) : (thL c R p q).set (1 + n) (.int .i64 x) = thL c (R.set n x) p q := by
  have : (regsL R).length = 8 := by rw [regsL_len, h]
  unfold thL
  rw [Nat.add_comm, List.set_cons_succ, List.set_append_left _ _ (by omega), regsL_set]
theorem th_regs (h : R.length = 8) : ((thL c R p q).drop 1).take 8 = regsL R := by
  have : (regsL R).length = 8 := by rw [regsL_len, h]
  unfold thL
  rw [List.drop_succ_cons, List.drop_zero, List.take_append_of_le_length (by omega), List.take_of_length_le (by omega)]
end
theorem isReg.arr1 {r : Int} (h : isReg r) (b : Nat) (H : Heap) : arrO H 8 1 (.pointer (some ⟨b, 1, some 0⟩)) (.int .i64 r) = some (.pointer (some ⟨b, 1 + r.toNat, some 0⟩), H) := by
  obtain ⟨n, rfl, hn⟩ := h
  rw [arr_nat H hn]; simp
section
variable {K : Heap} {pt : Nat} {c q : Value} {R : List Int} {p : Int}
theorem ref_get_c (hK : K[pt]? = some (.cells (thL c R p q) 0 false)) (h8 : R.length = 8) {r : Int} (hr : isReg1 r) : DF FF n_belatedref3_Thread_get [.pointer (some ⟨pt, 0, some 0⟩), .int .i64 r] K = some (.int .i64 (valR R r 0), K) := by
  refine fun_wpU F_belatedref3_Thread_get ?_
  rcases hr with rfl | hr
  · simp only [c_belatedref3_Thread_get, C_ops, C_cond, D_ret, normal_some, cond_tt, E_nil, E_cons, next_some, ev_tmp, ev_const, get_succ, get_zero, List.set_cons_succ, List.set_cons_zero, O_mv, O_bin, pairO, B_lss, List.cons_append, List.nil_append, List.length_cons, List.length_nil, Nat.reduceAdd, Nat.reduceSub, Nat.zero_add, W_some, W_seq, Q_cont_normal, Q_cont_ret, Q_ret, fillU_zero, fillU_succ, Int.reduceLT, eq_self, Int.reduceLT, decide_true, valR, if_true]
  · have hne : ¬ (r = -1) := by have := hr.nn; omega
    have h0 : ¬ (r < 0) := by have := hr.nn; omega
    have rd := rs_at (j := 1 + r.toNat) hK
    rw [th_r h8 hr.lt] at rd
    simp only [c_belatedref3_Thread_get, C_ops, C_cond, D_ret, D_skip, normal_some, cond_ff, E_nil, E_cons, next_some, ev_tmp, ev_const, get_succ, get_zero, List.set_cons_succ, List.set_cons_zero, O_mv, O_bin, pairO, O_load1, load1_ptr, B_lss, List.cons_append, List.nil_append, List.length_cons, List.length_nil, Nat.reduceAdd, Nat.reduceSub, Nat.zero_add, W_some, W_seq, Q_cont_normal, Q_ret, O_atArr, O_off, off_ptr, O_nilCheck, nilCheck_ptr, fillU_zero, fillU_succ, eq_self, h0, decide_false, hr.arr1, rd, valR, hne, if_false, reg]
def datumV (i : Ins) (R : List Int) : Int := if i.op = 5 ∧ i.a < 0 then i.imm else valR R i.a 0
theorem ref_Datum_c (hK : K[pt]? = some (.cells (thL c R p q) 0 false)) (h8 : R.length = 8) {i : Ins} (hr : isReg1 i.a) : DF FF n_belatedref3_Thread_Datum [.pointer (some ⟨pt, 0, some 0⟩), agg (insL i)] K = some (.int .i64 (datumV i R), K) := by
  refine fun_wpU F_belatedref3_Thread_Datum ?_
  have gt := ref_get_c ((Kept.more K [.cells (insL i) 0 false]) _ _ hK) h8 hr
  cases h5 : (i.op == 5)
  · have e : datumV i R = valR R i.a 0 := by unfold datumV; rw [if_neg (by simp at h5; simp [h5])]
    simp only [c_belatedref3_Thread_Datum, C_ops, C_cond, D_ret, D_skip, normal_some, cond_ff, E_nil, E_cons, E_guard, next_some, guard_tf, ev_tmp, ev_const, get_succ, get_zero, List.set_cons_succ, List.set_cons_zero, O_mv, O_pick, pickO, O_bin, pairO, O_call, List.map_cons, List.map_nil, O_load1, load1_ptr, B_eql, List.cons_append, List.nil_append, List.length_cons, List.length_nil, Nat.reduceAdd, Nat.reduceSub, Nat.zero_add, W_some, W_seq, Q_cont_normal, O_box, O_off, off_ptr, read1_skip0, read1_there, fillU_zero, fillU_succ, Nat.add_zero, eq_self, laid_agg, box_some, insL_len, insL_0, insL_2, h5, gt, e]
    rw [Q_more _ _ _ _ _ rfl]; rfl
  · by_cases ha : i.a < 0
    · have e : datumV i R = i.imm := by unfold datumV; rw [if_pos ⟨by simpa using h5, ha⟩]
      simp only [c_belatedref3_Thread_Datum, C_ops, C_cond, D_ret, normal_some, cond_tt, E_nil, E_cons, E_guard, next_some, guard_tt, ev_tmp, ev_const, get_succ, get_zero, List.set_cons_succ, List.set_cons_zero, O_mv, O_pick, pickO, O_bin, pairO, O_load1, load1_ptr, B_eql, B_lss, List.cons_append, List.nil_append, List.length_cons, List.length_nil, Nat.reduceAdd, Nat.reduceSub, Nat.zero_add, W_some, W_seq, Q_cont_normal, Q_cont_ret, O_box, O_off, off_ptr, read1_skip0, read1_there, fillU_zero, fillU_succ, Nat.add_zero, eq_self, laid_agg, box_some, insL_len, insL_0, insL_2, insL_4, h5, ha, decide_true, e]
      rw [Q_more _ _ _ _ _ rfl]; rfl
    · have e : datumV i R = valR R i.a 0 := by unfold datumV; rw [if_neg (by simp [ha])]
      simp only [c_belatedref3_Thread_Datum, C_ops, C_cond, D_ret, D_skip, normal_some, cond_ff, E_nil, E_cons, E_guard, next_some, guard_tt, ev_tmp, ev_const, get_succ, get_zero, List.set_cons_succ, List.set_cons_zero, O_mv, O_pick, pickO, O_bin, pairO, O_call, List.map_cons, List.map_nil, O_load1, load1_ptr, B_eql, B_lss, List.cons_append, List.nil_append, List.length_cons, List.length_nil, Nat.reduceAdd, Nat.reduceSub, Nat.zero_add, W_some, W_seq, Q_cont_normal, O_box, O_off, off_ptr, read1_skip0, read1_there, fillU_zero, fillU_succ, Nat.add_zero, eq_self, laid_agg, box_some, insL_len, insL_0, insL_2, h5, ha, decide_false, gt, e]
      rw [Q_more _ _ _ _ _ rfl]; rfl
theorem outE_two (h L : Heap) (a b : Int) : outE h (h ++ L) (some [.int .i64 a, .int .i64 b]) = some (agg [.int .i64 a, .int .i64 b], h) := outE_plain h L rfl
theorem ref_Span_c (i : Ins) (x : Int) (H : Heap) : DF FF n_belatedref3_Span [agg (insL i), .int .i64 x] H = some (agg [.int .i64 i.loc, .int .i64 (maskV (placeV i.off x i.size) i.size)], H) := by
  refine fun_wpU F_belatedref3_Span ?_
  simp only [c_belatedref3_Span, C_ops, D_ret, normal_some, E_nil, E_cons, next_some, next_none, ev_tmp, get_succ, get_zero, List.set_cons_succ, List.set_cons_zero, O_mv, pairO, O_call, List.map_cons, List.map_nil, O_load1, load1_ptr, O_build, build_some, partsV_nil, partsV_cons, fill_nil, fill_int, Nat.lt_add_one, Nat.zero_lt_succ, List.cons_append, List.nil_append, List.length_cons, List.length_nil, Nat.reduceAdd, Nat.reduceSub, Nat.zero_add, W_some, W_seq, Q_cont_normal, O_alloc, O_box, O_off, off_ptr, wrote_some, O_store, store_agg, read1_skip0, read1_there, read_skip, read_next, read_there, pre_some, cons_some, write_skip, write_next, write_there, fillU_zero, fillU_succ, List.append_assoc, List.length_append, again1_int, eq_self, laid_agg, box_some, O_again1, insL_len, insL_5, insL_6, insL_8, place25, mask23, Q_cellsE, cellsE_ptr, outE_two]
theorem ref_Where_c (hK : K[pt]? = some (.cells (thL c R p q) 0 false)) (h8 : R.length = 8) {i : Ins} (hr : isReg1 i.index) : DF FF n_belatedref3_Thread_Where [.pointer (some ⟨pt, 0, some 0⟩), agg (insL i)] K = some (agg [.int .i64 i.loc, .int .i64 (spanV i R)], K) := by
  refine fun_wpU F_belatedref3_Thread_Where ?_
  have gt := ref_get_c ((Kept.more K [.cells (insL i) 0 false, .cells [.int .i64 0, .int .i64 0] 0 false]) _ _ hK) h8 hr
  simp only [c_belatedref3_Thread_Where, C_ops, D_ret, normal_some, E_nil, E_cons, next_some, next_none, ev_tmp, get_succ, get_zero, List.set_cons_succ, List.set_cons_zero, O_mv, pairO, O_call, List.map_cons, List.map_nil, O_load1, load1_ptr, O_load, load_ptr, List.cons_append, List.nil_append, List.length_cons, List.length_nil, Nat.reduceAdd, Nat.reduceSub, Nat.zero_add, W_some, W_seq, Q_cont_normal, O_alloc, O_box, O_off, off_ptr, wrote_some, O_store, store_agg, read1_skip0, read1_there, read_skip, read_skip0, read_next, read_there, pre_some, cons_some, write_skip, write_next, write_there, fillU_zero, fillU_succ, List.append_assoc, List.length_append, Option.map_some, eq_self, laid_agg, box_some, O_again, again_agg, insL_len, insL_7, gt, ref_Span_c, Q_cellsE, cellsE_ptr, outE_two, spanV]
end
end Go.Proofs.Ytjodnadlplicmaa.AM
