/-
  Instructions: which may stand where, as the document has it.
  Conditions: none.
-/
import Derived.Test.YtoeoahpngmhkdaaUa2
namespace Go.Proofs.Ytoeoahpngmhkdaa.AM
open Go.RowKit
set_option linter.unusedSimpArgs false
set_option linter.unusedVariables false

/-- Nothing is left of it. -/
def baseI (x : Ins) : Bool := x.op == 0 && (x.dst == -1 && (x.a == -1 && (x.b == -1 && (x.imm == 0 && (x.loc == 0 && (x.off == 0 && (x.index == -1 && (x.size == 0 && (x.fn == 0 && (x.acq == false && (x.weak == false && (x.rel == false && (x.pred == 0 && (x.succ == 0 && (x.to == 0 && x.zero == false)))))))))))))))
def rightV (i : Ins) (at_ n : Int) : Int := if okI i then (if i.op == 9 && (decide (i.to ≤ at_) || decide (n < i.to)) then 35 else 0) else 34
theorem uir_Right_c (i : Ins) (at_ n : Int) (h : Heap) : DF FF n_uir_Right [agg (insL i), .int .i64 at_, .int .i64 n] h = some (.int .i64 (rightV i at_ n), h) := by
  refine fun_wpU F_uir_Right ?_
  unfold rightV
  cases ho : okI i
  · simp only [c_uir_Right, C_ops, C_cond, D_ret, normal_some, cond_tt, E_nil, E_cons, next_some, ev_tmp, ev_const, get_succ, get_zero, List.set_cons_succ, List.set_cons_zero, O_mv, pairO, O_un, O_call, List.map_cons, List.map_nil, O_load, load_ptr, U_not, List.cons_append, List.nil_append, List.length_cons, List.length_nil, Nat.reduceAdd, Nat.reduceSub, Nat.zero_add, Bool.not_false, W_some, W_seq, W_block, Q_cont_normal, Q_cont_ret, Q_block_ret, O_box, read_skip0, read_there, fillU_zero, fillU_succ, Option.map_some, eq_self, laid_agg, box_some, insL_len, uir_formed_c, ho]
    rw [Q_more _ _ _ _ _ rfl]; rfl
  · simp only [c_uir_Right, C_ops, C_cond, normal_some, cond_ff, E_nil, E_cons, next_some, ev_tmp, ev_const, get_succ, get_zero, List.set_cons_succ, List.set_cons_zero, O_mv, pairO, O_un, O_call, List.map_cons, List.map_nil, O_load1, load1_ptr, O_load, load_ptr, U_not, List.cons_append, List.nil_append, List.length_cons, List.length_nil, Nat.reduceAdd, Nat.reduceSub, Nat.zero_add, Bool.not_true, W_some, W_seq, W_block, Q_cont_normal, O_box, O_off, off_ptr, read1_skip0, read1_there, read_skip0, read_there, fillU_zero, fillU_succ, Nat.add_zero, Option.map_some, eq_self, laid_agg, box_some, insL_len, uir_formed_c, ho]
    have hr : ∀ (L : Heap) (k : Nat) (v : Value), (insL i)[k]? = some v → Heap.read1 (h ++ AObj.cells (insL i) 0 false :: L) ⟨h.length, k, some 0⟩ = some v := fun L k v e => by rw [read1_skip0, read1_there]; exact e
    have h0 : (insL i)[0]? = some (.int .i64 i.op) := rfl
    have h15 : (insL i)[15]? = some (.int .i64 i.to) := rfl
    simp only [E_cons, E_guard, next_some, ev_tmp, ev_const, get_succ, get_zero, List.set_cons_succ, List.set_cons_zero, O_mv, O_bin, pairO, B_eql, h0]
    repeat' (first | (refine guard_split ?_ ?_ <;> intro hc <;> simp only [C_ops, C_cond, D_ret, D_skip, normal_some, cond_ff, E_nil, E_cons, E_guard, next_some, guard_tt, guard_tf, guard_tu, ev_tmp, ev_const, get_succ, get_zero, List.set_cons_succ, List.set_cons_zero, O_mv, O_pick, pickO, O_bin, pairO, O_load1, load1_ptr, B_leq, Nat.zero_add, Bool.true_and, Bool.false_and, W_some, W_seq, Q_cont_normal, Q_block_normal, O_off, off_ptr, read1_skip0, read1_there, hc, h15]) | (refine guard_splitF ?_ ?_ <;> intro hc <;> simp only [C_ops, C_cond, D_ret, normal_some, cond_tt, E_nil, E_cons, E_guard, next_some, guard_tt, guard_ff, guard_ft, ev_tmp, ev_const, get_succ, get_zero, List.set_cons_succ, List.set_cons_zero, O_mv, O_pick, pickO, O_bin, pairO, O_load1, load1_ptr, B_gtr, Nat.zero_add, Bool.false_or, Bool.true_or, W_some, W_seq, Q_cont_normal, Q_cont_ret, Q_block_ret, O_off, off_ptr, read1_skip0, read1_there, eq_self, hc, h15]) | (refine cond_split ?_ ?_ <;> intro hc <;> simp only [C_ops, D_ret, D_skip, normal_some, E_nil, E_cons, next_some, ev_const, List.set_cons_succ, List.set_cons_zero, O_mv, W_some, W_seq, Q_cont_normal, Q_cont_ret, Q_block_normal, Q_block_ret, eq_self, hc]))
    all_goals
      rw [Q_more _ _ _ _ _ rfl]
      simp [*]
end Go.Proofs.Ytoeoahpngmhkdaa.AM
