/-
  The law on single instructions.
  Conditions: none.
-/
import Derived.Test.YtjodnadlplicmaaUb6
namespace Go.Proofs.Ytjodnadlplicmaa.AM
open Go.RowKit
set_option linter.unusedSimpArgs false
set_option linter.unusedVariables false

theorem law3_ints_c {l m : List Int} {s t : Value} {h : Heap} (e : IntS h s l) (f : IntS h t m) (hl : l.length < 4611686018427387904) : DF FF n_belatedlaw3_ints [s, t] h = some (.bool (l == m), h) := by
  refine fun_wpU F_belatedlaw3_ints ?_
  by_cases hne : l.length = m.length
  · have c1 : ((l.length : Int) != (m.length : Int)) = false := by simp [hne]
    simp only [c_belatedlaw3_ints, C_ops, C_cond, D_skip, normal_some, cond_ff, E_nil, E_cons, next_some, ev_tmp, ev_const, get_succ, get_zero, List.set_cons_succ, List.set_cons_zero, O_mv, O_bin, pairO, O_len, B_neq, List.cons_append, List.nil_append, List.length_cons, List.length_nil, Nat.reduceAdd, Nat.reduceSub, Nat.zero_add, W_some, W_seq, W_block, Q_cont_normal, fillU_zero, fillU_succ, e.len, f.len, c1]
    refine for_wp l.length (fun k st => (∀ i : Nat, i < k → l[i]? = m[i]?) ∧ ∃ (j : Nat → Value), st = ⟨[s, t, j 2, j 3, j 4, .int .i64 (k : Int), j 6, j 7, j 8, j 9, j 10, j 11, j 12, j 13, j 14, j 15, j 16, j 17, j 18, j 19, j 20, j 21, j 22, j 23, j 24, j 25], h⟩) ?_ ?_ _ ?_
    · rintro k st hk ⟨hall, j, rfl⟩
      have h1 : (k : Int) < l.length := by omega
      obtain ⟨b, o, v, a1, _, a3⟩ := e.at hk
      obtain ⟨b', o', v', d1, _, d3⟩ := f.at (k := k) (by omega)
      by_cases hq : l[k] = m[k]'(by omega)
      · have hq' : (l[k] != m[k]'(by omega)) = false := by simp [hq]
        simp only [C_ops, C_cond, D_skip, normal_some, cond_tt, cond_ff, E_nil, E_cons, next_some, ev_tmp, ev_const, get_succ, get_zero, List.set_cons_succ, List.set_cons_zero, O_mv, O_bin, pairO, O_len, O_atRow, O_load1, load1_ptr, B_add, B_neq, B_lss, W_some, W_seq, W_block, Q_cont_normal, Q_block_normal, Q_for_normal, e.len, h1, decide_true, a1, a3, d1, d3, hq', wrap_nat (k := k) (by omega)]
        refine ⟨fun i hi => ?_, junk rfl⟩
        by_cases hik : i = k
        · subst hik; rw [List.getElem?_eq_getElem hk, List.getElem?_eq_getElem (by omega), hq]
        · exact hall i (by omega)
      · have hq' : (l[k] != m[k]'(by omega)) = true := by simp [hq]
        have hf : (l == m) = false := by
          rw [beq_eq_false_iff_ne]; intro he; subst he; exact hq rfl
        simp only [C_ops, C_cond, D_ret, D_skip, normal_some, cond_tt, E_nil, E_cons, next_some, ev_tmp, ev_const, get_succ, get_zero, List.set_cons_succ, List.set_cons_zero, O_mv, O_bin, pairO, O_len, O_atRow, O_load1, load1_ptr, B_neq, B_lss, W_some, W_seq, W_block, Q_cont_normal, Q_cont_ret, Q_block_ret, Q_ret, eq_self, Q_for_ret, e.len, h1, decide_true, a1, a3, d1, d3, hq', hf]
    · rintro st ⟨hall, j, rfl⟩
      have h1 : ¬ ((l.length : Nat) : Int) < l.length := by omega
      have hf : (l == m) = true := by
        rw [beq_iff_eq]
        apply List.ext_getElem?
        intro i
        by_cases hi : i < l.length
        · exact hall i hi
        · rw [List.getElem?_eq_none (by omega), List.getElem?_eq_none (by omega)]
      simp only [C_ops, C_cond, D_exit, D_ret, normal_some, cond_ff, E_nil, E_cons, next_some, ev_tmp, ev_const, get_succ, get_zero, List.set_cons_succ, List.set_cons_zero, O_mv, O_bin, pairO, O_len, B_lss, W_some, W_seq, Q_cont_normal, Q_cont_exit, Q_block_exit, Q_ret, eq_self, Q_for_exit, e.len, h1, decide_false, hf]
    · exact ⟨fun i hi => by omega, junk rfl⟩
  · have c1 : ((l.length : Int) != (m.length : Int)) = true := by simp; omega
    have hf : (l == m) = false := by
      rw [beq_eq_false_iff_ne]; intro he; exact hne (by rw [he])
    simp only [c_belatedlaw3_ints, C_ops, C_cond, D_ret, normal_some, cond_tt, E_nil, E_cons, next_some, ev_tmp, ev_const, get_succ, get_zero, List.set_cons_succ, List.set_cons_zero, O_mv, O_bin, pairO, O_len, B_neq, List.cons_append, List.nil_append, List.length_cons, List.length_nil, Nat.reduceAdd, Nat.reduceSub, Nat.zero_add, W_some, W_seq, Q_cont_normal, Q_cont_ret, Q_ret, fillU_zero, fillU_succ, eq_self, e.len, f.len, c1, hf]
theorem usesV_len (i : Ins) : (usesV i).length ≤ 2 := Nat.le_trans (List.length_filter_le _ _) (rawV_len i)
set_option maxHeartbeats 4000000 in
set_option maxRecDepth 20000 in
theorem law_UirRight (i : Ins) (k n : Int) (h : Heap) : DF FF n_belatedlaw3_UirRight [agg (insL i), .int .i64 k, .int .i64 n] h = some (.bool true, h) := by
  refine fun_wpU F_belatedlaw3_UirRight ?_
  obtain ⟨v1, H1, e1, o1, p1⟩ := uir_Uses_c i (h ++ [.cells (insL i) 0 false])
  obtain ⟨v2, H2, e2, o2, p2⟩ := ref_Uses_c i H1
  have r1 := rr_pre (n := 17) p1 (insL_len i)
  have r2 := rr_pre (n := 17) (p1.trans p2) (insL_len i)
  have hi := law3_ints_c (h := H2) (s := v1) (t := v2) (o1.sl.pre p2) o2.sl (by have := usesV_len i; omega)
  have same : (usesV i == usesV i) = true := by simp
  have s1 : (rightV i k n == rightV i k n) = true := by simp
  have s2 : (givesV i == givesV i) = true := by simp
  simp only [c_belatedlaw3_UirRight, C_ops, D_ret, normal_some, E_nil, E_cons, E_guard, next_some, next_none, guard_tt, ev_tmp, ev_const, get_succ, get_zero, List.set_cons_succ, List.set_cons_zero, O_mv, O_pick, pickO, O_bin, pairO, O_call, List.map_cons, List.map_nil, O_load, load_ptr, B_eql, List.cons_append, List.nil_append, List.length_cons, List.length_nil, Nat.reduceAdd, Nat.reduceSub, Nat.zero_add, W_some, W_seq, Q_cont_normal, O_box, read_skip0, read_there, fillU_zero, fillU_succ, Option.map_some, Bool.bne_false, beq_self_eq_true, O_eqv, eqv_bool, eq_self, laid_agg, box_some, O_again, again_agg, insL_len, law3_able_c, uir_Right_c, ref_Right_c, uir_Reads_c, uir_Writes_c, ref_Reads_c, ref_Writes_c, uir_Gives_c, ref_Gives_c, e1, e2, r1, r2, hi, eqv_bool]
  rw [Q_pre (((Pre.refl h).more _).trans (p1.trans p2)) _ _ _ rfl]; rfl
theorem typed_ins {h : Heap} {u : Value} (ht : TypedA h (true, List.replicate 10 (.int .i64) ++ List.replicate 3 .bool ++ List.replicate 3 (.int .i64) ++ [.bool]) u) : ∃ i, u = agg (insL i) := by
  obtain ⟨l, rfl, ht⟩ := ht
  obtain ⟨i, rfl⟩ := typed_insL ht
  exact ⟨i, rfl⟩
theorem uirRight_law (h : Heap) (us : List Value) (hu : TypedAs h [(true, (List.replicate 10 (.int .i64) ++ List.replicate 3 .bool ++ List.replicate 3 (.int .i64) ++ [.bool])), (false, [(.int .i64)]), (false, [(.int .i64)])] us) : ∃ h', DF FF n_belatedlaw3_UirRight us h = some (.bool true, h') :=
  match us, hu with
  | [a, b, c], ⟨h0, h1, h2, _⟩ =>
    let ⟨i, hi⟩ := typed_ins h0
    let ⟨k, hk, _⟩ := typed_int h1
    let ⟨n, hn, _⟩ := typed_int h2
    ⟨h, by rw [hi, hk, hn]; exact law_UirRight i k n h⟩
end Go.Proofs.Ytjodnadlplicmaa.AM
