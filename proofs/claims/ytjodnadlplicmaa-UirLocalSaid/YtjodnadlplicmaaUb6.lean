/-
  The registers that an instruction uses; the law on single instructions.
  Conditions: none.
-/
import Derived.Test.YtjodnadlplicmaaUb5
import Derived.Test.YtjodnadlplicmaaFb4
namespace Go.Proofs.Ytjodnadlplicmaa.AM
open Go.RowKit
set_option linter.unusedSimpArgs false
set_option linter.unusedVariables false

theorem rd_pre {H K : Heap} {l : List Value} {j : Nat} (p : Pre (H ++ [.cells l 0 false]) K) : Heap.read1 K ⟨H.length, j, some 0⟩ = l[j]? := by
  obtain ⟨L, rfl⟩ := p
  rw [List.append_assoc]; simp [Heap.read1]
theorem rr_pre {H K : Heap} {l : List Value} {n : Nat} (p : Pre (H ++ [.cells l 0 false]) K) (hl : l.length = n) : Heap.read K ⟨H.length, 0, some 0⟩ n = some l := by
  subst hl
  obtain ⟨L, rfl⟩ := p
  rw [List.append_assoc]; simp [Heap.read]
def isU (r : Int) : Bool := r != -1
def rawV (i : Ins) : List Int := if i.op = 2 ∨ i.op = 9 then [i.a] else if i.op = 3 then [i.a, i.b] else if i.op = 4 then [i.index] else if i.op = 5 ∨ i.op = 6 then [i.a, i.index] else []
def usesV (i : Ins) : List Int := (rawV i).filter isU
theorem rawV_len (i : Ins) : (rawV i).length ≤ 2 := by
  unfold rawV; split
  · simp
  · split
    · simp
    · split
      · simp
      · split <;> simp
theorem filter_take {l : List Int} {k : Nat} (hk : k < l.length) : (l.take (k + 1)).filter isU = if l[k] = -1 then (l.take k).filter isU else (l.take k).filter isU ++ [l[k]] := by
  rw [List.take_succ_eq_append_getElem hk, List.filter_append]
  by_cases h : l[k] = -1
  · rw [if_pos h, h]; simp [isU]
  · rw [if_neg h]; simp [isU, h]
/-- Numbers laid behind one's own. -/
theorem Own.appendI {h K : Heap} {s : Value} {A : List Int} (e : Own h K s 1 (A.map intR)) (p : Pre h K) (xs : List Int) (hr : A.length + xs.length < 1099511627776) :
    ∃ s' K', appendTo (K ++ [.cells (xs.map fun e => .int .i64 e) 0 false]) 1 8 s (srcOf (K ++ [.cells (xs.map fun e => .int .i64 e) 0 false]) 1 (.slice (some ⟨K.length, 0, some 0⟩) xs.length 1)) = some (s', K') ∧ Own h K' s' 1 ((A ++ xs).map intR) ∧ Pre h K' := by
  obtain ⟨s', K', u1, u2, u3, u4, u5, u6⟩ := (e.more [.cells (xs.map fun e => .int .i64 e) 0 false]).append (p.more _) (ys := (xs.map intR).flatten) (rows' := xs.map intR) (bytes := 8) rfl (by simp [intR]) (by simp only [List.length_map]; unfold roomFor; omega)
  have hs := (IntS_row K xs).src0
  rw [List.length_map] at u1
  refine ⟨s', K', ?_, by rw [List.map_append]; exact u2, u3⟩
  rw [hs, List.length_map]; exact u1
set_option maxHeartbeats 4000000 in
set_option maxRecDepth 20000 in
theorem uir_Uses_c (i : Ins) (h : Heap) : ∃ v H', DF FF n_uir_Uses [agg (insL i)] h = some (v, H') ∧ (Own h H' v 1 ((usesV i).map intR) ∧ Pre h H') := by
  refine fun_wpE F_uir_Uses ?_
  have i0 := insL_0 i
  have i2 := insL_2 i
  have i3 := insL_3 i
  have i7 := insL_7 i
  rcases op_cases i with h1 | ⟨n1, h2 | ⟨n2, h3 | ⟨n3, h4 | ⟨n4, h5 | ⟨n5, h6 | ⟨n6, h7 | ⟨n7, h8 | ⟨n8, h9 | n9⟩⟩⟩⟩⟩⟩⟩⟩
  · have hop : i.op = 1 := by simpa using h1
    have m2 := op_not _ _ 2 h1 rfl
    have m3 := op_not _ _ 3 h1 rfl
    have m4 := op_not _ _ 4 h1 rfl
    have m5 := op_not _ _ 5 h1 rfl
    have m6 := op_not _ _ 6 h1 rfl
    have m7 := op_not _ _ 7 h1 rfl
    have m8 := op_not _ _ 8 h1 rfl
    have m9 := op_not _ _ 9 h1 rfl
    have hraw : usesV i = ([] : List Int).filter isU := by unfold usesV rawV; simp [hop]
    have hS : IntS (h ++ [.cells (insL i) 0 false]) (.slice none 0 0) ([] : List Int) := by
      exact ⟨.inl ⟨rfl, rfl⟩, by simp⟩
    simp only [c_uir_Uses, C_ops, C_cond, D_skip, normal_some, cond_ff, E_nil, E_cons, next_some, ev_tmp, ev_const, get_succ, get_zero, List.set_cons_succ, List.set_cons_zero, O_mv, O_bin, pairO, O_len, len_slice, O_load1, load1_ptr, B_eql, List.cons_append, List.nil_append, List.length_cons, List.length_nil, Nat.reduceSub, Nat.zero_add, W_some, W_seq, W_block, Q_cont_normal, Q_block_normal, O_box, O_off, off_ptr, read1_skip0, read1_there, fillU_zero, fillU_succ, Nat.add_zero, eq_self, laid_agg, box_some, insL_len, i0, m2, m3, m4, m5, m6, m9]
    refine for_wp 0 (fun k st => ∃ (K : Heap) (t : Value) (j : Nat → Value), st = ⟨[j 0, j 1, j 2, j 3, t, j 5, j 6, j 7, j 8, j 9, j 10, j 11, j 12, j 13, j 14, j 15, j 16, j 17, j 18, j 19, j 20, j 21, j 22, j 23, j 24, j 25, j 26, j 27, j 28, j 29, j 30, j 31, j 32, j 33, j 34, .slice none 0 0, .int .i64 ((0 : Nat) : Int), .int .i64 (k : Int), j 38, j 39, j 40, j 41, j 42, j 43, j 44, j 45, j 46, j 47, j 48], K⟩ ∧ Own (h ++ [.cells (insL i) 0 false]) K t 1 (((([] : List Int).take k).filter isU).map intR) ∧ Pre (h ++ [.cells (insL i) 0 false]) K) ?_ ?_ _ ?_
    · intro k st hk; omega
    · rintro st ⟨K, t, j, rfl, o1, o2⟩
      have hk1 : ¬ (((0 : Nat) : Int) < ((0 : Nat) : Int)) := by omega
      rw [show ([] : List Int).take 0 = ([] : List Int) from rfl] at o1
      simp only [C_ops, C_cond, D_exit, D_ret, normal_some, cond_ff, E_nil, E_cons, next_some, ev_tmp, get_succ, get_zero, List.set_cons_succ, List.set_cons_zero, O_mv, O_bin, pairO, B_lss, W_some, W_seq, Q_cont_normal, Q_cont_exit, Q_block_exit, Q_retE, Q_for_exit, hk1, decide_false]
      rw [hraw]
      exact (o1.weak (by simp)).finish (((Pre.refl h).more _).trans o2)
    · exact ⟨_, _, junkA rfl ⟨Own.nil _ _ _, Pre.refl _⟩⟩
  · have hop : i.op = 2 := by simpa using h2
    have m3 := op_not _ _ 3 h2 rfl
    have m4 := op_not _ _ 4 h2 rfl
    have m5 := op_not _ _ 5 h2 rfl
    have m6 := op_not _ _ 6 h2 rfl
    have m7 := op_not _ _ 7 h2 rfl
    have m8 := op_not _ _ 8 h2 rfl
    have m9 := op_not _ _ 9 h2 rfl
    have hraw : usesV i = ([i.a] : List Int).filter isU := by unfold usesV rawV; simp [hop]
    have hS : IntS (h ++ [.cells (insL i) 0 false, .cells (([i.a] : List Int).map fun e => .int .i64 e) 0 false]) (.slice (some ⟨h.length + 1, 0, some 0⟩) 1 1) ([i.a] : List Int) := by
      have := IntS_row (h ++ [.cells (insL i) 0 false]) ([i.a] : List Int)
      simpa using this
    simp only [c_uir_Uses, C_ops, C_cond, D_skip, normal_some, cond_tt, E_nil, E_cons, next_some, ev_tmp, ev_const, get_succ, get_zero, List.set_cons_succ, List.set_cons_zero, O_mv, O_bin, pairO, O_len, len_slice, O_load1, load1_ptr, O_mkRow, mk_some, partsV_nil, partsV_cons, zeros_zero, zeros_succ, fill_nil, fill_int, Nat.lt_add_one, B_eql, List.cons_append, List.nil_append, List.length_cons, List.length_nil, Nat.reduceSub, Nat.zero_add, W_some, W_seq, W_block, Q_cont_normal, Q_block_normal, slc, O_box, O_off, off_ptr, read1_skip0, read1_there, fillU_zero, fillU_succ, List.append_assoc, List.length_append, List.append_nil, Nat.add_zero, eq_self, laid_agg, box_some, insL_len, i0, i2, h2]
    refine for_wp 1 (fun k st => ∃ (K : Heap) (t : Value) (j : Nat → Value), st = ⟨[j 0, j 1, j 2, j 3, t, j 5, j 6, j 7, j 8, j 9, j 10, j 11, j 12, j 13, j 14, j 15, j 16, j 17, j 18, j 19, j 20, j 21, j 22, j 23, j 24, j 25, j 26, j 27, j 28, j 29, j 30, j 31, j 32, j 33, j 34, .slice (some ⟨h.length + 1, 0, some 0⟩) 1 1, .int .i64 ((1 : Nat) : Int), .int .i64 (k : Int), j 38, j 39, j 40, j 41, j 42, j 43, j 44, j 45, j 46, j 47, j 48], K⟩ ∧ Own (h ++ [.cells (insL i) 0 false, .cells (([i.a] : List Int).map fun e => .int .i64 e) 0 false]) K t 1 (((([i.a] : List Int).take k).filter isU).map intR) ∧ Pre (h ++ [.cells (insL i) 0 false, .cells (([i.a] : List Int).map fun e => .int .i64 e) 0 false]) K) ?_ ?_ _ ?_
    · rintro k st hk ⟨K, t, j, rfl, o1, o2⟩
      have hk1 : (k : Int) < ((1 : Nat) : Int) := by omega
      obtain ⟨b, o, w, a1, _, a3⟩ := (IntS.pre (l := ([i.a] : List Int)) hS o2).at (k := k) (by simp; omega)
      have hft := filter_take (l := ([i.a] : List Int)) (k := k) (by simp; omega)
      have hlen : ((([i.a] : List Int).take k).filter isU).length ≤ 2 := Nat.le_trans (List.length_filter_le _ _) (by simp; omega)
      by_cases hm : (([i.a] : List Int)[k]'(by simp; omega)) = -1
      · have hm' : ((([i.a] : List Int)[k]'(by simp; omega)) != -1) = false := by rw [hm]; rfl
        rw [if_pos hm] at hft
        simp only [C_ops, C_cond, D_skip, normal_some, cond_tt, cond_ff, E_nil, E_cons, next_some, ev_tmp, ev_const, get_succ, get_zero, List.set_cons_succ, List.set_cons_zero, O_mv, O_bin, pairO, List.map_cons, List.map_nil, O_atRow, O_load1, load1_ptr, B_add, B_neq, B_lss, W_some, W_seq, W_block, Q_cont_normal, Q_block_normal, Q_for_normal, hk1, decide_true, a1, a3, hm', wrap_nat (k := k) (by omega)]
        exact ⟨K, t, junkA rfl ⟨by rw [hft]; exact o1, o2⟩⟩
      · have hm' : ((([i.a] : List Int)[k]'(by simp; omega)) != -1) = true := bne_iff_ne.2 hm
        rw [if_neg hm] at hft
        obtain ⟨t', K', u1, u2, u3, _⟩ := o1.push o2 (row := [.int .i64 (([i.a] : List Int)[k]'(by simp; omega))]) (bytes := 8) rfl (by rw [List.length_map]; unfold roomFor; omega)
        simp only [C_ops, C_cond, D_skip, normal_some, cond_tt, E_nil, E_cons, next_some, ev_tmp, ev_const, get_succ, get_zero, List.set_cons_succ, List.set_cons_zero, O_mv, O_bin, pairO, List.map_cons, List.map_nil, O_atRow, O_load1, load1_ptr, O_mkRow, mk_some, partsV_nil, partsV_cons, zeros_zero, zeros_succ, fill_nil, fill_int, Nat.lt_add_one, B_add, B_neq, B_lss, List.length_cons, List.length_nil, Nat.zero_add, W_some, W_seq, W_block, Q_cont_normal, Q_block_normal, slc, O_append, List.append_nil, Q_for_normal, hk1, decide_true, a1, a3, hm', u1, wrap_nat (k := k) (by omega)]
        exact ⟨K', t', junkA rfl ⟨by rw [hft, List.map_append]; exact u2, u3⟩⟩
    · rintro st ⟨K, t, j, rfl, o1, o2⟩
      have hk1 : ¬ (((1 : Nat) : Int) < ((1 : Nat) : Int)) := by omega
      rw [show ([i.a] : List Int).take 1 = ([i.a] : List Int) from rfl] at o1
      simp only [C_ops, C_cond, D_exit, D_ret, normal_some, cond_ff, E_nil, E_cons, next_some, ev_tmp, get_succ, get_zero, List.set_cons_succ, List.set_cons_zero, O_mv, O_bin, pairO, B_lss, W_some, W_seq, Q_cont_normal, Q_cont_exit, Q_block_exit, Q_retE, Q_for_exit, hk1, decide_false]
      rw [hraw]
      exact (o1.weak (by simp)).finish (((Pre.refl h).more _).trans o2)
    · exact ⟨_, _, junkA rfl ⟨Own.nil _ _ _, Pre.refl _⟩⟩
  · have hop : i.op = 3 := by simpa using h3
    have m4 := op_not _ _ 4 h3 rfl
    have m5 := op_not _ _ 5 h3 rfl
    have m6 := op_not _ _ 6 h3 rfl
    have m7 := op_not _ _ 7 h3 rfl
    have m8 := op_not _ _ 8 h3 rfl
    have m9 := op_not _ _ 9 h3 rfl
    have hraw : usesV i = ([i.a, i.b] : List Int).filter isU := by unfold usesV rawV; simp [hop]
    have hS : IntS (h ++ [.cells (insL i) 0 false, .cells (([i.a, i.b] : List Int).map fun e => .int .i64 e) 0 false]) (.slice (some ⟨h.length + 1, 0, some 0⟩) 2 1) ([i.a, i.b] : List Int) := by
      have := IntS_row (h ++ [.cells (insL i) 0 false]) ([i.a, i.b] : List Int)
      simpa using this
    simp only [c_uir_Uses, C_ops, C_cond, normal_some, cond_tt, cond_ff, E_nil, E_cons, next_some, ev_tmp, ev_const, get_succ, get_zero, List.set_cons_succ, List.set_cons_zero, O_mv, O_bin, pairO, O_len, len_slice, O_load1, load1_ptr, O_mkRow, mk_some, partsV_nil, partsV_cons, zeros_zero, zeros_succ, fill_nil, fill_int, Nat.lt_add_one, Nat.zero_lt_succ, B_eql, List.cons_append, List.nil_append, List.length_cons, List.length_nil, Nat.reduceAdd, Nat.reduceSub, Nat.zero_add, W_some, W_seq, W_block, Q_cont_normal, Q_block_normal, slc, O_box, O_off, off_ptr, read1_skip0, read1_there, fillU_zero, fillU_succ, List.append_assoc, List.length_append, List.append_nil, Nat.add_zero, eq_self, laid_agg, box_some, insL_len, i0, i2, i3, n2, h3, m9]
    refine for_wp 2 (fun k st => ∃ (K : Heap) (t : Value) (j : Nat → Value), st = ⟨[j 0, j 1, j 2, j 3, t, j 5, j 6, j 7, j 8, j 9, j 10, j 11, j 12, j 13, j 14, j 15, j 16, j 17, j 18, j 19, j 20, j 21, j 22, j 23, j 24, j 25, j 26, j 27, j 28, j 29, j 30, j 31, j 32, j 33, j 34, .slice (some ⟨h.length + 1, 0, some 0⟩) 2 1, .int .i64 ((2 : Nat) : Int), .int .i64 (k : Int), j 38, j 39, j 40, j 41, j 42, j 43, j 44, j 45, j 46, j 47, j 48], K⟩ ∧ Own (h ++ [.cells (insL i) 0 false, .cells (([i.a, i.b] : List Int).map fun e => .int .i64 e) 0 false]) K t 1 (((([i.a, i.b] : List Int).take k).filter isU).map intR) ∧ Pre (h ++ [.cells (insL i) 0 false, .cells (([i.a, i.b] : List Int).map fun e => .int .i64 e) 0 false]) K) ?_ ?_ _ ?_
    · rintro k st hk ⟨K, t, j, rfl, o1, o2⟩
      have hk1 : (k : Int) < ((2 : Nat) : Int) := by omega
      obtain ⟨b, o, w, a1, _, a3⟩ := (IntS.pre (l := ([i.a, i.b] : List Int)) hS o2).at (k := k) (by simp; omega)
      have hft := filter_take (l := ([i.a, i.b] : List Int)) (k := k) (by simp; omega)
      have hlen : ((([i.a, i.b] : List Int).take k).filter isU).length ≤ 2 := Nat.le_trans (List.length_filter_le _ _) (by simp; omega)
      by_cases hm : (([i.a, i.b] : List Int)[k]'(by simp; omega)) = -1
      · have hm' : ((([i.a, i.b] : List Int)[k]'(by simp; omega)) != -1) = false := by rw [hm]; rfl
        rw [if_pos hm] at hft
        simp only [C_ops, C_cond, D_skip, normal_some, cond_tt, cond_ff, E_nil, E_cons, next_some, ev_tmp, ev_const, get_succ, get_zero, List.set_cons_succ, List.set_cons_zero, O_mv, O_bin, pairO, List.map_cons, List.map_nil, O_atRow, O_load1, load1_ptr, B_add, B_neq, B_lss, W_some, W_seq, W_block, Q_cont_normal, Q_block_normal, Q_for_normal, hk1, decide_true, a1, a3, hm', wrap_nat (k := k) (by omega)]
        exact ⟨K, t, junkA rfl ⟨by rw [hft]; exact o1, o2⟩⟩
      · have hm' : ((([i.a, i.b] : List Int)[k]'(by simp; omega)) != -1) = true := bne_iff_ne.2 hm
        rw [if_neg hm] at hft
        obtain ⟨t', K', u1, u2, u3, _⟩ := o1.push o2 (row := [.int .i64 (([i.a, i.b] : List Int)[k]'(by simp; omega))]) (bytes := 8) rfl (by rw [List.length_map]; unfold roomFor; omega)
        simp only [C_ops, C_cond, D_skip, normal_some, cond_tt, E_nil, E_cons, next_some, ev_tmp, ev_const, get_succ, get_zero, List.set_cons_succ, List.set_cons_zero, O_mv, O_bin, pairO, List.map_cons, List.map_nil, O_atRow, O_load1, load1_ptr, O_mkRow, mk_some, partsV_nil, partsV_cons, zeros_zero, zeros_succ, fill_nil, fill_int, Nat.lt_add_one, B_add, B_neq, B_lss, List.length_cons, List.length_nil, Nat.zero_add, W_some, W_seq, W_block, Q_cont_normal, Q_block_normal, slc, O_append, List.append_nil, Q_for_normal, hk1, decide_true, a1, a3, hm', u1, wrap_nat (k := k) (by omega)]
        exact ⟨K', t', junkA rfl ⟨by rw [hft, List.map_append]; exact u2, u3⟩⟩
    · rintro st ⟨K, t, j, rfl, o1, o2⟩
      have hk1 : ¬ (((2 : Nat) : Int) < ((2 : Nat) : Int)) := by omega
      rw [show ([i.a, i.b] : List Int).take 2 = ([i.a, i.b] : List Int) from rfl] at o1
      simp only [C_ops, C_cond, D_exit, D_ret, normal_some, cond_ff, E_nil, E_cons, next_some, ev_tmp, get_succ, get_zero, List.set_cons_succ, List.set_cons_zero, O_mv, O_bin, pairO, B_lss, W_some, W_seq, Q_cont_normal, Q_cont_exit, Q_block_exit, Q_retE, Q_for_exit, hk1, decide_false]
      rw [hraw]
      exact (o1.weak (by simp)).finish (((Pre.refl h).more _).trans o2)
    · exact ⟨_, _, junkA rfl ⟨Own.nil _ _ _, Pre.refl _⟩⟩
  · have hop : i.op = 4 := by simpa using h4
    have m5 := op_not _ _ 5 h4 rfl
    have m6 := op_not _ _ 6 h4 rfl
    have m7 := op_not _ _ 7 h4 rfl
    have m8 := op_not _ _ 8 h4 rfl
    have m9 := op_not _ _ 9 h4 rfl
    have hraw : usesV i = ([i.index] : List Int).filter isU := by unfold usesV rawV; simp [hop]
    have hS : IntS (h ++ [.cells (insL i) 0 false, .cells (([i.index] : List Int).map fun e => .int .i64 e) 0 false]) (.slice (some ⟨h.length + 1, 0, some 0⟩) 1 1) ([i.index] : List Int) := by
      have := IntS_row (h ++ [.cells (insL i) 0 false]) ([i.index] : List Int)
      simpa using this
    simp only [c_uir_Uses, C_ops, C_cond, normal_some, cond_tt, cond_ff, E_nil, E_cons, next_some, ev_tmp, ev_const, get_succ, get_zero, List.set_cons_succ, List.set_cons_zero, O_mv, O_bin, pairO, O_len, len_slice, O_load1, load1_ptr, O_mkRow, mk_some, partsV_nil, partsV_cons, zeros_zero, zeros_succ, fill_nil, fill_int, Nat.lt_add_one, B_eql, List.cons_append, List.nil_append, List.length_cons, List.length_nil, Nat.reduceSub, Nat.zero_add, W_some, W_seq, W_block, Q_cont_normal, Q_block_normal, slc, O_box, O_off, off_ptr, read1_skip0, read1_there, fillU_zero, fillU_succ, List.append_assoc, List.length_append, List.append_nil, Nat.add_zero, eq_self, laid_agg, box_some, insL_len, i0, i7, n2, n3, h4, m9]
    refine for_wp 1 (fun k st => ∃ (K : Heap) (t : Value) (j : Nat → Value), st = ⟨[j 0, j 1, j 2, j 3, t, j 5, j 6, j 7, j 8, j 9, j 10, j 11, j 12, j 13, j 14, j 15, j 16, j 17, j 18, j 19, j 20, j 21, j 22, j 23, j 24, j 25, j 26, j 27, j 28, j 29, j 30, j 31, j 32, j 33, j 34, .slice (some ⟨h.length + 1, 0, some 0⟩) 1 1, .int .i64 ((1 : Nat) : Int), .int .i64 (k : Int), j 38, j 39, j 40, j 41, j 42, j 43, j 44, j 45, j 46, j 47, j 48], K⟩ ∧ Own (h ++ [.cells (insL i) 0 false, .cells (([i.index] : List Int).map fun e => .int .i64 e) 0 false]) K t 1 (((([i.index] : List Int).take k).filter isU).map intR) ∧ Pre (h ++ [.cells (insL i) 0 false, .cells (([i.index] : List Int).map fun e => .int .i64 e) 0 false]) K) ?_ ?_ _ ?_
    · rintro k st hk ⟨K, t, j, rfl, o1, o2⟩
      have hk1 : (k : Int) < ((1 : Nat) : Int) := by omega
      obtain ⟨b, o, w, a1, _, a3⟩ := (IntS.pre (l := ([i.index] : List Int)) hS o2).at (k := k) (by simp; omega)
      have hft := filter_take (l := ([i.index] : List Int)) (k := k) (by simp; omega)
      have hlen : ((([i.index] : List Int).take k).filter isU).length ≤ 2 := Nat.le_trans (List.length_filter_le _ _) (by simp; omega)
      by_cases hm : (([i.index] : List Int)[k]'(by simp; omega)) = -1
      · have hm' : ((([i.index] : List Int)[k]'(by simp; omega)) != -1) = false := by rw [hm]; rfl
        rw [if_pos hm] at hft
        simp only [C_ops, C_cond, D_skip, normal_some, cond_tt, cond_ff, E_nil, E_cons, next_some, ev_tmp, ev_const, get_succ, get_zero, List.set_cons_succ, List.set_cons_zero, O_mv, O_bin, pairO, List.map_cons, List.map_nil, O_atRow, O_load1, load1_ptr, B_add, B_neq, B_lss, W_some, W_seq, W_block, Q_cont_normal, Q_block_normal, Q_for_normal, hk1, decide_true, a1, a3, hm', wrap_nat (k := k) (by omega)]
        exact ⟨K, t, junkA rfl ⟨by rw [hft]; exact o1, o2⟩⟩
      · have hm' : ((([i.index] : List Int)[k]'(by simp; omega)) != -1) = true := bne_iff_ne.2 hm
        rw [if_neg hm] at hft
        obtain ⟨t', K', u1, u2, u3, _⟩ := o1.push o2 (row := [.int .i64 (([i.index] : List Int)[k]'(by simp; omega))]) (bytes := 8) rfl (by rw [List.length_map]; unfold roomFor; omega)
        simp only [C_ops, C_cond, D_skip, normal_some, cond_tt, E_nil, E_cons, next_some, ev_tmp, ev_const, get_succ, get_zero, List.set_cons_succ, List.set_cons_zero, O_mv, O_bin, pairO, List.map_cons, List.map_nil, O_atRow, O_load1, load1_ptr, O_mkRow, mk_some, partsV_nil, partsV_cons, zeros_zero, zeros_succ, fill_nil, fill_int, Nat.lt_add_one, B_add, B_neq, B_lss, List.length_cons, List.length_nil, Nat.zero_add, W_some, W_seq, W_block, Q_cont_normal, Q_block_normal, slc, O_append, List.append_nil, Q_for_normal, hk1, decide_true, a1, a3, hm', u1, wrap_nat (k := k) (by omega)]
        exact ⟨K', t', junkA rfl ⟨by rw [hft, List.map_append]; exact u2, u3⟩⟩
    · rintro st ⟨K, t, j, rfl, o1, o2⟩
      have hk1 : ¬ (((1 : Nat) : Int) < ((1 : Nat) : Int)) := by omega
      rw [show ([i.index] : List Int).take 1 = ([i.index] : List Int) from rfl] at o1
      simp only [C_ops, C_cond, D_exit, D_ret, normal_some, cond_ff, E_nil, E_cons, next_some, ev_tmp, get_succ, get_zero, List.set_cons_succ, List.set_cons_zero, O_mv, O_bin, pairO, B_lss, W_some, W_seq, Q_cont_normal, Q_cont_exit, Q_block_exit, Q_retE, Q_for_exit, hk1, decide_false]
      rw [hraw]
      exact (o1.weak (by simp)).finish (((Pre.refl h).more _).trans o2)
    · exact ⟨_, _, junkA rfl ⟨Own.nil _ _ _, Pre.refl _⟩⟩
  · have hop : i.op = 5 := by simpa using h5
    have m6 := op_not _ _ 6 h5 rfl
    have m7 := op_not _ _ 7 h5 rfl
    have m8 := op_not _ _ 8 h5 rfl
    have m9 := op_not _ _ 9 h5 rfl
    have hraw : usesV i = ([i.a, i.index] : List Int).filter isU := by unfold usesV rawV; simp [hop]
    have hS : IntS (h ++ [.cells (insL i) 0 false, .cells (([i.a, i.index] : List Int).map fun e => .int .i64 e) 0 false]) (.slice (some ⟨h.length + 1, 0, some 0⟩) 2 1) ([i.a, i.index] : List Int) := by
      have := IntS_row (h ++ [.cells (insL i) 0 false]) ([i.a, i.index] : List Int)
      simpa using this
    simp only [c_uir_Uses, C_ops, C_cond, D_skip, normal_some, cond_tt, cond_ff, E_nil, E_cons, next_some, ev_tmp, ev_const, get_succ, get_zero, List.set_cons_succ, List.set_cons_zero, O_mv, O_bin, pairO, O_len, len_slice, O_load1, load1_ptr, O_mkRow, mk_some, partsV_nil, partsV_cons, zeros_zero, zeros_succ, fill_nil, fill_int, Nat.lt_add_one, Nat.zero_lt_succ, B_eql, List.cons_append, List.nil_append, List.length_cons, List.length_nil, Nat.reduceAdd, Nat.reduceSub, Nat.zero_add, W_some, W_seq, W_block, Q_cont_normal, Q_block_normal, slc, O_box, O_off, off_ptr, read1_skip0, read1_there, fillU_zero, fillU_succ, List.append_assoc, List.length_append, List.append_nil, Nat.add_zero, eq_self, laid_agg, box_some, insL_len, i0, i2, i7, n2, n3, n4, h5, m9]
    refine for_wp 2 (fun k st => ∃ (K : Heap) (t : Value) (j : Nat → Value), st = ⟨[j 0, j 1, j 2, j 3, t, j 5, j 6, j 7, j 8, j 9, j 10, j 11, j 12, j 13, j 14, j 15, j 16, j 17, j 18, j 19, j 20, j 21, j 22, j 23, j 24, j 25, j 26, j 27, j 28, j 29, j 30, j 31, j 32, j 33, j 34, .slice (some ⟨h.length + 1, 0, some 0⟩) 2 1, .int .i64 ((2 : Nat) : Int), .int .i64 (k : Int), j 38, j 39, j 40, j 41, j 42, j 43, j 44, j 45, j 46, j 47, j 48], K⟩ ∧ Own (h ++ [.cells (insL i) 0 false, .cells (([i.a, i.index] : List Int).map fun e => .int .i64 e) 0 false]) K t 1 (((([i.a, i.index] : List Int).take k).filter isU).map intR) ∧ Pre (h ++ [.cells (insL i) 0 false, .cells (([i.a, i.index] : List Int).map fun e => .int .i64 e) 0 false]) K) ?_ ?_ _ ?_
    · rintro k st hk ⟨K, t, j, rfl, o1, o2⟩
      have hk1 : (k : Int) < ((2 : Nat) : Int) := by omega
      obtain ⟨b, o, w, a1, _, a3⟩ := (IntS.pre (l := ([i.a, i.index] : List Int)) hS o2).at (k := k) (by simp; omega)
      have hft := filter_take (l := ([i.a, i.index] : List Int)) (k := k) (by simp; omega)
      have hlen : ((([i.a, i.index] : List Int).take k).filter isU).length ≤ 2 := Nat.le_trans (List.length_filter_le _ _) (by simp; omega)
      by_cases hm : (([i.a, i.index] : List Int)[k]'(by simp; omega)) = -1
      · have hm' : ((([i.a, i.index] : List Int)[k]'(by simp; omega)) != -1) = false := by rw [hm]; rfl
        rw [if_pos hm] at hft
        simp only [C_ops, C_cond, D_skip, normal_some, cond_tt, cond_ff, E_nil, E_cons, next_some, ev_tmp, ev_const, get_succ, get_zero, List.set_cons_succ, List.set_cons_zero, O_mv, O_bin, pairO, List.map_cons, List.map_nil, O_atRow, O_load1, load1_ptr, B_add, B_neq, B_lss, W_some, W_seq, W_block, Q_cont_normal, Q_block_normal, Q_for_normal, hk1, decide_true, a1, a3, hm', wrap_nat (k := k) (by omega)]
        exact ⟨K, t, junkA rfl ⟨by rw [hft]; exact o1, o2⟩⟩
      · have hm' : ((([i.a, i.index] : List Int)[k]'(by simp; omega)) != -1) = true := bne_iff_ne.2 hm
        rw [if_neg hm] at hft
        obtain ⟨t', K', u1, u2, u3, _⟩ := o1.push o2 (row := [.int .i64 (([i.a, i.index] : List Int)[k]'(by simp; omega))]) (bytes := 8) rfl (by rw [List.length_map]; unfold roomFor; omega)
        simp only [C_ops, C_cond, D_skip, normal_some, cond_tt, E_nil, E_cons, next_some, ev_tmp, ev_const, get_succ, get_zero, List.set_cons_succ, List.set_cons_zero, O_mv, O_bin, pairO, List.map_cons, List.map_nil, O_atRow, O_load1, load1_ptr, O_mkRow, mk_some, partsV_nil, partsV_cons, zeros_zero, zeros_succ, fill_nil, fill_int, Nat.lt_add_one, B_add, B_neq, B_lss, List.length_cons, List.length_nil, Nat.zero_add, W_some, W_seq, W_block, Q_cont_normal, Q_block_normal, slc, O_append, List.append_nil, Q_for_normal, hk1, decide_true, a1, a3, hm', u1, wrap_nat (k := k) (by omega)]
        exact ⟨K', t', junkA rfl ⟨by rw [hft, List.map_append]; exact u2, u3⟩⟩
    · rintro st ⟨K, t, j, rfl, o1, o2⟩
      have hk1 : ¬ (((2 : Nat) : Int) < ((2 : Nat) : Int)) := by omega
      rw [show ([i.a, i.index] : List Int).take 2 = ([i.a, i.index] : List Int) from rfl] at o1
      simp only [C_ops, C_cond, D_exit, D_ret, normal_some, cond_ff, E_nil, E_cons, next_some, ev_tmp, get_succ, get_zero, List.set_cons_succ, List.set_cons_zero, O_mv, O_bin, pairO, B_lss, W_some, W_seq, Q_cont_normal, Q_cont_exit, Q_block_exit, Q_retE, Q_for_exit, hk1, decide_false]
      rw [hraw]
      exact (o1.weak (by simp)).finish (((Pre.refl h).more _).trans o2)
    · exact ⟨_, _, junkA rfl ⟨Own.nil _ _ _, Pre.refl _⟩⟩
  · have hop : i.op = 6 := by simpa using h6
    have m7 := op_not _ _ 7 h6 rfl
    have m8 := op_not _ _ 8 h6 rfl
    have m9 := op_not _ _ 9 h6 rfl
    have hraw : usesV i = ([i.a, i.index] : List Int).filter isU := by unfold usesV rawV; simp [hop]
    have hS : IntS (h ++ [.cells (insL i) 0 false, .cells (([i.a, i.index] : List Int).map fun e => .int .i64 e) 0 false]) (.slice (some ⟨h.length + 1, 0, some 0⟩) 2 1) ([i.a, i.index] : List Int) := by
      have := IntS_row (h ++ [.cells (insL i) 0 false]) ([i.a, i.index] : List Int)
      simpa using this
    simp only [c_uir_Uses, C_ops, C_cond, normal_some, cond_tt, cond_ff, E_nil, E_cons, next_some, ev_tmp, ev_const, get_succ, get_zero, List.set_cons_succ, List.set_cons_zero, O_mv, O_bin, pairO, O_len, len_slice, O_load1, load1_ptr, O_mkRow, mk_some, partsV_nil, partsV_cons, zeros_zero, zeros_succ, fill_nil, fill_int, Nat.lt_add_one, Nat.zero_lt_succ, B_eql, List.cons_append, List.nil_append, List.length_cons, List.length_nil, Nat.reduceAdd, Nat.reduceSub, Nat.zero_add, W_some, W_seq, W_block, Q_cont_normal, Q_block_normal, slc, O_box, O_off, off_ptr, read1_skip0, read1_there, fillU_zero, fillU_succ, List.append_assoc, List.length_append, List.append_nil, Nat.add_zero, eq_self, laid_agg, box_some, insL_len, i0, i2, i7, n2, n3, n4, n5, h6, m9]
    refine for_wp 2 (fun k st => ∃ (K : Heap) (t : Value) (j : Nat → Value), st = ⟨[j 0, j 1, j 2, j 3, t, j 5, j 6, j 7, j 8, j 9, j 10, j 11, j 12, j 13, j 14, j 15, j 16, j 17, j 18, j 19, j 20, j 21, j 22, j 23, j 24, j 25, j 26, j 27, j 28, j 29, j 30, j 31, j 32, j 33, j 34, .slice (some ⟨h.length + 1, 0, some 0⟩) 2 1, .int .i64 ((2 : Nat) : Int), .int .i64 (k : Int), j 38, j 39, j 40, j 41, j 42, j 43, j 44, j 45, j 46, j 47, j 48], K⟩ ∧ Own (h ++ [.cells (insL i) 0 false, .cells (([i.a, i.index] : List Int).map fun e => .int .i64 e) 0 false]) K t 1 (((([i.a, i.index] : List Int).take k).filter isU).map intR) ∧ Pre (h ++ [.cells (insL i) 0 false, .cells (([i.a, i.index] : List Int).map fun e => .int .i64 e) 0 false]) K) ?_ ?_ _ ?_
    · rintro k st hk ⟨K, t, j, rfl, o1, o2⟩
      have hk1 : (k : Int) < ((2 : Nat) : Int) := by omega
      obtain ⟨b, o, w, a1, _, a3⟩ := (IntS.pre (l := ([i.a, i.index] : List Int)) hS o2).at (k := k) (by simp; omega)
      have hft := filter_take (l := ([i.a, i.index] : List Int)) (k := k) (by simp; omega)
      have hlen : ((([i.a, i.index] : List Int).take k).filter isU).length ≤ 2 := Nat.le_trans (List.length_filter_le _ _) (by simp; omega)
      by_cases hm : (([i.a, i.index] : List Int)[k]'(by simp; omega)) = -1
      · have hm' : ((([i.a, i.index] : List Int)[k]'(by simp; omega)) != -1) = false := by rw [hm]; rfl
        rw [if_pos hm] at hft
        simp only [C_ops, C_cond, D_skip, normal_some, cond_tt, cond_ff, E_nil, E_cons, next_some, ev_tmp, ev_const, get_succ, get_zero, List.set_cons_succ, List.set_cons_zero, O_mv, O_bin, pairO, List.map_cons, List.map_nil, O_atRow, O_load1, load1_ptr, B_add, B_neq, B_lss, W_some, W_seq, W_block, Q_cont_normal, Q_block_normal, Q_for_normal, hk1, decide_true, a1, a3, hm', wrap_nat (k := k) (by omega)]
        exact ⟨K, t, junkA rfl ⟨by rw [hft]; exact o1, o2⟩⟩
      · have hm' : ((([i.a, i.index] : List Int)[k]'(by simp; omega)) != -1) = true := bne_iff_ne.2 hm
        rw [if_neg hm] at hft
        obtain ⟨t', K', u1, u2, u3, _⟩ := o1.push o2 (row := [.int .i64 (([i.a, i.index] : List Int)[k]'(by simp; omega))]) (bytes := 8) rfl (by rw [List.length_map]; unfold roomFor; omega)
        simp only [C_ops, C_cond, D_skip, normal_some, cond_tt, E_nil, E_cons, next_some, ev_tmp, ev_const, get_succ, get_zero, List.set_cons_succ, List.set_cons_zero, O_mv, O_bin, pairO, List.map_cons, List.map_nil, O_atRow, O_load1, load1_ptr, O_mkRow, mk_some, partsV_nil, partsV_cons, zeros_zero, zeros_succ, fill_nil, fill_int, Nat.lt_add_one, B_add, B_neq, B_lss, List.length_cons, List.length_nil, Nat.zero_add, W_some, W_seq, W_block, Q_cont_normal, Q_block_normal, slc, O_append, List.append_nil, Q_for_normal, hk1, decide_true, a1, a3, hm', u1, wrap_nat (k := k) (by omega)]
        exact ⟨K', t', junkA rfl ⟨by rw [hft, List.map_append]; exact u2, u3⟩⟩
    · rintro st ⟨K, t, j, rfl, o1, o2⟩
      have hk1 : ¬ (((2 : Nat) : Int) < ((2 : Nat) : Int)) := by omega
      rw [show ([i.a, i.index] : List Int).take 2 = ([i.a, i.index] : List Int) from rfl] at o1
      simp only [C_ops, C_cond, D_exit, D_ret, normal_some, cond_ff, E_nil, E_cons, next_some, ev_tmp, get_succ, get_zero, List.set_cons_succ, List.set_cons_zero, O_mv, O_bin, pairO, B_lss, W_some, W_seq, Q_cont_normal, Q_cont_exit, Q_block_exit, Q_retE, Q_for_exit, hk1, decide_false]
      rw [hraw]
      exact (o1.weak (by simp)).finish (((Pre.refl h).more _).trans o2)
    · exact ⟨_, _, junkA rfl ⟨Own.nil _ _ _, Pre.refl _⟩⟩
  · have hop : i.op = 7 := by simpa using h7
    have m8 := op_not _ _ 8 h7 rfl
    have m9 := op_not _ _ 9 h7 rfl
    have hraw : usesV i = ([] : List Int).filter isU := by unfold usesV rawV; simp [hop]
    have hS : IntS (h ++ [.cells (insL i) 0 false]) (.slice none 0 0) ([] : List Int) := by
      exact ⟨.inl ⟨rfl, rfl⟩, by simp⟩
    simp only [c_uir_Uses, C_ops, C_cond, D_skip, normal_some, cond_ff, E_nil, E_cons, next_some, ev_tmp, ev_const, get_succ, get_zero, List.set_cons_succ, List.set_cons_zero, O_mv, O_bin, pairO, O_len, len_slice, O_load1, load1_ptr, B_eql, List.cons_append, List.nil_append, List.length_cons, List.length_nil, Nat.reduceSub, Nat.zero_add, W_some, W_seq, W_block, Q_cont_normal, Q_block_normal, O_box, O_off, off_ptr, read1_skip0, read1_there, fillU_zero, fillU_succ, Nat.add_zero, eq_self, laid_agg, box_some, insL_len, i0, n2, n3, n4, n5, n6, m9]
    refine for_wp 0 (fun k st => ∃ (K : Heap) (t : Value) (j : Nat → Value), st = ⟨[j 0, j 1, j 2, j 3, t, j 5, j 6, j 7, j 8, j 9, j 10, j 11, j 12, j 13, j 14, j 15, j 16, j 17, j 18, j 19, j 20, j 21, j 22, j 23, j 24, j 25, j 26, j 27, j 28, j 29, j 30, j 31, j 32, j 33, j 34, .slice none 0 0, .int .i64 ((0 : Nat) : Int), .int .i64 (k : Int), j 38, j 39, j 40, j 41, j 42, j 43, j 44, j 45, j 46, j 47, j 48], K⟩ ∧ Own (h ++ [.cells (insL i) 0 false]) K t 1 (((([] : List Int).take k).filter isU).map intR) ∧ Pre (h ++ [.cells (insL i) 0 false]) K) ?_ ?_ _ ?_
    · intro k st hk; omega
    · rintro st ⟨K, t, j, rfl, o1, o2⟩
      have hk1 : ¬ (((0 : Nat) : Int) < ((0 : Nat) : Int)) := by omega
      rw [show ([] : List Int).take 0 = ([] : List Int) from rfl] at o1
      simp only [C_ops, C_cond, D_exit, D_ret, normal_some, cond_ff, E_nil, E_cons, next_some, ev_tmp, get_succ, get_zero, List.set_cons_succ, List.set_cons_zero, O_mv, O_bin, pairO, B_lss, W_some, W_seq, Q_cont_normal, Q_cont_exit, Q_block_exit, Q_retE, Q_for_exit, hk1, decide_false]
      rw [hraw]
      exact (o1.weak (by simp)).finish (((Pre.refl h).more _).trans o2)
    · exact ⟨_, _, junkA rfl ⟨Own.nil _ _ _, Pre.refl _⟩⟩
  · have hop : i.op = 8 := by simpa using h8
    have m9 := op_not _ _ 9 h8 rfl
    have hraw : usesV i = ([] : List Int).filter isU := by unfold usesV rawV; simp [hop]
    have hS : IntS (h ++ [.cells (insL i) 0 false]) (.slice none 0 0) ([] : List Int) := by
      exact ⟨.inl ⟨rfl, rfl⟩, by simp⟩
    simp only [c_uir_Uses, C_ops, C_cond, D_skip, normal_some, cond_ff, E_nil, E_cons, next_some, ev_tmp, ev_const, get_succ, get_zero, List.set_cons_succ, List.set_cons_zero, O_mv, O_bin, pairO, O_len, len_slice, O_load1, load1_ptr, B_eql, List.cons_append, List.nil_append, List.length_cons, List.length_nil, Nat.reduceSub, Nat.zero_add, W_some, W_seq, W_block, Q_cont_normal, Q_block_normal, O_box, O_off, off_ptr, read1_skip0, read1_there, fillU_zero, fillU_succ, Nat.add_zero, eq_self, laid_agg, box_some, insL_len, i0, n2, n3, n4, n5, n6, m9]
    refine for_wp 0 (fun k st => ∃ (K : Heap) (t : Value) (j : Nat → Value), st = ⟨[j 0, j 1, j 2, j 3, t, j 5, j 6, j 7, j 8, j 9, j 10, j 11, j 12, j 13, j 14, j 15, j 16, j 17, j 18, j 19, j 20, j 21, j 22, j 23, j 24, j 25, j 26, j 27, j 28, j 29, j 30, j 31, j 32, j 33, j 34, .slice none 0 0, .int .i64 ((0 : Nat) : Int), .int .i64 (k : Int), j 38, j 39, j 40, j 41, j 42, j 43, j 44, j 45, j 46, j 47, j 48], K⟩ ∧ Own (h ++ [.cells (insL i) 0 false]) K t 1 (((([] : List Int).take k).filter isU).map intR) ∧ Pre (h ++ [.cells (insL i) 0 false]) K) ?_ ?_ _ ?_
    · intro k st hk; omega
    · rintro st ⟨K, t, j, rfl, o1, o2⟩
      have hk1 : ¬ (((0 : Nat) : Int) < ((0 : Nat) : Int)) := by omega
      rw [show ([] : List Int).take 0 = ([] : List Int) from rfl] at o1
      simp only [C_ops, C_cond, D_exit, D_ret, normal_some, cond_ff, E_nil, E_cons, next_some, ev_tmp, get_succ, get_zero, List.set_cons_succ, List.set_cons_zero, O_mv, O_bin, pairO, B_lss, W_some, W_seq, Q_cont_normal, Q_cont_exit, Q_block_exit, Q_retE, Q_for_exit, hk1, decide_false]
      rw [hraw]
      exact (o1.weak (by simp)).finish (((Pre.refl h).more _).trans o2)
    · exact ⟨_, _, junkA rfl ⟨Own.nil _ _ _, Pre.refl _⟩⟩
  · have hop : i.op = 9 := by simpa using h9
    have hraw : usesV i = ([i.a] : List Int).filter isU := by unfold usesV rawV; simp [hop]
    have hS : IntS (h ++ [.cells (insL i) 0 false, .cells (([i.a] : List Int).map fun e => .int .i64 e) 0 false]) (.slice (some ⟨h.length + 1, 0, some 0⟩) 1 1) ([i.a] : List Int) := by
      have := IntS_row (h ++ [.cells (insL i) 0 false]) ([i.a] : List Int)
      simpa using this
    simp only [c_uir_Uses, C_ops, C_cond, normal_some, cond_tt, cond_ff, E_nil, E_cons, next_some, ev_tmp, ev_const, get_succ, get_zero, List.set_cons_succ, List.set_cons_zero, O_mv, O_bin, pairO, O_len, len_slice, O_load1, load1_ptr, O_mkRow, mk_some, partsV_nil, partsV_cons, zeros_zero, zeros_succ, fill_nil, fill_int, Nat.lt_add_one, B_eql, List.cons_append, List.nil_append, List.length_cons, List.length_nil, Nat.reduceSub, Nat.zero_add, W_some, W_seq, W_block, Q_cont_normal, Q_block_normal, slc, O_box, O_off, off_ptr, read1_skip0, read1_there, fillU_zero, fillU_succ, List.append_assoc, List.length_append, List.append_nil, Nat.add_zero, eq_self, laid_agg, box_some, insL_len, i0, i2, n2, h9]
    refine for_wp 1 (fun k st => ∃ (K : Heap) (t : Value) (j : Nat → Value), st = ⟨[j 0, j 1, j 2, j 3, t, j 5, j 6, j 7, j 8, j 9, j 10, j 11, j 12, j 13, j 14, j 15, j 16, j 17, j 18, j 19, j 20, j 21, j 22, j 23, j 24, j 25, j 26, j 27, j 28, j 29, j 30, j 31, j 32, j 33, j 34, .slice (some ⟨h.length + 1, 0, some 0⟩) 1 1, .int .i64 ((1 : Nat) : Int), .int .i64 (k : Int), j 38, j 39, j 40, j 41, j 42, j 43, j 44, j 45, j 46, j 47, j 48], K⟩ ∧ Own (h ++ [.cells (insL i) 0 false, .cells (([i.a] : List Int).map fun e => .int .i64 e) 0 false]) K t 1 (((([i.a] : List Int).take k).filter isU).map intR) ∧ Pre (h ++ [.cells (insL i) 0 false, .cells (([i.a] : List Int).map fun e => .int .i64 e) 0 false]) K) ?_ ?_ _ ?_
    · rintro k st hk ⟨K, t, j, rfl, o1, o2⟩
      have hk1 : (k : Int) < ((1 : Nat) : Int) := by omega
      obtain ⟨b, o, w, a1, _, a3⟩ := (IntS.pre (l := ([i.a] : List Int)) hS o2).at (k := k) (by simp; omega)
      have hft := filter_take (l := ([i.a] : List Int)) (k := k) (by simp; omega)
      have hlen : ((([i.a] : List Int).take k).filter isU).length ≤ 2 := Nat.le_trans (List.length_filter_le _ _) (by simp; omega)
      by_cases hm : (([i.a] : List Int)[k]'(by simp; omega)) = -1
      · have hm' : ((([i.a] : List Int)[k]'(by simp; omega)) != -1) = false := by rw [hm]; rfl
        rw [if_pos hm] at hft
        simp only [C_ops, C_cond, D_skip, normal_some, cond_tt, cond_ff, E_nil, E_cons, next_some, ev_tmp, ev_const, get_succ, get_zero, List.set_cons_succ, List.set_cons_zero, O_mv, O_bin, pairO, List.map_cons, List.map_nil, O_atRow, O_load1, load1_ptr, B_add, B_neq, B_lss, W_some, W_seq, W_block, Q_cont_normal, Q_block_normal, Q_for_normal, hk1, decide_true, a1, a3, hm', wrap_nat (k := k) (by omega)]
        exact ⟨K, t, junkA rfl ⟨by rw [hft]; exact o1, o2⟩⟩
      · have hm' : ((([i.a] : List Int)[k]'(by simp; omega)) != -1) = true := bne_iff_ne.2 hm
        rw [if_neg hm] at hft
        obtain ⟨t', K', u1, u2, u3, _⟩ := o1.push o2 (row := [.int .i64 (([i.a] : List Int)[k]'(by simp; omega))]) (bytes := 8) rfl (by rw [List.length_map]; unfold roomFor; omega)
        simp only [C_ops, C_cond, D_skip, normal_some, cond_tt, E_nil, E_cons, next_some, ev_tmp, ev_const, get_succ, get_zero, List.set_cons_succ, List.set_cons_zero, O_mv, O_bin, pairO, List.map_cons, List.map_nil, O_atRow, O_load1, load1_ptr, O_mkRow, mk_some, partsV_nil, partsV_cons, zeros_zero, zeros_succ, fill_nil, fill_int, Nat.lt_add_one, B_add, B_neq, B_lss, List.length_cons, List.length_nil, Nat.zero_add, W_some, W_seq, W_block, Q_cont_normal, Q_block_normal, slc, O_append, List.append_nil, Q_for_normal, hk1, decide_true, a1, a3, hm', u1, wrap_nat (k := k) (by omega)]
        exact ⟨K', t', junkA rfl ⟨by rw [hft, List.map_append]; exact u2, u3⟩⟩
    · rintro st ⟨K, t, j, rfl, o1, o2⟩
      have hk1 : ¬ (((1 : Nat) : Int) < ((1 : Nat) : Int)) := by omega
      rw [show ([i.a] : List Int).take 1 = ([i.a] : List Int) from rfl] at o1
      simp only [C_ops, C_cond, D_exit, D_ret, normal_some, cond_ff, E_nil, E_cons, next_some, ev_tmp, get_succ, get_zero, List.set_cons_succ, List.set_cons_zero, O_mv, O_bin, pairO, B_lss, W_some, W_seq, Q_cont_normal, Q_cont_exit, Q_block_exit, Q_retE, Q_for_exit, hk1, decide_false]
      rw [hraw]
      exact (o1.weak (by simp)).finish (((Pre.refl h).more _).trans o2)
    · exact ⟨_, _, junkA rfl ⟨Own.nil _ _ _, Pre.refl _⟩⟩
  · have hraw : usesV i = ([] : List Int).filter isU := by
      unfold usesV rawV
      have e2 : ¬ i.op = 2 := by simpa using n2
      have e3 : ¬ i.op = 3 := by simpa using n3
      have e4 : ¬ i.op = 4 := by simpa using n4
      have e5 : ¬ i.op = 5 := by simpa using n5
      have e6 : ¬ i.op = 6 := by simpa using n6
      have e9 : ¬ i.op = 9 := by simpa using n9
      simp [e2, e3, e4, e5, e6, e9]
    have hS : IntS (h ++ [.cells (insL i) 0 false]) (.slice none 0 0) ([] : List Int) := by
      exact ⟨.inl ⟨rfl, rfl⟩, by simp⟩
    simp only [c_uir_Uses, C_ops, C_cond, D_skip, normal_some, cond_ff, E_nil, E_cons, next_some, ev_tmp, ev_const, get_succ, get_zero, List.set_cons_succ, List.set_cons_zero, O_mv, O_bin, pairO, O_len, len_slice, O_load1, load1_ptr, B_eql, List.cons_append, List.nil_append, List.length_cons, List.length_nil, Nat.reduceSub, Nat.zero_add, W_some, W_seq, W_block, Q_cont_normal, Q_block_normal, O_box, O_off, off_ptr, read1_skip0, read1_there, fillU_zero, fillU_succ, Nat.add_zero, eq_self, laid_agg, box_some, insL_len, i0, n2, n3, n4, n5, n6, n9]
    refine for_wp 0 (fun k st => ∃ (K : Heap) (t : Value) (j : Nat → Value), st = ⟨[j 0, j 1, j 2, j 3, t, j 5, j 6, j 7, j 8, j 9, j 10, j 11, j 12, j 13, j 14, j 15, j 16, j 17, j 18, j 19, j 20, j 21, j 22, j 23, j 24, j 25, j 26, j 27, j 28, j 29, j 30, j 31, j 32, j 33, j 34, .slice none 0 0, .int .i64 ((0 : Nat) : Int), .int .i64 (k : Int), j 38, j 39, j 40, j 41, j 42, j 43, j 44, j 45, j 46, j 47, j 48], K⟩ ∧ Own (h ++ [.cells (insL i) 0 false]) K t 1 (((([] : List Int).take k).filter isU).map intR) ∧ Pre (h ++ [.cells (insL i) 0 false]) K) ?_ ?_ _ ?_
    · intro k st hk; omega
    · rintro st ⟨K, t, j, rfl, o1, o2⟩
      have hk1 : ¬ (((0 : Nat) : Int) < ((0 : Nat) : Int)) := by omega
      rw [show ([] : List Int).take 0 = ([] : List Int) from rfl] at o1
      simp only [C_ops, C_cond, D_exit, D_ret, normal_some, cond_ff, E_nil, E_cons, next_some, ev_tmp, get_succ, get_zero, List.set_cons_succ, List.set_cons_zero, O_mv, O_bin, pairO, B_lss, W_some, W_seq, Q_cont_normal, Q_cont_exit, Q_block_exit, Q_retE, Q_for_exit, hk1, decide_false]
      rw [hraw]
      exact (o1.weak (by simp)).finish (((Pre.refl h).more _).trans o2)
    · exact ⟨_, _, junkA rfl ⟨Own.nil _ _ _, Pre.refl _⟩⟩
set_option maxHeartbeats 4000000 in
set_option maxRecDepth 20000 in
theorem ref_Uses_c (i : Ins) (h : Heap) : ∃ v H', DF FF n_belatedref3_Uses [agg (insL i)] h = some (v, H') ∧ (Own h H' v 1 ((usesV i).map intR) ∧ Pre h H') := by
  refine fun_wpE F_belatedref3_Uses ?_
  have i0 := insL_0 i
  have i2 := insL_2 i
  have i3 := insL_3 i
  have i7 := insL_7 i
  have pI : Pre h (h ++ [.cells (insL i) 0 false]) := (Pre.refl h).more _
  rcases op_cases i with h1 | ⟨n1, h2 | ⟨n2, h3 | ⟨n3, h4 | ⟨n4, h5 | ⟨n5, h6 | ⟨n6, h7 | ⟨n7, h8 | ⟨n8, h9 | n9⟩⟩⟩⟩⟩⟩⟩⟩
  · have hop : i.op = 1 := by simpa using h1
    have m2 := op_not _ _ 2 h1 rfl
    have m3 := op_not _ _ 3 h1 rfl
    have m4 := op_not _ _ 4 h1 rfl
    have m5 := op_not _ _ 5 h1 rfl
    have m6 := op_not _ _ 6 h1 rfl
    have m7 := op_not _ _ 7 h1 rfl
    have m8 := op_not _ _ 8 h1 rfl
    have m9 := op_not _ _ 9 h1 rfl
    have hraw : usesV i = ([] : List Int).filter isU := by unfold usesV rawV; simp [hop]
    have kM : memV i = false := by unfold memV readsV writesV; simp only [m4, m5, m6]; rfl
    have oS : Own h (h ++ [.cells (insL i) 0 false]) (.slice none 0 0) 1 (([] : List Int).map intR) := Own.nil _ _ _
    have pS := pI
    simp only [c_belatedref3_Uses, C_ops, C_cond, D_skip, normal_some, cond_ff, E_nil, E_cons, next_some, ev_tmp, ev_const, get_succ, get_zero, List.set_cons_succ, List.set_cons_zero, O_mv, O_bin, pairO, O_call, List.map_cons, List.map_nil, O_load1, load1_ptr, O_load, load_ptr, B_eql, List.cons_append, List.nil_append, List.length_cons, List.length_nil, Nat.reduceSub, Nat.zero_add, W_some, W_seq, W_block, Q_cont_normal, Q_block_normal, O_box, O_off, off_ptr, read1_skip0, read1_there, read_skip0, read_there, fillU_zero, fillU_succ, Nat.add_zero, Option.map_some, eq_self, laid_agg, box_some, insL_len, i0, ref_Memory_c, kM, m2, m3, m5, m6, m9]
    refine for_wp 0 (fun k st => ∃ (K : Heap) (t : Value) (j : Nat → Value), st = ⟨[j 0, j 1, j 2, .slice none 0 0, t, .int .i64 (k : Int), j 6, j 7, j 8, j 9, j 10, j 11, j 12, j 13, j 14, j 15, j 16, j 17, j 18, j 19, j 20, j 21, j 22, j 23, j 24, j 25, j 26, j 27, j 28, j 29, j 30, j 31, j 32, j 33, j 34, j 35, j 36, j 37, j 38, j 39, j 40, j 41, j 42, j 43, j 44, j 45, j 46, j 47, j 48, j 49, j 50, j 51, j 52, j 53, j 54, j 55, j 56, j 57, j 58], K⟩ ∧ Own (h ++ [.cells (insL i) 0 false]) K t 1 (((([] : List Int).take k).filter isU).map intR) ∧ Pre (h ++ [.cells (insL i) 0 false]) K) ?_ ?_ _ ?_
    · intro k st hk; omega
    · rintro st ⟨K, t, j, rfl, o1, o2⟩
      have hk1 : ¬ (((0 : Nat) : Int) < ((0 : Nat) : Int)) := by omega
      have hS : IntS K (.slice none 0 0) ([] : List Int) := oS.sl.pre o2
      rw [show ([] : List Int).take 0 = ([] : List Int) from rfl] at o1
      simp only [C_ops, C_cond, D_exit, D_ret, normal_some, cond_ff, E_nil, E_cons, next_some, ev_tmp, get_succ, get_zero, List.set_cons_succ, List.set_cons_zero, O_mv, O_bin, pairO, O_len, B_lss, List.length_nil, W_some, W_seq, Q_cont_normal, Q_cont_exit, Q_block_exit, Q_retE, Q_for_exit, hS.len, hk1, decide_false]
      rw [hraw]
      exact (o1.weak pS.le).finish (pS.trans o2)
    · exact ⟨_, _, junkA rfl ⟨Own.nil _ _ _, Pre.refl _⟩⟩
  · have hop : i.op = 2 := by simpa using h2
    have m3 := op_not _ _ 3 h2 rfl
    have m4 := op_not _ _ 4 h2 rfl
    have m5 := op_not _ _ 5 h2 rfl
    have m6 := op_not _ _ 6 h2 rfl
    have m7 := op_not _ _ 7 h2 rfl
    have m8 := op_not _ _ 8 h2 rfl
    have m9 := op_not _ _ 9 h2 rfl
    have hraw : usesV i = ([i.a] : List Int).filter isU := by unfold usesV rawV; simp [hop]
    have kM : memV i = false := by unfold memV readsV writesV; simp only [m4, m5, m6]; rfl
    obtain ⟨s0, K0, u0, o0, p0⟩ := Own.appendI (A := []) (Own.nil (h ++ [.cells (insL i) 0 false]) (h ++ [.cells (insL i) 0 false]) 1) (Pre.refl _) [i.a] (by simp)
    obtain ⟨sa0, sn0, sc0, rfl⟩ := o0.shape
    simp only [List.append_assoc, List.cons_append, List.nil_append, List.length_append, List.length_cons, List.length_nil, Nat.zero_add, List.map_cons, List.map_nil] at u0
    have oS : Own h K0 (.slice sa0 sn0 sc0) 1 (([i.a] : List Int).map intR) := o0.weak pI.le
    have pS := pI.trans p0
    have rd0 := fun j => rd_pre (j := j) p0
    have rr0 := rr_pre (n := 17) p0 (insL_len i)
    simp only [c_belatedref3_Uses, C_ops, C_cond, D_skip, normal_some, cond_tt, cond_ff, E_nil, E_cons, next_some, ev_tmp, ev_const, get_succ, get_zero, List.set_cons_succ, List.set_cons_zero, O_mv, O_bin, pairO, O_call, List.map_cons, List.map_nil, O_load1, load1_ptr, O_load, load_ptr, O_mkRow, mk_some, partsV_nil, partsV_cons, zeros_zero, zeros_succ, fill_nil, fill_int, Nat.lt_add_one, B_eql, List.cons_append, List.nil_append, List.length_cons, List.length_nil, Nat.reduceSub, Nat.zero_add, W_some, W_seq, W_block, Q_cont_normal, Q_block_normal, slc, O_append, O_box, O_off, off_ptr, read1_skip0, read1_there, fillU_zero, fillU_succ, List.append_assoc, List.length_append, List.append_nil, Nat.add_zero, Option.map_some, eq_self, laid_agg, box_some, insL_len, i0, i2, ref_Memory_c, kM, u0, rr0, h2]
    refine for_wp 1 (fun k st => ∃ (K : Heap) (t : Value) (j : Nat → Value), st = ⟨[j 0, j 1, j 2, .slice sa0 sn0 sc0, t, .int .i64 (k : Int), j 6, j 7, j 8, j 9, j 10, j 11, j 12, j 13, j 14, j 15, j 16, j 17, j 18, j 19, j 20, j 21, j 22, j 23, j 24, j 25, j 26, j 27, j 28, j 29, j 30, j 31, j 32, j 33, j 34, j 35, j 36, j 37, j 38, j 39, j 40, j 41, j 42, j 43, j 44, j 45, j 46, j 47, j 48, j 49, j 50, j 51, j 52, j 53, j 54, j 55, j 56, j 57, j 58], K⟩ ∧ Own K0 K t 1 (((([i.a] : List Int).take k).filter isU).map intR) ∧ Pre K0 K) ?_ ?_ _ ?_
    · rintro k st hk ⟨K, t, j, rfl, o1, o2⟩
      have hk1 : (k : Int) < ((1 : Nat) : Int) := by omega
      have hS : IntS K (.slice sa0 sn0 sc0) ([i.a] : List Int) := oS.sl.pre o2
      obtain ⟨b, o, w, a1, _, a3⟩ := hS.at (k := k) (by simp; omega)
      have hft := filter_take (l := ([i.a] : List Int)) (k := k) (by simp; omega)
      have hlen : ((([i.a] : List Int).take k).filter isU).length ≤ 2 := Nat.le_trans (List.length_filter_le _ _) (by simp; omega)
      by_cases hm : (([i.a] : List Int)[k]'(by simp; omega)) = -1
      · have hm' : ((([i.a] : List Int)[k]'(by simp; omega)) != -1) = false := by rw [hm]; rfl
        rw [if_pos hm] at hft
        simp only [C_ops, C_cond, D_skip, normal_some, cond_tt, cond_ff, E_nil, E_cons, next_some, ev_tmp, ev_const, get_succ, get_zero, List.set_cons_succ, List.set_cons_zero, O_mv, O_bin, pairO, O_len, O_atRow, O_load1, load1_ptr, B_add, B_neq, B_lss, List.length_cons, List.length_nil, Nat.zero_add, W_some, W_seq, W_block, Q_cont_normal, Q_block_normal, Q_for_normal, hS.len, hk1, decide_true, a1, a3, hm', wrap_nat (k := k) (by omega)]
        exact ⟨K, t, junkA rfl ⟨by rw [hft]; exact o1, o2⟩⟩
      · have hm' : ((([i.a] : List Int)[k]'(by simp; omega)) != -1) = true := bne_iff_ne.2 hm
        rw [if_neg hm] at hft
        obtain ⟨t', K', u1, u2, u3, _⟩ := o1.push o2 (row := [.int .i64 (([i.a] : List Int)[k]'(by simp; omega))]) (bytes := 8) rfl (by rw [List.length_map]; unfold roomFor; omega)
        simp only [C_ops, C_cond, D_skip, normal_some, cond_tt, E_nil, E_cons, next_some, ev_tmp, ev_const, get_succ, get_zero, List.set_cons_succ, List.set_cons_zero, O_mv, O_bin, pairO, O_len, O_atRow, O_load1, load1_ptr, O_mkRow, mk_some, partsV_nil, partsV_cons, zeros_zero, zeros_succ, fill_nil, fill_int, Nat.lt_add_one, B_add, B_neq, B_lss, List.length_cons, List.length_nil, Nat.zero_add, W_some, W_seq, W_block, Q_cont_normal, Q_block_normal, slc, O_append, List.append_nil, Q_for_normal, hS.len, hk1, decide_true, a1, a3, hm', u1, wrap_nat (k := k) (by omega)]
        exact ⟨K', t', junkA rfl ⟨by rw [hft, List.map_append]; exact u2, u3⟩⟩
    · rintro st ⟨K, t, j, rfl, o1, o2⟩
      have hk1 : ¬ (((1 : Nat) : Int) < ((1 : Nat) : Int)) := by omega
      have hS : IntS K (.slice sa0 sn0 sc0) ([i.a] : List Int) := oS.sl.pre o2
      rw [show ([i.a] : List Int).take 1 = ([i.a] : List Int) from rfl] at o1
      simp only [C_ops, C_cond, D_exit, D_ret, normal_some, cond_ff, E_nil, E_cons, next_some, ev_tmp, get_succ, get_zero, List.set_cons_succ, List.set_cons_zero, O_mv, O_bin, pairO, O_len, B_lss, List.length_cons, List.length_nil, Nat.zero_add, W_some, W_seq, Q_cont_normal, Q_cont_exit, Q_block_exit, Q_retE, Q_for_exit, hS.len, hk1, decide_false]
      rw [hraw]
      exact (o1.weak pS.le).finish (pS.trans o2)
    · exact ⟨_, _, junkA rfl ⟨Own.nil _ _ _, Pre.refl _⟩⟩
  · have hop : i.op = 3 := by simpa using h3
    have m4 := op_not _ _ 4 h3 rfl
    have m5 := op_not _ _ 5 h3 rfl
    have m6 := op_not _ _ 6 h3 rfl
    have m7 := op_not _ _ 7 h3 rfl
    have m8 := op_not _ _ 8 h3 rfl
    have m9 := op_not _ _ 9 h3 rfl
    have hraw : usesV i = ([i.a, i.b] : List Int).filter isU := by unfold usesV rawV; simp [hop]
    have kM : memV i = false := by unfold memV readsV writesV; simp only [m4, m5, m6]; rfl
    obtain ⟨s0, K0, u0, o0, p0⟩ := Own.appendI (A := []) (Own.nil (h ++ [.cells (insL i) 0 false]) (h ++ [.cells (insL i) 0 false]) 1) (Pre.refl _) [i.a, i.b] (by simp)
    obtain ⟨sa0, sn0, sc0, rfl⟩ := o0.shape
    simp only [List.append_assoc, List.cons_append, List.nil_append, List.length_append, List.length_cons, List.length_nil, Nat.zero_add, List.map_cons, List.map_nil] at u0
    have oS : Own h K0 (.slice sa0 sn0 sc0) 1 (([i.a, i.b] : List Int).map intR) := o0.weak pI.le
    have pS := pI.trans p0
    have rd0 := fun j => rd_pre (j := j) p0
    have rr0 := rr_pre (n := 17) p0 (insL_len i)
    simp only [c_belatedref3_Uses, C_ops, C_cond, D_skip, normal_some, cond_tt, cond_ff, E_nil, E_cons, next_some, ev_tmp, ev_const, get_succ, get_zero, List.set_cons_succ, List.set_cons_zero, O_mv, O_bin, pairO, O_call, List.map_cons, List.map_nil, O_load1, load1_ptr, O_load, load_ptr, O_mkRow, mk_some, partsV_nil, partsV_cons, zeros_zero, zeros_succ, fill_nil, fill_int, Nat.lt_add_one, Nat.zero_lt_succ, B_eql, List.cons_append, List.nil_append, List.length_cons, List.length_nil, Nat.reduceAdd, Nat.reduceSub, Nat.zero_add, W_some, W_seq, W_block, Q_cont_normal, Q_block_normal, slc, O_append, O_box, O_off, off_ptr, read1_skip0, read1_there, fillU_zero, fillU_succ, List.append_assoc, List.length_append, List.append_nil, Nat.add_zero, Option.map_some, eq_self, laid_agg, box_some, insL_len, i0, i2, i3, ref_Memory_c, kM, u0, rr0, n2, h3, m6, m9]
    refine for_wp 2 (fun k st => ∃ (K : Heap) (t : Value) (j : Nat → Value), st = ⟨[j 0, j 1, j 2, .slice sa0 sn0 sc0, t, .int .i64 (k : Int), j 6, j 7, j 8, j 9, j 10, j 11, j 12, j 13, j 14, j 15, j 16, j 17, j 18, j 19, j 20, j 21, j 22, j 23, j 24, j 25, j 26, j 27, j 28, j 29, j 30, j 31, j 32, j 33, j 34, j 35, j 36, j 37, j 38, j 39, j 40, j 41, j 42, j 43, j 44, j 45, j 46, j 47, j 48, j 49, j 50, j 51, j 52, j 53, j 54, j 55, j 56, j 57, j 58], K⟩ ∧ Own K0 K t 1 (((([i.a, i.b] : List Int).take k).filter isU).map intR) ∧ Pre K0 K) ?_ ?_ _ ?_
    · rintro k st hk ⟨K, t, j, rfl, o1, o2⟩
      have hk1 : (k : Int) < ((2 : Nat) : Int) := by omega
      have hS : IntS K (.slice sa0 sn0 sc0) ([i.a, i.b] : List Int) := oS.sl.pre o2
      obtain ⟨b, o, w, a1, _, a3⟩ := hS.at (k := k) (by simp; omega)
      have hft := filter_take (l := ([i.a, i.b] : List Int)) (k := k) (by simp; omega)
      have hlen : ((([i.a, i.b] : List Int).take k).filter isU).length ≤ 2 := Nat.le_trans (List.length_filter_le _ _) (by simp; omega)
      by_cases hm : (([i.a, i.b] : List Int)[k]'(by simp; omega)) = -1
      · have hm' : ((([i.a, i.b] : List Int)[k]'(by simp; omega)) != -1) = false := by rw [hm]; rfl
        rw [if_pos hm] at hft
        simp only [C_ops, C_cond, D_skip, normal_some, cond_tt, cond_ff, E_nil, E_cons, next_some, ev_tmp, ev_const, get_succ, get_zero, List.set_cons_succ, List.set_cons_zero, O_mv, O_bin, pairO, O_len, O_atRow, O_load1, load1_ptr, B_add, B_neq, B_lss, List.length_cons, List.length_nil, Nat.reduceAdd, Nat.zero_add, W_some, W_seq, W_block, Q_cont_normal, Q_block_normal, Q_for_normal, hS.len, hk1, decide_true, a1, a3, hm', wrap_nat (k := k) (by omega)]
        exact ⟨K, t, junkA rfl ⟨by rw [hft]; exact o1, o2⟩⟩
      · have hm' : ((([i.a, i.b] : List Int)[k]'(by simp; omega)) != -1) = true := bne_iff_ne.2 hm
        rw [if_neg hm] at hft
        obtain ⟨t', K', u1, u2, u3, _⟩ := o1.push o2 (row := [.int .i64 (([i.a, i.b] : List Int)[k]'(by simp; omega))]) (bytes := 8) rfl (by rw [List.length_map]; unfold roomFor; omega)
        simp only [C_ops, C_cond, D_skip, normal_some, cond_tt, E_nil, E_cons, next_some, ev_tmp, ev_const, get_succ, get_zero, List.set_cons_succ, List.set_cons_zero, O_mv, O_bin, pairO, O_len, O_atRow, O_load1, load1_ptr, O_mkRow, mk_some, partsV_nil, partsV_cons, zeros_zero, zeros_succ, fill_nil, fill_int, Nat.lt_add_one, B_add, B_neq, B_lss, List.length_cons, List.length_nil, Nat.reduceAdd, Nat.zero_add, W_some, W_seq, W_block, Q_cont_normal, Q_block_normal, slc, O_append, List.append_nil, Q_for_normal, hS.len, hk1, decide_true, a1, a3, hm', u1, wrap_nat (k := k) (by omega)]
        exact ⟨K', t', junkA rfl ⟨by rw [hft, List.map_append]; exact u2, u3⟩⟩
    · rintro st ⟨K, t, j, rfl, o1, o2⟩
      have hk1 : ¬ (((2 : Nat) : Int) < ((2 : Nat) : Int)) := by omega
      have hS : IntS K (.slice sa0 sn0 sc0) ([i.a, i.b] : List Int) := oS.sl.pre o2
      rw [show ([i.a, i.b] : List Int).take 2 = ([i.a, i.b] : List Int) from rfl] at o1
      simp only [C_ops, C_cond, D_exit, D_ret, normal_some, cond_ff, E_nil, E_cons, next_some, ev_tmp, get_succ, get_zero, List.set_cons_succ, List.set_cons_zero, O_mv, O_bin, pairO, O_len, B_lss, List.length_cons, List.length_nil, Nat.reduceAdd, Nat.zero_add, W_some, W_seq, Q_cont_normal, Q_cont_exit, Q_block_exit, Q_retE, Q_for_exit, hS.len, hk1, decide_false]
      rw [hraw]
      exact (o1.weak pS.le).finish (pS.trans o2)
    · exact ⟨_, _, junkA rfl ⟨Own.nil _ _ _, Pre.refl _⟩⟩
  · have hop : i.op = 4 := by simpa using h4
    have m5 := op_not _ _ 5 h4 rfl
    have m6 := op_not _ _ 6 h4 rfl
    have m7 := op_not _ _ 7 h4 rfl
    have m8 := op_not _ _ 8 h4 rfl
    have m9 := op_not _ _ 9 h4 rfl
    have hraw : usesV i = ([i.index] : List Int).filter isU := by unfold usesV rawV; simp [hop]
    have kM : memV i = true := by unfold memV readsV writesV; simp only [h4, m5, m6]; rfl
    obtain ⟨s0, K0, u0, o0, p0⟩ := Own.appendI (A := []) (Own.nil (h ++ [.cells (insL i) 0 false]) (h ++ [.cells (insL i) 0 false]) 1) (Pre.refl _) [i.index] (by simp)
    obtain ⟨sa0, sn0, sc0, rfl⟩ := o0.shape
    simp only [List.append_assoc, List.cons_append, List.nil_append, List.length_append, List.length_cons, List.length_nil, Nat.zero_add, List.map_cons, List.map_nil] at u0
    have oS : Own h K0 (.slice sa0 sn0 sc0) 1 (([i.index] : List Int).map intR) := o0.weak pI.le
    have pS := pI.trans p0
    have rd0 := fun j => rd_pre (j := j) p0
    have rr0 := rr_pre (n := 17) p0 (insL_len i)
    simp only [c_belatedref3_Uses, C_ops, C_cond, D_skip, normal_some, cond_tt, cond_ff, E_nil, E_cons, next_some, ev_tmp, ev_const, get_succ, get_zero, List.set_cons_succ, List.set_cons_zero, O_mv, O_bin, pairO, O_call, List.map_cons, List.map_nil, O_load1, load1_ptr, O_load, load_ptr, O_mkRow, mk_some, partsV_nil, partsV_cons, zeros_zero, zeros_succ, fill_nil, fill_int, Nat.lt_add_one, B_eql, List.cons_append, List.nil_append, List.length_cons, List.length_nil, Nat.reduceSub, Nat.zero_add, W_some, W_seq, W_block, Q_cont_normal, Q_block_normal, slc, O_append, O_box, O_off, off_ptr, read1_skip0, read1_there, read_skip0, read_there, fillU_zero, fillU_succ, List.append_assoc, List.length_append, List.append_nil, Nat.add_zero, Option.map_some, eq_self, laid_agg, box_some, insL_len, i0, i7, ref_Memory_c, kM, u0, n2, n3, m5, m6, m9]
    refine for_wp 1 (fun k st => ∃ (K : Heap) (t : Value) (j : Nat → Value), st = ⟨[j 0, j 1, j 2, .slice sa0 sn0 sc0, t, .int .i64 (k : Int), j 6, j 7, j 8, j 9, j 10, j 11, j 12, j 13, j 14, j 15, j 16, j 17, j 18, j 19, j 20, j 21, j 22, j 23, j 24, j 25, j 26, j 27, j 28, j 29, j 30, j 31, j 32, j 33, j 34, j 35, j 36, j 37, j 38, j 39, j 40, j 41, j 42, j 43, j 44, j 45, j 46, j 47, j 48, j 49, j 50, j 51, j 52, j 53, j 54, j 55, j 56, j 57, j 58], K⟩ ∧ Own K0 K t 1 (((([i.index] : List Int).take k).filter isU).map intR) ∧ Pre K0 K) ?_ ?_ _ ?_
    · rintro k st hk ⟨K, t, j, rfl, o1, o2⟩
      have hk1 : (k : Int) < ((1 : Nat) : Int) := by omega
      have hS : IntS K (.slice sa0 sn0 sc0) ([i.index] : List Int) := oS.sl.pre o2
      obtain ⟨b, o, w, a1, _, a3⟩ := hS.at (k := k) (by simp; omega)
      have hft := filter_take (l := ([i.index] : List Int)) (k := k) (by simp; omega)
      have hlen : ((([i.index] : List Int).take k).filter isU).length ≤ 2 := Nat.le_trans (List.length_filter_le _ _) (by simp; omega)
      by_cases hm : (([i.index] : List Int)[k]'(by simp; omega)) = -1
      · have hm' : ((([i.index] : List Int)[k]'(by simp; omega)) != -1) = false := by rw [hm]; rfl
        rw [if_pos hm] at hft
        simp only [C_ops, C_cond, D_skip, normal_some, cond_tt, cond_ff, E_nil, E_cons, next_some, ev_tmp, ev_const, get_succ, get_zero, List.set_cons_succ, List.set_cons_zero, O_mv, O_bin, pairO, O_len, O_atRow, O_load1, load1_ptr, B_add, B_neq, B_lss, List.length_cons, List.length_nil, Nat.zero_add, W_some, W_seq, W_block, Q_cont_normal, Q_block_normal, Q_for_normal, hS.len, hk1, decide_true, a1, a3, hm', wrap_nat (k := k) (by omega)]
        exact ⟨K, t, junkA rfl ⟨by rw [hft]; exact o1, o2⟩⟩
      · have hm' : ((([i.index] : List Int)[k]'(by simp; omega)) != -1) = true := bne_iff_ne.2 hm
        rw [if_neg hm] at hft
        obtain ⟨t', K', u1, u2, u3, _⟩ := o1.push o2 (row := [.int .i64 (([i.index] : List Int)[k]'(by simp; omega))]) (bytes := 8) rfl (by rw [List.length_map]; unfold roomFor; omega)
        simp only [C_ops, C_cond, D_skip, normal_some, cond_tt, E_nil, E_cons, next_some, ev_tmp, ev_const, get_succ, get_zero, List.set_cons_succ, List.set_cons_zero, O_mv, O_bin, pairO, O_len, O_atRow, O_load1, load1_ptr, O_mkRow, mk_some, partsV_nil, partsV_cons, zeros_zero, zeros_succ, fill_nil, fill_int, Nat.lt_add_one, B_add, B_neq, B_lss, List.length_cons, List.length_nil, Nat.zero_add, W_some, W_seq, W_block, Q_cont_normal, Q_block_normal, slc, O_append, List.append_nil, Q_for_normal, hS.len, hk1, decide_true, a1, a3, hm', u1, wrap_nat (k := k) (by omega)]
        exact ⟨K', t', junkA rfl ⟨by rw [hft, List.map_append]; exact u2, u3⟩⟩
    · rintro st ⟨K, t, j, rfl, o1, o2⟩
      have hk1 : ¬ (((1 : Nat) : Int) < ((1 : Nat) : Int)) := by omega
      have hS : IntS K (.slice sa0 sn0 sc0) ([i.index] : List Int) := oS.sl.pre o2
      rw [show ([i.index] : List Int).take 1 = ([i.index] : List Int) from rfl] at o1
      simp only [C_ops, C_cond, D_exit, D_ret, normal_some, cond_ff, E_nil, E_cons, next_some, ev_tmp, get_succ, get_zero, List.set_cons_succ, List.set_cons_zero, O_mv, O_bin, pairO, O_len, B_lss, List.length_cons, List.length_nil, Nat.zero_add, W_some, W_seq, Q_cont_normal, Q_cont_exit, Q_block_exit, Q_retE, Q_for_exit, hS.len, hk1, decide_false]
      rw [hraw]
      exact (o1.weak pS.le).finish (pS.trans o2)
    · exact ⟨_, _, junkA rfl ⟨Own.nil _ _ _, Pre.refl _⟩⟩
  · have hop : i.op = 5 := by simpa using h5
    have m6 := op_not _ _ 6 h5 rfl
    have m7 := op_not _ _ 7 h5 rfl
    have m8 := op_not _ _ 8 h5 rfl
    have m9 := op_not _ _ 9 h5 rfl
    have hraw : usesV i = ([i.a, i.index] : List Int).filter isU := by unfold usesV rawV; simp [hop]
    have kM : memV i = true := by unfold memV readsV writesV; simp only [n4, h5, m6]; rfl
    obtain ⟨s0, K0, u0, o0, p0⟩ := Own.appendI (A := []) (Own.nil (h ++ [.cells (insL i) 0 false]) (h ++ [.cells (insL i) 0 false]) 1) (Pre.refl _) [i.a] (by simp)
    obtain ⟨sa0, sn0, sc0, rfl⟩ := o0.shape
    simp only [List.append_assoc, List.cons_append, List.nil_append, List.length_append, List.length_cons, List.length_nil, Nat.zero_add, List.map_cons, List.map_nil] at u0
    obtain ⟨s1, K1, u1, o1, p1⟩ := Own.appendI (A := _) (o0) p0 [i.index] (by simp)
    obtain ⟨sa1, sn1, sc1, rfl⟩ := o1.shape
    simp only [List.length_cons, List.length_nil, Nat.zero_add, List.map_cons, List.map_nil] at u1
    have oS : Own h K1 (.slice sa1 sn1 sc1) 1 (([i.a, i.index] : List Int).map intR) := o1.weak pI.le
    have pS := pI.trans p1
    have rd0 := fun j => rd_pre (j := j) p0
    have rr0 := rr_pre (n := 17) p0 (insL_len i)
    have rd1 := fun j => rd_pre (j := j) p1
    have rr1 := rr_pre (n := 17) p1 (insL_len i)
    simp only [c_belatedref3_Uses, C_ops, C_cond, normal_some, cond_tt, cond_ff, E_nil, E_cons, next_some, ev_tmp, ev_const, get_succ, get_zero, List.set_cons_succ, List.set_cons_zero, O_mv, O_bin, pairO, O_call, List.map_cons, List.map_nil, O_load1, load1_ptr, O_load, load_ptr, O_mkRow, mk_some, partsV_nil, partsV_cons, zeros_zero, zeros_succ, fill_nil, fill_int, Nat.lt_add_one, B_eql, List.cons_append, List.nil_append, List.length_cons, List.length_nil, Nat.reduceSub, Nat.zero_add, W_some, W_seq, W_block, Q_cont_normal, Q_block_normal, slc, O_append, O_box, O_off, off_ptr, read1_skip0, read1_there, fillU_zero, fillU_succ, List.append_assoc, List.length_append, List.append_nil, Nat.add_zero, Option.map_some, eq_self, laid_agg, box_some, insL_len, i0, i2, i7, ref_Memory_c, kM, u0, u1, rd0, rr0, n2, n3, h5, m6, m9]
    refine for_wp 2 (fun k st => ∃ (K : Heap) (t : Value) (j : Nat → Value), st = ⟨[j 0, j 1, j 2, .slice sa1 sn1 sc1, t, .int .i64 (k : Int), j 6, j 7, j 8, j 9, j 10, j 11, j 12, j 13, j 14, j 15, j 16, j 17, j 18, j 19, j 20, j 21, j 22, j 23, j 24, j 25, j 26, j 27, j 28, j 29, j 30, j 31, j 32, j 33, j 34, j 35, j 36, j 37, j 38, j 39, j 40, j 41, j 42, j 43, j 44, j 45, j 46, j 47, j 48, j 49, j 50, j 51, j 52, j 53, j 54, j 55, j 56, j 57, j 58], K⟩ ∧ Own K1 K t 1 (((([i.a, i.index] : List Int).take k).filter isU).map intR) ∧ Pre K1 K) ?_ ?_ _ ?_
    · rintro k st hk ⟨K, t, j, rfl, o1, o2⟩
      have hk1 : (k : Int) < ((2 : Nat) : Int) := by omega
      have hS : IntS K (.slice sa1 sn1 sc1) ([i.a, i.index] : List Int) := oS.sl.pre o2
      obtain ⟨b, o, w, a1, _, a3⟩ := hS.at (k := k) (by simp; omega)
      have hft := filter_take (l := ([i.a, i.index] : List Int)) (k := k) (by simp; omega)
      have hlen : ((([i.a, i.index] : List Int).take k).filter isU).length ≤ 2 := Nat.le_trans (List.length_filter_le _ _) (by simp; omega)
      by_cases hm : (([i.a, i.index] : List Int)[k]'(by simp; omega)) = -1
      · have hm' : ((([i.a, i.index] : List Int)[k]'(by simp; omega)) != -1) = false := by rw [hm]; rfl
        rw [if_pos hm] at hft
        simp only [C_ops, C_cond, D_skip, normal_some, cond_tt, cond_ff, E_nil, E_cons, next_some, ev_tmp, ev_const, get_succ, get_zero, List.set_cons_succ, List.set_cons_zero, O_mv, O_bin, pairO, O_len, O_atRow, O_load1, load1_ptr, B_add, B_neq, B_lss, List.length_cons, List.length_nil, Nat.reduceAdd, Nat.zero_add, W_some, W_seq, W_block, Q_cont_normal, Q_block_normal, Q_for_normal, hS.len, hk1, decide_true, a1, a3, hm', wrap_nat (k := k) (by omega)]
        exact ⟨K, t, junkA rfl ⟨by rw [hft]; exact o1, o2⟩⟩
      · have hm' : ((([i.a, i.index] : List Int)[k]'(by simp; omega)) != -1) = true := bne_iff_ne.2 hm
        rw [if_neg hm] at hft
        obtain ⟨t', K', u1, u2, u3, _⟩ := o1.push o2 (row := [.int .i64 (([i.a, i.index] : List Int)[k]'(by simp; omega))]) (bytes := 8) rfl (by rw [List.length_map]; unfold roomFor; omega)
        simp only [C_ops, C_cond, D_skip, normal_some, cond_tt, E_nil, E_cons, next_some, ev_tmp, ev_const, get_succ, get_zero, List.set_cons_succ, List.set_cons_zero, O_mv, O_bin, pairO, O_len, O_atRow, O_load1, load1_ptr, O_mkRow, mk_some, partsV_nil, partsV_cons, zeros_zero, zeros_succ, fill_nil, fill_int, Nat.lt_add_one, B_add, B_neq, B_lss, List.length_cons, List.length_nil, Nat.reduceAdd, Nat.zero_add, W_some, W_seq, W_block, Q_cont_normal, Q_block_normal, slc, O_append, List.append_nil, Q_for_normal, hS.len, hk1, decide_true, a1, a3, hm', u1, wrap_nat (k := k) (by omega)]
        exact ⟨K', t', junkA rfl ⟨by rw [hft, List.map_append]; exact u2, u3⟩⟩
    · rintro st ⟨K, t, j, rfl, o1, o2⟩
      have hk1 : ¬ (((2 : Nat) : Int) < ((2 : Nat) : Int)) := by omega
      have hS : IntS K (.slice sa1 sn1 sc1) ([i.a, i.index] : List Int) := oS.sl.pre o2
      rw [show ([i.a, i.index] : List Int).take 2 = ([i.a, i.index] : List Int) from rfl] at o1
      simp only [C_ops, C_cond, D_exit, D_ret, normal_some, cond_ff, E_nil, E_cons, next_some, ev_tmp, get_succ, get_zero, List.set_cons_succ, List.set_cons_zero, O_mv, O_bin, pairO, O_len, B_lss, List.length_cons, List.length_nil, Nat.reduceAdd, Nat.zero_add, W_some, W_seq, Q_cont_normal, Q_cont_exit, Q_block_exit, Q_retE, Q_for_exit, hS.len, hk1, decide_false]
      rw [hraw]
      exact (o1.weak pS.le).finish (pS.trans o2)
    · exact ⟨_, _, junkA rfl ⟨Own.nil _ _ _, Pre.refl _⟩⟩
  · have hop : i.op = 6 := by simpa using h6
    have m7 := op_not _ _ 7 h6 rfl
    have m8 := op_not _ _ 8 h6 rfl
    have m9 := op_not _ _ 9 h6 rfl
    have hraw : usesV i = ([i.a, i.index] : List Int).filter isU := by unfold usesV rawV; simp [hop]
    have kM : memV i = true := by unfold memV readsV writesV; simp only [n4, n5, h6]; rfl
    obtain ⟨s0, K0, u0, o0, p0⟩ := Own.appendI (A := []) (Own.nil (h ++ [.cells (insL i) 0 false]) (h ++ [.cells (insL i) 0 false]) 1) (Pre.refl _) [i.a] (by simp)
    obtain ⟨sa0, sn0, sc0, rfl⟩ := o0.shape
    simp only [List.append_assoc, List.cons_append, List.nil_append, List.length_append, List.length_cons, List.length_nil, Nat.zero_add, List.map_cons, List.map_nil] at u0
    obtain ⟨s1, K1, u1, o1, p1⟩ := Own.appendI (A := _) (o0) p0 [i.index] (by simp)
    obtain ⟨sa1, sn1, sc1, rfl⟩ := o1.shape
    simp only [List.length_cons, List.length_nil, Nat.zero_add, List.map_cons, List.map_nil] at u1
    have oS : Own h K1 (.slice sa1 sn1 sc1) 1 (([i.a, i.index] : List Int).map intR) := o1.weak pI.le
    have pS := pI.trans p1
    have rd0 := fun j => rd_pre (j := j) p0
    have rr0 := rr_pre (n := 17) p0 (insL_len i)
    have rd1 := fun j => rd_pre (j := j) p1
    have rr1 := rr_pre (n := 17) p1 (insL_len i)
    simp only [c_belatedref3_Uses, C_ops, C_cond, normal_some, cond_tt, cond_ff, E_nil, E_cons, next_some, ev_tmp, ev_const, get_succ, get_zero, List.set_cons_succ, List.set_cons_zero, O_mv, O_bin, pairO, O_call, List.map_cons, List.map_nil, O_load1, load1_ptr, O_load, load_ptr, O_mkRow, mk_some, partsV_nil, partsV_cons, zeros_zero, zeros_succ, fill_nil, fill_int, Nat.lt_add_one, B_eql, List.cons_append, List.nil_append, List.length_cons, List.length_nil, Nat.reduceSub, Nat.zero_add, W_some, W_seq, W_block, Q_cont_normal, Q_block_normal, slc, O_append, O_box, O_off, off_ptr, read1_skip0, read1_there, fillU_zero, fillU_succ, List.append_assoc, List.length_append, List.append_nil, Nat.add_zero, Option.map_some, eq_self, laid_agg, box_some, insL_len, i0, i2, i7, ref_Memory_c, kM, u0, u1, rd0, rr0, n2, h6, m9]
    refine for_wp 2 (fun k st => ∃ (K : Heap) (t : Value) (j : Nat → Value), st = ⟨[j 0, j 1, j 2, .slice sa1 sn1 sc1, t, .int .i64 (k : Int), j 6, j 7, j 8, j 9, j 10, j 11, j 12, j 13, j 14, j 15, j 16, j 17, j 18, j 19, j 20, j 21, j 22, j 23, j 24, j 25, j 26, j 27, j 28, j 29, j 30, j 31, j 32, j 33, j 34, j 35, j 36, j 37, j 38, j 39, j 40, j 41, j 42, j 43, j 44, j 45, j 46, j 47, j 48, j 49, j 50, j 51, j 52, j 53, j 54, j 55, j 56, j 57, j 58], K⟩ ∧ Own K1 K t 1 (((([i.a, i.index] : List Int).take k).filter isU).map intR) ∧ Pre K1 K) ?_ ?_ _ ?_
    · rintro k st hk ⟨K, t, j, rfl, o1, o2⟩
      have hk1 : (k : Int) < ((2 : Nat) : Int) := by omega
      have hS : IntS K (.slice sa1 sn1 sc1) ([i.a, i.index] : List Int) := oS.sl.pre o2
      obtain ⟨b, o, w, a1, _, a3⟩ := hS.at (k := k) (by simp; omega)
      have hft := filter_take (l := ([i.a, i.index] : List Int)) (k := k) (by simp; omega)
      have hlen : ((([i.a, i.index] : List Int).take k).filter isU).length ≤ 2 := Nat.le_trans (List.length_filter_le _ _) (by simp; omega)
      by_cases hm : (([i.a, i.index] : List Int)[k]'(by simp; omega)) = -1
      · have hm' : ((([i.a, i.index] : List Int)[k]'(by simp; omega)) != -1) = false := by rw [hm]; rfl
        rw [if_pos hm] at hft
        simp only [C_ops, C_cond, D_skip, normal_some, cond_tt, cond_ff, E_nil, E_cons, next_some, ev_tmp, ev_const, get_succ, get_zero, List.set_cons_succ, List.set_cons_zero, O_mv, O_bin, pairO, O_len, O_atRow, O_load1, load1_ptr, B_add, B_neq, B_lss, List.length_cons, List.length_nil, Nat.reduceAdd, Nat.zero_add, W_some, W_seq, W_block, Q_cont_normal, Q_block_normal, Q_for_normal, hS.len, hk1, decide_true, a1, a3, hm', wrap_nat (k := k) (by omega)]
        exact ⟨K, t, junkA rfl ⟨by rw [hft]; exact o1, o2⟩⟩
      · have hm' : ((([i.a, i.index] : List Int)[k]'(by simp; omega)) != -1) = true := bne_iff_ne.2 hm
        rw [if_neg hm] at hft
        obtain ⟨t', K', u1, u2, u3, _⟩ := o1.push o2 (row := [.int .i64 (([i.a, i.index] : List Int)[k]'(by simp; omega))]) (bytes := 8) rfl (by rw [List.length_map]; unfold roomFor; omega)
        simp only [C_ops, C_cond, D_skip, normal_some, cond_tt, E_nil, E_cons, next_some, ev_tmp, ev_const, get_succ, get_zero, List.set_cons_succ, List.set_cons_zero, O_mv, O_bin, pairO, O_len, O_atRow, O_load1, load1_ptr, O_mkRow, mk_some, partsV_nil, partsV_cons, zeros_zero, zeros_succ, fill_nil, fill_int, Nat.lt_add_one, B_add, B_neq, B_lss, List.length_cons, List.length_nil, Nat.reduceAdd, Nat.zero_add, W_some, W_seq, W_block, Q_cont_normal, Q_block_normal, slc, O_append, List.append_nil, Q_for_normal, hS.len, hk1, decide_true, a1, a3, hm', u1, wrap_nat (k := k) (by omega)]
        exact ⟨K', t', junkA rfl ⟨by rw [hft, List.map_append]; exact u2, u3⟩⟩
    · rintro st ⟨K, t, j, rfl, o1, o2⟩
      have hk1 : ¬ (((2 : Nat) : Int) < ((2 : Nat) : Int)) := by omega
      have hS : IntS K (.slice sa1 sn1 sc1) ([i.a, i.index] : List Int) := oS.sl.pre o2
      rw [show ([i.a, i.index] : List Int).take 2 = ([i.a, i.index] : List Int) from rfl] at o1
      simp only [C_ops, C_cond, D_exit, D_ret, normal_some, cond_ff, E_nil, E_cons, next_some, ev_tmp, get_succ, get_zero, List.set_cons_succ, List.set_cons_zero, O_mv, O_bin, pairO, O_len, B_lss, List.length_cons, List.length_nil, Nat.reduceAdd, Nat.zero_add, W_some, W_seq, Q_cont_normal, Q_cont_exit, Q_block_exit, Q_retE, Q_for_exit, hS.len, hk1, decide_false]
      rw [hraw]
      exact (o1.weak pS.le).finish (pS.trans o2)
    · exact ⟨_, _, junkA rfl ⟨Own.nil _ _ _, Pre.refl _⟩⟩
  · have hop : i.op = 7 := by simpa using h7
    have m8 := op_not _ _ 8 h7 rfl
    have m9 := op_not _ _ 9 h7 rfl
    have hraw : usesV i = ([] : List Int).filter isU := by unfold usesV rawV; simp [hop]
    have kM : memV i = false := by unfold memV readsV writesV; simp only [n4, n5, n6]; rfl
    have oS : Own h (h ++ [.cells (insL i) 0 false]) (.slice none 0 0) 1 (([] : List Int).map intR) := Own.nil _ _ _
    have pS := pI
    simp only [c_belatedref3_Uses, C_ops, C_cond, D_skip, normal_some, cond_ff, E_nil, E_cons, next_some, ev_tmp, ev_const, get_succ, get_zero, List.set_cons_succ, List.set_cons_zero, O_mv, O_bin, pairO, O_call, List.map_cons, List.map_nil, O_load1, load1_ptr, O_load, load_ptr, B_eql, List.cons_append, List.nil_append, List.length_cons, List.length_nil, Nat.reduceSub, Nat.zero_add, W_some, W_seq, W_block, Q_cont_normal, Q_block_normal, O_box, O_off, off_ptr, read1_skip0, read1_there, read_skip0, read_there, fillU_zero, fillU_succ, Nat.add_zero, Option.map_some, eq_self, laid_agg, box_some, insL_len, i0, ref_Memory_c, kM, n2, n3, n5, n6, m9]
    refine for_wp 0 (fun k st => ∃ (K : Heap) (t : Value) (j : Nat → Value), st = ⟨[j 0, j 1, j 2, .slice none 0 0, t, .int .i64 (k : Int), j 6, j 7, j 8, j 9, j 10, j 11, j 12, j 13, j 14, j 15, j 16, j 17, j 18, j 19, j 20, j 21, j 22, j 23, j 24, j 25, j 26, j 27, j 28, j 29, j 30, j 31, j 32, j 33, j 34, j 35, j 36, j 37, j 38, j 39, j 40, j 41, j 42, j 43, j 44, j 45, j 46, j 47, j 48, j 49, j 50, j 51, j 52, j 53, j 54, j 55, j 56, j 57, j 58], K⟩ ∧ Own (h ++ [.cells (insL i) 0 false]) K t 1 (((([] : List Int).take k).filter isU).map intR) ∧ Pre (h ++ [.cells (insL i) 0 false]) K) ?_ ?_ _ ?_
    · intro k st hk; omega
    · rintro st ⟨K, t, j, rfl, o1, o2⟩
      have hk1 : ¬ (((0 : Nat) : Int) < ((0 : Nat) : Int)) := by omega
      have hS : IntS K (.slice none 0 0) ([] : List Int) := oS.sl.pre o2
      rw [show ([] : List Int).take 0 = ([] : List Int) from rfl] at o1
      simp only [C_ops, C_cond, D_exit, D_ret, normal_some, cond_ff, E_nil, E_cons, next_some, ev_tmp, get_succ, get_zero, List.set_cons_succ, List.set_cons_zero, O_mv, O_bin, pairO, O_len, B_lss, List.length_nil, W_some, W_seq, Q_cont_normal, Q_cont_exit, Q_block_exit, Q_retE, Q_for_exit, hS.len, hk1, decide_false]
      rw [hraw]
      exact (o1.weak pS.le).finish (pS.trans o2)
    · exact ⟨_, _, junkA rfl ⟨Own.nil _ _ _, Pre.refl _⟩⟩
  · have hop : i.op = 8 := by simpa using h8
    have m9 := op_not _ _ 9 h8 rfl
    have hraw : usesV i = ([] : List Int).filter isU := by unfold usesV rawV; simp [hop]
    have kM : memV i = false := by unfold memV readsV writesV; simp only [n4, n5, n6]; rfl
    have oS : Own h (h ++ [.cells (insL i) 0 false]) (.slice none 0 0) 1 (([] : List Int).map intR) := Own.nil _ _ _
    have pS := pI
    simp only [c_belatedref3_Uses, C_ops, C_cond, D_skip, normal_some, cond_ff, E_nil, E_cons, next_some, ev_tmp, ev_const, get_succ, get_zero, List.set_cons_succ, List.set_cons_zero, O_mv, O_bin, pairO, O_call, List.map_cons, List.map_nil, O_load1, load1_ptr, O_load, load_ptr, B_eql, List.cons_append, List.nil_append, List.length_cons, List.length_nil, Nat.reduceSub, Nat.zero_add, W_some, W_seq, W_block, Q_cont_normal, Q_block_normal, O_box, O_off, off_ptr, read1_skip0, read1_there, read_skip0, read_there, fillU_zero, fillU_succ, Nat.add_zero, Option.map_some, eq_self, laid_agg, box_some, insL_len, i0, ref_Memory_c, kM, n2, n3, n5, n6, m9]
    refine for_wp 0 (fun k st => ∃ (K : Heap) (t : Value) (j : Nat → Value), st = ⟨[j 0, j 1, j 2, .slice none 0 0, t, .int .i64 (k : Int), j 6, j 7, j 8, j 9, j 10, j 11, j 12, j 13, j 14, j 15, j 16, j 17, j 18, j 19, j 20, j 21, j 22, j 23, j 24, j 25, j 26, j 27, j 28, j 29, j 30, j 31, j 32, j 33, j 34, j 35, j 36, j 37, j 38, j 39, j 40, j 41, j 42, j 43, j 44, j 45, j 46, j 47, j 48, j 49, j 50, j 51, j 52, j 53, j 54, j 55, j 56, j 57, j 58], K⟩ ∧ Own (h ++ [.cells (insL i) 0 false]) K t 1 (((([] : List Int).take k).filter isU).map intR) ∧ Pre (h ++ [.cells (insL i) 0 false]) K) ?_ ?_ _ ?_
    · intro k st hk; omega
    · rintro st ⟨K, t, j, rfl, o1, o2⟩
      have hk1 : ¬ (((0 : Nat) : Int) < ((0 : Nat) : Int)) := by omega
      have hS : IntS K (.slice none 0 0) ([] : List Int) := oS.sl.pre o2
      rw [show ([] : List Int).take 0 = ([] : List Int) from rfl] at o1
      simp only [C_ops, C_cond, D_exit, D_ret, normal_some, cond_ff, E_nil, E_cons, next_some, ev_tmp, get_succ, get_zero, List.set_cons_succ, List.set_cons_zero, O_mv, O_bin, pairO, O_len, B_lss, List.length_nil, W_some, W_seq, Q_cont_normal, Q_cont_exit, Q_block_exit, Q_retE, Q_for_exit, hS.len, hk1, decide_false]
      rw [hraw]
      exact (o1.weak pS.le).finish (pS.trans o2)
    · exact ⟨_, _, junkA rfl ⟨Own.nil _ _ _, Pre.refl _⟩⟩
  · have hop : i.op = 9 := by simpa using h9
    have hraw : usesV i = ([i.a] : List Int).filter isU := by unfold usesV rawV; simp [hop]
    have kM : memV i = false := by unfold memV readsV writesV; simp only [n4, n5, n6]; rfl
    obtain ⟨s0, K0, u0, o0, p0⟩ := Own.appendI (A := []) (Own.nil (h ++ [.cells (insL i) 0 false]) (h ++ [.cells (insL i) 0 false]) 1) (Pre.refl _) [i.a] (by simp)
    obtain ⟨sa0, sn0, sc0, rfl⟩ := o0.shape
    simp only [List.append_assoc, List.cons_append, List.nil_append, List.length_append, List.length_cons, List.length_nil, Nat.zero_add, List.map_cons, List.map_nil] at u0
    have oS : Own h K0 (.slice sa0 sn0 sc0) 1 (([i.a] : List Int).map intR) := o0.weak pI.le
    have pS := pI.trans p0
    have rd0 := fun j => rd_pre (j := j) p0
    have rr0 := rr_pre (n := 17) p0 (insL_len i)
    simp only [c_belatedref3_Uses, C_ops, C_cond, D_skip, normal_some, cond_tt, cond_ff, E_nil, E_cons, next_some, ev_tmp, ev_const, get_succ, get_zero, List.set_cons_succ, List.set_cons_zero, O_mv, O_bin, pairO, O_call, List.map_cons, List.map_nil, O_load1, load1_ptr, O_load, load_ptr, O_mkRow, mk_some, partsV_nil, partsV_cons, zeros_zero, zeros_succ, fill_nil, fill_int, Nat.lt_add_one, B_eql, List.cons_append, List.nil_append, List.length_cons, List.length_nil, Nat.reduceSub, Nat.zero_add, W_some, W_seq, W_block, Q_cont_normal, Q_block_normal, slc, O_append, O_box, O_off, off_ptr, read1_skip0, read1_there, fillU_zero, fillU_succ, List.append_assoc, List.length_append, List.append_nil, Nat.add_zero, Option.map_some, eq_self, laid_agg, box_some, insL_len, i0, i2, ref_Memory_c, kM, u0, rr0, n2, h9]
    refine for_wp 1 (fun k st => ∃ (K : Heap) (t : Value) (j : Nat → Value), st = ⟨[j 0, j 1, j 2, .slice sa0 sn0 sc0, t, .int .i64 (k : Int), j 6, j 7, j 8, j 9, j 10, j 11, j 12, j 13, j 14, j 15, j 16, j 17, j 18, j 19, j 20, j 21, j 22, j 23, j 24, j 25, j 26, j 27, j 28, j 29, j 30, j 31, j 32, j 33, j 34, j 35, j 36, j 37, j 38, j 39, j 40, j 41, j 42, j 43, j 44, j 45, j 46, j 47, j 48, j 49, j 50, j 51, j 52, j 53, j 54, j 55, j 56, j 57, j 58], K⟩ ∧ Own K0 K t 1 (((([i.a] : List Int).take k).filter isU).map intR) ∧ Pre K0 K) ?_ ?_ _ ?_
    · rintro k st hk ⟨K, t, j, rfl, o1, o2⟩
      have hk1 : (k : Int) < ((1 : Nat) : Int) := by omega
      have hS : IntS K (.slice sa0 sn0 sc0) ([i.a] : List Int) := oS.sl.pre o2
      obtain ⟨b, o, w, a1, _, a3⟩ := hS.at (k := k) (by simp; omega)
      have hft := filter_take (l := ([i.a] : List Int)) (k := k) (by simp; omega)
      have hlen : ((([i.a] : List Int).take k).filter isU).length ≤ 2 := Nat.le_trans (List.length_filter_le _ _) (by simp; omega)
      by_cases hm : (([i.a] : List Int)[k]'(by simp; omega)) = -1
      · have hm' : ((([i.a] : List Int)[k]'(by simp; omega)) != -1) = false := by rw [hm]; rfl
        rw [if_pos hm] at hft
        simp only [C_ops, C_cond, D_skip, normal_some, cond_tt, cond_ff, E_nil, E_cons, next_some, ev_tmp, ev_const, get_succ, get_zero, List.set_cons_succ, List.set_cons_zero, O_mv, O_bin, pairO, O_len, O_atRow, O_load1, load1_ptr, B_add, B_neq, B_lss, List.length_cons, List.length_nil, Nat.zero_add, W_some, W_seq, W_block, Q_cont_normal, Q_block_normal, Q_for_normal, hS.len, hk1, decide_true, a1, a3, hm', wrap_nat (k := k) (by omega)]
        exact ⟨K, t, junkA rfl ⟨by rw [hft]; exact o1, o2⟩⟩
      · have hm' : ((([i.a] : List Int)[k]'(by simp; omega)) != -1) = true := bne_iff_ne.2 hm
        rw [if_neg hm] at hft
        obtain ⟨t', K', u1, u2, u3, _⟩ := o1.push o2 (row := [.int .i64 (([i.a] : List Int)[k]'(by simp; omega))]) (bytes := 8) rfl (by rw [List.length_map]; unfold roomFor; omega)
        simp only [C_ops, C_cond, D_skip, normal_some, cond_tt, E_nil, E_cons, next_some, ev_tmp, ev_const, get_succ, get_zero, List.set_cons_succ, List.set_cons_zero, O_mv, O_bin, pairO, O_len, O_atRow, O_load1, load1_ptr, O_mkRow, mk_some, partsV_nil, partsV_cons, zeros_zero, zeros_succ, fill_nil, fill_int, Nat.lt_add_one, B_add, B_neq, B_lss, List.length_cons, List.length_nil, Nat.zero_add, W_some, W_seq, W_block, Q_cont_normal, Q_block_normal, slc, O_append, List.append_nil, Q_for_normal, hS.len, hk1, decide_true, a1, a3, hm', u1, wrap_nat (k := k) (by omega)]
        exact ⟨K', t', junkA rfl ⟨by rw [hft, List.map_append]; exact u2, u3⟩⟩
    · rintro st ⟨K, t, j, rfl, o1, o2⟩
      have hk1 : ¬ (((1 : Nat) : Int) < ((1 : Nat) : Int)) := by omega
      have hS : IntS K (.slice sa0 sn0 sc0) ([i.a] : List Int) := oS.sl.pre o2
      rw [show ([i.a] : List Int).take 1 = ([i.a] : List Int) from rfl] at o1
      simp only [C_ops, C_cond, D_exit, D_ret, normal_some, cond_ff, E_nil, E_cons, next_some, ev_tmp, get_succ, get_zero, List.set_cons_succ, List.set_cons_zero, O_mv, O_bin, pairO, O_len, B_lss, List.length_cons, List.length_nil, Nat.zero_add, W_some, W_seq, Q_cont_normal, Q_cont_exit, Q_block_exit, Q_retE, Q_for_exit, hS.len, hk1, decide_false]
      rw [hraw]
      exact (o1.weak pS.le).finish (pS.trans o2)
    · exact ⟨_, _, junkA rfl ⟨Own.nil _ _ _, Pre.refl _⟩⟩
  · have hraw : usesV i = ([] : List Int).filter isU := by
      unfold usesV rawV
      have e2 : ¬ i.op = 2 := by simpa using n2
      have e3 : ¬ i.op = 3 := by simpa using n3
      have e4 : ¬ i.op = 4 := by simpa using n4
      have e5 : ¬ i.op = 5 := by simpa using n5
      have e6 : ¬ i.op = 6 := by simpa using n6
      have e9 : ¬ i.op = 9 := by simpa using n9
      simp [e2, e3, e4, e5, e6, e9]
    have kM : memV i = false := by unfold memV readsV writesV; simp only [n4, n5, n6]; rfl
    have oS : Own h (h ++ [.cells (insL i) 0 false]) (.slice none 0 0) 1 (([] : List Int).map intR) := Own.nil _ _ _
    have pS := pI
    simp only [c_belatedref3_Uses, C_ops, C_cond, D_skip, normal_some, cond_ff, E_nil, E_cons, next_some, ev_tmp, ev_const, get_succ, get_zero, List.set_cons_succ, List.set_cons_zero, O_mv, O_bin, pairO, O_call, List.map_cons, List.map_nil, O_load1, load1_ptr, O_load, load_ptr, B_eql, List.cons_append, List.nil_append, List.length_cons, List.length_nil, Nat.reduceSub, Nat.zero_add, W_some, W_seq, W_block, Q_cont_normal, Q_block_normal, O_box, O_off, off_ptr, read1_skip0, read1_there, read_skip0, read_there, fillU_zero, fillU_succ, Nat.add_zero, Option.map_some, eq_self, laid_agg, box_some, insL_len, i0, ref_Memory_c, kM, n2, n3, n5, n6, n9]
    refine for_wp 0 (fun k st => ∃ (K : Heap) (t : Value) (j : Nat → Value), st = ⟨[j 0, j 1, j 2, .slice none 0 0, t, .int .i64 (k : Int), j 6, j 7, j 8, j 9, j 10, j 11, j 12, j 13, j 14, j 15, j 16, j 17, j 18, j 19, j 20, j 21, j 22, j 23, j 24, j 25, j 26, j 27, j 28, j 29, j 30, j 31, j 32, j 33, j 34, j 35, j 36, j 37, j 38, j 39, j 40, j 41, j 42, j 43, j 44, j 45, j 46, j 47, j 48, j 49, j 50, j 51, j 52, j 53, j 54, j 55, j 56, j 57, j 58], K⟩ ∧ Own (h ++ [.cells (insL i) 0 false]) K t 1 (((([] : List Int).take k).filter isU).map intR) ∧ Pre (h ++ [.cells (insL i) 0 false]) K) ?_ ?_ _ ?_
    · intro k st hk; omega
    · rintro st ⟨K, t, j, rfl, o1, o2⟩
      have hk1 : ¬ (((0 : Nat) : Int) < ((0 : Nat) : Int)) := by omega
      have hS : IntS K (.slice none 0 0) ([] : List Int) := oS.sl.pre o2
      rw [show ([] : List Int).take 0 = ([] : List Int) from rfl] at o1
      simp only [C_ops, C_cond, D_exit, D_ret, normal_some, cond_ff, E_nil, E_cons, next_some, ev_tmp, get_succ, get_zero, List.set_cons_succ, List.set_cons_zero, O_mv, O_bin, pairO, O_len, B_lss, List.length_nil, W_some, W_seq, Q_cont_normal, Q_cont_exit, Q_block_exit, Q_retE, Q_for_exit, hS.len, hk1, decide_false]
      rw [hraw]
      exact (o1.weak pS.le).finish (pS.trans o2)
    · exact ⟨_, _, junkA rfl ⟨Own.nil _ _ _, Pre.refl _⟩⟩
end Go.Proofs.Ytjodnadlplicmaa.AM
