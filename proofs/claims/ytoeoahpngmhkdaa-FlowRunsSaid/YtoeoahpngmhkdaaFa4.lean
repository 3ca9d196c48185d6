/-
  The flow along a path: a register's value.
  Conditions: paths no longer than 8.
-/
import Derived.Test.YtoeoahpngmhkdaaFa3
namespace Go.Proofs.Ytoeoahpngmhkdaa.AM
open Go.RowKit
set_option linter.unusedSimpArgs false
set_option linter.unusedVariables false

theorem insL_9 (i : Ins) : (insL i)[9]? = some (.int .i64 i.fn) := rfl
theorem kn0 (x : Int) : (Go.bits .and .i64 x 1 == 0) = !(bi x 0) := by rw [and_one]; cases bi x 0 <;> rfl
theorem kn1 (x : Int) : (Go.bits .and .i64 x 1 == 1) = bi x 0 := by rw [and_one]; cases bi x 0 <;> rfl
def regsL (R : List Int) : List Value := R.map fun n => .int .i64 n
theorem regsL_len (R : List Int) : (regsL R).length = R.length := by simp [regsL]
theorem regsL_get {R : List Int} {k : Nat} (hk : k < R.length) : (regsL R)[k]? = some (.int .i64 (R.getD k 0)) := by
  unfold regsL; rw [List.getElem?_map, List.getElem?_eq_getElem hk, List.getD_eq_getElem?_getD, List.getElem?_eq_getElem hk]; rfl
theorem defV_gives (ps : List Ins) (r : Int) : ∀ (k d : Nat) (hd : d < ps.length), defV ps r k = (d : Int) → givesV ps[d] = r
  | 0, d, hd, h => by simp only [defV] at h; omega
  | k + 1, d, hd, h => by
    by_cases hk : k < ps.length
    · rw [defV_succ r hk] at h
      split at h
      · have : k = d := by omega
        subst this; assumption
      · exact defV_gives ps r k d hd h
    · have hn : defV ps r (k + 1) = defV ps r k := by
        show (match ps[k]? with
          | some i => if givesV i = r then (k : Int) else defV ps r k
          | none => defV ps r k) = _
        rw [List.getElem?_eq_none (by omega)]
      rw [hn] at h
      exact defV_gives ps r k d hd h
theorem defP_gives {ps : List Ins} {place r : Int} {d : Nat} (hd : d < ps.length) (h : defP ps place r = (d : Int)) : givesV ps[d] = r := by
  unfold defP at h
  split at h
  · omega
  · exact defV_gives ps r _ d hd h
theorem gives_cases {i : Ins} (h : givesV i ≠ -1) : (readsV i = false ∧ (i.op == 1) = true) ∨ (readsV i = false ∧ (i.op == 1) = false ∧ (i.op == 2) = true) ∨ (readsV i = false ∧ (i.op == 1) = false ∧ (i.op == 2) = false ∧ (i.op == 3) = true) ∨ (readsV i = true ∧ (i.op == 1) = false ∧ (i.op == 2) = false ∧ (i.op == 3) = false) := by
  unfold givesV at h
  unfold readsV
  by_cases h1 : i.op = 1
  · simp [h1]
  by_cases h2 : i.op = 2
  · simp [h2]
  by_cases h3 : i.op = 3
  · simp [h3]
  by_cases h4 : i.op = 4
  · simp [h4]
  by_cases h6 : i.op = 6
  · simp [h6]
  · simp [h1, h2, h3, h4, h6] at h
/-- A register's value before a place. -/
def valueF (ps : List Ins) (R vals : List Int) (kn : Int) : Nat → Int → Int → Int × Bool
  | 0, _, _ => (0, false)
  | f + 1, place, r => if r = -1 then (0, true) else if r < 0 ∨ 8 ≤ r then (0, false) else
    if defP ps place r < 0 then (R.getD r.toNat 0, true) else
    match ps[(defP ps place r).toNat]? with
    | none => (0, false)
    | some i =>
      if readsV i then (if decide ((defP ps place r).toNat < vals.length) && bi (shr .i64 kn (defP ps place r)) 0 then (vals.getD (defP ps place r).toNat 0, true) else (0, false))
      else if i.op == 1 then (i.imm, true)
      else if i.op == 2 then valueF ps R vals kn f (defP ps place r) i.a
      else
        if (valueF ps R vals kn f (defP ps place r) i.a).2 && (if i.b == -1 then (i.imm, true) else valueF ps R vals kn f (defP ps place r) i.b).2 then
          (aluV i.fn (valueF ps R vals kn f (defP ps place r) i.a).1 (if i.b == -1 then (i.imm, true) else valueF ps R vals kn f (defP ps place r) i.b).1, true) else (0, false)
section
variable {ps : List Ins} {R vals : List Int} {kn : Int} {f : Nat} {place r : Int}
theorem valueF_m1 : valueF ps R vals kn (f + 1) place (-1) = (0, true) := by rw [valueF, if_pos rfl]
theorem valueF_bad (h1 : r ≠ -1) (h : r < 0 ∨ 8 ≤ r) : valueF ps R vals kn (f + 1) place r = (0, false) := by rw [valueF, if_neg h1, if_pos h]
theorem valueF_reg {n : Nat} (hn : n < 8) (h : defP ps place (n : Int) = -1) : valueF ps R vals kn (f + 1) place (n : Int) = (R.getD n 0, true) := by
  rw [valueF, if_neg (by omega), if_neg (by omega), if_pos (by omega), Int.toNat_natCast]
theorem valueF_at {n d : Nat} (hn : n < 8) (hd : d < ps.length) (h : defP ps place (n : Int) = (d : Int)) : valueF ps R vals kn (f + 1) place (n : Int) =
      if readsV ps[d] then (if decide (d < vals.length) && bi (shr .i64 kn (d : Int)) 0 then (vals.getD d 0, true) else (0, false))
      else if ps[d].op == 1 then (ps[d].imm, true)
      else if ps[d].op == 2 then valueF ps R vals kn f (d : Int) ps[d].a
      else
        if (valueF ps R vals kn f (d : Int) ps[d].a).2 && (if ps[d].b == -1 then (ps[d].imm, true) else valueF ps R vals kn f (d : Int) ps[d].b).2 then
          (aluV ps[d].fn (valueF ps R vals kn f (d : Int) ps[d].a).1 (if ps[d].b == -1 then (ps[d].imm, true) else valueF ps R vals kn f (d : Int) ps[d].b).1, true) else (0, false) := by
  rw [valueF, if_neg (by omega), if_neg (by omega), if_neg (by omega)]
  simp only [h, Int.toNat_natCast]
  rw [List.getElem?_eq_getElem hd]
theorem okz (b : Bool) (x : Int) : (if b = true then (x, true) else ((0 : Int), false)).2 = false → (if b = true then (x, true) else ((0 : Int), false)).1 = 0 := by cases b <;> simp
theorem valueF_zero : ∀ (f : Nat) (place r : Int), (valueF ps R vals kn f place r).2 = false → (valueF ps R vals kn f place r).1 = 0
  | 0, _, _, _ => rfl
  | f + 1, place, r, h => by
    by_cases h1 : r = -1
    · subst h1; rw [valueF_m1]
    · by_cases h2 : r < 0 ∨ 8 ≤ r
      · rw [valueF_bad h1 h2]
      · obtain ⟨n, rfl⟩ : ∃ n : Nat, r = (n : Int) := ⟨r.toNat, by omega⟩
        rcases defP_cases ps place (n : Int) with hd | ⟨d, hd, hd1, hd2⟩
        · rw [valueF_reg (by omega) hd] at h; simp at h
        · rw [valueF_at (by omega) hd1 hd] at h ⊢
          revert h
          split
          · split <;> simp
          · split
            · simp
            · split
              · exact valueF_zero f _ _
              · exact okz _ _
end
section
variable {c p : Value} {code : List Ins} {path : List Int} {ps : List Ins} {R vals : List Int} {kn : Int}
def tupV (x : Int × Bool) : Value := tup [.int .i64 x.1, .bool x.2]
set_option maxHeartbeats 2000000 in
theorem flow_Value_c (h8 : ps.length ≤ 8) (hR : R.length = 8) (hv : vals.length < 4611686018427387904) : ∀ (f : Nat) (place : Int), cap ps place < f → ∀ (r : Int) (s : Value) (h : Heap), On h c p code path ps → IntS h s vals →
    DF FF n_flow_Value [c, p, agg (regsL R), .int .i64 place, .int .i64 r, s, .int .i64 kn] h = some (tupV (valueF ps R vals kn f place r), h)
  | 0, place, hf => by omega
  | f + 1, place, hf => by
    intro r s h e hs
    have ih := flow_Value_c h8 hR hv f
    refine fun_wpU F_flow_Value ?_
    by_cases h1 : r = -1
    · subst h1
      rw [valueF_m1]
      simp only [c_flow_Value, C_ops, C_cond, D_ret, normal_some, cond_tt, E_nil, E_cons, next_some, ev_tmp, ev_const, get_succ, get_zero, List.set_cons_succ, List.set_cons_zero, O_mv, O_bin, pairO, B_eql, List.cons_append, List.nil_append, List.length_cons, List.length_nil, Nat.reduceAdd, Nat.reduceSub, Nat.zero_add, W_some, W_seq, W_block, Q_cont_normal, Q_cont_ret, Q_block_ret, O_box, fillU_zero, fillU_succ, List.append_assoc, Q_ret2Q, fin_ib, beq_self_eq_true, eq_self, laid_agg, box_some, regsL_len, hR, tupV]
    · have b1 : (r == -1) = false := by simp [h1]
      by_cases h0 : r < 0
      · rw [valueF_bad h1 (.inl h0)]
        simp only [c_flow_Value, C_ops, C_cond, D_ret, normal_some, cond_tt, cond_ff, E_nil, E_cons, E_guard, next_some, guard_ft, ev_tmp, ev_const, get_succ, get_zero, List.set_cons_succ, List.set_cons_zero, O_mv, O_pick, pickO, O_bin, pairO, B_eql, B_lss, List.cons_append, List.nil_append, List.length_cons, List.length_nil, Nat.reduceAdd, Nat.reduceSub, Nat.zero_add, W_some, W_seq, W_block, Q_cont_normal, Q_cont_ret, Q_block_ret, O_box, fillU_zero, fillU_succ, List.append_assoc, Q_ret2Q, fin_ib, eq_self, laid_agg, box_some, regsL_len, hR, b1, h0, decide_true, tupV]
      · by_cases h7 : 8 ≤ r
        · rw [valueF_bad h1 (.inr h7)]
          simp only [c_flow_Value, C_ops, C_cond, D_ret, normal_some, cond_tt, cond_ff, E_nil, E_cons, E_guard, next_some, guard_ff, ev_tmp, ev_const, get_succ, get_zero, List.set_cons_succ, List.set_cons_zero, O_mv, O_pick, pickO, O_bin, pairO, B_eql, B_lss, B_geq, List.cons_append, List.nil_append, List.length_cons, List.length_nil, Nat.reduceAdd, Nat.reduceSub, Nat.zero_add, W_some, W_seq, W_block, Q_cont_normal, Q_cont_ret, Q_block_ret, O_box, fillU_zero, fillU_succ, List.append_assoc, Q_ret2Q, fin_ib, eq_self, laid_agg, box_some, regsL_len, hR, b1, h0, h7, decide_true, decide_false, tupV]
        · obtain ⟨n, rfl⟩ : ∃ n : Nat, r = (n : Int) := ⟨r.toNat, by omega⟩
          have hn : n < 8 := by omega
          have hne := e.more [.cells (regsL R) 0 false]
          rcases defP_cases ps place (n : Int) with hd | ⟨d, hd, hd1, hd2⟩
          · rw [valueF_reg hn hd]
            have c0 : ((-1 : Int) < 0) := by omega
            simp only [c_flow_Value, C_ops, C_cond, D_ret, D_skip, normal_some, cond_tt, cond_ff, E_nil, E_cons, E_guard, next_some, guard_ff, ev_tmp, ev_const, get_succ, get_zero, List.set_cons_succ, List.set_cons_zero, O_mv, O_pick, pickO, O_bin, pairO, O_call, List.map_cons, List.map_nil, O_load1, load1_ptr, B_eql, B_lss, B_geq, List.cons_append, List.nil_append, List.length_cons, List.length_nil, Nat.reduceAdd, Nat.reduceSub, Nat.zero_add, W_some, W_seq, W_block, Q_cont_normal, Q_cont_ret, Q_block_normal, O_box, O_atArr, read1_skip0, read1_there, fillU_zero, fillU_succ, List.append_assoc, Nat.mul_one, Q_ret2Q, fin_ib, eq_self, arr_nat, laid_agg, box_some, regsL_len, hR, b1, h0, h7, decide_true, decide_false, flow_Def_c hne, hd, c0, hn, regsL_get (R := R) (k := n) (by omega), tupV]
          · rw [valueF_at hn hd1 hd]
            have c0 : ¬ ((d : Int) < 0) := by omega
            have c63 : ¬ ((63 : Int) ≤ (d : Int)) := by omega
            have hcap := cap_lt hd hd1 hd2
            have hcall : ∀ (r : Int) (L : Heap), DF FF n_flow_Value [c, p, agg (regsL R), .int .i64 (d : Int), .int .i64 r, s, .int .i64 kn] (h ++ L) = some (tup [.int .i64 (valueF ps R vals kn f (d : Int) r).1, .bool (valueF ps R vals kn f (d : Int) r).2], h ++ L) := fun r L => ih (d : Int) (by omega) r s _ (e.more L) (hs.more L)
            rcases gives_cases (i := ps[d]) (by rw [defP_gives hd1 hd]; omega) with ⟨hr, n1⟩ | ⟨hr, n1, n2⟩ | ⟨hr, n1, n2, n3⟩ | ⟨hr, n1, n2, n3⟩
            · rw [hr, n1, if_neg (by simp), if_pos rfl]
              simp only [c_flow_Value, C_ops, C_cond, D_ret, D_skip, normal_some, cond_tt, cond_ff, E_nil, E_cons, E_guard, next_some, next_none, guard_ff, ev_tmp, ev_const, get_succ, get_zero, List.set_cons_succ, List.set_cons_zero, O_mv, O_pick, pickO, O_bin, pairO, O_call, List.map_cons, List.map_nil, O_load1, load1_ptr, O_load, load_ptr, B_eql, B_lss, B_geq, List.cons_append, List.nil_append, List.length_cons, List.length_nil, Nat.reduceAdd, Nat.reduceSub, Nat.zero_add, W_some, W_seq, W_block, Q_cont_normal, Q_cont_ret, Q_block_normal, Q_block_ret, O_alloc, O_box, O_off, off_ptr, O_extract, extract_tup, wrote_some, O_store, store_agg, read1_skip, read1_next, read1_there, read_skip, read_next, read_there, pre_some, cons_some, write_skip, write_next, write_there, fillU_zero, fillU_succ, List.append_assoc, List.length_append, Nat.add_zero, Option.map_some, List.getElem?_cons_zero, List.getElem?_cons_succ, Q_ret2Q, fin_ib, eq_self, laid_agg, box_some, regsL_len, hR, b1, h0, h7, decide_false, flow_Def_c hne, hd, c0, flow_ins_in hne hd1, insL_len, List.replicate_succ, List.replicate_zero, uir_Reads_c, hr, insL_0, insL_4, n1, tupV]
            · rw [hr, n1, n2, if_neg (by simp), if_neg (by simp), if_pos rfl]
              simp only [c_flow_Value, C_ops, C_cond, D_ret, D_skip, normal_some, cond_tt, cond_ff, E_nil, E_cons, E_guard, next_some, next_none, guard_ff, guard_ft, ev_tmp, ev_const, get_succ, get_zero, List.set_cons_succ, List.set_cons_zero, O_mv, O_pick, pickO, O_bin, pairO, O_call, List.map_cons, List.map_nil, O_load1, load1_ptr, O_load, load_ptr, B_eql, B_lss, B_geq, List.cons_append, List.nil_append, List.length_cons, List.length_nil, Nat.reduceAdd, Nat.reduceSub, Nat.zero_add, W_some, W_seq, W_block, Q_cont_normal, Q_cont_ret, Q_block_normal, O_alloc, O_box, O_off, off_ptr, O_extract, extract_tup, wrote_some, O_store, store_agg, read1_skip, read1_next, read1_there, read_skip, read_skip0, read_next, read_there, pre_some, cons_some, write_skip, write_next, write_there, fillU_zero, fillU_succ, List.append_assoc, List.length_append, Nat.add_zero, Option.map_some, List.getElem?_cons_zero, List.getElem?_cons_succ, Q_ret2Q, fin_ib, eq_self, laid_agg, box_some, regsL_len, hR, b1, h0, h7, decide_false, flow_Def_c hne, hd, c0, flow_ins_in hne hd1, insL_len, List.replicate_succ, List.replicate_zero, uir_Reads_c, hr, insL_0, insL_2, n1, n2, hcall, tupV]
            · rw [hr, n1, n2, if_neg (by simp), if_neg (by simp), if_neg (by simp)]
              have hz := valueF_zero (ps := ps) (R := R) (vals := vals) (kn := kn) f (d : Int) ps[d].a
              cases hx : (valueF ps R vals kn f (d : Int) ps[d].a).2
              · rw [Bool.false_and, if_neg (by simp)]
                simp only [c_flow_Value, C_ops, C_cond, D_ret, D_skip, normal_some, cond_tt, cond_ff, E_nil, E_cons, E_guard, next_some, next_none, guard_ff, ev_tmp, ev_const, get_succ, get_zero, List.set_cons_succ, List.set_cons_zero, O_mv, O_pick, pickO, O_bin, pairO, O_un, O_call, List.map_cons, List.map_nil, O_load1, load1_ptr, O_load, load_ptr, B_eql, B_lss, B_geq, U_not, List.cons_append, List.nil_append, List.length_cons, List.length_nil, Nat.reduceAdd, Nat.reduceSub, Nat.zero_add, Bool.not_false, W_some, W_seq, W_block, Q_cont_normal, Q_cont_ret, Q_block_normal, O_alloc, O_box, O_off, off_ptr, O_extract, extract_tup, wrote_some, O_store, store_agg, read1_skip, read1_next, read1_there, read_skip, read_skip0, read_next, read_there, pre_some, cons_some, write_skip, write_next, write_there, fillU_zero, fillU_succ, List.append_assoc, List.length_append, Nat.add_zero, Option.map_some, List.getElem?_cons_zero, List.getElem?_cons_succ, Q_ret2Q, fin_ib, eq_self, laid_agg, box_some, regsL_len, hR, b1, h0, h7, decide_false, flow_Def_c hne, hd, c0, flow_ins_in hne hd1, insL_len, List.replicate_succ, List.replicate_zero, uir_Reads_c, hr, insL_0, insL_2, n1, n2, hcall, hx, hz hx, tupV]
              · cases hb : (ps[d].b == -1)
                · have hb' : (ps[d].b != -1) = true := by rw [bne, hb]; rfl
                  rw [if_neg (c := false = true) (by simp), Bool.true_and]
                  cases hy : (valueF ps R vals kn f (d : Int) ps[d].b).2
                  · rw [if_neg (by simp)]
                    simp only [c_flow_Value, C_ops, C_cond, D_ret, D_skip, normal_some, cond_tt, cond_ff, E_nil, E_cons, E_guard, next_some, next_none, guard_ff, ev_tmp, ev_const, get_succ, get_zero, List.set_cons_succ, List.set_cons_zero, O_mv, O_pick, pickO, O_bin, pairO, O_un, O_call, List.map_cons, List.map_nil, O_load1, load1_ptr, O_load, load_ptr, B_eql, B_neq, B_lss, B_geq, U_not, List.cons_append, List.nil_append, List.length_cons, List.length_nil, Nat.reduceAdd, Nat.reduceSub, Nat.zero_add, Bool.not_true, Bool.not_false, W_some, W_seq, W_block, Q_cont_normal, Q_cont_ret, Q_block_normal, O_alloc, O_box, O_off, off_ptr, O_extract, extract_tup, wrote_some, O_store, store_agg, read1_skip, read1_next, read1_there, read_skip, read_skip0, read_next, read_there, pre_some, cons_some, write_skip, write_next, write_there, fillU_zero, fillU_succ, List.append_assoc, List.length_append, Nat.add_zero, Option.map_some, List.getElem?_cons_zero, List.getElem?_cons_succ, Q_ret2Q, fin_ib, eq_self, laid_agg, box_some, regsL_len, hR, b1, h0, h7, decide_false, flow_Def_c hne, hd, c0, flow_ins_in hne hd1, insL_len, List.replicate_succ, List.replicate_zero, uir_Reads_c, hr, insL_0, insL_2, insL_3, insL_4, n1, n2, hcall, hx, hb', hy, tupV]
                  · rw [if_pos rfl]
                    simp only [c_flow_Value, C_ops, C_cond, D_ret, D_skip, normal_some, cond_tt, cond_ff, E_nil, E_cons, E_guard, next_some, next_none, guard_ff, ev_tmp, ev_const, get_succ, get_zero, List.set_cons_succ, List.set_cons_zero, O_mv, O_pick, pickO, O_bin, pairO, O_un, O_call, List.map_cons, List.map_nil, O_load1, load1_ptr, O_load, load_ptr, B_eql, B_neq, B_lss, B_geq, U_not, List.cons_append, List.nil_append, List.length_cons, List.length_nil, Nat.reduceAdd, Nat.reduceSub, Nat.zero_add, Bool.not_true, W_some, W_seq, W_block, Q_cont_normal, Q_block_normal, O_alloc, O_box, O_off, off_ptr, O_extract, extract_tup, wrote_some, O_store, store_agg, read1_skip, read1_next, read1_there, read_skip, read_skip0, read_next, read_there, pre_some, cons_some, write_skip, write_next, write_there, fillU_zero, fillU_succ, List.append_assoc, List.length_append, Nat.add_zero, Option.map_some, List.getElem?_cons_zero, List.getElem?_cons_succ, Q_ret2Q, fin_ib, eq_self, laid_agg, box_some, regsL_len, hR, b1, h0, h7, decide_false, flow_Def_c hne, hd, c0, flow_ins_in hne hd1, insL_len, List.replicate_succ, List.replicate_zero, uir_Reads_c, hr, insL_0, insL_2, insL_3, insL_4, insL_9, n1, n2, hcall, hx, hb', hy, alu18, tupV]
                · have hb' : (ps[d].b != -1) = false := by rw [bne, hb]; rfl
                  rw [if_pos rfl, Bool.true_and, if_pos rfl]
                  simp only [c_flow_Value, C_ops, C_cond, D_ret, D_skip, normal_some, cond_ff, E_nil, E_cons, E_guard, next_some, next_none, guard_ff, ev_tmp, ev_const, get_succ, get_zero, List.set_cons_succ, List.set_cons_zero, O_mv, O_pick, pickO, O_bin, pairO, O_un, O_call, List.map_cons, List.map_nil, O_load1, load1_ptr, O_load, load_ptr, B_eql, B_neq, B_lss, B_geq, U_not, List.cons_append, List.nil_append, List.length_cons, List.length_nil, Nat.reduceAdd, Nat.reduceSub, Nat.zero_add, Bool.not_true, W_some, W_seq, W_block, Q_cont_normal, Q_block_normal, O_alloc, O_box, O_off, off_ptr, O_extract, extract_tup, wrote_some, O_store, store_agg, read1_skip, read1_next, read1_there, read_skip, read_skip0, read_next, read_there, pre_some, cons_some, write_skip, write_next, write_there, fillU_zero, fillU_succ, List.append_assoc, List.length_append, Nat.add_zero, Option.map_some, List.getElem?_cons_zero, List.getElem?_cons_succ, Q_ret2Q, fin_ib, eq_self, laid_agg, box_some, regsL_len, hR, b1, h0, h7, decide_false, flow_Def_c hne, hd, c0, flow_ins_in hne hd1, insL_len, List.replicate_succ, List.replicate_zero, uir_Reads_c, hr, insL_0, insL_2, insL_3, insL_4, insL_9, n1, n2, hcall, hx, hb', alu18, tupV]
            · rw [hr, if_pos rfl]
              by_cases hk : bi (shr .i64 kn (d : Int)) 0 = true
              · by_cases hl : d < vals.length
                · have hl' : ¬ ((vals.length : Int) ≤ (d : Int)) := by omega
                  obtain ⟨b, o, v, a1, a2, _⟩ := hs.at hl
                  have hg : vals.getD d 0 = vals[d] := by rw [List.getD_eq_getElem?_getD, List.getElem?_eq_getElem hl]; rfl
                  simp only [hk, hl, decide_true, Bool.and_self, if_true, hg]
                  simp only [c_flow_Value, C_ops, C_cond, D_ret, D_skip, normal_some, cond_tt, cond_ff, E_nil, E_cons, E_guard, next_some, next_none, guard_ff, ev_tmp, ev_const, get_succ, get_zero, List.set_cons_succ, List.set_cons_zero, O_mv, O_pick, pickO, O_bin, pairO, O_call, List.map_cons, List.map_nil, O_len, O_atRow, O_load1, load1_ptr, O_load, load_ptr, B_band, B_eql, B_lss, B_geq, B_shr', List.cons_append, List.nil_append, List.length_cons, List.length_nil, Nat.reduceAdd, Nat.reduceSub, Nat.zero_add, Bool.not_true, W_some, W_seq, W_block, Q_cont_normal, Q_cont_ret, Q_block_normal, Q_block_ret, O_alloc, O_box, O_extract, extract_tup, wrote_some, O_store, store_agg, read_skip, read_next, read_there, pre_some, cons_some, write_skip, write_next, write_there, fillU_zero, fillU_succ, List.append_assoc, List.length_append, Option.map_some, List.getElem?_cons_zero, List.getElem?_cons_succ, Q_ret2Q, fin_ib, eq_self, laid_agg, box_some, regsL_len, hR, b1, h0, h7, decide_false, flow_Def_c hne, hd, c0, c63, flow_ins_in hne hd1, insL_len, List.replicate_succ, List.replicate_zero, uir_Reads_c, hr, kn0, hk, hs.len, hl', a1, a2, Int.natCast_nonneg, tupV]
                · have hl' : ((vals.length : Int) ≤ (d : Int)) := by omega
                  simp only [hl, decide_false, Bool.false_and, Bool.false_eq_true, if_false]
                  simp only [c_flow_Value, C_ops, C_cond, D_ret, D_skip, normal_some, cond_tt, cond_ff, E_nil, E_cons, E_guard, next_some, next_none, guard_ff, ev_tmp, ev_const, get_succ, get_zero, List.set_cons_succ, List.set_cons_zero, O_mv, O_pick, pickO, O_bin, pairO, O_call, List.map_cons, List.map_nil, O_len, O_load, load_ptr, B_band, B_eql, B_lss, B_geq, B_shr', List.cons_append, List.nil_append, List.length_cons, List.length_nil, Nat.reduceAdd, Nat.reduceSub, Nat.zero_add, Bool.not_true, W_some, W_seq, W_block, Q_cont_normal, Q_cont_ret, Q_block_normal, Q_block_ret, O_alloc, O_box, O_extract, extract_tup, wrote_some, O_store, store_agg, read_skip, read_next, read_there, pre_some, cons_some, write_skip, write_next, write_there, fillU_zero, fillU_succ, List.append_assoc, List.length_append, Option.map_some, List.getElem?_cons_zero, List.getElem?_cons_succ, Q_ret2Q, fin_ib, eq_self, laid_agg, box_some, regsL_len, hR, b1, h0, h7, decide_true, decide_false, flow_Def_c hne, hd, c0, c63, flow_ins_in hne hd1, insL_len, List.replicate_succ, List.replicate_zero, uir_Reads_c, hr, kn0, hk, hs.len, hl', Int.natCast_nonneg, tupV]
              · have hk' : bi (shr .i64 kn (d : Int)) 0 = false := by simpa using hk
                simp only [hk', Bool.and_false, Bool.false_eq_true, if_false]
                simp only [c_flow_Value, C_ops, C_cond, D_ret, D_skip, normal_some, cond_tt, cond_ff, E_nil, E_cons, E_guard, next_some, next_none, guard_ff, guard_ft, ev_tmp, ev_const, get_succ, get_zero, List.set_cons_succ, List.set_cons_zero, O_mv, O_pick, pickO, O_bin, pairO, O_call, List.map_cons, List.map_nil, O_load, load_ptr, B_band, B_eql, B_lss, B_geq, B_shr', List.cons_append, List.nil_append, List.length_cons, List.length_nil, Nat.reduceAdd, Nat.reduceSub, Nat.zero_add, Bool.not_false, W_some, W_seq, W_block, Q_cont_normal, Q_cont_ret, Q_block_normal, Q_block_ret, O_alloc, O_box, O_extract, extract_tup, wrote_some, O_store, store_agg, read_skip, read_next, read_there, pre_some, cons_some, write_skip, write_next, write_there, fillU_zero, fillU_succ, List.append_assoc, List.length_append, Option.map_some, List.getElem?_cons_zero, List.getElem?_cons_succ, Q_ret2Q, fin_ib, eq_self, laid_agg, box_some, regsL_len, hR, b1, h0, h7, decide_false, flow_Def_c hne, hd, c0, c63, flow_ins_in hne hd1, insL_len, List.replicate_succ, List.replicate_zero, uir_Reads_c, hr, kn0, hk', Int.natCast_nonneg, tupV]
set_option maxHeartbeats 2000000 in
theorem ref_Value_c (h8 : ps.length ≤ 8) (hR : R.length = 8) (hv : vals.length < 4611686018427387904) : ∀ (f : Nat) (place : Int), cap ps place < f → ∀ (r : Int) (s : Value) (h : Heap), On h c p code path ps → IntS h s vals →
    DF FF n_belatedref10_Value [c, p, agg (regsL R), .int .i64 place, .int .i64 r, s, .int .i64 kn] h = some (tupV (valueF ps R vals kn f place r), h)
  | 0, place, hf => by omega
  | f + 1, place, hf => by
    intro r s h e hs
    have ih := ref_Value_c h8 hR hv f
    refine fun_wpU F_belatedref10_Value ?_
    by_cases h1 : r = -1
    · subst h1
      rw [valueF_m1]
      simp only [c_belatedref10_Value, C_ops, C_cond, D_ret, normal_some, cond_tt, E_nil, E_cons, next_some, ev_tmp, ev_const, get_succ, get_zero, List.set_cons_succ, List.set_cons_zero, O_mv, O_bin, pairO, B_eql, List.cons_append, List.nil_append, List.length_cons, List.length_nil, Nat.reduceAdd, Nat.reduceSub, Nat.zero_add, W_some, W_seq, Q_cont_normal, Q_cont_ret, O_box, fillU_zero, fillU_succ, List.append_assoc, Q_ret2Q, fin_ib, beq_self_eq_true, eq_self, laid_agg, box_some, regsL_len, hR, tupV]
    · have b1 : (r == -1) = false := by simp [h1]
      by_cases h0 : r < 0
      · rw [valueF_bad h1 (.inl h0)]
        simp only [c_belatedref10_Value, C_ops, C_cond, D_ret, D_skip, normal_some, cond_tt, cond_ff, E_nil, E_cons, E_guard, next_some, guard_ft, ev_tmp, ev_const, get_succ, get_zero, List.set_cons_succ, List.set_cons_zero, O_mv, O_pick, pickO, O_bin, pairO, B_eql, B_lss, List.cons_append, List.nil_append, List.length_cons, List.length_nil, Nat.reduceAdd, Nat.reduceSub, Nat.zero_add, W_some, W_seq, Q_cont_normal, Q_cont_ret, O_box, fillU_zero, fillU_succ, List.append_assoc, Q_ret2Q, fin_ib, eq_self, laid_agg, box_some, regsL_len, hR, b1, h0, decide_true, tupV]
      · by_cases h7 : 8 ≤ r
        · rw [valueF_bad h1 (.inr h7)]
          have h7' : 7 < r := by omega
          simp only [c_belatedref10_Value, C_ops, C_cond, D_ret, D_skip, normal_some, cond_tt, cond_ff, E_nil, E_cons, E_guard, next_some, guard_ff, ev_tmp, ev_const, get_succ, get_zero, List.set_cons_succ, List.set_cons_zero, O_mv, O_pick, pickO, O_bin, pairO, B_eql, B_lss, B_gtr, List.cons_append, List.nil_append, List.length_cons, List.length_nil, Nat.reduceAdd, Nat.reduceSub, Nat.zero_add, W_some, W_seq, Q_cont_normal, Q_cont_ret, O_box, fillU_zero, fillU_succ, List.append_assoc, Q_ret2Q, fin_ib, eq_self, laid_agg, box_some, regsL_len, hR, b1, h0, h7', decide_true, decide_false, tupV]
        · obtain ⟨n, rfl⟩ : ∃ n : Nat, r = (n : Int) := ⟨r.toNat, by omega⟩
          have hn : n < 8 := by omega
          have h7' : ¬ (7 : Int) < (n : Int) := by omega
          have hne := e.more [.cells (regsL R) 0 false]
          rcases defP_cases ps place (n : Int) with hd | ⟨d, hd, hd1, hd2⟩
          · rw [valueF_reg hn hd]
            have c0 : ((-1 : Int) < 0) := by omega
            simp only [c_belatedref10_Value, C_ops, C_cond, D_ret, D_skip, normal_some, cond_tt, cond_ff, E_nil, E_cons, E_guard, next_some, guard_ff, ev_tmp, ev_const, get_succ, get_zero, List.set_cons_succ, List.set_cons_zero, O_mv, O_pick, pickO, O_bin, pairO, O_call, List.map_cons, List.map_nil, O_load1, load1_ptr, B_eql, B_lss, B_gtr, List.cons_append, List.nil_append, List.length_cons, List.length_nil, Nat.reduceAdd, Nat.reduceSub, Nat.zero_add, W_some, W_seq, Q_cont_normal, Q_cont_ret, O_box, O_atArr, read1_skip0, read1_there, fillU_zero, fillU_succ, List.append_assoc, Nat.mul_one, Q_ret2Q, fin_ib, eq_self, arr_nat, laid_agg, box_some, regsL_len, hR, b1, h0, h7', decide_true, decide_false, ref_Def_c hne, hd, c0, hn, regsL_get (R := R) (k := n) (by omega), tupV]
          · rw [valueF_at hn hd1 hd]
            have c0 : ¬ ((d : Int) < 0) := by omega
            have hcap := cap_lt hd hd1 hd2
            obtain ⟨m, b, o, v, b', o', v', hm, a1, a2, a3, d1, d2, d3⟩ := e.rd hd1
            have hcall : ∀ (r : Int) (L : Heap), DF FF n_belatedref10_Value [c, p, agg (regsL R), .int .i64 (d : Int), .int .i64 r, s, .int .i64 kn] (h ++ L) = some (tup [.int .i64 (valueF ps R vals kn f (d : Int) r).1, .bool (valueF ps R vals kn f (d : Int) r).2], h ++ L) := fun r L => ih (d : Int) (by omega) r s _ (e.more L) (hs.more L)
            rcases gives_cases (i := ps[d]) (by rw [defP_gives hd1 hd]; omega) with ⟨hr, n1⟩ | ⟨hr, n1, n2⟩ | ⟨hr, n1, n2, n3⟩ | ⟨hr, n1, n2, n3⟩
            · rw [hr, n1, if_neg (by simp), if_pos rfl]
              simp only [c_belatedref10_Value, C_ops, C_cond, D_ret, D_skip, normal_some, cond_tt, cond_ff, E_nil, E_cons, E_guard, next_some, next_none, guard_ff, ev_tmp, ev_const, get_succ, get_zero, List.set_cons_succ, List.set_cons_zero, O_mv, O_pick, pickO, O_bin, pairO, O_call, List.map_cons, List.map_nil, O_atRow, O_load1, load1_ptr, O_load, load_ptr, B_eql, B_lss, B_gtr, List.cons_append, List.nil_append, List.length_cons, List.length_nil, Nat.reduceAdd, Nat.reduceSub, Nat.zero_add, W_some, W_seq, W_block, Q_cont_normal, Q_cont_ret, Q_block_ret, O_alloc, O_box, O_off, off_ptr, wrote_some, O_store, store_agg, read1_skip, read1_next, read1_there, pre_some, cons_some, write_skip, write_next, write_there, fillU_zero, fillU_succ, List.append_assoc, List.length_append, Nat.add_zero, Option.map_some, Q_ret2Q, fin_ib, eq_self, laid_agg, box_some, regsL_len, hR, b1, h0, h7', decide_false, ref_Def_c hne, hd, c0, a1, a2, d1, d2, insL_len, List.replicate_succ, List.replicate_zero, insL_0, insL_4, n1, tupV]
            · rw [hr, n1, n2, if_neg (by simp), if_neg (by simp), if_pos rfl]
              simp only [c_belatedref10_Value, C_ops, C_cond, D_ret, D_skip, normal_some, cond_tt, cond_ff, E_nil, E_cons, E_guard, next_some, next_none, guard_ff, ev_tmp, ev_const, get_succ, get_zero, List.set_cons_succ, List.set_cons_zero, O_mv, O_pick, pickO, O_bin, pairO, O_call, List.map_cons, List.map_nil, O_atRow, O_load1, load1_ptr, O_load, load_ptr, B_eql, B_lss, B_gtr, List.cons_append, List.nil_append, List.length_cons, List.length_nil, Nat.reduceAdd, Nat.reduceSub, Nat.zero_add, W_some, W_seq, W_block, Q_cont_normal, Q_cont_ret, Q_block_ret, O_alloc, O_box, O_off, off_ptr, O_extract, extract_tup, wrote_some, O_store, store_agg, read1_skip, read1_next, read1_there, read_skip0, read_there, pre_some, cons_some, write_skip, write_next, write_there, fillU_zero, fillU_succ, List.append_assoc, List.length_append, Nat.add_zero, Option.map_some, List.getElem?_cons_zero, List.getElem?_cons_succ, Q_ret2Q, fin_ib, eq_self, laid_agg, box_some, regsL_len, hR, b1, h0, h7', decide_false, ref_Def_c hne, hd, c0, a1, a2, d1, d2, insL_len, List.replicate_succ, List.replicate_zero, insL_0, insL_2, n1, n2, hcall, tupV]
            · rw [hr, n1, n2, if_neg (by simp), if_neg (by simp), if_neg (by simp)]
              have hb1 : (ps[d].b = -1) ∨ (ps[d].b < -1) ∨ 0 ≤ ps[d].b := by omega
              cases hx : (valueF ps R vals kn f (d : Int) ps[d].a).2
              · rw [Bool.false_and, if_neg (by simp)]
                by_cases hb : ps[d].b < 0
                · simp only [c_belatedref10_Value, C_ops, C_cond, D_ret, D_skip, normal_some, cond_tt, cond_ff, E_nil, E_cons, E_guard, next_some, next_none, guard_ff, guard_ft, ev_tmp, ev_const, get_succ, get_zero, List.set_cons_succ, List.set_cons_zero, O_mv, O_pick, pickO, O_bin, pairO, O_un, O_call, List.map_cons, List.map_nil, O_atRow, O_load1, load1_ptr, O_load, load_ptr, B_eql, B_lss, B_gtr, U_not, List.cons_append, List.nil_append, List.length_cons, List.length_nil, Nat.reduceAdd, Nat.reduceSub, Nat.zero_add, Bool.not_false, W_some, W_seq, W_block, Q_cont_normal, Q_cont_ret, Q_block_ret, O_alloc, O_box, O_off, off_ptr, O_extract, extract_tup, wrote_some, O_store, store_agg, read1_skip, read1_next, read1_there, read_skip0, read_there, pre_some, cons_some, write_skip, write_next, write_there, fillU_zero, fillU_succ, List.append_assoc, List.length_append, Nat.add_zero, Option.map_some, List.getElem?_cons_zero, List.getElem?_cons_succ, Q_ret2Q, fin_ib, eq_self, laid_agg, box_some, regsL_len, hR, b1, h0, h7', decide_true, decide_false, ref_Def_c hne, hd, c0, a1, a2, d1, d2, insL_len, List.replicate_succ, List.replicate_zero, insL_0, insL_2, insL_3, insL_4, n1, n2, n3, hcall, hx, hb, tupV]
                · simp only [c_belatedref10_Value, C_ops, C_cond, D_ret, D_skip, normal_some, cond_tt, cond_ff, E_nil, E_cons, E_guard, next_some, next_none, guard_ff, guard_ft, ev_tmp, ev_const, get_succ, get_zero, List.set_cons_succ, List.set_cons_zero, O_mv, O_pick, pickO, O_bin, pairO, O_un, O_call, List.map_cons, List.map_nil, O_atRow, O_load1, load1_ptr, O_load, load_ptr, B_eql, B_lss, B_gtr, U_not, List.cons_append, List.nil_append, List.length_cons, List.length_nil, Nat.reduceAdd, Nat.reduceSub, Nat.zero_add, Bool.not_false, W_some, W_seq, W_block, Q_cont_normal, Q_cont_ret, Q_block_ret, O_alloc, O_box, O_off, off_ptr, O_extract, extract_tup, wrote_some, O_store, store_agg, read1_skip, read1_next, read1_there, read_skip0, read_there, pre_some, cons_some, write_skip, write_next, write_there, fillU_zero, fillU_succ, List.append_assoc, List.length_append, Nat.add_zero, Option.map_some, List.getElem?_cons_zero, List.getElem?_cons_succ, Q_ret2Q, fin_ib, eq_self, laid_agg, box_some, regsL_len, hR, b1, h0, h7', decide_false, ref_Def_c hne, hd, c0, a1, a2, d1, d2, insL_len, List.replicate_succ, List.replicate_zero, insL_0, insL_2, insL_3, n1, n2, n3, hcall, hx, hb, tupV]
              · rw [Bool.true_and]
                rcases hb1 with hb | hb | hb
                · have hb' : (ps[d].b == -1) = true := by simp [hb]
                  have hb2 : ps[d].b < 0 := by omega
                  rw [hb', if_pos rfl, if_pos rfl]
                  have hm1 : ∀ L : Heap, DF FF n_belatedref10_Value [c, p, agg (regsL R), .int .i64 (d : Int), .int .i64 ps[d].b, s, .int .i64 kn] (h ++ L) = some (tup [.int .i64 0, .bool true], h ++ L) := by
                    intro L
                    rw [hcall, hb]
                    cases f with
                    | zero => omega
                    | succ f => rw [valueF_m1]
                  simp only [c_belatedref10_Value, C_ops, C_cond, D_ret, D_skip, normal_some, cond_tt, cond_ff, E_nil, E_cons, E_guard, next_some, next_none, guard_ff, ev_tmp, ev_const, get_succ, get_zero, List.set_cons_succ, List.set_cons_zero, O_mv, O_pick, pickO, O_bin, pairO, O_un, O_call, List.map_cons, List.map_nil, O_atRow, O_load1, load1_ptr, O_load, load_ptr, B_eql, B_lss, B_gtr, U_not, List.cons_append, List.nil_append, List.length_cons, List.length_nil, Nat.reduceAdd, Nat.reduceSub, Nat.zero_add, Bool.not_true, W_some, W_seq, W_block, Q_cont_normal, Q_cont_ret, Q_block_ret, O_alloc, O_box, O_off, off_ptr, O_extract, extract_tup, wrote_some, O_store, store_agg, read1_skip, read1_next, read1_there, read_skip0, read_there, pre_some, cons_some, write_skip, write_next, write_there, fillU_zero, fillU_succ, List.append_assoc, List.length_append, Nat.add_zero, Option.map_some, List.getElem?_cons_zero, List.getElem?_cons_succ, Q_ret2Q, fin_ib, eq_self, laid_agg, box_some, regsL_len, hR, b1, h0, h7', decide_true, decide_false, ref_Def_c hne, hd, c0, a1, a2, d1, d2, insL_len, List.replicate_succ, List.replicate_zero, insL_0, insL_2, insL_3, insL_4, insL_9, n1, n2, n3, hm1, hcall, hx, hb2, alu19, tupV]
                · have hb' : (ps[d].b == -1) = false := by simp; omega
                  have hb2 : ps[d].b < 0 := by omega
                  have hy : (valueF ps R vals kn f (d : Int) ps[d].b).2 = false := by
                    cases f with
                    | zero => rfl
                    | succ f => rw [valueF_bad (by omega) (.inl (by omega))]
                  rw [hb', if_neg (c := false = true) (by simp), hy, if_neg (by simp)]
                  simp only [c_belatedref10_Value, C_ops, C_cond, D_ret, D_skip, normal_some, cond_tt, cond_ff, E_nil, E_cons, E_guard, next_some, next_none, guard_ff, ev_tmp, ev_const, get_succ, get_zero, List.set_cons_succ, List.set_cons_zero, O_mv, O_pick, pickO, O_bin, pairO, O_un, O_call, List.map_cons, List.map_nil, O_atRow, O_load1, load1_ptr, O_load, load_ptr, B_eql, B_lss, B_gtr, U_not, List.cons_append, List.nil_append, List.length_cons, List.length_nil, Nat.reduceAdd, Nat.reduceSub, Nat.zero_add, Bool.not_true, Bool.not_false, W_some, W_seq, W_block, Q_cont_normal, Q_cont_ret, Q_block_ret, O_alloc, O_box, O_off, off_ptr, O_extract, extract_tup, wrote_some, O_store, store_agg, read1_skip, read1_next, read1_there, read_skip0, read_there, pre_some, cons_some, write_skip, write_next, write_there, fillU_zero, fillU_succ, List.append_assoc, List.length_append, Nat.add_zero, Option.map_some, List.getElem?_cons_zero, List.getElem?_cons_succ, Q_ret2Q, fin_ib, eq_self, laid_agg, box_some, regsL_len, hR, b1, h0, h7', decide_true, decide_false, ref_Def_c hne, hd, c0, a1, a2, d1, d2, insL_len, List.replicate_succ, List.replicate_zero, insL_0, insL_2, insL_3, insL_4, n1, n2, n3, hcall, hx, hy, hb2, tupV]
                · have hb' : (ps[d].b == -1) = false := by simp; omega
                  have hb2 : ¬ ps[d].b < 0 := by omega
                  rw [hb', if_neg (c := false = true) (by simp)]
                  cases hy : (valueF ps R vals kn f (d : Int) ps[d].b).2
                  · rw [if_neg (by simp)]
                    simp only [c_belatedref10_Value, C_ops, C_cond, D_ret, D_skip, normal_some, cond_tt, cond_ff, E_nil, E_cons, E_guard, next_some, next_none, guard_ff, ev_tmp, ev_const, get_succ, get_zero, List.set_cons_succ, List.set_cons_zero, O_mv, O_pick, pickO, O_bin, pairO, O_un, O_call, List.map_cons, List.map_nil, O_atRow, O_load1, load1_ptr, O_load, load_ptr, B_eql, B_lss, B_gtr, U_not, List.cons_append, List.nil_append, List.length_cons, List.length_nil, Nat.reduceAdd, Nat.reduceSub, Nat.zero_add, Bool.not_true, Bool.not_false, W_some, W_seq, W_block, Q_cont_normal, Q_cont_ret, Q_block_ret, O_alloc, O_box, O_off, off_ptr, O_extract, extract_tup, wrote_some, O_store, store_agg, read1_skip, read1_next, read1_there, read_skip0, read_there, pre_some, cons_some, write_skip, write_next, write_there, fillU_zero, fillU_succ, List.append_assoc, List.length_append, Nat.add_zero, Option.map_some, List.getElem?_cons_zero, List.getElem?_cons_succ, Q_ret2Q, fin_ib, eq_self, laid_agg, box_some, regsL_len, hR, b1, h0, h7', decide_false, ref_Def_c hne, hd, c0, a1, a2, d1, d2, insL_len, List.replicate_succ, List.replicate_zero, insL_0, insL_2, insL_3, n1, n2, n3, hcall, hx, hy, hb2, tupV]
                  · rw [if_pos rfl]
                    simp only [c_belatedref10_Value, C_ops, C_cond, D_ret, D_skip, normal_some, cond_tt, cond_ff, E_nil, E_cons, E_guard, next_some, next_none, guard_ff, ev_tmp, ev_const, get_succ, get_zero, List.set_cons_succ, List.set_cons_zero, O_mv, O_pick, pickO, O_bin, pairO, O_un, O_call, List.map_cons, List.map_nil, O_atRow, O_load1, load1_ptr, O_load, load_ptr, B_eql, B_lss, B_gtr, U_not, List.cons_append, List.nil_append, List.length_cons, List.length_nil, Nat.reduceAdd, Nat.reduceSub, Nat.zero_add, Bool.not_true, W_some, W_seq, W_block, Q_cont_normal, Q_cont_ret, Q_block_ret, O_alloc, O_box, O_off, off_ptr, O_extract, extract_tup, wrote_some, O_store, store_agg, read1_skip, read1_next, read1_there, read_skip0, read_there, pre_some, cons_some, write_skip, write_next, write_there, fillU_zero, fillU_succ, List.append_assoc, List.length_append, Nat.add_zero, Option.map_some, List.getElem?_cons_zero, List.getElem?_cons_succ, Q_ret2Q, fin_ib, eq_self, laid_agg, box_some, regsL_len, hR, b1, h0, h7', decide_false, ref_Def_c hne, hd, c0, a1, a2, d1, d2, insL_len, List.replicate_succ, List.replicate_zero, insL_0, insL_2, insL_3, insL_9, n1, n2, n3, hcall, hx, hy, hb2, alu19, tupV]
            · rw [hr, if_pos rfl]
              by_cases hk : bi (shr .i64 kn (d : Int)) 0 = true
              · by_cases hl : d < vals.length
                · have hl' : ((d : Int) < (vals.length : Int)) := by omega
                  obtain ⟨b2, o2, v2, q1, q2, _⟩ := hs.at hl
                  have hg : vals.getD d 0 = vals[d] := by rw [List.getD_eq_getElem?_getD, List.getElem?_eq_getElem hl]; rfl
                  simp only [hk, hl, decide_true, Bool.and_self, if_true, hg]
                  simp only [c_belatedref10_Value, C_ops, C_cond, D_ret, D_skip, normal_some, cond_tt, cond_ff, E_nil, E_cons, E_guard, next_some, next_none, guard_tt, guard_ff, ev_tmp, ev_const, get_succ, get_zero, List.set_cons_succ, List.set_cons_zero, O_mv, O_pick, pickO, O_bin, pairO, O_call, List.map_cons, List.map_nil, O_len, O_atRow, O_load1, load1_ptr, O_load, load_ptr, B_band, B_eql, B_lss, B_gtr, B_shr', List.cons_append, List.nil_append, List.length_cons, List.length_nil, Nat.reduceAdd, Nat.reduceSub, Nat.zero_add, W_some, W_seq, W_block, Q_cont_normal, Q_cont_ret, Q_block_normal, O_alloc, O_box, O_off, off_ptr, wrote_some, O_store, store_agg, read1_skip, read1_next, read1_there, pre_some, cons_some, write_skip, write_next, write_there, fillU_zero, fillU_succ, List.append_assoc, List.length_append, Nat.add_zero, Option.map_some, Q_ret2Q, fin_ib, eq_self, laid_agg, box_some, regsL_len, hR, b1, h0, h7', decide_true, decide_false, ref_Def_c hne, hd, c0, a1, a2, d1, d2, insL_len, List.replicate_succ, List.replicate_zero, insL_0, n1, n2, n3, kn1, hk, hs.len, hl', q1, q2, Int.natCast_nonneg, tupV]
                · have hl' : ¬ ((d : Int) < (vals.length : Int)) := by omega
                  simp only [hl, decide_false, Bool.false_and, Bool.false_eq_true, if_false]
                  simp only [c_belatedref10_Value, C_ops, C_cond, D_ret, D_skip, normal_some, cond_ff, E_nil, E_cons, E_guard, next_some, next_none, guard_ff, guard_tf, ev_tmp, ev_const, get_succ, get_zero, List.set_cons_succ, List.set_cons_zero, O_mv, O_pick, pickO, O_bin, pairO, O_call, List.map_cons, List.map_nil, O_len, O_atRow, O_load1, load1_ptr, O_load, load_ptr, B_eql, B_lss, B_gtr, List.cons_append, List.nil_append, List.length_cons, List.length_nil, Nat.reduceAdd, Nat.reduceSub, Nat.zero_add, W_some, W_seq, W_block, Q_cont_normal, Q_block_normal, O_alloc, O_box, O_off, off_ptr, wrote_some, O_store, store_agg, read1_skip, read1_next, read1_there, pre_some, cons_some, write_skip, write_next, write_there, fillU_zero, fillU_succ, List.append_assoc, List.length_append, Nat.add_zero, Option.map_some, Q_ret2Q, fin_ib, eq_self, laid_agg, box_some, regsL_len, hR, b1, h0, h7', decide_false, ref_Def_c hne, hd, c0, a1, a2, d1, d2, insL_len, List.replicate_succ, List.replicate_zero, insL_0, n1, n2, n3, hs.len, hl', tupV]
              · have hk' : bi (shr .i64 kn (d : Int)) 0 = false := by simpa using hk
                simp only [hk', Bool.and_false, Bool.false_eq_true, if_false]
                by_cases hl : d < vals.length
                · have hl' : ((d : Int) < (vals.length : Int)) := by omega
                  simp only [c_belatedref10_Value, C_ops, C_cond, D_ret, D_skip, normal_some, cond_ff, E_nil, E_cons, E_guard, next_some, next_none, guard_tt, guard_ff, ev_tmp, ev_const, get_succ, get_zero, List.set_cons_succ, List.set_cons_zero, O_mv, O_pick, pickO, O_bin, pairO, O_call, List.map_cons, List.map_nil, O_len, O_atRow, O_load1, load1_ptr, O_load, load_ptr, B_band, B_eql, B_lss, B_gtr, B_shr', List.cons_append, List.nil_append, List.length_cons, List.length_nil, Nat.reduceAdd, Nat.reduceSub, Nat.zero_add, W_some, W_seq, W_block, Q_cont_normal, Q_block_normal, O_alloc, O_box, O_off, off_ptr, wrote_some, O_store, store_agg, read1_skip, read1_next, read1_there, pre_some, cons_some, write_skip, write_next, write_there, fillU_zero, fillU_succ, List.append_assoc, List.length_append, Nat.add_zero, Option.map_some, Q_ret2Q, fin_ib, eq_self, laid_agg, box_some, regsL_len, hR, b1, h0, h7', decide_true, decide_false, ref_Def_c hne, hd, c0, a1, a2, d1, d2, insL_len, List.replicate_succ, List.replicate_zero, insL_0, n1, n2, n3, kn1, hk', hs.len, hl', Int.natCast_nonneg, tupV]
                · have hl' : ¬ ((d : Int) < (vals.length : Int)) := by omega
                  simp only [c_belatedref10_Value, C_ops, C_cond, D_ret, D_skip, normal_some, cond_ff, E_nil, E_cons, E_guard, next_some, next_none, guard_ff, guard_tf, ev_tmp, ev_const, get_succ, get_zero, List.set_cons_succ, List.set_cons_zero, O_mv, O_pick, pickO, O_bin, pairO, O_call, List.map_cons, List.map_nil, O_len, O_atRow, O_load1, load1_ptr, O_load, load_ptr, B_eql, B_lss, B_gtr, List.cons_append, List.nil_append, List.length_cons, List.length_nil, Nat.reduceAdd, Nat.reduceSub, Nat.zero_add, W_some, W_seq, W_block, Q_cont_normal, Q_block_normal, O_alloc, O_box, O_off, off_ptr, wrote_some, O_store, store_agg, read1_skip, read1_next, read1_there, pre_some, cons_some, write_skip, write_next, write_there, fillU_zero, fillU_succ, List.append_assoc, List.length_append, Nat.add_zero, Option.map_some, Q_ret2Q, fin_ib, eq_self, laid_agg, box_some, regsL_len, hR, b1, h0, h7', decide_false, ref_Def_c hne, hd, c0, a1, a2, d1, d2, insL_len, List.replicate_succ, List.replicate_zero, insL_0, n1, n2, n3, hs.len, hl', tupV]
end
end Go.Proofs.Ytoeoahpngmhkdaa.AM
