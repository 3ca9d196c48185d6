/-
  Codes: how many operations, branches; the first rule that they break: both ways.
  Conditions: there are fewer than 2^62 of them.
-/
import Derived.Test.YtjodnadlplicmaaUa3
namespace Go.Proofs.Ytjodnadlplicmaa.AM
open Go.RowKit
set_option linter.unusedSimpArgs false
set_option linter.unusedVariables false

theorem insL_0 (i : Ins) : (insL i)[0]? = some (.int .i64 i.op) := rfl
theorem insL_1 (i : Ins) : (insL i)[1]? = some (.int .i64 i.dst) := rfl
theorem insL_2 (i : Ins) : (insL i)[2]? = some (.int .i64 i.a) := rfl
theorem insL_3 (i : Ins) : (insL i)[3]? = some (.int .i64 i.b) := rfl
theorem insL_4 (i : Ins) : (insL i)[4]? = some (.int .i64 i.imm) := rfl
theorem insL_7 (i : Ins) : (insL i)[7]? = some (.int .i64 i.index) := rfl
theorem insL_15 (i : Ins) : (insL i)[15]? = some (.int .i64 i.to) := rfl
def givesV (i : Ins) : Int := if i.op == 1 || (i.op == 2 || (i.op == 3 || (i.op == 4 || i.op == 6))) then i.dst else -1
theorem uir_Gives_c (i : Ins) (h : Heap) : DF FF n_uir_Gives [agg (insL i)] h = some (.int .i64 (givesV i), h) := by
  refine fun_wpU F_uir_Gives ?_
  simp only [c_uir_Gives, C_ops, C_cond, normal_some, E_nil, E_cons, next_some, ev_tmp, ev_const, get_succ, get_zero, List.set_cons_succ, List.set_cons_zero, O_mv, O_bin, pairO, O_load1, load1_ptr, B_eql, List.cons_append, List.nil_append, List.length_cons, List.length_nil, Nat.reduceSub, Nat.zero_add, W_some, W_seq, W_block, Q_cont_normal, O_box, O_off, off_ptr, read1_skip0, read1_there, fillU_zero, fillU_succ, Nat.add_zero, eq_self, laid_agg, box_some, insL_len, insL_0]
  repeat' (first | (refine cond_split ?_ ?_ <;> intro hc <;> simp only [C_ops, C_cond, D_ret, D_skip, normal_some, cond_tt, E_nil, E_cons, next_some, ev_tmp, ev_const, get_succ, get_zero, List.set_cons_succ, List.set_cons_zero, O_mv, O_bin, pairO, O_load1, load1_ptr, B_eql, Nat.zero_add, W_some, W_seq, Q_cont_normal, Q_cont_ret, Q_block_normal, Q_block_ret, O_off, off_ptr, read1_skip0, read1_there, hc, insL_1]))
  all_goals (rw [Q_more _ _ _ _ _ rfl]; simp_all [givesV])
theorem ref_Gives_c (i : Ins) (h : Heap) : DF FF n_belatedref3_Gives [agg (insL i)] h = some (.int .i64 (givesV i), h) := by
  refine fun_wpU F_belatedref3_Gives ?_
  simp only [c_belatedref3_Gives, C_ops, C_cond, normal_some, E_nil, E_cons, next_some, ev_tmp, ev_const, get_succ, get_zero, List.set_cons_succ, List.set_cons_zero, O_mv, O_bin, pairO, O_load1, load1_ptr, B_eql, List.cons_append, List.nil_append, List.length_cons, List.length_nil, Nat.reduceSub, Nat.zero_add, W_some, W_seq, W_block, Q_cont_normal, O_box, O_off, off_ptr, read1_skip0, read1_there, fillU_zero, fillU_succ, Nat.add_zero, eq_self, laid_agg, box_some, insL_len, insL_0]
  repeat' (first | (refine cond_split ?_ ?_ <;> intro hc <;> simp only [C_ops, C_cond, D_ret, D_skip, normal_some, cond_tt, E_nil, E_cons, next_some, ev_tmp, ev_const, get_succ, get_zero, List.set_cons_succ, List.set_cons_zero, O_mv, O_bin, pairO, O_load1, load1_ptr, B_eql, Nat.zero_add, W_some, W_seq, Q_cont_normal, Q_cont_ret, Q_block_normal, Q_block_ret, O_off, off_ptr, read1_skip0, read1_there, hc, insL_1]))
  all_goals (rw [Q_more _ _ _ _ _ rfl]; simp_all [givesV])
theorem ref_Reads_c (i : Ins) (h : Heap) : DF FF n_belatedref3_Reads [agg (insL i)] h = some (.bool (readsV i), h) := by
  refine fun_wpU F_belatedref3_Reads ?_
  unfold readsV
  simp only [c_belatedref3_Reads, C_ops, normal_some, E_nil, E_cons, E_guard, next_some, ev_tmp, ev_const, get_succ, get_zero, List.set_cons_succ, List.set_cons_zero, O_mv, O_bin, pairO, O_load1, load1_ptr, B_eql, List.cons_append, List.nil_append, List.length_cons, List.length_nil, Nat.reduceSub, Nat.zero_add, W_some, W_seq, Q_cont_normal, O_box, O_off, off_ptr, read1_skip0, read1_there, fillU_zero, fillU_succ, Nat.add_zero, eq_self, laid_agg, box_some, insL_len, insL_0]
  refine guard_splitF ?_ ?_ <;> intro hc <;> simp only [D_ret, normal_some, E_nil, E_cons, E_guard, next_some, guard_ff, guard_ft, ev_tmp, ev_const, get_succ, get_zero, List.set_cons_succ, List.set_cons_zero, O_mv, O_pick, pickO, O_bin, pairO, O_load1, load1_ptr, B_eql, Bool.false_or, Bool.true_or, W_some, Q_cont_normal, O_off, off_ptr, read1_skip0, read1_there, Nat.add_zero, hc, insL_0]
  all_goals (rw [Q_more _ _ _ _ _ rfl]; rfl)
theorem ref_Writes_c (i : Ins) (h : Heap) : DF FF n_belatedref3_Writes [agg (insL i)] h = some (.bool (writesV i), h) := by
  refine fun_wpU F_belatedref3_Writes ?_
  unfold writesV
  simp only [c_belatedref3_Writes, C_ops, normal_some, E_nil, E_cons, E_guard, next_some, ev_tmp, ev_const, get_succ, get_zero, List.set_cons_succ, List.set_cons_zero, O_mv, O_bin, pairO, O_load1, load1_ptr, B_eql, List.cons_append, List.nil_append, List.length_cons, List.length_nil, Nat.reduceSub, Nat.zero_add, W_some, W_seq, Q_cont_normal, O_box, O_off, off_ptr, read1_skip0, read1_there, fillU_zero, fillU_succ, Nat.add_zero, eq_self, laid_agg, box_some, insL_len, insL_0]
  refine guard_splitF ?_ ?_ <;> intro hc <;> simp only [D_ret, normal_some, E_nil, E_cons, E_guard, next_some, guard_ff, guard_ft, ev_tmp, ev_const, get_succ, get_zero, List.set_cons_succ, List.set_cons_zero, O_mv, O_pick, pickO, O_bin, pairO, O_load1, load1_ptr, B_eql, Bool.false_or, Bool.true_or, W_some, Q_cont_normal, O_off, off_ptr, read1_skip0, read1_there, Nat.add_zero, hc, insL_0]
  all_goals (rw [Q_more _ _ _ _ _ rfl]; rfl)
def memV (i : Ins) : Bool := readsV i || writesV i
theorem ref_Memory_c (i : Ins) (h : Heap) : DF FF n_belatedref3_Memory [agg (insL i)] h = some (.bool (memV i), h) := by
  refine fun_wpU F_belatedref3_Memory ?_
  simp only [c_belatedref3_Memory, C_ops, normal_some, E_nil, E_cons, E_guard, next_some, ev_tmp, ev_const, get_succ, get_zero, List.set_cons_succ, List.set_cons_zero, O_mv, O_bin, pairO, O_load1, load1_ptr, B_eql, List.cons_append, List.nil_append, List.length_cons, List.length_nil, Nat.reduceSub, Nat.zero_add, W_some, W_seq, Q_cont_normal, O_box, O_off, off_ptr, read1_skip0, read1_there, fillU_zero, fillU_succ, Nat.add_zero, eq_self, laid_agg, box_some, insL_len, insL_0]
  repeat' (first | (refine guard_splitF ?_ ?_ <;> intro hc <;> simp only [D_ret, normal_some, E_nil, E_cons, E_guard, next_some, guard_ff, guard_ft, ev_tmp, ev_const, get_succ, get_zero, List.set_cons_succ, List.set_cons_zero, O_mv, O_pick, pickO, O_bin, pairO, O_load1, load1_ptr, B_eql, W_some, Q_cont_normal, O_off, off_ptr, read1_skip0, read1_there, Nat.add_zero, hc, insL_0]))
  all_goals (rw [Q_more _ _ _ _ _ rfl]; simp_all [memV, readsV, writesV]; try (cases h6 : i.op == 6 <;> simp_all))

/-- A slice of instructions. -/
def InsSl (h : Heap) (s : Value) (code : List Ins) : Prop := Sl h s 17 (code.map insL)
section
variable {h : Heap} {s : Value} {code : List Ins}
theorem InsSl.len (e : InsSl h s code) (H : Heap) : lenO H s = some (.int .i64 code.length, H) := by
  have := Sl.len e H
  rwa [List.length_map] at this
theorem InsSl.more (e : InsSl h s code) (L : Heap) : InsSl (h ++ L) s code := Sl.more e L
theorem InsSl.pre {H : Heap} (e : InsSl h s code) (p : Pre h H) : InsSl H s code := Sl.pre e p
theorem InsSl.at (e : InsSl h s code) {k : Nat} (hk : k < code.length) : ∃ b o v, (∀ H, rowO H 17 s (.int .i64 (k : Int)) = some (.pointer (some ⟨b, o, some v⟩), H)) ∧ (∀ L, Heap.read (h ++ L) ⟨b, o, some v⟩ 17 = some (insL code[k])) ∧ Heap.read h ⟨b, o, some v⟩ 17 = some (insL code[k]) := by
  obtain ⟨b, o, v, h1, h2⟩ := Sl.at e (k := k) (by rw [List.length_map]; exact hk)
  have h3 : ∀ L, Heap.read (h ++ L) ⟨b, o, some v⟩ 17 = some (insL code[k]) := fun L => by rw [h2, List.getElem_map]
  exact ⟨b, o, v, h1, h3, by have := h3 []; rwa [List.append_nil] at this⟩
end
def countP (p : Ins → Bool) (code : List Ins) : Nat := (code.filter p).length
theorem countP_succ (p : Ins → Bool) (code : List Ins) {k : Nat} (hk : k < code.length) : countP p (code.take (k + 1)) = if p code[k] then countP p (code.take k) + 1 else countP p (code.take k) := by
  unfold countP
  rw [List.take_succ_eq_append_getElem hk, List.filter_append]
  by_cases hp : p code[k] = true
  · rw [if_pos hp]; simp [hp]
  · rw [if_neg hp]; simp [hp]
theorem countP_le (p : Ins → Bool) (code : List Ins) : countP p code ≤ code.length := List.length_filter_le _ _
theorem countP_take (p : Ins → Bool) (code : List Ins) (k : Nat) : countP p (code.take k) ≤ k := Nat.le_trans (countP_le _ _) (by simp; omega)
def isBr (i : Ins) : Bool := i.op == 9
theorem uir_Ops_c (code : List Ins) (s : Value) (h : Heap) (hs : InsSl h s code) (hl : code.length < 4611686018427387904) : DF FF n_uir_Ops [s] h = some (.int .i64 (countP memV code : Nat), h) := by
  refine fun_wpU F_uir_Ops ?_
  simp only [c_uir_Ops, C_ops, normal_some, E_nil, E_cons, next_some, ev_tmp, ev_const, get_succ, get_zero, List.set_cons_succ, List.set_cons_zero, O_mv, O_len, List.cons_append, List.nil_append, List.length_cons, List.length_nil, Nat.reduceSub, Nat.zero_add, W_some, W_seq, W_block, Q_cont_normal, fillU_zero, fillU_succ, List.append_assoc, hs.len]
  refine for_wp code.length (fun k st => ∃ (J : Heap) (j : Nat → Value), st = ⟨[j 0, j 1, j 2, .int .i64 (countP memV (code.take k) : Nat), j 4, j 5, s, .int .i64 code.length, .int .i64 k, j 9, j 10, j 11, j 12, j 13, j 14, j 15, j 16, j 17, j 18, j 19, j 20, j 21], h ++ J⟩) ?_ ?_ _ ?_
  · rintro k st hk ⟨J, j, rfl⟩
    obtain ⟨b, o, v, hp1, hp2, _⟩ := hs.at hk
    have h1 : (k : Int) < code.length := by omega
    have hc := countP_succ memV code hk
    have hle := countP_take memV code k
    cases hr : readsV code[k]
    · cases hw : writesV code[k]
      · have hm : memV code[k] = false := by simp [memV, hr, hw]
        rw [hm] at hc
        simp only [C_ops, C_cond, D_skip, normal_some, cond_tt, cond_ff, E_nil, E_cons, E_guard, next_some, next_none, guard_ff, ev_tmp, ev_const, get_succ, get_zero, List.set_cons_succ, List.set_cons_zero, O_mv, O_pick, pickO, O_bin, pairO, O_call, List.map_cons, List.map_nil, O_atRow, O_load, load_ptr, B_add, B_lss, List.cons_append, List.nil_append, List.length_cons, List.length_nil, Nat.reduceAdd, Nat.zero_add, W_some, W_seq, W_block, Q_cont_normal, Q_block_normal, O_alloc, wrote_some, O_store, store_agg, read_skip, read_skip0, read_there, pre_some, write_skip, write_skip0, write_there, List.append_assoc, List.length_append, Option.map_some, eq_self, Q_for_normal, h1, decide_true, hp1, hp2, insL_len, uir_Reads_c, uir_Writes_c, hr, hw, wrap_nat (k := k) (by omega), hc, List.replicate_succ, List.replicate_zero, Bool.false_eq_true, if_false]
        exact ⟨_, junk rfl⟩
      · have hm : memV code[k] = true := by simp [memV, hr, hw]
        rw [hm] at hc
        simp only [C_ops, C_cond, D_skip, normal_some, cond_tt, E_nil, E_cons, E_guard, next_some, next_none, guard_ff, ev_tmp, ev_const, get_succ, get_zero, List.set_cons_succ, List.set_cons_zero, O_mv, O_pick, pickO, O_bin, pairO, O_call, List.map_cons, List.map_nil, O_atRow, O_load, load_ptr, B_add, B_lss, List.cons_append, List.nil_append, List.length_cons, List.length_nil, Nat.reduceAdd, Nat.zero_add, W_some, W_seq, W_block, Q_cont_normal, Q_block_normal, O_alloc, wrote_some, O_store, store_agg, read_skip, read_skip0, read_there, pre_some, write_skip, write_skip0, write_there, List.append_assoc, List.length_append, Option.map_some, eq_self, Q_for_normal, h1, decide_true, hp1, hp2, insL_len, uir_Reads_c, uir_Writes_c, hr, hw, wrap_nat (k := k) (by omega), wrap_nat (k := countP memV (code.take k)) (by omega), hc, List.replicate_succ, List.replicate_zero, if_true]
        exact ⟨_, junk rfl⟩
    · have hm : memV code[k] = true := by simp [memV, hr]
      rw [hm] at hc
      simp only [C_ops, C_cond, D_skip, normal_some, cond_tt, E_nil, E_cons, E_guard, next_some, next_none, guard_ft, ev_tmp, ev_const, get_succ, get_zero, List.set_cons_succ, List.set_cons_zero, O_mv, O_pick, pickO, O_bin, pairO, O_call, List.map_cons, List.map_nil, O_atRow, O_load, load_ptr, B_add, B_lss, List.cons_append, List.nil_append, List.length_cons, List.length_nil, Nat.reduceAdd, Nat.zero_add, W_some, W_seq, W_block, Q_cont_normal, Q_block_normal, O_alloc, wrote_some, O_store, store_agg, read_skip, read_skip0, read_there, pre_some, write_skip, write_skip0, write_there, List.append_assoc, List.length_append, Option.map_some, eq_self, Q_for_normal, h1, decide_true, hp1, hp2, insL_len, uir_Reads_c, hr, wrap_nat (k := k) (by omega), wrap_nat (k := countP memV (code.take k)) (by omega), hc, List.replicate_succ, List.replicate_zero, if_true]
      exact ⟨_, junk rfl⟩
  · rintro st ⟨J, j, rfl⟩
    have h1 : ¬ ((code.length : Nat) : Int) < code.length := by omega
    simp only [C_ops, C_cond, D_exit, D_ret, normal_some, cond_ff, E_nil, E_cons, next_some, ev_tmp, get_succ, get_zero, List.set_cons_succ, List.set_cons_zero, O_mv, O_bin, pairO, B_lss, W_some, W_seq, Q_cont_normal, Q_cont_exit, Q_block_exit, Q_for_exit, h1, decide_false, List.take_length]
    rw [Q_more _ _ _ _ _ rfl]; rfl
  · exact ⟨[], junkh rfl (by simp)⟩
theorem uir_Branches_c (code : List Ins) (s : Value) (h : Heap) (hs : InsSl h s code) (hl : code.length < 4611686018427387904) : DF FF n_uir_Branches [s] h = some (.int .i64 (countP isBr code : Nat), h) := by
  refine fun_wpU F_uir_Branches ?_
  simp only [c_uir_Branches, C_ops, normal_some, E_nil, E_cons, next_some, ev_tmp, ev_const, get_succ, get_zero, List.set_cons_succ, List.set_cons_zero, O_mv, O_len, List.cons_append, List.nil_append, List.length_cons, List.length_nil, Nat.reduceSub, Nat.zero_add, W_some, W_seq, W_block, Q_cont_normal, fillU_zero, fillU_succ, List.append_assoc, hs.len]
  refine for_wp code.length (fun k st => ∃ (J : Heap) (j : Nat → Value), st = ⟨[j 0, j 1, j 2, .int .i64 (countP isBr (code.take k) : Nat), j 4, j 5, s, .int .i64 code.length, .int .i64 k, j 9, j 10, j 11, j 12, j 13, j 14, j 15, j 16, j 17, j 18], h ++ J⟩) ?_ ?_ _ ?_
  · rintro k st hk ⟨J, j, rfl⟩
    obtain ⟨b, o, v, hp1, hp2, _⟩ := hs.at hk
    have h1 : (k : Int) < code.length := by omega
    have hc := countP_succ isBr code hk
    have hle := countP_take isBr code k
    cases hr : isBr code[k]
    · have hb : (code[k].op == 9) = false := hr
      rw [hr] at hc
      simp only [C_ops, C_cond, D_skip, normal_some, cond_tt, cond_ff, E_nil, E_cons, next_some, next_none, ev_tmp, ev_const, get_succ, get_zero, List.set_cons_succ, List.set_cons_zero, O_mv, O_bin, pairO, O_atRow, O_load1, load1_ptr, O_load, load_ptr, B_add, B_eql, B_lss, List.cons_append, List.nil_append, List.length_cons, List.length_nil, Nat.reduceAdd, Nat.zero_add, W_some, W_seq, W_block, Q_cont_normal, Q_block_normal, O_alloc, O_off, off_ptr, wrote_some, O_store, store_agg, read1_skip, read1_skip0, read1_there, pre_some, write_skip, write_skip0, write_there, List.append_assoc, List.length_append, Nat.add_zero, Option.map_some, eq_self, Q_for_normal, h1, decide_true, hp1, hp2, insL_len, insL_0, hb, wrap_nat (k := k) (by omega), hc, List.replicate_succ, List.replicate_zero, Bool.false_eq_true, if_false]
      exact ⟨_, junk rfl⟩
    · have hb : (code[k].op == 9) = true := hr
      rw [hr] at hc
      simp only [C_ops, C_cond, D_skip, normal_some, cond_tt, E_nil, E_cons, next_some, next_none, ev_tmp, ev_const, get_succ, get_zero, List.set_cons_succ, List.set_cons_zero, O_mv, O_bin, pairO, O_atRow, O_load1, load1_ptr, O_load, load_ptr, B_add, B_eql, B_lss, List.cons_append, List.nil_append, List.length_cons, List.length_nil, Nat.reduceAdd, Nat.zero_add, W_some, W_seq, W_block, Q_cont_normal, Q_block_normal, O_alloc, O_off, off_ptr, wrote_some, O_store, store_agg, read1_skip, read1_skip0, read1_there, pre_some, write_skip, write_skip0, write_there, List.append_assoc, List.length_append, Nat.add_zero, Option.map_some, eq_self, Q_for_normal, h1, decide_true, hp1, hp2, insL_len, insL_0, hb, wrap_nat (k := k) (by omega), wrap_nat (k := countP isBr (code.take k)) (by omega), hc, List.replicate_succ, List.replicate_zero, if_true]
      exact ⟨_, junk rfl⟩
  · rintro st ⟨J, j, rfl⟩
    have h1 : ¬ ((code.length : Nat) : Int) < code.length := by omega
    simp only [C_ops, C_cond, D_exit, D_ret, normal_some, cond_ff, E_nil, E_cons, next_some, ev_tmp, get_succ, get_zero, List.set_cons_succ, List.set_cons_zero, O_mv, O_bin, pairO, B_lss, W_some, W_seq, Q_cont_normal, Q_cont_exit, Q_block_exit, Q_for_exit, h1, decide_false, List.take_length]
    rw [Q_more _ _ _ _ _ rfl]; rfl
  · exact ⟨[], junkh rfl (by simp)⟩
theorem ref_Ops_c (code : List Ins) (s : Value) (h : Heap) (hs : InsSl h s code) (hl : code.length < 4611686018427387904) : DF FF n_belatedref3_Ops [s] h = some (.int .i64 (countP memV code : Nat), h) := by
  refine fun_wpU F_belatedref3_Ops ?_
  simp only [c_belatedref3_Ops, C_ops, normal_some, E_nil, E_cons, next_some, ev_const, List.set_cons_succ, List.set_cons_zero, O_mv, List.cons_append, List.nil_append, List.length_cons, List.length_nil, Nat.reduceSub, Nat.zero_add, W_some, W_seq, W_block, Q_cont_normal, fillU_zero, fillU_succ]
  refine for_wp code.length (fun k st => ∃ j : Nat → Value, st = ⟨[s, j 1, j 2, .int .i64 (countP memV (code.take k) : Nat), .int .i64 k, j 5, j 6, j 7, j 8, j 9, j 10, j 11, j 12, j 13, j 14, j 15, j 16, j 17, j 18], h⟩) ?_ ?_ _ ?_
  · rintro k st hk ⟨j, rfl⟩
    obtain ⟨b, o, v, hp1, _, hp2⟩ := hs.at hk
    have h1 : (k : Int) < code.length := by omega
    have hc := countP_succ memV code hk
    have hle := countP_take memV code k
    cases hm : memV code[k]
    · rw [hm] at hc
      simp only [C_ops, C_cond, D_skip, normal_some, cond_tt, cond_ff, E_nil, E_cons, next_some, ev_tmp, ev_const, get_succ, get_zero, List.set_cons_succ, List.set_cons_zero, O_mv, O_bin, pairO, O_call, List.map_cons, List.map_nil, O_len, O_atRow, O_load, load_ptr, B_add, B_lss, W_some, W_seq, W_block, Q_cont_normal, Q_block_normal, Option.map_some, Q_for_normal, hs.len, h1, decide_true, hp1, hp2, ref_Memory_c, hm, wrap_nat (k := k) (by omega), hc, Bool.false_eq_true, if_false]
      exact junk rfl
    · rw [hm] at hc
      simp only [C_ops, C_cond, D_skip, normal_some, cond_tt, E_nil, E_cons, next_some, ev_tmp, ev_const, get_succ, get_zero, List.set_cons_succ, List.set_cons_zero, O_mv, O_bin, pairO, O_call, List.map_cons, List.map_nil, O_len, O_atRow, O_load, load_ptr, B_add, B_lss, W_some, W_seq, W_block, Q_cont_normal, Q_block_normal, Option.map_some, eq_self, Q_for_normal, hs.len, h1, decide_true, hp1, hp2, ref_Memory_c, hm, wrap_nat (k := k) (by omega), wrap_nat (k := countP memV (code.take k)) (by omega), hc, if_true]
      exact junk rfl
  · rintro st ⟨j, rfl⟩
    have h1 : ¬ ((code.length : Nat) : Int) < code.length := by omega
    simp only [C_ops, C_cond, D_exit, D_ret, normal_some, cond_ff, E_nil, E_cons, next_some, ev_tmp, get_succ, get_zero, List.set_cons_succ, List.set_cons_zero, O_mv, O_bin, pairO, O_len, B_lss, W_some, W_seq, Q_cont_normal, Q_cont_exit, Q_block_exit, Q_ret, eq_self, Q_for_exit, hs.len, h1, decide_false, List.take_length]
  · exact junk rfl
theorem ref_Branches_c (code : List Ins) (s : Value) (h : Heap) (hs : InsSl h s code) (hl : code.length < 4611686018427387904) : DF FF n_belatedref3_Branches [s] h = some (.int .i64 (countP isBr code : Nat), h) := by
  refine fun_wpU F_belatedref3_Branches ?_
  simp only [c_belatedref3_Branches, C_ops, normal_some, E_nil, E_cons, next_some, ev_const, List.set_cons_succ, List.set_cons_zero, O_mv, List.cons_append, List.nil_append, List.length_cons, List.length_nil, Nat.reduceSub, Nat.zero_add, W_some, W_seq, W_block, Q_cont_normal, fillU_zero, fillU_succ]
  refine for_wp code.length (fun k st => ∃ j : Nat → Value, st = ⟨[s, j 1, j 2, .int .i64 (countP isBr (code.take k) : Nat), .int .i64 k, j 5, j 6, j 7, j 8, j 9, j 10, j 11, j 12, j 13, j 14, j 15, j 16, j 17, j 18, j 19], h⟩) ?_ ?_ _ ?_
  · rintro k st hk ⟨j, rfl⟩
    obtain ⟨b, o, v, hp1, _, hp2⟩ := hs.at hk
    have hp3 := read1_of hp2 (insL_0 code[k])
    have h1 : (k : Int) < code.length := by omega
    have hc := countP_succ isBr code hk
    have hle := countP_take isBr code k
    cases hr : isBr code[k]
    · have hb : (code[k].op == 9) = false := hr
      rw [hr] at hc
      simp only [C_ops, C_cond, D_skip, normal_some, cond_tt, cond_ff, E_nil, E_cons, next_some, ev_tmp, ev_const, get_succ, get_zero, List.set_cons_succ, List.set_cons_zero, O_mv, O_bin, pairO, O_len, O_atRow, O_load1, load1_ptr, B_add, B_eql, B_lss, W_some, W_seq, W_block, Q_cont_normal, Q_block_normal, O_off, off_ptr, Nat.add_zero, Q_for_normal, hs.len, h1, decide_true, hp1, read1_of0 hp2 (insL_0 code[k]), hb, wrap_nat (k := k) (by omega), hc, Bool.false_eq_true, if_false]
      exact junk rfl
    · have hb : (code[k].op == 9) = true := hr
      rw [hr] at hc
      simp only [C_ops, C_cond, D_skip, normal_some, cond_tt, E_nil, E_cons, next_some, ev_tmp, ev_const, get_succ, get_zero, List.set_cons_succ, List.set_cons_zero, O_mv, O_bin, pairO, O_len, O_atRow, O_load1, load1_ptr, B_add, B_eql, B_lss, W_some, W_seq, W_block, Q_cont_normal, Q_block_normal, O_off, off_ptr, Nat.add_zero, eq_self, Q_for_normal, hs.len, h1, decide_true, hp1, read1_of0 hp2 (insL_0 code[k]), hb, wrap_nat (k := k) (by omega), wrap_nat (k := countP isBr (code.take k)) (by omega), hc, if_true]
      exact junk rfl
  · rintro st ⟨j, rfl⟩
    have h1 : ¬ ((code.length : Nat) : Int) < code.length := by omega
    simp only [C_ops, C_cond, D_exit, D_ret, normal_some, cond_ff, E_nil, E_cons, next_some, ev_tmp, get_succ, get_zero, List.set_cons_succ, List.set_cons_zero, O_mv, O_bin, pairO, O_len, B_lss, W_some, W_seq, Q_cont_normal, Q_cont_exit, Q_block_exit, Q_ret, eq_self, Q_for_exit, hs.len, h1, decide_false, List.take_length]
  · exact junk rfl
end Go.Proofs.Ytjodnadlplicmaa.AM
