/-
  What a number's text comes to.
  Conditions: strings below 2^32.
-/
import Derived.Test.YtfbldlgjlgcpoaaDoorSa2
namespace Go.Proofs.YtfbldlgjlgcpoaaDoor.AM
open Go.RowKit
set_option linter.unusedSimpArgs false
set_option linter.unusedVariables false

/-- A hexadecimal digit's value. -/
def hexV (n : Int) : Option Nat := if 48 ≤ n ∧ n ≤ 57 then some (n - 48).toNat else if 97 ≤ n ∧ n ≤ 102 then some (n - 87).toNat else if 65 ≤ n ∧ n ≤ 70 then some (n - 55).toNat else none
/-- What digits of a base come to, behind others. -/
def digN (b acc : Nat) : List UInt8 → Option Nat
  | [] => some acc
  | c :: r => match hexV (c.toNat : Int) with
    | some d => if d < b then digN b (acc * b + d) r else none
    | none => none
def isHex (w : List UInt8) : Bool := [48, 120].isPrefixOf w && decide (2 < w.length)
def baseV (w : List UInt8) : Nat := if isHex w then 16 else 10
def mostV (w : List UInt8) : Nat := if isHex w then 16 else 19
def digsV (w : List UInt8) : List UInt8 := if isHex w then w.drop 2 else w
/-- A number's value. -/
def numV (w : List UInt8) : Option Nat :=
  if (digsV w).length < 1 ∨ mostV w < (digsV w).length then none else match digN (baseV w) 0 (digsV w) with
    | some v => if v ≤ 9223372036854775808 then some v else none
    | none => none
theorem hexV_lt {n : Int} {d : Nat} (h : hexV n = some d) : d < 16 := by
  unfold hexV at h
  split at h
  · cases h; omega
  · split at h
    · cases h; omega
    · split at h
      · cases h; omega
      · cases h
theorem hexV_10 (c : UInt8) : (∃ d, hexV (c.toNat : Int) = some d ∧ d < 10) ↔ (48 ≤ c.toNat ∧ c.toNat ≤ 57) := by
  unfold hexV
  constructor
  · rintro ⟨d, h, hd⟩
    split at h
    · omega
    · split at h
      · cases h; omega
      · split at h
        · cases h; omega
        · cases h
  · intro h
    exact ⟨_, if_pos (by omega), by omega⟩
theorem dec_is : ∀ (l : List UInt8) (acc k : Nat), acc < 10 ^ k → k + l.length ≤ 19 → Lib.parseUintM (2 ^ 64 - 1) acc l = match digN 10 acc l with | some u => .ok u | none => .syntax
  | [], acc, k, _, _ => rfl
  | c :: r, acc, k, ha, hk => by
    rw [Lib.parseUintM, digN]
    by_cases hc : 48 ≤ c.toNat ∧ c.toNat ≤ 57
    · have h1 : hexV (c.toNat : Int) = some (c.toNat - 48) := by
        unfold hexV; rw [if_pos (by omega)]; congr 1; omega
      have hp : 10 ^ k ≤ 10 ^ 18 := Nat.pow_le_pow_right (by omega) (by simp at hk; omega)
      have h2 : ¬ 1844674407370955162 ≤ acc := by
        have : (10 : Nat) ^ 18 = 1000000000000000000 := by decide
        omega
      have h3 : ¬ (2 ^ 64 - 1 < acc * 10 + (c.toNat - 48)) := by
        have : (10 : Nat) ^ 18 = 1000000000000000000 := by decide
        have : (2 : Nat) ^ 64 - 1 = 18446744073709551615 := by decide
        omega
      rw [if_pos hc, if_neg h2, if_neg h3, h1]
      simp only
      rw [if_pos (by omega)]
      exact dec_is r _ (k + 1) (by rw [Nat.pow_succ]; omega) (by simp at hk; omega)
    · rw [if_neg hc]
      have := mt (hexV_10 c).1 hc
      cases hx : hexV (c.toNat : Int) with
      | none => rfl
      | some d =>
        simp only
        rw [if_neg fun hd => this ⟨d, hx, hd⟩]
theorem hexD_is : ∀ c : UInt8, hexD c = hexV (c.toNat : Int) := by
  have h : ((List.range 256).all fun n => hexD (UInt8.ofNat n) == hexV ((UInt8.ofNat n).toNat : Int)) = true := by kernel_rfl
  intro c
  have := List.all_eq_true.1 h c.toNat (by simp; exact c.toNat_lt)
  simpa using this
theorem hex_is : ∀ (l : List UInt8) (acc : Nat), hexN acc l = match digN 16 acc l with | some u => .ok u | none => .syntax
  | [], _ => rfl
  | c :: r, acc => by
    rw [hexN, digN, hexD_is]
    cases hx : hexV (c.toNat : Int) with
    | none => rfl
    | some d =>
      simp only
      rw [if_pos (hexV_lt hx)]
      exact hex_is r _
/-- What is parsed of digits. -/
theorem parse_10 (l : List UInt8) (h : l.length ≤ 19) : parseR 10 ⟨l.toArray⟩ = some (if l.length < 1 then none else digN 10 0 l) := by
  rw [parseR_10]
  show (match Lib.parseUintB 64 l with | .ok u => some (some u) | .syntax => some none | .range => none) = _
  unfold Lib.parseUintB
  by_cases h0 : l = []
  · subst h0; rfl
  · have : 0 < l.length := List.length_pos_iff.2 h0
    rw [if_neg h0, if_neg (by omega), dec_is l 0 0 (by decide) (by omega)]
    cases digN 10 0 l <;> rfl
theorem parse_16 (l : List UInt8) (h : l.length ≤ 16) : parseR 16 ⟨l.toArray⟩ = some (if l.length < 1 then none else digN 16 0 l) := by
  by_cases h0 : l.length = 0
  · rw [parseR_0 _ (by rw [size_str]; exact h0), if_pos (by omega)]
  · rw [parseR_16 _ (by rw [size_str]; exact h0) (by rw [size_str]; exact h), if_neg (by omega)]
    show (match hexN 0 l with | .ok u => some (some u) | .syntax => some none | .range => none) = _
    rw [hex_is]
    cases digN 16 0 l <;> rfl
theorem digN_bar (b : Nat) : ∀ (l : List UInt8) (acc : Nat), 0 ≤ Lib.index l [95] → digN b acc l = none
  | [], _, h => by simp [Lib.index] at h
  | c :: r, acc, h => by
    rw [Lib.index] at h
    rw [digN]
    by_cases hc : c = 95
    · subst hc; rfl
    · have hp : [95].isPrefixOf (c :: r) = false := by
        simp [List.isPrefixOf]; exact fun e => hc e.symm
      rw [hp] at h
      have hr : 0 ≤ Lib.index r [95] := by
        by_cases h1 : (Lib.index r [95] == -1) = true
        · rw [if_neg (by simp), if_pos h1] at h; omega
        · have := Lib.index_ge r [95]
          simp at h1; omega
      cases hexV (c.toNat : Int) with
      | none => rfl
      | some d =>
        simp only
        split
        · exact digN_bar b r _ hr
        · rfl
theorem leaf_nil : leafEq .iface .nilIface .nilIface = some true := rfl
theorem leaf_err : leafEq .iface anyErr .nilIface = some false := rfl
def numR (w : List UInt8) (v : Value) : Prop := ∃ m : Int, v = tup [.int .i64 m, .bool (numV w).isSome] ∧ ∀ u, numV w = some u → m = IntKind.i64.wrap u
/-- How the program goes about it. -/
def numV' (b most : Nat) (d : List UInt8) : Option Nat :=
  if most < d.length then none else match (if d.length < 1 then none else digN b 0 d) with
    | some v => if v ≤ 9223372036854775808 then some v else none
    | none => none
theorem numV_10 (w : List UInt8) (h : [48, 120].isPrefixOf w = false) : numV w = numV' 10 19 w := by
  have hh : isHex w = false := by unfold isHex; rw [h]; rfl
  unfold numV numV' digsV mostV baseV
  rw [hh]
  simp only [Bool.false_eq_true, if_false]
  by_cases h1 : w.length < 1
  · rw [if_pos (.inl h1), if_pos h1]; split <;> rfl
  · by_cases h2 : 19 < w.length
    · rw [if_pos (.inr h2), if_pos h2]
    · rw [if_neg (by omega), if_neg h2, if_neg h1]
theorem numV_16 (w : List UInt8) (h : [48, 120].isPrefixOf w = true) : numV w = numV' 16 16 (w.drop 2) := by
  by_cases hl : 2 < w.length
  · have hh : isHex w = true := by unfold isHex; rw [h]; simp [hl]
    unfold numV numV' digsV mostV baseV
    rw [hh]
    simp only [if_true]
    by_cases h1 : (w.drop 2).length < 1
    · rw [if_pos (.inl h1), if_pos h1]; split <;> rfl
    · by_cases h2 : 16 < (w.drop 2).length
      · rw [if_pos (.inr h2), if_pos h2]
      · rw [if_neg (by omega), if_neg h2, if_neg h1]
  · have hlen := pre_len h
    simp at hlen
    have hw : w = [48, 120] := by
      rw [List.isPrefixOf_iff_prefix] at h
      exact (h.eq_of_length (by simp; omega)).symm
    subst hw
    decide
theorem scan_number_c (w : List UInt8) {h : Heap} (g : Gl h) (hl : w.length < 4294967281) : ∃ v, DF FF n_scan_number [str w] h = some (v, h) ∧ numR w v := by
  cases hx : [48, 120].isPrefixOf w
  · by_cases hm : 19 < w.length
    · refine ⟨tup [.int .i64 0, .bool false], ?_, 0, by rw [numV_10 w hx]; unfold numV'; rw [if_pos hm]; rfl, by rw [numV_10 w hx]; unfold numV'; rw [if_pos hm]; intro u hu; cases hu⟩
      refine fun_wpU F_scan_number ?_
      have c1 : ((19 : Int) < (w.length : Int)) := by omega
      simp only [c_scan_number, C_ops, C_cond, D_exit, D_ret, D_skip, normal_some, cond_tt, cond_ff, E_nil, E_cons, E_guard, next_some, next_none, guard_tt, guard_ff, guard_tf, guard_ft, guard_tu, ev_tmp, ev_const, ev_global, ev_func, get_succ, get_zero, List.set_cons_succ, List.set_cons_zero, O_mv, O_pick, pickO, O_bin, pairO, O_un, O_conv, convO, O_call, List.map_cons, List.map_nil, O_len, len_slice, O_atRow, O_load1, load1_ptr, O_load, load_ptr, O_mkRow, O_build, mk_some, build_some, partsV_nil, partsV_cons, zeros_zero, zeros_succ, fill_nil, fill_int, fill_bool, fill_slice, fill_string, Nat.lt_add_one, Nat.zero_lt_succ, Nat.reduceLT, Nat.zero_lt_one, B_add, B_sub, B_mul, B_band, B_bor, B_bxor, B_bandNot, B_eql, B_neq, B_lss, B_leq, B_gtr, B_geq, B_shl', B_shr', B_rem, B_quo, U_not, U_neg, List.cons_append, List.nil_append, List.length_cons, List.length_nil, Nat.reduceAdd, Nat.reduceSub, Nat.zero_add, end_ret, end_normal, Bool.false_or, Bool.or_false, Bool.true_or, Bool.or_true, Bool.not_true, Bool.not_false, Bool.true_and, Bool.and_true, Bool.false_and, Bool.and_false, W_some, W_seq, W_block, Q_cont_normal, Q_cont_ret, Q_cont_exit, Q_block_normal, Q_block_ret, Q_block_exit, Q_loop_normal, Q_loop_ret, Q_loop_exit, Q_ret, Q_ret', slc, O_append, O_slice, cut_to, cut_from, cut_all, cut_mid, Option.map_none, O_alloc, O_box, O_atArr, arr_some, O_off, off_ptr, O_field, O_field1, field1_agg, pair_some, O_extract, extract_tup, wrote_some, O_store1, store1_int, store1_bool, store1_string, store1_slice, store1_ptr, store1_func, store1_nilFunc, store1_map, O_store, store_agg, O_nilCheck, nilCheck_ptr, nilCheck_func, read1_skip, read1_skip0, read1_next, read1_there, read_skip, read_skip0, read_next, read_there, pre_some, cons_some, write1_skip, write1_skip0, write1_next, write1_there, write_skip, write_skip0, write_next, write_there, fillU_zero, fillU_succ, List.append_assoc, List.length_append, List.append_nil, Int.toNat_natCast, Nat.mul_one, Nat.add_zero, Option.map_some, List.getElem?_cons_zero, List.getElem?_cons_succ, Q_ret2Q, Q_ret3Q, fin_int3, fin_ib, finish_same, Q_retEct, cellsTE_ptr, outTE_some, again1_int, again1_bool, again1_string, again1_slice, Q_out, O_max2, max_int, O_min2, min_int, Q_retE, Q_retE2, Q_retE3, Bool.bne_false, Bool.bne_true, beq_self_eq_true, Bool.true_beq, Bool.false_beq, O_eqv, eqv_bool, Int.reduceLE, Int.reduceLT, Int.reduceToNat, eq_self, arr_nat, row_nat, laid_agg, box_some, O_again, again_agg, O_again1, O_eqAgg, Q_for_normal, Q_for_exit, Q_for_ret, str_lit, store1_str, O_lenStr, lenStr_str, O_idxStr, O_sliceStr, B_eqlS, B_neqS, Option.map_none, Option.map_some, strings_cutPrefix_c, hx, if_false, Bool.false_eq_true, c1, decide_true, strings_contains_c _ _ g hl]
    · have c1 : ¬ ((19 : Int) < (w.length : Int)) := by omega
      cases hu : decide (0 ≤ Lib.index w [95]) with
      | true =>
        have hn : numV w = none := by
          rw [numV_10 w hx]; unfold numV'; rw [if_neg hm, digN_bar 10 w 0 (by simpa using hu)]; simp
        refine ⟨tup [.int .i64 0, .bool false], ?_, 0, by rw [hn]; rfl, by rw [hn]; intro u hu; cases hu⟩
        refine fun_wpU F_scan_number ?_
        simp only [c_scan_number, C_ops, C_cond, D_exit, D_ret, D_skip, normal_some, cond_tt, cond_ff, E_nil, E_cons, E_guard, next_some, next_none, guard_tt, guard_ff, guard_tf, guard_ft, guard_tu, ev_tmp, ev_const, ev_global, ev_func, get_succ, get_zero, List.set_cons_succ, List.set_cons_zero, O_mv, O_pick, pickO, O_bin, pairO, O_un, O_conv, convO, O_call, List.map_cons, List.map_nil, O_len, len_slice, O_atRow, O_load1, load1_ptr, O_load, load_ptr, O_mkRow, O_build, mk_some, build_some, partsV_nil, partsV_cons, zeros_zero, zeros_succ, fill_nil, fill_int, fill_bool, fill_slice, fill_string, Nat.lt_add_one, Nat.zero_lt_succ, Nat.reduceLT, Nat.zero_lt_one, B_add, B_sub, B_mul, B_band, B_bor, B_bxor, B_bandNot, B_eql, B_neq, B_lss, B_leq, B_gtr, B_geq, B_shl', B_shr', B_rem, B_quo, U_not, U_neg, List.cons_append, List.nil_append, List.length_cons, List.length_nil, Nat.reduceAdd, Nat.reduceSub, Nat.zero_add, end_ret, end_normal, Bool.false_or, Bool.or_false, Bool.true_or, Bool.or_true, Bool.not_true, Bool.not_false, Bool.true_and, Bool.and_true, Bool.false_and, Bool.and_false, W_some, W_seq, W_block, Q_cont_normal, Q_cont_ret, Q_cont_exit, Q_block_normal, Q_block_ret, Q_block_exit, Q_loop_normal, Q_loop_ret, Q_loop_exit, Q_ret, Q_ret', slc, O_append, O_slice, cut_to, cut_from, cut_all, cut_mid, Option.map_none, O_alloc, O_box, O_atArr, arr_some, O_off, off_ptr, O_field, O_field1, field1_agg, pair_some, O_extract, extract_tup, wrote_some, O_store1, store1_int, store1_bool, store1_string, store1_slice, store1_ptr, store1_func, store1_nilFunc, store1_map, O_store, store_agg, O_nilCheck, nilCheck_ptr, nilCheck_func, read1_skip, read1_skip0, read1_next, read1_there, read_skip, read_skip0, read_next, read_there, pre_some, cons_some, write1_skip, write1_skip0, write1_next, write1_there, write_skip, write_skip0, write_next, write_there, fillU_zero, fillU_succ, List.append_assoc, List.length_append, List.append_nil, Int.toNat_natCast, Nat.mul_one, Nat.add_zero, Option.map_some, List.getElem?_cons_zero, List.getElem?_cons_succ, Q_ret2Q, Q_ret3Q, fin_int3, fin_ib, finish_same, Q_retEct, cellsTE_ptr, outTE_some, again1_int, again1_bool, again1_string, again1_slice, Q_out, O_max2, max_int, O_min2, min_int, Q_retE, Q_retE2, Q_retE3, Bool.bne_false, Bool.bne_true, beq_self_eq_true, Bool.true_beq, Bool.false_beq, O_eqv, eqv_bool, Int.reduceLE, Int.reduceLT, Int.reduceToNat, eq_self, arr_nat, row_nat, laid_agg, box_some, O_again, again_agg, O_again1, O_eqAgg, Q_for_normal, Q_for_exit, Q_for_ret, str_lit, store1_str, O_lenStr, lenStr_str, O_idxStr, O_sliceStr, B_eqlS, B_neqS, Option.map_none, Option.map_some, strings_cutPrefix_c, hx, if_false, Bool.false_eq_true, c1, decide_false, strings_contains_c _ _ g hl, hu]
      | false =>
        have hp := strconv_parse_c w 10 g hl (parse_10 w (by omega))
        have hn : numV w = match (if w.length < 1 then none else digN 10 0 w) with | some v => if v ≤ 9223372036854775808 then some v else none | none => none := by
          rw [numV_10 w hx]; unfold numV'; rw [if_neg hm]
        generalize (if w.length < 1 then none else digN 10 0 w) = r at hp hn
        cases r with
        | none =>
          simp only at hn
          refine ⟨tup [.int .i64 0, .bool false], ?_, 0, by rw [hn]; rfl, by rw [hn]; intro u hu; cases hu⟩
          refine fun_wpU F_scan_number ?_
          simp only [c_scan_number, C_ops, C_cond, D_exit, D_ret, D_skip, normal_some, cond_tt, cond_ff, E_nil, E_cons, E_guard, next_some, next_none, guard_tt, guard_ff, guard_tf, guard_ft, guard_tu, ev_tmp, ev_const, ev_global, ev_func, get_succ, get_zero, List.set_cons_succ, List.set_cons_zero, O_mv, O_pick, pickO, O_bin, pairO, O_un, O_conv, convO, O_call, List.map_cons, List.map_nil, O_len, len_slice, O_atRow, O_load1, load1_ptr, O_load, load_ptr, O_mkRow, O_build, mk_some, build_some, partsV_nil, partsV_cons, zeros_zero, zeros_succ, fill_nil, fill_int, fill_bool, fill_slice, fill_string, Nat.lt_add_one, Nat.zero_lt_succ, Nat.reduceLT, Nat.zero_lt_one, B_add, B_sub, B_mul, B_band, B_bor, B_bxor, B_bandNot, B_eql, B_neq, B_lss, B_leq, B_gtr, B_geq, B_shl', B_shr', B_rem, B_quo, U_not, U_neg, List.cons_append, List.nil_append, List.length_cons, List.length_nil, Nat.reduceAdd, Nat.reduceSub, Nat.zero_add, end_ret, end_normal, Bool.false_or, Bool.or_false, Bool.true_or, Bool.or_true, Bool.not_true, Bool.not_false, Bool.true_and, Bool.and_true, Bool.false_and, Bool.and_false, W_some, W_seq, W_block, Q_cont_normal, Q_cont_ret, Q_cont_exit, Q_block_normal, Q_block_ret, Q_block_exit, Q_loop_normal, Q_loop_ret, Q_loop_exit, Q_ret, Q_ret', slc, O_append, O_slice, cut_to, cut_from, cut_all, cut_mid, Option.map_none, O_alloc, O_box, O_atArr, arr_some, O_off, off_ptr, O_field, O_field1, field1_agg, pair_some, O_extract, extract_tup, wrote_some, O_store1, store1_int, store1_bool, store1_string, store1_slice, store1_ptr, store1_func, store1_nilFunc, store1_map, O_store, store_agg, O_nilCheck, nilCheck_ptr, nilCheck_func, read1_skip, read1_skip0, read1_next, read1_there, read_skip, read_skip0, read_next, read_there, pre_some, cons_some, write1_skip, write1_skip0, write1_next, write1_there, write_skip, write_skip0, write_next, write_there, fillU_zero, fillU_succ, List.append_assoc, List.length_append, List.append_nil, Int.toNat_natCast, Nat.mul_one, Nat.add_zero, Option.map_some, List.getElem?_cons_zero, List.getElem?_cons_succ, Q_ret2Q, Q_ret3Q, fin_int3, fin_ib, finish_same, Q_retEct, cellsTE_ptr, outTE_some, again1_int, again1_bool, again1_string, again1_slice, Q_out, O_max2, max_int, O_min2, min_int, Q_retE, Q_retE2, Q_retE3, Bool.bne_false, Bool.bne_true, beq_self_eq_true, Bool.true_beq, Bool.false_beq, O_eqv, eqv_bool, Int.reduceLE, Int.reduceLT, Int.reduceToNat, eq_self, arr_nat, row_nat, laid_agg, box_some, O_again, again_agg, O_again1, O_eqAgg, Q_for_normal, Q_for_exit, Q_for_ret, str_lit, store1_str, O_lenStr, lenStr_str, O_idxStr, O_sliceStr, B_eqlS, B_neqS, Option.map_none, Option.map_some, strings_cutPrefix_c, hx, if_false, Bool.false_eq_true, c1, decide_false, strings_contains_c _ _ g hl, hu, hp, parseV, leaf_err, eqv_some]; rfl
        | some u =>
          simp only at hn
          by_cases hq : u ≤ 9223372036854775808
          · have c2 : ((u : Int) ≤ 9223372036854775808) = True := by simp; omega
            rw [if_pos hq] at hn
            refine ⟨tup [.int .i64 (IntKind.i64.wrap u), .bool true], ?_, _, by rw [hn]; rfl, by rw [hn]; intro u' hu'; cases hu'; rfl⟩
            refine fun_wpU F_scan_number ?_
            simp only [c_scan_number, C_ops, C_cond, D_exit, D_ret, D_skip, normal_some, cond_tt, cond_ff, E_nil, E_cons, E_guard, next_some, next_none, guard_tt, guard_ff, guard_tf, guard_ft, guard_tu, ev_tmp, ev_const, ev_global, ev_func, get_succ, get_zero, List.set_cons_succ, List.set_cons_zero, O_mv, O_pick, pickO, O_bin, pairO, O_un, O_conv, convO, O_call, List.map_cons, List.map_nil, O_len, len_slice, O_atRow, O_load1, load1_ptr, O_load, load_ptr, O_mkRow, O_build, mk_some, build_some, partsV_nil, partsV_cons, zeros_zero, zeros_succ, fill_nil, fill_int, fill_bool, fill_slice, fill_string, Nat.lt_add_one, Nat.zero_lt_succ, Nat.reduceLT, Nat.zero_lt_one, B_add, B_sub, B_mul, B_band, B_bor, B_bxor, B_bandNot, B_eql, B_neq, B_lss, B_leq, B_gtr, B_geq, B_shl', B_shr', B_rem, B_quo, U_not, U_neg, List.cons_append, List.nil_append, List.length_cons, List.length_nil, Nat.reduceAdd, Nat.reduceSub, Nat.zero_add, end_ret, end_normal, Bool.false_or, Bool.or_false, Bool.true_or, Bool.or_true, Bool.not_true, Bool.not_false, Bool.true_and, Bool.and_true, Bool.false_and, Bool.and_false, W_some, W_seq, W_block, Q_cont_normal, Q_cont_ret, Q_cont_exit, Q_block_normal, Q_block_ret, Q_block_exit, Q_loop_normal, Q_loop_ret, Q_loop_exit, Q_ret, Q_ret', slc, O_append, O_slice, cut_to, cut_from, cut_all, cut_mid, Option.map_none, O_alloc, O_box, O_atArr, arr_some, O_off, off_ptr, O_field, O_field1, field1_agg, pair_some, O_extract, extract_tup, wrote_some, O_store1, store1_int, store1_bool, store1_string, store1_slice, store1_ptr, store1_func, store1_nilFunc, store1_map, O_store, store_agg, O_nilCheck, nilCheck_ptr, nilCheck_func, read1_skip, read1_skip0, read1_next, read1_there, read_skip, read_skip0, read_next, read_there, pre_some, cons_some, write1_skip, write1_skip0, write1_next, write1_there, write_skip, write_skip0, write_next, write_there, fillU_zero, fillU_succ, List.append_assoc, List.length_append, List.append_nil, Int.toNat_natCast, Nat.mul_one, Nat.add_zero, Option.map_some, List.getElem?_cons_zero, List.getElem?_cons_succ, Q_ret2Q, Q_ret3Q, fin_int3, fin_ib, finish_same, Q_retEct, cellsTE_ptr, outTE_some, again1_int, again1_bool, again1_string, again1_slice, Q_out, O_max2, max_int, O_min2, min_int, Q_retE, Q_retE2, Q_retE3, Bool.bne_false, Bool.bne_true, beq_self_eq_true, Bool.true_beq, Bool.false_beq, O_eqv, eqv_bool, Int.reduceLE, Int.reduceLT, Int.reduceToNat, eq_self, arr_nat, row_nat, laid_agg, box_some, O_again, again_agg, O_again1, O_eqAgg, Q_for_normal, Q_for_exit, Q_for_ret, str_lit, store1_str, O_lenStr, lenStr_str, O_idxStr, O_sliceStr, B_eqlS, B_neqS, Option.map_none, Option.map_some, strings_cutPrefix_c, hx, if_false, Bool.false_eq_true, c1, decide_false, strings_contains_c _ _ g hl, hu, hp, parseV, leaf_nil, eqv_some, c2, decide_true, decide_false]
          · have c2 : ((u : Int) ≤ 9223372036854775808) = False := by simp; omega
            rw [if_neg hq] at hn
            refine ⟨tup [.int .i64 (IntKind.i64.wrap u), .bool false], ?_, _, by rw [hn]; rfl, by rw [hn]; intro u' hu'; cases hu'⟩
            refine fun_wpU F_scan_number ?_
            simp only [c_scan_number, C_ops, C_cond, D_exit, D_ret, D_skip, normal_some, cond_tt, cond_ff, E_nil, E_cons, E_guard, next_some, next_none, guard_tt, guard_ff, guard_tf, guard_ft, guard_tu, ev_tmp, ev_const, ev_global, ev_func, get_succ, get_zero, List.set_cons_succ, List.set_cons_zero, O_mv, O_pick, pickO, O_bin, pairO, O_un, O_conv, convO, O_call, List.map_cons, List.map_nil, O_len, len_slice, O_atRow, O_load1, load1_ptr, O_load, load_ptr, O_mkRow, O_build, mk_some, build_some, partsV_nil, partsV_cons, zeros_zero, zeros_succ, fill_nil, fill_int, fill_bool, fill_slice, fill_string, Nat.lt_add_one, Nat.zero_lt_succ, Nat.reduceLT, Nat.zero_lt_one, B_add, B_sub, B_mul, B_band, B_bor, B_bxor, B_bandNot, B_eql, B_neq, B_lss, B_leq, B_gtr, B_geq, B_shl', B_shr', B_rem, B_quo, U_not, U_neg, List.cons_append, List.nil_append, List.length_cons, List.length_nil, Nat.reduceAdd, Nat.reduceSub, Nat.zero_add, end_ret, end_normal, Bool.false_or, Bool.or_false, Bool.true_or, Bool.or_true, Bool.not_true, Bool.not_false, Bool.true_and, Bool.and_true, Bool.false_and, Bool.and_false, W_some, W_seq, W_block, Q_cont_normal, Q_cont_ret, Q_cont_exit, Q_block_normal, Q_block_ret, Q_block_exit, Q_loop_normal, Q_loop_ret, Q_loop_exit, Q_ret, Q_ret', slc, O_append, O_slice, cut_to, cut_from, cut_all, cut_mid, Option.map_none, O_alloc, O_box, O_atArr, arr_some, O_off, off_ptr, O_field, O_field1, field1_agg, pair_some, O_extract, extract_tup, wrote_some, O_store1, store1_int, store1_bool, store1_string, store1_slice, store1_ptr, store1_func, store1_nilFunc, store1_map, O_store, store_agg, O_nilCheck, nilCheck_ptr, nilCheck_func, read1_skip, read1_skip0, read1_next, read1_there, read_skip, read_skip0, read_next, read_there, pre_some, cons_some, write1_skip, write1_skip0, write1_next, write1_there, write_skip, write_skip0, write_next, write_there, fillU_zero, fillU_succ, List.append_assoc, List.length_append, List.append_nil, Int.toNat_natCast, Nat.mul_one, Nat.add_zero, Option.map_some, List.getElem?_cons_zero, List.getElem?_cons_succ, Q_ret2Q, Q_ret3Q, fin_int3, fin_ib, finish_same, Q_retEct, cellsTE_ptr, outTE_some, again1_int, again1_bool, again1_string, again1_slice, Q_out, O_max2, max_int, O_min2, min_int, Q_retE, Q_retE2, Q_retE3, Bool.bne_false, Bool.bne_true, beq_self_eq_true, Bool.true_beq, Bool.false_beq, O_eqv, eqv_bool, Int.reduceLE, Int.reduceLT, Int.reduceToNat, eq_self, arr_nat, row_nat, laid_agg, box_some, O_again, again_agg, O_again1, O_eqAgg, Q_for_normal, Q_for_exit, Q_for_ret, str_lit, store1_str, O_lenStr, lenStr_str, O_idxStr, O_sliceStr, B_eqlS, B_neqS, Option.map_none, Option.map_some, strings_cutPrefix_c, hx, if_false, Bool.false_eq_true, c1, decide_false, strings_contains_c _ _ g hl, hu, hp, parseV, leaf_nil, eqv_some, c2, decide_true, decide_false]
  · have hld : (w.drop 2).length < 4294967281 := by simp; omega
    by_cases hm : 16 < (w.drop 2).length
    · refine ⟨tup [.int .i64 0, .bool false], ?_, 0, by rw [numV_16 w hx]; unfold numV'; rw [if_pos hm]; rfl, by rw [numV_16 w hx]; unfold numV'; rw [if_pos hm]; intro u hu; cases hu⟩
      refine fun_wpU F_scan_number ?_
      have c1 : ((16 : Int) < ((w.drop 2).length : Int)) := by omega
      simp only [c_scan_number, C_ops, C_cond, D_exit, D_ret, D_skip, normal_some, cond_tt, cond_ff, E_nil, E_cons, E_guard, next_some, next_none, guard_tt, guard_ff, guard_tf, guard_ft, guard_tu, ev_tmp, ev_const, ev_global, ev_func, get_succ, get_zero, List.set_cons_succ, List.set_cons_zero, O_mv, O_pick, pickO, O_bin, pairO, O_un, O_conv, convO, O_call, List.map_cons, List.map_nil, O_len, len_slice, O_atRow, O_load1, load1_ptr, O_load, load_ptr, O_mkRow, O_build, mk_some, build_some, partsV_nil, partsV_cons, zeros_zero, zeros_succ, fill_nil, fill_int, fill_bool, fill_slice, fill_string, Nat.lt_add_one, Nat.zero_lt_succ, Nat.reduceLT, Nat.zero_lt_one, B_add, B_sub, B_mul, B_band, B_bor, B_bxor, B_bandNot, B_eql, B_neq, B_lss, B_leq, B_gtr, B_geq, B_shl', B_shr', B_rem, B_quo, U_not, U_neg, List.cons_append, List.nil_append, List.length_cons, List.length_nil, Nat.reduceAdd, Nat.reduceSub, Nat.zero_add, end_ret, end_normal, Bool.false_or, Bool.or_false, Bool.true_or, Bool.or_true, Bool.not_true, Bool.not_false, Bool.true_and, Bool.and_true, Bool.false_and, Bool.and_false, W_some, W_seq, W_block, Q_cont_normal, Q_cont_ret, Q_cont_exit, Q_block_normal, Q_block_ret, Q_block_exit, Q_loop_normal, Q_loop_ret, Q_loop_exit, Q_ret, Q_ret', slc, O_append, O_slice, cut_to, cut_from, cut_all, cut_mid, Option.map_none, O_alloc, O_box, O_atArr, arr_some, O_off, off_ptr, O_field, O_field1, field1_agg, pair_some, O_extract, extract_tup, wrote_some, O_store1, store1_int, store1_bool, store1_string, store1_slice, store1_ptr, store1_func, store1_nilFunc, store1_map, O_store, store_agg, O_nilCheck, nilCheck_ptr, nilCheck_func, read1_skip, read1_skip0, read1_next, read1_there, read_skip, read_skip0, read_next, read_there, pre_some, cons_some, write1_skip, write1_skip0, write1_next, write1_there, write_skip, write_skip0, write_next, write_there, fillU_zero, fillU_succ, List.append_assoc, List.length_append, List.append_nil, Int.toNat_natCast, Nat.mul_one, Nat.add_zero, Option.map_some, List.getElem?_cons_zero, List.getElem?_cons_succ, Q_ret2Q, Q_ret3Q, fin_int3, fin_ib, finish_same, Q_retEct, cellsTE_ptr, outTE_some, again1_int, again1_bool, again1_string, again1_slice, Q_out, O_max2, max_int, O_min2, min_int, Q_retE, Q_retE2, Q_retE3, Bool.bne_false, Bool.bne_true, beq_self_eq_true, Bool.true_beq, Bool.false_beq, O_eqv, eqv_bool, Int.reduceLE, Int.reduceLT, Int.reduceToNat, eq_self, arr_nat, row_nat, laid_agg, box_some, O_again, again_agg, O_again1, O_eqAgg, Q_for_normal, Q_for_exit, Q_for_ret, str_lit, store1_str, O_lenStr, lenStr_str, O_idxStr, O_sliceStr, B_eqlS, B_neqS, Option.map_none, Option.map_some, strings_cutPrefix_c, hx, if_true, c1, decide_true, strings_contains_c _ _ g hld]
    · have c1 : ¬ ((16 : Int) < ((w.drop 2).length : Int)) := by omega
      cases hu : decide (0 ≤ Lib.index (w.drop 2) [95]) with
      | true =>
        have hn : numV w = none := by
          rw [numV_16 w hx]; unfold numV'; rw [if_neg hm, digN_bar 16 _ 0 (by simpa using hu)]; simp
        refine ⟨tup [.int .i64 0, .bool false], ?_, 0, by rw [hn]; rfl, by rw [hn]; intro u hu; cases hu⟩
        refine fun_wpU F_scan_number ?_
        simp only [c_scan_number, C_ops, C_cond, D_exit, D_ret, D_skip, normal_some, cond_tt, cond_ff, E_nil, E_cons, E_guard, next_some, next_none, guard_tt, guard_ff, guard_tf, guard_ft, guard_tu, ev_tmp, ev_const, ev_global, ev_func, get_succ, get_zero, List.set_cons_succ, List.set_cons_zero, O_mv, O_pick, pickO, O_bin, pairO, O_un, O_conv, convO, O_call, List.map_cons, List.map_nil, O_len, len_slice, O_atRow, O_load1, load1_ptr, O_load, load_ptr, O_mkRow, O_build, mk_some, build_some, partsV_nil, partsV_cons, zeros_zero, zeros_succ, fill_nil, fill_int, fill_bool, fill_slice, fill_string, Nat.lt_add_one, Nat.zero_lt_succ, Nat.reduceLT, Nat.zero_lt_one, B_add, B_sub, B_mul, B_band, B_bor, B_bxor, B_bandNot, B_eql, B_neq, B_lss, B_leq, B_gtr, B_geq, B_shl', B_shr', B_rem, B_quo, U_not, U_neg, List.cons_append, List.nil_append, List.length_cons, List.length_nil, Nat.reduceAdd, Nat.reduceSub, Nat.zero_add, end_ret, end_normal, Bool.false_or, Bool.or_false, Bool.true_or, Bool.or_true, Bool.not_true, Bool.not_false, Bool.true_and, Bool.and_true, Bool.false_and, Bool.and_false, W_some, W_seq, W_block, Q_cont_normal, Q_cont_ret, Q_cont_exit, Q_block_normal, Q_block_ret, Q_block_exit, Q_loop_normal, Q_loop_ret, Q_loop_exit, Q_ret, Q_ret', slc, O_append, O_slice, cut_to, cut_from, cut_all, cut_mid, Option.map_none, O_alloc, O_box, O_atArr, arr_some, O_off, off_ptr, O_field, O_field1, field1_agg, pair_some, O_extract, extract_tup, wrote_some, O_store1, store1_int, store1_bool, store1_string, store1_slice, store1_ptr, store1_func, store1_nilFunc, store1_map, O_store, store_agg, O_nilCheck, nilCheck_ptr, nilCheck_func, read1_skip, read1_skip0, read1_next, read1_there, read_skip, read_skip0, read_next, read_there, pre_some, cons_some, write1_skip, write1_skip0, write1_next, write1_there, write_skip, write_skip0, write_next, write_there, fillU_zero, fillU_succ, List.append_assoc, List.length_append, List.append_nil, Int.toNat_natCast, Nat.mul_one, Nat.add_zero, Option.map_some, List.getElem?_cons_zero, List.getElem?_cons_succ, Q_ret2Q, Q_ret3Q, fin_int3, fin_ib, finish_same, Q_retEct, cellsTE_ptr, outTE_some, again1_int, again1_bool, again1_string, again1_slice, Q_out, O_max2, max_int, O_min2, min_int, Q_retE, Q_retE2, Q_retE3, Bool.bne_false, Bool.bne_true, beq_self_eq_true, Bool.true_beq, Bool.false_beq, O_eqv, eqv_bool, Int.reduceLE, Int.reduceLT, Int.reduceToNat, eq_self, arr_nat, row_nat, laid_agg, box_some, O_again, again_agg, O_again1, O_eqAgg, Q_for_normal, Q_for_exit, Q_for_ret, str_lit, store1_str, O_lenStr, lenStr_str, O_idxStr, O_sliceStr, B_eqlS, B_neqS, Option.map_none, Option.map_some, strings_cutPrefix_c, hx, if_true, c1, decide_false, strings_contains_c _ _ g hld, hu]
      | false =>
        have hp := strconv_parse_c (w.drop 2) 16 g hld (parse_16 _ (by omega))
        have hn : numV w = match (if (w.drop 2).length < 1 then none else digN 16 0 (w.drop 2)) with | some v => if v ≤ 9223372036854775808 then some v else none | none => none := by
          rw [numV_16 w hx]; unfold numV'; rw [if_neg hm]
        generalize (if (w.drop 2).length < 1 then none else digN 16 0 (w.drop 2)) = r at hp hn
        cases r with
        | none =>
          simp only at hn
          refine ⟨tup [.int .i64 0, .bool false], ?_, 0, by rw [hn]; rfl, by rw [hn]; intro u hu; cases hu⟩
          refine fun_wpU F_scan_number ?_
          simp only [c_scan_number, C_ops, C_cond, D_exit, D_ret, D_skip, normal_some, cond_tt, cond_ff, E_nil, E_cons, E_guard, next_some, next_none, guard_tt, guard_ff, guard_tf, guard_ft, guard_tu, ev_tmp, ev_const, ev_global, ev_func, get_succ, get_zero, List.set_cons_succ, List.set_cons_zero, O_mv, O_pick, pickO, O_bin, pairO, O_un, O_conv, convO, O_call, List.map_cons, List.map_nil, O_len, len_slice, O_atRow, O_load1, load1_ptr, O_load, load_ptr, O_mkRow, O_build, mk_some, build_some, partsV_nil, partsV_cons, zeros_zero, zeros_succ, fill_nil, fill_int, fill_bool, fill_slice, fill_string, Nat.lt_add_one, Nat.zero_lt_succ, Nat.reduceLT, Nat.zero_lt_one, B_add, B_sub, B_mul, B_band, B_bor, B_bxor, B_bandNot, B_eql, B_neq, B_lss, B_leq, B_gtr, B_geq, B_shl', B_shr', B_rem, B_quo, U_not, U_neg, List.cons_append, List.nil_append, List.length_cons, List.length_nil, Nat.reduceAdd, Nat.reduceSub, Nat.zero_add, end_ret, end_normal, Bool.false_or, Bool.or_false, Bool.true_or, Bool.or_true, Bool.not_true, Bool.not_false, Bool.true_and, Bool.and_true, Bool.false_and, Bool.and_false, W_some, W_seq, W_block, Q_cont_normal, Q_cont_ret, Q_cont_exit, Q_block_normal, Q_block_ret, Q_block_exit, Q_loop_normal, Q_loop_ret, Q_loop_exit, Q_ret, Q_ret', slc, O_append, O_slice, cut_to, cut_from, cut_all, cut_mid, Option.map_none, O_alloc, O_box, O_atArr, arr_some, O_off, off_ptr, O_field, O_field1, field1_agg, pair_some, O_extract, extract_tup, wrote_some, O_store1, store1_int, store1_bool, store1_string, store1_slice, store1_ptr, store1_func, store1_nilFunc, store1_map, O_store, store_agg, O_nilCheck, nilCheck_ptr, nilCheck_func, read1_skip, read1_skip0, read1_next, read1_there, read_skip, read_skip0, read_next, read_there, pre_some, cons_some, write1_skip, write1_skip0, write1_next, write1_there, write_skip, write_skip0, write_next, write_there, fillU_zero, fillU_succ, List.append_assoc, List.length_append, List.append_nil, Int.toNat_natCast, Nat.mul_one, Nat.add_zero, Option.map_some, List.getElem?_cons_zero, List.getElem?_cons_succ, Q_ret2Q, Q_ret3Q, fin_int3, fin_ib, finish_same, Q_retEct, cellsTE_ptr, outTE_some, again1_int, again1_bool, again1_string, again1_slice, Q_out, O_max2, max_int, O_min2, min_int, Q_retE, Q_retE2, Q_retE3, Bool.bne_false, Bool.bne_true, beq_self_eq_true, Bool.true_beq, Bool.false_beq, O_eqv, eqv_bool, Int.reduceLE, Int.reduceLT, Int.reduceToNat, eq_self, arr_nat, row_nat, laid_agg, box_some, O_again, again_agg, O_again1, O_eqAgg, Q_for_normal, Q_for_exit, Q_for_ret, str_lit, store1_str, O_lenStr, lenStr_str, O_idxStr, O_sliceStr, B_eqlS, B_neqS, Option.map_none, Option.map_some, strings_cutPrefix_c, hx, if_true, c1, decide_false, strings_contains_c _ _ g hld, hu, hp, parseV, leaf_err, eqv_some]; rfl
        | some u =>
          simp only at hn
          by_cases hq : u ≤ 9223372036854775808
          · have c2 : ((u : Int) ≤ 9223372036854775808) = True := by simp; omega
            rw [if_pos hq] at hn
            refine ⟨tup [.int .i64 (IntKind.i64.wrap u), .bool true], ?_, _, by rw [hn]; rfl, by rw [hn]; intro u' hu'; cases hu'; rfl⟩
            refine fun_wpU F_scan_number ?_
            simp only [c_scan_number, C_ops, C_cond, D_exit, D_ret, D_skip, normal_some, cond_tt, cond_ff, E_nil, E_cons, E_guard, next_some, next_none, guard_tt, guard_ff, guard_tf, guard_ft, guard_tu, ev_tmp, ev_const, ev_global, ev_func, get_succ, get_zero, List.set_cons_succ, List.set_cons_zero, O_mv, O_pick, pickO, O_bin, pairO, O_un, O_conv, convO, O_call, List.map_cons, List.map_nil, O_len, len_slice, O_atRow, O_load1, load1_ptr, O_load, load_ptr, O_mkRow, O_build, mk_some, build_some, partsV_nil, partsV_cons, zeros_zero, zeros_succ, fill_nil, fill_int, fill_bool, fill_slice, fill_string, Nat.lt_add_one, Nat.zero_lt_succ, Nat.reduceLT, Nat.zero_lt_one, B_add, B_sub, B_mul, B_band, B_bor, B_bxor, B_bandNot, B_eql, B_neq, B_lss, B_leq, B_gtr, B_geq, B_shl', B_shr', B_rem, B_quo, U_not, U_neg, List.cons_append, List.nil_append, List.length_cons, List.length_nil, Nat.reduceAdd, Nat.reduceSub, Nat.zero_add, end_ret, end_normal, Bool.false_or, Bool.or_false, Bool.true_or, Bool.or_true, Bool.not_true, Bool.not_false, Bool.true_and, Bool.and_true, Bool.false_and, Bool.and_false, W_some, W_seq, W_block, Q_cont_normal, Q_cont_ret, Q_cont_exit, Q_block_normal, Q_block_ret, Q_block_exit, Q_loop_normal, Q_loop_ret, Q_loop_exit, Q_ret, Q_ret', slc, O_append, O_slice, cut_to, cut_from, cut_all, cut_mid, Option.map_none, O_alloc, O_box, O_atArr, arr_some, O_off, off_ptr, O_field, O_field1, field1_agg, pair_some, O_extract, extract_tup, wrote_some, O_store1, store1_int, store1_bool, store1_string, store1_slice, store1_ptr, store1_func, store1_nilFunc, store1_map, O_store, store_agg, O_nilCheck, nilCheck_ptr, nilCheck_func, read1_skip, read1_skip0, read1_next, read1_there, read_skip, read_skip0, read_next, read_there, pre_some, cons_some, write1_skip, write1_skip0, write1_next, write1_there, write_skip, write_skip0, write_next, write_there, fillU_zero, fillU_succ, List.append_assoc, List.length_append, List.append_nil, Int.toNat_natCast, Nat.mul_one, Nat.add_zero, Option.map_some, List.getElem?_cons_zero, List.getElem?_cons_succ, Q_ret2Q, Q_ret3Q, fin_int3, fin_ib, finish_same, Q_retEct, cellsTE_ptr, outTE_some, again1_int, again1_bool, again1_string, again1_slice, Q_out, O_max2, max_int, O_min2, min_int, Q_retE, Q_retE2, Q_retE3, Bool.bne_false, Bool.bne_true, beq_self_eq_true, Bool.true_beq, Bool.false_beq, O_eqv, eqv_bool, Int.reduceLE, Int.reduceLT, Int.reduceToNat, eq_self, arr_nat, row_nat, laid_agg, box_some, O_again, again_agg, O_again1, O_eqAgg, Q_for_normal, Q_for_exit, Q_for_ret, str_lit, store1_str, O_lenStr, lenStr_str, O_idxStr, O_sliceStr, B_eqlS, B_neqS, Option.map_none, Option.map_some, strings_cutPrefix_c, hx, if_true, c1, decide_false, strings_contains_c _ _ g hld, hu, hp, parseV, leaf_nil, eqv_some, c2, decide_true, decide_false]
          · have c2 : ((u : Int) ≤ 9223372036854775808) = False := by simp; omega
            rw [if_neg hq] at hn
            refine ⟨tup [.int .i64 (IntKind.i64.wrap u), .bool false], ?_, _, by rw [hn]; rfl, by rw [hn]; intro u' hu'; cases hu'⟩
            refine fun_wpU F_scan_number ?_
            simp only [c_scan_number, C_ops, C_cond, D_exit, D_ret, D_skip, normal_some, cond_tt, cond_ff, E_nil, E_cons, E_guard, next_some, next_none, guard_tt, guard_ff, guard_tf, guard_ft, guard_tu, ev_tmp, ev_const, ev_global, ev_func, get_succ, get_zero, List.set_cons_succ, List.set_cons_zero, O_mv, O_pick, pickO, O_bin, pairO, O_un, O_conv, convO, O_call, List.map_cons, List.map_nil, O_len, len_slice, O_atRow, O_load1, load1_ptr, O_load, load_ptr, O_mkRow, O_build, mk_some, build_some, partsV_nil, partsV_cons, zeros_zero, zeros_succ, fill_nil, fill_int, fill_bool, fill_slice, fill_string, Nat.lt_add_one, Nat.zero_lt_succ, Nat.reduceLT, Nat.zero_lt_one, B_add, B_sub, B_mul, B_band, B_bor, B_bxor, B_bandNot, B_eql, B_neq, B_lss, B_leq, B_gtr, B_geq, B_shl', B_shr', B_rem, B_quo, U_not, U_neg, List.cons_append, List.nil_append, List.length_cons, List.length_nil, Nat.reduceAdd, Nat.reduceSub, Nat.zero_add, end_ret, end_normal, Bool.false_or, Bool.or_false, Bool.true_or, Bool.or_true, Bool.not_true, Bool.not_false, Bool.true_and, Bool.and_true, Bool.false_and, Bool.and_false, W_some, W_seq, W_block, Q_cont_normal, Q_cont_ret, Q_cont_exit, Q_block_normal, Q_block_ret, Q_block_exit, Q_loop_normal, Q_loop_ret, Q_loop_exit, Q_ret, Q_ret', slc, O_append, O_slice, cut_to, cut_from, cut_all, cut_mid, Option.map_none, O_alloc, O_box, O_atArr, arr_some, O_off, off_ptr, O_field, O_field1, field1_agg, pair_some, O_extract, extract_tup, wrote_some, O_store1, store1_int, store1_bool, store1_string, store1_slice, store1_ptr, store1_func, store1_nilFunc, store1_map, O_store, store_agg, O_nilCheck, nilCheck_ptr, nilCheck_func, read1_skip, read1_skip0, read1_next, read1_there, read_skip, read_skip0, read_next, read_there, pre_some, cons_some, write1_skip, write1_skip0, write1_next, write1_there, write_skip, write_skip0, write_next, write_there, fillU_zero, fillU_succ, List.append_assoc, List.length_append, List.append_nil, Int.toNat_natCast, Nat.mul_one, Nat.add_zero, Option.map_some, List.getElem?_cons_zero, List.getElem?_cons_succ, Q_ret2Q, Q_ret3Q, fin_int3, fin_ib, finish_same, Q_retEct, cellsTE_ptr, outTE_some, again1_int, again1_bool, again1_string, again1_slice, Q_out, O_max2, max_int, O_min2, min_int, Q_retE, Q_retE2, Q_retE3, Bool.bne_false, Bool.bne_true, beq_self_eq_true, Bool.true_beq, Bool.false_beq, O_eqv, eqv_bool, Int.reduceLE, Int.reduceLT, Int.reduceToNat, eq_self, arr_nat, row_nat, laid_agg, box_some, O_again, again_agg, O_again1, O_eqAgg, Q_for_normal, Q_for_exit, Q_for_ret, str_lit, store1_str, O_lenStr, lenStr_str, O_idxStr, O_sliceStr, B_eqlS, B_neqS, Option.map_none, Option.map_some, strings_cutPrefix_c, hx, if_true, c1, decide_false, strings_contains_c _ _ g hld, hu, hp, parseV, leaf_nil, eqv_some, c2, decide_true, decide_false]
end Go.Proofs.YtfbldlgjlgcpoaaDoor.AM
