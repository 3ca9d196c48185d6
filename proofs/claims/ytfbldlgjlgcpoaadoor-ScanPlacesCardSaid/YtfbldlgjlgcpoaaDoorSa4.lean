/-
  The words of a text, purely; the document's small functions.
  Conditions: texts below 2^62.
-/
import Derived.Test.YtfbldlgjlgcpoaaDoorSa3
namespace Go.Proofs.YtfbldlgjlgcpoaaDoor.AM
open Go.RowKit
set_option linter.unusedSimpArgs false
set_option linter.unusedVariables false

def blkB (n : Int) : Bool := (n == 32 || n == 9) || n == 10
/-- How far a remark's end is. -/
def remK : List UInt8 → Nat
  | c :: d :: l => if ((c.toNat : Int) == 42 && (d.toNat : Int) == 41) then 0 else remK (d :: l) + 1
  | _ => 0
inductive Skip
  | no
  | go (k : Nat)
  | err
/-- A blank or a remark ahead. -/
def skipV : List UInt8 → Skip
  | [] => .no
  | c :: s => if blkB (c.toNat : Int) then .go 1 else if [40, 42].isPrefixOf (c :: s) then (if remK (s.drop 1) + 1 < (s.drop 1).length then .go (remK (s.drop 1) + 4) else .err) else .no
def marksL : List UInt8 := [123, 125, 40, 41, 91, 93, 59, 124, 44, 58, 61, 43, 45, 35, 36, 126, 42, 47, 92, 38, 63, 94]
def markB (c : UInt8) : Bool := marksL.contains c
inductive Word
  | word (kind len : Nat) (n : Int)
  | bad (c : Nat)
/-- The word ahead. -/
def wordV (s : List UInt8) : Word := match s with
  | [] => .bad 20
  | c :: _ => if digV (c.toNat : Int) then (match numV (s.take (rowN numB s)) with
      | some n => .word 2 (rowN numB s) (IntKind.i64.wrap n)
      | none => .bad 23)
    else if letV (c.toNat : Int) || (c.toNat : Int) == 95 then .word 1 (rowN namB s) 0
    else if [47, 92].isPrefixOf s || [92, 47].isPrefixOf s then .word 3 2 0
    else if markB c then .word 3 1 0
    else .bad 20
structure Tok where
  kind : Nat
  text : List UInt8
  n : Int
  at_ : Nat
def tokRow (t : Tok) : List Value := [.int .i64 (t.kind : Int), str t.text, .int .i64 t.n, .int .i64 (t.at_ : Int)]
inductive Res
  | ok (l : List Tok)
  | bad (c at_ : Nat)
def Res.pre (l : List Tok) : Res → Res
  | .ok m => .ok (l ++ m)
  | .bad c a => .bad c a
def scanF : Nat → List UInt8 → Nat → Res
  | 0, _, _ => .ok []
  | f + 1, s, a => if s = [] then .ok [] else match skipV s with
    | .go k => scanF f (s.drop k) (a + k)
    | .err => .bad 24 a
    | .no => match wordV s with
      | .word kd k n => (scanF f (s.drop k) (a + k)).pre [⟨kd, s.take k, n, a⟩]
      | .bad c => .bad c a
theorem Res.pre_pre (a b : List Tok) (r : Res) : (r.pre b).pre a = r.pre (a ++ b) := by cases r <;> simp [Res.pre]
theorem skipV_pos {s : List UInt8} {k : Nat} (h : skipV s = .go k) : 1 ≤ k ∧ k ≤ s.length := by
  cases s with
  | nil => cases h
  | cons c s =>
    rw [skipV] at h
    split at h
    · cases h; simp
    · split at h
      · split at h
        · cases h; simp at *; omega
        · cases h
      · cases h
theorem rowN_pos {p : Int → Bool} {c : UInt8} {s : List UInt8} (h : p (c.toNat : Int) = true) : 1 ≤ rowN p (c :: s) := by
  rw [rowN, if_pos h]; omega
theorem wordV_pos {s : List UInt8} {kd k : Nat} {n : Int} (h : wordV s = .word kd k n) : 1 ≤ k ∧ k ≤ s.length := by
  cases s with
  | nil => cases h
  | cons c s =>
    rw [wordV] at h
    split at h
    · rename_i hc
      split at h
      · cases h
        exact ⟨rowN_pos (by unfold numB; rw [hc]; simp), rowN_le _ _⟩
      · cases h
    · split at h
      · rename_i hc
        cases h
        refine ⟨rowN_pos ?_, rowN_le _ _⟩
        unfold namB numB
        rcases Bool.or_eq_true_iff.1 hc with hc | hc <;> simp [hc]
      · split at h
        · rename_i hp
          cases h
          refine ⟨by omega, ?_⟩
          rcases Bool.or_eq_true_iff.1 hp with hp | hp <;> simpa using pre_len hp
        · split at h
          · cases h; simp
          · cases h
theorem scanF_enough : ∀ (f f' : Nat) (s : List UInt8) (a : Nat), s.length ≤ f → s.length ≤ f' → scanF f s a = scanF f' s a
  | 0, f', s, a, h, h' => by
    have : s = [] := List.eq_nil_of_length_eq_zero (by omega)
    subst this
    cases f' <;> simp [scanF]
  | f + 1, 0, s, a, h, h' => by
    have : s = [] := List.eq_nil_of_length_eq_zero (by omega)
    subst this
    simp [scanF]
  | f + 1, f' + 1, s, a, h, h' => by
    rw [scanF, scanF]
    by_cases hs : s = []
    · rw [if_pos hs, if_pos hs]
    · rw [if_neg hs, if_neg hs]
      cases hk : skipV s with
      | go k =>
        have := skipV_pos hk
        exact scanF_enough f f' _ _ (by simp; omega) (by simp; omega)
      | err => rfl
      | no =>
        cases hw : wordV s with
        | word kd k n =>
          have := wordV_pos hw
          simp only
          rw [scanF_enough f f' _ _ (by simp; omega) (by simp; omega)]
        | bad c => rfl
/-- The words of a text from a place on. -/
def scanR (s : List UInt8) (a : Nat) : Res := scanF s.length s a
theorem scanR_nil (a : Nat) : scanR [] a = .ok [] := rfl
theorem scanR_eq {s : List UInt8} (hs : s ≠ []) (a : Nat) : scanR s a = match skipV s with
    | .go k => scanR (s.drop k) (a + k)
    | .err => .bad 24 a
    | .no => match wordV s with
      | .word kd k n => (scanR (s.drop k) (a + k)).pre [⟨kd, s.take k, n, a⟩]
      | .bad c => .bad c a := by
  unfold scanR
  have hp : 0 < s.length := List.length_pos_iff.2 hs
  obtain ⟨m, hm⟩ : ∃ m, s.length = m + 1 := ⟨s.length - 1, by omega⟩
  rw [hm, scanF, if_neg hs]
  cases hk : skipV s with
  | go k =>
    have := skipV_pos hk
    exact scanF_enough _ _ _ _ (by simp; omega) (by simp)
  | err => rfl
  | no =>
    cases hw : wordV s with
    | word kd k n =>
      have := wordV_pos hw
      simp only
      rw [scanF_enough _ _ _ _ (by simp; omega) (Nat.le_refl _)]
    | bad c => rfl
theorem drop_cons {l : List UInt8} {a : Nat} (ha : a < l.length) : l.drop a = l[a] :: l.drop (a + 1) := List.drop_eq_getElem_cons ha
theorem u8_eq (c d : UInt8) : ((c.toNat : Int) == (d.toNat : Int)) = (c == d) := by
  rw [Bool.eq_iff_iff, beq_iff_eq, beq_iff_eq]
  constructor
  · intro h; exact UInt8.toNat_inj.1 (by omega)
  · intro h; rw [h]
theorem pre2_yes {l : List UInt8} {a : Nat} (ha : a + 1 < l.length) (x y : UInt8) : [x, y].isPrefixOf (l.drop a) = ((l[a]'(by omega)).toNat == x.toNat && (l[a + 1]).toNat == y.toNat) := by
  rw [drop_cons (by omega), drop_cons ha]
  simp only [List.isPrefixOf, Bool.and_true]
  congr 1
  · rw [Bool.eq_iff_iff, beq_iff_eq, beq_iff_eq, ← UInt8.toNat_inj]; exact eq_comm
  · rw [Bool.eq_iff_iff, beq_iff_eq, beq_iff_eq, ← UInt8.toNat_inj]; exact eq_comm
theorem pre2_no {l : List UInt8} {a : Nat} (ha : l.length ≤ a + 1) (x y : UInt8) : [x, y].isPrefixOf (l.drop a) = false := pre_short _ _ (by simp; omega)
theorem remK_at : ∀ (l : List UInt8) (k : Nat), k ≤ remK l → ((∃ h : k + 1 < l.length, ((l[k]'(by omega)).toNat == (42 : Int) && (l[k + 1].toNat : Int) == 41) = false) ↔ k < remK l)
  | [], k, h => by simp [remK] at h ⊢
  | [c], k, h => by simp [remK] at h ⊢
  | c :: d :: l, 0, h => by
    rw [remK]
    constructor
    · rintro ⟨h1, h2⟩
      simp only [List.getElem_cons_zero, List.getElem_cons_succ] at h2
      rw [h2]; simp
    · intro h1
      refine ⟨by simp, ?_⟩
      simp only [List.getElem_cons_zero, List.getElem_cons_succ]
      rw [← Bool.not_eq_true]
      intro h2
      rw [if_pos h2] at h1; omega
  | c :: d :: l, k + 1, h => by
    rw [remK] at h ⊢
    split at h
    · omega
    · rename_i hc
      rw [if_neg hc]
      have := remK_at (d :: l) k (by omega)
      constructor
      · rintro ⟨h1, h2⟩
        have := this.1 ⟨by simp at h1 ⊢; omega, by simpa using h2⟩
        omega
      · intro h1
        obtain ⟨h2, h3⟩ := this.2 (by omega)
        exact ⟨by simp at h2 ⊢; omega, by simpa using h3⟩
theorem remK_le : ∀ l : List UInt8, remK l ≤ l.length
  | [] => by simp [remK]
  | [c] => by simp [remK]
  | c :: d :: l => by
    rw [remK]; split
    · omega
    · have := remK_le (d :: l); simp at this ⊢; omega
theorem index_rem : ∀ l : List UInt8, Lib.index l [42, 41] = if remK l + 1 < l.length then (remK l : Int) else -1
  | [] => by simp [remK, Lib.index]
  | [c] => by simp [remK, Lib.index, List.isPrefixOf]
  | c :: d :: l => by
    have ih := index_rem (d :: l)
    rw [Lib.index, ih, remK]
    have e : [42, 41].isPrefixOf (c :: d :: l) = ((c.toNat : Int) == 42 && (d.toNat : Int) == 41) := by
      simp only [List.isPrefixOf, Bool.and_true]
      have h1 := u8_eq c 42
      have h2 := u8_eq d 41
      simp only [show ((42 : UInt8).toNat : Int) = 42 from rfl, show ((41 : UInt8).toNat : Int) = 41 from rfl] at h1 h2
      rw [h1, h2]
      congr 1 <;> exact Bool.beq_comm
    rw [e]
    split
    · simp
    · by_cases h1 : remK (d :: l) + 1 < (d :: l).length
      · rw [if_pos h1, if_neg (by first | (simp; done) | (simp; omega)), if_pos (by simp at h1 ⊢; omega)]; try omega
      · rw [if_neg h1, if_pos (by rfl), if_neg (by simp at h1 ⊢; omega)]
/-! The document's small functions. -/
theorem wrap_u8 {n : Int} (h : 0 ≤ n ∧ n < 256) : IntKind.u8.wrap n = n := by
  simp [IntKind.wrap, IntKind.signed, IntKind.bits]; omega
def hexZ (n : Int) : Int := match hexV n with
  | some d => d
  | none => -1
theorem ref_hex_c (c : UInt8) (h : Heap) : DF FF n_belatedref4_hex [.int .u8 (c.toNat : Int)] h = some (.int .i64 (hexZ (c.toNat : Int)), h) := by
  refine fun_wpU F_belatedref4_hex ?_
  have hc : c.toNat < 256 := c.toNat_lt
  generalize c.toNat = n at hc
  have e : digV n = decide (48 ≤ n ∧ n ≤ 57) := by unfold digV; rw [Bool.decide_and]; congr 1 <;> simp <;> omega
  unfold hexZ hexV
  by_cases h1 : 48 ≤ n ∧ n ≤ 57
  · have hd : digV n = true := by rw [e]; simpa using h1
    have e1 : IntKind.u8.wrap ((n : Int) - 48) = (n : Int) - 48 := wrap_u8 (by omega)
    have e2 : IntKind.i64.wrap ((n : Int) - 48) = (n : Int) - 48 := wrapS (by omega)
    rw [if_pos (by omega)]
    simp only [c_belatedref4_hex, C_ops, C_cond, D_exit, D_ret, D_skip, normal_some, cond_tt, cond_ff, E_nil, E_cons, E_guard, next_some, next_none, guard_tt, guard_ff, guard_tf, guard_ft, guard_tu, ev_tmp, ev_const, ev_global, ev_func, get_succ, get_zero, List.set_cons_succ, List.set_cons_zero, O_mv, O_pick, pickO, O_bin, pairO, O_un, O_conv, convO, O_call, List.map_cons, List.map_nil, O_len, len_slice, O_atRow, O_load1, load1_ptr, O_load, load_ptr, O_mkRow, O_build, mk_some, build_some, partsV_nil, partsV_cons, zeros_zero, zeros_succ, fill_nil, fill_int, fill_bool, fill_slice, fill_string, Nat.lt_add_one, Nat.zero_lt_succ, Nat.reduceLT, Nat.zero_lt_one, B_add, B_sub, B_mul, B_band, B_bor, B_bxor, B_bandNot, B_eql, B_neq, B_lss, B_leq, B_gtr, B_geq, B_shl', B_shr', B_rem, B_quo, U_not, U_neg, List.cons_append, List.nil_append, List.length_cons, List.length_nil, Nat.reduceAdd, Nat.reduceSub, Nat.zero_add, end_ret, end_normal, Bool.false_or, Bool.or_false, Bool.true_or, Bool.or_true, Bool.not_true, Bool.not_false, Bool.true_and, Bool.and_true, Bool.false_and, Bool.and_false, W_some, W_seq, W_block, Q_cont_normal, Q_cont_ret, Q_cont_exit, Q_block_normal, Q_block_ret, Q_block_exit, Q_loop_normal, Q_loop_ret, Q_loop_exit, Q_ret, Q_ret', slc, O_append, O_slice, cut_to, cut_from, cut_all, cut_mid, Option.map_none, O_alloc, O_box, O_atArr, arr_some, O_off, off_ptr, O_field, O_field1, field1_agg, pair_some, O_extract, extract_tup, wrote_some, O_store1, store1_int, store1_bool, store1_string, store1_slice, store1_ptr, store1_func, store1_nilFunc, store1_map, O_store, store_agg, O_nilCheck, nilCheck_ptr, nilCheck_func, read1_skip, read1_skip0, read1_next, read1_there, read_skip, read_skip0, read_next, read_there, pre_some, cons_some, write1_skip, write1_skip0, write1_next, write1_there, write_skip, write_skip0, write_next, write_there, fillU_zero, fillU_succ, List.append_assoc, List.length_append, List.append_nil, Int.toNat_natCast, Nat.mul_one, Nat.add_zero, Option.map_some, List.getElem?_cons_zero, List.getElem?_cons_succ, Q_ret2Q, Q_ret3Q, fin_int3, fin_ib, finish_same, Q_retEct, cellsTE_ptr, outTE_some, again1_int, again1_bool, again1_string, again1_slice, Q_out, O_max2, max_int, O_min2, min_int, Q_retE, Q_retE2, Q_retE3, Bool.bne_false, Bool.bne_true, beq_self_eq_true, Bool.true_beq, Bool.false_beq, O_eqv, eqv_bool, Int.reduceLE, Int.reduceLT, Int.reduceToNat, eq_self, arr_nat, row_nat, laid_agg, box_some, O_again, again_agg, O_again1, O_eqAgg, Q_for_normal, Q_for_exit, Q_for_ret, str_lit, store1_str, O_lenStr, lenStr_str, O_idxStr, O_sliceStr, B_eqlS, B_neqS, Option.map_none, Option.map_some, ref_digit_c, hd, e1, e2]
    have : (((n : Int) - 48).toNat : Int) = (n : Int) - 48 := by omega
    rw [this]
  · have hd : digV n = false := by rw [e]; simpa using h1
    rw [if_neg (by omega)]
    by_cases h2 : 97 ≤ n
    · have c1 : ((97 : Int) ≤ (n : Int)) = True := by simp; omega
      by_cases h3 : n ≤ 102
      · have c2 : ((n : Int) ≤ 102) = True := by simp; omega
        have e1 : IntKind.u8.wrap ((n : Int) - 97) = (n : Int) - 97 := wrap_u8 (by omega)
        have e2 : IntKind.i64.wrap ((n : Int) - 97) = (n : Int) - 97 := wrapS (by omega)
        have e3 : IntKind.i64.wrap ((n : Int) - 97 + 10) = (n : Int) - 87 := by rw [wrapS (by omega)]; omega
        rw [if_pos (by omega)]
        simp only [c_belatedref4_hex, C_ops, C_cond, D_exit, D_ret, D_skip, normal_some, cond_tt, cond_ff, E_nil, E_cons, E_guard, next_some, next_none, guard_tt, guard_ff, guard_tf, guard_ft, guard_tu, ev_tmp, ev_const, ev_global, ev_func, get_succ, get_zero, List.set_cons_succ, List.set_cons_zero, O_mv, O_pick, pickO, O_bin, pairO, O_un, O_conv, convO, O_call, List.map_cons, List.map_nil, O_len, len_slice, O_atRow, O_load1, load1_ptr, O_load, load_ptr, O_mkRow, O_build, mk_some, build_some, partsV_nil, partsV_cons, zeros_zero, zeros_succ, fill_nil, fill_int, fill_bool, fill_slice, fill_string, Nat.lt_add_one, Nat.zero_lt_succ, Nat.reduceLT, Nat.zero_lt_one, B_add, B_sub, B_mul, B_band, B_bor, B_bxor, B_bandNot, B_eql, B_neq, B_lss, B_leq, B_gtr, B_geq, B_shl', B_shr', B_rem, B_quo, U_not, U_neg, List.cons_append, List.nil_append, List.length_cons, List.length_nil, Nat.reduceAdd, Nat.reduceSub, Nat.zero_add, end_ret, end_normal, Bool.false_or, Bool.or_false, Bool.true_or, Bool.or_true, Bool.not_true, Bool.not_false, Bool.true_and, Bool.and_true, Bool.false_and, Bool.and_false, W_some, W_seq, W_block, Q_cont_normal, Q_cont_ret, Q_cont_exit, Q_block_normal, Q_block_ret, Q_block_exit, Q_loop_normal, Q_loop_ret, Q_loop_exit, Q_ret, Q_ret', slc, O_append, O_slice, cut_to, cut_from, cut_all, cut_mid, Option.map_none, O_alloc, O_box, O_atArr, arr_some, O_off, off_ptr, O_field, O_field1, field1_agg, pair_some, O_extract, extract_tup, wrote_some, O_store1, store1_int, store1_bool, store1_string, store1_slice, store1_ptr, store1_func, store1_nilFunc, store1_map, O_store, store_agg, O_nilCheck, nilCheck_ptr, nilCheck_func, read1_skip, read1_skip0, read1_next, read1_there, read_skip, read_skip0, read_next, read_there, pre_some, cons_some, write1_skip, write1_skip0, write1_next, write1_there, write_skip, write_skip0, write_next, write_there, fillU_zero, fillU_succ, List.append_assoc, List.length_append, List.append_nil, Int.toNat_natCast, Nat.mul_one, Nat.add_zero, Option.map_some, List.getElem?_cons_zero, List.getElem?_cons_succ, Q_ret2Q, Q_ret3Q, fin_int3, fin_ib, finish_same, Q_retEct, cellsTE_ptr, outTE_some, again1_int, again1_bool, again1_string, again1_slice, Q_out, O_max2, max_int, O_min2, min_int, Q_retE, Q_retE2, Q_retE3, Bool.bne_false, Bool.bne_true, beq_self_eq_true, Bool.true_beq, Bool.false_beq, O_eqv, eqv_bool, Int.reduceLE, Int.reduceLT, Int.reduceToNat, eq_self, arr_nat, row_nat, laid_agg, box_some, O_again, again_agg, O_again1, O_eqAgg, Q_for_normal, Q_for_exit, Q_for_ret, str_lit, store1_str, O_lenStr, lenStr_str, O_idxStr, O_sliceStr, B_eqlS, B_neqS, Option.map_none, Option.map_some, ref_digit_c, hd, c1, c2, decide_true, e1, e2, e3]
        have : (((n : Int) - 87).toNat : Int) = (n : Int) - 87 := by omega
        rw [this]
      · have c2 : ((n : Int) ≤ 102) = False := by simp; omega
        have c3 : ((65 : Int) ≤ (n : Int)) = True := by simp; omega
        have c4 : ((n : Int) ≤ 70) = False := by simp; omega
        rw [if_neg (by omega), if_neg (by omega)]
        simp only [c_belatedref4_hex, C_ops, C_cond, D_exit, D_ret, D_skip, normal_some, cond_tt, cond_ff, E_nil, E_cons, E_guard, next_some, next_none, guard_tt, guard_ff, guard_tf, guard_ft, guard_tu, ev_tmp, ev_const, ev_global, ev_func, get_succ, get_zero, List.set_cons_succ, List.set_cons_zero, O_mv, O_pick, pickO, O_bin, pairO, O_un, O_conv, convO, O_call, List.map_cons, List.map_nil, O_len, len_slice, O_atRow, O_load1, load1_ptr, O_load, load_ptr, O_mkRow, O_build, mk_some, build_some, partsV_nil, partsV_cons, zeros_zero, zeros_succ, fill_nil, fill_int, fill_bool, fill_slice, fill_string, Nat.lt_add_one, Nat.zero_lt_succ, Nat.reduceLT, Nat.zero_lt_one, B_add, B_sub, B_mul, B_band, B_bor, B_bxor, B_bandNot, B_eql, B_neq, B_lss, B_leq, B_gtr, B_geq, B_shl', B_shr', B_rem, B_quo, U_not, U_neg, List.cons_append, List.nil_append, List.length_cons, List.length_nil, Nat.reduceAdd, Nat.reduceSub, Nat.zero_add, end_ret, end_normal, Bool.false_or, Bool.or_false, Bool.true_or, Bool.or_true, Bool.not_true, Bool.not_false, Bool.true_and, Bool.and_true, Bool.false_and, Bool.and_false, W_some, W_seq, W_block, Q_cont_normal, Q_cont_ret, Q_cont_exit, Q_block_normal, Q_block_ret, Q_block_exit, Q_loop_normal, Q_loop_ret, Q_loop_exit, Q_ret, Q_ret', slc, O_append, O_slice, cut_to, cut_from, cut_all, cut_mid, Option.map_none, O_alloc, O_box, O_atArr, arr_some, O_off, off_ptr, O_field, O_field1, field1_agg, pair_some, O_extract, extract_tup, wrote_some, O_store1, store1_int, store1_bool, store1_string, store1_slice, store1_ptr, store1_func, store1_nilFunc, store1_map, O_store, store_agg, O_nilCheck, nilCheck_ptr, nilCheck_func, read1_skip, read1_skip0, read1_next, read1_there, read_skip, read_skip0, read_next, read_there, pre_some, cons_some, write1_skip, write1_skip0, write1_next, write1_there, write_skip, write_skip0, write_next, write_there, fillU_zero, fillU_succ, List.append_assoc, List.length_append, List.append_nil, Int.toNat_natCast, Nat.mul_one, Nat.add_zero, Option.map_some, List.getElem?_cons_zero, List.getElem?_cons_succ, Q_ret2Q, Q_ret3Q, fin_int3, fin_ib, finish_same, Q_retEct, cellsTE_ptr, outTE_some, again1_int, again1_bool, again1_string, again1_slice, Q_out, O_max2, max_int, O_min2, min_int, Q_retE, Q_retE2, Q_retE3, Bool.bne_false, Bool.bne_true, beq_self_eq_true, Bool.true_beq, Bool.false_beq, O_eqv, eqv_bool, Int.reduceLE, Int.reduceLT, Int.reduceToNat, eq_self, arr_nat, row_nat, laid_agg, box_some, O_again, again_agg, O_again1, O_eqAgg, Q_for_normal, Q_for_exit, Q_for_ret, str_lit, store1_str, O_lenStr, lenStr_str, O_idxStr, O_sliceStr, B_eqlS, B_neqS, Option.map_none, Option.map_some, ref_digit_c, hd, c1, c2, c3, c4, decide_true, decide_false]
    · have c1 : ((97 : Int) ≤ (n : Int)) = False := by simp; omega
      rw [if_neg (by omega)]
      by_cases h3 : 65 ≤ n
      · have c3 : ((65 : Int) ≤ (n : Int)) = True := by simp; omega
        by_cases h4 : n ≤ 70
        · have c4 : ((n : Int) ≤ 70) = True := by simp; omega
          have e1 : IntKind.u8.wrap ((n : Int) - 65) = (n : Int) - 65 := wrap_u8 (by omega)
          have e2 : IntKind.i64.wrap ((n : Int) - 65) = (n : Int) - 65 := wrapS (by omega)
          have e3 : IntKind.i64.wrap ((n : Int) - 65 + 10) = (n : Int) - 55 := by rw [wrapS (by omega)]; omega
          rw [if_pos (by omega)]
          simp only [c_belatedref4_hex, C_ops, C_cond, D_exit, D_ret, D_skip, normal_some, cond_tt, cond_ff, E_nil, E_cons, E_guard, next_some, next_none, guard_tt, guard_ff, guard_tf, guard_ft, guard_tu, ev_tmp, ev_const, ev_global, ev_func, get_succ, get_zero, List.set_cons_succ, List.set_cons_zero, O_mv, O_pick, pickO, O_bin, pairO, O_un, O_conv, convO, O_call, List.map_cons, List.map_nil, O_len, len_slice, O_atRow, O_load1, load1_ptr, O_load, load_ptr, O_mkRow, O_build, mk_some, build_some, partsV_nil, partsV_cons, zeros_zero, zeros_succ, fill_nil, fill_int, fill_bool, fill_slice, fill_string, Nat.lt_add_one, Nat.zero_lt_succ, Nat.reduceLT, Nat.zero_lt_one, B_add, B_sub, B_mul, B_band, B_bor, B_bxor, B_bandNot, B_eql, B_neq, B_lss, B_leq, B_gtr, B_geq, B_shl', B_shr', B_rem, B_quo, U_not, U_neg, List.cons_append, List.nil_append, List.length_cons, List.length_nil, Nat.reduceAdd, Nat.reduceSub, Nat.zero_add, end_ret, end_normal, Bool.false_or, Bool.or_false, Bool.true_or, Bool.or_true, Bool.not_true, Bool.not_false, Bool.true_and, Bool.and_true, Bool.false_and, Bool.and_false, W_some, W_seq, W_block, Q_cont_normal, Q_cont_ret, Q_cont_exit, Q_block_normal, Q_block_ret, Q_block_exit, Q_loop_normal, Q_loop_ret, Q_loop_exit, Q_ret, Q_ret', slc, O_append, O_slice, cut_to, cut_from, cut_all, cut_mid, Option.map_none, O_alloc, O_box, O_atArr, arr_some, O_off, off_ptr, O_field, O_field1, field1_agg, pair_some, O_extract, extract_tup, wrote_some, O_store1, store1_int, store1_bool, store1_string, store1_slice, store1_ptr, store1_func, store1_nilFunc, store1_map, O_store, store_agg, O_nilCheck, nilCheck_ptr, nilCheck_func, read1_skip, read1_skip0, read1_next, read1_there, read_skip, read_skip0, read_next, read_there, pre_some, cons_some, write1_skip, write1_skip0, write1_next, write1_there, write_skip, write_skip0, write_next, write_there, fillU_zero, fillU_succ, List.append_assoc, List.length_append, List.append_nil, Int.toNat_natCast, Nat.mul_one, Nat.add_zero, Option.map_some, List.getElem?_cons_zero, List.getElem?_cons_succ, Q_ret2Q, Q_ret3Q, fin_int3, fin_ib, finish_same, Q_retEct, cellsTE_ptr, outTE_some, again1_int, again1_bool, again1_string, again1_slice, Q_out, O_max2, max_int, O_min2, min_int, Q_retE, Q_retE2, Q_retE3, Bool.bne_false, Bool.bne_true, beq_self_eq_true, Bool.true_beq, Bool.false_beq, O_eqv, eqv_bool, Int.reduceLE, Int.reduceLT, Int.reduceToNat, eq_self, arr_nat, row_nat, laid_agg, box_some, O_again, again_agg, O_again1, O_eqAgg, Q_for_normal, Q_for_exit, Q_for_ret, str_lit, store1_str, O_lenStr, lenStr_str, O_idxStr, O_sliceStr, B_eqlS, B_neqS, Option.map_none, Option.map_some, ref_digit_c, hd, c1, c3, c4, decide_true, decide_false, e1, e2, e3]
          have : (((n : Int) - 55).toNat : Int) = (n : Int) - 55 := by omega
          rw [this]
        · have c4 : ((n : Int) ≤ 70) = False := by simp; omega
          rw [if_neg (by omega)]
          simp only [c_belatedref4_hex, C_ops, C_cond, D_exit, D_ret, D_skip, normal_some, cond_tt, cond_ff, E_nil, E_cons, E_guard, next_some, next_none, guard_tt, guard_ff, guard_tf, guard_ft, guard_tu, ev_tmp, ev_const, ev_global, ev_func, get_succ, get_zero, List.set_cons_succ, List.set_cons_zero, O_mv, O_pick, pickO, O_bin, pairO, O_un, O_conv, convO, O_call, List.map_cons, List.map_nil, O_len, len_slice, O_atRow, O_load1, load1_ptr, O_load, load_ptr, O_mkRow, O_build, mk_some, build_some, partsV_nil, partsV_cons, zeros_zero, zeros_succ, fill_nil, fill_int, fill_bool, fill_slice, fill_string, Nat.lt_add_one, Nat.zero_lt_succ, Nat.reduceLT, Nat.zero_lt_one, B_add, B_sub, B_mul, B_band, B_bor, B_bxor, B_bandNot, B_eql, B_neq, B_lss, B_leq, B_gtr, B_geq, B_shl', B_shr', B_rem, B_quo, U_not, U_neg, List.cons_append, List.nil_append, List.length_cons, List.length_nil, Nat.reduceAdd, Nat.reduceSub, Nat.zero_add, end_ret, end_normal, Bool.false_or, Bool.or_false, Bool.true_or, Bool.or_true, Bool.not_true, Bool.not_false, Bool.true_and, Bool.and_true, Bool.false_and, Bool.and_false, W_some, W_seq, W_block, Q_cont_normal, Q_cont_ret, Q_cont_exit, Q_block_normal, Q_block_ret, Q_block_exit, Q_loop_normal, Q_loop_ret, Q_loop_exit, Q_ret, Q_ret', slc, O_append, O_slice, cut_to, cut_from, cut_all, cut_mid, Option.map_none, O_alloc, O_box, O_atArr, arr_some, O_off, off_ptr, O_field, O_field1, field1_agg, pair_some, O_extract, extract_tup, wrote_some, O_store1, store1_int, store1_bool, store1_string, store1_slice, store1_ptr, store1_func, store1_nilFunc, store1_map, O_store, store_agg, O_nilCheck, nilCheck_ptr, nilCheck_func, read1_skip, read1_skip0, read1_next, read1_there, read_skip, read_skip0, read_next, read_there, pre_some, cons_some, write1_skip, write1_skip0, write1_next, write1_there, write_skip, write_skip0, write_next, write_there, fillU_zero, fillU_succ, List.append_assoc, List.length_append, List.append_nil, Int.toNat_natCast, Nat.mul_one, Nat.add_zero, Option.map_some, List.getElem?_cons_zero, List.getElem?_cons_succ, Q_ret2Q, Q_ret3Q, fin_int3, fin_ib, finish_same, Q_retEct, cellsTE_ptr, outTE_some, again1_int, again1_bool, again1_string, again1_slice, Q_out, O_max2, max_int, O_min2, min_int, Q_retE, Q_retE2, Q_retE3, Bool.bne_false, Bool.bne_true, beq_self_eq_true, Bool.true_beq, Bool.false_beq, O_eqv, eqv_bool, Int.reduceLE, Int.reduceLT, Int.reduceToNat, eq_self, arr_nat, row_nat, laid_agg, box_some, O_again, again_agg, O_again1, O_eqAgg, Q_for_normal, Q_for_exit, Q_for_ret, str_lit, store1_str, O_lenStr, lenStr_str, O_idxStr, O_sliceStr, B_eqlS, B_neqS, Option.map_none, Option.map_some, ref_digit_c, hd, c1, c3, c4, decide_true, decide_false]
      · have c3 : ((65 : Int) ≤ (n : Int)) = False := by simp; omega
        rw [if_neg (by omega)]
        simp only [c_belatedref4_hex, C_ops, C_cond, D_exit, D_ret, D_skip, normal_some, cond_tt, cond_ff, E_nil, E_cons, E_guard, next_some, next_none, guard_tt, guard_ff, guard_tf, guard_ft, guard_tu, ev_tmp, ev_const, ev_global, ev_func, get_succ, get_zero, List.set_cons_succ, List.set_cons_zero, O_mv, O_pick, pickO, O_bin, pairO, O_un, O_conv, convO, O_call, List.map_cons, List.map_nil, O_len, len_slice, O_atRow, O_load1, load1_ptr, O_load, load_ptr, O_mkRow, O_build, mk_some, build_some, partsV_nil, partsV_cons, zeros_zero, zeros_succ, fill_nil, fill_int, fill_bool, fill_slice, fill_string, Nat.lt_add_one, Nat.zero_lt_succ, Nat.reduceLT, Nat.zero_lt_one, B_add, B_sub, B_mul, B_band, B_bor, B_bxor, B_bandNot, B_eql, B_neq, B_lss, B_leq, B_gtr, B_geq, B_shl', B_shr', B_rem, B_quo, U_not, U_neg, List.cons_append, List.nil_append, List.length_cons, List.length_nil, Nat.reduceAdd, Nat.reduceSub, Nat.zero_add, end_ret, end_normal, Bool.false_or, Bool.or_false, Bool.true_or, Bool.or_true, Bool.not_true, Bool.not_false, Bool.true_and, Bool.and_true, Bool.false_and, Bool.and_false, W_some, W_seq, W_block, Q_cont_normal, Q_cont_ret, Q_cont_exit, Q_block_normal, Q_block_ret, Q_block_exit, Q_loop_normal, Q_loop_ret, Q_loop_exit, Q_ret, Q_ret', slc, O_append, O_slice, cut_to, cut_from, cut_all, cut_mid, Option.map_none, O_alloc, O_box, O_atArr, arr_some, O_off, off_ptr, O_field, O_field1, field1_agg, pair_some, O_extract, extract_tup, wrote_some, O_store1, store1_int, store1_bool, store1_string, store1_slice, store1_ptr, store1_func, store1_nilFunc, store1_map, O_store, store_agg, O_nilCheck, nilCheck_ptr, nilCheck_func, read1_skip, read1_skip0, read1_next, read1_there, read_skip, read_skip0, read_next, read_there, pre_some, cons_some, write1_skip, write1_skip0, write1_next, write1_there, write_skip, write_skip0, write_next, write_there, fillU_zero, fillU_succ, List.append_assoc, List.length_append, List.append_nil, Int.toNat_natCast, Nat.mul_one, Nat.add_zero, Option.map_some, List.getElem?_cons_zero, List.getElem?_cons_succ, Q_ret2Q, Q_ret3Q, fin_int3, fin_ib, finish_same, Q_retEct, cellsTE_ptr, outTE_some, again1_int, again1_bool, again1_string, again1_slice, Q_out, O_max2, max_int, O_min2, min_int, Q_retE, Q_retE2, Q_retE3, Bool.bne_false, Bool.bne_true, beq_self_eq_true, Bool.true_beq, Bool.false_beq, O_eqv, eqv_bool, Int.reduceLE, Int.reduceLT, Int.reduceToNat, eq_self, arr_nat, row_nat, laid_agg, box_some, O_again, again_agg, O_again1, O_eqAgg, Q_for_normal, Q_for_exit, Q_for_ret, str_lit, store1_str, O_lenStr, lenStr_str, O_idxStr, O_sliceStr, B_eqlS, B_neqS, Option.map_none, Option.map_some, ref_digit_c, hd, c1, c3, decide_true, decide_false]
theorem ref_run_c (l : List UInt8) (hl : l.length < 4611686018427387904) (a : Nat) (ha : a ≤ l.length) (b : Bool) (h : Heap) :
    DF FF n_belatedref4_run [str l, .int .i64 (a : Int), .bool b] h = some (.int .i64 ((a + rowN (if b then namB else numB) (l.drop a) : Nat) : Int), h) := by
  refine fun_wpU F_belatedref4_run ?_
  generalize hp : (if b then namB else numB) = p
  have hle := rowN_le p (l.drop a)
  simp only [List.length_drop] at hle
  have hpv : ∀ n : Int, p n = if letV n then true else if digV n then true else if b then (if n == 95 then true else n == 46) else false := by
    intro n; subst hp
    cases b <;> cases h1 : letV n <;> cases h2 : digV n <;> cases h3 : (n == 95) <;> simp [namB, numB, h1, h2, h3]
  simp only [c_belatedref4_run, C_ops, C_cond, D_exit, D_ret, D_skip, normal_some, cond_tt, cond_ff, E_nil, E_cons, E_guard, next_some, next_none, guard_tt, guard_ff, guard_tf, guard_ft, guard_tu, ev_tmp, ev_const, ev_global, ev_func, get_succ, get_zero, List.set_cons_succ, List.set_cons_zero, O_mv, O_pick, pickO, O_bin, pairO, O_un, O_conv, convO, O_call, List.map_cons, List.map_nil, O_len, len_slice, O_atRow, O_load1, load1_ptr, O_load, load_ptr, O_mkRow, O_build, mk_some, build_some, partsV_nil, partsV_cons, zeros_zero, zeros_succ, fill_nil, fill_int, fill_bool, fill_slice, fill_string, Nat.lt_add_one, Nat.zero_lt_succ, Nat.reduceLT, Nat.zero_lt_one, B_add, B_sub, B_mul, B_band, B_bor, B_bxor, B_bandNot, B_eql, B_neq, B_lss, B_leq, B_gtr, B_geq, B_shl', B_shr', B_rem, B_quo, U_not, U_neg, List.cons_append, List.nil_append, List.length_cons, List.length_nil, Nat.reduceAdd, Nat.reduceSub, Nat.zero_add, end_ret, end_normal, Bool.false_or, Bool.or_false, Bool.true_or, Bool.or_true, Bool.not_true, Bool.not_false, Bool.true_and, Bool.and_true, Bool.false_and, Bool.and_false, W_some, W_seq, W_block, Q_cont_normal, Q_cont_ret, Q_cont_exit, Q_block_normal, Q_block_ret, Q_block_exit, Q_loop_normal, Q_loop_ret, Q_loop_exit, Q_ret, Q_ret', slc, O_append, O_slice, cut_to, cut_from, cut_all, cut_mid, Option.map_none, O_alloc, O_box, O_atArr, arr_some, O_off, off_ptr, O_field, O_field1, field1_agg, pair_some, O_extract, extract_tup, wrote_some, O_store1, store1_int, store1_bool, store1_string, store1_slice, store1_ptr, store1_func, store1_nilFunc, store1_map, O_store, store_agg, O_nilCheck, nilCheck_ptr, nilCheck_func, read1_skip, read1_skip0, read1_next, read1_there, read_skip, read_skip0, read_next, read_there, pre_some, cons_some, write1_skip, write1_skip0, write1_next, write1_there, write_skip, write_skip0, write_next, write_there, fillU_zero, fillU_succ, List.append_assoc, List.length_append, List.append_nil, Int.toNat_natCast, Nat.mul_one, Nat.add_zero, Option.map_some, List.getElem?_cons_zero, List.getElem?_cons_succ, Q_ret2Q, Q_ret3Q, fin_int3, fin_ib, finish_same, Q_retEct, cellsTE_ptr, outTE_some, again1_int, again1_bool, again1_string, again1_slice, Q_out, O_max2, max_int, O_min2, min_int, Q_retE, Q_retE2, Q_retE3, Bool.bne_false, Bool.bne_true, beq_self_eq_true, Bool.true_beq, Bool.false_beq, O_eqv, eqv_bool, Int.reduceLE, Int.reduceLT, Int.reduceToNat, eq_self, arr_nat, row_nat, laid_agg, box_some, O_again, again_agg, O_again1, O_eqAgg, Q_for_normal, Q_for_exit, Q_for_ret, str_lit, store1_str, O_lenStr, lenStr_str, O_idxStr, O_sliceStr, B_eqlS, B_neqS, Option.map_none, Option.map_some]
  refine for_wp (rowN p (l.drop a)) (fun k st => ∃ j : Nat → Value, st = ⟨[str l, .int .i64 ((a + k : Nat) : Int), .bool b, j 3, j 4, j 5, j 6, j 7, j 8, j 9, j 10, j 11, j 12, j 13, j 14, j 15, j 16, j 17, j 18, j 19, j 20, j 21, j 22, j 23, j 24, j 25, j 26, j 27, j 28, j 29, j 30, j 31, j 32, j 33, j 34, j 35, j 36, j 37, j 38, j 39, j 40], h⟩) ?_ ?_ _ ?_
  · rintro k st hk ⟨j, rfl⟩
    have hkl : a + k < l.length := by omega
    have h1 : (((a + k : Nat) : Int) < (l.length : Int)) = True := by simp; omega
    have hq := (rowN_at p (l.drop a) k (by simp; omega) (by omega)).2 hk
    rw [List.getElem_drop, hpv] at hq
    have hw : IntKind.i64.wrap (((a + k : Nat) : Int) + 1) = ((a + (k + 1) : Nat) : Int) := by rw [wrapS (by omega)]; omega
    cases e1 : letV (l[a + k].toNat : Int)
    · cases e2 : digV (l[a + k].toNat : Int)
      · rw [e1, e2] at hq
        cases b
        · simp at hq
        · cases e3 : ((l[a + k].toNat : Int) == 95)
          · rw [e3] at hq
            have e4 : ((l[a + k].toNat : Int) == 46) = true := by simpa using hq
            simp only [C_ops, C_cond, D_exit, D_ret, D_skip, normal_some, cond_tt, cond_ff, E_nil, E_cons, E_guard, next_some, next_none, guard_tt, guard_ff, guard_tf, guard_ft, guard_tu, ev_tmp, ev_const, ev_global, ev_func, get_succ, get_zero, List.set_cons_succ, List.set_cons_zero, O_mv, O_pick, pickO, O_bin, pairO, O_un, O_conv, convO, O_call, List.map_cons, List.map_nil, O_len, len_slice, O_atRow, O_load1, load1_ptr, O_load, load_ptr, O_mkRow, O_build, mk_some, build_some, partsV_nil, partsV_cons, zeros_zero, zeros_succ, fill_nil, fill_int, fill_bool, fill_slice, fill_string, Nat.lt_add_one, Nat.zero_lt_succ, Nat.reduceLT, Nat.zero_lt_one, B_add, B_sub, B_mul, B_band, B_bor, B_bxor, B_bandNot, B_eql, B_neq, B_lss, B_leq, B_gtr, B_geq, B_shl', B_shr', B_rem, B_quo, U_not, U_neg, List.cons_append, List.nil_append, List.length_cons, List.length_nil, Nat.reduceAdd, Nat.reduceSub, Nat.zero_add, end_ret, end_normal, Bool.false_or, Bool.or_false, Bool.true_or, Bool.or_true, Bool.not_true, Bool.not_false, Bool.true_and, Bool.and_true, Bool.false_and, Bool.and_false, W_some, W_seq, W_block, Q_cont_normal, Q_cont_ret, Q_cont_exit, Q_block_normal, Q_block_ret, Q_block_exit, Q_loop_normal, Q_loop_ret, Q_loop_exit, Q_ret, Q_ret', slc, O_append, O_slice, cut_to, cut_from, cut_all, cut_mid, Option.map_none, O_alloc, O_box, O_atArr, arr_some, O_off, off_ptr, O_field, O_field1, field1_agg, pair_some, O_extract, extract_tup, wrote_some, O_store1, store1_int, store1_bool, store1_string, store1_slice, store1_ptr, store1_func, store1_nilFunc, store1_map, O_store, store_agg, O_nilCheck, nilCheck_ptr, nilCheck_func, read1_skip, read1_skip0, read1_next, read1_there, read_skip, read_skip0, read_next, read_there, pre_some, cons_some, write1_skip, write1_skip0, write1_next, write1_there, write_skip, write_skip0, write_next, write_there, fillU_zero, fillU_succ, List.append_assoc, List.length_append, List.append_nil, Int.toNat_natCast, Nat.mul_one, Nat.add_zero, Option.map_some, List.getElem?_cons_zero, List.getElem?_cons_succ, Q_ret2Q, Q_ret3Q, fin_int3, fin_ib, finish_same, Q_retEct, cellsTE_ptr, outTE_some, again1_int, again1_bool, again1_string, again1_slice, Q_out, O_max2, max_int, O_min2, min_int, Q_retE, Q_retE2, Q_retE3, Bool.bne_false, Bool.bne_true, beq_self_eq_true, Bool.true_beq, Bool.false_beq, O_eqv, eqv_bool, Int.reduceLE, Int.reduceLT, Int.reduceToNat, eq_self, arr_nat, row_nat, laid_agg, box_some, O_again, again_agg, O_again1, O_eqAgg, Q_for_normal, Q_for_exit, Q_for_ret, str_lit, store1_str, O_lenStr, lenStr_str, O_idxStr, O_sliceStr, B_eqlS, B_neqS, Option.map_none, Option.map_some, h1, decide_true, idx_str _ hkl, ref_letter_c, ref_digit_c, e1, e2, e3, e4, hw]
            exact junk rfl
          · simp only [C_ops, C_cond, D_exit, D_ret, D_skip, normal_some, cond_tt, cond_ff, E_nil, E_cons, E_guard, next_some, next_none, guard_tt, guard_ff, guard_tf, guard_ft, guard_tu, ev_tmp, ev_const, ev_global, ev_func, get_succ, get_zero, List.set_cons_succ, List.set_cons_zero, O_mv, O_pick, pickO, O_bin, pairO, O_un, O_conv, convO, O_call, List.map_cons, List.map_nil, O_len, len_slice, O_atRow, O_load1, load1_ptr, O_load, load_ptr, O_mkRow, O_build, mk_some, build_some, partsV_nil, partsV_cons, zeros_zero, zeros_succ, fill_nil, fill_int, fill_bool, fill_slice, fill_string, Nat.lt_add_one, Nat.zero_lt_succ, Nat.reduceLT, Nat.zero_lt_one, B_add, B_sub, B_mul, B_band, B_bor, B_bxor, B_bandNot, B_eql, B_neq, B_lss, B_leq, B_gtr, B_geq, B_shl', B_shr', B_rem, B_quo, U_not, U_neg, List.cons_append, List.nil_append, List.length_cons, List.length_nil, Nat.reduceAdd, Nat.reduceSub, Nat.zero_add, end_ret, end_normal, Bool.false_or, Bool.or_false, Bool.true_or, Bool.or_true, Bool.not_true, Bool.not_false, Bool.true_and, Bool.and_true, Bool.false_and, Bool.and_false, W_some, W_seq, W_block, Q_cont_normal, Q_cont_ret, Q_cont_exit, Q_block_normal, Q_block_ret, Q_block_exit, Q_loop_normal, Q_loop_ret, Q_loop_exit, Q_ret, Q_ret', slc, O_append, O_slice, cut_to, cut_from, cut_all, cut_mid, Option.map_none, O_alloc, O_box, O_atArr, arr_some, O_off, off_ptr, O_field, O_field1, field1_agg, pair_some, O_extract, extract_tup, wrote_some, O_store1, store1_int, store1_bool, store1_string, store1_slice, store1_ptr, store1_func, store1_nilFunc, store1_map, O_store, store_agg, O_nilCheck, nilCheck_ptr, nilCheck_func, read1_skip, read1_skip0, read1_next, read1_there, read_skip, read_skip0, read_next, read_there, pre_some, cons_some, write1_skip, write1_skip0, write1_next, write1_there, write_skip, write_skip0, write_next, write_there, fillU_zero, fillU_succ, List.append_assoc, List.length_append, List.append_nil, Int.toNat_natCast, Nat.mul_one, Nat.add_zero, Option.map_some, List.getElem?_cons_zero, List.getElem?_cons_succ, Q_ret2Q, Q_ret3Q, fin_int3, fin_ib, finish_same, Q_retEct, cellsTE_ptr, outTE_some, again1_int, again1_bool, again1_string, again1_slice, Q_out, O_max2, max_int, O_min2, min_int, Q_retE, Q_retE2, Q_retE3, Bool.bne_false, Bool.bne_true, beq_self_eq_true, Bool.true_beq, Bool.false_beq, O_eqv, eqv_bool, Int.reduceLE, Int.reduceLT, Int.reduceToNat, eq_self, arr_nat, row_nat, laid_agg, box_some, O_again, again_agg, O_again1, O_eqAgg, Q_for_normal, Q_for_exit, Q_for_ret, str_lit, store1_str, O_lenStr, lenStr_str, O_idxStr, O_sliceStr, B_eqlS, B_neqS, Option.map_none, Option.map_some, h1, decide_true, idx_str _ hkl, ref_letter_c, ref_digit_c, e1, e2, e3, hw]
            exact junk rfl
      · cases b <;> simp only [C_ops, C_cond, D_exit, D_ret, D_skip, normal_some, cond_tt, cond_ff, E_nil, E_cons, E_guard, next_some, next_none, guard_tt, guard_ff, guard_tf, guard_ft, guard_tu, ev_tmp, ev_const, ev_global, ev_func, get_succ, get_zero, List.set_cons_succ, List.set_cons_zero, O_mv, O_pick, pickO, O_bin, pairO, O_un, O_conv, convO, O_call, List.map_cons, List.map_nil, O_len, len_slice, O_atRow, O_load1, load1_ptr, O_load, load_ptr, O_mkRow, O_build, mk_some, build_some, partsV_nil, partsV_cons, zeros_zero, zeros_succ, fill_nil, fill_int, fill_bool, fill_slice, fill_string, Nat.lt_add_one, Nat.zero_lt_succ, Nat.reduceLT, Nat.zero_lt_one, B_add, B_sub, B_mul, B_band, B_bor, B_bxor, B_bandNot, B_eql, B_neq, B_lss, B_leq, B_gtr, B_geq, B_shl', B_shr', B_rem, B_quo, U_not, U_neg, List.cons_append, List.nil_append, List.length_cons, List.length_nil, Nat.reduceAdd, Nat.reduceSub, Nat.zero_add, end_ret, end_normal, Bool.false_or, Bool.or_false, Bool.true_or, Bool.or_true, Bool.not_true, Bool.not_false, Bool.true_and, Bool.and_true, Bool.false_and, Bool.and_false, W_some, W_seq, W_block, Q_cont_normal, Q_cont_ret, Q_cont_exit, Q_block_normal, Q_block_ret, Q_block_exit, Q_loop_normal, Q_loop_ret, Q_loop_exit, Q_ret, Q_ret', slc, O_append, O_slice, cut_to, cut_from, cut_all, cut_mid, Option.map_none, O_alloc, O_box, O_atArr, arr_some, O_off, off_ptr, O_field, O_field1, field1_agg, pair_some, O_extract, extract_tup, wrote_some, O_store1, store1_int, store1_bool, store1_string, store1_slice, store1_ptr, store1_func, store1_nilFunc, store1_map, O_store, store_agg, O_nilCheck, nilCheck_ptr, nilCheck_func, read1_skip, read1_skip0, read1_next, read1_there, read_skip, read_skip0, read_next, read_there, pre_some, cons_some, write1_skip, write1_skip0, write1_next, write1_there, write_skip, write_skip0, write_next, write_there, fillU_zero, fillU_succ, List.append_assoc, List.length_append, List.append_nil, Int.toNat_natCast, Nat.mul_one, Nat.add_zero, Option.map_some, List.getElem?_cons_zero, List.getElem?_cons_succ, Q_ret2Q, Q_ret3Q, fin_int3, fin_ib, finish_same, Q_retEct, cellsTE_ptr, outTE_some, again1_int, again1_bool, again1_string, again1_slice, Q_out, O_max2, max_int, O_min2, min_int, Q_retE, Q_retE2, Q_retE3, Bool.bne_false, Bool.bne_true, beq_self_eq_true, Bool.true_beq, Bool.false_beq, O_eqv, eqv_bool, Int.reduceLE, Int.reduceLT, Int.reduceToNat, eq_self, arr_nat, row_nat, laid_agg, box_some, O_again, again_agg, O_again1, O_eqAgg, Q_for_normal, Q_for_exit, Q_for_ret, str_lit, store1_str, O_lenStr, lenStr_str, O_idxStr, O_sliceStr, B_eqlS, B_neqS, Option.map_none, Option.map_some, h1, decide_true, idx_str _ hkl, ref_letter_c, ref_digit_c, e1, e2, hw] <;> exact junk rfl
    · cases b <;> simp only [C_ops, C_cond, D_exit, D_ret, D_skip, normal_some, cond_tt, cond_ff, E_nil, E_cons, E_guard, next_some, next_none, guard_tt, guard_ff, guard_tf, guard_ft, guard_tu, ev_tmp, ev_const, ev_global, ev_func, get_succ, get_zero, List.set_cons_succ, List.set_cons_zero, O_mv, O_pick, pickO, O_bin, pairO, O_un, O_conv, convO, O_call, List.map_cons, List.map_nil, O_len, len_slice, O_atRow, O_load1, load1_ptr, O_load, load_ptr, O_mkRow, O_build, mk_some, build_some, partsV_nil, partsV_cons, zeros_zero, zeros_succ, fill_nil, fill_int, fill_bool, fill_slice, fill_string, Nat.lt_add_one, Nat.zero_lt_succ, Nat.reduceLT, Nat.zero_lt_one, B_add, B_sub, B_mul, B_band, B_bor, B_bxor, B_bandNot, B_eql, B_neq, B_lss, B_leq, B_gtr, B_geq, B_shl', B_shr', B_rem, B_quo, U_not, U_neg, List.cons_append, List.nil_append, List.length_cons, List.length_nil, Nat.reduceAdd, Nat.reduceSub, Nat.zero_add, end_ret, end_normal, Bool.false_or, Bool.or_false, Bool.true_or, Bool.or_true, Bool.not_true, Bool.not_false, Bool.true_and, Bool.and_true, Bool.false_and, Bool.and_false, W_some, W_seq, W_block, Q_cont_normal, Q_cont_ret, Q_cont_exit, Q_block_normal, Q_block_ret, Q_block_exit, Q_loop_normal, Q_loop_ret, Q_loop_exit, Q_ret, Q_ret', slc, O_append, O_slice, cut_to, cut_from, cut_all, cut_mid, Option.map_none, O_alloc, O_box, O_atArr, arr_some, O_off, off_ptr, O_field, O_field1, field1_agg, pair_some, O_extract, extract_tup, wrote_some, O_store1, store1_int, store1_bool, store1_string, store1_slice, store1_ptr, store1_func, store1_nilFunc, store1_map, O_store, store_agg, O_nilCheck, nilCheck_ptr, nilCheck_func, read1_skip, read1_skip0, read1_next, read1_there, read_skip, read_skip0, read_next, read_there, pre_some, cons_some, write1_skip, write1_skip0, write1_next, write1_there, write_skip, write_skip0, write_next, write_there, fillU_zero, fillU_succ, List.append_assoc, List.length_append, List.append_nil, Int.toNat_natCast, Nat.mul_one, Nat.add_zero, Option.map_some, List.getElem?_cons_zero, List.getElem?_cons_succ, Q_ret2Q, Q_ret3Q, fin_int3, fin_ib, finish_same, Q_retEct, cellsTE_ptr, outTE_some, again1_int, again1_bool, again1_string, again1_slice, Q_out, O_max2, max_int, O_min2, min_int, Q_retE, Q_retE2, Q_retE3, Bool.bne_false, Bool.bne_true, beq_self_eq_true, Bool.true_beq, Bool.false_beq, O_eqv, eqv_bool, Int.reduceLE, Int.reduceLT, Int.reduceToNat, eq_self, arr_nat, row_nat, laid_agg, box_some, O_again, again_agg, O_again1, O_eqAgg, Q_for_normal, Q_for_exit, Q_for_ret, str_lit, store1_str, O_lenStr, lenStr_str, O_idxStr, O_sliceStr, B_eqlS, B_neqS, Option.map_none, Option.map_some, h1, decide_true, idx_str _ hkl, ref_letter_c, ref_digit_c, e1, hw] <;> exact junk rfl
  · rintro st ⟨j, rfl⟩
    by_cases hkl : a + rowN p (l.drop a) < l.length
    · have h1 : (((a + rowN p (l.drop a) : Nat) : Int) < (l.length : Int)) = True := by simp; omega
      have hq : p (l[a + rowN p (l.drop a)].toNat : Int) = false := by
        have := rowN_at p (l.drop a) _ (by simp; omega) (Nat.le_refl _)
        rw [List.getElem_drop] at this
        rw [← Bool.not_eq_true, this]; omega
      rw [hpv] at hq
      cases e1 : letV (l[a + rowN p (l.drop a)].toNat : Int)
      · cases e2 : digV (l[a + rowN p (l.drop a)].toNat : Int)
        · rw [e1, e2] at hq
          cases b
          · simp only [C_ops, C_cond, D_exit, D_ret, D_skip, normal_some, cond_tt, cond_ff, E_nil, E_cons, E_guard, next_some, next_none, guard_tt, guard_ff, guard_tf, guard_ft, guard_tu, ev_tmp, ev_const, ev_global, ev_func, get_succ, get_zero, List.set_cons_succ, List.set_cons_zero, O_mv, O_pick, pickO, O_bin, pairO, O_un, O_conv, convO, O_call, List.map_cons, List.map_nil, O_len, len_slice, O_atRow, O_load1, load1_ptr, O_load, load_ptr, O_mkRow, O_build, mk_some, build_some, partsV_nil, partsV_cons, zeros_zero, zeros_succ, fill_nil, fill_int, fill_bool, fill_slice, fill_string, Nat.lt_add_one, Nat.zero_lt_succ, Nat.reduceLT, Nat.zero_lt_one, B_add, B_sub, B_mul, B_band, B_bor, B_bxor, B_bandNot, B_eql, B_neq, B_lss, B_leq, B_gtr, B_geq, B_shl', B_shr', B_rem, B_quo, U_not, U_neg, List.cons_append, List.nil_append, List.length_cons, List.length_nil, Nat.reduceAdd, Nat.reduceSub, Nat.zero_add, end_ret, end_normal, Bool.false_or, Bool.or_false, Bool.true_or, Bool.or_true, Bool.not_true, Bool.not_false, Bool.true_and, Bool.and_true, Bool.false_and, Bool.and_false, W_some, W_seq, W_block, Q_cont_normal, Q_cont_ret, Q_cont_exit, Q_block_normal, Q_block_ret, Q_block_exit, Q_loop_normal, Q_loop_ret, Q_loop_exit, Q_ret, Q_ret', slc, O_append, O_slice, cut_to, cut_from, cut_all, cut_mid, Option.map_none, O_alloc, O_box, O_atArr, arr_some, O_off, off_ptr, O_field, O_field1, field1_agg, pair_some, O_extract, extract_tup, wrote_some, O_store1, store1_int, store1_bool, store1_string, store1_slice, store1_ptr, store1_func, store1_nilFunc, store1_map, O_store, store_agg, O_nilCheck, nilCheck_ptr, nilCheck_func, read1_skip, read1_skip0, read1_next, read1_there, read_skip, read_skip0, read_next, read_there, pre_some, cons_some, write1_skip, write1_skip0, write1_next, write1_there, write_skip, write_skip0, write_next, write_there, fillU_zero, fillU_succ, List.append_assoc, List.length_append, List.append_nil, Int.toNat_natCast, Nat.mul_one, Nat.add_zero, Option.map_some, List.getElem?_cons_zero, List.getElem?_cons_succ, Q_ret2Q, Q_ret3Q, fin_int3, fin_ib, finish_same, Q_retEct, cellsTE_ptr, outTE_some, again1_int, again1_bool, again1_string, again1_slice, Q_out, O_max2, max_int, O_min2, min_int, Q_retE, Q_retE2, Q_retE3, Bool.bne_false, Bool.bne_true, beq_self_eq_true, Bool.true_beq, Bool.false_beq, O_eqv, eqv_bool, Int.reduceLE, Int.reduceLT, Int.reduceToNat, eq_self, arr_nat, row_nat, laid_agg, box_some, O_again, again_agg, O_again1, O_eqAgg, Q_for_normal, Q_for_exit, Q_for_ret, str_lit, store1_str, O_lenStr, lenStr_str, O_idxStr, O_sliceStr, B_eqlS, B_neqS, Option.map_none, Option.map_some, h1, decide_true, idx_str _ hkl, ref_letter_c, ref_digit_c, e1, e2]
          · cases e3 : ((l[a + rowN p (l.drop a)].toNat : Int) == 95)
            · rw [e3] at hq
              have e4 : ((l[a + rowN p (l.drop a)].toNat : Int) == 46) = false := by simpa using hq
              simp only [C_ops, C_cond, D_exit, D_ret, D_skip, normal_some, cond_tt, cond_ff, E_nil, E_cons, E_guard, next_some, next_none, guard_tt, guard_ff, guard_tf, guard_ft, guard_tu, ev_tmp, ev_const, ev_global, ev_func, get_succ, get_zero, List.set_cons_succ, List.set_cons_zero, O_mv, O_pick, pickO, O_bin, pairO, O_un, O_conv, convO, O_call, List.map_cons, List.map_nil, O_len, len_slice, O_atRow, O_load1, load1_ptr, O_load, load_ptr, O_mkRow, O_build, mk_some, build_some, partsV_nil, partsV_cons, zeros_zero, zeros_succ, fill_nil, fill_int, fill_bool, fill_slice, fill_string, Nat.lt_add_one, Nat.zero_lt_succ, Nat.reduceLT, Nat.zero_lt_one, B_add, B_sub, B_mul, B_band, B_bor, B_bxor, B_bandNot, B_eql, B_neq, B_lss, B_leq, B_gtr, B_geq, B_shl', B_shr', B_rem, B_quo, U_not, U_neg, List.cons_append, List.nil_append, List.length_cons, List.length_nil, Nat.reduceAdd, Nat.reduceSub, Nat.zero_add, end_ret, end_normal, Bool.false_or, Bool.or_false, Bool.true_or, Bool.or_true, Bool.not_true, Bool.not_false, Bool.true_and, Bool.and_true, Bool.false_and, Bool.and_false, W_some, W_seq, W_block, Q_cont_normal, Q_cont_ret, Q_cont_exit, Q_block_normal, Q_block_ret, Q_block_exit, Q_loop_normal, Q_loop_ret, Q_loop_exit, Q_ret, Q_ret', slc, O_append, O_slice, cut_to, cut_from, cut_all, cut_mid, Option.map_none, O_alloc, O_box, O_atArr, arr_some, O_off, off_ptr, O_field, O_field1, field1_agg, pair_some, O_extract, extract_tup, wrote_some, O_store1, store1_int, store1_bool, store1_string, store1_slice, store1_ptr, store1_func, store1_nilFunc, store1_map, O_store, store_agg, O_nilCheck, nilCheck_ptr, nilCheck_func, read1_skip, read1_skip0, read1_next, read1_there, read_skip, read_skip0, read_next, read_there, pre_some, cons_some, write1_skip, write1_skip0, write1_next, write1_there, write_skip, write_skip0, write_next, write_there, fillU_zero, fillU_succ, List.append_assoc, List.length_append, List.append_nil, Int.toNat_natCast, Nat.mul_one, Nat.add_zero, Option.map_some, List.getElem?_cons_zero, List.getElem?_cons_succ, Q_ret2Q, Q_ret3Q, fin_int3, fin_ib, finish_same, Q_retEct, cellsTE_ptr, outTE_some, again1_int, again1_bool, again1_string, again1_slice, Q_out, O_max2, max_int, O_min2, min_int, Q_retE, Q_retE2, Q_retE3, Bool.bne_false, Bool.bne_true, beq_self_eq_true, Bool.true_beq, Bool.false_beq, O_eqv, eqv_bool, Int.reduceLE, Int.reduceLT, Int.reduceToNat, eq_self, arr_nat, row_nat, laid_agg, box_some, O_again, again_agg, O_again1, O_eqAgg, Q_for_normal, Q_for_exit, Q_for_ret, str_lit, store1_str, O_lenStr, lenStr_str, O_idxStr, O_sliceStr, B_eqlS, B_neqS, Option.map_none, Option.map_some, h1, decide_true, idx_str _ hkl, ref_letter_c, ref_digit_c, e1, e2, e3, e4]
            · rw [e3] at hq; simp at hq
        · rw [e1, e2] at hq; simp at hq
      · rw [e1] at hq; simp at hq
    · have h1 : (((a + rowN p (l.drop a) : Nat) : Int) < (l.length : Int)) = False := by simp; omega
      simp only [C_ops, C_cond, D_exit, D_ret, D_skip, normal_some, cond_tt, cond_ff, E_nil, E_cons, E_guard, next_some, next_none, guard_tt, guard_ff, guard_tf, guard_ft, guard_tu, ev_tmp, ev_const, ev_global, ev_func, get_succ, get_zero, List.set_cons_succ, List.set_cons_zero, O_mv, O_pick, pickO, O_bin, pairO, O_un, O_conv, convO, O_call, List.map_cons, List.map_nil, O_len, len_slice, O_atRow, O_load1, load1_ptr, O_load, load_ptr, O_mkRow, O_build, mk_some, build_some, partsV_nil, partsV_cons, zeros_zero, zeros_succ, fill_nil, fill_int, fill_bool, fill_slice, fill_string, Nat.lt_add_one, Nat.zero_lt_succ, Nat.reduceLT, Nat.zero_lt_one, B_add, B_sub, B_mul, B_band, B_bor, B_bxor, B_bandNot, B_eql, B_neq, B_lss, B_leq, B_gtr, B_geq, B_shl', B_shr', B_rem, B_quo, U_not, U_neg, List.cons_append, List.nil_append, List.length_cons, List.length_nil, Nat.reduceAdd, Nat.reduceSub, Nat.zero_add, end_ret, end_normal, Bool.false_or, Bool.or_false, Bool.true_or, Bool.or_true, Bool.not_true, Bool.not_false, Bool.true_and, Bool.and_true, Bool.false_and, Bool.and_false, W_some, W_seq, W_block, Q_cont_normal, Q_cont_ret, Q_cont_exit, Q_block_normal, Q_block_ret, Q_block_exit, Q_loop_normal, Q_loop_ret, Q_loop_exit, Q_ret, Q_ret', slc, O_append, O_slice, cut_to, cut_from, cut_all, cut_mid, Option.map_none, O_alloc, O_box, O_atArr, arr_some, O_off, off_ptr, O_field, O_field1, field1_agg, pair_some, O_extract, extract_tup, wrote_some, O_store1, store1_int, store1_bool, store1_string, store1_slice, store1_ptr, store1_func, store1_nilFunc, store1_map, O_store, store_agg, O_nilCheck, nilCheck_ptr, nilCheck_func, read1_skip, read1_skip0, read1_next, read1_there, read_skip, read_skip0, read_next, read_there, pre_some, cons_some, write1_skip, write1_skip0, write1_next, write1_there, write_skip, write_skip0, write_next, write_there, fillU_zero, fillU_succ, List.append_assoc, List.length_append, List.append_nil, Int.toNat_natCast, Nat.mul_one, Nat.add_zero, Option.map_some, List.getElem?_cons_zero, List.getElem?_cons_succ, Q_ret2Q, Q_ret3Q, fin_int3, fin_ib, finish_same, Q_retEct, cellsTE_ptr, outTE_some, again1_int, again1_bool, again1_string, again1_slice, Q_out, O_max2, max_int, O_min2, min_int, Q_retE, Q_retE2, Q_retE3, Bool.bne_false, Bool.bne_true, beq_self_eq_true, Bool.true_beq, Bool.false_beq, O_eqv, eqv_bool, Int.reduceLE, Int.reduceLT, Int.reduceToNat, eq_self, arr_nat, row_nat, laid_agg, box_some, O_again, again_agg, O_again1, O_eqAgg, Q_for_normal, Q_for_exit, Q_for_ret, str_lit, store1_str, O_lenStr, lenStr_str, O_idxStr, O_sliceStr, B_eqlS, B_neqS, Option.map_none, Option.map_some, h1, decide_false]
  · exact junk rfl
end Go.Proofs.YtfbldlgjlgcpoaaDoor.AM
