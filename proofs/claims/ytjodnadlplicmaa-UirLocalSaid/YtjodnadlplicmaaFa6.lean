/-
  All paths through a code, as the document has it.
  Conditions: codes no longer than 8.
-/
import Derived.Test.YtjodnadlplicmaaFa5
namespace Go.Proofs.Ytjodnadlplicmaa.AM
open Go.RowKit
set_option linter.unusedSimpArgs false
set_option linter.unusedVariables false

theorem PL.finish {h0 H K : Heap} {v : Value} {L : List (List Int)} (e : PL h0 K v L) (p : Pre h0 K) (q : Pre h0 H) : PL h0 (AM.finish H v K) v L ∧ Pre h0 (AM.finish H v K) := by
  unfold AM.finish
  split
  · rename_i hf
    obtain ⟨vs, e1, e2, e3, e4, e5⟩ := e
    rcases e1 with ⟨⟨rfl, hr⟩ | ⟨b, ver, hb, rfl, ho⟩, hc⟩
    · have hv : vs = [] := by simpa using hr
      subst hv
      have : L = [] := List.eq_nil_of_length_eq_zero (by rw [← e2]; rfl)
      subst this
      exact ⟨PL.nil _ _, q⟩
    · exact absurd hf.1 (by simp [flat, plain1, plain])
  · exact ⟨e, p⟩
/-- All paths from a place on. -/
def pathsN (code : List Ins) : Nat → Nat → List (List Int)
  | 0, _ => []
  | f + 1, k => match code[k]? with
    | none => [[]]
    | some i => (pathsN code f (k + 1)).map ((k : Int) :: ·) ++ if (i.op == 9) && (decide ((k : Int) + 1 < i.to) && decide (i.to ≤ (code.length : Int))) then (pathsN code f i.to.toNat).map ((k : Int) :: ·) else []
theorem pathsN_many (code : List Ins) : ∀ f k, (pathsN code f k).length ≤ 2 ^ f
  | 0, _ => by simp [pathsN]
  | f + 1, k => by
    rw [pathsN]
    cases hi : code[k]? with
    | none => simp; exact Nat.pos_of_ne_zero (by simp)
    | some i =>
      have h1 := pathsN_many code f (k + 1)
      have h2 := pathsN_many code f i.to.toNat
      simp only [List.length_append, List.length_map]
      rw [Nat.pow_succ]
      split
      · simp only [List.length_map]; omega
      · simp only [List.length_nil]; omega
theorem pathsN_long (code : List Ins) : ∀ f k, ∀ l ∈ pathsN code f k, l.length ≤ f
  | 0, _ => by simp [pathsN]
  | f + 1, k => by
    intro l hl
    rw [pathsN] at hl
    cases hi : code[k]? with
    | none => rw [hi] at hl; simp at hl; subst hl; simp
    | some i =>
      rw [hi] at hl
      simp only [List.mem_append, List.mem_map] at hl
      rcases hl with ⟨m, hm, rfl⟩ | hl
      · have := pathsN_long code f _ m hm; simp; omega
      · split at hl
        · simp only [List.mem_map] at hl
          obtain ⟨m, hm, rfl⟩ := hl
          have := pathsN_long code f _ m hm; simp; omega
        · cases hl
theorem pow9 {f : Nat} (h : f ≤ 9) : 2 ^ f ≤ 512 := by
  have : (2 : Nat) ^ f ≤ 2 ^ 9 := Nat.pow_le_pow_right (by omega) h
  exact this
theorem fill_slice1 (a : Option Addr) (n c : Nat) : fillRow [.slice none 0 0] [(0, 1, .slice a n c)] = some [.slice a n c] := by
  simp only [C_ops, C_cond, D_exit, D_ret, D_skip, normal_some, cond_tt, cond_ff, E_nil, E_cons, E_guard, next_some, next_none, guard_tt, guard_ff, guard_tf, guard_ft, guard_tu, ev_tmp, ev_const, ev_global, ev_func, get_succ, get_zero, List.set_cons_succ, List.set_cons_zero, O_mv, O_pick, pickO, O_bin, pairO, O_un, O_conv, convO, O_call, List.map_cons, List.map_nil, O_len, len_slice, O_atRow, O_load1, load1_ptr, O_load, load_ptr, O_mkRow, O_build, mk_some, build_some, partsV_nil, partsV_cons, zeros_zero, zeros_succ, fill_nil, fill_int, fill_bool, fill_slice, fill_string, Nat.lt_add_one, Nat.zero_lt_succ, Nat.reduceLT, Nat.zero_lt_one, B_add, B_sub, B_mul, B_band, B_bor, B_bxor, B_bandNot, B_eql, B_neq, B_lss, B_leq, B_gtr, B_geq, B_shl', B_shr', B_rem, B_quo, U_not, U_neg, List.cons_append, List.nil_append, List.length_cons, List.length_nil, Nat.reduceAdd, Nat.reduceSub, Nat.zero_add, end_ret, end_normal, Bool.false_or, Bool.or_false, Bool.true_or, Bool.or_true, Bool.not_true, Bool.not_false, Bool.true_and, Bool.and_true, Bool.false_and, Bool.and_false, W_some, W_seq, W_block, Q_cont_normal, Q_cont_ret, Q_cont_exit, Q_block_normal, Q_block_ret, Q_block_exit, Q_loop_normal, Q_loop_ret, Q_loop_exit, Q_ret, Q_ret', slc, O_append, O_slice, cut_to, cut_from, cut_all, cut_mid, Option.map_none, O_alloc, O_box, O_atArr, arr_some, O_off, off_ptr, O_field, O_field1, field1_agg, pair_some, O_extract, extract_tup, wrote_some, O_store1, store1_int, store1_bool, store1_string, store1_slice, store1_ptr, store1_func, store1_nilFunc, store1_map, O_store, store_agg, O_nilCheck, nilCheck_ptr, nilCheck_func, read1_skip, read1_skip0, read1_next, read1_there, read_skip, read_skip0, read_next, read_there, pre_some, cons_some, write1_skip, write1_skip0, write1_next, write1_there, write_skip, write_skip0, write_next, write_there, fillU_zero, fillU_succ, List.append_assoc, List.length_append, List.append_nil, Int.toNat_natCast, Nat.mul_one, Nat.add_zero, Option.map_some, List.getElem?_cons_zero, List.getElem?_cons_succ, Q_ret2Q, Q_ret3Q, fin_int3, fin_ib, finish_same, Q_retEct, cellsTE_ptr, outTE_some, again1_int, again1_bool, again1_string, again1_slice, Q_out, O_max2, max_int, O_min2, min_int, Q_retE, Q_retE2, Q_retE3, Bool.bne_false, Bool.bne_true, beq_self_eq_true, Bool.true_beq, Bool.false_beq, O_eqv, eqv_bool, Int.reduceLE, Int.reduceLT, Int.reduceToNat, eq_self, arr_nat, row_nat, laid_agg, box_some, O_again, again_agg, O_again1, O_eqAgg, Q_for_normal, Q_for_exit, Q_for_ret]
theorem read0 {H : Heap} {a : Addr} {i : Ins} (h : Heap.read H a 17 = some (insL i)) : Heap.read1 H a = some (.int .i64 i.op) := read1_of0 h (insL_0 i)
theorem more_two {H : Heap} {code : List Ins} {c : Value} (e : InsSl H c code) (K : Heap) (p : Pre H K) : InsSl K c code := e.pre p
end Go.Proofs.Ytjodnadlplicmaa.AM
