/-
  Codes: the first rule that they break, as the document has it.
  Conditions: each is shorter than 2^62.
-/
import Derived.Test.YtjodnadlplicmaaUa5
namespace Go.Proofs.Ytjodnadlplicmaa.AM
open Go.RowKit
set_option linter.unusedSimpArgs false
set_option linter.unusedVariables false

set_option maxHeartbeats 1000000 in
theorem ref_Check_c (codes : List (List Ins)) (s : Value) (h : Heap) (hs : Codes h s codes) (hl : ∀ c ∈ codes, c.length < 4611686018427387904) (hn : codes.length < 4611686018427387904) : DF FF n_belatedref3_Check [s] h = some (tup3 (checkV codes), h) := by
  refine fun_wpU F_belatedref3_Check ?_
  by_cases h0 : codes.length < 1
  · have c0 : ((codes.length : Int) < 1) := by omega
    have e : checkV codes = (0, 0, 30) := by unfold checkV; rw [if_pos (.inl h0)]
    simp only [c_belatedref3_Check, C_ops, C_cond, D_ret, normal_some, cond_tt, E_nil, E_cons, E_guard, next_some, guard_ft, ev_tmp, ev_const, get_succ, get_zero, List.set_cons_succ, List.set_cons_zero, O_mv, O_pick, pickO, O_bin, pairO, O_len, B_lss, List.cons_append, List.nil_append, List.length_cons, List.length_nil, Nat.reduceSub, Nat.zero_add, W_some, W_seq, Q_cont_normal, Q_cont_ret, fillU_zero, fillU_succ, Q_ret3Q, finish_same, eq_self, hs.len, c0, decide_true, e, tup3]
  · have c0 : ¬ ((codes.length : Int) < 1) := by omega
    by_cases h3 : 3 < codes.length
    · have c3 : ((3 : Int) < (codes.length : Int)) := by omega
      have e : checkV codes = (0, 0, 30) := by unfold checkV; rw [if_pos (.inr h3)]
      simp only [c_belatedref3_Check, C_ops, C_cond, D_ret, normal_some, cond_tt, E_nil, E_cons, E_guard, next_some, guard_ff, ev_tmp, ev_const, get_succ, get_zero, List.set_cons_succ, List.set_cons_zero, O_mv, O_pick, pickO, O_bin, pairO, O_len, B_lss, B_gtr, List.cons_append, List.nil_append, List.length_cons, List.length_nil, Nat.reduceSub, Nat.zero_add, W_some, W_seq, Q_cont_normal, Q_cont_ret, fillU_zero, fillU_succ, Q_ret3Q, finish_same, eq_self, hs.len, c0, c3, decide_true, decide_false, e, tup3]
    · have c3 : ¬ ((3 : Int) < (codes.length : Int)) := by omega
      have hck : checkV codes = match longT codes with
        | some t => ((t : Int), 0, 31)
        | none => match badT codes with
          | some (t, k, e) => ((t : Int), (k : Int), e)
          | none => if 6 < sumP memV codes then (0, 0, 32) else if 3 < sumP isBr codes then (0, 0, 33) else (0, 0, 0) := by
        unfold checkV; rw [if_neg (by omega)]; rfl
      simp only [c_belatedref3_Check, C_ops, C_cond, D_skip, normal_some, cond_ff, E_nil, E_cons, E_guard, next_some, guard_ff, ev_tmp, ev_const, get_succ, get_zero, List.set_cons_succ, List.set_cons_zero, O_mv, O_pick, pickO, O_bin, pairO, O_len, B_lss, B_gtr, List.cons_append, List.nil_append, List.length_cons, List.length_nil, Nat.reduceSub, Nat.zero_add, W_some, W_seq, W_block, Q_cont_normal, fillU_zero, fillU_succ, hs.len, c0, c3, decide_false]
      refine for_wp codes.length (fun k st => (∀ t (ht : t < codes.length), t < k → codes[t].length ≤ 8) ∧ ∃ j : Nat → Value, st = ⟨[s, j 1, j 2, j 3, j 4, .int .i64 0, .int .i64 0, .int .i64 k, j 8, j 9, j 10, j 11, j 12, j 13, j 14, j 15, j 16, j 17, j 18, j 19, j 20, j 21, j 22, j 23, j 24, j 25, j 26, j 27, j 28, j 29, j 30, j 31, j 32, j 33, j 34, j 35, j 36, j 37, j 38, j 39, j 40, j 41, j 42, j 43, j 44, j 45, j 46, j 47, j 48, j 49, j 50, j 51, j 52, j 53, j 54, j 55, j 56, j 57, j 58, j 59, j 60, j 61, j 62, j 63, j 64, j 65, j 66, j 67, j 68, j 69, j 70, j 71, j 72, j 73, j 74, j 75, j 76, j 77, j 78, j 79, j 80, j 81, j 82, j 83], h⟩) ?_ ?_ _ ?_
      · rintro k st hk ⟨hle, j, rfl⟩
        obtain ⟨b, o, v, w, a1, _, a3, a4⟩ := hs.at hk
        have h1 : (k : Int) < codes.length := by omega
        by_cases hlong : 8 < codes[k].length
        · have c8 : (8 : Int) < (codes[k].length : Int) := by omega
          have el : longT codes = some k := find_first (fun t ht => by
            rw [List.getElem?_eq_getElem (by omega)]
            have := hle t (by omega) ht
            simp; omega) (by rw [List.getElem?_eq_getElem hk]; simpa using hlong) hk
          rw [el] at hck
          simp only [C_ops, C_cond, D_ret, D_skip, normal_some, cond_tt, E_nil, E_cons, next_some, ev_tmp, ev_const, get_succ, get_zero, List.set_cons_succ, List.set_cons_zero, O_mv, O_bin, pairO, O_len, O_atRow, O_load1, load1_ptr, B_lss, B_gtr, W_some, W_seq, W_block, Q_cont_normal, Q_cont_ret, Q_block_ret, Q_ret3Q, finish_same, eq_self, Q_for_ret, hs.len, h1, decide_true, a1, a3, a4.len, c8, hck, tup3]
        · have c8 : ¬ (8 : Int) < (codes[k].length : Int) := by omega
          simp only [C_ops, C_cond, D_skip, normal_some, cond_tt, cond_ff, E_nil, E_cons, next_some, ev_tmp, ev_const, get_succ, get_zero, List.set_cons_succ, List.set_cons_zero, O_mv, O_bin, pairO, O_len, O_atRow, O_load1, load1_ptr, B_add, B_lss, B_gtr, W_some, W_seq, W_block, Q_cont_normal, Q_block_normal, Q_for_normal, hs.len, h1, decide_true, a1, a3, a4.len, c8, decide_false, wrap_nat (k := k) (by omega)]
          refine ⟨fun t ht hlt => ?_, junk rfl⟩
          by_cases htk : t = k
          · subst htk; omega
          · exact hle t ht (by omega)
      · rintro st ⟨hle, j, rfl⟩
        have h1 : ¬ ((codes.length : Nat) : Int) < codes.length := by omega
        have hle' : ∀ t (ht : t < codes.length), codes[t].length ≤ 8 := fun t ht => hle t ht ht
        have el : longT codes = none := find_none fun t ht => by
          rw [List.getElem?_eq_getElem ht]
          have := hle' t ht
          simp; omega
        rw [el] at hck
        simp only at hck
        simp only [C_ops, C_cond, D_exit, normal_some, cond_ff, E_nil, E_cons, next_some, ev_tmp, ev_const, get_succ, get_zero, List.set_cons_succ, List.set_cons_zero, O_mv, O_bin, pairO, O_len, B_lss, W_some, W_seq, W_block, Q_cont_normal, Q_cont_exit, Q_block_exit, Q_for_exit, h1, decide_false, hs.len]
        refine for_wp codes.length (fun k st => (∀ t, t < k → badG codes t = none) ∧ ∃ j : Nat → Value, st = ⟨[s, j 1, j 2, j 3, j 4, .int .i64 (sumP memV (codes.take k) : Nat), .int .i64 (sumP isBr (codes.take k) : Nat), j 7, .int .i64 k, j 9, j 10, j 11, j 12, j 13, j 14, j 15, j 16, j 17, j 18, j 19, j 20, j 21, j 22, j 23, j 24, j 25, j 26, j 27, j 28, j 29, j 30, j 31, j 32, j 33, j 34, j 35, j 36, j 37, j 38, j 39, j 40, j 41, j 42, j 43, j 44, j 45, j 46, j 47, j 48, j 49, j 50, j 51, j 52, j 53, j 54, j 55, j 56, j 57, j 58, j 59, j 60, j 61, j 62, j 63, j 64, j 65, j 66, j 67, j 68, j 69, j 70, j 71, j 72, j 73, j 74, j 75, j 76, j 77, j 78, j 79, j 80, j 81, j 82, j 83], h⟩) ?_ ?_ _ ?_
        · rintro k st hk ⟨hno, j, rfl⟩
          obtain ⟨b, o, v, w, a1, _, a3, a4⟩ := hs.at hk
          have h1 : (k : Int) < codes.length := by omega
          have s1 := sumP_le (p := memV) k (by omega) fun t ht _ => hle' t ht
          have s2 := sumP_le (p := isBr) k (by omega) fun t ht _ => hle' t ht
          have s3 := countP_le memV codes[k]
          have s4 := countP_le isBr codes[k]
          have hlen8 := hle' k hk
          have e1 : IntKind.i64.wrap ((sumP memV (codes.take k) : Int) + (countP memV codes[k] : Int)) = ((sumP memV (codes.take (k + 1)) : Nat) : Int) := by rw [wrapS (by omega), sumP_succ memV codes hk]; omega
          have e2 : IntKind.i64.wrap ((sumP isBr (codes.take k) : Int) + (countP isBr codes[k] : Int)) = ((sumP isBr (codes.take (k + 1)) : Nat) : Int) := by rw [wrapS (by omega), sumP_succ isBr codes hk]; omega
          simp only [C_ops, C_cond, D_skip, normal_some, cond_tt, E_nil, E_cons, next_some, ev_tmp, ev_const, get_succ, get_zero, List.set_cons_succ, List.set_cons_zero, O_mv, O_bin, pairO, O_len, B_lss, W_some, W_seq, W_block, Q_cont_normal, hs.len, h1, decide_true]
          refine for_wp codes[k].length (fun m st => (∀ t, t < m → badF codes[k] t = none) ∧ ∃ j : Nat → Value, st = ⟨[s, j 1, j 2, j 3, j 4, .int .i64 (sumP memV (codes.take k) : Nat), .int .i64 (sumP isBr (codes.take k) : Nat), j 7, .int .i64 k, .int .i64 m, j 10, j 11, j 12, j 13, j 14, j 15, j 16, j 17, j 18, j 19, j 20, j 21, j 22, j 23, j 24, j 25, j 26, j 27, j 28, j 29, j 30, j 31, j 32, j 33, j 34, j 35, j 36, j 37, j 38, j 39, j 40, j 41, j 42, j 43, j 44, j 45, j 46, j 47, j 48, j 49, j 50, j 51, j 52, j 53, j 54, j 55, j 56, j 57, j 58, j 59, j 60, j 61, j 62, j 63, j 64, j 65, j 66, j 67, j 68, j 69, j 70, j 71, j 72, j 73, j 74, j 75, j 76, j 77, j 78, j 79, j 80, j 81, j 82, j 83], h⟩) ?_ ?_ _ ?_
          · rintro m st hm ⟨hno2, j, rfl⟩
            obtain ⟨b', o', v', p1, _, p2⟩ := a4.at hm
            have h2 : (m : Int) < codes[k].length := by omega
            have hbf : badF codes[k] m = if rightV codes[k][m] m codes[k].length = 0 then none else some (m, rightV codes[k][m] m codes[k].length) := by
              unfold badF; rw [List.getElem?_eq_getElem hm]
            by_cases hz : rightV codes[k][m] m codes[k].length = 0
            · have c1 : (rightV codes[k][m] m codes[k].length != 0) = false := by rw [hz]; rfl
              simp only [C_ops, C_cond, D_skip, normal_some, cond_tt, cond_ff, E_nil, E_cons, next_some, ev_tmp, ev_const, get_succ, get_zero, List.set_cons_succ, List.set_cons_zero, O_mv, O_bin, pairO, O_call, List.map_cons, List.map_nil, O_len, O_atRow, O_load1, load1_ptr, O_load, load_ptr, B_add, B_neq, B_lss, W_some, W_seq, W_block, Q_cont_normal, Q_block_normal, Option.map_some, Q_for_normal, a1, a3, h2, decide_true, p1, p2, a4.len, ref_Right_c, c1, wrap_nat (k := m) (by omega)]
              refine ⟨fun t ht => ?_, junk rfl⟩
              by_cases htm : t = m
              · subst htm; rw [hbf, if_pos hz]
              · exact hno2 t (by omega)
            · have c1 : (rightV codes[k][m] m codes[k].length != 0) = true := by simp [hz]
              have eb : badT codes = some (k, m, rightV codes[k][m] m codes[k].length) := by
                refine findSome_first (k := k) hno ?_ hk
                unfold badG
                rw [List.getElem?_eq_getElem hk]
                simp only
                have : badC codes[k] = some (m, rightV codes[k][m] m codes[k].length) := findSome_first hno2 (by rw [hbf, if_neg hz]) hm
                rw [this]; rfl
              rw [eb] at hck
              simp only [C_ops, C_cond, D_ret, D_skip, normal_some, cond_tt, E_nil, E_cons, next_some, ev_tmp, ev_const, get_succ, get_zero, List.set_cons_succ, List.set_cons_zero, O_mv, O_bin, pairO, O_call, List.map_cons, List.map_nil, O_len, O_atRow, O_load1, load1_ptr, O_load, load_ptr, B_neq, B_lss, W_some, W_seq, W_block, Q_cont_normal, Q_cont_ret, Q_block_ret, Option.map_some, Q_ret3Q, finish_same, eq_self, Q_for_ret, a1, a3, h2, decide_true, p1, p2, a4.len, ref_Right_c, c1, hck, tup3]
          · rintro st ⟨hno2, j, rfl⟩
            have h2 : ¬ ((codes[k].length : Nat) : Int) < codes[k].length := by omega
            simp only [C_ops, C_cond, D_exit, normal_some, cond_ff, E_nil, E_cons, next_some, ev_tmp, ev_const, get_succ, get_zero, List.set_cons_succ, List.set_cons_zero, O_mv, O_bin, pairO, O_call, List.map_cons, List.map_nil, O_len, O_atRow, O_load1, load1_ptr, B_add, B_lss, W_some, W_seq, Q_cont_normal, Q_cont_exit, Q_block_normal, Q_block_exit, Q_for_normal, Q_for_exit, a1, a3, a4.len, h2, decide_false, ref_Ops_c codes[k] w h a4 (by omega), ref_Branches_c codes[k] w h a4 (by omega), e1, e2, wrap_nat (k := k) (by omega)]
            refine ⟨fun t ht => ?_, junk rfl⟩
            by_cases htk : t = k
            · subst htk
              unfold badG
              rw [List.getElem?_eq_getElem hk]
              have : badC codes[t] = none := findSome_none fun x hx => hno2 x hx
              simp only; rw [this]; rfl
            · exact hno t (by omega)
          · exact ⟨fun t ht => by omega, junk rfl⟩
        · rintro st ⟨hno, j, rfl⟩
          have h1 : ¬ ((codes.length : Nat) : Int) < codes.length := by omega
          have eb : badT codes = none := findSome_none hno
          rw [eb] at hck
          simp only at hck
          by_cases c6 : 6 < sumP memV codes
          · rw [if_pos c6] at hck
            have d6 : (6 : Int) < (sumP memV codes : Int) := by omega
            simp only [C_ops, C_cond, D_exit, D_ret, normal_some, cond_tt, cond_ff, E_nil, E_cons, next_some, ev_tmp, ev_const, get_succ, get_zero, List.set_cons_succ, List.set_cons_zero, O_mv, O_bin, pairO, O_len, B_lss, B_gtr, W_some, W_seq, Q_cont_normal, Q_cont_ret, Q_cont_exit, Q_block_exit, Q_ret3Q, finish_same, eq_self, Q_for_exit, hs.len, List.take_length, h1, decide_false, d6, decide_true, hck, tup3]
          · rw [if_neg c6] at hck
            have d6 : ¬ (6 : Int) < (sumP memV codes : Int) := by omega
            by_cases cb : 3 < sumP isBr codes
            · rw [if_pos cb] at hck
              have db : (3 : Int) < (sumP isBr codes : Int) := by omega
              simp only [C_ops, C_cond, D_exit, D_ret, D_skip, normal_some, cond_tt, cond_ff, E_nil, E_cons, next_some, ev_tmp, ev_const, get_succ, get_zero, List.set_cons_succ, List.set_cons_zero, O_mv, O_bin, pairO, O_len, B_lss, B_gtr, W_some, W_seq, Q_cont_normal, Q_cont_ret, Q_cont_exit, Q_block_exit, Q_ret3Q, finish_same, eq_self, Q_for_exit, hs.len, List.take_length, h1, decide_false, d6, db, decide_true, hck, tup3]
            · rw [if_neg cb] at hck
              have db : ¬ (3 : Int) < (sumP isBr codes : Int) := by omega
              simp only [C_ops, C_cond, D_exit, D_ret, D_skip, normal_some, cond_ff, E_nil, E_cons, next_some, ev_tmp, ev_const, get_succ, get_zero, List.set_cons_succ, List.set_cons_zero, O_mv, O_bin, pairO, O_len, B_lss, B_gtr, W_some, W_seq, Q_cont_normal, Q_cont_exit, Q_block_exit, Q_ret3Q, finish_same, eq_self, Q_for_exit, hs.len, List.take_length, h1, decide_false, d6, db, hck, tup3]
        · exact ⟨fun t ht => by omega, junk rfl⟩
      · exact ⟨fun t ht hlt => by omega, junk rfl⟩
end Go.Proofs.Ytjodnadlplicmaa.AM
