/-
  The law on checks.
  Conditions: none.
-/
import Derived.Test.YtjodnadlplicmaaUd1
namespace Go.Proofs.Ytjodnadlplicmaa.AM
open Go.RowKit
set_option linter.unusedSimpArgs false
set_option linter.unusedVariables false

set_option maxHeartbeats 16000000 in
set_option maxRecDepth 20000 in
theorem law_UirChecks {codes : List (List Ins)} {s : Value} {h : Heap} (hs : Codes h s codes) (hb : codes.length * 24 ≤ roomFor) (hbc : ∀ c ∈ codes, c.length * 120 ≤ roomFor) : DF FF n_belatedlaw3_UirChecks [s] h = some (.bool true, h) := by
  refine fun_wpU F_belatedlaw3_UirChecks ?_
  have hcl : codes.length < 8796093022208 := by unfold roomFor at hb; omega
  simp only [c_belatedlaw3_UirChecks, C_ops, C_cond, D_skip, normal_some, cond_ff, E_nil, E_cons, next_some, ev_tmp, ev_const, get_succ, get_zero, List.set_cons_succ, List.set_cons_zero, O_mv, pairO, O_un, O_call, List.map_nil, O_len, U_not, List.cons_append, List.nil_append, List.length_cons, List.length_nil, Nat.reduceSub, Nat.zero_add, Bool.not_true, W_some, W_seq, W_block, Q_cont_normal, fillU_zero, fillU_succ, List.append_assoc, law3_able_c, hs.len]
  refine for_out 0 codes.length (fun k st => ∃ j : Nat → Value, st = ⟨[s, j 1, j 2, .int .i64 ((codes.length + sumLen (codes.take k) : Nat) : Int), .int .i64 (k : Int), j 5, j 6, j 7, j 8, j 9, j 10, j 11, j 12, j 13, j 14, j 15, j 16, j 17, j 18, j 19, j 20, j 21, j 22, j 23, j 24, j 25, j 26, j 27, j 28, j 29, j 30, j 31, j 32, j 33, j 34, j 35, j 36, j 37, j 38, j 39, j 40, j 41, j 42, j 43, j 44, j 45, j 46, j 47, j 48, j 49, j 50, j 51, j 52, j 53, j 54, j 55, j 56, j 57, j 58, j 59, j 60, j 61, j 62, j 63, j 64, j 65, j 66, j 67, j 68, j 69, j 70, j 71, j 72, j 73, j 74, j 75, j 76, j 77, j 78, j 79, j 80, j 81, j 82, j 83, j 84, j 85, j 86, j 87, j 88, j 89, j 90, j 91, j 92, j 93, j 94, j 95, j 96, j 97, j 98, j 99, j 100, j 101, j 102, j 103, j 104, j 105, j 106, j 107, j 108, j 109, j 110, j 111, j 112, j 113, j 114, j 115, j 116, j 117, j 118, j 119, j 120, j 121, j 122, j 123, j 124, j 125, j 126, j 127, j 128, j 129, j 130, j 131, j 132, j 133, j 134, j 135, j 136, j 137, j 138], h⟩ ∧ codes.length + sumLen (codes.take k) < 4611686018427387904)
    (fun st => ∃ (n : Int) (j : Nat → Value), st = ⟨[s, j 1, j 2, .int .i64 n, j 4, j 5, j 6, j 7, j 8, j 9, j 10, j 11, j 12, j 13, j 14, j 15, j 16, j 17, j 18, j 19, j 20, j 21, j 22, j 23, j 24, j 25, j 26, j 27, j 28, j 29, j 30, j 31, j 32, j 33, j 34, j 35, j 36, j 37, j 38, j 39, j 40, j 41, j 42, j 43, j 44, j 45, j 46, j 47, j 48, j 49, j 50, j 51, j 52, j 53, j 54, j 55, j 56, j 57, j 58, j 59, j 60, j 61, j 62, j 63, j 64, j 65, j 66, j 67, j 68, j 69, j 70, j 71, j 72, j 73, j 74, j 75, j 76, j 77, j 78, j 79, j 80, j 81, j 82, j 83, j 84, j 85, j 86, j 87, j 88, j 89, j 90, j 91, j 92, j 93, j 94, j 95, j 96, j 97, j 98, j 99, j 100, j 101, j 102, j 103, j 104, j 105, j 106, j 107, j 108, j 109, j 110, j 111, j 112, j 113, j 114, j 115, j 116, j 117, j 118, j 119, j 120, j 121, j 122, j 123, j 124, j 125, j 126, j 127, j 128, j 129, j 130, j 131, j 132, j 133, j 134, j 135, j 136, j 137, j 138], h⟩ ∧ (¬ ((2000 : Int) < n) → codes.length ≤ 2000 ∧ ∀ c ∈ codes, c.length ≤ 2000)) ?_ ?_ _ ?_ ?_
  · rintro k st hk ⟨j, rfl, hsm⟩
    have hk1 : (k : Int) < (codes.length : Int) := by omega
    by_cases hn : ((codes.length + sumLen (codes.take k) : Nat) : Int) ≤ 2000
    · obtain ⟨b, o, v, w, a1, _, a3, a4⟩ := hs.at hk
      have hck := hbc _ (List.getElem_mem hk)
      have hck' : codes[k].length < 4398046511104 := by unfold roomFor at hck; omega
      have hsu := sumLen_succ hk
      have hw : IntKind.i64.wrap (((codes.length + sumLen (codes.take k) : Nat) : Int) + (codes[k].length : Int)) = ((codes.length + sumLen (codes.take (k + 1)) : Nat) : Int) := by
        rw [wrapS (by omega), hsu]; omega
      simp only [C_ops, C_cond, D_skip, normal_some, cond_tt, E_nil, E_cons, E_guard, next_some, guard_tt, ev_tmp, ev_const, get_succ, get_zero, List.set_cons_succ, List.set_cons_zero, O_mv, O_pick, pickO, O_bin, pairO, O_len, O_atRow, O_load1, load1_ptr, B_add, B_lss, B_leq, W_some, W_seq, W_block, Q_cont_normal, Q_block_normal, Q_for_normal, hs.len, hk1, hn, decide_true, a1, a3, a4.len, hw, wrap_nat (k := k) (by omega)]
      exact junkA rfl (by omega)
    · simp only [C_ops, C_cond, D_exit, normal_some, cond_ff, E_nil, E_cons, E_guard, next_some, guard_tt, ev_tmp, ev_const, get_succ, get_zero, List.set_cons_succ, List.set_cons_zero, O_mv, O_pick, pickO, O_bin, pairO, O_len, B_lss, B_leq, W_some, W_seq, Q_cont_normal, Q_cont_exit, Q_out, Q_for_exit, hs.len, hk1, hn, decide_true, decide_false]
      exact ⟨_, junkA rfl (fun h => by omega)⟩
  · rintro st ⟨j, rfl, hsm⟩
    have hk1 : ¬ ((codes.length : Int) < (codes.length : Int)) := by omega
    simp only [C_ops, C_cond, D_exit, normal_some, cond_ff, E_nil, E_cons, E_guard, next_some, guard_tf, ev_tmp, ev_const, get_succ, get_zero, List.set_cons_succ, List.set_cons_zero, O_mv, O_pick, pickO, O_bin, pairO, O_len, B_lss, W_some, W_seq, Q_cont_normal, Q_cont_exit, Q_out, Q_for_exit, hs.len, hk1, decide_false, List.take_length]
    refine ⟨_, junkA rfl fun h => ⟨by omega, fun c hc => ?_⟩⟩
    have := sumLen_mem c hc
    omega
  · exact junkA rfl (by simp [sumLen]; omega)
  · rintro st ⟨n, j, rfl, hsm⟩
    by_cases hn : (2000 : Int) < n
    · simp only [C_ops, C_cond, D_ret, normal_some, cond_tt, E_nil, E_cons, next_some, ev_tmp, ev_const, get_succ, get_zero, List.set_cons_succ, List.set_cons_zero, O_mv, O_bin, pairO, B_gtr, W_some, W_seq, Q_cont_normal, Q_cont_ret, Q_block_exit, Q_ret, eq_self, hn, decide_true]
    · obtain ⟨l1, l2⟩ := hsm hn
      simp only [C_ops, C_cond, D_skip, normal_some, cond_ff, E_nil, E_cons, next_some, ev_tmp, ev_const, get_succ, get_zero, List.set_cons_succ, List.set_cons_zero, O_mv, O_bin, pairO, B_gtr, W_some, W_seq, W_block, Q_cont_normal, Q_block_exit, hn, decide_false]
      refine for_wp codes.length (fun k st => ∃ (K : Heap) (v : Value) (j : Nat → Value), st = ⟨[s, j 1, j 2, j 3, j 4, v, .int .i64 (k : Int), j 7, j 8, j 9, j 10, j 11, j 12, j 13, j 14, j 15, j 16, j 17, j 18, j 19, j 20, j 21, j 22, j 23, j 24, j 25, j 26, j 27, j 28, j 29, j 30, j 31, j 32, j 33, j 34, j 35, j 36, j 37, j 38, j 39, j 40, j 41, j 42, j 43, j 44, j 45, j 46, j 47, j 48, j 49, j 50, j 51, j 52, j 53, j 54, j 55, j 56, j 57, j 58, j 59, j 60, j 61, j 62, j 63, j 64, j 65, j 66, j 67, j 68, j 69, j 70, j 71, j 72, j 73, j 74, j 75, j 76, j 77, j 78, j 79, j 80, j 81, j 82, j 83, j 84, j 85, j 86, j 87, j 88, j 89, j 90, j 91, j 92, j 93, j 94, j 95, j 96, j 97, j 98, j 99, j 100, j 101, j 102, j 103, j 104, j 105, j 106, j 107, j 108, j 109, j 110, j 111, j 112, j 113, j 114, j 115, j 116, j 117, j 118, j 119, j 120, j 121, j 122, j 123, j 124, j 125, j 126, j 127, j 128, j 129, j 130, j 131, j 132, j 133, j 134, j 135, j 136, j 137, j 138], K⟩ ∧ PC h K v (codes.take k) ∧ Pre h K) ?_ ?_ _ ?_
      · rintro k st hk ⟨K, v, j, rfl, pc, pK⟩
        have hk1 : (k : Int) < (codes.length : Int) := by omega
        obtain ⟨b, o, x, w, a1, a2, a3, a4⟩ := (hs.pre pK).at hk
        have hck := l2 _ (List.getElem_mem hk)
        obtain ⟨x', K', y1, y2, y3⟩ := copy_c (bytes := 120) a4 (by rw [List.length_map]; unfold roomFor; omega)
        obtain ⟨xa, xn, xc, rfl⟩ := y2.shape
        obtain ⟨v', K'', u1, u2, u3, _⟩ := pc.push y3.kept y3.le pK.le (pK.trans y3) (x := .slice xa xn xc) (l := codes[k]) y2 (by simp; omega)
        simp only [C_ops, C_cond, D_skip, normal_some, cond_tt, E_nil, E_cons, next_some, ev_tmp, ev_const, get_succ, get_zero, List.set_cons_succ, List.set_cons_zero, O_mv, O_bin, pairO, O_len, O_atRow, O_load1, load1_ptr, O_mkRow, mk_some, partsV_nil, partsV_cons, zeros_zero, zeros_succ, fill_nil, fill_slice, Nat.lt_add_one, B_add, B_lss, List.length_cons, List.length_nil, Nat.reduceAdd, Nat.zero_add, W_some, W_seq, W_block, Q_cont_normal, Q_block_normal, slc, O_append, List.length_append, List.append_nil, Q_for_normal, hs.len, hk1, decide_true, List.length_replicate, Nat.reduceAdd, a1, a2, y1, u1, wrap_nat (k := k) (by omega)]
        refine ⟨K'', v', junkA rfl ⟨?_, u3⟩⟩
        rw [List.take_succ_eq_append_getElem hk]; exact u2
      · rintro st ⟨K, v, j, rfl, pc, pK⟩
        have hk1 : ¬ ((codes.length : Int) < (codes.length : Int)) := by omega
        rw [List.take_length] at pc
        have cv := pc.codes
        have cs := hs.pre pK
        have hlc : ∀ c ∈ codes, c.length < 4611686018427387904 := fun c hc => by have := l2 c hc; omega
        have k1 := uir_Check_c codes v K cv hlc (by omega)
        have k2 := ref_Check_c codes s K cs hlc (by omega)
        unfold tup3 at k1 k2
        have e1 : ((checkV codes).1 != (checkV codes).1) = false := by simp
        have e2 : ((checkV codes).2.1 != (checkV codes).2.1) = false := by simp
        have e3 : ((checkV codes).2.2 != (checkV codes).2.2) = false := by simp
        have e4 : ((codes.length : Int) != (codes.length : Int)) = false := by simp
        simp only [C_ops, C_cond, D_exit, D_skip, normal_some, cond_ff, E_nil, E_cons, E_guard, next_some, guard_ff, ev_tmp, ev_const, get_succ, get_zero, List.set_cons_succ, List.set_cons_zero, O_mv, O_pick, pickO, O_bin, pairO, O_call, List.map_cons, List.map_nil, O_len, B_neq, B_lss, W_some, W_seq, W_block, Q_cont_normal, Q_cont_exit, Q_block_exit, O_extract, extract_tup, List.getElem?_cons_zero, List.getElem?_cons_succ, Q_for_exit, hs.len, hk1, decide_false, k1, k2, e1, e2, e3, cv.len, e4]
        refine for_wp codes.length (fun k st => ∃ j : Nat → Value, st = ⟨[s, j 1, j 2, j 3, j 4, v, j 6, j 7, j 8, j 9, j 10, j 11, j 12, .int .i64 (k : Int), j 14, j 15, j 16, j 17, j 18, j 19, j 20, j 21, j 22, j 23, j 24, j 25, j 26, j 27, j 28, j 29, j 30, j 31, j 32, j 33, j 34, j 35, j 36, j 37, j 38, j 39, j 40, j 41, j 42, j 43, j 44, j 45, j 46, j 47, j 48, j 49, j 50, j 51, j 52, j 53, j 54, j 55, j 56, j 57, j 58, j 59, j 60, j 61, j 62, j 63, j 64, j 65, j 66, j 67, j 68, j 69, j 70, j 71, j 72, j 73, j 74, j 75, j 76, j 77, j 78, j 79, j 80, j 81, j 82, j 83, j 84, j 85, j 86, j 87, j 88, j 89, j 90, j 91, j 92, j 93, j 94, j 95, j 96, j 97, j 98, j 99, j 100, j 101, j 102, j 103, j 104, j 105, j 106, j 107, j 108, j 109, j 110, j 111, j 112, j 113, j 114, j 115, j 116, j 117, j 118, j 119, j 120, j 121, j 122, j 123, j 124, j 125, j 126, j 127, j 128, j 129, j 130, j 131, j 132, j 133, j 134, j 135, j 136, j 137, j 138], K⟩) ?_ ?_ _ ?_
        · rintro k st hk ⟨j, rfl⟩
          have hk1 : (k : Int) < (codes.length : Int) := by omega
          have hck := l2 _ (List.getElem_mem hk)
          obtain ⟨b, o, x, w, a1, _, a3, a4⟩ := cs.at hk
          obtain ⟨b', o', x', w', d1, _, d3, d4⟩ := cv.at hk
          obtain ⟨wa, wn, wc, rfl⟩ := a4.shape
          obtain ⟨wa', wn', wc', rfl⟩ := d4.shape
          have z1 : ((countP memV codes[k] : Int) != (countP memV codes[k] : Int)) = false := by simp
          have z2 : ((countP isBr codes[k] : Int) != (countP isBr codes[k] : Int)) = false := by simp
          simp only [C_ops, C_cond, D_skip, normal_some, cond_tt, cond_ff, E_nil, E_cons, E_guard, next_some, next_none, guard_ff, ev_tmp, ev_const, get_succ, get_zero, List.set_cons_succ, List.set_cons_zero, O_mv, O_pick, pickO, O_bin, pairO, O_call, List.map_cons, List.map_nil, O_len, O_atRow, O_load1, load1_ptr, B_neq, B_lss, W_some, W_seq, W_block, Q_cont_normal, again1_slice, eq_self, O_again1, hs.len, hk1, decide_true, a1, a3, d1, d3, uir_Ops_c codes[k] _ K d4 (by omega), ref_Ops_c codes[k] _ K a4 (by omega), uir_Branches_c codes[k] _ K d4 (by omega), ref_Branches_c codes[k] _ K a4 (by omega), z1, z2]
          refine for_wp codes[k].length (fun q st => ∃ j : Nat → Value, st = ⟨[s, j 1, j 2, j 3, j 4, v, j 6, j 7, j 8, j 9, j 10, j 11, j 12, .int .i64 (k : Int), .int .i64 (q : Int), j 15, j 16, j 17, j 18, j 19, j 20, j 21, j 22, j 23, j 24, j 25, j 26, j 27, j 28, j 29, j 30, j 31, j 32, j 33, j 34, j 35, j 36, j 37, j 38, j 39, j 40, j 41, j 42, j 43, j 44, j 45, j 46, j 47, j 48, j 49, j 50, j 51, j 52, j 53, j 54, j 55, j 56, j 57, j 58, j 59, j 60, j 61, j 62, j 63, j 64, j 65, j 66, j 67, j 68, j 69, j 70, j 71, j 72, j 73, j 74, j 75, j 76, j 77, j 78, j 79, j 80, j 81, j 82, j 83, j 84, j 85, j 86, j 87, j 88, j 89, j 90, j 91, j 92, j 93, j 94, j 95, j 96, j 97, j 98, j 99, j 100, j 101, j 102, j 103, j 104, j 105, j 106, j 107, j 108, j 109, j 110, j 111, j 112, j 113, j 114, j 115, j 116, j 117, j 118, j 119, j 120, j 121, j 122, j 123, j 124, j 125, j 126, j 127, j 128, j 129, j 130, j 131, j 132, j 133, j 134, j 135, j 136, j 137, j 138], K⟩) ?_ ?_ _ ?_
          · rintro q st hq ⟨j, rfl⟩
            have hq1 : (q : Int) < (codes[k].length : Int) := by omega
            obtain ⟨b2, o2, v2, f1, _, f3⟩ := a4.at hq
            obtain ⟨b3, o3, v3, g1, _, g3⟩ := d4.at hq
            simp only [C_ops, C_cond, D_skip, normal_some, cond_tt, cond_ff, E_nil, E_cons, next_some, ev_tmp, ev_const, get_succ, get_zero, List.set_cons_succ, List.set_cons_zero, O_mv, O_bin, pairO, O_len, O_atRow, O_load1, load1_ptr, O_load, load_ptr, B_add, B_lss, Bool.not_true, W_some, W_seq, W_block, Q_cont_normal, Q_block_normal, Option.map_some, Bool.bne_true, O_eqAgg, Q_for_normal, a1, a3, d1, d3, a4.len, hq1, decide_true, f1, f3, g1, g3, eqAgg_ins_self, wrap_nat (k := q) (by omega)]
            exact junk rfl
          · rintro st ⟨j, rfl⟩
            have hq1 : ¬ ((codes[k].length : Int) < (codes[k].length : Int)) := by omega
            simp only [C_ops, C_cond, D_exit, normal_some, cond_ff, E_nil, E_cons, next_some, ev_tmp, ev_const, get_succ, get_zero, List.set_cons_succ, List.set_cons_zero, O_mv, O_bin, pairO, O_len, O_atRow, O_load1, load1_ptr, B_add, B_lss, W_some, W_seq, Q_cont_normal, Q_cont_exit, Q_block_normal, Q_block_exit, Q_for_normal, Q_for_exit, a1, a3, a4.len, hq1, decide_false, wrap_nat (k := k) (by omega)]
            exact junk rfl
          · exact junk rfl
        · rintro st ⟨j, rfl⟩
          have hk1 : ¬ ((codes.length : Int) < (codes.length : Int)) := by omega
          simp only [C_ops, C_cond, D_exit, D_ret, normal_some, cond_ff, E_nil, E_cons, next_some, ev_tmp, ev_const, get_succ, get_zero, List.set_cons_succ, List.set_cons_zero, O_mv, O_bin, pairO, O_len, B_lss, W_some, W_seq, Q_cont_normal, Q_cont_exit, Q_block_exit, Q_for_exit, hs.len, hk1, decide_false]
          rw [Q_pre pK _ _ _ rfl]; rfl
        · exact junk rfl
      · exact ⟨h, _, junkA rfl ⟨PC.nil _ _, Pre.refl _⟩⟩
theorem uirChecks_law (h : Heap) (us : List Value) (hu : TypedAs h [(false, [(.slice 24 [(.slice 120 (List.replicate 10 (.int .i64) ++ List.replicate 3 .bool ++ List.replicate 3 (.int .i64) ++ [.bool]))])])] us) : ∃ h', DF FF n_belatedlaw3_UirChecks us h = some (.bool true, h') :=
  match us, hu with
  | [a], ⟨h0, _⟩ =>
    let ⟨codes, hc, hb, hbc⟩ := typed_codes h0
    ⟨h, law_UirChecks hc hb hbc⟩
end Go.Proofs.Ytjodnadlplicmaa.AM
