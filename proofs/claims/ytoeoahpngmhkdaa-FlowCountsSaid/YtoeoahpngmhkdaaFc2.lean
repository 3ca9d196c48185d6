/-
  The flow law on how many paths there are and how each goes.
  Conditions: none.
-/
import Derived.Test.YtoeoahpngmhkdaaFc1
import Derived.Test.YtoeoahpngmhkdaaFb3
namespace Go.Proofs.Ytoeoahpngmhkdaa.AM
open Go.RowKit
set_option linter.unusedSimpArgs false
set_option linter.unusedVariables false

structure WayP (code : List Ins) (l : List Int) : Prop where
  nil : l.length = 0 → code.length = 0
  head : ∀ h : 0 < l.length, l[0] = 0
  inn : ∀ j (hj : j < l.length), ∃ m : Nat, l[j] = (m : Int) ∧ m < code.length
  step : ∀ j (hj : j + 1 < l.length), l[j + 1] = l[j] + 1 ∨ ∃ (m : Nat) (hm : m < code.length), l[j] = (m : Int) ∧ code[m].op = 9 ∧ code[m].to = l[j + 1]
  last : ∀ j (hj : j + 1 = l.length), l[j] + 1 = (code.length : Int) ∨ ∃ (m : Nat) (hm : m < code.length), l[j] = (m : Int) ∧ code[m].op = 9 ∧ code[m].to = (code.length : Int)
theorem wayP {code : List Ins} (h8 : code.length ≤ 8) {l : List Int} (hl : l ∈ pathsN code 9 0) : WayP code l := by
  obtain ⟨h1, h2, h3⟩ := chainP_get (pathsN_chain code 9 0 (by omega) l hl) (Nat.zero_le _)
  refine ⟨fun h => (h1 (List.eq_nil_of_length_eq_zero h)).symm, fun h => by rw [h2 h]; rfl, fun j hj => ?_, fun j hj => ?_, fun j hj => ?_⟩
  · obtain ⟨m, a, b, _⟩ := h3 j hj; exact ⟨m, a, b⟩
  · obtain ⟨m, a, b, q, c, d, _⟩ := h3 j (by omega)
    rw [d hj]
    rcases c with rfl | ⟨c1, c2⟩
    · left; omega
    · right; exact ⟨m, b, a, c1, c2⟩
  · obtain ⟨m, a, b, q, c, _, d⟩ := h3 j (by omega)
    have := d hj
    subst this
    rcases c with c | ⟨c1, c2⟩
    · left; omega
    · right; exact ⟨m, b, a, c1, c2⟩
theorem shl_nat8 {d : Nat} (hd : d ≤ 8) : shl .i64 1 (d : Int) = ((2 ^ d : Nat) : Int) := by
  have : d = 0 ∨ d = 1 ∨ d = 2 ∨ d = 3 ∨ d = 4 ∨ d = 5 ∨ d = 6 ∨ d = 7 ∨ d = 8 := by omega
  rcases this with rfl | rfl | rfl | rfl | rfl | rfl | rfl | rfl | rfl <;> rfl
/-- One behind the place ahead. -/
def behind (l : List Int) : Nat → Int
  | 0 => 0
  | k + 1 => l.getD k 0 + 1
theorem getD_at {l : List Int} {k : Nat} (hk : k < l.length) : l.getD k 0 = l[k] := by rw [List.getD_eq_getElem?_getD, List.getElem?_eq_getElem hk]; rfl
set_option maxHeartbeats 8000000 in
set_option maxRecDepth 20000 in
theorem law_FlowCounts {code : List Ins} {c : Value} {h : Heap} (e : InsSl h c code) (hb : code.length * 120 ≤ roomFor) : DF FF n_belatedlaw10_FlowCounts [c] h = some (.bool true, h) := by
  refine fun_wpU F_belatedlaw10_FlowCounts ?_
  cases hr : rightC code
  · simp only [c_belatedlaw10_FlowCounts, C_ops, C_cond, D_ret, D_skip, normal_some, cond_tt, cond_ff, E_nil, E_cons, next_some, ev_tmp, ev_const, get_succ, get_zero, List.set_cons_succ, List.set_cons_zero, O_mv, pairO, O_un, O_call, List.map_cons, List.map_nil, U_not, List.cons_append, List.nil_append, List.length_cons, List.length_nil, Nat.reduceSub, Nat.zero_add, Bool.not_true, Bool.not_false, W_some, W_seq, Q_cont_normal, Q_cont_ret, Q_ret, fillU_zero, fillU_succ, List.append_assoc, eq_self, law_able_c, law_right_c e hb, hr]
  · have rc := rightC_rc hr
    have h8 := rc.len
    obtain ⟨c', H1, q1, q2, q3⟩ := copy_c (bytes := 120) e (by rw [List.length_map]; exact hb)
    obtain ⟨v, H2, w1, w2, w3⟩ := flow_Paths_c (h := H1) (c := c') (code := code) q2.sl hr
    have p2 : Pre h H2 := q3.trans w3
    have eC : InsSl H2 c code := e.pre p2
    have hN0 := paths_some code 9 0 (by omega)
    have hN1 := pathsN_many code 9 0
    have hN2 := pathsN_br code 9 0
    rw [List.drop_zero] at hN2
    have hc8 : countP isBr code ≤ 8 := Nat.le_trans (countP_le _ _) h8
    have nd := pathsN_nodup code 9 0 (by omega)
    have hway : ∀ i (hi : i < (pathsN code 9 0).length), WayP code (pathsN code 9 0)[i] := fun i hi => wayP h8 (List.getElem_mem hi)
    have hlong : ∀ i (hi : i < (pathsN code 9 0).length), (pathsN code 9 0)[i].length ≤ 9 := fun i hi => pathsN_long code 9 0 _ (List.getElem_mem hi)
    generalize pathsN code 9 0 = L at w2 hN0 hN1 hN2 nd hway hlong
    have hN1 : L.length ≤ 512 := hN1
    have lenV := w2.len
    have g1 : ¬ ((L.length : Int) < 1) := by omega
    have g2 : ¬ (((2 ^ countP isBr code : Nat) : Int) < (L.length : Int)) := by omega
    have cnn : ¬ ((countP isBr code : Int) < 0) := by omega
    simp only [c_belatedlaw10_FlowCounts, C_ops, C_cond, D_skip, normal_some, cond_ff, E_nil, E_cons, E_guard, next_some, guard_ff, ev_tmp, ev_const, get_succ, get_zero, List.set_cons_succ, List.set_cons_zero, O_mv, O_pick, pickO, O_bin, pairO, O_un, O_call, List.map_cons, List.map_nil, O_len, O_mkRow, mk_some, partsV_nil, zeros_zero, fill_nil, B_lss, B_gtr, B_shl', U_not, List.cons_append, List.nil_append, List.length_cons, List.length_nil, Nat.reduceAdd, Nat.reduceSub, Nat.zero_add, Bool.not_true, W_some, W_seq, W_block, Q_cont_normal, slc, O_append, fillU_zero, fillU_succ, List.append_assoc, List.length_append, law_able_c, law_right_c e hb, hr, List.length_replicate, Nat.reduceAdd, q1, w1, lenV, g1, g2, decide_false, uir_Branches_c code c H2 eC (by omega), shl_nat8 hc8, Int.natCast_nonneg]
    refine for_wp L.length (fun i st => ∃ j : Nat → Value, st = ⟨[c, j 1, j 2, v, .int .i64 (i : Int), j 5, j 6, j 7, j 8, j 9, j 10, j 11, j 12, j 13, j 14, j 15, j 16, j 17, j 18, j 19, j 20, j 21, j 22, j 23, j 24, j 25, j 26, j 27, j 28, j 29, j 30, j 31, j 32, j 33, j 34, j 35, j 36, j 37, j 38, j 39, j 40, j 41, j 42, j 43, j 44, j 45, j 46, j 47, j 48, j 49, j 50, j 51, j 52, j 53, j 54, j 55, j 56, j 57, j 58, j 59, j 60, j 61, j 62, j 63, j 64, j 65, j 66, j 67, j 68, j 69, j 70, j 71, j 72, j 73, j 74, j 75, j 76, j 77, j 78, j 79, j 80, j 81, j 82, j 83, j 84, j 85, j 86, j 87, j 88, j 89, j 90, j 91, j 92, j 93, j 94, j 95, j 96, j 97, j 98, j 99, j 100, j 101, j 102, j 103, j 104, j 105, j 106, j 107, j 108, j 109, j 110, j 111, j 112, j 113, j 114, j 115, j 116, j 117, j 118, j 119, j 120, j 121, j 122, j 123, j 124, j 125, j 126, j 127, j 128, j 129, j 130, j 131, j 132, j 133, j 134, j 135, j 136, j 137, j 138, j 139, j 140, j 141, j 142, j 143, j 144, j 145, j 146, j 147, j 148, j 149, j 150, j 151, j 152, j 153, j 154, j 155, j 156, j 157, j 158, j 159, j 160, j 161, j 162, j 163, j 164, j 165, j 166, j 167, j 168, j 169, j 170, j 171, j 172, j 173, j 174, j 175, j 176, j 177, j 178, j 179], H2⟩) ?_ ?_ _ ?_
    · rintro i st hi ⟨j, rfl⟩
      have hi1 : (i : Int) < (L.length : Int) := by omega
      obtain ⟨b, o, w, y, d1, d2, d3⟩ := w2.at hi
      have ey : IntS H2 y L[i] := d3.sl
      have W := hway i hi
      have hl9 := hlong i hi
      simp only [C_ops, C_cond, D_skip, normal_some, cond_tt, E_nil, E_cons, next_some, ev_tmp, ev_const, get_succ, get_zero, List.set_cons_succ, List.set_cons_zero, O_mv, O_bin, pairO, O_len, B_lss, W_some, W_seq, W_block, Q_cont_normal, lenV, hi1, decide_true]
      refine for_wp L[i].length (fun k st => ∃ j : Nat → Value, st = ⟨[c, j 1, j 2, v, .int .i64 (i : Int), .int .i64 (behind L[i] k), .int .i64 (k : Int), j 7, j 8, j 9, j 10, j 11, j 12, j 13, j 14, j 15, j 16, j 17, j 18, j 19, j 20, j 21, j 22, j 23, j 24, j 25, j 26, j 27, j 28, j 29, j 30, j 31, j 32, j 33, j 34, j 35, j 36, j 37, j 38, j 39, j 40, j 41, j 42, j 43, j 44, j 45, j 46, j 47, j 48, j 49, j 50, j 51, j 52, j 53, j 54, j 55, j 56, j 57, j 58, j 59, j 60, j 61, j 62, j 63, j 64, j 65, j 66, j 67, j 68, j 69, j 70, j 71, j 72, j 73, j 74, j 75, j 76, j 77, j 78, j 79, j 80, j 81, j 82, j 83, j 84, j 85, j 86, j 87, j 88, j 89, j 90, j 91, j 92, j 93, j 94, j 95, j 96, j 97, j 98, j 99, j 100, j 101, j 102, j 103, j 104, j 105, j 106, j 107, j 108, j 109, j 110, j 111, j 112, j 113, j 114, j 115, j 116, j 117, j 118, j 119, j 120, j 121, j 122, j 123, j 124, j 125, j 126, j 127, j 128, j 129, j 130, j 131, j 132, j 133, j 134, j 135, j 136, j 137, j 138, j 139, j 140, j 141, j 142, j 143, j 144, j 145, j 146, j 147, j 148, j 149, j 150, j 151, j 152, j 153, j 154, j 155, j 156, j 157, j 158, j 159, j 160, j 161, j 162, j 163, j 164, j 165, j 166, j 167, j 168, j 169, j 170, j 171, j 172, j 173, j 174, j 175, j 176, j 177, j 178, j 179], H2⟩) ?_ ?_ _ ?_
      · rintro k st hk ⟨j, rfl⟩
        have hk1 : (k : Int) < (L[i].length : Int) := by omega
        obtain ⟨b2, o2, v2, a1, _, a3⟩ := ey.at hk
        obtain ⟨m, hm, hm2⟩ := W.inn k hk
        have z1 : ¬ (L[i][k] < 0) := by omega
        have z2 : ¬ ((code.length : Int) ≤ L[i][k]) := by omega
        have hw : IntKind.i64.wrap (L[i][k] + 1) = L[i][k] + 1 := wrapS (by omega)
        have hbk : behind L[i] (k + 1) = L[i][k] + 1 := by rw [behind, getD_at hk]
        have n0 : ((0 : Nat) : Int) = 0 := rfl
        cases k with
        | zero =>
          have z3 : (L[i][0] != 0) = false := by rw [W.head hk]; rfl
          rw [n0] at a1 hk1
          simp only [C_ops, C_cond, D_skip, normal_some, cond_tt, cond_ff, E_nil, E_cons, E_guard, next_some, guard_tt, guard_ff, guard_tf, guard_tu, ev_tmp, ev_const, get_succ, get_zero, List.set_cons_succ, List.set_cons_zero, O_mv, O_pick, pickO, O_bin, pairO, O_len, O_atRow, O_load1, load1_ptr, B_add, B_eql, B_neq, B_lss, B_gtr, B_geq, Nat.zero_add, W_some, W_seq, W_block, Q_cont_normal, Q_block_normal, beq_self_eq_true, Int.reduceLT, Q_for_normal, n0, d1, d2, ey.len, hk1, decide_true, decide_false, a1, a3, eC.len, z1, z2, z3, hw]
          rw [hbk]
          exact junk rfl
        | succ k =>
          have hkp : k < L[i].length := by omega
          have k0 : (((k + 1 : Nat) : Int) == 0) = false := by simp; omega
          have k1 : (0 : Int) < ((k + 1 : Nat) : Int) := by omega
          have hwk : IntKind.i64.wrap (((k + 1 : Nat) : Int) - 1) = (k : Int) := by rw [show ((k + 1 : Nat) : Int) - 1 = (k : Int) by omega]; exact wrapS (by omega)
          have hwk1 : IntKind.i64.wrap (((k + 1 : Nat) : Int) + 1) = ((k + 1 + 1 : Nat) : Int) := wrap_nat (k := k + 1) (by omega)
          have hb0 : behind L[i] (k + 1) = L[i][k] + 1 := by rw [behind, getD_at hkp]
          rw [hb0]
          by_cases hx : L[i][k + 1] = L[i][k] + 1
          · have z4 : (L[i][k + 1] != L[i][k] + 1) = false := by rw [hx]; simp
            simp only [C_ops, C_cond, D_skip, normal_some, cond_tt, cond_ff, E_nil, E_cons, E_guard, next_some, guard_tt, guard_ff, guard_tf, guard_tu, ev_tmp, ev_const, get_succ, get_zero, List.set_cons_succ, List.set_cons_zero, O_mv, O_pick, pickO, O_bin, pairO, O_len, O_atRow, O_load1, load1_ptr, B_add, B_eql, B_neq, B_lss, B_gtr, B_geq, W_some, W_seq, W_block, Q_cont_normal, Q_block_normal, Q_for_normal, d1, d2, ey.len, hk1, decide_true, decide_false, a1, a3, eC.len, z1, z2, k0, k1, z4, hw, hwk1]
            rw [hbk]
            exact junk rfl
          · have z4 : (L[i][k + 1] != L[i][k] + 1) = true := by simp [hx]
            rcases W.step k hk with hs | ⟨m', hm', hs1, hs2, hs3⟩
            · exact absurd hs hx
            · obtain ⟨b3, o3, v3, f1, _, f3⟩ := ey.at hkp
              rw [hs1] at f3
              obtain ⟨b4, o4, v4, y1, y2, y3⟩ := eC.at hm'
              have y5 := read0 y3
              have y6 := read1_of y3 (insL_15 code[m'])
              have h9 : (code[m'].op == 9) = true := by simp [hs2]
              have ht : (code[m'].to == L[i][k + 1]) = true := by simp [hs3]
              simp only [C_ops, C_cond, D_skip, normal_some, cond_tt, cond_ff, E_nil, E_cons, E_guard, next_some, guard_tt, guard_ff, guard_tf, ev_tmp, ev_const, get_succ, get_zero, List.set_cons_succ, List.set_cons_zero, O_mv, O_pick, pickO, O_bin, pairO, O_un, O_len, O_atRow, O_load1, load1_ptr, B_add, B_sub, B_eql, B_neq, B_lss, B_gtr, B_geq, U_not, Bool.not_true, W_some, W_seq, W_block, Q_cont_normal, Q_block_normal, O_off, off_ptr, Nat.add_zero, Q_for_normal, d1, d2, ey.len, hk1, decide_true, decide_false, a1, a3, eC.len, z1, z2, k0, k1, z4, hw, hwk, hwk1, f1, f3, y1, y5, y6, h9, ht]
              rw [hbk]
              exact junk rfl
      · rintro st ⟨j, rfl⟩
        have h1 : ¬ ((L[i].length : Int) < (L[i].length : Int)) := by omega
        by_cases hz : L[i].length = 0
        · have hc0 := W.nil hz
          have z1 : ((L[i].length : Int) == 0) = true := by simp [hz]
          have z2 : ¬ ((0 : Int) < (code.length : Int)) := by omega
          have z3 : ¬ ((0 : Int) < (L[i].length : Int)) := by omega
          simp only [C_ops, C_cond, D_exit, D_skip, normal_some, cond_ff, E_nil, E_cons, E_guard, next_some, guard_tt, guard_ff, guard_tf, guard_tu, ev_tmp, ev_const, get_succ, get_zero, List.set_cons_succ, List.set_cons_zero, O_mv, O_pick, pickO, O_bin, pairO, O_len, O_atRow, O_load1, load1_ptr, B_eql, B_lss, B_gtr, W_some, W_seq, W_block, Q_cont_normal, Q_cont_exit, Q_block_exit, Q_for_exit, d1, d2, ey.len, eC.len, h1, z1, z2, z3, decide_false]
          refine for_wp i (fun q st => ∃ j : Nat → Value, st = ⟨[c, j 1, j 2, v, .int .i64 (i : Int), j 5, j 6, j 7, j 8, .int .i64 (q : Int), j 10, j 11, j 12, j 13, j 14, j 15, j 16, j 17, j 18, j 19, j 20, j 21, j 22, j 23, j 24, j 25, j 26, j 27, j 28, j 29, j 30, j 31, j 32, j 33, j 34, j 35, j 36, j 37, j 38, j 39, j 40, j 41, j 42, j 43, j 44, j 45, j 46, j 47, j 48, j 49, j 50, j 51, j 52, j 53, j 54, j 55, j 56, j 57, j 58, j 59, j 60, j 61, j 62, j 63, j 64, j 65, j 66, j 67, j 68, j 69, j 70, j 71, j 72, j 73, j 74, j 75, j 76, j 77, j 78, j 79, j 80, j 81, j 82, j 83, j 84, j 85, j 86, j 87, j 88, j 89, j 90, j 91, j 92, j 93, j 94, j 95, j 96, j 97, j 98, j 99, j 100, j 101, j 102, j 103, j 104, j 105, j 106, j 107, j 108, j 109, j 110, j 111, j 112, j 113, j 114, j 115, j 116, j 117, j 118, j 119, j 120, j 121, j 122, j 123, j 124, j 125, j 126, j 127, j 128, j 129, j 130, j 131, j 132, j 133, j 134, j 135, j 136, j 137, j 138, j 139, j 140, j 141, j 142, j 143, j 144, j 145, j 146, j 147, j 148, j 149, j 150, j 151, j 152, j 153, j 154, j 155, j 156, j 157, j 158, j 159, j 160, j 161, j 162, j 163, j 164, j 165, j 166, j 167, j 168, j 169, j 170, j 171, j 172, j 173, j 174, j 175, j 176, j 177, j 178, j 179], H2⟩) ?_ ?_ _ ?_
          · rintro q st hq ⟨j, rfl⟩
            have hq1 : (q : Int) < (i : Int) := by omega
            obtain ⟨b5, o5, w5, y5', e1, e2, e3⟩ := w2.at (k := q) (by omega)
            have ne : (L[i] == L[q]) = false := by
              rw [beq_eq_false_iff_ne]; exact fun he => List.pairwise_iff_getElem.1 nd q i (by omega) hi hq he.symm
            simp only [C_ops, C_cond, D_skip, normal_some, cond_tt, cond_ff, E_nil, E_cons, next_some, ev_tmp, ev_const, get_succ, get_zero, List.set_cons_succ, List.set_cons_zero, O_mv, O_bin, pairO, O_call, List.map_cons, List.map_nil, O_atRow, O_load1, load1_ptr, B_add, B_lss, W_some, W_seq, W_block, Q_cont_normal, Q_block_normal, Q_for_normal, hq1, decide_true, d1, d2, e1, e2, law_ints_c ey e3.sl (by omega), ne, wrap_nat (k := q) (by omega)]
            exact junk rfl
          · rintro st ⟨j, rfl⟩
            have hq1 : ¬ ((i : Int) < (i : Int)) := by omega
            simp only [C_ops, C_cond, D_exit, normal_some, cond_ff, E_nil, E_cons, next_some, ev_tmp, ev_const, get_succ, get_zero, List.set_cons_succ, List.set_cons_zero, O_mv, O_bin, pairO, B_add, B_lss, W_some, W_seq, Q_cont_normal, Q_cont_exit, Q_block_normal, Q_block_exit, Q_for_normal, Q_for_exit, hq1, decide_false, wrap_nat (k := i) (by omega)]
            exact junk rfl
          · exact junk rfl
        · obtain ⟨n, hn⟩ : ∃ n, L[i].length = n + 1 := ⟨L[i].length - 1, by omega⟩
          have hkn : n < L[i].length := by omega
          have z1 : (((n + 1 : Nat) : Int) == 0) = false := by simp; omega
          have z3 : (0 : Int) < ((n + 1 : Nat) : Int) := by omega
          have h1' : ¬ (((n + 1 : Nat) : Int) < ((n + 1 : Nat) : Int)) := by omega
          have hb0 : behind L[i] (n + 1) = L[i][n] + 1 := by rw [behind, getD_at hkn]
          have eyl : ∀ K, lenO K y = some (.int .i64 ((n + 1 : Nat) : Int), K) := fun K => by rw [ey.len, hn]
          have hwk : IntKind.i64.wrap (((n + 1 : Nat) : Int) - 1) = (n : Int) := by rw [show ((n + 1 : Nat) : Int) - 1 = (n : Int) by omega]; exact wrapS (by omega)
          rw [hn, hb0]
          by_cases hx : L[i][n] + 1 = (code.length : Int)
          · have z4 : (L[i][n] + 1 != (code.length : Int)) = false := by simp [hx]
            simp only [C_ops, C_cond, D_exit, D_skip, normal_some, cond_ff, E_nil, E_cons, E_guard, next_some, guard_tt, guard_ff, guard_tf, guard_tu, ev_tmp, ev_const, get_succ, get_zero, List.set_cons_succ, List.set_cons_zero, O_mv, O_pick, pickO, O_bin, pairO, O_len, O_atRow, O_load1, load1_ptr, B_eql, B_neq, B_lss, B_gtr, W_some, W_seq, W_block, Q_cont_normal, Q_cont_exit, Q_block_exit, Q_for_exit, d1, d2, eyl, eC.len, h1', z1, z3, z4, decide_true, decide_false]
            refine for_wp i (fun q st => ∃ j : Nat → Value, st = ⟨[c, j 1, j 2, v, .int .i64 (i : Int), j 5, j 6, j 7, j 8, .int .i64 (q : Int), j 10, j 11, j 12, j 13, j 14, j 15, j 16, j 17, j 18, j 19, j 20, j 21, j 22, j 23, j 24, j 25, j 26, j 27, j 28, j 29, j 30, j 31, j 32, j 33, j 34, j 35, j 36, j 37, j 38, j 39, j 40, j 41, j 42, j 43, j 44, j 45, j 46, j 47, j 48, j 49, j 50, j 51, j 52, j 53, j 54, j 55, j 56, j 57, j 58, j 59, j 60, j 61, j 62, j 63, j 64, j 65, j 66, j 67, j 68, j 69, j 70, j 71, j 72, j 73, j 74, j 75, j 76, j 77, j 78, j 79, j 80, j 81, j 82, j 83, j 84, j 85, j 86, j 87, j 88, j 89, j 90, j 91, j 92, j 93, j 94, j 95, j 96, j 97, j 98, j 99, j 100, j 101, j 102, j 103, j 104, j 105, j 106, j 107, j 108, j 109, j 110, j 111, j 112, j 113, j 114, j 115, j 116, j 117, j 118, j 119, j 120, j 121, j 122, j 123, j 124, j 125, j 126, j 127, j 128, j 129, j 130, j 131, j 132, j 133, j 134, j 135, j 136, j 137, j 138, j 139, j 140, j 141, j 142, j 143, j 144, j 145, j 146, j 147, j 148, j 149, j 150, j 151, j 152, j 153, j 154, j 155, j 156, j 157, j 158, j 159, j 160, j 161, j 162, j 163, j 164, j 165, j 166, j 167, j 168, j 169, j 170, j 171, j 172, j 173, j 174, j 175, j 176, j 177, j 178, j 179], H2⟩) ?_ ?_ _ ?_
            · rintro q st hq ⟨j, rfl⟩
              have hq1 : (q : Int) < (i : Int) := by omega
              obtain ⟨b5, o5, w5, y5', e1, e2, e3⟩ := w2.at (k := q) (by omega)
              have ne : (L[i] == L[q]) = false := by
                rw [beq_eq_false_iff_ne]; exact fun he => List.pairwise_iff_getElem.1 nd q i (by omega) hi hq he.symm
              simp only [C_ops, C_cond, D_skip, normal_some, cond_tt, cond_ff, E_nil, E_cons, next_some, ev_tmp, ev_const, get_succ, get_zero, List.set_cons_succ, List.set_cons_zero, O_mv, O_bin, pairO, O_call, List.map_cons, List.map_nil, O_atRow, O_load1, load1_ptr, B_add, B_lss, W_some, W_seq, W_block, Q_cont_normal, Q_block_normal, Q_for_normal, hq1, decide_true, d1, d2, e1, e2, law_ints_c ey e3.sl (by omega), ne, wrap_nat (k := q) (by omega)]
              exact junk rfl
            · rintro st ⟨j, rfl⟩
              have hq1 : ¬ ((i : Int) < (i : Int)) := by omega
              simp only [C_ops, C_cond, D_exit, normal_some, cond_ff, E_nil, E_cons, next_some, ev_tmp, ev_const, get_succ, get_zero, List.set_cons_succ, List.set_cons_zero, O_mv, O_bin, pairO, B_add, B_lss, W_some, W_seq, Q_cont_normal, Q_cont_exit, Q_block_normal, Q_block_exit, Q_for_normal, Q_for_exit, hq1, decide_false, wrap_nat (k := i) (by omega)]
              exact junk rfl
            · exact junk rfl
          · have z4 : (L[i][n] + 1 != (code.length : Int)) = true := by simp [hx]
            rcases W.last n (by omega) with hs | ⟨m', hm', hs1, hs2, hs3⟩
            · exact absurd hs hx
            · obtain ⟨b3, o3, v3, f1, _, f3⟩ := ey.at hkn
              rw [hs1] at f3
              obtain ⟨b4, o4, v4, y1, y2, y3⟩ := eC.at hm'
              have y5 := read0 y3
              have y6 := read1_of y3 (insL_15 code[m'])
              have h9 : (code[m'].op == 9) = true := by simp [hs2]
              have ht : (code[m'].to == (code.length : Int)) = true := by simp [hs3]
              simp only [C_ops, C_cond, D_exit, D_skip, normal_some, cond_ff, E_nil, E_cons, E_guard, next_some, guard_tt, guard_ff, guard_tf, ev_tmp, ev_const, get_succ, get_zero, List.set_cons_succ, List.set_cons_zero, O_mv, O_pick, pickO, O_bin, pairO, O_un, O_len, O_atRow, O_load1, load1_ptr, B_sub, B_eql, B_neq, B_lss, B_gtr, U_not, Bool.not_true, W_some, W_seq, W_block, Q_cont_normal, Q_cont_exit, Q_block_exit, O_off, off_ptr, Nat.add_zero, Q_for_exit, d1, d2, eyl, eC.len, h1', z1, z3, z4, decide_true, decide_false, hwk, f1, f3, y1, y5, y6, h9, ht]
              refine for_wp i (fun q st => ∃ j : Nat → Value, st = ⟨[c, j 1, j 2, v, .int .i64 (i : Int), j 5, j 6, j 7, j 8, .int .i64 (q : Int), j 10, j 11, j 12, j 13, j 14, j 15, j 16, j 17, j 18, j 19, j 20, j 21, j 22, j 23, j 24, j 25, j 26, j 27, j 28, j 29, j 30, j 31, j 32, j 33, j 34, j 35, j 36, j 37, j 38, j 39, j 40, j 41, j 42, j 43, j 44, j 45, j 46, j 47, j 48, j 49, j 50, j 51, j 52, j 53, j 54, j 55, j 56, j 57, j 58, j 59, j 60, j 61, j 62, j 63, j 64, j 65, j 66, j 67, j 68, j 69, j 70, j 71, j 72, j 73, j 74, j 75, j 76, j 77, j 78, j 79, j 80, j 81, j 82, j 83, j 84, j 85, j 86, j 87, j 88, j 89, j 90, j 91, j 92, j 93, j 94, j 95, j 96, j 97, j 98, j 99, j 100, j 101, j 102, j 103, j 104, j 105, j 106, j 107, j 108, j 109, j 110, j 111, j 112, j 113, j 114, j 115, j 116, j 117, j 118, j 119, j 120, j 121, j 122, j 123, j 124, j 125, j 126, j 127, j 128, j 129, j 130, j 131, j 132, j 133, j 134, j 135, j 136, j 137, j 138, j 139, j 140, j 141, j 142, j 143, j 144, j 145, j 146, j 147, j 148, j 149, j 150, j 151, j 152, j 153, j 154, j 155, j 156, j 157, j 158, j 159, j 160, j 161, j 162, j 163, j 164, j 165, j 166, j 167, j 168, j 169, j 170, j 171, j 172, j 173, j 174, j 175, j 176, j 177, j 178, j 179], H2⟩) ?_ ?_ _ ?_
              · rintro q st hq ⟨j, rfl⟩
                have hq1 : (q : Int) < (i : Int) := by omega
                obtain ⟨b5, o5, w5, y5', e1, e2, e3⟩ := w2.at (k := q) (by omega)
                have ne : (L[i] == L[q]) = false := by
                  rw [beq_eq_false_iff_ne]; exact fun he => List.pairwise_iff_getElem.1 nd q i (by omega) hi hq he.symm
                simp only [C_ops, C_cond, D_skip, normal_some, cond_tt, cond_ff, E_nil, E_cons, next_some, ev_tmp, ev_const, get_succ, get_zero, List.set_cons_succ, List.set_cons_zero, O_mv, O_bin, pairO, O_call, List.map_cons, List.map_nil, O_atRow, O_load1, load1_ptr, B_add, B_lss, W_some, W_seq, W_block, Q_cont_normal, Q_block_normal, Q_for_normal, hq1, decide_true, d1, d2, e1, e2, law_ints_c ey e3.sl (by omega), ne, wrap_nat (k := q) (by omega)]
                exact junk rfl
              · rintro st ⟨j, rfl⟩
                have hq1 : ¬ ((i : Int) < (i : Int)) := by omega
                simp only [C_ops, C_cond, D_exit, normal_some, cond_ff, E_nil, E_cons, next_some, ev_tmp, ev_const, get_succ, get_zero, List.set_cons_succ, List.set_cons_zero, O_mv, O_bin, pairO, B_add, B_lss, W_some, W_seq, Q_cont_normal, Q_cont_exit, Q_block_normal, Q_block_exit, Q_for_normal, Q_for_exit, hq1, decide_false, wrap_nat (k := i) (by omega)]
                exact junk rfl
              · exact junk rfl
      · exact junk rfl
    · rintro st ⟨j, rfl⟩
      have h1 : ¬ ((L.length : Nat) : Int) < L.length := by omega
      simp only [C_ops, C_cond, D_exit, D_ret, normal_some, cond_ff, E_nil, E_cons, next_some, ev_tmp, ev_const, get_succ, get_zero, List.set_cons_succ, List.set_cons_zero, O_mv, O_bin, pairO, O_len, B_lss, W_some, W_seq, Q_cont_normal, Q_cont_exit, Q_block_exit, Q_for_exit, lenV, h1, decide_false]
      rw [Q_pre p2 _ _ _ rfl]; rfl
    · exact junk rfl
theorem flowCounts_law (h : Heap) (us : List Value) (hu : TypedAs h [(false, [(.slice 120 (List.replicate 10 (.int .i64) ++ List.replicate 3 .bool ++ List.replicate 3 (.int .i64) ++ [.bool]))])] us) : ∃ h', DF FF n_belatedlaw10_FlowCounts us h = some (.bool true, h') :=
  match us, hu with
  | [a], ⟨h0, _⟩ =>
    let ⟨code, hc, hb⟩ := typed_code h0
    ⟨h, law_FlowCounts hc hb⟩
end Go.Proofs.Ytoeoahpngmhkdaa.AM
