/-
  The law on registers that no instruction uses.
  Conditions: none.
-/
import Derived.Test.YtjodnadlplicmaaUc1
namespace Go.Proofs.Ytjodnadlplicmaa.AM
open Go.RowKit
set_option linter.unusedSimpArgs false
set_option linter.unusedVariables false

theorem givesN_succ {n : Nat} {code : List Ins} {k : Nat} (hk : k < code.length) : givesN n (code.take (k + 1)) = (givesN n (code.take k) || givesV code[k] == (n : Int)) := by
  unfold givesN; rw [List.take_succ_eq_append_getElem hk, List.any_append]; simp
set_option maxHeartbeats 16000000 in
set_option maxRecDepth 20000 in
theorem law_UirQuiet {code : List Ins} {c : Value} {h : Heap} (hc : InsSl h c code) (hb : code.length * 120 ≤ roomFor) {R : List Int} (hR : R.length = 8) {s : Value} {rd : List Int} (hs : IntS h s rd) (hv : rd.length * 8 ≤ roomFor) (r v : Int) :
    DF FF n_belatedlaw3_UirQuiet [c, agg (regsL R), s, .int .i64 r, .int .i64 v] h = some (.bool true, h) := by
  refine fun_wpU F_belatedlaw3_UirQuiet ?_
  have r8 : (regsL R).length = 8 := by rw [regsL_len, hR]
  have pB : Pre h (h ++ [.cells (regsL R) 0 false]) := (Pre.refl h).more _
  by_cases g1 : (2000 : Int) < (code.length : Int)
  · simp only [c_belatedlaw3_UirQuiet, C_ops, C_cond, D_ret, D_skip, normal_some, cond_tt, cond_ff, E_nil, E_cons, E_guard, next_some, guard_ft, ev_tmp, ev_const, get_succ, get_zero, List.set_cons_succ, List.set_cons_zero, O_mv, O_pick, pickO, O_bin, pairO, O_un, O_call, List.map_nil, O_len, B_gtr, U_not, List.cons_append, List.nil_append, List.length_cons, List.length_nil, Nat.reduceAdd, Nat.reduceSub, Nat.zero_add, Bool.not_true, W_some, W_seq, Q_cont_normal, Q_cont_ret, O_box, fillU_zero, fillU_succ, List.append_assoc, eq_self, laid_agg, box_some, r8, law3_able_c, hc.len, g1, decide_true]
    rw [Q_more _ _ _ _ _ rfl]; rfl
  · by_cases g2 : (2000 : Int) < (rd.length : Int)
    · simp only [c_belatedlaw3_UirQuiet, C_ops, C_cond, D_ret, D_skip, normal_some, cond_tt, cond_ff, E_nil, E_cons, E_guard, next_some, guard_ff, ev_tmp, ev_const, get_succ, get_zero, List.set_cons_succ, List.set_cons_zero, O_mv, O_pick, pickO, O_bin, pairO, O_un, O_call, List.map_nil, O_len, B_gtr, U_not, List.cons_append, List.nil_append, List.length_cons, List.length_nil, Nat.reduceAdd, Nat.reduceSub, Nat.zero_add, Bool.not_true, W_some, W_seq, Q_cont_normal, Q_cont_ret, O_box, fillU_zero, fillU_succ, List.append_assoc, eq_self, laid_agg, box_some, r8, law3_able_c, hc.len, hs.len, g1, g2, decide_true, decide_false]
      rw [Q_more _ _ _ _ _ rfl]; rfl
    · obtain ⟨n, hn7, hn⟩ := and_7 r
      simp only [c_belatedlaw3_UirQuiet, C_ops, C_cond, D_skip, normal_some, cond_ff, E_nil, E_cons, E_guard, next_some, guard_ff, ev_tmp, ev_const, get_succ, get_zero, List.set_cons_succ, List.set_cons_zero, O_mv, O_pick, pickO, O_bin, pairO, O_un, O_call, List.map_nil, O_len, B_band, B_gtr, U_not, List.cons_append, List.nil_append, List.length_cons, List.length_nil, Nat.reduceAdd, Nat.reduceSub, Nat.zero_add, Bool.not_true, W_some, W_seq, W_block, Q_cont_normal, O_box, fillU_zero, fillU_succ, List.append_assoc, eq_self, laid_agg, box_some, r8, law3_able_c, hc.len, hs.len, g1, g2, decide_false, hn7]
      have arr : ∀ (b : Nat) (K : Heap), arrO K 8 1 (.pointer (some ⟨b, 0, some 0⟩)) (.int .i64 (n : Int)) = some (.pointer (some ⟨b, n, some 0⟩), K) := fun b K => by rw [arr_nat K hn]; simp
      refine for_wp code.length (fun k st => ∃ (K : Heap) (j : Nat → Value), st = ⟨[c, j 1, s, .int .i64 (n : Int), .int .i64 v, j 5, .pointer (some ⟨h.length, 0, some 0⟩), j 7, j 8, j 9, j 10, .bool (givesN n (code.take k)), .int .i64 (k : Int), j 13, j 14, j 15, j 16, j 17, j 18, j 19, j 20, j 21, j 22, j 23, j 24, j 25, j 26, j 27, j 28, j 29, j 30, j 31, j 32, j 33, j 34, j 35, j 36, j 37, j 38, j 39, j 40, j 41, j 42, j 43, j 44, j 45, j 46, j 47, j 48, j 49, j 50, j 51, j 52, j 53, j 54, j 55, j 56, j 57, j 58, j 59, j 60, j 61, j 62, j 63, j 64, j 65, j 66, j 67, j 68, j 69, j 70, j 71, j 72, j 73, j 74, j 75, j 76, j 77, j 78, j 79, j 80, j 81, j 82, j 83, j 84, j 85, j 86, j 87, j 88, j 89, j 90, j 91, j 92, j 93, j 94, j 95, j 96, j 97, j 98, j 99, j 100, j 101, j 102, j 103, j 104, j 105, j 106, j 107, j 108, j 109, j 110, j 111, j 112, j 113, j 114, j 115, j 116, j 117, j 118, j 119, j 120, j 121, j 122, j 123, j 124, j 125, j 126, j 127, j 128, j 129, j 130, j 131, j 132, j 133, j 134, j 135, j 136, j 137, j 138, j 139, j 140, j 141, j 142, j 143, j 144, j 145, j 146, j 147, j 148], K⟩ ∧ Pre (h ++ [.cells (regsL R) 0 false]) K ∧ ∀ i ∈ code.take k, ∀ x ∈ usesV i, x ≠ (n : Int)) ?_ ?_ _ ?_
      · rintro k st hk ⟨K, j, rfl, pK, hu⟩
        have hk1 : (k : Int) < (code.length : Int) := by omega
        obtain ⟨b, o, w, a1, a2, a3⟩ := (hc.pre (pB.trans pK)).at hk
        obtain ⟨u, K', e1, e2, e3⟩ := uir_Uses_c code[k] K
        have eu : IntS K' u (usesV code[k]) := e2.sl
        have hul := usesV_len code[k]
        obtain ⟨L, rfl⟩ := e3
        have a4 := a2 L
        have hgs := givesN_succ (n := n) hk
        have htk := List.take_succ_eq_append_getElem hk
        simp only [C_ops, C_cond, D_skip, normal_some, cond_tt, E_nil, E_cons, next_some, ev_tmp, ev_const, get_succ, get_zero, List.set_cons_succ, List.set_cons_zero, O_mv, O_bin, pairO, O_call, List.map_cons, List.map_nil, O_len, O_atRow, O_load, load_ptr, B_lss, W_some, W_seq, W_block, Q_cont_normal, Option.map_some, hc.len, hk1, decide_true, a1, a3, e1]
        refine for_wp (usesV code[k]).length (fun q st => ∃ j : Nat → Value, st = ⟨[c, j 1, s, .int .i64 (n : Int), .int .i64 v, j 5, .pointer (some ⟨h.length, 0, some 0⟩), j 7, j 8, j 9, j 10, .bool (givesN n (code.take k)), .int .i64 (k : Int), u, .int .i64 (q : Int), j 15, j 16, j 17, j 18, j 19, j 20, j 21, j 22, j 23, j 24, j 25, j 26, j 27, j 28, j 29, j 30, j 31, j 32, j 33, j 34, j 35, j 36, j 37, j 38, j 39, j 40, j 41, j 42, j 43, j 44, j 45, j 46, j 47, j 48, j 49, j 50, j 51, j 52, j 53, j 54, j 55, j 56, j 57, j 58, j 59, j 60, j 61, j 62, j 63, j 64, j 65, j 66, j 67, j 68, j 69, j 70, j 71, j 72, j 73, j 74, j 75, j 76, j 77, j 78, j 79, j 80, j 81, j 82, j 83, j 84, j 85, j 86, j 87, j 88, j 89, j 90, j 91, j 92, j 93, j 94, j 95, j 96, j 97, j 98, j 99, j 100, j 101, j 102, j 103, j 104, j 105, j 106, j 107, j 108, j 109, j 110, j 111, j 112, j 113, j 114, j 115, j 116, j 117, j 118, j 119, j 120, j 121, j 122, j 123, j 124, j 125, j 126, j 127, j 128, j 129, j 130, j 131, j 132, j 133, j 134, j 135, j 136, j 137, j 138, j 139, j 140, j 141, j 142, j 143, j 144, j 145, j 146, j 147, j 148], K ++ L⟩ ∧ ∀ x ∈ (usesV code[k]).take q, x ≠ (n : Int)) ?_ ?_ _ ?_
        · rintro q st hq ⟨j, rfl, hq0⟩
          have hq1 : (q : Int) < ((usesV code[k]).length : Int) := by omega
          obtain ⟨b2, o2, w2, d1, _, d3⟩ := eu.at hq
          by_cases hx : (usesV code[k])[q] = (n : Int)
          · have hx' : ((usesV code[k])[q] == (n : Int)) = true := by rw [hx]; simp
            simp only [C_ops, C_cond, D_ret, D_skip, normal_some, cond_tt, E_nil, E_cons, next_some, ev_tmp, ev_const, get_succ, get_zero, List.set_cons_succ, List.set_cons_zero, O_mv, O_bin, pairO, O_len, O_atRow, O_load1, load1_ptr, B_eql, B_lss, W_some, W_seq, W_block, Q_cont_normal, Q_cont_ret, Q_block_ret, Q_for_ret, eu.len, hq1, decide_true, d1, d3, hx']
            rw [Q_pre ((pB.trans pK).more _) _ _ _ rfl]; rfl
          · have hx' : ((usesV code[k])[q] == (n : Int)) = false := by simp [hx]
            simp only [C_ops, C_cond, D_skip, normal_some, cond_tt, cond_ff, E_nil, E_cons, next_some, ev_tmp, ev_const, get_succ, get_zero, List.set_cons_succ, List.set_cons_zero, O_mv, O_bin, pairO, O_len, O_atRow, O_load1, load1_ptr, B_add, B_eql, B_lss, W_some, W_seq, W_block, Q_cont_normal, Q_block_normal, Q_for_normal, eu.len, hq1, decide_true, d1, d3, hx', wrap_nat (k := q) (by omega)]
            refine junkA rfl fun x hx0 => ?_
            rw [List.take_succ_eq_append_getElem hq] at hx0
            rcases List.mem_append.1 hx0 with hx0 | hx0
            · exact hq0 x hx0
            · have : x = (usesV code[k])[q] := by simpa using hx0
              rw [this]; exact hx
        · rintro st ⟨j, rfl, hq0⟩
          have hq1 : ¬ (((usesV code[k]).length : Int) < ((usesV code[k]).length : Int)) := by omega
          rw [List.take_length] at hq0
          have hu' : ∀ i ∈ code.take (k + 1), ∀ x ∈ usesV i, x ≠ (n : Int) := by
            intro i hi
            rw [htk] at hi
            rcases List.mem_append.1 hi with hi | hi
            · exact hu i hi
            · have : i = code[k] := by simpa using hi
              rw [this]; exact hq0
          cases hg : givesN n (code.take k)
          · rw [hg, Bool.false_or] at hgs
            simp only [C_ops, C_cond, D_exit, normal_some, cond_ff, E_nil, E_cons, E_guard, next_some, guard_ff, ev_tmp, ev_const, get_succ, get_zero, List.set_cons_succ, List.set_cons_zero, O_mv, O_pick, pickO, O_bin, pairO, O_call, List.map_cons, List.map_nil, O_len, O_atRow, O_load, load_ptr, B_add, B_eql, B_lss, W_some, W_seq, Q_cont_normal, Q_cont_exit, Q_block_normal, Q_block_exit, Option.map_some, Q_for_normal, Q_for_exit, eu.len, hq1, decide_false, a1, a4, uir_Gives_c, wrap_nat (k := k) (by omega)]
            refine ⟨K ++ L, ?_⟩
            rw [hgs]
            exact junkA rfl ⟨pK.more _, hu'⟩
          · rw [hg, Bool.true_or] at hgs
            simp only [C_ops, C_cond, D_exit, normal_some, cond_ff, E_nil, E_cons, E_guard, next_some, guard_ft, ev_tmp, ev_const, get_succ, get_zero, List.set_cons_succ, List.set_cons_zero, O_mv, O_pick, pickO, O_bin, pairO, O_len, B_add, B_lss, W_some, W_seq, Q_cont_normal, Q_cont_exit, Q_block_normal, Q_block_exit, Q_for_normal, Q_for_exit, eu.len, hq1, decide_false, wrap_nat (k := k) (by omega)]
            refine ⟨K ++ L, ?_⟩
            rw [hgs]
            exact junkA rfl ⟨pK.more _, hu'⟩
        · exact junkA rfl (by simp)
      · rintro st ⟨K, j, rfl, pK, hu⟩
        have hk1 : ¬ ((code.length : Int) < (code.length : Int)) := by omega
        rw [List.take_length] at hu
        have pHK := pB.trans pK
        obtain ⟨s1, K1, s2, K2, evs, path, H', a1, a2, p1, p2, a3, a4⟩ := run_c (hc.pre pHK) (hs.pre pHK) (by omega) (by omega) hR
        have o8 := outV_R8 (code := code) (rd := rd) hR
        obtain ⟨H2, w1, w2, p3, oa, ob, _, _⟩ := a4 (regsL (outV code R rd).R) (by rw [regsL_len, o8])
        have o8' : (regsL (outV code R rd).R).length = 8 := by rw [regsL_len, o8]
        have x0 := fun L => read_regs hR (pK.more L)
        have x1 := read_regs hR (pK.trans p1)
        have x2 := read_regs hR (pK.trans p2)
        have kR : H2[h.length]? = some (.cells (regsL R) 0 false) := (pK.trans p3).kept _ _ (by simp)
        have lK : h.length + 1 ≤ K.length := by have := pK.le; simpa using this
        obtain ⟨G, hG⟩ : ∃ G, G = H2.set h.length (.cells (regsL (R.set n v)) 0 false) := ⟨_, rfl⟩
        have wG : Heap.write1 H2 ⟨h.length, n, some 0⟩ (.int .i64 v) = some G := by
          rw [ws_at kR (by rw [regsL_len, hR]; exact hn), regsL_set, hG]
        have pG : Pre h G := by rw [hG]; exact (pHK.trans p3).set (Nat.le_refl _) _
        have hR' : (R.set n v).length = 8 := by rw [List.length_set]; exact hR
        have r8' : (regsL (R.set n v)).length = 8 := by rw [regsL_len, hR']
        have gR : G[h.length]? = some (.cells (regsL (R.set n v)) 0 false) := by
          rw [hG, List.getElem?_set_self (List.getElem?_eq_some_iff.1 kR).1]
        have gO : G[K.length + 2]? = some (.cells (regsL (outV code R rd).R) 0 false) := by
          rw [hG, List.getElem?_set_ne (by omega)]; exact w2
        have lG : K.length + 3 ≤ G.length := by
          have := (List.getElem?_eq_some_iff.1 gO).1; omega
        have oa' : Own h G path 1 ((outV code R rd).path.map intR) := by
          rw [hG]
          exact (oa.keep fun i hi o ho => by rw [List.getElem?_set_ne (by have := (oa.lt hi).1; simp at this; omega)]; exact ho).weak (by simp; omega)
        have ob' : Own h G evs 15 ((outV code R rd).evs.map evL) := by
          rw [hG]
          exact (ob.keep fun i hi o ho => by rw [List.getElem?_set_ne (by have := (ob.lt hi).1; simp at this; omega)]; exact ho).weak (by simp; omega)
        obtain ⟨t1, M1, t2, M2, evs2, path2, M', b1, b2, m1, m2, b3, b4⟩ := run_c (hc.pre pG) (hs.pre pG) (by omega) (by omega) hR'
        have o9 := outV_R8 (code := code) (rd := rd) hR'
        obtain ⟨H5, u1, u2, m3, oc, od, _, _⟩ := b4 (regsL (outV code (R.set n v) rd).R) (by rw [regsL_len, o9])
        have o9' : (regsL (outV code (R.set n v) rd).R).length = 8 := by rw [regsL_len, o9]
        have z0 : ∀ L, Heap.read (G ++ L) ⟨h.length, 0, some 0⟩ 8 = some (regsL (R.set n v)) := fun L => rr_at ((Kept.more G L) _ _ gR) r8'
        have z1 := rr_at (n := 8) (m1.kept _ _ gR) r8'
        have z2 := rr_at (n := 8) (m2.kept _ _ gR) r8'
        obtain ⟨q1, q2, q3, q4, q5⟩ := outV_quiet (code := code) (rd := rd) hR hn v hu
        rw [q1] at b3
        rw [q2] at od
        rw [q3] at oc
        have pEnd : Pre h H5 := pG.trans m3
        have ip : IntS H5 path (outV code R rd).path := oa'.sl.pre m3
        have iq : IntS H5 path2 (outV code R rd).path := oc.sl
        have ie : Sl H5 evs 15 ((outV code R rd).evs.map evL) := ob'.sl.pre m3
        have ig : Sl H5 evs2 15 ((outV code R rd).evs.map evL) := od.sl
        have le : ∀ K, lenO K evs = some (.int .i64 ((outV code R rd).evs.length : Int), K) := fun K => by rw [Sl.len ie, List.length_map]
        have lg : ∀ K, lenO K evs2 = some (.int .i64 ((outV code R rd).evs.length : Int), K) := fun K => by rw [Sl.len ig, List.length_map]
        have hO : H5[K.length + 2]? = some (.cells (regsL (outV code R rd).R) 0 false) := m3.kept _ _ gO
        have small : (outV code R rd).path.length ≤ 8 ∧ (outV code R rd).evs.length ≤ 4611686018427387902 := by
          rcases outV_good (code := code) (R := R) (rd := rd) with ⟨_, e2, e3⟩ | ⟨_, rc, t, _, e2, g, gpc⟩
          · rw [e2, e3]; simp
          · rw [e2]
            have h8 := rc.len
            have hl : t.path.length ≤ 8 := Nat.le_trans g.len (Nat.le_trans gpc h8)
            refine ⟨hl, ?_⟩
            show t.evs.length ≤ _
            have key : ∀ k (hk : k < t.evs.length), (k : Int) ≤ t.evs[k].pos := by
              intro k
              induction k with
              | zero => intro hk; obtain ⟨p, m, hp1, _⟩ := g.evr t.evs[0] (List.getElem_mem _); omega
              | succ k ih =>
                intro hk
                have := ih (by omega)
                have := List.pairwise_iff_getElem.1 g.evi k (k + 1) (by omega) hk (by omega)
                omega
            have h1 : t.evs.length ≤ 8 ∨ 8 < t.evs.length := by omega
            rcases h1 with h1 | h1
            · omega
            · have := key 8 h1
              obtain ⟨p, m, hp1, _, hp3, _⟩ := g.evr t.evs[8] (List.getElem_mem _)
              have := (List.getElem?_eq_some_iff.1 hp3).1
              omega
        have s1' : ((outV code R rd).e != (outV code R rd).e) = false := by simp
        have s2' : (((outV code R rd).evs.length : Int) != ((outV code R rd).evs.length : Int)) = false := by simp
        have s3' : ((outV code R rd).path == (outV code R rd).path) = true := by simp
        generalize outV code (R.set n v) rd = O2 at u1 u2 o9 o9' b3 b4 q4 q5
        generalize outV code R rd = O1 at b3 w1 w2 o8 o8' a3 a4 hO ip iq ie ig le lg small s1' s2' s3' q4 q5
        simp only [C_ops, C_cond, D_exit, D_skip, normal_some, cond_ff, E_nil, E_cons, E_guard, next_some, next_none, guard_ff, ev_tmp, ev_const, get_succ, get_zero, List.set_cons_succ, List.set_cons_zero, O_mv, O_pick, pickO, O_bin, pairO, O_un, O_call, List.map_cons, List.map_nil, O_len, O_load, load_ptr, O_mkRow, mk_some, partsV_nil, zeros_zero, fill_nil, B_neq, B_lss, U_not, List.cons_append, List.nil_append, List.length_cons, List.length_nil, Nat.reduceAdd, Nat.zero_add, Bool.not_true, W_some, W_seq, W_block, Q_cont_normal, Q_cont_exit, Q_block_exit, slc, O_append, O_alloc, O_atArr, O_extract, extract_tup, wrote_some, O_store1, store1_int, O_store, store_agg, List.append_assoc, List.length_append, Option.map_some, List.getElem?_cons_zero, List.getElem?_cons_succ, beq_self_eq_true, eq_self, O_again, again_agg, Q_for_exit, hc.len, hk1, decide_false, List.length_replicate, List.take_length, x0, a1, x1, a2, x2, a3, o8', w1, arr, wG, z0, b1, z1, b2, z2, b3, o9', u1, s1', le, lg, s2', law3_ints_c ip iq (by omega)]
        clear a1 a2 a3 a4 b1 b2 b3 b4 x0 x1 x2 z0 z1 z2 w1 u1 wG
        refine for_wp O1.evs.length (fun k st => ∃ j : Nat → Value, st = ⟨[j 0, j 1, j 2, .int .i64 (n : Int), .int .i64 v, j 5, j 6, j 7, j 8, j 9, j 10, .bool (givesN n code), j 12, j 13, j 14, .pointer (some ⟨K.length + 2, 0, some 0⟩), evs, j 17, .int .i64 O1.e, .pointer (some ⟨G.length + 2, 0, some 0⟩), evs2, j 21, j 22, .int .i64 (k : Int), j 24, j 25, j 26, j 27, j 28, j 29, j 30, j 31, j 32, j 33, j 34, j 35, j 36, j 37, j 38, j 39, j 40, j 41, j 42, j 43, j 44, j 45, j 46, j 47, j 48, j 49, j 50, j 51, j 52, j 53, j 54, j 55, j 56, j 57, j 58, j 59, j 60, j 61, j 62, j 63, j 64, j 65, j 66, j 67, j 68, j 69, j 70, j 71, j 72, j 73, j 74, j 75, j 76, j 77, j 78, j 79, j 80, j 81, j 82, j 83, j 84, j 85, j 86, j 87, j 88, j 89, j 90, j 91, j 92, j 93, j 94, j 95, j 96, j 97, j 98, j 99, j 100, j 101, j 102, j 103, j 104, j 105, j 106, j 107, j 108, j 109, j 110, j 111, j 112, j 113, j 114, j 115, j 116, j 117, j 118, j 119, j 120, j 121, j 122, j 123, j 124, j 125, j 126, j 127, j 128, j 129, j 130, j 131, j 132, j 133, j 134, j 135, j 136, j 137, j 138, j 139, j 140, j 141, j 142, j 143, j 144, j 145, j 146, j 147, j 148], H5⟩) ?_ ?_ _ ?_
        · rintro k st hk ⟨j, rfl⟩
          have hk1 : (k : Int) < (O1.evs.length : Int) := by omega
          obtain ⟨b, o, w, f1, f2⟩ := ie.atH (k := k) (by simpa using hk)
          obtain ⟨b', o', w', d1, d2⟩ := ig.atH (k := k) (by simpa using hk)
          rw [List.getElem_map] at f2 d2
          simp only [C_ops, C_cond, D_skip, normal_some, cond_tt, cond_ff, E_nil, E_cons, next_some, ev_tmp, ev_const, get_succ, get_zero, List.set_cons_succ, List.set_cons_zero, O_mv, O_bin, pairO, O_len, O_atRow, O_load, load_ptr, B_add, B_lss, Bool.not_true, W_some, W_seq, W_block, Q_cont_normal, Q_block_normal, Option.map_some, Bool.bne_true, O_eqAgg, Q_for_normal, le, hk1, decide_true, f1, f2, d1, d2, eqAgg_ev_self, wrap_nat (k := k) (by omega)]
          exact junk rfl
        · rintro st ⟨j, rfl⟩
          have hk1 : ¬ ((O1.evs.length : Int) < (O1.evs.length : Int)) := by omega
          have c1 : ((G.length + 2 = K.length + 2) : Prop) = False := eq_false (by omega)
          have c2 : ((K.length + 2 = G.length + 2) : Prop) = False := eq_false (by omega)
          have hlt5 := (List.getElem?_eq_some_iff.1 hO).1
          have hlt6 := (List.getElem?_eq_some_iff.1 u2).1
          have y1 : Heap.write1 H5 ⟨K.length + 2, n, some 0⟩ (.int .i64 0) = some (H5.set (K.length + 2) (.cells (regsL (O1.R.set n 0)) 0 false)) := by
            rw [ws_at hO (by rw [o8']; exact hn), regsL_set]
          have y2 : Heap.write1 (H5.set (K.length + 2) (.cells (regsL (O1.R.set n 0)) 0 false)) ⟨G.length + 2, n, some 0⟩ (.int .i64 0) = some ((H5.set (K.length + 2) (.cells (regsL (O1.R.set n 0)) 0 false)).set (G.length + 2) (.cells (regsL (O1.R.set n 0)) 0 false)) := by
            rw [ws_at (l := regsL O2.R) (by rw [List.getElem?_set_ne (by omega)]; exact u2) (by rw [o9']; exact hn), regsL_set, q4]
          have y3 : Heap.read ((H5.set (K.length + 2) (.cells (regsL (O1.R.set n 0)) 0 false)).set (G.length + 2) (.cells (regsL (O1.R.set n 0)) 0 false)) ⟨K.length + 2, 0, some 0⟩ 8 = some (regsL (O1.R.set n 0)) := by
            rw [rr_ne c1, rr_same hlt5 (by rw [regsL_len, List.length_set]; exact o8)]
          have y4 : Heap.read ((H5.set (K.length + 2) (.cells (regsL (O1.R.set n 0)) 0 false)).set (G.length + 2) (.cells (regsL (O1.R.set n 0)) 0 false)) ⟨G.length + 2, 0, some 0⟩ 8 = some (regsL (O1.R.set n 0)) :=
            rr_same (by rw [List.length_set]; exact hlt6) (by rw [regsL_len, List.length_set]; exact o8)
          have y5 := fun neg => eqAgg_regs_self ((H5.set (K.length + 2) (.cells (regsL (O1.R.set n 0)) 0 false)).set (G.length + 2) (.cells (regsL (O1.R.set n 0)) 0 false)) neg (R := O1.R.set n 0) (by rw [List.length_set]; exact o8)
          have y6 : (regsL (O1.R.set n 0)).length = 8 := by rw [regsL_len, List.length_set]; exact o8
          have pE2 : Pre h ((H5.set (K.length + 2) (.cells (regsL (O1.R.set n 0)) 0 false)).set (G.length + 2) (.cells (regsL (O1.R.set n 0)) 0 false)) := (pEnd.set (by have := pHK.le; omega) _).set (by have := pG.le; omega) _
          cases hg : givesN n code
          · cases he : (O1.e == 0)
            · simp only [C_ops, C_cond, D_exit, D_ret, D_skip, normal_some, cond_ff, E_nil, E_cons, E_guard, next_some, next_none, guard_tt, guard_tf, ev_tmp, ev_const, get_succ, get_zero, List.set_cons_succ, List.set_cons_zero, O_mv, O_pick, pickO, O_bin, pairO, O_un, O_len, O_load, load_ptr, B_eql, B_lss, U_not, Bool.not_false, W_some, W_seq, Q_cont_normal, Q_cont_exit, Q_block_exit, O_atArr, wrote_some, O_store1, store1_int, Option.map_some, Bool.bne_false, O_eqAgg, Q_for_exit, le, hk1, decide_false, he, arr, y1, y2, y3, y4, y5]
              rw [Q_pre pE2 _ _ _ rfl]; rfl
            · have q6 := q5 hg (by simpa using he)
              have y7 := rs_at (j := n) u2
              rw [regsL_get (by rw [o9]; exact hn), q6] at y7
              have vv : (v != v) = false := by simp
              simp only [C_ops, C_cond, D_exit, D_ret, D_skip, normal_some, cond_ff, E_nil, E_cons, E_guard, next_some, next_none, guard_tt, ev_tmp, ev_const, get_succ, get_zero, List.set_cons_succ, List.set_cons_zero, O_mv, O_pick, pickO, O_bin, pairO, O_un, O_len, O_load1, load1_ptr, O_load, load_ptr, B_eql, B_neq, B_lss, U_not, Bool.not_false, W_some, W_seq, Q_cont_normal, Q_cont_exit, Q_block_exit, O_atArr, wrote_some, O_store1, store1_int, Option.map_some, Bool.bne_false, O_eqAgg, Q_for_exit, le, hk1, decide_false, he, arr, y7, vv, y1, y2, y3, y4, y5]
              rw [Q_pre pE2 _ _ _ rfl]; rfl
          · simp only [C_ops, C_cond, D_exit, D_ret, D_skip, normal_some, cond_ff, E_nil, E_cons, E_guard, next_some, next_none, guard_tf, ev_tmp, ev_const, get_succ, get_zero, List.set_cons_succ, List.set_cons_zero, O_mv, O_pick, pickO, O_bin, pairO, O_un, O_len, O_load, load_ptr, B_lss, U_not, Bool.not_true, W_some, W_seq, Q_cont_normal, Q_cont_exit, Q_block_exit, O_atArr, wrote_some, O_store1, store1_int, Option.map_some, Bool.bne_false, O_eqAgg, Q_for_exit, le, hk1, decide_false, arr, y1, y2, y3, y4, y5]
            rw [Q_pre pE2 _ _ _ rfl]; rfl
        · exact junk rfl
      · exact ⟨_, junkA rfl ⟨Pre.refl _, by simp⟩⟩
theorem uirQuiet_law (h : Heap) (us : List Value) (hu : TypedAs h [(false, [(.slice 120 (List.replicate 10 (.int .i64) ++ List.replicate 3 .bool ++ List.replicate 3 (.int .i64) ++ [.bool]))]), (true, (List.replicate 8 (.int .i64))), (false, [(.slice 8 [(.int .i64)])]), (false, [(.int .i64)]), (false, [(.int .i64)])] us) : ∃ h', DF FF n_belatedlaw3_UirQuiet us h = some (.bool true, h') :=
  match us, hu with
  | [a, b, c, d, e], ⟨h0, h1, h2, h3, h4, _⟩ =>
    let ⟨code, hc, hb⟩ := typed_code h0
    let ⟨R, hR, hR8⟩ := typed_regs h1
    let ⟨rd, hv, hvb⟩ := typed_intS h2
    let ⟨r, hr, _⟩ := typed_int h3
    let ⟨v, hw, _⟩ := typed_int h4
    ⟨h, by rw [hR, hr, hw]; exact law_UirQuiet hc hb hR8 hv hvb r v⟩
end Go.Proofs.Ytjodnadlplicmaa.AM
