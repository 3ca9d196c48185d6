/-
  The law on the steps of a run.
  Conditions: none.
-/
import Derived.Test.YtjodnadlplicmaaUb8
namespace Go.Proofs.Ytjodnadlplicmaa.AM
open Go.RowKit
set_option linter.unusedSimpArgs false
set_option linter.unusedVariables false

theorem regsN_len (i : Ins) (s : LS) : (regsN i s).length = s.R.length := by unfold regsN; split <;> simp
theorem runV_len {code : List Ins} : ∀ (f : Nat) {s t : LS}, runV code f s = some t → t.R.length = s.R.length
  | 0, s, t, h => by cases h; rfl
  | f + 1, s, t, h => by
    rw [runV] at h
    cases hi : code[s.pc]? with
    | none => rw [hi] at h; cases h; rfl
    | some i =>
      rw [hi] at h
      cases hs : stepV i s with
      | none => simp only [hs] at h; cases h
      | some u =>
        simp only [hs] at h
        rw [runV_len f h]
        unfold stepV at hs
        split at hs
        · cases hs
        · cases hs; exact regsN_len i s
theorem outV_R8 {code : List Ins} {R rd : List Int} (hR : R.length = 8) : (outV code R rd).R.length = 8 := by
  unfold outV
  split
  · cases ht : localV code R rd with
    | none => rfl
    | some t =>
      have := runV_len code.length ht
      simp only; rw [this]; exact hR
  · rfl
theorem evL_len15 (e : Ev) : (evL e).length = 15 := by simp [evL]
theorem evL_1 (e : Ev) : (evL e)[1]? = some (.int .i64 e.pos) := rfl
theorem evL_2 (e : Ev) : (evL e)[2]? = some (.int .i64 e.place) := rfl
theorem evL_3 (e : Ev) : (evL e)[3]? = some (.int .i64 e.op) := rfl
theorem evL_6 (e : Ev) : (evL e)[6]? = some (.bool e.reads) := rfl
theorem evL_7 (e : Ev) : (evL e)[7]? = some (.bool e.writes) := rfl
theorem usedN_succ {l : List Ev} {k : Nat} (hk : k < l.length) : ((l.take (k + 1)).filter fun e => e.reads).length = if l[k].reads then ((l.take k).filter fun e => e.reads).length + 1 else ((l.take k).filter fun e => e.reads).length := by
  rw [List.take_succ_eq_append_getElem hk, List.filter_append]
  cases h : l[k].reads <;> simp [h]
set_option maxHeartbeats 8000000 in
set_option maxRecDepth 20000 in
theorem law_UirSteps {code : List Ins} {c : Value} {h : Heap} (hc : InsSl h c code) (hb : code.length * 120 ≤ roomFor) {R : List Int} (hR : R.length = 8) {s : Value} {rd : List Int} (hs : IntS h s rd) (hv : rd.length * 8 ≤ roomFor) :
    DF FF n_belatedlaw3_UirSteps [c, agg (regsL R), s] h = some (.bool true, h) := by
  refine fun_wpU F_belatedlaw3_UirSteps ?_
  have r8 : (regsL R).length = 8 := by rw [regsL_len, hR]
  have pB : Pre h (h ++ [.cells (regsL R) 0 false]) := (Pre.refl h).more _
  by_cases g1 : (2000 : Int) < (code.length : Int)
  · simp only [c_belatedlaw3_UirSteps, C_ops, C_cond, D_ret, D_skip, normal_some, cond_tt, cond_ff, E_nil, E_cons, E_guard, next_some, guard_ft, ev_tmp, ev_const, get_succ, get_zero, List.set_cons_succ, List.set_cons_zero, O_mv, O_pick, pickO, O_bin, pairO, O_un, O_call, List.map_nil, O_len, B_gtr, U_not, List.cons_append, List.nil_append, List.length_cons, List.length_nil, Nat.reduceAdd, Nat.reduceSub, Nat.zero_add, Bool.not_true, W_some, W_seq, Q_cont_normal, Q_cont_ret, O_box, fillU_zero, fillU_succ, List.append_assoc, eq_self, laid_agg, box_some, r8, law3_able_c, hc.len, g1, decide_true]
    rw [Q_more _ _ _ _ _ rfl]; rfl
  · by_cases g2 : (2000 : Int) < (rd.length : Int)
    · simp only [c_belatedlaw3_UirSteps, C_ops, C_cond, D_ret, D_skip, normal_some, cond_tt, cond_ff, E_nil, E_cons, E_guard, next_some, guard_ff, ev_tmp, ev_const, get_succ, get_zero, List.set_cons_succ, List.set_cons_zero, O_mv, O_pick, pickO, O_bin, pairO, O_un, O_call, List.map_nil, O_len, B_gtr, U_not, List.cons_append, List.nil_append, List.length_cons, List.length_nil, Nat.reduceAdd, Nat.reduceSub, Nat.zero_add, Bool.not_true, W_some, W_seq, Q_cont_normal, Q_cont_ret, O_box, fillU_zero, fillU_succ, List.append_assoc, eq_self, laid_agg, box_some, r8, law3_able_c, hc.len, hs.len, g1, g2, decide_true, decide_false]
      rw [Q_more _ _ _ _ _ rfl]; rfl
    · obtain ⟨s1, K1, s2, K2, evs, path, H', a1, a2, p1, p2, a3, a4⟩ := run_c (hc.more [.cells (regsL R) 0 false]) (hs.more [.cells (regsL R) 0 false]) (by omega) (by omega) hR
      have o8 := outV_R8 (code := code) (rd := rd) hR
      obtain ⟨H2, w1, w2, p3, oa, ob, _, _⟩ := a4 (regsL (outV code R rd).R) (by rw [regsL_len, o8])
      have x1 := read_regs hR p1
      have x2 := read_regs hR p2
      have o8' : (regsL (outV code R rd).R).length = 8 := by rw [regsL_len, o8]
      simp only [List.append_assoc, List.cons_append, List.nil_append, List.length_append, List.length_cons, List.length_nil, Nat.zero_add, Nat.add_assoc, Nat.reduceAdd] at a1 a2 w1
      have pH : Pre h H2 := pB.trans p3
      have lp : ∀ K, lenO K path = some (.int .i64 ((outV code R rd).path.length : Int), K) := fun K => by rw [oa.len, List.length_map]
      have le : ∀ K, lenO K evs = some (.int .i64 ((outV code R rd).evs.length : Int), K) := fun K => by rw [ob.len, List.length_map]
      rcases outV_good (code := code) (R := R) (rd := rd) with ⟨q1, q2, q3⟩ | ⟨q1, rc, t, ht, q2, g, gpc⟩
      · have e1 : ((outV code R rd).e != 0) = true := by simp [q1]
        rw [q2] at lp
        rw [q3] at le
        simp only [List.length_nil, Int.natCast_zero] at lp le
        simp only [c_belatedlaw3_UirSteps, C_ops, C_cond, D_ret, D_skip, normal_some, cond_tt, cond_ff, E_nil, E_cons, E_guard, next_some, next_none, guard_tt, guard_ff, ev_tmp, ev_const, get_succ, get_zero, List.set_cons_succ, List.set_cons_zero, O_mv, O_pick, pickO, O_bin, pairO, O_un, O_call, List.map_cons, List.map_nil, O_len, O_load, load_ptr, O_mkRow, mk_some, partsV_nil, zeros_zero, fill_nil, B_eql, B_neq, B_gtr, U_not, List.cons_append, List.nil_append, List.length_cons, List.length_nil, Nat.reduceAdd, Nat.reduceSub, Nat.zero_add, Bool.not_true, W_some, W_seq, Q_cont_normal, Q_cont_ret, slc, O_append, O_alloc, O_box, O_extract, extract_tup, wrote_some, O_store, store_agg, read_skip0, read_there, fillU_zero, fillU_succ, List.append_assoc, List.length_append, Option.map_some, List.getElem?_cons_zero, List.getElem?_cons_succ, beq_self_eq_true, eq_self, laid_agg, box_some, O_again, again_agg, r8, law3_able_c, hc.len, hs.len, g1, g2, decide_false, List.length_replicate, Nat.reduceAdd, a1, x1, a2, x2, a3, w1, o8', e1, lp, le]
        rw [Q_pre pH _ _ _ rfl]; rfl
      · have e1 : ((outV code R rd).e != 0) = false := by rw [q1]; rfl
        have ip : IntS H2 path (outV code R rd).path := oa.sl
        have ie : Sl H2 evs 15 ((outV code R rd).evs.map evL) := ob.sl
        simp only [c_belatedlaw3_UirSteps, C_ops, C_cond, D_skip, normal_some, cond_ff, E_nil, E_cons, E_guard, next_some, next_none, guard_ff, ev_tmp, ev_const, get_succ, get_zero, List.set_cons_succ, List.set_cons_zero, O_mv, O_pick, pickO, O_bin, pairO, O_un, O_call, List.map_cons, List.map_nil, O_len, O_load, load_ptr, O_mkRow, mk_some, partsV_nil, zeros_zero, fill_nil, B_neq, B_gtr, U_not, List.cons_append, List.nil_append, List.length_cons, List.length_nil, Nat.reduceAdd, Nat.reduceSub, Nat.zero_add, Bool.not_true, W_some, W_seq, W_block, Q_cont_normal, slc, O_append, O_alloc, O_box, O_extract, extract_tup, wrote_some, O_store, store_agg, read_skip0, read_there, fillU_zero, fillU_succ, List.append_assoc, List.length_append, Option.map_some, List.getElem?_cons_zero, List.getElem?_cons_succ, eq_self, laid_agg, box_some, O_again, again_agg, r8, law3_able_c, hc.len, hs.len, g1, g2, decide_false, List.length_replicate, Nat.reduceAdd, a1, x1, a2, x2, a3, w1, o8', e1]
        have hpath : (outV code R rd).path = t.path := by rw [q2]
        have hevs : (outV code R rd).evs = t.evs := by rw [q2]
        rw [hpath] at ip lp
        rw [hevs] at ie le
        clear oa ob a1 a2 a3 a4 w1 w2 x1 x2
        have eC : InsSl H2 c code := hc.pre pH
        have lpc : t.path.length ≤ code.length := Nat.le_trans g.len gpc
        have leu : t.evs.length ≤ 4611686018427387903 := by
          have h1 : t.evs.length < 4611686018427387904 ∨ 4611686018427387904 ≤ t.evs.length := by omega
          rcases h1 with h1 | h1
          · omega
          · exfalso
            obtain ⟨p, m, hp1, _, hp3, _⟩ := g.evr t.evs[t.evs.length - 1] (List.getElem_mem _)
            have hp4 := (List.getElem?_eq_some_iff.1 hp3).1
            have key : ∀ k (hk : k < t.evs.length), (k : Int) ≤ t.evs[k].pos := by
              intro k
              induction k with
              | zero => intro hk; obtain ⟨p, m, hp1, _⟩ := g.evr t.evs[0] (List.getElem_mem _); omega
              | succ k ih =>
                intro hk
                have := ih (by omega)
                have := List.pairwise_iff_getElem.1 g.evi k (k + 1) (by omega) hk (by omega)
                omega
            have := key (t.evs.length - 1) (by omega)
            omega
        refine for_wp t.path.length (fun k st => ∃ j : Nat → Value, st = ⟨[c, j 1, s, j 3, j 4, j 5, j 6, j 7, evs, path, j 10, .int .i64 (k : Int), j 12, j 13, j 14, j 15, j 16, j 17, j 18, j 19, j 20, j 21, j 22, j 23, j 24, j 25, j 26, j 27, j 28, j 29, j 30, j 31, j 32, j 33, j 34, j 35, j 36, j 37, j 38, j 39, j 40, j 41, j 42, j 43, j 44, j 45, j 46, j 47, j 48, j 49, j 50, j 51, j 52, j 53, j 54, j 55, j 56, j 57, j 58, j 59, j 60, j 61, j 62, j 63, j 64, j 65, j 66, j 67, j 68, j 69, j 70, j 71, j 72, j 73, j 74, j 75, j 76, j 77, j 78, j 79, j 80, j 81, j 82, j 83, j 84, j 85, j 86, j 87, j 88, j 89, j 90, j 91, j 92, j 93, j 94, j 95, j 96, j 97, j 98, j 99, j 100, j 101, j 102, j 103, j 104, j 105, j 106, j 107, j 108, j 109, j 110, j 111, j 112, j 113, j 114, j 115, j 116, j 117, j 118, j 119, j 120, j 121, j 122, j 123, j 124, j 125, j 126, j 127, j 128, j 129, j 130, j 131, j 132, j 133, j 134, j 135, j 136, j 137, j 138, j 139, j 140, j 141, j 142, j 143, j 144, j 145, j 146, j 147, j 148, j 149, j 150, j 151, j 152, j 153, j 154, j 155, j 156, j 157, j 158, j 159, j 160, j 161, j 162, j 163, j 164, j 165, j 166, j 167, j 168, j 169, j 170, j 171, j 172, j 173, j 174], H2⟩) ?_ ?_ _ ?_
        · rintro k st hk ⟨j, rfl⟩
          have hk1 : (k : Int) < (t.path.length : Int) := by omega
          obtain ⟨b, o, w, f1, _, f3⟩ := ip.at hk
          obtain ⟨m, hm, hm2, _⟩ := g.rng _ (List.getElem_mem hk)
          have z1 : ¬ ((code.length : Int) ≤ t.path[k]) := by omega
          cases k with
          | zero =>
            have n0 : ((0 : Nat) : Int) = 0 := rfl
            have z2 : (t.path[0] != 0) = false := by
              rcases g.hd with ⟨hz, _⟩ | hz
              · rw [hz] at hk; simp at hk
              · have := (List.getElem?_eq_some_iff.1 hz).2
                rw [this]; rfl
            rw [n0] at f1 hk1
            simp only [C_ops, C_cond, D_skip, normal_some, cond_tt, cond_ff, E_nil, E_cons, E_guard, next_some, guard_tt, guard_ff, guard_tf, ev_tmp, ev_const, get_succ, get_zero, List.set_cons_succ, List.set_cons_zero, O_mv, O_pick, pickO, O_bin, pairO, O_len, O_atRow, O_load1, load1_ptr, B_add, B_eql, B_neq, B_lss, B_gtr, B_geq, Nat.zero_add, W_some, W_seq, W_block, Q_cont_normal, Q_block_normal, beq_self_eq_true, Int.reduceLT, Q_for_normal, n0, lp, hk1, decide_true, f1, f3, z1, z2, eC.len, decide_false]
            exact junk rfl
          | succ k =>
            have k0 : (((k + 1 : Nat) : Int) == 0) = false := by simp; omega
            have k1 : (0 : Int) < ((k + 1 : Nat) : Int) := by omega
            have hwk : IntKind.i64.wrap (((k + 1 : Nat) : Int) - 1) = (k : Int) := by rw [show ((k + 1 : Nat) : Int) - 1 = (k : Int) by omega]; exact wrapS (by omega)
            have hwk1 : IntKind.i64.wrap (((k + 1 : Nat) : Int) + 1) = ((k + 1 + 1 : Nat) : Int) := wrap_nat (k := k + 1) (by omega)
            obtain ⟨b', o', w', d1, _, d3⟩ := ip.at (k := k) (by omega)
            have inc := List.pairwise_iff_getElem.1 g.inc k (k + 1) (by omega) hk (by omega)
            have z2 : ¬ (t.path[k + 1] ≤ t.path[k]) := by omega
            simp only [C_ops, C_cond, D_skip, normal_some, cond_tt, cond_ff, E_nil, E_cons, E_guard, next_some, guard_tt, guard_ff, guard_tf, ev_tmp, ev_const, get_succ, get_zero, List.set_cons_succ, List.set_cons_zero, O_mv, O_pick, pickO, O_bin, pairO, O_len, O_atRow, O_load1, load1_ptr, B_add, B_sub, B_eql, B_lss, B_leq, B_gtr, B_geq, W_some, W_seq, W_block, Q_cont_normal, Q_block_normal, Q_for_normal, lp, hk1, decide_true, f1, f3, d1, d3, z1, z2, k0, k1, hwk, hwk1, eC.len, decide_false]
            exact junk rfl
        · rintro st ⟨j, rfl⟩
          have hk1 : ¬ ((t.path.length : Int) < (t.path.length : Int)) := by omega
          simp only [C_ops, C_cond, D_exit, normal_some, cond_ff, E_nil, E_cons, next_some, ev_tmp, ev_const, get_succ, get_zero, List.set_cons_succ, List.set_cons_zero, O_mv, O_bin, pairO, O_len, B_lss, W_some, W_seq, W_block, Q_cont_normal, Q_cont_exit, Q_block_exit, Q_for_exit, lp, hk1, decide_false]
          refine for_wp t.evs.length (fun k st => ∃ (J : Heap) (j : Nat → Value), st = ⟨[c, j 1, s, j 3, j 4, j 5, j 6, j 7, evs, path, j 10, j 11, .int .i64 (((t.evs.take k).filter fun e => e.reads).length : Nat), .int .i64 (k : Int), j 14, j 15, j 16, j 17, j 18, j 19, j 20, j 21, j 22, j 23, j 24, j 25, j 26, j 27, j 28, j 29, j 30, j 31, j 32, j 33, j 34, j 35, j 36, j 37, j 38, j 39, j 40, j 41, j 42, j 43, j 44, j 45, j 46, j 47, j 48, j 49, j 50, j 51, j 52, j 53, j 54, j 55, j 56, j 57, j 58, j 59, j 60, j 61, j 62, j 63, j 64, j 65, j 66, j 67, j 68, j 69, j 70, j 71, j 72, j 73, j 74, j 75, j 76, j 77, j 78, j 79, j 80, j 81, j 82, j 83, j 84, j 85, j 86, j 87, j 88, j 89, j 90, j 91, j 92, j 93, j 94, j 95, j 96, j 97, j 98, j 99, j 100, j 101, j 102, j 103, j 104, j 105, j 106, j 107, j 108, j 109, j 110, j 111, j 112, j 113, j 114, j 115, j 116, j 117, j 118, j 119, j 120, j 121, j 122, j 123, j 124, j 125, j 126, j 127, j 128, j 129, j 130, j 131, j 132, j 133, j 134, j 135, j 136, j 137, j 138, j 139, j 140, j 141, j 142, j 143, j 144, j 145, j 146, j 147, j 148, j 149, j 150, j 151, j 152, j 153, j 154, j 155, j 156, j 157, j 158, j 159, j 160, j 161, j 162, j 163, j 164, j 165, j 166, j 167, j 168, j 169, j 170, j 171, j 172, j 173, j 174], H2 ++ J⟩) ?_ ?_ _ ?_
          · rintro k st hk ⟨J, j, rfl⟩
            have hk1 : (k : Int) < (t.evs.length : Int) := by omega
            obtain ⟨b, o, w, f1, f2⟩ := ie.at (k := k) (by simpa using hk)
            have f2 : ∀ L, Heap.read (H2 ++ L) ⟨b, o, some w⟩ 15 = some (evL t.evs[k]) := fun L => by rw [f2, List.getElem_map]
            obtain ⟨p, m, hp, hm, hpm, i, hi, ho, hr, hw⟩ := g.evr _ (List.getElem_mem hk)
            obtain ⟨hpl, hpe⟩ := List.getElem?_eq_some_iff.1 hpm
            obtain ⟨hml, hme⟩ := List.getElem?_eq_some_iff.1 hi
            obtain ⟨b2, o2, w2, d1, d2, _⟩ := ip.at hpl
            obtain ⟨b3, o3, w3, y1, y2, _⟩ := eC.at hml
            rw [hme] at y2
            simp only [hpe] at d2
            have y0 : ∀ L, Heap.read1 (H2 ++ L) ⟨b3, o3, some w3⟩ = some (.int .i64 i.op) := fun L => read1_of0 (y2 L) (insL_0 i)
            have z1 : ¬ ((t.path.length : Int) ≤ (p : Int)) := by omega
            have z2 : ((m : Int) != (m : Int)) = false := by simp
            have z3 : (i.op != i.op) = false := by simp
            have hus := usedN_succ hk
            rw [hr] at hus
            have hle : ((t.evs.take k).filter fun e => e.reads).length ≤ k := Nat.le_trans (List.length_filter_le _ _) (by simp; omega)
            have hwk1 := wrap_nat (k := k) (by omega)
            have hwu := wrap_nat (k := ((t.evs.take k).filter fun e => e.reads).length) (by omega)
            have rl := List.append_assoc H2 J
            have step : ∀ b : Bool, readsV i = b → True := fun _ _ => trivial
            cases k with
            | zero =>
              have n0 : ((0 : Nat) : Int) = 0 := rfl
              have k1 : ¬ ((0 : Int) < 0) := by omega
              rw [n0] at f1 hk1
              cases hb : readsV i
              · rw [hb] at hus hr
                simp only [Bool.false_eq_true, if_false] at hus
                simp only [C_ops, C_cond, D_skip, normal_some, cond_tt, cond_ff, E_nil, E_cons, E_guard, next_some, next_none, guard_ff, guard_tf, ev_tmp, ev_const, get_succ, get_zero, List.set_cons_succ, List.set_cons_zero, O_mv, O_pick, pickO, O_bin, pairO, O_call, List.map_cons, List.map_nil, O_len, O_atRow, O_load1, load1_ptr, O_load, load_ptr, B_add, B_neq, B_lss, B_gtr, B_geq, Nat.reduceAdd, Nat.zero_add, Bool.not_true, W_some, W_seq, W_block, Q_cont_normal, Q_block_normal, O_alloc, O_off, off_ptr, wrote_some, O_store, store_agg, read1_skip, read1_skip0, read1_there, pre_some, write_skip, write_skip0, write_there, List.append_assoc, List.length_append, Nat.add_zero, Option.map_some, again1_bool, Bool.bne_true, beq_self_eq_true, O_eqv, eqv_bool, eq_self, O_again1, Q_for_normal, n0, le, hk1, k1, decide_true, decide_false, f1, f2, evL_len15, List.length_replicate, Nat.reduceAdd, evL_1, evL_2, evL_3, evL_6, evL_7, hp, hm, ho, hr, hw, lp, z1, d1, d2, z2, y1, y0, y2, z3, uir_Reads_c, uir_Writes_c, hb, eqv_bool]
                rw [hus]; exact ⟨_, junk rfl⟩
              · rw [hb] at hus hr
                simp only [if_true] at hus
                simp only [C_ops, C_cond, D_skip, normal_some, cond_tt, cond_ff, E_nil, E_cons, E_guard, next_some, next_none, guard_ff, guard_tf, ev_tmp, ev_const, get_succ, get_zero, List.set_cons_succ, List.set_cons_zero, O_mv, O_pick, pickO, O_bin, pairO, O_call, List.map_cons, List.map_nil, O_len, O_atRow, O_load1, load1_ptr, O_load, load_ptr, B_add, B_neq, B_lss, B_gtr, B_geq, Nat.reduceAdd, Nat.zero_add, Bool.not_true, W_some, W_seq, W_block, Q_cont_normal, Q_block_normal, O_alloc, O_off, off_ptr, wrote_some, O_store, store_agg, read1_skip, read1_skip0, read1_there, pre_some, write_skip, write_skip0, write_there, List.append_assoc, List.length_append, Nat.add_zero, Option.map_some, again1_bool, Bool.bne_true, beq_self_eq_true, O_eqv, eqv_bool, eq_self, O_again1, Q_for_normal, n0, le, hk1, k1, decide_true, decide_false, f1, f2, evL_len15, List.length_replicate, Nat.reduceAdd, evL_1, evL_2, evL_3, evL_6, evL_7, hp, hm, ho, hr, hw, lp, z1, d1, d2, z2, y1, y0, y2, z3, uir_Reads_c, uir_Writes_c, hb, eqv_bool, hwu]
                rw [hus]; exact ⟨_, junk rfl⟩
            | succ k =>
              have k1 : (0 : Int) < ((k + 1 : Nat) : Int) := by omega
              have hwk : IntKind.i64.wrap (((k + 1 : Nat) : Int) - 1) = (k : Int) := by rw [show ((k + 1 : Nat) : Int) - 1 = (k : Int) by omega]; exact wrapS (by omega)
              obtain ⟨b4, o4, w4, x1, x2⟩ := ie.at (k := k) (by simp; omega)
              have x2 : ∀ L, Heap.read1 (H2 ++ L) ⟨b4, o4 + 1, some w4⟩ = some (.int .i64 t.evs[k].pos) := fun L => read1_of (by rw [x2 L, List.getElem_map]) (evL_1 _)
              have inc := List.pairwise_iff_getElem.1 g.evi k (k + 1) (by omega) hk (by omega)
              rw [hp] at inc
              have z4 : ¬ ((p : Int) ≤ t.evs[k].pos) := by omega
              cases hb : readsV i
              · rw [hb] at hus hr
                simp only [Bool.false_eq_true, if_false] at hus
                simp only [C_ops, C_cond, D_skip, normal_some, cond_tt, cond_ff, E_nil, E_cons, E_guard, next_some, next_none, guard_tt, guard_ff, ev_tmp, ev_const, get_succ, get_zero, List.set_cons_succ, List.set_cons_zero, O_mv, O_pick, pickO, O_bin, pairO, O_call, List.map_cons, List.map_nil, O_len, O_atRow, O_load1, load1_ptr, O_load, load_ptr, B_add, B_sub, B_neq, B_lss, B_leq, B_gtr, B_geq, Nat.reduceAdd, Nat.zero_add, Bool.not_true, W_some, W_seq, W_block, Q_cont_normal, Q_block_normal, O_alloc, O_off, off_ptr, wrote_some, O_store, store_agg, read1_skip, read1_skip0, read1_there, pre_some, write_skip, write_skip0, write_there, List.append_assoc, List.length_append, Nat.add_zero, Option.map_some, again1_bool, Bool.bne_true, beq_self_eq_true, O_eqv, eqv_bool, eq_self, O_again1, Q_for_normal, le, hk1, k1, hwk, x1, x2, z4, decide_true, decide_false, f1, f2, evL_len15, List.length_replicate, Nat.reduceAdd, evL_1, evL_2, evL_3, evL_6, evL_7, hp, hm, ho, hr, hw, lp, z1, d1, d2, z2, y1, y0, y2, z3, uir_Reads_c, uir_Writes_c, hb, eqv_bool, hwk1]
                rw [hus]; exact ⟨_, junk rfl⟩
              · rw [hb] at hus hr
                simp only [if_true] at hus
                simp only [C_ops, C_cond, D_skip, normal_some, cond_tt, cond_ff, E_nil, E_cons, E_guard, next_some, next_none, guard_tt, guard_ff, ev_tmp, ev_const, get_succ, get_zero, List.set_cons_succ, List.set_cons_zero, O_mv, O_pick, pickO, O_bin, pairO, O_call, List.map_cons, List.map_nil, O_len, O_atRow, O_load1, load1_ptr, O_load, load_ptr, B_add, B_sub, B_neq, B_lss, B_leq, B_gtr, B_geq, Nat.reduceAdd, Nat.zero_add, Bool.not_true, W_some, W_seq, W_block, Q_cont_normal, Q_block_normal, O_alloc, O_off, off_ptr, wrote_some, O_store, store_agg, read1_skip, read1_skip0, read1_there, pre_some, write_skip, write_skip0, write_there, List.append_assoc, List.length_append, Nat.add_zero, Option.map_some, again1_bool, Bool.bne_true, beq_self_eq_true, O_eqv, eqv_bool, eq_self, O_again1, Q_for_normal, le, hk1, k1, hwk, x1, x2, z4, decide_true, decide_false, f1, f2, evL_len15, List.length_replicate, Nat.reduceAdd, evL_1, evL_2, evL_3, evL_6, evL_7, hp, hm, ho, hr, hw, lp, z1, d1, d2, z2, y1, y0, y2, z3, uir_Reads_c, uir_Writes_c, hb, eqv_bool, hwk1, hwu]
                rw [hus]; exact ⟨_, junk rfl⟩
          · rintro st ⟨J, j, rfl⟩
            have hk1 : ¬ ((t.evs.length : Int) < (t.evs.length : Int)) := by omega
            have hu := g.used
            have z1 : (((t.evs.filter fun e => e.reads).length : Nat) : Int) ≤ (rd.length : Int) := by omega
            have z2 : (t.path.length : Int) ≤ (code.length : Int) := by omega
            simp only [C_ops, C_cond, D_exit, D_ret, normal_some, cond_ff, E_nil, E_cons, E_guard, next_some, guard_tt, ev_tmp, get_succ, get_zero, List.set_cons_succ, List.set_cons_zero, O_mv, O_pick, pickO, O_bin, pairO, O_len, B_lss, B_leq, W_some, W_seq, Q_cont_normal, Q_cont_exit, Q_block_exit, Q_for_exit, le, lp, hs.len, hc.len, hk1, decide_false, List.take_length, z1, z2, decide_true]
            rw [Q_pre (pH.more _) _ _ _ rfl]; rfl
          · exact ⟨[], by rw [List.append_nil]; exact junk rfl⟩
        · exact junk rfl
theorem uirSteps_law (h : Heap) (us : List Value) (hu : TypedAs h [(false, [(.slice 120 (List.replicate 10 (.int .i64) ++ List.replicate 3 .bool ++ List.replicate 3 (.int .i64) ++ [.bool]))]), (true, (List.replicate 8 (.int .i64))), (false, [(.slice 8 [(.int .i64)])])] us) : ∃ h', DF FF n_belatedlaw3_UirSteps us h = some (.bool true, h') :=
  match us, hu with
  | [a, b, c], ⟨h0, h1, h2, _⟩ =>
    let ⟨code, hc, hb⟩ := typed_code h0
    let ⟨R, hR, hR8⟩ := typed_regs h1
    let ⟨rd, hv, hvb⟩ := typed_intS h2
    ⟨h, by rw [hR]; exact law_UirSteps hc hb hR8 hv hvb⟩
end Go.Proofs.Ytjodnadlplicmaa.AM
