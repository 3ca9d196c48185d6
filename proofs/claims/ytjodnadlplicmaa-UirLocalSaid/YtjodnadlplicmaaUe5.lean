/-
  The law on codes run by themselves.
  Conditions: none.
-/
import Derived.Test.YtjodnadlplicmaaUe4
import Derived.Test.YtjodnadlplicmaaUc1
namespace Go.Proofs.Ytjodnadlplicmaa.AM
open Go.RowKit
set_option linter.unusedSimpArgs false
set_option linter.unusedVariables false

theorem LocalR.out {code : List Ins} {R rd : List Int} {h : Heap} {v : Value} {h' : Heap} (h2 : LocalR code R rd h v h') : ∃ evs path, v = tup [agg (regsL (outV code R rd).R), evs, path, .int .i64 (outV code R rd).e] ∧ Own h h' path 1 ((outV code R rd).path.map intR) ∧ Own h h' evs 15 ((outV code R rd).evs.map evL) ∧ Pre h h' := by
  unfold LocalR at h2
  unfold outV
  have rz : regsL zero8 = List.replicate 8 (.int .i64 0) := rfl
  split at h2
  · rename_i hr
    rw [if_pos hr]
    cases ht : localV code R rd with
    | none =>
      rw [ht] at h2
      obtain ⟨rfl, rfl⟩ := h2
      exact ⟨nils, nils, rfl, Own.nil _ _ _, Own.nil _ _ _, Pre.refl _⟩
    | some t =>
      rw [ht] at h2
      obtain ⟨evs, path, rfl, a, b, p⟩ := h2
      exact ⟨evs, path, rfl, a, b, p⟩
  · rename_i hr
    rw [if_neg hr]
    obtain ⟨rfl, rfl⟩ := h2
    exact ⟨nils, nils, rfl, Own.nil _ _ _, Own.nil _ _ _, Pre.refl _⟩
theorem imm_W {h : Heap} {i : Ins} (ht : TypedL h (List.replicate 10 (.int .i64) ++ List.replicate 3 .bool ++ List.replicate 3 (.int .i64) ++ [.bool]) (insL i)) : W i.imm := by
  obtain ⟨u, hu, ht⟩ := typedL_get ht (i := 4) (s := .int .i64) rfl
  rw [insL_4] at hu
  cases hu
  cases ht with
  | int k n hw => exact W_of_wf hw
theorem typed_codeW {h : Heap} {u : Value} (ht : TypedA h (false, [.slice 120 (List.replicate 10 (.int .i64) ++ List.replicate 3 .bool ++ List.replicate 3 (.int .i64) ++ [.bool])]) u) : ∃ code, InsSl h u code ∧ code.length * 120 ≤ roomFor ∧ ∀ i ∈ code, W i.imm := by
  obtain ⟨rows, h1, h2, h3⟩ := typed_slice (by simp) ht
  obtain ⟨l, rfl, hl⟩ := rows_of (p := fun i => W i.imm) (f := insL) rows fun r hr => by
    obtain ⟨i, rfl⟩ := typed_insL (h2 r hr); exact ⟨i, rfl, imm_W (h2 _ hr)⟩
  exact ⟨l, h1, Nat.le_trans (by simpa using h3) reach_room, hl⟩
theorem typed_intSW {h : Heap} {b : Nat} {u : Value} (ht : TypedA h (false, [.slice b [.int .i64]]) u) : ∃ l : List Int, IntS h u l ∧ l.length * b ≤ roomFor ∧ ∀ x ∈ l, W x := by
  obtain ⟨rows, h1, h2, h3⟩ := typed_slice (by simp) ht
  obtain ⟨l, rfl, hl⟩ := rows_of (p := W) (f := intR) rows fun r hr => by
    obtain ⟨u, hu, ht⟩ := typedL_get (h2 r hr) (i := 0) (s := .int .i64) rfl
    have hlen := (h2 r hr).1
    cases ht with
    | int k n hw =>
      refine ⟨n, ?_, W_of_wf hw⟩
      match r, hlen, hu with
      | [x], _, hu => have := Option.some.inj hu; rw [this]; rfl
  exact ⟨l, h1, Nat.le_trans (by simpa using h3) reach_room, hl⟩
theorem typed_regsW {h : Heap} {u : Value} (ht : TypedA h (true, List.replicate 8 (.int .i64)) u) : ∃ R : List Int, u = agg (regsL R) ∧ R.length = 8 ∧ ∀ x ∈ R, W x := by
  obtain ⟨R, hR, h8⟩ := typed_regs ht
  refine ⟨R, hR, h8, fun x hx => ?_⟩
  obtain ⟨l, hl, ht⟩ := ht
  have hl2 : l = regsL R := by
    have := hR.symm.trans hl
    simp only [agg, Value.agg.injEq] at this
    have h2 := congrArg Array.toList this
    simpa using h2.symm
  subst hl2
  obtain ⟨k, hk, rfl⟩ := List.mem_iff_getElem.1 hx
  obtain ⟨u, hu, ht⟩ := typedL_get ht (i := k) (s := .int .i64) (by rw [List.getElem?_replicate, if_pos (by omega)])
  rw [regsL_get hk] at hu
  cases hu
  cases ht with
  | int k n hw =>
    have := W_of_wf hw
    rwa [List.getD_eq_getElem?_getD, List.getElem?_eq_getElem hk] at this
set_option maxHeartbeats 8000000 in
set_option maxRecDepth 20000 in
theorem law_UirLocal {code : List Ins} {c : Value} {h : Heap} (hc : InsSl h c code) (hb : code.length * 120 ≤ roomFor) {R : List Int} (hR : R.length = 8) {s : Value} {rd : List Int} (hs : IntS h s rd) (hv : rd.length * 8 ≤ roomFor)
    (wR : ∀ x ∈ R, W x) (wrd : ∀ x ∈ rd, W x) (wI : ∀ i ∈ code, W i.imm) :
    DF FF n_belatedlaw3_UirLocal [c, agg (regsL R), s] h = some (.bool true, h) := by
  refine fun_wpU F_belatedlaw3_UirLocal ?_
  have r8 : (regsL R).length = 8 := by rw [regsL_len, hR]
  have pB : Pre h (h ++ [.cells (regsL R) 0 false]) := (Pre.refl h).more _
  by_cases g1 : (2000 : Int) < (code.length : Int)
  · simp only [c_belatedlaw3_UirLocal, C_ops, C_cond, D_ret, D_skip, normal_some, cond_tt, cond_ff, E_nil, E_cons, E_guard, next_some, guard_ft, ev_tmp, ev_const, get_succ, get_zero, List.set_cons_succ, List.set_cons_zero, O_mv, O_pick, pickO, O_bin, pairO, O_un, O_call, List.map_nil, O_len, B_gtr, U_not, List.cons_append, List.nil_append, List.length_cons, List.length_nil, Nat.reduceAdd, Nat.reduceSub, Nat.zero_add, Bool.not_true, W_some, W_seq, Q_cont_normal, Q_cont_ret, O_box, fillU_zero, fillU_succ, List.append_assoc, eq_self, laid_agg, box_some, r8, law3_able_c, hc.len, g1, decide_true]
    rw [Q_more _ _ _ _ _ rfl]; rfl
  · by_cases g2 : (2000 : Int) < (rd.length : Int)
    · simp only [c_belatedlaw3_UirLocal, C_ops, C_cond, D_ret, D_skip, normal_some, cond_tt, cond_ff, E_nil, E_cons, E_guard, next_some, guard_ff, ev_tmp, ev_const, get_succ, get_zero, List.set_cons_succ, List.set_cons_zero, O_mv, O_pick, pickO, O_bin, pairO, O_un, O_call, List.map_nil, O_len, B_gtr, U_not, List.cons_append, List.nil_append, List.length_cons, List.length_nil, Nat.reduceAdd, Nat.reduceSub, Nat.zero_add, Bool.not_true, W_some, W_seq, Q_cont_normal, Q_cont_ret, O_box, fillU_zero, fillU_succ, List.append_assoc, eq_self, laid_agg, box_some, r8, law3_able_c, hc.len, hs.len, g1, g2, decide_true, decide_false]
      rw [Q_more _ _ _ _ _ rfl]; rfl
    · obtain ⟨s1, K1, s2, K2, evs, path, H', a1, a2, p1, p2, a3, a4⟩ := run_c (hc.more [.cells (regsL R) 0 false]) (hs.more [.cells (regsL R) 0 false]) (by omega) (by omega) hR
      have o8 := outV_R8 (code := code) (rd := rd) hR
      obtain ⟨H2, w1, w2, p3, oa, ob, _, _⟩ := a4 (regsL (outV code R rd).R) (by rw [regsL_len, o8])
      have x1 := read_regs hR p1
      have x2 := read_regs hR p2
      have x3 := read_regs hR p3
      have o8' : (regsL (outV code R rd).R).length = 8 := by rw [regsL_len, o8]
      simp only [List.append_assoc, List.cons_append, List.nil_append, List.length_append, List.length_cons, List.length_nil, Nat.zero_add, Nat.add_assoc, Nat.reduceAdd] at a1 a2 w1 w2
      have pH : Pre h H2 := pB.trans p3
      obtain ⟨v, H3, b1, b2⟩ := ref_Local_c (hc.pre pH) (by omega) hR (hs.pre pH) (by omega) wR wrd wI
      obtain ⟨evs2, path2, rfl, oc, od, p4⟩ := b2.out
      have pH3 : Pre h H3 := pH.trans p4
      have w3 := p4.kept _ _ w2
      have w4 := fun L => rr_at (n := 8) ((Kept.more H3 L) _ _ w3) o8'
      have ip : IntS H3 path (outV code R rd).path := oa.sl.pre p4
      have iq : IntS H3 path2 (outV code R rd).path := oc.sl
      have ie : Sl H3 evs 15 ((outV code R rd).evs.map evL) := ob.sl.pre p4
      have ig : Sl H3 evs2 15 ((outV code R rd).evs.map evL) := od.sl
      have le : ∀ K, lenO K evs = some (.int .i64 ((outV code R rd).evs.length : Int), K) := fun K => by rw [Sl.len ie, List.length_map]
      have lg : ∀ K, lenO K evs2 = some (.int .i64 ((outV code R rd).evs.length : Int), K) := fun K => by rw [Sl.len ig, List.length_map]
      have small : (outV code R rd).path.length ≤ 8 ∧ (outV code R rd).evs.length ≤ 8 := by
        rcases outV_good (code := code) (R := R) (rd := rd) with ⟨_, e2, e3⟩ | ⟨_, rc, t, _, e2, g, gpc⟩
        · rw [e2, e3]; simp
        · rw [e2]
          have h8 := rc.len
          have hl : t.path.length ≤ 8 := Nat.le_trans g.len (Nat.le_trans gpc h8)
          refine ⟨hl, ?_⟩
          show t.evs.length ≤ _
          have key : ∀ k (hk : k < t.evs.length), (k : Int) ≤ t.evs[k].pos := by
            intro k
            induction k with
            | zero => intro hk; obtain ⟨p, m, hp1, _⟩ := g.evr t.evs[0] (List.getElem_mem _); omega
            | succ k ih =>
              intro hk
              have := ih (by omega)
              have := List.pairwise_iff_getElem.1 g.evi k (k + 1) (by omega) hk (by omega)
              omega
          have h1 : t.evs.length ≤ 8 ∨ 8 < t.evs.length := by omega
          rcases h1 with h1 | h1
          · omega
          · have := key 8 h1
            obtain ⟨p, m, hp1, _, hp3, _⟩ := g.evr t.evs[8] (List.getElem_mem _)
            have := (List.getElem?_eq_some_iff.1 hp3).1
            omega
      have eqR := fun H neg => eqAgg_regs_self H neg o8
      have s1' : ((outV code R rd).e != (outV code R rd).e) = false := by simp
      have s2' : (((outV code R rd).evs.length : Int) != ((outV code R rd).evs.length : Int)) = false := by simp
      have s3' : ((outV code R rd).path == (outV code R rd).path) = true := by simp
      have hint := fun L => law3_ints_c (ip.more L) (iq.more L) (by omega)
      generalize outV code R rd = O1 at a3 a4 b1 w1 w2 w3 w4 o8 o8' ip iq ie ig le lg small eqR s1' s2' s3' hint
      simp only [c_belatedlaw3_UirLocal, C_ops, C_cond, D_skip, normal_some, cond_ff, E_nil, E_cons, E_guard, next_some, next_none, guard_ff, ev_tmp, ev_const, get_succ, get_zero, List.set_cons_succ, List.set_cons_zero, O_mv, O_pick, pickO, O_bin, pairO, O_un, O_call, List.map_cons, List.map_nil, O_len, O_load, load_ptr, O_mkRow, mk_some, partsV_nil, zeros_zero, fill_nil, B_neq, B_gtr, U_not, List.cons_append, List.nil_append, List.length_cons, List.length_nil, Nat.reduceAdd, Nat.reduceSub, Nat.zero_add, Bool.not_true, W_some, W_seq, W_block, Q_cont_normal, slc, O_append, O_alloc, O_box, O_extract, extract_tup, wrote_some, O_store, store_agg, read_skip0, read_there, pre_some, write_skip0, write_there, fillU_zero, fillU_succ, List.append_assoc, List.length_append, Option.map_some, List.getElem?_cons_zero, List.getElem?_cons_succ, Bool.bne_true, beq_self_eq_true, eq_self, laid_agg, box_some, O_again, again_agg, O_eqAgg, r8, law3_able_c, hc.len, hs.len, g1, g2, decide_false, List.length_replicate, Nat.reduceAdd, a1, x1, a2, x2, x3, a3, w1, o8', b1, w4, eqR, s1', le, lg, s2', hint]
      refine for_wp O1.evs.length (fun k st => ∃ j : Nat → Value, st = ⟨[j 0, j 1, j 2, j 3, j 4, j 5, j 6, j 7, evs, j 9, j 10, j 11, evs2, j 13, j 14, .int .i64 (k : Int), j 16, j 17, j 18, j 19, j 20, j 21, j 22, j 23, j 24, j 25, j 26, j 27, j 28, j 29, j 30, j 31, j 32, j 33, j 34, j 35, j 36, j 37, j 38, j 39, j 40, j 41, j 42, j 43, j 44, j 45, j 46, j 47, j 48, j 49, j 50, j 51, j 52, j 53, j 54, j 55, j 56, j 57, j 58, j 59, j 60, j 61, j 62, j 63, j 64, j 65, j 66, j 67, j 68, j 69, j 70, j 71, j 72, j 73, j 74, j 75, j 76, j 77, j 78, j 79, j 80, j 81, j 82, j 83], H3 ++ [.cells (regsL O1.R) 0 false]⟩) ?_ ?_ _ ?_
      · rintro k st hk ⟨j, rfl⟩
        have hk1 : (k : Int) < (O1.evs.length : Int) := by omega
        obtain ⟨b, o, w, f1, f2⟩ := ie.at (k := k) (by simpa using hk)
        obtain ⟨b', o', w', d1, d2⟩ := ig.at (k := k) (by simpa using hk)
        simp only [List.getElem_map] at f2 d2
        simp only [C_ops, C_cond, D_skip, normal_some, cond_tt, cond_ff, E_nil, E_cons, next_some, ev_tmp, ev_const, get_succ, get_zero, List.set_cons_succ, List.set_cons_zero, O_mv, O_bin, pairO, O_len, O_atRow, O_load, load_ptr, B_add, B_lss, Bool.not_true, W_some, W_seq, W_block, Q_cont_normal, Q_block_normal, Option.map_some, Bool.bne_true, O_eqAgg, Q_for_normal, le, hk1, decide_true, f1, f2, d1, d2, eqAgg_ev_self, wrap_nat (k := k) (by omega)]
        exact junk rfl
      · rintro st ⟨j, rfl⟩
        have hk1 : ¬ ((O1.evs.length : Int) < (O1.evs.length : Int)) := by omega
        simp only [C_ops, C_cond, D_exit, D_ret, normal_some, cond_ff, E_nil, E_cons, next_some, ev_tmp, ev_const, get_succ, get_zero, List.set_cons_succ, List.set_cons_zero, O_mv, O_bin, pairO, O_len, B_lss, W_some, W_seq, Q_cont_normal, Q_cont_exit, Q_block_exit, Q_for_exit, le, hk1, decide_false]
        rw [Q_pre (pH3.more _) _ _ _ rfl]; rfl
      · exact junk rfl
theorem uirLocal_law (h : Heap) (us : List Value) (hu : TypedAs h [(false, [(.slice 120 (List.replicate 10 (.int .i64) ++ List.replicate 3 .bool ++ List.replicate 3 (.int .i64) ++ [.bool]))]), (true, (List.replicate 8 (.int .i64))), (false, [(.slice 8 [(.int .i64)])])] us) : ∃ h', DF FF n_belatedlaw3_UirLocal us h = some (.bool true, h') :=
  match us, hu with
  | [a, b, c], ⟨h0, h1, h2, _⟩ =>
    let ⟨code, hc, hb, wI⟩ := typed_codeW h0
    let ⟨R, hR, hR8, wR⟩ := typed_regsW h1
    let ⟨rd, hv, hvb, wrd⟩ := typed_intSW h2
    ⟨h, by rw [hR]; exact law_UirLocal hc hb hR8 hv hvb wR wrd wI⟩
end Go.Proofs.Ytjodnadlplicmaa.AM
