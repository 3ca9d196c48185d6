/-
  The flow law on runs.
  Conditions: none.
-/
import Derived.Test.YtoeoahpngmhkdaaFd1
import Derived.Test.YtoeoahpngmhkdaaFb4
namespace Go.Proofs.Ytoeoahpngmhkdaa.AM
open Go.RowKit
set_option linter.unusedSimpArgs false
set_option linter.unusedVariables false

def mkS (h : Heap) (size bytes : Nat) (z : List Value) : Value → Option (Value × Heap)
  | .int _ k => if 0 ≤ k ∧ k * bytes ≤ roomFor then some (slc h.length 0 0 k.toNat size, h ++ [.cells (zeros z k.toNat) 0 false]) else none
  | _ => none
theorem O_mkS {call : Caller} (ρ : Operand → Value) (h : Heap) (size bytes : Nat) (z : List Value) (n : Operand) : evOp call ρ h (.mkSlice size bytes z n) = mkS h size bytes z (ρ n) := rfl
theorem mkS_8 (h : Heap) : mkS h 1 8 [.int .i64 0] (.int .i64 8) = some (.slice (some ⟨h.length, 0, some 0⟩) 8 1, h ++ [.cells (List.replicate 8 (.int .i64 0)) 0 false]) := by
  show (if (0 : Int) ≤ 8 ∧ (8 : Int) * ((8 : Nat) : Int) ≤ ((roomFor : Nat) : Int) then some (slc h.length 0 0 (8 : Int).toNat 1, h ++ [.cells (zeros [.int .i64 0] (8 : Int).toNat) 0 false]) else none) = _
  rw [if_pos (by unfold roomFor; omega)]; rfl
theorem w_nat2 {n : Nat} (h : n < 256) : W (n : Int) := by unfold W; omega
def anyP (L : List (List Int)) (p : List Int) : Bool := L.any fun l => l == p
theorem anyP_succ {L : List (List Int)} {p : List Int} {k : Nat} (hk : k < L.length) : anyP (L.take (k + 1)) p = (anyP (L.take k) p || L[k] == p) := by
  unfold anyP; rw [List.take_succ_eq_append_getElem hk, List.any_append]; simp
theorem evL_8 (e : Ev) : (evL e)[8]? = some (.int .i64 e.old) := rfl
set_option maxHeartbeats 8000000 in
set_option maxRecDepth 20000 in
theorem law_FlowRuns {code : List Ins} {c : Value} {h : Heap} (hc : InsSl h c code) (hb : code.length * 120 ≤ roomFor) {R : List Int} (hR : R.length = 8) {s : Value} {rd : List Int} (hs : IntS h s rd) (hv : rd.length * 8 ≤ roomFor) :
    DF FF n_belatedlaw10_FlowRuns [c, agg (regsL R), s] h = some (.bool true, h) := by
  refine fun_wpU F_belatedlaw10_FlowRuns ?_
  have r8 : (regsL R).length = 8 := by rw [regsL_len, hR]
  have pB : Pre h (h ++ [.cells (regsL R) 0 false]) := (Pre.refl h).more _
  have hcB := hc.more [.cells (regsL R) 0 false]
  have hsB := hs.more [.cells (regsL R) 0 false]
  cases hr : rightC code
  · simp only [c_belatedlaw10_FlowRuns, C_ops, C_cond, D_ret, D_skip, normal_some, cond_tt, cond_ff, E_nil, E_cons, E_guard, next_some, guard_ft, ev_tmp, ev_const, get_succ, get_zero, List.set_cons_succ, List.set_cons_zero, O_mv, O_pick, pickO, pairO, O_un, O_call, List.map_cons, List.map_nil, U_not, List.cons_append, List.nil_append, List.length_cons, List.length_nil, Nat.reduceAdd, Nat.reduceSub, Nat.zero_add, Bool.not_true, Bool.not_false, W_some, W_seq, Q_cont_normal, Q_cont_ret, O_box, fillU_zero, fillU_succ, List.append_assoc, eq_self, laid_agg, box_some, r8, law_able_c, law_right_c hcB hb, hr]
    rw [Q_more _ _ _ _ _ rfl]; rfl
  · by_cases g2 : (100 : Int) < (rd.length : Int)
    · simp only [c_belatedlaw10_FlowRuns, C_ops, C_cond, D_ret, D_skip, normal_some, cond_tt, cond_ff, E_nil, E_cons, E_guard, next_some, guard_ff, ev_tmp, ev_const, get_succ, get_zero, List.set_cons_succ, List.set_cons_zero, O_mv, O_pick, pickO, O_bin, pairO, O_un, O_call, List.map_cons, List.map_nil, O_len, B_gtr, U_not, List.cons_append, List.nil_append, List.length_cons, List.length_nil, Nat.reduceAdd, Nat.reduceSub, Nat.zero_add, Bool.not_true, W_some, W_seq, Q_cont_normal, Q_cont_ret, O_box, fillU_zero, fillU_succ, List.append_assoc, eq_self, laid_agg, box_some, r8, law_able_c, law_right_c hcB hb, hr, hs.len, g2, decide_true]
      rw [Q_more _ _ _ _ _ rfl]; rfl
    · have rc := rightC_rc hr
      have h8 := rc.len
      obtain ⟨s1, K1, s2, K2, evs, path, H', a1, a2, p1, p2, a3, a4⟩ := run_c hcB hsB (by omega) (by omega) hR
      have o8 := outV_R8 (code := code) (rd := rd) hR
      obtain ⟨H2, w1, w2, p3, oa, ob, _, _⟩ := a4 (regsL (outV code R rd).R) (by rw [regsL_len, o8])
      have x1 := read_regs hR p1
      have x2 := read_regs hR p2
      have o8' : (regsL (outV code R rd).R).length = 8 := by rw [regsL_len, o8]
      simp only [List.append_assoc, List.cons_append, List.nil_append, List.length_append, List.length_cons, List.length_nil, Nat.zero_add, Nat.add_assoc, Nat.reduceAdd] at a1 a2 w1 w2
      have pH : Pre h H2 := pB.trans p3
      rcases outV_good (code := code) (R := R) (rd := rd) with ⟨q1, q2, q3⟩ | ⟨q1, _, t, ht, q2, g, gpc⟩
      · have e1 : ((outV code R rd).e != 0) = true := by simp [q1]
        simp only [c_belatedlaw10_FlowRuns, C_ops, C_cond, D_ret, D_skip, normal_some, cond_tt, cond_ff, E_nil, E_cons, E_guard, next_some, next_none, guard_ff, ev_tmp, ev_const, get_succ, get_zero, List.set_cons_succ, List.set_cons_zero, O_mv, O_pick, pickO, O_bin, pairO, O_un, O_call, List.map_cons, List.map_nil, O_len, O_load, load_ptr, O_mkRow, mk_some, partsV_nil, zeros_zero, fill_nil, B_neq, B_gtr, U_not, List.cons_append, List.nil_append, List.length_cons, List.length_nil, Nat.reduceAdd, Nat.reduceSub, Nat.zero_add, Bool.not_true, W_some, W_seq, Q_cont_normal, Q_cont_ret, slc, O_append, O_alloc, O_box, O_extract, extract_tup, wrote_some, O_store, store_agg, read_skip0, read_there, fillU_zero, fillU_succ, List.append_assoc, List.length_append, Option.map_some, List.getElem?_cons_zero, List.getElem?_cons_succ, eq_self, laid_agg, box_some, O_again, again_agg, r8, law_able_c, law_right_c hcB hb, hr, hs.len, g2, decide_false, List.length_replicate, Nat.reduceAdd, a1, x1, a2, x2, a3, w1, o8', e1]
        rw [Q_pre pH _ _ _ rfl]; rfl
      · have e1 : ((outV code R rd).e != 0) = false := by rw [q1]; rfl
        obtain ⟨c3, H3, y1, y2, y3⟩ := copy_c (bytes := 120) (hc.pre pH) (by rw [List.length_map]; exact hb)
        obtain ⟨v, H4, v1, v2, v3⟩ := flow_Paths_c (h := H3) (c := c3) (code := code) y2.sl hr
        have p24 : Pre H2 H4 := y3.trans v3
        have pH4 : Pre h H4 := pH.trans p24
        have hpath : (outV code R rd).path = t.path := by rw [q2]
        have hevs : (outV code R rd).evs = t.evs := by rw [q2]
        have hRR : (outV code R rd).R = t.R := by rw [q2]
        have lpc : t.path.length ≤ code.length := Nat.le_trans g.len gpc
        rw [hRR] at w2 o8
        have ip : IntS H4 path t.path := by
          have : IntS H2 path t.path := by have := oa.sl; rw [hpath] at this; exact this
          exact this.pre p24
        have ie : Sl H4 evs 15 (t.evs.map evL) := by
          have : Sl H2 evs 15 (t.evs.map evL) := by have := ob.sl; rw [hevs] at this; exact this
          exact this.pre p24
        have lp : ∀ K, lenO K path = some (.int .i64 (t.path.length : Int), K) := ip.len
        have le : ∀ K, lenO K evs = some (.int .i64 (t.evs.length : Int), K) := fun K => by rw [Sl.len ie, List.length_map]
        have hin : t.path ∈ pathsN code 9 0 := by
          have h0 : runV code 9 (startV R rd) = some t := by
            rw [← ht]; exact runV_enough rc.fwd 9 code.length _ (by simp [startV]; omega) (by simp [startV])
          obtain ⟨l, hl1, hl2⟩ := run_path rc.fwd 9 (by simp [startV]; omega) h0
          rw [hl2]; exact hl1
        have hN1 := pathsN_many code 9 0
        have hlong : ∀ i (hi : i < (pathsN code 9 0).length), (pathsN code 9 0)[i].length ≤ 9 := fun i hi => pathsN_long code 9 0 _ (List.getElem_mem hi)
        have hfound : anyP (pathsN code 9 0) t.path = true := by
          unfold anyP; rw [List.any_eq_true]; exact ⟨_, hin, by simp⟩
        have n8 := names_8 hin h8
        have hon : ∀ K, Pre H4 K → On K c path code t.path (insOf code t.path) := fun K p => On.of (hc.pre (pH4.trans p)) (ip.pre p) hin h8
        have epos : ∀ e ∈ t.evs, ∃ p : Nat, e.pos = (p : Int) ∧ p < 8 := fun e he => by
          obtain ⟨p, m, h1, _, h3, _⟩ := g.evr e he
          have := (List.getElem?_eq_some_iff.1 h3).1
          exact ⟨p, h1, by omega⟩
        have olds := olds_at t.evs (fun e he => by obtain ⟨p, h1, h2⟩ := epos e he; omega) g.evi
        have leu : t.evs.length ≤ 8 := by
          have key : ∀ k (hk : k < t.evs.length), (k : Int) ≤ t.evs[k].pos := by
            intro k
            induction k with
            | zero => intro hk; obtain ⟨p, hp1, _⟩ := epos t.evs[0] (List.getElem_mem _); omega
            | succ k ih =>
              intro hk
              have := ih (by omega)
              have := List.pairwise_iff_getElem.1 g.evi k (k + 1) (by omega) hk (by omega)
              omega
          have h1 : t.evs.length ≤ 8 ∨ 8 < t.evs.length := by omega
          rcases h1 with h1 | h1
          · exact h1
          · have := key 8 h1
            obtain ⟨p, hp1, hp2⟩ := epos t.evs[8] (List.getElem_mem _)
            omega
        have knlt : ∀ k, knF (t.evs.take k) < 256 := fun k => knF_lt _ fun e he => by
          obtain ⟨p, h1, h2⟩ := epos e (List.mem_of_mem_take he); omega
        have flows : Flows (insOf code t.path) R (oldsF t.evs) (knF t.evs : Nat) t := by
          refine Flows.run rc.fwd (fun i hi => by obtain ⟨k, hk, rfl⟩ := List.mem_iff_getElem.1 hi; exact okI_kind (rightV_ok (rc.all k hk))) (fun e he hr => ?_) code.length ht (by exact hR) (Flows.start _ _ _ _ _)
          obtain ⟨p, hp1, hp2⟩ := epos e he
          obtain ⟨u1, u2⟩ := olds e he hr
          have hk := knlt t.evs.length
          rw [List.take_length] at hk
          rw [hp1, Int.toNat_natCast] at u1 u2 ⊢
          exact ⟨by rw [oldsF_len]; exact hp2, u1, by rw [bi_at (w_nat2 hk) (by omega), bi_nat _ (by omega)]; exact u2⟩
        generalize pathsN code 9 0 = L at v2 hN1 hlong hfound
        have hN1 : L.length ≤ 512 := hN1
        have lenV := v2.len
        simp only [c_belatedlaw10_FlowRuns, C_ops, C_cond, D_skip, normal_some, cond_ff, E_nil, E_cons, E_guard, next_some, next_none, guard_ff, ev_tmp, ev_const, get_succ, get_zero, List.set_cons_succ, List.set_cons_zero, O_mv, O_pick, pickO, O_bin, pairO, O_un, O_call, List.map_cons, List.map_nil, O_len, O_load, load_ptr, O_mkRow, mk_some, partsV_nil, zeros_zero, fill_nil, B_neq, B_gtr, U_not, List.cons_append, List.nil_append, List.length_cons, List.length_nil, Nat.reduceAdd, Nat.reduceSub, Nat.zero_add, Bool.not_true, W_some, W_seq, W_block, Q_cont_normal, slc, O_append, O_alloc, O_box, O_extract, extract_tup, wrote_some, O_store, store_agg, read_skip0, read_there, fillU_zero, fillU_succ, List.append_assoc, List.length_append, Option.map_some, List.getElem?_cons_zero, List.getElem?_cons_succ, eq_self, laid_agg, box_some, O_again, again_agg, r8, law_able_c, law_right_c hcB hb, hr, hs.len, g2, decide_false, List.length_replicate, Nat.reduceAdd, a1, x1, a2, x2, a3, w1, o8', e1, y1, v1]
        clear a1 a2 a3 a4 w1 x1 x2 y1 v1
        refine for_wp L.length (fun k st => ∃ j : Nat → Value, st = ⟨[c, j 1, j 2, j 3, .pointer (some ⟨h.length, 0, some 0⟩), j 5, j 6, .pointer (some ⟨h.length + 3, 0, some 0⟩), evs, path, j 10, .bool (anyP (L.take k) t.path), v, .int .i64 (k : Int), j 14, j 15, j 16, j 17, j 18, j 19, j 20, j 21, j 22, j 23, j 24, j 25, j 26, j 27, j 28, j 29, j 30, j 31, j 32, j 33, j 34, j 35, j 36, j 37, j 38, j 39, j 40, j 41, j 42, j 43, j 44, j 45, j 46, j 47, j 48, j 49, j 50, j 51, j 52, j 53, j 54, j 55, j 56, j 57, j 58, j 59, j 60, j 61, j 62, j 63, j 64, j 65, j 66, j 67, j 68, j 69, j 70, j 71, j 72, j 73, j 74, j 75, j 76, j 77, j 78, j 79, j 80, j 81, j 82, j 83, j 84, j 85, j 86, j 87, j 88, j 89, j 90, j 91, j 92, j 93, j 94, j 95, j 96, j 97, j 98, j 99, j 100, j 101, j 102, j 103, j 104, j 105, j 106, j 107, j 108, j 109, j 110, j 111, j 112, j 113, j 114, j 115, j 116, j 117, j 118, j 119, j 120, j 121], H4⟩) ?_ ?_ _ ?_
        · rintro k st hk ⟨j, rfl⟩
          have hk1 : (k : Int) < (L.length : Int) := by omega
          obtain ⟨b, o, w, y, d1, d2, d3⟩ := v2.at hk
          have hl9 := hlong k hk
          have ha := anyP_succ (p := t.path) hk
          cases hx : anyP (L.take k) t.path
          · rw [hx, Bool.false_or] at ha
            simp only [C_ops, C_cond, D_skip, normal_some, cond_tt, E_nil, E_cons, E_guard, next_some, guard_ff, ev_tmp, ev_const, get_succ, get_zero, List.set_cons_succ, List.set_cons_zero, O_mv, O_pick, pickO, O_bin, pairO, O_call, List.map_cons, List.map_nil, O_len, O_atRow, O_load1, load1_ptr, B_add, B_lss, W_some, W_seq, W_block, Q_cont_normal, Q_block_normal, Q_for_normal, lenV, hk1, decide_true, d1, d2, law_ints_c d3.sl ip (by omega), wrap_nat (k := k) (by omega)]
            rw [ha]; exact junk rfl
          · rw [hx, Bool.true_or] at ha
            simp only [C_ops, C_cond, D_skip, normal_some, cond_tt, E_nil, E_cons, E_guard, next_some, guard_ft, ev_tmp, ev_const, get_succ, get_zero, List.set_cons_succ, List.set_cons_zero, O_mv, O_pick, pickO, O_bin, pairO, O_len, B_add, B_lss, W_some, W_seq, W_block, Q_cont_normal, Q_block_normal, Q_for_normal, lenV, hk1, decide_true, wrap_nat (k := k) (by omega)]
            rw [ha]; exact junk rfl
        · rintro st ⟨j, rfl⟩
          have hk1 : ¬ ((L.length : Int) < (L.length : Int)) := by omega
          simp only [C_ops, C_cond, D_exit, normal_some, cond_ff, E_nil, E_cons, next_some, ev_tmp, ev_const, get_succ, get_zero, List.set_cons_succ, List.set_cons_zero, O_mv, O_bin, pairO, O_len, B_lss, W_some, W_seq, W_block, Q_cont_normal, Q_cont_exit, Q_block_exit, Q_for_exit, lenV, hk1, decide_false, O_mkS, mkS_8, List.take_length, hfound]
          refine for_wp t.evs.length (fun k st => ∃ (K : Heap) (j : Nat → Value), st = ⟨[c, j 1, j 2, j 3, .pointer (some ⟨h.length, 0, some 0⟩), j 5, j 6, .pointer (some ⟨h.length + 3, 0, some 0⟩), evs, path, j 10, .bool true, j 12, j 13, .slice (some ⟨H4.length, 0, some 0⟩) 8 1, .int .i64 (knF (t.evs.take k) : Nat), .int .i64 (k : Int), j 17, j 18, j 19, j 20, j 21, j 22, j 23, j 24, j 25, j 26, j 27, j 28, j 29, j 30, j 31, j 32, j 33, j 34, j 35, j 36, j 37, j 38, j 39, j 40, j 41, j 42, j 43, j 44, j 45, j 46, j 47, j 48, j 49, j 50, j 51, j 52, j 53, j 54, j 55, j 56, j 57, j 58, j 59, j 60, j 61, j 62, j 63, j 64, j 65, j 66, j 67, j 68, j 69, j 70, j 71, j 72, j 73, j 74, j 75, j 76, j 77, j 78, j 79, j 80, j 81, j 82, j 83, j 84, j 85, j 86, j 87, j 88, j 89, j 90, j 91, j 92, j 93, j 94, j 95, j 96, j 97, j 98, j 99, j 100, j 101, j 102, j 103, j 104, j 105, j 106, j 107, j 108, j 109, j 110, j 111, j 112, j 113, j 114, j 115, j 116, j 117, j 118, j 119, j 120, j 121], K⟩ ∧ Own H4 K (.slice (some ⟨H4.length, 0, some 0⟩) 8 1) 1 ((oldsF (t.evs.take k)).map intR) ∧ Pre H4 K) ?_ ?_ _ ?_
          · rintro k st hk ⟨K, j, rfl, o1, o2⟩
            have hk1 : (k : Int) < (t.evs.length : Int) := by omega
            obtain ⟨b, o, w, f1, f2⟩ := (ie.pre o2).atH (k := k) (by simpa using hk)
            rw [List.getElem_map] at f2
            have f6 := read1_of f2 (evL_6 _)
            have f8 := read1_of f2 (evL_8 _)
            have fp := read1_of f2 (evL_1 _)
            obtain ⟨p, hp, hp8⟩ := epos _ (List.getElem_mem hk)
            rw [hp] at fp
            have htk := List.take_succ_eq_append_getElem hk
            cases hb : t.evs[k].reads
            · rw [hb] at f6
              simp only [C_ops, C_cond, D_skip, normal_some, cond_tt, cond_ff, E_nil, E_cons, next_some, ev_tmp, ev_const, get_succ, get_zero, List.set_cons_succ, List.set_cons_zero, O_mv, O_bin, pairO, O_len, O_atRow, O_load1, load1_ptr, B_add, B_lss, W_some, W_seq, W_block, Q_cont_normal, Q_block_normal, O_off, off_ptr, Q_for_normal, le, hk1, decide_true, f1, f6, wrap_nat (k := k) (by omega)]
              refine ⟨K, ?_⟩
              rw [htk, oldsF_snoc, knF_snoc, hb, if_neg (by simp), if_neg (by simp)]
              exact junkA rfl ⟨o1, o2⟩
            · rw [hb] at f6
              obtain ⟨b2, ver, K', z1, z2, z3, z4, _⟩ := o1.putI o2 (k := p) (by rw [oldsF_len]; exact hp8) t.evs[k].old
              have hor := or_nat (knlt k) (pow_lt8 hp8)
              obtain ⟨b3, o3, w3, f1', f2'⟩ := (ie.pre z4).atH (k := k) (by simpa using hk)
              rw [List.getElem_map] at f2'
              have hE := (f1' []).symm.trans (f1 [])
              simp only [Option.some.injEq, Prod.mk.injEq, Value.pointer.injEq, Addr.mk.injEq, and_true] at hE
              obtain ⟨rfl, rfl, rfl⟩ := hE
              have fp' := read1_of f2' (evL_1 _)
              rw [hp] at fp'
              simp only [C_ops, C_cond, D_skip, normal_some, cond_tt, E_nil, E_cons, next_some, next_none, ev_tmp, ev_const, get_succ, get_zero, List.set_cons_succ, List.set_cons_zero, O_mv, O_bin, pairO, O_len, O_atRow, O_load1, load1_ptr, B_add, B_bor, B_lss, B_shl', W_some, W_seq, W_block, Q_cont_normal, Q_block_normal, O_off, off_ptr, wrote_some, O_store1, store1_int, Q_for_normal, le, hk1, decide_true, f1, f6, f8, fp, fp', z1, z2, shl_nat hp8, Int.natCast_nonneg, hor, wrap_nat (k := k) (by omega)]
              refine ⟨K', ?_⟩
              rw [htk, oldsF_snoc, knF_snoc, hb, if_pos rfl, if_pos rfl, hp, Int.toNat_natCast]
              exact junkA rfl ⟨z3, z4⟩
          · rintro st ⟨K, j, rfl, o1, o2⟩
            have hk1 : ¬ ((t.evs.length : Int) < (t.evs.length : Int)) := by omega
            rw [List.take_length] at o1
            simp only [C_ops, C_cond, D_exit, normal_some, cond_ff, E_nil, E_cons, next_some, ev_tmp, ev_const, get_succ, get_zero, List.set_cons_succ, List.set_cons_zero, O_mv, O_bin, pairO, O_len, B_lss, W_some, W_seq, W_block, Q_cont_normal, Q_cont_exit, Q_block_exit, Q_for_exit, le, hk1, decide_false, List.take_length]
            have on := hon K o2
            have rg := read_regs hR (p3.trans (p24.trans o2))
            have kO := (p24.trans o2).kept _ _ w2
            have tR : t.R.length = 8 := o8
            refine for_wp 8 (fun r st => ∃ j : Nat → Value, st = ⟨[c, j 1, j 2, j 3, .pointer (some ⟨h.length, 0, some 0⟩), j 5, j 6, .pointer (some ⟨h.length + 3, 0, some 0⟩), j 8, path, j 10, .bool true, j 12, j 13, .slice (some ⟨H4.length, 0, some 0⟩) 8 1, .int .i64 (knF t.evs : Nat), j 16, .int .i64 (r : Int), j 18, j 19, j 20, j 21, j 22, j 23, j 24, j 25, j 26, j 27, j 28, j 29, j 30, j 31, j 32, j 33, j 34, j 35, j 36, j 37, j 38, j 39, j 40, j 41, j 42, j 43, j 44, j 45, j 46, j 47, j 48, j 49, j 50, j 51, j 52, j 53, j 54, j 55, j 56, j 57, j 58, j 59, j 60, j 61, j 62, j 63, j 64, j 65, j 66, j 67, j 68, j 69, j 70, j 71, j 72, j 73, j 74, j 75, j 76, j 77, j 78, j 79, j 80, j 81, j 82, j 83, j 84, j 85, j 86, j 87, j 88, j 89, j 90, j 91, j 92, j 93, j 94, j 95, j 96, j 97, j 98, j 99, j 100, j 101, j 102, j 103, j 104, j 105, j 106, j 107, j 108, j 109, j 110, j 111, j 112, j 113, j 114, j 115, j 116, j 117, j 118, j 119, j 120, j 121], K⟩) ?_ ?_ _ ?_
            · rintro r st hr8 ⟨j, rfl⟩
              have hr1 : (r : Int) < 8 := by omega
              have fV := flow_Value_c (kn := ((knF t.evs : Nat) : Int)) n8 hR (vals := oldsF t.evs) (by rw [oldsF_len]; omega) _ (t.path.length : Int) (cap_le _ _) (r : Int) _ K on o1.sl
              rw [flows _ (cap_le _ _) r hr8] at fV
              unfold tupV at fV
              have ar := fun K => arr_nat (len := 8) (size := 1) (b := h.length + 3) (o := 0) (s := some 0) (kk := .i64) K hr8
              have rr := rs_at (j := r) kO
              rw [regsL_get (by rw [tR]; exact hr8)] at rr
              have sm : (t.R.getD r 0 != t.R.getD r 0) = false := by simp
              simp only [C_ops, C_cond, D_skip, normal_some, cond_tt, cond_ff, E_nil, E_cons, E_guard, next_some, guard_ff, ev_tmp, ev_const, get_succ, get_zero, List.set_cons_succ, List.set_cons_zero, O_mv, O_pick, pickO, O_bin, pairO, O_un, O_call, List.map_cons, List.map_nil, O_len, O_load1, load1_ptr, O_load, load_ptr, B_add, B_neq, B_lss, U_not, Nat.zero_add, Bool.not_true, W_some, W_seq, W_block, Q_cont_normal, Q_block_normal, O_atArr, O_extract, extract_tup, Nat.mul_one, Option.map_some, List.getElem?_cons_zero, List.getElem?_cons_succ, Q_for_normal, hr1, decide_true, rg, lp, fV, ar, rr, sm, wrap_nat (k := r) (by omega)]
              exact junk rfl
            · rintro st ⟨j, rfl⟩
              have n8' : ((8 : Nat) : Int) = 8 := rfl
              have h88 : ¬ ((8 : Int) < 8) := by omega
              simp only [C_ops, C_cond, D_exit, D_ret, normal_some, cond_ff, E_nil, E_cons, next_some, ev_tmp, ev_const, get_succ, get_zero, List.set_cons_succ, List.set_cons_zero, O_mv, O_bin, pairO, B_lss, W_some, W_seq, Q_cont_normal, Q_cont_exit, Q_block_exit, Q_for_exit, n8', h88, decide_false]
              rw [Q_pre (pH4.trans o2) _ _ _ rfl]; rfl
            · exact junk rfl
          · refine ⟨_, junkA rfl ⟨⟨.inr ⟨H4.length, 0, Nat.le_refl _, rfl, ?_⟩, by intro r hr; simp only [List.mem_map] at hr; obtain ⟨y, _, rfl⟩ := hr; rfl⟩, (Pre.refl H4).more _⟩⟩
            simp [oldsF, intR]
        · exact junk rfl
theorem flowRuns_law (h : Heap) (us : List Value) (hu : TypedAs h [(false, [(.slice 120 (List.replicate 10 (.int .i64) ++ List.replicate 3 .bool ++ List.replicate 3 (.int .i64) ++ [.bool]))]), (true, (List.replicate 8 (.int .i64))), (false, [(.slice 8 [(.int .i64)])])] us) : ∃ h', DF FF n_belatedlaw10_FlowRuns us h = some (.bool true, h') :=
  match us, hu with
  | [a, b, c], ⟨h0, h1, h2, _⟩ =>
    let ⟨code, hc, hb⟩ := typed_code h0
    let ⟨R, hR, hR8⟩ := typed_regs h1
    let ⟨rd, hv, hvb⟩ := typed_intS h2
    ⟨h, by rw [hR]; exact law_FlowRuns hc hb hR8 hv hvb⟩
end Go.Proofs.Ytoeoahpngmhkdaa.AM
