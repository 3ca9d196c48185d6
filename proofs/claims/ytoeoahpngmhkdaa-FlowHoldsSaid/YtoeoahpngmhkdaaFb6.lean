/-
  The flow law on what a value needs.
  Conditions: none.
-/
import Derived.Test.YtoeoahpngmhkdaaFb5
namespace Go.Proofs.Ytoeoahpngmhkdaa.AM
open Go.RowKit
set_option linter.unusedSimpArgs false
set_option linter.unusedVariables false

/-- The first k values that A has not are x. -/
def setK (A : Nat) (x : Int) (vals : List Int) : Nat → List Int
  | 0 => vals
  | j + 1 => if A.testBit j then setK A x vals j else (setK A x vals j).set j x
theorem setK_len (A : Nat) (x : Int) (vals : List Int) : ∀ j, (setK A x vals j).length = vals.length
  | 0 => rfl
  | j + 1 => by
    unfold setK; split
    · exact setK_len A x vals j
    · rw [List.length_set]; exact setK_len A x vals j
theorem setK_get (A : Nat) (x : Int) (vals : List Int) {d : Nat} (hd : A.testBit d = true) : ∀ j, (setK A x vals j).getD d 0 = vals.getD d 0
  | 0 => rfl
  | j + 1 => by
    unfold setK; split
    · exact setK_get A x vals hd j
    · rename_i hn
      have : j ≠ d := by rintro rfl; exact hn hd
      rw [List.getD_eq_getElem?_getD, List.getElem?_set_ne this, ← List.getD_eq_getElem?_getD]
      exact setK_get A x vals hd j
theorem RC.good {code : List Ins} (e : RC code) : ∀ i ∈ code, GoodI i := by
  intro i hi
  obtain ⟨k, hk, rfl⟩ := List.mem_iff_getElem.1 hi
  exact okI_good (rightV_ok (e.all k hk))
theorem names_good {code : List Ins} {l : List Int} {f k : Nat} (hl : l ∈ pathsN code f k) (rc : RC code) : ∀ i ∈ insOf code l, GoodI i := by
  intro i hi
  simp only [insOf, List.mem_map] at hi
  obtain ⟨x, hx, rfl⟩ := hi
  obtain ⟨m, rfl, hm⟩ := (pathsN_in code f k l hl).2 x hx
  rw [Int.toNat_natCast, List.getD_eq_getElem?_getD, List.getElem?_eq_getElem hm]
  exact rc.good _ (List.getElem_mem _)
theorem cell_read {H K : Heap} {l : List Value} {k : Nat} {v : Value} (p : Pre (H ++ [.cells l 0 false]) K) (e : l[k]? = some v) : Heap.read1 K ⟨H.length, k, some 0⟩ = some v := by
  obtain ⟨L, rfl⟩ := p
  rw [List.append_assoc]
  simp [Heap.read1, e]
theorem and0 (u : Int) (hu : W u) {k : Nat} (hk : k < 64) : (Go.bits .and .i64 (shr .i64 u (k : Int)) 1 == 0) = !(bi u k) := by rw [kn0, bi_at hu hk]
theorem w_nat {n : Nat} (h : n < 256) : W (n : Int) := by unfold W; omega
/-- A read or a write on a path: its address's reads are all that its index needs. -/
theorem holds_plain {code : List Ins} {l R vals : List Int} {f : Nat} (hl : l ∈ pathsN code f 0) (rc : RC code) (hv : 8 ≤ vals.length) (kn x : Int) (hkn : W kn) {n : Nat} (hn : n < (insOf code l).length) (hm : memV (insOf code l)[n] = true) (A : Nat) (hA : A = addrV (insOf code l) (n : Int)) :
    (valueP (insOf code l) R vals (Go.bits .or .i64 kn (A : Int)) (n : Int) (insOf code l)[n].index).2 = true ∧
    valueP (insOf code l) R vals (Go.bits .or .i64 kn (A : Int)) (n : Int) (insOf code l)[n].index = valueP (insOf code l) R (setK A x vals 8) (A : Int) (n : Int) (insOf code l)[n].index := by
  have h8 := names_8 hl rc.len
  have e1 : addrV (insOf code l) (n : Int) = hangP (insOf code l) n (insOf code l)[n].index := by
    unfold addrV; rw [atP_in hn, hm]; rfl
  have hlt : A < 256 := by rw [hA, e1]; exact hangP_lt h8 _ _
  have good := names_good hl rc
  refine value_holds (R := R) good h8 hv (by rw [setK_len]; exact hv) A (fun d hd ht => ⟨?_, ?_, ?_⟩) _ _ _ (cap_le _ _) ((good _ (List.getElem_mem hn)).2.2 hm) (fun d hd => ?_)
  · rw [bi_at (W_bits _ _ _) (by omega), b_or, bi_nat A (by omega), ht, Bool.or_true]
  · rw [bi_at (w_nat hlt) (by omega), bi_nat A (by omega), ht]
  · rw [setK_get A x vals ht]
  · rw [hA, e1]; exact hd
set_option maxHeartbeats 4000000 in
set_option maxRecDepth 20000 in
theorem law_FlowHolds {code : List Ins} {c : Value} {h : Heap} (e : InsSl h c code) (hb : code.length * 120 ≤ roomFor) (i : Int) (hi : W i) (R : List Int) (hR : R.length = 8) (place kn x : Int) (hkn : W kn) {s : Value} {vals : List Int} (hs : IntS h s vals) (hv : vals.length * 8 ≤ roomFor) :
    DF FF n_belatedlaw10_FlowHolds [c, .int .i64 i, agg (regsL R), .int .i64 place, s, .int .i64 kn, .int .i64 x] h = some (.bool true, h) := by
  refine fun_wpU F_belatedlaw10_FlowHolds ?_
  have e' := e.more [.cells (regsL R) 0 false]
  have hs' := hs.more [.cells (regsL R) 0 false]
  have hvl : vals.length < 4611686018427387904 := by unfold roomFor at hv; omega
  cases hr : rightC code
  · simp only [c_belatedlaw10_FlowHolds, C_ops, C_cond, D_ret, D_skip, normal_some, cond_tt, cond_ff, E_nil, E_cons, E_guard, next_some, guard_ft, ev_tmp, ev_const, get_succ, get_zero, List.set_cons_succ, List.set_cons_zero, O_mv, O_pick, pickO, pairO, O_un, O_call, List.map_cons, List.map_nil, U_not, List.cons_append, List.nil_append, List.length_cons, List.length_nil, Nat.reduceAdd, Nat.reduceSub, Nat.zero_add, Bool.not_true, Bool.not_false, W_some, W_seq, Q_cont_normal, Q_cont_ret, O_box, fillU_zero, fillU_succ, List.append_assoc, eq_self, laid_agg, box_some, regsL_len, hR, law_able_c, law_right_c e' hb, hr]
    rw [Q_more _ _ _ _ _ rfl]; rfl
  · by_cases h7 : (vals.length : Int) < 8
    · simp only [c_belatedlaw10_FlowHolds, C_ops, C_cond, D_ret, D_skip, normal_some, cond_tt, cond_ff, E_nil, E_cons, E_guard, next_some, guard_ff, guard_ft, ev_tmp, ev_const, get_succ, get_zero, List.set_cons_succ, List.set_cons_zero, O_mv, O_pick, pickO, O_bin, pairO, O_un, O_call, List.map_cons, List.map_nil, O_len, B_lss, U_not, List.cons_append, List.nil_append, List.length_cons, List.length_nil, Nat.reduceAdd, Nat.reduceSub, Nat.zero_add, Bool.not_true, W_some, W_seq, Q_cont_normal, Q_cont_ret, O_box, fillU_zero, fillU_succ, List.append_assoc, eq_self, laid_agg, box_some, regsL_len, hR, law_able_c, law_right_c e' hb, hr, hs.len, h7, decide_true]
      rw [Q_more _ _ _ _ _ rfl]; rfl
    · by_cases h100 : (100 : Int) < (vals.length : Int)
      · simp only [c_belatedlaw10_FlowHolds, C_ops, C_cond, D_ret, D_skip, normal_some, cond_tt, cond_ff, E_nil, E_cons, E_guard, next_some, guard_ff, ev_tmp, ev_const, get_succ, get_zero, List.set_cons_succ, List.set_cons_zero, O_mv, O_pick, pickO, O_bin, pairO, O_un, O_call, List.map_cons, List.map_nil, O_len, B_lss, B_gtr, U_not, List.cons_append, List.nil_append, List.length_cons, List.length_nil, Nat.reduceAdd, Nat.reduceSub, Nat.zero_add, Bool.not_true, W_some, W_seq, Q_cont_normal, Q_cont_ret, O_box, fillU_zero, fillU_succ, List.append_assoc, eq_self, laid_agg, box_some, regsL_len, hR, law_able_c, law_right_c e' hb, hr, hs.len, h7, h100, decide_true, decide_false]
        rw [Q_more _ _ _ _ _ rfl]; rfl
      · have rc := rightC_rc hr
        obtain ⟨v, H1, p1, ⟨l, hl, p2⟩, p3⟩ := law_path_c e' rc i hi
        have h8 := rc.len
        have hlen := (pathsN_in code 9 0 l hl).1
        have n8 := names_8 hl h8
        have n1 := names_one hl rc
        have ph0 : Pre h (h ++ [.cells (regsL R) 0 false]) := (Pre.refl h).more _
        have ph1 : Pre h H1 := ph0.trans p3
        have eC : InsSl H1 c code := e'.pre p3
        have on : On H1 c v code l (insOf code l) := On.of eC p2.sl hl h8
        rcases at_cases (insOf code l) place with ho | ⟨n, rfl, hn⟩
        · have c1 : (decide (place < 0) || decide (((insOf code l).length : Int) ≤ place)) = true := by simpa using ho
          have a0 : addrV (insOf code l) place = 0 := atP_out ho _
          have d0 : dataV (insOf code l) place = 0 := atP_out ho _
          by_cases hp : place < 0
          · simp only [c_belatedlaw10_FlowHolds, C_ops, C_cond, D_ret, D_skip, normal_some, cond_tt, cond_ff, E_nil, E_cons, E_guard, next_some, guard_tt, guard_ff, guard_ft, guard_tu, ev_tmp, ev_const, get_succ, get_zero, List.set_cons_succ, List.set_cons_zero, O_mv, O_pick, pickO, O_bin, pairO, O_un, O_call, List.map_cons, List.map_nil, O_len, B_eql, B_lss, B_gtr, U_not, List.cons_append, List.nil_append, List.length_cons, List.length_nil, Nat.reduceAdd, Nat.reduceSub, Nat.zero_add, Bool.not_true, W_some, W_seq, Q_cont_normal, Q_cont_ret, O_box, fillU_zero, fillU_succ, List.append_assoc, beq_self_eq_true, eq_self, laid_agg, box_some, regsL_len, hR, law_able_c, law_right_c e' hb, hr, hs.len, h7, h100, decide_true, decide_false, p1, hp, flow_Addr_c n8 on, flow_Data_c n8 on, a0, d0, Int.natCast_zero]
            rw [Q_pre ph1 _ _ _ rfl]; rfl
          · have ho' : ((insOf code l).length : Int) ≤ place := by omega
            simp only [c_belatedlaw10_FlowHolds, C_ops, C_cond, D_ret, D_skip, normal_some, cond_tt, cond_ff, E_nil, E_cons, E_guard, next_some, guard_tt, guard_ff, guard_ft, guard_tu, ev_tmp, ev_const, get_succ, get_zero, List.set_cons_succ, List.set_cons_zero, O_mv, O_pick, pickO, O_bin, pairO, O_un, O_call, List.map_cons, List.map_nil, O_len, B_eql, B_lss, B_gtr, B_geq, U_not, List.cons_append, List.nil_append, List.length_cons, List.length_nil, Nat.reduceAdd, Nat.reduceSub, Nat.zero_add, Bool.not_true, W_some, W_seq, Q_cont_normal, Q_cont_ret, O_box, fillU_zero, fillU_succ, List.append_assoc, beq_self_eq_true, eq_self, laid_agg, box_some, regsL_len, hR, law_able_c, law_right_c e' hb, hr, hs.len, h7, h100, decide_true, decide_false, p1, on.len, hp, ho', flow_Addr_c n8 on, flow_Data_c n8 on, a0, d0, Int.natCast_zero]
            rw [Q_pre ph1 _ _ _ rfl]; rfl
        · obtain ⟨m, b, o, w, b', o', w', hm, r1, r2, r3, r4, r5, r6⟩ := on.rd hn
          have hp : ¬ ((n : Int) < 0) := by omega
          have ho' : ¬ (((insOf code l).length : Int) ≤ (n : Int)) := by omega
          cases hM : memV (insOf code l)[n]
          · have a0 : addrV (insOf code l) (n : Int) = 0 := by unfold addrV; rw [atP_in hn, hM]; rfl
            have hRW : readsV (insOf code l)[n] = false ∧ writesV (insOf code l)[n] = false := by
              unfold memV at hM; simpa using hM
            have d0 : dataV (insOf code l) (n : Int) = 0 := by unfold dataV; rw [atP_in hn, hRW.2]; rfl
            simp only [c_belatedlaw10_FlowHolds, C_ops, C_cond, D_ret, D_skip, normal_some, cond_tt, cond_ff, E_nil, E_cons, E_guard, next_some, guard_tt, guard_ff, ev_tmp, ev_const, get_succ, get_zero, List.set_cons_succ, List.set_cons_zero, O_mv, O_pick, pickO, O_bin, pairO, O_un, O_call, List.map_cons, List.map_nil, O_len, O_atRow, O_load1, load1_ptr, O_load, load_ptr, B_eql, B_lss, B_gtr, B_geq, U_not, List.cons_append, List.nil_append, List.length_cons, List.length_nil, Nat.reduceAdd, Nat.reduceSub, Nat.zero_add, Bool.not_true, Bool.not_false, W_some, W_seq, Q_cont_normal, Q_cont_ret, O_box, fillU_zero, fillU_succ, List.append_assoc, Option.map_some, beq_self_eq_true, eq_self, laid_agg, box_some, regsL_len, hR, law_able_c, law_right_c e' hb, hr, hs.len, h7, h100, decide_false, p1, on.len, hp, ho', r1, r3, r4, r6, uir_Reads_c, uir_Writes_c, hRW, flow_Addr_c n8 on, flow_Data_c n8 on, a0, d0, Int.natCast_zero]
            rw [Q_pre ph1 _ _ _ rfl]; rfl
          · have hgo : readsV (insOf code l)[n] = true ∨ (readsV (insOf code l)[n] = false ∧ writesV (insOf code l)[n] = true) := by
              unfold memV at hM
              cases hrd : readsV (insOf code l)[n]
              · rw [hrd] at hM; exact .inr ⟨rfl, by simpa using hM⟩
              · exact .inl rfl
            have on2 := on.more [.cells (insL (insOf code l)[n]) 0 false]
            have hs1 : IntS H1 s vals := hs'.pre p3
            have hs2 := hs1.more [.cells (insL (insOf code l)[n]) 0 false]
            obtain ⟨s', K, q1, q2, q3⟩ := copy_c (bytes := 8) hs2 (by rw [List.length_map]; exact hv)
            have rg1 := read_regs hR p3
            have rg2 := read_regs hR (p3.more [.cells (insL (insOf code l)[n]) 0 false])
            have hcap := cap_le (insOf code l) (n : Int)
            obtain ⟨A, hA⟩ : ∃ A, A = addrV (insOf code l) (n : Int) := ⟨_, rfl⟩
            have hA256 : A < 256 := by
              rw [hA]; unfold addrV; rw [atP_in hn, hM]; exact hangP_lt n8 _ _
            obtain ⟨g1, g2⟩ := holds_plain (R := R) (vals := vals) hl rc (by omega) kn x hkn hn hM A hA
            have fV := flow_Value_c (kn := Go.bits .or .i64 kn (A : Int)) n8 hR hvl _ (n : Int) hcap (insOf code l)[n].index s _ on2 hs2
            have fA := flow_Addr_c n8 on2 (n : Int)
            rw [← hA] at fA
            unfold valueP at g1 g2
            unfold tupV at fV
            generalize valueF (insOf code l) R vals (Go.bits .or .i64 kn (A : Int)) ((insOf code l).length + 1) (n : Int) (insOf code l)[n].index = X at g1 g2 fV
            have fA0 := flow_Addr_c n8 on (n : Int)
            rw [← hA] at fA0
            simp only [List.append_assoc, List.cons_append, List.nil_append, List.length_append, List.length_cons, List.length_nil, Nat.zero_add] at q1
            have i7 := insL_7 (insOf code l)[n]
            rcases hgo with hx | hx
            all_goals
              simp only [c_belatedlaw10_FlowHolds, C_ops, C_cond, D_skip, normal_some, cond_ff, E_nil, E_cons, E_guard, next_some, next_none, guard_tt, guard_ff, guard_tf, ev_tmp, ev_const, get_succ, get_zero, List.set_cons_succ, List.set_cons_zero, O_mv, O_pick, pickO, O_bin, pairO, O_un, O_call, List.map_cons, List.map_nil, O_len, O_atRow, O_load1, load1_ptr, O_load, load_ptr, O_mkRow, mk_some, partsV_nil, zeros_zero, fill_nil, B_bor, B_lss, B_gtr, B_geq, U_not, List.cons_append, List.nil_append, List.length_cons, List.length_nil, Nat.reduceAdd, Nat.reduceSub, Nat.zero_add, Bool.not_true, Bool.not_false, W_some, W_seq, W_block, Q_cont_normal, slc, O_append, O_alloc, O_box, O_off, off_ptr, O_extract, extract_tup, wrote_some, O_store, store_agg, read1_skip0, read1_there, pre_some, write_skip0, write_there, fillU_zero, fillU_succ, List.append_assoc, List.length_append, Option.map_some, List.getElem?_cons_zero, List.getElem?_cons_succ, eq_self, laid_agg, box_some, regsL_len, hR, law_able_c, law_right_c e' hb, hr, hs.len, h7, h100, decide_false, p1, on.len, hp, ho', r1, r3, r4, r6, insL_len, uir_Reads_c, uir_Writes_c, hx, List.length_replicate, Nat.reduceAdd, fA, fV, rg2, i7, q1, g1]
              refine for_wp 8 (fun j st => ∃ (L : Heap) (u : Nat → Value), st = ⟨[c, u 1, u 2, .int .i64 (n : Int), u 4, u 5, .int .i64 x, u 7, u 8, .pointer (some ⟨h.length, 0, some 0⟩), u 10, u 11, u 12, u 13, u 14, v, .pointer (some ⟨H1.length, 0, some 0⟩), .int .i64 (A : Int), .int .i64 X.1, .bool true, s', .int .i64 (j : Int), u 22, u 23, u 24, u 25, u 26, u 27, u 28, u 29, u 30, u 31, u 32, u 33, u 34, u 35, u 36, u 37, u 38, u 39, u 40, u 41, u 42, u 43, u 44, u 45, u 46, u 47, u 48, u 49, u 50, u 51, u 52, u 53, u 54, u 55, u 56, u 57, u 58, u 59, u 60, u 61, u 62, u 63, u 64, u 65, u 66, u 67, u 68, u 69, u 70, u 71, u 72, u 73, u 74, u 75, u 76, u 77, u 78, u 79, u 80, u 81, u 82, u 83, u 84, u 85, u 86, u 87, u 88, u 89, u 90, u 91, u 92, u 93, u 94, u 95, u 96, u 97, u 98, u 99, u 100, u 101, u 102, u 103, u 104, u 105, u 106, u 107, u 108, u 109, u 110, u 111, u 112, u 113, u 114, u 115, u 116, u 117, u 118, u 119, u 120, u 121, u 122, u 123, u 124, u 125, u 126, u 127, u 128, u 129, u 130, u 131, u 132, u 133, u 134, u 135, u 136, u 137, u 138, u 139, u 140, u 141, u 142, u 143, u 144, u 145], L⟩ ∧ Own (H1 ++ [.cells (insL (insOf code l)[n]) 0 false]) L s' 1 ((setK A x vals j).map intR) ∧ Pre (H1 ++ [.cells (insL (insOf code l)[n]) 0 false]) L) ?_ ?_ _ ?_
              · rintro j st hj ⟨L, u, rfl, o1, o2⟩
                have hj8 : (j : Int) < 8 := by omega
                have nn : ¬ ((j : Int) < 0) := by omega
                have ha := and0 (A : Int) (w_nat hA256) (k := j) (by omega)
                rw [bi_nat A (by omega)] at ha
                cases ht : A.testBit j
                · rw [ht] at ha
                  obtain ⟨b2, ver, L', z1, z2, z3, z4, _⟩ := o1.put o2 (k := j) (by rw [setK_len]; omega) x
                  simp only [C_ops, C_cond, D_skip, normal_some, cond_tt, E_nil, E_cons, next_some, next_none, ev_tmp, ev_const, get_succ, get_zero, List.set_cons_succ, List.set_cons_zero, O_mv, O_bin, pairO, O_atRow, B_add, B_band, B_eql, B_lss, B_shr', Bool.not_false, W_some, W_seq, W_block, Q_cont_normal, Q_block_normal, wrote_some, O_store1, store1_int, Q_for_normal, hj8, Int.natCast_nonneg, decide_true, ha, z1, z2, wrap_nat (k := j) (by omega)]
                  refine ⟨L', junkA rfl ⟨?_, z4⟩⟩
                  rw [setK, ht, if_neg (by simp)]; exact z3
                · rw [ht] at ha
                  simp only [C_ops, C_cond, D_skip, normal_some, cond_tt, cond_ff, E_nil, E_cons, next_some, ev_tmp, ev_const, get_succ, get_zero, List.set_cons_succ, List.set_cons_zero, O_mv, O_bin, pairO, B_add, B_band, B_eql, B_lss, B_shr', Bool.not_true, W_some, W_seq, W_block, Q_cont_normal, Q_block_normal, Q_for_normal, hj8, Int.natCast_nonneg, decide_true, ha, wrap_nat (k := j) (by omega)]
                  refine ⟨L, junkA rfl ⟨?_, o2⟩⟩
                  rw [setK, ht, if_pos rfl]; exact o1
              · rintro st ⟨L, u, rfl, o1, o2⟩
                have pL : Pre H1 L := ((Pre.refl H1).more _).trans o2
                have onL : On L c v code l (insOf code l) := On.of (eC.pre pL) (p2.sl.pre pL) hl h8
                have rgL := read_regs hR (p3.trans pL)
                have cL := cell_read o2 i7
                have fW := flow_Value_c (kn := (A : Int)) n8 hR (by rw [setK_len]; exact hvl) _ (n : Int) hcap (insOf code l)[n].index s' L onL o1.sl
                rw [← g2] at fW
                unfold tupV at fW
                have h88 : ¬ ((8 : Int) < 8) := by omega
                have n8' : ((8 : Nat) : Int) = 8 := rfl
                simp only [C_ops, C_cond, D_exit, D_ret, normal_some, cond_ff, E_nil, E_cons, E_guard, next_some, guard_tt, ev_tmp, ev_const, get_succ, get_zero, List.set_cons_succ, List.set_cons_zero, O_mv, O_pick, pickO, O_bin, pairO, O_call, List.map_cons, List.map_nil, O_load1, load1_ptr, O_load, load_ptr, B_eql, B_lss, Nat.zero_add, W_some, W_seq, Q_cont_normal, Q_cont_exit, Q_block_exit, O_off, off_ptr, O_extract, extract_tup, Option.map_some, List.getElem?_cons_zero, List.getElem?_cons_succ, beq_self_eq_true, Q_for_exit, n8', h88, decide_false, rgL, cL, fW, g1]
                rw [Q_pre (ph1.trans pL) _ _ _ rfl]; rfl
              · exact ⟨K, junkA rfl ⟨q2, q3⟩⟩
theorem flowHolds_law (h : Heap) (us : List Value) (hu : TypedAs h [(false, [(.slice 120 (List.replicate 10 (.int .i64) ++ List.replicate 3 .bool ++ List.replicate 3 (.int .i64) ++ [.bool]))]), (false, [(.int .i64)]), (true, (List.replicate 8 (.int .i64))), (false, [(.int .i64)]), (false, [(.slice 8 [(.int .i64)])]), (false, [(.int .i64)]), (false, [(.int .i64)])] us) : ∃ h', DF FF n_belatedlaw10_FlowHolds us h = some (.bool true, h') :=
  match us, hu with
  | [a, b, c, d, e, f, g], ⟨h0, h1, h2, h3, h4, h5, h6, _⟩ =>
    let ⟨code, hc, hb⟩ := typed_code h0
    let ⟨i, hi, w⟩ := typed_int h1
    let ⟨R, hR, hR8⟩ := typed_regs h2
    let ⟨k, hk, _⟩ := typed_int h3
    let ⟨vals, hv, hvb⟩ := typed_intS h4
    let ⟨kn, hkn, w2⟩ := typed_int h5
    let ⟨x, hx, _⟩ := typed_int h6
    ⟨h, by rw [hi, hR, hk, hkn, hx]; exact law_FlowHolds hc hb i (W_of_wf w) R hR8 k kn x (W_of_wf w2) hv hvb⟩
end Go.Proofs.Ytoeoahpngmhkdaa.AM
