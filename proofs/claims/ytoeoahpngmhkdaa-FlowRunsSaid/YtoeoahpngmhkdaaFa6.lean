/-
  All paths through a code, as the document has it.
  Conditions: codes no longer than 8.
-/
import Derived.Test.YtoeoahpngmhkdaaFa5
namespace Go.Proofs.Ytoeoahpngmhkdaa.AM
open Go.RowKit
set_option linter.unusedSimpArgs false
set_option linter.unusedVariables false

theorem PL.finish {h0 H K : Heap} {v : Value} {L : List (List Int)} (e : PL h0 K v L) (p : Pre h0 K) (q : Pre h0 H) : PL h0 (AM.finish H v K) v L ∧ Pre h0 (AM.finish H v K) := by
  unfold AM.finish
  split
  · rename_i hf
    obtain ⟨vs, e1, e2, e3, e4, e5⟩ := e
    rcases e1 with ⟨⟨rfl, hr⟩ | ⟨b, ver, hb, rfl, ho⟩, hc⟩
    · have hv : vs = [] := by simpa using hr
      subst hv
      have : L = [] := List.eq_nil_of_length_eq_zero (by rw [← e2]; rfl)
      subst this
      exact ⟨PL.nil _ _, q⟩
    · exact absurd hf.1 (by simp [flat, plain1, plain])
  · exact ⟨e, p⟩
set_option maxHeartbeats 1000000 in
theorem ref_more_c {h0 H1 H : Heap} {out tails : Value} {L T : List (List Int)} (p0 : Pre h0 H1) (e : PL h0 H1 out L) (p1 : Pre H1 H) (t : PL H1 H tails T) (a : Int) (hL : L.length + T.length < 1099511627776) (hT : ∀ l ∈ T, l.length < 1099511627776) :
    ∃ v H', DF FF n_belatedref10_more [out, .int .i64 a, tails] H = some (v, H') ∧ (PL h0 H' v (L ++ T.map (a :: ·)) ∧ Pre h0 H') := by
  refine fun_wpE F_belatedref10_more ?_
  simp only [c_belatedref10_more, C_ops, normal_some, E_nil, E_cons, next_some, ev_const, List.set_cons_succ, List.set_cons_zero, O_mv, List.cons_append, List.nil_append, List.length_cons, List.length_nil, Nat.reduceAdd, Nat.reduceSub, Nat.zero_add, W_some, W_seq, W_block, Q_cont_normal, fillU_zero, fillU_succ]
  refine for_wp T.length (fun k st => ∃ (v : Value) (K : Heap) (j : Nat → Value), st = ⟨[v, .int .i64 a, tails, j 3, j 4, j 5, j 6, .int .i64 (k : Int), j 8, j 9, j 10, j 11, j 12, j 13, j 14, j 15, j 16, j 17, j 18, j 19, j 20, j 21, j 22, j 23, j 24, j 25, j 26, j 27, j 28], K⟩ ∧ PL h0 K v (L ++ (T.take k).map (a :: ·)) ∧ Pre h0 K ∧ H.length ≤ K.length ∧ (∀ (i : Nat) (o : AObj), H[i]? = some o → blk out ≠ some i → K[i]? = some o) ∧ (blk v = blk out ∨ ∃ i, blk v = some i ∧ H.length ≤ i)) ?_ ?_ _ ?_
  · rintro k st hk ⟨v, K, j, rfl, g1, g2, g3, g4, g5⟩
    have h1 : (k : Int) < T.length := by omega
    obtain ⟨vs, t1, t2, t3, t4, t5⟩ := t
    have hkv : k < vs.length := by omega
    have hx := t3 k _ _ (List.getElem?_eq_getElem hkv) (List.getElem?_eq_getElem hk)
    have hout : ∀ b, H1.length ≤ b → blk out ≠ some b := fun b hb he => by have := (e.lt he).2; omega
    have tK : Own H1 K tails 1 (vs.map fun x => [x]) := t1.keep fun b hb o ho => g4 b o ho (hout b (t1.lt hb).1)
    have xK : Own H1 K vs[k] 1 (T[k].map intR) := hx.keep fun b hb o ho => g4 b o ho (hout b (hx.lt hb).1)
    obtain ⟨s1, K1, q1, q2, q3, q4, q5, q6⟩ := (Own.nil K K 1).push (Pre.refl K) (row := [.int .i64 a]) (bytes := 8) rfl (by unfold roomFor; simp)
    have k1 : Kept K K1 := fun i o ho => q5 i o ho (by simp [blk])
    obtain ⟨b, o, w, d1, d2⟩ := (tK.kept k1).sl.atH (k := k) (by simpa using hkv)
    have d3 : Heap.read1 K1 ⟨b, o, some w⟩ = some vs[k] := read1_of0 d2 (by rw [List.getElem_map]; rfl)
    have hTk := hT T[k] (List.getElem_mem _)
    obtain ⟨s2, K2, r1, r2, r3, r4, r5, r6⟩ := q2.append (p := q3) (ys := (T[k].map intR).flatten) (rows' := T[k].map intR) (bytes := 8) rfl (by simp [intR]) (by simp only [List.length_map, List.length_append, List.length_cons, List.length_nil]; unfold roomFor; omega)
    have r1' : appendTo K1 1 8 s1 (srcOf K1 1 vs[k]) = some (s2, K2) := by rw [(xK.kept k1).sl.src0]; exact r1
    have k2 : Kept K K2 := fun i o ho => r5 i o (k1 i o ho) (by
      have hi := (List.getElem?_eq_some_iff.1 ho).1
      rcases q6 with q6 | ⟨m, q6, q7⟩
      · rw [q6]; simp [blk]
      · rw [q6]; simp; omega)
    obtain ⟨sa, sn, sc, rfl⟩ := r2.shape
    obtain ⟨v', K', u1, u2, u3, u4, u5, u6⟩ := g1.push k2 (by omega) g2.le (g2.trans r3) (x := .slice sa sn sc) (l := a :: T[k]) r2 (by
      simp only [List.length_append, List.length_map, List.length_take]; omega)
    have e1 : L ++ (T.take (k + 1)).map (a :: ·) = L ++ (T.take k).map (a :: ·) ++ [a :: T[k]] := by
      rw [List.take_succ_eq_append_getElem hk, List.map_append, List.append_assoc]; rfl
    have hlenT : lenO K tails = some (.int .i64 T.length, K) := by rw [t1.len, List.length_map, t2]
    simp only [C_ops, C_cond, D_skip, normal_some, cond_tt, E_nil, E_cons, next_some, ev_tmp, ev_const, get_succ, get_zero, List.set_cons_succ, List.set_cons_zero, O_mv, O_bin, pairO, O_len, O_atRow, O_load1, load1_ptr, O_mkRow, mk_some, partsV_nil, partsV_cons, zeros_zero, zeros_succ, fill_nil, fill_int, fill_slice, Nat.lt_add_one, B_add, B_lss, List.length_cons, List.length_nil, Nat.zero_add, W_some, W_seq, W_block, Q_cont_normal, Q_block_normal, slc, O_append, List.append_nil, Q_for_normal, hlenT, h1, decide_true, q1, d1, d3, r1', u1, wrap_nat (k := k) (by omega)]
    refine ⟨v', K', junkA rfl ⟨by rw [e1]; exact u2, u3, ?_, ?_, ?_⟩⟩
    · omega
    · intro i o ho hne
      refine u5 i o (k2 i o (g4 i o ho hne)) ?_
      rcases g5 with g5 | ⟨m, g5, g6⟩
      · rw [g5]; exact hne
      · have := (List.getElem?_eq_some_iff.1 ho).1
        rw [g5]; simp; omega
    · rcases u6 with u6 | ⟨m, u6, u7⟩
      · rcases g5 with g5 | ⟨m, g5, g6⟩
        · exact .inl (u6.trans g5)
        · exact .inr ⟨m, u6.trans g5, g6⟩
      · exact .inr ⟨m, u6, by omega⟩
  · rintro st ⟨v, K, j, rfl, g1, g2, g3, g4, g5⟩
    have h1 : ¬ ((T.length : Nat) : Int) < T.length := by omega
    rw [List.take_length] at g1
    have hlenT : ∀ K, lenO K tails = some (.int .i64 T.length, K) := fun K => t.len K
    simp only [C_ops, C_cond, D_exit, D_ret, normal_some, cond_ff, E_nil, E_cons, next_some, ev_tmp, get_succ, get_zero, List.set_cons_succ, List.set_cons_zero, O_mv, O_bin, pairO, O_len, B_lss, W_some, W_seq, Q_cont_normal, Q_cont_exit, Q_block_exit, Q_retE, Q_for_exit, hlenT, h1, decide_false]
    exact g1.finish g2 (p0.trans p1)
  · refine ⟨out, H, junkA rfl ⟨?_, p0.trans p1, Nat.le_refl _, fun i o ho _ => ho, .inl rfl⟩⟩
    rw [List.take_zero, List.map_nil, List.append_nil]
    exact e.kept p1.kept
/-- All paths from a place on. -/
def pathsN (code : List Ins) : Nat → Nat → List (List Int)
  | 0, _ => []
  | f + 1, k => match code[k]? with
    | none => [[]]
    | some i => (pathsN code f (k + 1)).map ((k : Int) :: ·) ++ if (i.op == 9) && (decide ((k : Int) + 1 < i.to) && decide (i.to ≤ (code.length : Int))) then (pathsN code f i.to.toNat).map ((k : Int) :: ·) else []
theorem pathsN_many (code : List Ins) : ∀ f k, (pathsN code f k).length ≤ 2 ^ f
  | 0, _ => by simp [pathsN]
  | f + 1, k => by
    rw [pathsN]
    cases hi : code[k]? with
    | none => simp; exact Nat.pos_of_ne_zero (by simp)
    | some i =>
      have h1 := pathsN_many code f (k + 1)
      have h2 := pathsN_many code f i.to.toNat
      simp only [List.length_append, List.length_map]
      rw [Nat.pow_succ]
      split
      · simp only [List.length_map]; omega
      · simp only [List.length_nil]; omega
theorem pathsN_long (code : List Ins) : ∀ f k, ∀ l ∈ pathsN code f k, l.length ≤ f
  | 0, _ => by simp [pathsN]
  | f + 1, k => by
    intro l hl
    rw [pathsN] at hl
    cases hi : code[k]? with
    | none => rw [hi] at hl; simp at hl; subst hl; simp
    | some i =>
      rw [hi] at hl
      simp only [List.mem_append, List.mem_map] at hl
      rcases hl with ⟨m, hm, rfl⟩ | hl
      · have := pathsN_long code f _ m hm; simp; omega
      · split at hl
        · simp only [List.mem_map] at hl
          obtain ⟨m, hm, rfl⟩ := hl
          have := pathsN_long code f _ m hm; simp; omega
        · cases hl
theorem pow9 {f : Nat} (h : f ≤ 9) : 2 ^ f ≤ 512 := by
  have : (2 : Nat) ^ f ≤ 2 ^ 9 := Nat.pow_le_pow_right (by omega) h
  exact this
theorem fill_slice1 (a : Option Addr) (n c : Nat) : fillRow [.slice none 0 0] [(0, 1, .slice a n c)] = some [.slice a n c] := by
  simp only [List.set_cons_zero, fill_nil, fill_slice, Nat.lt_add_one, List.length_cons, List.length_nil, Nat.zero_add, eq_self]
theorem read0 {H : Heap} {a : Addr} {i : Ins} (h : Heap.read H a 17 = some (insL i)) : Heap.read1 H a = some (.int .i64 i.op) := read1_of0 h (insL_0 i)
theorem more_two {H : Heap} {code : List Ins} {c : Value} (e : InsSl H c code) (K : Heap) (p : Pre H K) : InsSl K c code := e.pre p
set_option maxHeartbeats 1000000 in
theorem ref_from_c {code : List Ins} {c : Value} (hc8 : code.length ≤ 8) : ∀ (f : Nat), f ≤ 9 → ∀ (k : Nat), k ≤ code.length → code.length - k < f → ∀ (H : Heap), InsSl H c code →
    ∃ v H', DF FF n_belatedref10_from [c, .int .i64 (k : Int)] H = some (v, H') ∧ (PL H H' v (pathsN code f k) ∧ Pre H H')
  | 0, _, k, _, hf => by omega
  | f + 1, hf9, k, hkl, hf => by
    intro H e
    have ih := ref_from_c (c := c) hc8 f (by omega)
    refine fun_wpE F_belatedref10_from ?_
    by_cases hk : code.length ≤ k
    · have h1 : ((code.length : Int) ≤ (k : Int)) := by omega
      obtain ⟨v', K, u1, u2, u3, u4, u5, u6⟩ := (PL.nil H H).push (Kept.refl H) (Nat.le_refl _) (Nat.le_refl _) (Pre.refl H) (x := nils) (l := []) (Own.nil _ _ _) (by simp)
      have ep : pathsN code (f + 1) k = [[]] := by rw [pathsN, List.getElem?_eq_none hk]
      rw [ep]
      unfold nils at u1
      simp only [c_belatedref10_from, C_ops, C_cond, D_ret, normal_some, cond_tt, E_nil, E_cons, next_some, ev_tmp, ev_const, get_succ, get_zero, List.set_cons_succ, List.set_cons_zero, O_mv, O_bin, pairO, O_len, O_mkRow, mk_some, partsV_nil, partsV_cons, zeros_zero, zeros_succ, fill_nil, fill_slice, Nat.lt_add_one, B_geq, List.cons_append, List.nil_append, List.length_cons, List.length_nil, Nat.reduceAdd, Nat.reduceSub, Nat.zero_add, W_some, W_seq, Q_cont_normal, Q_cont_ret, slc, O_append, fillU_zero, fillU_succ, List.append_nil, Q_retE, e.len, h1, decide_true, u1]
      exact u2.finish u3 (Pre.refl H)
    · have hk' : k < code.length := by omega
      have h1 : ¬ ((code.length : Int) ≤ (k : Int)) := by omega
      obtain ⟨t1, H1, w1, w2, w3⟩ := ih (k + 1) (by omega) (by omega) H e
      have hlen1 := pathsN_many code f (k + 1)
      have hp9 := pow9 (f := f) (by omega)
      obtain ⟨v1, H2, x1, x2, x3⟩ := ref_more_c (Pre.refl H) (PL.nil H H) w3 w2 (k : Int) (by simp; omega) (fun l hl => by have := pathsN_long code f _ l hl; omega)
      have e2 : InsSl H2 c code := e.pre x3
      obtain ⟨b, o, v, a1, a2, a3⟩ := e2.at hk'
      have a5 := read0 a3
      have a6 := read1_of a3 (insL_15 code[k])
      rw [List.nil_append] at x2
      have hw : IntKind.i64.wrap ((k : Int) + 1) = ((k + 1 : Nat) : Int) := wrap_nat (by omega)
      unfold nils at x1
      have hpN : pathsN code (f + 1) k = (pathsN code f (k + 1)).map ((k : Int) :: ·) ++ if (code[k].op == 9) && (decide ((k : Int) + 1 < code[k].to) && decide (code[k].to ≤ (code.length : Int))) then (pathsN code f code[k].to.toNat).map ((k : Int) :: ·) else [] := by
        rw [pathsN, List.getElem?_eq_getElem hk']
      rw [hpN]
      cases h9 : (code[k].op == 9)
      · rw [Bool.false_and, if_neg (by simp), List.append_nil]
        simp only [c_belatedref10_from, C_ops, C_cond, D_ret, D_skip, normal_some, cond_ff, E_nil, E_cons, E_guard, next_some, guard_tf, ev_tmp, ev_const, get_succ, get_zero, List.set_cons_succ, List.set_cons_zero, O_mv, O_pick, pickO, O_bin, pairO, O_call, List.map_cons, List.map_nil, O_len, O_atRow, O_load1, load1_ptr, B_add, B_eql, B_geq, List.cons_append, List.nil_append, List.length_cons, List.length_nil, Nat.reduceAdd, Nat.reduceSub, Nat.zero_add, W_some, W_seq, Q_cont_normal, O_off, off_ptr, fillU_zero, fillU_succ, Nat.add_zero, Q_retE, e.len, h1, decide_false, hw, w1, x1, a1, a5, h9]
        exact x2.finish x3 (Pre.refl H)
      · by_cases g1 : ((k + 1 : Nat) : Int) < code[k].to
        · have g1' : (k : Int) + 1 < code[k].to := by omega
          by_cases g2 : code[k].to ≤ (code.length : Int)
          · simp only [g1', g2, decide_true, Bool.and_self, if_true]
            obtain ⟨m, hm⟩ : ∃ m : Nat, code[k].to = (m : Int) := ⟨code[k].to.toNat, by omega⟩
            obtain ⟨t2, H3, y1, y2, y3⟩ := ih m (by omega) (by omega) H2 e2
            have hlen2 := pathsN_many code f m
            obtain ⟨v2, H4, z1, z2, z3⟩ := ref_more_c x3 x2 y3 y2 (k : Int) (by simp; omega) (fun l hl => by have := pathsN_long code f _ l hl; omega)
            rw [hm] at a6 g1 g2
            rw [hm, Int.toNat_natCast]
            simp only [c_belatedref10_from, C_ops, C_cond, D_ret, D_skip, normal_some, cond_tt, cond_ff, E_nil, E_cons, E_guard, next_some, guard_tt, ev_tmp, ev_const, get_succ, get_zero, List.set_cons_succ, List.set_cons_zero, O_mv, O_pick, pickO, O_bin, pairO, O_call, List.map_cons, List.map_nil, O_len, O_atRow, O_load1, load1_ptr, B_add, B_eql, B_leq, B_gtr, B_geq, List.cons_append, List.nil_append, List.length_cons, List.length_nil, Nat.reduceAdd, Nat.reduceSub, Nat.zero_add, W_some, W_seq, Q_cont_normal, O_off, off_ptr, fillU_zero, fillU_succ, Nat.add_zero, Q_retE, e.len, h1, decide_false, hw, w1, x1, a1, a5, a6, h9, g1, g2, decide_true, y1, z1]
            exact z2.finish z3 (Pre.refl H)
          · simp only [g1', g2, decide_true, decide_false, Bool.and_false, Bool.false_eq_true, if_false, List.append_nil]
            simp only [c_belatedref10_from, C_ops, C_cond, D_ret, D_skip, normal_some, cond_ff, E_nil, E_cons, E_guard, next_some, guard_tt, ev_tmp, ev_const, get_succ, get_zero, List.set_cons_succ, List.set_cons_zero, O_mv, O_pick, pickO, O_bin, pairO, O_call, List.map_cons, List.map_nil, O_len, O_atRow, O_load1, load1_ptr, B_add, B_eql, B_leq, B_gtr, B_geq, List.cons_append, List.nil_append, List.length_cons, List.length_nil, Nat.reduceAdd, Nat.reduceSub, Nat.zero_add, W_some, W_seq, Q_cont_normal, O_off, off_ptr, fillU_zero, fillU_succ, Nat.add_zero, Q_retE, e.len, h1, decide_false, hw, w1, x1, a1, a5, a6, h9, g1, g2, decide_true]
            exact x2.finish x3 (Pre.refl H)
        · have g1' : ¬ ((k : Int) + 1 < code[k].to) := by omega
          simp only [g1', decide_false, Bool.false_and, Bool.and_false, Bool.false_eq_true, if_false, List.append_nil]
          simp only [c_belatedref10_from, C_ops, C_cond, D_ret, D_skip, normal_some, cond_ff, E_nil, E_cons, E_guard, next_some, guard_tt, guard_tf, ev_tmp, ev_const, get_succ, get_zero, List.set_cons_succ, List.set_cons_zero, O_mv, O_pick, pickO, O_bin, pairO, O_call, List.map_cons, List.map_nil, O_len, O_atRow, O_load1, load1_ptr, B_add, B_eql, B_gtr, B_geq, List.cons_append, List.nil_append, List.length_cons, List.length_nil, Nat.reduceAdd, Nat.reduceSub, Nat.zero_add, W_some, W_seq, Q_cont_normal, O_off, off_ptr, fillU_zero, fillU_succ, Nat.add_zero, Q_retE, e.len, h1, decide_false, hw, w1, x1, a1, a5, a6, h9, g1]
          exact x2.finish x3 (Pre.refl H)
theorem ref_Paths_c {code : List Ins} {c : Value} (hc8 : code.length ≤ 8) (H : Heap) (e : InsSl H c code) :
    ∃ v H', DF FF n_belatedref10_Paths [c] H = some (v, H') ∧ (PL H H' v (pathsN code 9 0) ∧ Pre H H') := by
  refine fun_wpE F_belatedref10_Paths ?_
  obtain ⟨v, H', h1, h2, h3⟩ := ref_from_c hc8 9 (by omega) 0 (by omega) (by omega) H e
  have h1' : DF FF n_belatedref10_from [c, .int .i64 0] H = some (v, H') := h1
  simp only [c_belatedref10_Paths, C_ops, D_ret, normal_some, E_nil, E_cons, next_some, ev_tmp, ev_const, get_succ, get_zero, List.set_cons_succ, List.set_cons_zero, O_mv, O_call, List.map_cons, List.map_nil, List.cons_append, List.nil_append, List.length_cons, List.length_nil, Nat.reduceSub, Nat.zero_add, W_some, W_seq, Q_cont_normal, fillU_zero, fillU_succ, Q_retE, h1']
  exact h2.finish h3 (Pre.refl H)
end Go.Proofs.Ytoeoahpngmhkdaa.AM
