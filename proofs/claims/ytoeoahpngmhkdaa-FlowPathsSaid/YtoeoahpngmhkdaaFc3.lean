/-
  The flow law on all paths.
  Conditions: none.
-/
import Derived.Test.YtoeoahpngmhkdaaFb3
import Derived.Test.YtoeoahpngmhkdaaFc0
namespace Go.Proofs.Ytoeoahpngmhkdaa.AM
open Go.RowKit
set_option linter.unusedSimpArgs false
set_option linter.unusedVariables false

/-- A list of paths of which those from i on are whole; what was laid from B on stays. -/
structure LP (h : Heap) (B : Nat) (H3 : Heap) (l : Value) (L : List (List Int)) (i : Nat) (K : Heap) (vs : List Value) : Prop where
  own : Own h K l 1 (vs.map fun x => [x])
  len : vs.length = L.length
  each : ∀ (q : Nat) x p, i ≤ q → vs[q]? = some x → L[q]? = some p → Own h K x 1 (p.map intR)
  apart : ∀ (q : Nat) x b, i ≤ q → vs[q]? = some x → blk x = some b → blk l ≠ some b
  diff : ∀ (q r : Nat) x y b, i ≤ q → i ≤ r → vs[q]? = some x → vs[r]? = some y → blk x = some b → blk y = some b → q = r
  low : ∀ (q : Nat) x b, i ≤ q → vs[q]? = some x → blk x = some b → b < B
  lowl : ∀ b, blk l = some b → b < B
  kept : ∀ (b : Nat) (o : AObj), B ≤ b → H3[b]? = some o → K[b]? = some o
  pre : Pre h K
section
variable {h H3 K K' : Heap} {B i : Nat} {l : Value} {L : List (List Int)} {vs : List Value}
theorem LP.next (e : LP h B H3 l L i K vs) : LP h B H3 l L (i + 1) K vs :=
  ⟨e.own, e.len, fun q x p hq => e.each q x p (by omega), fun q x b hq => e.apart q x b (by omega), fun q r x y b hq hr => e.diff q r x y b (by omega) (by omega), fun q x b hq => e.low q x b (by omega), e.lowl, e.kept, e.pre⟩
theorem LP.keep (e : LP h B H3 l L i K vs) (x : Value) (hx : ∀ b, blk x = some b → b < B ∧ blk l ≠ some b ∧ ∀ (q : Nat) y, i ≤ q → vs[q]? = some y → blk y ≠ some b) (p : Pre h K') (k : ∀ (b : Nat) (o : AObj), K[b]? = some o → blk x ≠ some b → K'[b]? = some o) : LP h B H3 l L i K' vs :=
  ⟨e.own.keep fun b hb o ho => k b o ho fun h => (hx b h).2.1 hb, e.len, fun q y p hq hy hp => (e.each q y p hq hy hp).keep fun b hb o ho => k b o ho fun h => (hx b h).2.2 q y hq hy hb, e.apart, e.diff, e.low, e.lowl,
    fun b o hb ho => k b o (e.kept b o hb ho) fun h => by have := (hx b h).1; omega, p⟩
theorem LP.put (e : LP h B H3 l L (i + 1) K vs) (hi : i < vs.length) (x : Value) :
    ∃ b ver K', (∀ J, rowO J 1 l (.int .i64 (i : Int)) = some (.pointer (some ⟨b, i, some ver⟩), J)) ∧ Heap.write1 K ⟨b, i, some ver⟩ x = some K' ∧ LP h B H3 l L (i + 1) K' (vs.set i x) := by
  obtain ⟨b, ver, K', a1, a2, a3, a4, a5, a6, a7⟩ := e.own.putV e.pre hi x
  have hv : ∀ (q : Nat) y, i + 1 ≤ q → (vs.set i x)[q]? = some y → vs[q]? = some y := fun q y hq hy => by rwa [List.getElem?_set_ne (by omega)] at hy
  refine ⟨b, ver, K', a1, a2, ⟨a3, by rw [List.length_set]; exact e.len, ?_, ?_, ?_, ?_, e.lowl, ?_, a4⟩⟩
  · intro q y p hq hy hp
    refine (e.each q y p hq (hv q y hq hy) hp).keep fun c hc o ho => a7 c o ?_ ho
    rintro rfl
    exact e.apart q y c hq (hv q y hq hy) hc a5
  · intro q y c hq hy; exact e.apart q y c hq (hv q y hq hy)
  · intro q r y z c hq hr hy hz; exact e.diff q r y z c hq hr (hv q y hq hy) (hv r z hr hz)
  · intro q y c hq hy; exact e.low q y c hq (hv q y hq hy)
  · intro c o hc ho
    refine a7 c o ?_ (e.kept c o hc ho)
    rintro rfl
    have := e.lowl c a5; omega
theorem LP.read (e : LP h B H3 l L i K vs) {q : Nat} (hq : q < vs.length) : ∃ b o w, (∀ J, rowO J 1 l (.int .i64 (q : Int)) = some (.pointer (some ⟨b, o, some w⟩), J)) ∧ Heap.read1 K ⟨b, o, some w⟩ = some vs[q] := by
  obtain ⟨b, o, w, d1, d2⟩ := e.own.sl.atH (k := q) (by simpa using hq)
  exact ⟨b, o, w, d1, read1_of0 d2 (by rw [List.getElem_map]; rfl)⟩
theorem LP.lenO (e : LP h B H3 l L i K vs) (J : Heap) : lenO J l = some (.int .i64 L.length, J) := by rw [e.own.len, List.length_map, e.len]
end
theorem PL.keepHi {h0 H H' : Heap} {v : Value} {L : List (List Int)} (e : PL h0 H v L) (k : ∀ (b : Nat) (o : AObj), h0.length ≤ b → H[b]? = some o → H'[b]? = some o) : PL h0 H' v L := by
  obtain ⟨vs, e1, e2, e3, e4, e5⟩ := e
  exact ⟨vs, e1.keep fun b hb o ho => k b o (e1.lt hb).1 ho, e2, fun i x l hx hl => (e3 i x l hx hl).keep fun b hb o ho => k b o ((e3 i x l hx hl).lt hb).1 ho, e4, e5⟩
theorem PL.lp {h H : Heap} {v : Value} {L : List (List Int)} (e : PL h H v L) {H3 : Heap} (p : Pre h H) (q : Pre H H3) : ∃ vs, LP h H.length H3 v L 0 H3 vs := by
  obtain ⟨vs, e1, e2, e3, e4, e5⟩ := e
  refine ⟨vs, e1.kept q.kept, e2, fun i x l _ hx hl => (e3 i x l hx hl).kept q.kept, fun i x b _ => e4 i x b, fun i j x y b _ _ => e5 i j x y b, fun i x b _ hx hb => ?_, fun b hb => (e1.lt hb).2, fun b o _ ho => ho, p.trans q⟩
  have hi : i < L.length := by rw [← e2]; exact (List.getElem?_eq_some_iff.1 hx).1
  exact ((e3 i x L[i] hx (List.getElem?_eq_getElem hi)).lt hb).2
set_option maxHeartbeats 8000000 in
set_option maxRecDepth 20000 in
theorem law_FlowPaths {code : List Ins} {c : Value} {h : Heap} (e : InsSl h c code) (hb : code.length * 120 ≤ roomFor) : DF FF n_belatedlaw10_FlowPaths [c] h = some (.bool true, h) := by
  refine fun_wpU F_belatedlaw10_FlowPaths ?_
  cases hr : rightC code
  · simp only [c_belatedlaw10_FlowPaths, C_ops, C_cond, D_ret, D_skip, normal_some, cond_tt, cond_ff, E_nil, E_cons, next_some, ev_tmp, ev_const, get_succ, get_zero, List.set_cons_succ, List.set_cons_zero, O_mv, pairO, O_un, O_call, List.map_cons, List.map_nil, U_not, List.cons_append, List.nil_append, List.length_cons, List.length_nil, Nat.reduceSub, Nat.zero_add, Bool.not_true, Bool.not_false, W_some, W_seq, Q_cont_normal, Q_cont_ret, Q_ret, fillU_zero, fillU_succ, List.append_assoc, eq_self, law_able_c, law_right_c e hb, hr]
  · have rc := rightC_rc hr
    have h8 := rc.len
    obtain ⟨c1, J1, q1, q2, q3⟩ := copy_c (bytes := 120) e (by rw [List.length_map]; exact hb)
    obtain ⟨l, H1, w1, w2, w3⟩ := flow_Paths_c (h := J1) (c := c1) (code := code) q2.sl hr
    have p1 : Pre h H1 := q3.trans w3
    obtain ⟨c2, J2, r1, r2, r3⟩ := copy_c (bytes := 120) (e.pre p1) (by rw [List.length_map]; exact hb)
    obtain ⟨m, H2, x1, x2, x3⟩ := flow_Paths_c (h := J2) (c := c2) (code := code) r2.sl hr
    have p2 : Pre h H2 := p1.trans (r3.trans x3)
    obtain ⟨k, H3, y1, y2, y3⟩ := ref_Paths_c (c := c) h8 H2 (e.pre p2)
    have p3 : Pre H1 H3 := (r3.trans x3).trans y3
    have hN1 := pathsN_many code 9 0
    have hlong : ∀ i (hi : i < (pathsN code 9 0).length), (pathsN code 9 0)[i].length ≤ 9 := fun i hi => pathsN_long code 9 0 _ (List.getElem_mem hi)
    obtain ⟨vs0, lp0⟩ := (w2.weak q3.le).lp p1 p3
    have hB : H1.length ≤ J2.length := r3.le
    have hB2 : H1.length ≤ H2.length := (r3.trans x3).le
    have mm : PL J2 H3 m (pathsN code 9 0) := x2.kept y3.kept
    generalize pathsN code 9 0 = L at w2 x2 y2 hN1 hlong lp0 mm
    have hN1 : L.length ≤ 512 := hN1
    have ln := lp0.lenO
    have mn := mm.len
    have kn := y2.len
    have nn : ((L.length : Int) != (L.length : Int)) = false := by simp
    simp only [c_belatedlaw10_FlowPaths, C_ops, C_cond, D_skip, normal_some, cond_ff, E_nil, E_cons, E_guard, next_some, guard_ff, ev_tmp, ev_const, get_succ, get_zero, List.set_cons_succ, List.set_cons_zero, O_mv, O_pick, pickO, O_bin, pairO, O_un, O_call, List.map_cons, List.map_nil, O_len, O_mkRow, mk_some, partsV_nil, zeros_zero, fill_nil, B_neq, U_not, List.cons_append, List.nil_append, List.length_cons, List.length_nil, Nat.reduceAdd, Nat.reduceSub, Nat.zero_add, Bool.not_true, W_some, W_seq, W_block, Q_cont_normal, slc, O_append, fillU_zero, fillU_succ, List.append_assoc, List.length_append, law_able_c, law_right_c e hb, hr, List.length_replicate, Nat.reduceAdd, q1, w1, r1, x1, y1, ln, mn, kn, nn]
    refine for_wp L.length (fun i st => ∃ (K : Heap) (vs : List Value) (j : Nat → Value), st = ⟨[j 0, j 1, j 2, l, m, k, .int .i64 (i : Int), j 7, j 8, j 9, j 10, j 11, j 12, j 13, j 14, j 15, j 16, j 17, j 18, j 19, j 20, j 21, j 22, j 23, j 24, j 25, j 26, j 27, j 28, j 29, j 30, j 31, j 32, j 33, j 34, j 35, j 36, j 37, j 38, j 39, j 40, j 41, j 42, j 43, j 44, j 45, j 46, j 47, j 48, j 49, j 50, j 51, j 52, j 53, j 54, j 55, j 56, j 57, j 58, j 59, j 60, j 61, j 62, j 63, j 64, j 65, j 66, j 67, j 68, j 69, j 70, j 71, j 72, j 73, j 74, j 75, j 76, j 77, j 78, j 79, j 80, j 81, j 82, j 83, j 84, j 85, j 86, j 87, j 88, j 89, j 90, j 91], K⟩ ∧ LP h H1.length H3 l L i K vs) ?_ ?_ _ ?_
    · rintro i st hi ⟨K, vs, j, rfl, lp⟩
      have hi1 : (i : Int) < (L.length : Int) := by omega
      have hiv : i < vs.length := by rw [lp.len]; exact hi
      have hl9 := hlong i hi
      obtain ⟨b, o, w, d1, d2⟩ := lp.read hiv
      have kk : PL H2 K k L := y2.keepHi fun b o hb ho => lp.kept b o (by omega) ho
      obtain ⟨b', o', w', z, f1, f2, f3⟩ := kk.at hi
      have ox := lp.each i _ _ (Nat.le_refl _) (List.getElem?_eq_getElem hiv) (List.getElem?_eq_getElem hi)
      have same : (L[i] == L[i]) = true := by simp
      have hx : ∀ b, blk vs[i] = some b → b < H1.length ∧ blk l ≠ some b ∧ ∀ (q : Nat) y, i + 1 ≤ q → vs[q]? = some y → blk y ≠ some b := fun b hb =>
        ⟨lp.low i _ b (Nat.le_refl _) (List.getElem?_eq_getElem hiv) hb, lp.apart i _ b (Nat.le_refl _) (List.getElem?_eq_getElem hiv) hb, fun q y hq hy hyb => by
          have := lp.diff i q _ y b (Nat.le_refl _) (by omega) (List.getElem?_eq_getElem hiv) hy hb hyb; omega⟩
      simp only [C_ops, C_cond, D_skip, normal_some, cond_tt, cond_ff, E_nil, E_cons, next_some, ev_tmp, ev_const, get_succ, get_zero, List.set_cons_succ, List.set_cons_zero, O_mv, O_bin, pairO, O_un, O_call, List.map_cons, List.map_nil, O_len, O_atRow, O_load1, load1_ptr, B_lss, U_not, Bool.not_true, W_some, W_seq, W_block, Q_cont_normal, beq_self_eq_true, ln, hi1, decide_true, d1, d2, f1, f2, law_ints_c ox.sl f3.sl (by omega)]
      refine for_wp L[i].length (fun q st => ∃ (K : Heap) (p : List Int) (j : Nat → Value), st = ⟨[j 0, j 1, j 2, l, m, k, .int .i64 (i : Int), .int .i64 (q : Int), j 8, j 9, j 10, j 11, j 12, j 13, j 14, j 15, j 16, j 17, j 18, j 19, j 20, j 21, j 22, j 23, j 24, j 25, j 26, j 27, j 28, j 29, j 30, j 31, j 32, j 33, j 34, j 35, j 36, j 37, j 38, j 39, j 40, j 41, j 42, j 43, j 44, j 45, j 46, j 47, j 48, j 49, j 50, j 51, j 52, j 53, j 54, j 55, j 56, j 57, j 58, j 59, j 60, j 61, j 62, j 63, j 64, j 65, j 66, j 67, j 68, j 69, j 70, j 71, j 72, j 73, j 74, j 75, j 76, j 77, j 78, j 79, j 80, j 81, j 82, j 83, j 84, j 85, j 86, j 87, j 88, j 89, j 90, j 91], K⟩ ∧ LP h H1.length H3 l L (i + 1) K vs ∧ Own h K vs[i] 1 (p.map intR) ∧ p.length = L[i].length) ?_ ?_ _ ?_
      · rintro q st hq ⟨K, p, j, rfl, lp, ox, hp⟩
        have hq1 : (q : Int) < (L[i].length : Int) := by omega
        obtain ⟨b, o, w, d1, d2⟩ := lp.read hiv
        have lx : ∀ J, lenO J vs[i] = some (.int .i64 L[i].length, J) := fun J => by rw [ox.len, List.length_map, hp]
        obtain ⟨b2, v2, K', a1, a2, a3, a4, a5, a6, a7⟩ := ox.putI lp.pre (k := q) (by omega) (-1)
        simp only [C_ops, C_cond, D_skip, normal_some, cond_tt, E_nil, E_cons, next_some, next_none, ev_tmp, ev_const, get_succ, get_zero, List.set_cons_succ, List.set_cons_zero, O_mv, O_bin, pairO, O_len, O_atRow, O_load1, load1_ptr, B_add, B_lss, W_some, W_seq, W_block, Q_cont_normal, Q_block_normal, wrote_some, O_store1, store1_int, Q_for_normal, d1, d2, lx, hq1, decide_true, a1, a2, wrap_nat (k := q) (by omega)]
        refine ⟨K', p.set q (-1), junkA rfl ⟨lp.keep vs[i] hx a4 fun b o ho hne => a7 b o (fun h => hne (h ▸ a5)) ho, a3, by simpa using hp⟩⟩
      · rintro st ⟨K, p, j, rfl, lp, ox, hp⟩
        have hq1 : ¬ ((L[i].length : Int) < (L[i].length : Int)) := by omega
        obtain ⟨b, o, w, d1, d2⟩ := lp.read hiv
        have lx : ∀ J, lenO J vs[i] = some (.int .i64 L[i].length, J) := fun J => by rw [ox.len, List.length_map, hp]
        obtain ⟨s', K', u1, u2, u3, u4, u5, u6⟩ := ox.push lp.pre (row := [.int .i64 (-2)]) (bytes := 8) rfl (by rw [List.length_map, hp]; unfold roomFor; omega)
        obtain ⟨sa, sn, sc, rfl⟩ := u2.shape
        have lp' : LP h H1.length H3 l L (i + 1) K' vs := lp.keep vs[i] hx u3 fun b o ho hne => u5 b o ho hne
        obtain ⟨b3, v3, K'', g1, g2, g3⟩ := lp'.put hiv (.slice sa sn sc)
        have hE := (g1 []).symm.trans (d1 [])
        simp only [Option.some.injEq, Prod.mk.injEq, Value.pointer.injEq, Addr.mk.injEq, and_true] at hE
        obtain ⟨rfl, rfl, rfl⟩ := hE
        simp only [C_ops, C_cond, D_exit, normal_some, cond_ff, E_nil, E_cons, next_some, next_none, ev_tmp, ev_const, get_succ, get_zero, List.set_cons_succ, List.set_cons_zero, O_mv, O_bin, pairO, O_len, O_atRow, O_load1, load1_ptr, O_mkRow, mk_some, partsV_nil, partsV_cons, zeros_zero, zeros_succ, fill_nil, fill_int, Nat.lt_add_one, B_add, B_lss, List.length_cons, List.length_nil, Nat.zero_add, W_some, W_seq, Q_cont_normal, Q_cont_exit, Q_block_normal, Q_block_exit, slc, O_append, wrote_some, O_store1, store1_slice, List.append_nil, Q_for_normal, Q_for_exit, d1, d2, lx, hq1, decide_false, u1, g2, wrap_nat (k := i) (by omega)]
        exact ⟨K'', vs.set i (.slice sa sn sc), junkA rfl g3⟩
      · exact ⟨K, L[i], junkA rfl ⟨lp.next, ox, rfl⟩⟩
    · rintro st ⟨K, vs, j, rfl, lp⟩
      have h1 : ¬ ((L.length : Int) < (L.length : Int)) := by omega
      simp only [C_ops, C_cond, D_exit, normal_some, cond_ff, E_nil, E_cons, next_some, ev_tmp, ev_const, get_succ, get_zero, List.set_cons_succ, List.set_cons_zero, O_mv, O_bin, pairO, O_len, B_lss, W_some, W_seq, W_block, Q_cont_normal, Q_cont_exit, Q_block_exit, Q_for_exit, ln, h1, decide_false]
      refine for_wp L.length (fun i st => ∃ j : Nat → Value, st = ⟨[j 0, j 1, j 2, j 3, m, k, j 6, j 7, .int .i64 (i : Int), j 9, j 10, j 11, j 12, j 13, j 14, j 15, j 16, j 17, j 18, j 19, j 20, j 21, j 22, j 23, j 24, j 25, j 26, j 27, j 28, j 29, j 30, j 31, j 32, j 33, j 34, j 35, j 36, j 37, j 38, j 39, j 40, j 41, j 42, j 43, j 44, j 45, j 46, j 47, j 48, j 49, j 50, j 51, j 52, j 53, j 54, j 55, j 56, j 57, j 58, j 59, j 60, j 61, j 62, j 63, j 64, j 65, j 66, j 67, j 68, j 69, j 70, j 71, j 72, j 73, j 74, j 75, j 76, j 77, j 78, j 79, j 80, j 81, j 82, j 83, j 84, j 85, j 86, j 87, j 88, j 89, j 90, j 91], K⟩) ?_ ?_ _ ?_
      · rintro i st hi ⟨j, rfl⟩
        have hi1 : (i : Int) < (L.length : Int) := by omega
        have hl9 := hlong i hi
        have kk : PL H2 K k L := y2.keepHi fun b o hb ho => lp.kept b o (by omega) ho
        have mk : PL J2 K m L := mm.keepHi fun b o hb ho => lp.kept b o (by omega) ho
        obtain ⟨b, o, w, z, f1, f2, f3⟩ := kk.at hi
        obtain ⟨b', o', w', z', d1, d2, d3⟩ := mk.at hi
        have same : (L[i] == L[i]) = true := by simp
        simp only [C_ops, C_cond, D_skip, normal_some, cond_tt, cond_ff, E_nil, E_cons, next_some, ev_tmp, ev_const, get_succ, get_zero, List.set_cons_succ, List.set_cons_zero, O_mv, O_bin, pairO, O_un, O_call, List.map_cons, List.map_nil, O_len, O_atRow, O_load1, load1_ptr, B_add, B_lss, U_not, Bool.not_true, W_some, W_seq, W_block, Q_cont_normal, Q_block_normal, beq_self_eq_true, Q_for_normal, mn, hi1, decide_true, d1, d2, f1, f2, law_ints_c d3.sl f3.sl (by omega), wrap_nat (k := i) (by omega)]
        exact junk rfl
      · rintro st ⟨j, rfl⟩
        have h1 : ¬ ((L.length : Int) < (L.length : Int)) := by omega
        simp only [C_ops, C_cond, D_exit, D_ret, normal_some, cond_ff, E_nil, E_cons, next_some, ev_tmp, ev_const, get_succ, get_zero, List.set_cons_succ, List.set_cons_zero, O_mv, O_bin, pairO, O_len, B_lss, W_some, W_seq, Q_cont_normal, Q_cont_exit, Q_block_exit, Q_for_exit, mn, h1, decide_false]
        rw [Q_pre lp.pre _ _ _ rfl]; rfl
      · exact junk rfl
    · exact ⟨H3, vs0, junkA rfl lp0⟩
theorem flowPaths_law (h : Heap) (us : List Value) (hu : TypedAs h [(false, [(.slice 120 (List.replicate 10 (.int .i64) ++ List.replicate 3 .bool ++ List.replicate 3 (.int .i64) ++ [.bool]))])] us) : ∃ h', DF FF n_belatedlaw10_FlowPaths us h = some (.bool true, h') :=
  match us, hu with
  | [a], ⟨h0, _⟩ =>
    let ⟨code, hc, hb⟩ := typed_code h0
    ⟨h, law_FlowPaths hc hb⟩
end Go.Proofs.Ytoeoahpngmhkdaa.AM
