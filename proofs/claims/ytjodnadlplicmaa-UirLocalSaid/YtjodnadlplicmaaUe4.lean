/-
  A code run by itself, as the document has it.
  Conditions: what registers hold, reads come to and codes have is in int's range.
-/
import Derived.Test.YtjodnadlplicmaaUe3
namespace Go.Proofs.Ytjodnadlplicmaa.AM
open Go.RowKit
set_option linter.unusedSimpArgs false
set_option linter.unusedVariables false

theorem W_alu (fn a b : Int) : W (aluV fn a b) := by
  unfold aluV
  split
  · exact W_wrap _
  · split
    · exact W_wrap _
    · split
      · exact W_bits _ _ _
      · split
        · exact W_bits _ _ _
        · split
          · exact W_bits _ _ _
          · unfold W; omega
/-- All is in int's range. -/
def WL (s : LS) : Prop := (∀ x ∈ s.R, W x) ∧ ∀ x ∈ s.rd, W x
theorem W_old (i : Ins) (rd : List Int) : W (oldV i rd) := by
  unfold oldV; split
  · exact W_getV _ _ _
  · unfold W; omega
theorem WL.step {i : Ins} {s t : LS} (hI : W i.imm) (w : WL s) (h : stepV i s = some t) : WL t := by
  unfold stepV at h
  split at h
  · cases h
  · cases h
    refine ⟨fun x hx => ?_, fun x hx => ?_⟩
    · have hx : x ∈ regsN i s := hx
      unfold regsN at hx
      split at hx
      · exact w.1 x hx
      · rcases List.mem_or_eq_of_mem_set hx with hx | rfl
        · exact w.1 x hx
        · unfold gotV
          split
          · exact hI
          · split
            · exact W_reg w.1 _
            · split
              · exact W_alu _ _ _
              · exact W_old _ _
    · have hx : x ∈ (if readsV i then s.rd.tail else s.rd) := hx
      split at hx
      · exact w.2 x (List.mem_of_mem_tail hx)
      · exact w.2 x hx
theorem fill_th (ca : Option Addr) (cn cm : Nat) {R : List Int} (hR : R.length = 8) : fillRow [.slice none 0 0, .int .i64 0, .int .i64 0, .int .i64 0, .int .i64 0, .int .i64 0, .int .i64 0, .int .i64 0, .int .i64 0, .int .i64 0, .slice none 0 0] [(0, 1, .slice ca cn cm), (1, 8, agg (regsL R))] = some (thL (.slice ca cn cm) R 0 (.slice none 0 0)) := by
  match R, hR with
  | [a, b, c, d, e, f, g, h], _ => simp [fillRow, laid_slice, laid_agg, regsL, splice, thL]
/-- The memory of the document's run. -/
structure LJ (h : Heap) (pt : Nat) (c : Value) (code : List Ins) (tot : Option LS) (rd0 : List Int) (s : LS) (K : Heap) (path evs : Value) (n : Nat) : Prop where
  lt : LT h pt c s K path
  ev : Own h K evs 15 (s.evs.map evL)
  ou : K[h.length + 1]? = some (.cells (List.replicate 8 (.int .i64 0)) 0 false)
  np : h.length + 1 ≠ pt
  ep : blk evs ≠ some pt
  eo : blk evs ≠ some (h.length + 1)
  cp : blk path ≠ some (h.length + 1)
  ap : ∀ b, blk path = some b → blk evs ≠ some b
  tot : endV code s = tot
  rd : s.rd = rd0.drop n
  nle : n ≤ rd0.length
  le : s.pc ≤ code.length
  sp : s.path.length ≤ s.pc
  se : s.evs.length ≤ s.pc
  w : WL s
section
variable {h K H : Heap} {pt n : Nat} {c : Value} {code : List Ins} {tot : Option LS} {rd0 : List Int} {s t : LS} {path path' evs : Value}
/-- Behind a method that goes along. -/
theorem LJ.go (e : LJ h pt c code tot rd0 s K path evs n) (l : LT h pt c t H path') (kx : KeptX pt K path H path') (h1 : endV code t = endV code s) (h2 : t.evs = s.evs) (h3 : t.rd = s.rd) (h4 : t.pc ≤ code.length) (h5 : t.path.length ≤ t.pc) (h6 : s.pc ≤ t.pc) (hw : WL t) : LJ h pt c code tot rd0 t H path' evs n := by
  have hlo : h.length + 1 < K.length := (List.getElem?_eq_some_iff.1 e.ou).1
  refine ⟨l, ?_, kx.kept _ _ e.np e.cp e.ou, e.np, e.ep, e.eo, ?_, ?_, h1.trans e.tot, h3.trans e.rd, e.nle, h4, h5, by have := e.se; rw [h2]; omega, hw⟩
  · rw [h2]; exact e.ev.keep fun b hb o ho => kx.kept b o (by rintro rfl; exact e.ep hb) (fun hp => e.ap b hp hb) ho
  · rcases kx.new with h | ⟨j, h, h'⟩
    · rw [h]; exact e.cp
    · rw [h]; simp; omega
  · intro b hb hev
    rcases kx.new with h | ⟨j, h, h'⟩
    · exact e.ap b (h ▸ hb) hev
    · rw [h] at hb; have := (e.ev.lt hev).2; simp at hb; omega
theorem LJ.fin (lj : LJ h pt c code tot rd0 s K path evs n) (kx : KeptX pt K path H path') (l : LT h pt c t H path') (h1 : endV code t = endV code s) (h2 : t.evs = s.evs) (h3 : code.length ≤ t.pc) :
    tot = some t ∧ ∃ evs0 path0, tup [agg (regsL t.R), evs, path', .int .i64 0] = tup [agg (regsL t.R), evs0, path0, .int .i64 0] ∧ Own h (AM.finish h (tup [agg (regsL t.R), evs, path', .int .i64 0]) (H.set (h.length + 1) (.cells (regsL t.R) 0 false))) path0 1 (t.path.map intR) ∧
      Own h (AM.finish h (tup [agg (regsL t.R), evs, path', .int .i64 0]) (H.set (h.length + 1) (.cells (regsL t.R) 0 false))) evs0 15 (t.evs.map evL) ∧ Pre h (AM.finish h (tup [agg (regsL t.R), evs, path', .int .i64 0]) (H.set (h.length + 1) (.cells (regsL t.R) 0 false))) := by
  have et : tot = some t := by rw [← lj.tot, ← h1, endV_done h3]
  have hlo : h.length + 1 < K.length := (List.getElem?_eq_some_iff.1 lj.ou).1
  refine ⟨et, ?_⟩
  have cp' : blk path' ≠ some (h.length + 1) := by
    rcases kx.new with h | ⟨j, h, h'⟩
    · rw [h]; exact lj.cp
    · rw [h]; simp; omega
  have p := l.pre.set (i := h.length + 1) (by omega) (.cells (regsL t.R) 0 false)
  have oa : Own h (H.set (h.length + 1) (.cells (regsL t.R) 0 false)) path' 1 (t.path.map intR) := l.pa.keep fun b hb o ho => by rw [List.getElem?_set_ne (by rintro rfl; exact cp' hb)]; exact ho
  have ob : Own h (H.set (h.length + 1) (.cells (regsL t.R) 0 false)) evs 15 (t.evs.map evL) := by
    rw [h2]
    exact lj.ev.keep fun b hb o ho => by
      rw [List.getElem?_set_ne (by rintro rfl; exact lj.eo hb)]
      exact kx.kept b o (by rintro rfl; exact lj.ep hb) (fun hp => lj.ap b hp hb) ho
  exact ⟨evs, path', rfl, finish_two oa ob p⟩
end
set_option maxHeartbeats 16000000 in
set_option maxRecDepth 50000 in
theorem ref_Local_c {code : List Ins} {c : Value} {h : Heap} (hc : InsSl h c code) (hl : code.length < 4611686018427387904) {R : List Int} (hR : R.length = 8) {rdv : Value} {rd : List Int} (hrd : IntS h rdv rd) (hrl : rd.length < 4611686018427387904)
    (wR : ∀ x ∈ R, W x) (wrd : ∀ x ∈ rd, W x) (wI : ∀ i ∈ code, W i.imm) :
    ∃ v h', DF FF n_belatedref3_Local [c, agg (regsL R), rdv] h = some (v, h') ∧ LocalR code R rd h v h' := by
  refine fun_wpE F_belatedref3_Local ?_
  obtain ⟨ca, cn, cm, rfl⟩ := hc.shape
  have r8 : (regsL R).length = 8 := by rw [regsL_len, hR]
  obtain ⟨s', K0, u1, u2, u3, u4, u5, u6⟩ := (Own.nil h (h ++ [.cells (regsL R) 0 false, .cells (List.replicate 8 (.int .i64 0)) 0 false]) 1).push ((Pre.refl h).more _) (row := [.slice ca cn cm]) (bytes := 24) rfl (by unfold roomFor; simp)
  have cK : Codes K0 s' [code] := ⟨[.slice ca cn cm], u2.sl, rfl, fun k v d hv hd => by
    have : k = 0 := by
      have := (List.getElem?_eq_some_iff.1 hv).1
      simpa using this
    subst this
    simp at hv hd
    subst hv hd
    exact hc.pre u3⟩
  have k1 : K0[h.length + 1]? = some (.cells (List.replicate 8 (.int .i64 0)) 0 false) := u5 _ _ (by rw [List.getElem?_append_right (by omega)]; simp) (by simp [blk])
  have k0 : K0[h.length]? = some (.cells (regsL R) 0 false) := u5 _ _ (by simp) (by simp [blk])
  have hck := ref_Check_c [code] s' K0 cK (by intro d hd; simp at hd; subst hd; exact hl) (by simp)
  unfold tup3 at hck
  simp only [List.append_assoc, List.cons_append, List.nil_append, List.length_append, List.length_cons, List.length_nil, Nat.zero_add, Nat.reduceAdd] at u1
  have z8 : (List.replicate 8 (Value.int .i64 0)).length = 8 := by simp
  have hlo : h.length + 1 < K0.length := (List.getElem?_eq_some_iff.1 k1).1
  cases hr : rightC code
  · have hne : ((checkV [code]).2.2 != 0) = true := by
      unfold rightC at hr; rw [bne, hr]; rfl
    have w1 := ww_all (xs := List.replicate 8 (Value.int .i64 0)) k1 rfl
    have w2 := rr_same (K := K0) (b := h.length + 1) (l := List.replicate 8 (Value.int .i64 0)) (n := 8) hlo z8
    simp only [c_belatedref3_Local, C_ops, C_cond, D_ret, normal_some, cond_tt, E_nil, E_cons, next_some, next_none, ev_tmp, ev_const, get_succ, get_zero, List.set_cons_succ, List.set_cons_zero, O_mv, O_bin, pairO, O_call, List.map_cons, List.map_nil, O_mkRow, O_build, mk_some, build_some, partsV_nil, partsV_cons, zeros_zero, zeros_succ, fill_nil, fill_slice, Nat.lt_add_one, B_neq, List.cons_append, List.nil_append, List.length_cons, List.length_nil, Nat.reduceAdd, Nat.reduceSub, Nat.zero_add, W_some, W_seq, Q_cont_normal, Q_cont_ret, slc, O_append, O_alloc, O_box, O_extract, extract_tup, wrote_some, O_store, store_agg, fillU_zero, fillU_succ, List.append_assoc, List.length_append, List.append_nil, List.getElem?_cons_zero, List.getElem?_cons_succ, eq_self, laid_agg, box_some, r8, List.length_replicate, Nat.reduceAdd, u1, hck, hne, w1, w2, Q_retE4, cells4E_ptr, out4E_some]
    unfold LocalR
    rw [hr, if_neg (by simp)]
    exact ⟨rfl, finish_pre (u3.set (by omega) _) rfl⟩
  · have hz : ((checkV [code]).2.2 != 0) = false := by
      unfold rightC at hr; rw [bne, hr]; rfl
    have rc := rightC_rc hr
    have hf := rc.fwd
    have h8 := rc.len
    have LR : LocalR code R rd h = fun v h' => match localV code R rd with
      | none => v = tup [agg (List.replicate 8 (.int .i64 0)), nils, nils, .int .i64 24] ∧ h' = h
      | some t => ∃ evs path, v = tup [agg (regsL t.R), evs, path, .int .i64 0] ∧ Own h h' path 1 (t.path.map intR) ∧ Own h h' evs 15 (t.evs.map evL) ∧ Pre h h' := by
      funext v h'; unfold LocalR; rw [if_pos hr]; cases localV code R rd <;> rfl
    have gB := rr_at (n := 8) k0 r8
    have lenR : ∀ K, lenO K rdv = some (.int .i64 rd.length, K) := hrd.len
    have fth := fill_th ca cn cm hR
    simp only [c_belatedref3_Local, C_ops, normal_some, E_nil, E_cons, next_some, ev_tmp, ev_const, get_succ, get_zero, List.set_cons_succ, List.set_cons_zero, O_mv, O_mkRow, mk_some, partsV_nil, partsV_cons, zeros_zero, zeros_succ, fill_nil, fill_slice, Nat.lt_add_one, List.cons_append, List.nil_append, List.length_cons, List.length_nil, Nat.reduceAdd, Nat.reduceSub, Nat.zero_add, W_some, W_seq, Q_cont_normal, slc, O_append, O_alloc, O_box, fillU_zero, fillU_succ, List.append_assoc, List.length_append, List.append_nil, eq_self, laid_agg, box_some, r8, List.replicate_succ, List.replicate_zero, Nat.reduceAdd]
    simp only [show ([.int .i64 0, .int .i64 0, .int .i64 0, .int .i64 0, .int .i64 0, .int .i64 0, .int .i64 0, .int .i64 0] : List Value) = List.replicate 8 (.int .i64 0) from rfl]
    simp only [C_ops, C_cond, D_skip, normal_some, cond_ff, E_nil, E_cons, next_some, ev_tmp, ev_const, get_succ, get_zero, List.set_cons_succ, List.set_cons_zero, O_mv, O_bin, pairO, O_call, List.map_cons, List.map_nil, O_load, load_ptr, O_build, build_some, partsV_nil, partsV_cons, B_neq, W_some, W_seq, W_block, Q_cont_normal, O_box, O_extract, extract_tup, Option.map_some, List.getElem?_cons_zero, List.getElem?_cons_succ, eq_self, laid_agg, box_some, u1, hck, hz, gB, fth, th_len hR]
    obtain ⟨pt, hpt⟩ : ∃ pt, pt = K0.length := ⟨_, rfl⟩
    rw [← hpt]
    refine for_wp code.length (fun k st => ∃ (s : LS) (K : Heap) (path evs : Value) (n : Nat) (j : Nat → Value), st = ⟨[.slice ca cn cm, j 1, rdv, j 3, j 4, j 5, .pointer (some ⟨h.length + 1, 0, some 0⟩), j 7, j 8, j 9, j 10, j 11, j 12, j 13, .pointer (some ⟨pt, 0, some 0⟩), evs, .int .i64 (n : Int), j 17, j 18, j 19, j 20, j 21, j 22, j 23, j 24, j 25, j 26, j 27, j 28, j 29, j 30, j 31, j 32, j 33, j 34, j 35, j 36, j 37, j 38, j 39, j 40, j 41, j 42, j 43, j 44, j 45, j 46, j 47, j 48, j 49, j 50, j 51, j 52, j 53, j 54, j 55, j 56, j 57, j 58, j 59, j 60, j 61, j 62, j 63, j 64, j 65, j 66, j 67, j 68, j 69], K⟩ ∧ LJ h pt (.slice ca cn cm) code (localV code R rd) rd s K path evs n ∧ k ≤ s.pc) ?_ ?_ _ ?_
    · rintro k st hk ⟨s, K, path, evs, n, j, rfl, lj, hks⟩
      obtain ⟨v, H, eP, t, path', b, rfl, tl, kx, i1, i2, i3, i4, i5, i6, i7, i8, i9⟩ := ref_Plain_c hc rc lj.lt lj.le lj.sp
      have wt : WL t := i9 WL (fun a b i hi hs wa => wa.step (wI i (List.mem_of_getElem? hi)) hs) lj.w
      have lj' := lj.go tl kx i1 i2 i3 i5 i6 i4 wt
      cases b with
      | false =>
        have i8 := i8 rfl
        have LH' := tl.th
        have kO : H[h.length + 1]? = some (.cells (List.replicate 8 (.int .i64 0)) 0 false) := kx.kept _ _ lj.np lj.cp lj.ou
        have gR := rr_mid (n := 8) tl.th (th_regs tl.R8) (by rw [th_len tl.R8]; omega)
        have gP : Heap.read1 H ⟨pt, 10, some 0⟩ = some path' := by rw [rs_at tl.th, th_10 tl.R8]
        obtain ⟨pa, pn, pm, rfl⟩ := tl.pa.shape
        have rl8 : (regsL t.R).length = 8 := by rw [regsL_len, tl.R8]
        have wO := ww_all (xs := regsL t.R) kO (by rw [rl8]; simp)
        have npt : (h.length + 1 = pt) = False := eq_false lj.np
        have rO := rr_same (K := H) (b := h.length + 1) (l := regsL t.R) (n := 8) (List.getElem?_eq_some_iff.1 kO).1 rl8
        simp only [C_ops, C_cond, D_exit, D_ret, normal_some, cond_ff, E_nil, E_cons, next_some, next_none, ev_tmp, ev_const, get_succ, get_zero, List.set_cons_succ, List.set_cons_zero, O_mv, pairO, O_call, List.map_cons, List.map_nil, O_load1, load1_ptr, O_load, load_ptr, Nat.zero_add, W_some, W_seq, Q_cont_normal, Q_cont_exit, Q_block_exit, O_off, off_ptr, wrote_some, O_store, store_agg, O_nilCheck, nilCheck_ptr, Option.map_some, again1_slice, eq_self, O_again1, Q_for_exit, eP, gR, rl8, gP, wO, rs_ne, npt, rO, Q_retE4, cells4E_ptr, out4E_some]
        obtain ⟨f1, f2⟩ := lj.fin kx tl i1 i2 (by omega)
        rw [LR]
        simp only [f1]
        exact f2
      | true =>
        obtain ⟨i, hi, hev⟩ := i7 rfl
        have hpc := (List.getElem?_eq_some_iff.1 hi).1
        obtain ⟨b, o, wv, a1, _, a3⟩ := (hc.pre tl.pre).at hpc
        rw [(List.getElem?_eq_some_iff.1 hi).2] at a3
        have p9 : Heap.read1 H ⟨pt, 9, some 0⟩ = some (.int .i64 t.pc) := by rw [rs_at tl.th, th_9 tl.R8]
        have nle := lj.nle
        have step : ∀ (x : Int) (rest : List Int) (n' : Nat), (readsV i = true → t.rd = x :: rest ∧ W x) → ∀ u, stepV i t = some u → u.rd = rd.drop n' → n' ≤ rd.length →
            ∃ (H2 H3 : Heap) (path2 evs' : Value), DF FF n_belatedref3_Thread_Step [.pointer (some ⟨pt, 0, some 0⟩), .int .i64 x] H = some (agg (evL (evV i t)), H2) ∧
              appendTo (H2 ++ [.cells (evL (evV i t)) 0 false]) 15 96 evs (srcOf (H2 ++ [.cells (evL (evV i t)) 0 false]) 15 (.slice (some ⟨H2.length, 0, some 0⟩) 1 15)) = some (evs', H3) ∧
              LJ h pt (.slice ca cn cm) code (localV code R rd) rd u H3 path2 evs' n' ∧ t.pc < u.pc := by
          intro x rest n' hx u hu hrd' hn'
          obtain ⟨v, H2, e1, rfl, path2, l2, kx2⟩ := ref_Step_c hc rc tl hi hev hx wt.1 (wI i (List.mem_of_getElem? hi)) i6 hu
          have hw := step_fwd hf hi hu
          have ev2 : Own h H2 evs 15 (t.evs.map evL) := lj'.ev.keep fun b hb o ho => kx2.kept b o (by rintro rfl; exact lj'.ep hb) (fun hp => lj'.ap b hp hb) ho
          obtain ⟨evs', H3, y1, y2, y3, y4, y5, y6⟩ := ev2.push l2.pre (row := evL (evV i t)) (bytes := 96) (evL_len _) (by rw [List.length_map]; have := lj'.se; unfold roomFor; omega)
          have hlo' : h.length + 1 < H.length := (List.getElem?_eq_some_iff.1 lj'.ou).1
          have hle2 := kx2.le
          have cp2 : blk path2 ≠ some (h.length + 1) := by
            rcases kx2.new with h | ⟨j, h, h'⟩
            · rw [h]; exact lj'.cp
            · rw [h]; simp; omega
          have ap2 : ∀ b, blk path2 = some b → blk evs ≠ some b := by
            intro b hb hev
            rcases kx2.new with h | ⟨j, h, h'⟩
            · exact lj'.ap b (h ▸ hb) hev
            · rw [h] at hb; have := (lj'.ev.lt hev).2; simp at hb; omega
          have ou2 := kx2.kept _ _ lj'.np lj'.cp lj'.ou
          have ue : u.evs = t.evs ++ [evV i t] ∧ u.path.length = t.path.length + 1 := by
            unfold stepV at hu
            split at hu
            · cases hu
            · cases hu
              exact ⟨by first | rfl | (show (if isEv i then _ else _) = _; rw [hev]; rfl), by simp⟩
          have hse := lj'.se
          refine ⟨H2, H3, path2, evs', e1, y1, ⟨⟨y3, l2.hp, l2.R8, y5 _ _ l2.th lj'.ep, l2.pa.keep fun b hb o ho => y5 _ _ ho (ap2 b hb), l2.cp⟩, by rw [ue.1, List.map_append]; exact y2, y5 _ _ ou2 lj'.eo, lj'.np, ?_, ?_, cp2, ?_, ?_, hrd', hn', hw.2, by omega, by rw [ue.1]; simp; omega, wt.step (wI i (List.mem_of_getElem? hi)) hu⟩, hw.1⟩
          · rcases y6 with h | ⟨j, h, h'⟩
            · rw [h]; exact lj'.ep
            · rw [h]; have := l2.lt; simp; omega
          · rcases y6 with h | ⟨j, h, h'⟩
            · rw [h]; exact lj'.eo
            · rw [h]; simp; omega
          · intro b hb
            rcases y6 with h | ⟨j, h, h'⟩
            · rw [h]; exact ap2 b hb
            · rw [h]; have := (l2.pa.lt hb).2; simp; omega
          · rw [← lj'.tot, endV_step hf hi, hu]; rfl
        cases hrs : readsV i
        · have hu : ∃ u, stepV i t = some u ∧ u.rd = t.rd := by
            refine ⟨⟨nextV i t, regsN i t, t.rd, t.path ++ [(t.pc : Int)], if isEv i then t.evs ++ [evV i t] else t.evs⟩, ?_, rfl⟩
            unfold stepV; rw [hrs, if_neg (by simp)]; rfl
          obtain ⟨u, hu, hur⟩ := hu
          obtain ⟨H2, H3, path2, evs', e1, y1, lj2, hlt⟩ := step 0 [] n (by rw [hrs]; simp) u hu (hur.trans lj'.rd) nle
          simp only [evL] at e1 y1
          simp only [C_ops, C_cond, D_skip, normal_some, cond_tt, cond_ff, E_nil, E_cons, next_some, ev_tmp, ev_const, get_succ, get_zero, List.set_cons_succ, List.set_cons_zero, O_mv, pairO, O_call, List.map_cons, List.map_nil, O_atRow, O_load1, load1_ptr, O_load, load_ptr, O_mkRow, mk_some, partsV_nil, partsV_cons, zeros_zero, zeros_succ, List.length_cons, List.length_nil, Nat.reduceAdd, Nat.zero_add, W_some, W_seq, W_block, Q_cont_normal, Q_block_normal, slc, O_append, O_off, off_ptr, O_nilCheck, nilCheck_ptr, List.append_nil, Option.map_some, Q_for_normal, eP, p9, a1, a3, ref_Reads_c, hrs, e1, fill_15, List.replicate_succ, List.replicate_zero, y1]
          exact ⟨u, H3, path2, evs', n, junkA rfl ⟨lj2, by omega⟩⟩
        · by_cases hn : n = rd.length
          · have hz : ((n : Int) == (rd.length : Int)) = true := by rw [hn]; simp
            have hnil : t.rd = [] := by rw [lj'.rd, hn]; exact List.drop_length
            have hnone : localV code R rd = none := by
              rw [← lj'.tot, endV_step hf hi]
              unfold stepV; rw [if_pos ⟨hrs, hnil⟩]; rfl
            have w1 := ww_all (xs := List.replicate 8 (Value.int .i64 0)) lj'.ou rfl
            have w2 := rr_same (K := H) (b := h.length + 1) (l := List.replicate 8 (Value.int .i64 0)) (n := 8) (List.getElem?_eq_some_iff.1 lj'.ou).1 z8
            simp only [C_ops, C_cond, D_ret, D_skip, normal_some, cond_tt, E_nil, E_cons, next_some, next_none, ev_tmp, ev_const, get_succ, get_zero, List.set_cons_succ, List.set_cons_zero, O_mv, O_bin, pairO, O_call, List.map_cons, List.map_nil, O_len, O_atRow, O_load1, load1_ptr, O_load, load_ptr, O_build, build_some, partsV_nil, fill_nil, B_eql, Nat.zero_add, W_some, W_seq, W_block, Q_cont_normal, Q_cont_ret, Q_block_ret, O_off, off_ptr, wrote_some, O_store, store_agg, O_nilCheck, nilCheck_ptr, Option.map_some, eq_self, Q_for_ret, eP, p9, a1, a3, ref_Reads_c, hrs, lenR, hz, List.length_replicate, w1, w2, Q_retE4, cells4E_ptr, out4E_some]
            rw [LR]
            simp only [hnone]
            exact ⟨rfl, finish_pre (tl.pre.set (by omega) _) rfl⟩
          · have hz : ((n : Int) == (rd.length : Int)) = false := by simp; omega
            have hnl : n < rd.length := by omega
            obtain ⟨rb, ro, rv, q1, _, q3⟩ := (hrd.pre tl.pre).at hnl
            have hcons : t.rd = rd[n] :: rd.drop (n + 1) := by rw [lj'.rd]; exact List.drop_eq_getElem_cons hnl
            have hu : ∃ u, stepV i t = some u ∧ u.rd = rd.drop (n + 1) := by
              unfold stepV
              rw [if_neg (by rintro ⟨_, hz⟩; rw [hcons] at hz; cases hz)]
              exact ⟨_, rfl, by show (if readsV i then t.rd.tail else t.rd) = _; rw [hrs, if_pos rfl, hcons]; rfl⟩
            obtain ⟨u, hu, hur⟩ := hu
            obtain ⟨H2, H3, path2, evs', e1, y1, lj2, hlt⟩ := step rd[n] (rd.drop (n + 1)) (n + 1) (fun _ => ⟨hcons, wrd _ (List.getElem_mem _)⟩) u hu hur (by omega)
            simp only [evL] at e1 y1
            simp only [C_ops, C_cond, D_skip, normal_some, cond_tt, cond_ff, E_nil, E_cons, next_some, ev_tmp, ev_const, get_succ, get_zero, List.set_cons_succ, List.set_cons_zero, O_mv, O_bin, pairO, O_call, List.map_cons, List.map_nil, O_len, O_atRow, O_load1, load1_ptr, O_load, load_ptr, O_mkRow, mk_some, partsV_nil, partsV_cons, zeros_zero, zeros_succ, B_add, B_eql, List.length_cons, List.length_nil, Nat.reduceAdd, Nat.zero_add, W_some, W_seq, W_block, Q_cont_normal, Q_block_normal, slc, O_append, O_off, off_ptr, O_nilCheck, nilCheck_ptr, List.append_nil, Option.map_some, Q_for_normal, eP, p9, a1, a3, ref_Reads_c, hrs, lenR, hz, q1, q3, wrap_nat (k := n) (by omega), e1, fill_15, List.replicate_succ, List.replicate_zero, y1]
            exact ⟨u, H3, path2, evs', n + 1, junkA rfl ⟨lj2, by omega⟩⟩
    · rintro st ⟨s, K, path, evs, n, j, rfl, lj, hks⟩
      obtain ⟨v, H, eP, t, path', b, rfl, tl, kx, i1, i2, i3, i4, i5, i6, i7, i8, i9⟩ := ref_Plain_c hc rc lj.lt lj.le lj.sp
      cases b with
      | true =>
        obtain ⟨i, hi, hev⟩ := i7 rfl
        have hpc := (List.getElem?_eq_some_iff.1 hi).1
        omega
      | false =>
        have i8 := i8 rfl
        have LH' := tl.th
        have kO : H[h.length + 1]? = some (.cells (List.replicate 8 (.int .i64 0)) 0 false) := kx.kept _ _ lj.np lj.cp lj.ou
        have gR := rr_mid (n := 8) tl.th (th_regs tl.R8) (by rw [th_len tl.R8]; omega)
        have gP : Heap.read1 H ⟨pt, 10, some 0⟩ = some path' := by rw [rs_at tl.th, th_10 tl.R8]
        obtain ⟨pa, pn, pm, rfl⟩ := tl.pa.shape
        have rl8 : (regsL t.R).length = 8 := by rw [regsL_len, tl.R8]
        have wO := ww_all (xs := regsL t.R) kO (by rw [rl8]; simp)
        have npt : (h.length + 1 = pt) = False := eq_false lj.np
        have rO := rr_same (K := H) (b := h.length + 1) (l := regsL t.R) (n := 8) (List.getElem?_eq_some_iff.1 kO).1 rl8
        simp only [C_ops, C_cond, D_exit, D_ret, normal_some, cond_ff, E_nil, E_cons, next_some, next_none, ev_tmp, ev_const, get_succ, get_zero, List.set_cons_succ, List.set_cons_zero, O_mv, pairO, O_call, List.map_cons, List.map_nil, O_load1, load1_ptr, O_load, load_ptr, Nat.zero_add, W_some, W_seq, Q_cont_normal, Q_cont_exit, Q_block_exit, O_off, off_ptr, wrote_some, O_store, store_agg, O_nilCheck, nilCheck_ptr, Option.map_some, again1_slice, eq_self, O_again1, Q_for_exit, eP, gR, rl8, gP, wO, rs_ne, npt, rO, Q_retE4, cells4E_ptr, out4E_some]
        obtain ⟨f1, f2⟩ := lj.fin kx tl i1 i2 (by omega)
        rw [LR]
        simp only [f1]
        exact f2
    · refine ⟨startV R rd, K0 ++ [.cells (thL (.slice ca cn cm) R 0 (.slice none 0 0)) 0 false], _, _, 0, junkA rfl ⟨⟨⟨u3.more _, by rw [hpt]; exact u3.le, hR, by rw [hpt]; simp [startV], Own.nil _ _ _, by simp [blk]⟩, Own.nil _ _ _, (Kept.more K0 _) _ _ k1, by omega, by simp [blk], by simp [blk], by simp [blk], by simp [blk], rfl, rfl, Nat.zero_le _, Nat.zero_le _, Nat.le_refl _, Nat.le_refl _, ⟨wR, wrd⟩⟩, Nat.zero_le _⟩⟩
end Go.Proofs.Ytjodnadlplicmaa.AM
