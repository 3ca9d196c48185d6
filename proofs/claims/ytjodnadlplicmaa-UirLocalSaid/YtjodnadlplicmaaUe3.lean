/-
  The document's thread: past an event.
  Conditions: the code is right; what is read and what the registers hold is in int's range.
-/
import Derived.Test.YtjodnadlplicmaaUe2
namespace Go.Proofs.Ytjodnadlplicmaa.AM
open Go.RowKit
set_option linter.unusedSimpArgs false
set_option linter.unusedVariables false

def out1E (R : Value → Heap → Prop) (h H : Heap) : Option (List Value) → Prop
  | some l => R (agg l) (finish h (agg l) H)
  | none => False
def cells1E (R : Value → Heap → Prop) (h H : Heap) (n : Nat) : Value → Prop
  | .pointer (some p) => out1E R h H (H.read p n)
  | _ => False
theorem Q_retE1 (h H : Heap) (i n : Nat) (t : List Value) (R : Value → Heap → Prop) : retE h [.cells i n] R .ret ⟨t, H⟩ = cells1E R h H n (t.getD i undef) := by
  unfold retE
  apply propext
  simp only [endF, aResults, aRes]
  generalize t.getD i undef = x
  cases x with
  | pointer p =>
    cases p with
    | none => simp [cells1E]
    | some p =>
      simp only [cells1E]
      cases hr : H.read p n with
      | none => simp [out1E]
      | some l =>
        simp only [out1E]
        constructor
        · rintro ⟨v, h', e, r⟩
          simp at e
          obtain ⟨rfl, rfl⟩ := e
          exact r
        · intro r
          exact ⟨_, _, by simp, r⟩
  | _ => simp [cells1E]
theorem Q_retE1n (h H : Heap) (i n : Nat) (t : List Value) (R : Value → Heap → Prop) : retE h [.cells i n] R .normal ⟨t, H⟩ = cells1E R h H n (t.getD i undef) := by
  rw [← Q_retE1]; rfl
theorem cells1E_ptr (R : Value → Heap → Prop) (h H : Heap) (n : Nat) (p : Addr) : cells1E R h H n (.pointer (some p)) = out1E R h H (H.read p n) := rfl
theorem out1E_some (R : Value → Heap → Prop) (h H : Heap) (l : List Value) : out1E R h H (some l) = R (agg l) (finish h (agg l) H) := rfl
theorem W_reg {R : List Int} (h : ∀ y ∈ R, W y) (r : Int) : W (reg R r) := by
  unfold reg
  rw [List.getD_eq_getElem?_getD]
  cases hr : R[r.toNat]? with
  | none => show W 0; unfold W; omega
  | some y => exact h y (List.mem_of_getElem? hr)
theorem W_datum {i : Ins} {R : List Int} (h : ∀ y ∈ R, W y) (hI : W i.imm) : W (datumV i R) := by
  unfold datumV
  split
  · exact hI
  · unfold valR
    split
    · unfold W; omega
    · exact W_reg h _
theorem LT.setO {h K : Heap} {pt : Nat} {c : Value} {s : LS} {path : Value} (e : LT h pt c s K path) {p : Nat} (hp : h.length ≤ p) (o : AObj) (n1 : (p = pt) = False) (n2 : blk path ≠ some p) : LT h pt c s (K.set p o) path :=
  have f1 : p ≠ pt := by rw [ne_eq, n1]; exact not_false
  ⟨e.pre.set hp o, e.hp, e.R8, by rw [List.getElem?_set_ne f1]; exact e.th, e.pa.keep fun b hb o' ho => by rw [List.getElem?_set_ne (by rintro rfl; exact n2 hb)]; exact ho, e.cp⟩
theorem LT.setT {h K : Heap} {pt : Nat} {c : Value} {s : LS} {path : Value} (e : LT h pt c s K path) {R : List Int} (hR : R.length = 8) : LT h pt c ⟨s.pc, R, s.rd, s.path, s.evs⟩ (K.set pt (.cells (thL c R s.pc path) 0 false)) path :=
  ⟨e.pre.set e.hp _, e.hp, hR, by rw [List.getElem?_set_self e.lt], e.pa.keep fun b hb o' ho => by rw [List.getElem?_set_ne (by rintro rfl; exact e.cp hb)]; exact ho, e.cp⟩
def zero15 : List Value := [.int .i64 0, .int .i64 0, .int .i64 0, .int .i64 0, .int .i64 0, .int .i64 0, .bool false, .bool false, .int .i64 0, .int .i64 0, .bool false, .bool false, .bool false, .int .i64 0, .int .i64 0]
/-- The end of a step: the path has grown in E; the event is handed over. -/
theorem LT.end {h K N E : Heap} {pt : Nat} {c : Value} {s : LS} {path : Value} (l0 : LT h pt c s K path) {R : List Int} {ev : List Value}
    (le : LT h pt c ⟨s.pc, R, s.rd, s.path, s.evs⟩ E path) (hE : ∀ (j : Nat) (o : AObj), j ≠ pt → K[j]? = some o → E[j]? = some o) (e0 : E[K.length]? = some (.cells zero15 0 false)) (e2 : E[K.length + 2]? = some (.cells ev 0 false)) (hev : ev.length = 15) (hfl : flat (agg ev) = true) (hn : s.path.length < 1000) :
    ∃ (a : Option Addr) (n m : Nat) (K2 : Heap), appendTo (E ++ [.cells [.int .i64 s.pc] 0 false]) 1 8 path (srcOf (E ++ [.cells [.int .i64 s.pc] 0 false]) 1 (.slice (some ⟨E.length, 0, some 0⟩) 1 1)) = some (.slice a n m, K2.set pt (.cells (thL c R s.pc path) 0 false)) ∧ pt < K2.length ∧
      Heap.read (K2.set pt (.cells (thL c R ((s.pc + 1 : Nat) : Int) (.slice a n m)) 0 false)) ⟨K.length + 2, 0, some 0⟩ 15 = some ev ∧
      Heap.write (K2.set pt (.cells (thL c R ((s.pc + 1 : Nat) : Int) (.slice a n m)) 0 false)) ⟨K.length, 0, some 0⟩ ev = some ((K2.set pt (.cells (thL c R ((s.pc + 1 : Nat) : Int) (.slice a n m)) 0 false)).set K.length (.cells ev 0 false)) ∧
      Heap.read ((K2.set pt (.cells (thL c R ((s.pc + 1 : Nat) : Int) (.slice a n m)) 0 false)).set K.length (.cells ev 0 false)) ⟨K.length, 0, some 0⟩ 15 = some ev ∧
      ∀ (rd : List Int) (evs : List Ev), LT h pt c ⟨s.pc + 1, R, rd, s.path ++ [(s.pc : Int)], evs⟩ (AM.finish K (agg ev) ((K2.set pt (.cells (thL c R ((s.pc + 1 : Nat) : Int) (.slice a n m)) 0 false)).set K.length (.cells ev 0 false))) (.slice a n m) ∧
        KeptX pt K path (AM.finish K (agg ev) ((K2.set pt (.cells (thL c R ((s.pc + 1 : Nat) : Int) (.slice a n m)) 0 false)).set K.length (.cells ev 0 false))) (.slice a n m) := by
  obtain ⟨a, n, m, K2, u1, hlt, lgo, kold⟩ := le.go (s.pc : Int) hn
  have hpt : pt < K.length := l0.lt
  have hpl : ∀ b, blk path = some b → b < K.length := fun b hb => (l0.pa.lt hb).2
  have k0 := kold _ _ (show K.length ≠ pt by omega) (fun h => by have := hpl _ h; omega) e0
  have k2 := kold _ _ (show K.length + 2 ≠ pt by omega) (fun h => by have := hpl _ h; omega) e2
  have t0 : (pt = K.length) = False := eq_false (by omega)
  have t2 : (pt = K.length + 2) = False := eq_false (by omega)
  have t0' : (K.length = pt) = False := eq_false (by omega)
  have hlE : K.length + 2 < E.length := (List.getElem?_eq_some_iff.1 e2).1
  have g0 : (K2.set pt (.cells (thL c R ((s.pc + 1 : Nat) : Int) (.slice a n m)) 0 false))[K.length]? = some (.cells zero15 0 false) := by rw [List.getElem?_set_ne (by omega)]; exact k0
  refine ⟨a, n, m, K2, u1, hlt, ?_, ww_all g0 (by rw [hev]; rfl), ?_, fun rd evs => ?_⟩
  · rw [rr_ne t2]; exact rr_at k2 hev
  · exact rr_same (List.getElem?_eq_some_iff.1 g0).1 hev
  · obtain ⟨l1, x1⟩ := lgo (s.pc + 1) R rd evs le.R8
    have np : blk (.slice a n m) ≠ some K.length := by
      rcases x1.new with h | ⟨j, h, h'⟩
      · rw [h]; exact fun h => by have := hpl _ h; omega
      · rw [h]; simp; omega
    have l2 := l1.setO (p := K.length) l0.pre.le (.cells ev 0 false) t0' np
    have hfin : AM.finish K (agg ev) ((K2.set pt (.cells (thL c R ((s.pc + 1 : Nat) : Int) (.slice a n m)) 0 false)).set K.length (.cells ev 0 false)) = (K2.set pt (.cells (thL c R ((s.pc + 1 : Nat) : Int) (.slice a n m)) 0 false)).set K.length (.cells ev 0 false) := by
      unfold AM.finish
      rw [if_neg]
      rintro ⟨_, hc⟩
      have e := congrArg (fun l : Heap => l[pt]?) hc
      rw [List.getElem?_take, if_pos hpt] at e
      have e' := l2.th.symm.trans (e.trans l0.th)
      have e2 : thL c R ((s.pc + 1 : Nat) : Int) (.slice a n m) = thL c s.R s.pc path := by simpa using e'
      have e3 := th_9 (c := c) (q := .slice a n m) (p := ((s.pc + 1 : Nat) : Int)) le.R8
      rw [e2, th_9 l0.R8] at e3
      have : (s.pc : Int) = ((s.pc + 1 : Nat) : Int) := by simpa using e3
      omega
    rw [hfin]
    refine ⟨l2, fun j o hj hp ho => ?_, by have := x1.le; rw [List.length_set]; omega, ?_⟩
    · have hjl := (List.getElem?_eq_some_iff.1 ho).1
      rw [List.getElem?_set_ne (by omega)]
      exact x1.kept j o hj hp (hE j o hj ho)
    · rcases x1.new with h | ⟨j, h, h'⟩
      · exact .inl h
      · exact .inr ⟨j, h, by omega⟩
theorem splice_all {l xs : List Value} (hl : l.length = xs.length) : splice l 0 xs = xs := by
  unfold splice
  rw [List.take_zero, List.nil_append, Nat.zero_add, List.drop_eq_nil_of_le (Nat.le_of_eq hl), List.append_nil]
theorem evL_flat (e : Ev) : flat (agg (evL e)) = true := rfl
set_option maxHeartbeats 16000000 in
set_option maxRecDepth 50000 in
theorem ref_Step_c {h K : Heap} {pt : Nat} {c : Value} {code : List Ins} {s : LS} {path : Value} (hc : InsSl h c code) (rc : RC code) (l0 : LT h pt c s K path) {i : Ins} (hi : code[s.pc]? = some i) (hev : isEv i = true) {x : Int} {rest : List Int} (hx : readsV i = true → s.rd = x :: rest ∧ W x)
    (hW : ∀ y ∈ s.R, W y) (hI : W i.imm) (hsp : s.path.length ≤ s.pc) {t : LS} (ht : stepV i s = some t) :
    ∃ v H, DF FF n_belatedref3_Thread_Step [.pointer (some ⟨pt, 0, some 0⟩), .int .i64 x] K = some (v, H) ∧ (v = agg (evL (evV i s)) ∧ ∃ path', LT h pt c t H path' ∧ KeptX pt K path H path') := by
  refine fun_wpE F_belatedref3_Thread_Step ?_
  have h8 := rc.len
  have hpc := (List.getElem?_eq_some_iff.1 hi).1
  obtain ⟨ca, cn, cm, rfl⟩ := hc.shape
  obtain ⟨qa, qn, qm, rfl⟩ := l0.pa.shape
  have R8 := l0.R8
  have r0 : ∀ L, Heap.read1 (K ++ L) ⟨pt, 0, some 0⟩ = some (.slice ca cn cm) := fun L => by rw [rs_at ((Kept.more K L) _ _ l0.th), th_0]
  have r9 : ∀ L, Heap.read1 (K ++ L) ⟨pt, 9, some 0⟩ = some (.int .i64 s.pc) := fun L => by rw [rs_at ((Kept.more K L) _ _ l0.th), th_9 R8]
  have r10 : ∀ L, Heap.read1 (K ++ L) ⟨pt, 10, some 0⟩ = some (.slice qa qn qm) := fun L => by rw [rs_at ((Kept.more K L) _ _ l0.th), th_10 R8]
  obtain ⟨b, o, wv, a1, a2, _⟩ := (hc.pre l0.pre).at hpc
  have hie : code[s.pc] = i := (List.getElem?_eq_some_iff.1 hi).2
  have kind := okI_kind (rightV_ok (rc.all _ hpc))
  rw [hie] at a2 kind
  have lenP : ∀ K, lenO K (.slice qa qn qm) = some (.int .i64 s.path.length, K) := fun K => by rw [l0.pa.len, List.length_map]
  have pcw := wrap_nat (k := s.pc) (by omega)
  simp only [c_belatedref3_Thread_Step, C_ops, normal_some, E_nil, E_cons, next_some, next_none, ev_tmp, get_succ, get_zero, List.set_cons_succ, List.set_cons_zero, O_mv, pairO, O_call, List.map_cons, List.map_nil, O_len, O_atRow, O_load1, load1_ptr, O_load, load_ptr, List.cons_append, List.nil_append, List.length_cons, List.length_nil, Nat.reduceAdd, Nat.reduceSub, Nat.zero_add, W_some, W_seq, Q_cont_normal, O_alloc, O_off, off_ptr, wrote_some, O_store, store_agg, O_nilCheck, nilCheck_ptr, read1_skip, read1_next, read1_there, read_skip, read_next, read_there, pre_some, cons_some, write_skip, write_next, write_there, fillU_zero, fillU_succ, List.append_assoc, List.length_append, Nat.add_zero, Option.map_some, eq_self, List.replicate_succ, List.replicate_zero, r0, r9, r10, lenP, a1, a2, insL_len, insL_0, insL_10, insL_11, insL_12, insL_13, insL_14]
  obtain ⟨N, hN, lN, n0, n1, hlt, kN⟩ : ∃ N : Heap, K ++ [.cells [.int .i64 0, .int .i64 0, .int .i64 0, .int .i64 0, .int .i64 0, .int .i64 0, .bool false, .bool false, .int .i64 0, .int .i64 0, .bool false, .bool false, .bool false, .int .i64 0, .int .i64 0] 0 false, .cells (insL i) 0 false, .cells [.int .i64 0, .int .i64 0, .int .i64 0, .int .i64 0, .int .i64 0, .int .i64 0, .bool false, .bool false, .int .i64 0, .int .i64 0, .bool false, .bool false, .bool false, .int .i64 0, .int .i64 0] 0 false] = N.set (K.length + 2) (.cells [.int .i64 0, .int .i64 0, .int .i64 0, .int .i64 0, .int .i64 0, .int .i64 0, .bool false, .bool false, .int .i64 0, .int .i64 0, .bool false, .bool false, .bool false, .int .i64 0, .int .i64 0] 0 false) ∧ LT h pt (.slice ca cn cm) s N (.slice qa qn qm) ∧ N[K.length]? = some (.cells zero15 0 false) ∧ N[K.length + 1]? = some (.cells (insL i) 0 false) ∧ K.length + 2 < N.length ∧ ∀ (j : Nat) (o : AObj), K[j]? = some o → N[j]? = some o :=
    ⟨_, (set_self (by rw [List.getElem?_append_right (by omega)]; simp)).symm, l0.more _, by simp [zero15], by rw [List.getElem?_append_right (by omega)]; simp, by simp, Kept.more K _⟩
  rw [hN]
  have hpt : pt < K.length := l0.lt
  have hpl : ∀ b, blk (.slice qa qn qm) = some b → b < K.length := fun b hb => (l0.pa.lt hb).2
  have z1 : (K.length + 2 = pt) = False := eq_false (by omega)
  have z2 : (K.length + 2 = K.length + 1) = False := eq_false (by omega)
  have z3 : (pt = K.length + 1) = False := eq_false (by omega)
  have z4 : (pt = K.length + 2) = False := eq_false (by omega)
  have hltN : pt < N.length := lN.lt
  have iI := fun j => rs_at (j := j) n1
  have iI17 := rr_at (n := 17) n1 (insL_len i)
  have p0 : Heap.read1 N ⟨pt, 0, some 0⟩ = some (.slice ca cn cm) := by rw [rs_at lN.th, th_0]
  have p9 : Heap.read1 N ⟨pt, 9, some 0⟩ = some (.int .i64 s.pc) := by rw [rs_at lN.th, th_9 R8]
  have p10 : Heap.read1 N ⟨pt, 10, some 0⟩ = some (.slice qa qn qm) := by rw [rs_at lN.th, th_10 R8]
  have lE : ∀ e, LT h pt (.slice ca cn cm) s (N.set (K.length + 2) (.cells e 0 false)) (.slice qa qn qm) := fun e => lN.setO (by have := l0.pre.le; omega) _ z1 (fun h => by have := hpl _ h; omega)
  have kE : ∀ e (j : Nat) (o : AObj), K[j]? = some o → (N.set (K.length + 2) (.cells e 0 false))[j]? = some o := fun e j o ho => by
    have := (List.getElem?_eq_some_iff.1 ho).1
    rw [List.getElem?_set_ne (by omega)]; exact kN j o ho
  cases kind with
  | const hh d =>
    exact absurd hev (by unfold isEv memV readsV writesV; rw [hh]; decide)
  | move hh d a =>
    exact absurd hev (by unfold isEv memV readsV writesV; rw [hh]; decide)
  | alu hh d a b_ =>
    exact absurd hev (by unfold isEv memV readsV writesV; rw [hh]; decide)
  | load hh d x_ =>
    have kop := hh
    have kr : readsV i = true := by unfold readsV; rw [hh]; rfl
    have kw : writesV i = false := by unfold writesV; rw [hh]; rfl
    have km : memV i = true := by unfold memV; rw [kr, kw]; rfl
    have kg : givesV i = i.dst := by unfold givesV; rw [hh]; rfl
    obtain ⟨hrd, hWx⟩ := hx kr
    have cW : ∀ e, DF FF n_belatedref3_Thread_Where [.pointer (some ⟨pt, 0, some 0⟩), agg (insL i)] (N.set (K.length + 2) (.cells e 0 false)) = some (agg [.int .i64 i.loc, .int .i64 (spanV i s.R)], N.set (K.length + 2) (.cells e 0 false)) := fun e => ref_Where_c (lE e).th R8 x_
    have aD := d.arr1 pt
    have lD := d.lt
    have wN : ∀ e y, Heap.write1 (N.set (K.length + 2) (.cells e 0 false)) ⟨pt, 1 + i.dst.toNat, some 0⟩ (.int .i64 y) = some ((N.set (K.length + 2) (.cells e 0 false)).set pt (.cells (thL (.slice ca cn cm) (s.R.set i.dst.toNat y) s.pc (.slice qa qn qm)) 0 false)) := fun e y => by
      rw [ws_at (lE e).th (by rw [th_len R8]; omega), th_sr R8 lD]
    have dn1 : ¬ (i.dst = -1) := by have := d.nn; omega
    have lT := (lE ([.int .i64 0, .int .i64 s.path.length, .int .i64 s.pc, .int .i64 4, .int .i64 i.loc, .int .i64 (spanV i s.R), .bool true, .bool false, .int .i64 (getV x 0 i.size), .int .i64 (0), .bool i.acq, .bool i.weak, .bool i.rel, .int .i64 i.pred, .int .i64 i.succ])).setT (R := s.R.set i.dst.toNat (getV x 0 i.size)) (by rw [List.length_set]; exact R8)
    obtain ⟨pa, pn, pm, K2, u1, v1, v2, v3, v4, v5⟩ := l0.end (N := N) (ev := [.int .i64 0, .int .i64 s.path.length, .int .i64 s.pc, .int .i64 4, .int .i64 i.loc, .int .i64 (spanV i s.R), .bool true, .bool false, .int .i64 (getV x 0 i.size), .int .i64 (0), .bool i.acq, .bool i.weak, .bool i.rel, .int .i64 i.pred, .int .i64 i.succ]) lT (fun j o hj ho => by rw [List.getElem?_set_ne (Ne.symm hj)]; exact kE _ j o ho)
      (by rw [List.getElem?_set_ne (by omega), List.getElem?_set_ne (by omega)]; exact n0) (by rw [List.getElem?_set_ne (by omega), List.getElem?_set_self hlt]) rfl rfl (by omega)
    have R8' : (s.R.set i.dst.toNat (getV x 0 i.size)).length = 8 := by rw [List.length_set]; exact R8
    simp only [List.length_set] at u1
    simp only [C_ops, C_cond, D_ret, D_skip, normal_some, cond_tt, cond_ff, E_nil, E_cons, next_some, next_none, ev_tmp, ev_const, get_succ, get_zero, List.set_cons_succ, List.set_cons_zero, O_mv, O_bin, pairO, O_call, List.map_cons, List.map_nil, O_load1, load1_ptr, O_load, load_ptr, O_mkRow, O_build, mk_some, build_some, partsV_nil, partsV_cons, zeros_zero, zeros_succ, fill_nil, fill_int, fill_bool, Nat.lt_add_one, Nat.reduceLT, B_add, B_eql, List.length_cons, List.length_nil, Nat.reduceAdd, Nat.zero_add, W_some, W_seq, Q_cont_normal, slc, O_append, O_atArr, O_off, off_ptr, wrote_some, O_store1, store1_int, store1_slice, O_store, store_agg, O_nilCheck, nilCheck_ptr, List.append_nil, Nat.add_zero, Option.map_some, List.getElem?_cons_zero, List.getElem?_cons_succ, again1_int, again1_bool, again1_slice, eq_self, O_again, again_agg, O_again1, ref_Reads_c, ref_Writes_c, ref_Memory_c, kr, kw, km, kop, p9, p10, rs_ne, rr_ne, rs_same, ws_same, ww_same, splice_all, splice2, List.length_set, z1, z2, hlt, hltN, iI, iI17, insL_0, insL_1, insL_8, insL_10, insL_11, insL_12, insL_13, insL_14, pcw, Int.reduceBEq, Nat.reduceLeDiff, cW, get11 _ _ _ hWx, aD, wN, u1, v1, v2, v3, v4, R8', th_len, th_9, th_10, th_s9, th_s10, Q_retE1, cells1E_ptr, out1E_some]
    have he : evV i s = ⟨s.path.length, s.pc, 4, i.loc, (spanV i s.R), true, false, getV x 0 i.size, 0, i.acq, i.weak, i.rel, i.pred, i.succ⟩ := by
      simp [evV, oldV, newV, kr, kw, km, hh, hrd]
    rw [he]
    refine ⟨rfl, .slice pa pn pm, ?_⟩
    have h1 := ht
    unfold stepV at h1
    rw [if_neg (by rintro ⟨hr, hz⟩; obtain ⟨h1, _⟩ := hx hr; rw [hz] at h1; cases h1)] at h1
    have e1 : nextV i s = s.pc + 1 := by simp [nextV, hh]
    have e2 : regsN i s = s.R.set i.dst.toNat (getV x 0 i.size) := by
      simp [regsN, kg, dn1, gotV, hh, oldV, kr, hrd]
    rw [e1, e2] at h1
    cases h1
    exact v5 _ _
  | store hh a x_ =>
    have kop := hh
    have kr : readsV i = false := by unfold readsV; rw [hh]; rfl
    have kw : writesV i = true := by unfold writesV; rw [hh]; rfl
    have km : memV i = true := by unfold memV; rw [kr, kw]; rfl
    have kg : givesV i = -1 := by unfold givesV; rw [hh]; rfl
    have cW : ∀ e, DF FF n_belatedref3_Thread_Where [.pointer (some ⟨pt, 0, some 0⟩), agg (insL i)] (N.set (K.length + 2) (.cells e 0 false)) = some (agg [.int .i64 i.loc, .int .i64 (spanV i s.R)], N.set (K.length + 2) (.cells e 0 false)) := fun e => ref_Where_c (lE e).th R8 x_
    have cD : ∀ e, DF FF n_belatedref3_Thread_Datum [.pointer (some ⟨pt, 0, some 0⟩), agg (insL i)] (N.set (K.length + 2) (.cells e 0 false)) = some (.int .i64 (datumV i s.R), N.set (K.length + 2) (.cells e 0 false)) := fun e => ref_Datum_c (lE e).th R8 a
    have wD := W_datum (i := i) hW hI
    have dv : datumV i s.R = valR s.R i.a i.imm := by
      unfold datumV valR
      rcases a with ha | ha
      · rw [if_pos ⟨hh, by omega⟩, if_pos ha]
      · have := ha.nn
        rw [if_neg (by omega), if_neg (by omega), if_neg (by omega)]
    have lT : LT h pt (.slice ca cn cm) ⟨s.pc, s.R, s.rd, s.path, s.evs⟩ (N.set (K.length + 2) (.cells ([.int .i64 0, .int .i64 s.path.length, .int .i64 s.pc, .int .i64 5, .int .i64 i.loc, .int .i64 (spanV i s.R), .bool false, .bool true, .int .i64 (0), .int .i64 (getV (datumV i s.R) 0 i.size), .bool i.acq, .bool i.weak, .bool i.rel, .int .i64 i.pred, .int .i64 i.succ]) 0 false)) (.slice qa qn qm) := lE _
    obtain ⟨pa, pn, pm, K2, u1, v1, v2, v3, v4, v5⟩ := l0.end (N := N) (ev := [.int .i64 0, .int .i64 s.path.length, .int .i64 s.pc, .int .i64 5, .int .i64 i.loc, .int .i64 (spanV i s.R), .bool false, .bool true, .int .i64 (0), .int .i64 (getV (datumV i s.R) 0 i.size), .bool i.acq, .bool i.weak, .bool i.rel, .int .i64 i.pred, .int .i64 i.succ]) lT (fun j o hj ho => kE _ j o ho)
      (by rw [List.getElem?_set_ne (by omega)]; exact n0) (by rw [List.getElem?_set_self hlt]) rfl rfl (by omega)
    have R8' := R8
    simp only [List.length_set] at u1
    simp only [C_ops, C_cond, D_ret, D_skip, normal_some, cond_tt, cond_ff, E_nil, E_cons, next_some, next_none, ev_tmp, ev_const, get_succ, get_zero, List.set_cons_succ, List.set_cons_zero, O_mv, O_bin, pairO, O_call, List.map_cons, List.map_nil, O_load1, load1_ptr, O_load, load_ptr, O_mkRow, O_build, mk_some, build_some, partsV_nil, partsV_cons, zeros_zero, zeros_succ, fill_nil, fill_int, fill_bool, Nat.lt_add_one, Nat.reduceLT, B_add, B_eql, List.length_cons, List.length_nil, Nat.reduceAdd, Nat.zero_add, W_some, W_seq, Q_cont_normal, slc, O_append, O_off, off_ptr, wrote_some, O_store1, store1_int, store1_slice, O_store, store_agg, O_nilCheck, nilCheck_ptr, List.append_nil, Nat.add_zero, Option.map_some, List.getElem?_cons_zero, List.getElem?_cons_succ, again1_int, again1_bool, again1_slice, beq_self_eq_true, eq_self, O_again, again_agg, O_again1, ref_Reads_c, ref_Writes_c, ref_Memory_c, kr, kw, km, kop, p9, p10, rs_ne, rr_ne, rs_same, ws_same, ww_same, splice_all, splice2, List.length_set, z1, z2, hlt, iI, iI17, insL_0, insL_8, insL_10, insL_11, insL_12, insL_13, insL_14, pcw, Int.reduceBEq, Nat.reduceLeDiff, cW, cD, get11 _ _ _ wD, u1, v1, v2, v3, v4, R8', th_len, th_9, th_s9, th_s10, Q_retE1, cells1E_ptr, out1E_some]
    have he : evV i s = ⟨s.path.length, s.pc, 5, i.loc, (spanV i s.R), false, true, 0, getV (datumV i s.R) 0 i.size, i.acq, i.weak, i.rel, i.pred, i.succ⟩ := by
      simp [evV, oldV, newV, kr, kw, km, hh, dv]
    rw [he]
    refine ⟨rfl, .slice pa pn pm, ?_⟩
    have h1 := ht
    unfold stepV at h1
    rw [if_neg (by rintro ⟨hr, hz⟩; obtain ⟨h1, _⟩ := hx hr; rw [hz] at h1; cases h1)] at h1
    have e1 : nextV i s = s.pc + 1 := by simp [nextV, hh]
    have e2 : regsN i s = s.R := by
      simp [regsN, kg]
    rw [e1, e2] at h1
    cases h1
    exact v5 _ _
  | rmw hh d a x_ =>
    have kop := hh
    have kr : readsV i = true := by unfold readsV; rw [hh]; rfl
    have kw : writesV i = true := by unfold writesV; rw [hh]; rfl
    have km : memV i = true := by unfold memV; rw [kr, kw]; rfl
    have kg : givesV i = i.dst := by unfold givesV; rw [hh]; rfl
    obtain ⟨hrd, hWx⟩ := hx kr
    have cW : ∀ e, DF FF n_belatedref3_Thread_Where [.pointer (some ⟨pt, 0, some 0⟩), agg (insL i)] (N.set (K.length + 2) (.cells e 0 false)) = some (agg [.int .i64 i.loc, .int .i64 (spanV i s.R)], N.set (K.length + 2) (.cells e 0 false)) := fun e => ref_Where_c (lE e).th R8 x_
    have cD : ∀ e, DF FF n_belatedref3_Thread_Datum [.pointer (some ⟨pt, 0, some 0⟩), agg (insL i)] (N.set (K.length + 2) (.cells e 0 false)) = some (.int .i64 (datumV i s.R), N.set (K.length + 2) (.cells e 0 false)) := fun e => ref_Datum_c (lE e).th R8 (.inr a)
    have wD := W_datum (i := i) hW hI
    have dv : datumV i s.R = reg s.R i.a := by
      have := a.nn
      unfold datumV valR
      rw [if_neg (by omega), if_neg (by omega)]
    have aD := d.arr1 pt
    have lD := d.lt
    have wN : ∀ e y, Heap.write1 (N.set (K.length + 2) (.cells e 0 false)) ⟨pt, 1 + i.dst.toNat, some 0⟩ (.int .i64 y) = some ((N.set (K.length + 2) (.cells e 0 false)).set pt (.cells (thL (.slice ca cn cm) (s.R.set i.dst.toNat y) s.pc (.slice qa qn qm)) 0 false)) := fun e y => by
      rw [ws_at (lE e).th (by rw [th_len R8]; omega), th_sr R8 lD]
    have dn1 : ¬ (i.dst = -1) := by have := d.nn; omega
    have lT := (lE ([.int .i64 0, .int .i64 s.path.length, .int .i64 s.pc, .int .i64 6, .int .i64 i.loc, .int .i64 (spanV i s.R), .bool true, .bool true, .int .i64 (getV x 0 i.size), .int .i64 (rmwV i.fn (getV x 0 i.size) (datumV i s.R) i.size), .bool i.acq, .bool i.weak, .bool i.rel, .int .i64 i.pred, .int .i64 i.succ])).setT (R := s.R.set i.dst.toNat (getV x 0 i.size)) (by rw [List.length_set]; exact R8)
    obtain ⟨pa, pn, pm, K2, u1, v1, v2, v3, v4, v5⟩ := l0.end (N := N) (ev := [.int .i64 0, .int .i64 s.path.length, .int .i64 s.pc, .int .i64 6, .int .i64 i.loc, .int .i64 (spanV i s.R), .bool true, .bool true, .int .i64 (getV x 0 i.size), .int .i64 (rmwV i.fn (getV x 0 i.size) (datumV i s.R) i.size), .bool i.acq, .bool i.weak, .bool i.rel, .int .i64 i.pred, .int .i64 i.succ]) lT (fun j o hj ho => by rw [List.getElem?_set_ne (Ne.symm hj)]; exact kE _ j o ho)
      (by rw [List.getElem?_set_ne (by omega), List.getElem?_set_ne (by omega)]; exact n0) (by rw [List.getElem?_set_ne (by omega), List.getElem?_set_self hlt]) rfl rfl (by omega)
    have R8' : (s.R.set i.dst.toNat (getV x 0 i.size)).length = 8 := by rw [List.length_set]; exact R8
    simp only [List.length_set] at u1
    simp only [C_ops, C_cond, D_ret, D_skip, normal_some, cond_tt, cond_ff, E_nil, E_cons, next_some, next_none, ev_tmp, ev_const, get_succ, get_zero, List.set_cons_succ, List.set_cons_zero, O_mv, O_bin, pairO, O_call, List.map_cons, List.map_nil, O_load1, load1_ptr, O_load, load_ptr, O_mkRow, O_build, mk_some, build_some, partsV_nil, partsV_cons, zeros_zero, zeros_succ, fill_nil, fill_int, fill_bool, Nat.lt_add_one, Nat.reduceLT, B_add, B_eql, List.length_cons, List.length_nil, Nat.reduceAdd, Nat.zero_add, W_some, W_seq, Q_cont_normal, slc, O_append, O_atArr, O_off, off_ptr, wrote_some, O_store1, store1_int, store1_slice, O_store, store_agg, O_nilCheck, nilCheck_ptr, List.append_nil, Nat.add_zero, Option.map_some, List.getElem?_cons_zero, List.getElem?_cons_succ, again1_int, again1_bool, again1_slice, beq_self_eq_true, eq_self, O_again, again_agg, O_again1, ref_Reads_c, ref_Writes_c, ref_Memory_c, kr, kw, km, kop, p9, p10, rs_ne, rr_ne, rs_same, ws_same, ww_same, splice_all, splice2, List.length_set, z1, z2, hlt, hltN, iI, iI17, insL_0, insL_1, insL_8, insL_9, insL_10, insL_11, insL_12, insL_13, insL_14, pcw, Int.reduceBEq, Nat.reduceLeDiff, cW, cD, get11 _ _ _ hWx, rmw21 _ _ _ _ wD, aD, wN, u1, v1, v2, v3, v4, R8', th_len, th_9, th_10, th_s9, th_s10, Q_retE1, cells1E_ptr, out1E_some]
    have he : evV i s = ⟨s.path.length, s.pc, 6, i.loc, (spanV i s.R), true, true, getV x 0 i.size, rmwV i.fn (getV x 0 i.size) (datumV i s.R) i.size, i.acq, i.weak, i.rel, i.pred, i.succ⟩ := by
      simp [evV, oldV, newV, kr, kw, km, hh, hrd, dv]
    rw [he]
    refine ⟨rfl, .slice pa pn pm, ?_⟩
    have h1 := ht
    unfold stepV at h1
    rw [if_neg (by rintro ⟨hr, hz⟩; obtain ⟨h1, _⟩ := hx hr; rw [hz] at h1; cases h1)] at h1
    have e1 : nextV i s = s.pc + 1 := by simp [nextV, hh]
    have e2 : regsN i s = s.R.set i.dst.toNat (getV x 0 i.size) := by
      simp [regsN, kg, dn1, gotV, hh, oldV, kr, hrd]
    rw [e1, e2] at h1
    cases h1
    exact v5 _ _
  | fence hh =>
    have kop := hh
    have kr : readsV i = false := by unfold readsV; rw [hh]; rfl
    have kw : writesV i = false := by unfold writesV; rw [hh]; rfl
    have km : memV i = false := by unfold memV; rw [kr, kw]; rfl
    have kg : givesV i = -1 := by unfold givesV; rw [hh]; rfl
    have lT : LT h pt (.slice ca cn cm) ⟨s.pc, s.R, s.rd, s.path, s.evs⟩ (N.set (K.length + 2) (.cells ([.int .i64 0, .int .i64 s.path.length, .int .i64 s.pc, .int .i64 7, .int .i64 0, .int .i64 0, .bool false, .bool false, .int .i64 (0), .int .i64 (0), .bool i.acq, .bool i.weak, .bool i.rel, .int .i64 i.pred, .int .i64 i.succ]) 0 false)) (.slice qa qn qm) := lE _
    obtain ⟨pa, pn, pm, K2, u1, v1, v2, v3, v4, v5⟩ := l0.end (N := N) (ev := [.int .i64 0, .int .i64 s.path.length, .int .i64 s.pc, .int .i64 7, .int .i64 0, .int .i64 0, .bool false, .bool false, .int .i64 (0), .int .i64 (0), .bool i.acq, .bool i.weak, .bool i.rel, .int .i64 i.pred, .int .i64 i.succ]) lT (fun j o hj ho => kE _ j o ho)
      (by rw [List.getElem?_set_ne (by omega)]; exact n0) (by rw [List.getElem?_set_self hlt]) rfl rfl (by omega)
    have R8' := R8
    simp only [List.length_set] at u1
    simp only [C_ops, C_cond, D_ret, D_skip, normal_some, cond_ff, E_nil, E_cons, next_some, next_none, ev_tmp, ev_const, get_succ, get_zero, List.set_cons_succ, List.set_cons_zero, O_mv, O_bin, pairO, O_call, List.map_cons, List.map_nil, O_load1, load1_ptr, O_load, load_ptr, O_mkRow, O_build, mk_some, build_some, partsV_nil, partsV_cons, zeros_zero, zeros_succ, fill_nil, fill_int, fill_bool, Nat.lt_add_one, Nat.reduceLT, B_add, B_eql, List.length_cons, List.length_nil, Nat.reduceAdd, Nat.zero_add, W_some, W_seq, Q_cont_normal, slc, O_append, O_off, off_ptr, wrote_some, O_store1, store1_int, store1_slice, O_store, store_agg, O_nilCheck, nilCheck_ptr, List.append_nil, Nat.add_zero, Option.map_some, List.getElem?_cons_zero, List.getElem?_cons_succ, again1_int, again1_bool, again1_slice, eq_self, O_again, again_agg, O_again1, ref_Reads_c, ref_Writes_c, ref_Memory_c, kr, kw, km, kop, p9, p10, rs_ne, rr_ne, rs_same, ws_same, ww_same, splice_all, List.length_set, z1, z2, hlt, iI, iI17, insL_0, insL_10, insL_11, insL_12, insL_13, insL_14, pcw, Int.reduceBEq, Nat.reduceLeDiff, u1, v1, v2, v3, v4, R8', th_len, th_9, th_s9, th_s10, Q_retE1, cells1E_ptr, out1E_some]
    have he : evV i s = ⟨s.path.length, s.pc, 7, 0, 0, false, false, 0, 0, i.acq, i.weak, i.rel, i.pred, i.succ⟩ := by
      simp [evV, oldV, newV, kr, kw, km, hh]
    rw [he]
    refine ⟨rfl, .slice pa pn pm, ?_⟩
    have h1 := ht
    unfold stepV at h1
    rw [if_neg (by rintro ⟨hr, hz⟩; obtain ⟨h1, _⟩ := hx hr; rw [hz] at h1; cases h1)] at h1
    have e1 : nextV i s = s.pc + 1 := by simp [nextV, hh]
    have e2 : regsN i s = s.R := by
      simp [regsN, kg]
    rw [e1, e2] at h1
    cases h1
    exact v5 _ _
  | isb hh =>
    have kop := hh
    have kr : readsV i = false := by unfold readsV; rw [hh]; rfl
    have kw : writesV i = false := by unfold writesV; rw [hh]; rfl
    have km : memV i = false := by unfold memV; rw [kr, kw]; rfl
    have kg : givesV i = -1 := by unfold givesV; rw [hh]; rfl
    have lT : LT h pt (.slice ca cn cm) ⟨s.pc, s.R, s.rd, s.path, s.evs⟩ (N.set (K.length + 2) (.cells ([.int .i64 0, .int .i64 s.path.length, .int .i64 s.pc, .int .i64 8, .int .i64 0, .int .i64 0, .bool false, .bool false, .int .i64 (0), .int .i64 (0), .bool i.acq, .bool i.weak, .bool i.rel, .int .i64 i.pred, .int .i64 i.succ]) 0 false)) (.slice qa qn qm) := lE _
    obtain ⟨pa, pn, pm, K2, u1, v1, v2, v3, v4, v5⟩ := l0.end (N := N) (ev := [.int .i64 0, .int .i64 s.path.length, .int .i64 s.pc, .int .i64 8, .int .i64 0, .int .i64 0, .bool false, .bool false, .int .i64 (0), .int .i64 (0), .bool i.acq, .bool i.weak, .bool i.rel, .int .i64 i.pred, .int .i64 i.succ]) lT (fun j o hj ho => kE _ j o ho)
      (by rw [List.getElem?_set_ne (by omega)]; exact n0) (by rw [List.getElem?_set_self hlt]) rfl rfl (by omega)
    have R8' := R8
    simp only [List.length_set] at u1
    simp only [C_ops, C_cond, D_ret, D_skip, normal_some, cond_ff, E_nil, E_cons, next_some, next_none, ev_tmp, ev_const, get_succ, get_zero, List.set_cons_succ, List.set_cons_zero, O_mv, O_bin, pairO, O_call, List.map_cons, List.map_nil, O_load1, load1_ptr, O_load, load_ptr, O_mkRow, O_build, mk_some, build_some, partsV_nil, partsV_cons, zeros_zero, zeros_succ, fill_nil, fill_int, fill_bool, Nat.lt_add_one, Nat.reduceLT, B_add, B_eql, List.length_cons, List.length_nil, Nat.reduceAdd, Nat.zero_add, W_some, W_seq, Q_cont_normal, slc, O_append, O_off, off_ptr, wrote_some, O_store1, store1_int, store1_slice, O_store, store_agg, O_nilCheck, nilCheck_ptr, List.append_nil, Nat.add_zero, Option.map_some, List.getElem?_cons_zero, List.getElem?_cons_succ, again1_int, again1_bool, again1_slice, eq_self, O_again, again_agg, O_again1, ref_Reads_c, ref_Writes_c, ref_Memory_c, kr, kw, km, kop, p9, p10, rs_ne, rr_ne, rs_same, ws_same, ww_same, splice_all, List.length_set, z1, z2, hlt, iI, iI17, insL_0, insL_10, insL_11, insL_12, insL_13, insL_14, pcw, Int.reduceBEq, Nat.reduceLeDiff, u1, v1, v2, v3, v4, R8', th_len, th_9, th_s9, th_s10, Q_retE1, cells1E_ptr, out1E_some]
    have he : evV i s = ⟨s.path.length, s.pc, 8, 0, 0, false, false, 0, 0, i.acq, i.weak, i.rel, i.pred, i.succ⟩ := by
      simp [evV, oldV, newV, kr, kw, km, hh]
    rw [he]
    refine ⟨rfl, .slice pa pn pm, ?_⟩
    have h1 := ht
    unfold stepV at h1
    rw [if_neg (by rintro ⟨hr, hz⟩; obtain ⟨h1, _⟩ := hx hr; rw [hz] at h1; cases h1)] at h1
    have e1 : nextV i s = s.pc + 1 := by simp [nextV, hh]
    have e2 : regsN i s = s.R := by
      simp [regsN, kg]
    rw [e1, e2] at h1
    cases h1
    exact v5 _ _
  | branch hh a =>
    exact absurd hev (by unfold isEv memV readsV writesV; rw [hh]; decide)
end Go.Proofs.Ytjodnadlplicmaa.AM
