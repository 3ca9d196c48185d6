/-
  The document's thread: through instructions that are no event.
  Conditions: the code is right.
-/
import Derived.Test.YtjodnadlplicmaaUe1
namespace Go.Proofs.Ytjodnadlplicmaa.AM
open Go.RowKit
set_option linter.unusedSimpArgs false
set_option linter.unusedVariables false

/-- What a method leaves. -/
structure KeptX (pt : Nat) (K : Heap) (path : Value) (K' : Heap) (path' : Value) : Prop where
  kept : ∀ (j : Nat) (o : AObj), j ≠ pt → blk path ≠ some j → K[j]? = some o → K'[j]? = some o
  le : K.length ≤ K'.length
  new : blk path' = blk path ∨ ∃ j, blk path' = some j ∧ K.length ≤ j
theorem KeptX.refl (pt : Nat) (K : Heap) (path : Value) : KeptX pt K path K path := ⟨fun _ _ _ _ h => h, Nat.le_refl _, .inl rfl⟩
theorem KeptX.trans {pt : Nat} {K K' K'' : Heap} {p p' p'' : Value} (a : KeptX pt K p K' p') (b : KeptX pt K' p' K'' p'') : KeptX pt K p K'' p'' := by
  refine ⟨fun j o hj hp ho => b.kept j o hj ?_ (a.kept j o hj hp ho), Nat.le_trans a.le b.le, ?_⟩
  · have hlt := (List.getElem?_eq_some_iff.1 ho).1
    rcases a.new with h | ⟨m, h, h'⟩
    · rw [h]; exact hp
    · rw [h]; simp; omega
  · have := a.le
    rcases b.new with h | ⟨m, h, h'⟩
    · rcases a.new with h2 | ⟨m, h2, h'⟩
      · exact .inl (h.trans h2)
      · exact .inr ⟨m, h.trans h2, h'⟩
    · exact .inr ⟨m, h, by omega⟩
theorem KeptX.more {pt : Nat} {K K' : Heap} {p p' : Value} (a : KeptX pt K p K' p') (L : Heap) : KeptX pt K p (K' ++ L) p' :=
  ⟨fun j o hj hp ho => (Kept.more K' L) _ _ (a.kept j o hj hp ho), by have := a.le; simp; omega, a.new⟩
/-- A thread in memory. -/
structure LT (h : Heap) (pt : Nat) (c : Value) (s : LS) (K : Heap) (path : Value) : Prop where
  pre : Pre h K
  hp : h.length ≤ pt
  R8 : s.R.length = 8
  th : K[pt]? = some (.cells (thL c s.R s.pc path) 0 false)
  pa : Own h K path 1 (s.path.map intR)
  cp : blk path ≠ some pt
section
variable {h K : Heap} {pt : Nat} {c : Value} {s : LS} {path : Value}
theorem LT.more (e : LT h pt c s K path) (L : Heap) : LT h pt c s (K ++ L) path := ⟨e.pre.more L, e.hp, e.R8, (Kept.more K L) _ _ e.th, e.pa.more L, e.cp⟩
theorem LT.lt (e : LT h pt c s K path) : pt < K.length := (List.getElem?_eq_some_iff.1 e.th).1
/-- One more place on the path; what the thread's cells become is written later. -/
theorem LT.go (e : LT h pt c s K path) (x : Int) (hn : s.path.length < 1000) :
    ∃ (a : Option Addr) (n m : Nat) (K' : Heap), appendTo (K ++ [.cells [.int .i64 x] 0 false]) 1 8 path (srcOf (K ++ [.cells [.int .i64 x] 0 false]) 1 (.slice (some ⟨K.length, 0, some 0⟩) 1 1)) = some (.slice a n m, K'.set pt (.cells (thL c s.R s.pc path) 0 false)) ∧
      pt < K'.length ∧ (∀ (pc : Nat) (R rd : List Int) (evs : List Ev), R.length = 8 → LT h pt c ⟨pc, R, rd, s.path ++ [x], evs⟩ (K'.set pt (.cells (thL c R pc (.slice a n m)) 0 false)) (.slice a n m) ∧ KeptX pt K path (K'.set pt (.cells (thL c R pc (.slice a n m)) 0 false)) (.slice a n m)) ∧
      (∀ (j : Nat) (o : AObj), j ≠ pt → blk path ≠ some j → K[j]? = some o → K'[j]? = some o) := by
  obtain ⟨path', K', u1, u2, u3, u4, u5, u6⟩ := e.pa.push e.pre (row := [.int .i64 x]) (bytes := 8) rfl (by rw [List.length_map]; unfold roomFor; omega)
  obtain ⟨a, n, m, rfl⟩ := u2.shape
  have k1 := u5 _ _ e.th e.cp
  have hlt := (List.getElem?_eq_some_iff.1 k1).1
  have cp' : blk (.slice a n m) ≠ some pt := by
    rcases u6 with h | ⟨j, h, h'⟩
    · rw [h]; exact e.cp
    · rw [h]; have := e.lt; simp; omega
  refine ⟨a, n, m, K', by rw [set_self k1]; exact u1, hlt, fun pc R rd evs hR => ⟨⟨u3.set e.hp _, e.hp, hR, by rw [List.getElem?_set_self hlt], ?_, cp'⟩, ?_⟩, fun j o hj hp ho => u5 j o ho hp⟩
  · have : Own h K' (.slice a n m) 1 ((s.path ++ [x]).map intR) := by rw [List.map_append]; exact u2
    exact this.keep fun b hb o ho => by rw [List.getElem?_set_ne (by rintro rfl; exact cp' hb)]; exact ho
  · refine ⟨fun j o hj hp ho => by rw [List.getElem?_set_ne (Ne.symm hj)]; exact u5 j o ho hp, by simp; exact u4, u6⟩
end
/-- What steps keep is kept. -/
def KeepsP (code : List Ins) (s t : LS) : Prop := ∀ P : LS → Prop, (∀ (a b : LS) (i : Ins), code[a.pc]? = some i → stepV i a = some b → P a → P b) → P s → P t
/-- A thread on its way. -/
structure Way (h : Heap) (pt : Nat) (c : Value) (code : List Ins) (s : LS) (K : Heap) (path : Value) (t : LS) (K' : Heap) (path' : Value) : Prop where
  lt : LT h pt c t K' path'
  kx : KeptX pt K path K' path'
  tot : endV code t = endV code s
  evs : t.evs = s.evs
  rd : t.rd = s.rd
  le : t.pc ≤ code.length
  sp : t.path.length ≤ t.pc
  same : (t = s ∧ K' = K ∧ path' = path) ∨ s.pc < t.pc
  inv : KeepsP code s t
theorem Way.fin {h : Heap} {pt : Nat} {c : Value} {code : List Ins} {s : LS} {K : Heap} {path : Value} {t : LS} {K' : Heap} {path' : Value} (w : Way h pt c code s K path t K' path') (l0 : LT h pt c s K path) (L : Heap) (b : Bool) :
    Way h pt c code s K path t (AM.finish K (.bool b) (K' ++ L)) path' ∨ (t = s ∧ path' = path ∧ AM.finish K (.bool b) (K' ++ L) = K) := by
  unfold AM.finish
  split
  · rename_i hc
    right
    rcases w.same with ⟨h1, h2, h3⟩ | h1
    · exact ⟨h1, h3, rfl⟩
    · exfalso
      have e1 : (K' ++ L)[pt]? = K[pt]? := by
        have e := congrArg (fun l : Heap => l[pt]?) hc.2
        rw [List.getElem?_take, if_pos l0.lt] at e
        exact e
      rw [(Kept.more K' L) _ _ w.lt.th, l0.th] at e1
      have e2 : thL c t.R t.pc path' = thL c s.R s.pc path := by simpa using e1
      have e3 := th_9 (c := c) (q := path') (p := t.pc) w.lt.R8
      rw [e2, th_9 l0.R8] at e3
      have : (s.pc : Int) = t.pc := by simpa using e3
      omega
  · rename_i hc
    rcases w.same with ⟨h1, h2, h3⟩ | h1
    · exfalso
      apply hc
      refine ⟨rfl, ?_⟩
      rw [h2]; simp
    · exact .inl ⟨w.lt.more L, w.kx.more L, w.tot, w.evs, w.rd, w.le, w.sp, .inr h1, w.inv⟩
/-- Where the document's thread stops. -/
def PlainR (h : Heap) (pt : Nat) (c : Value) (code : List Ins) (s : LS) (K : Heap) (path : Value) (v : Value) (H : Heap) : Prop :=
  ∃ (t : LS) (path' : Value) (b : Bool), v = .bool b ∧ LT h pt c t H path' ∧ KeptX pt K path H path' ∧ endV code t = endV code s ∧ t.evs = s.evs ∧ t.rd = s.rd ∧ s.pc ≤ t.pc ∧ t.pc ≤ code.length ∧ t.path.length ≤ t.pc ∧
    (b = true → ∃ i, code[t.pc]? = some i ∧ isEv i = true) ∧ (b = false → code.length ≤ t.pc) ∧ KeepsP code s t
theorem Way.done {h : Heap} {pt : Nat} {c : Value} {code : List Ins} {s : LS} {K : Heap} {path : Value} {t : LS} {K' : Heap} {path' : Value} (w : Way h pt c code s K path t K' path') (l0 : LT h pt c s K path) (L : Heap) {b : Bool}
    (ht : b = true → ∃ i, code[t.pc]? = some i ∧ isEv i = true) (hf : b = false → code.length ≤ t.pc) : PlainR h pt c code s K path (.bool b) (AM.finish K (.bool b) (K' ++ L)) := by
  rcases w.fin l0 L b with h1 | ⟨h1, h2, h3⟩
  · refine ⟨t, path', b, rfl, h1.lt, h1.kx, h1.tot, h1.evs, h1.rd, ?_, h1.le, h1.sp, ht, hf, h1.inv⟩
    rcases w.same with ⟨h1, _⟩ | h1
    · rw [h1]; exact Nat.le_refl _
    · omega
  · rw [h3]
    subst h1 h2
    exact ⟨t, path', b, rfl, l0, KeptX.refl _ _ _, rfl, rfl, rfl, Nat.le_refl _, w.le, w.sp, ht, hf, fun P _ h => h⟩
theorem Way.next {h : Heap} {pt : Nat} {c : Value} {code : List Ins} {s : LS} {K : Heap} {path : Value} {t : LS} {K' : Heap} {path' : Value} (w : Way h pt c code s K path t K' path') (hf : Fwd code) {i : Ins} (hi : code[t.pc]? = some i) {u : LS} (hu : stepV i t = some u) (hev : isEv i = false) (hr : readsV i = false)
    {K'' : Heap} {path'' : Value} (lt : LT h pt c u K'' path'') (kx : KeptX pt K' path' K'' path'') : Way h pt c code s K path u K'' path'' ∧ t.pc < u.pc := by
  have hw := step_fwd hf hi hu
  have h1 : u.path.length = t.path.length + 1 ∧ u.evs = t.evs ∧ u.rd = t.rd := by
    unfold stepV at hu
    rw [if_neg (by rw [hr]; simp)] at hu
    cases hu
    exact ⟨by simp, by show (if isEv i then _ else _) = _; rw [hev]; rfl, by show (if readsV i then _ else _) = _; rw [hr]; rfl⟩
  have hsp := w.sp
  have hsame : s.pc < u.pc := by
    rcases w.same with ⟨e, _⟩ | e
    · rw [← e]; exact hw.1
    · omega
  refine ⟨⟨lt, w.kx.trans kx, ?_, h1.2.1.trans w.evs, h1.2.2.trans w.rd, hw.2, by omega, .inr hsame, fun P hP h => hP t u i hi hu (w.inv P hP h)⟩, hw.1⟩
  rw [← w.tot, endV_step hf hi, hu]; rfl
set_option maxHeartbeats 16000000 in
set_option maxRecDepth 50000 in
theorem ref_Plain_c {h K : Heap} {pt : Nat} {c : Value} {code : List Ins} {s : LS} {path : Value} (hc : InsSl h c code) (rc : RC code) (l0 : LT h pt c s K path) (hle : s.pc ≤ code.length) (hsp : s.path.length ≤ s.pc) :
    ∃ v H, DF FF n_belatedref3_Thread_Plain [.pointer (some ⟨pt, 0, some 0⟩)] K = some (v, H) ∧ PlainR h pt c code s K path v H := by
  refine fun_wpE F_belatedref3_Thread_Plain ?_
  have hf := rc.fwd
  have h8 := rc.len
  obtain ⟨ca, cn, cm, rfl⟩ := hc.shape
  have lenC : ∀ K, lenO K (.slice ca cn cm) = some (.int .i64 code.length, K) := hc.len
  simp only [c_belatedref3_Thread_Plain, C_ops, normal_some, E_nil, E_cons, next_some, ev_const, List.set_cons_succ, List.set_cons_zero, O_mv, List.cons_append, List.nil_append, List.length_cons, List.length_nil, Nat.reduceSub, Nat.zero_add, W_some, W_seq, W_block, Q_cont_normal, fillU_zero, fillU_succ, List.append_assoc]
  refine for_wp code.length (fun k st => ∃ (t : LS) (K' : Heap) (path' : Value) (j : Nat → Value), st = ⟨[.pointer (some ⟨pt, 0, some 0⟩), j 1, j 2, j 3, j 4, j 5, j 6, j 7, j 8, j 9, j 10, j 11, j 12, j 13, j 14, j 15, j 16, j 17, j 18, j 19, j 20, j 21, j 22, j 23, j 24, j 25, j 26, j 27, j 28, j 29, j 30, j 31, j 32, j 33, j 34, j 35, j 36, j 37, j 38, j 39, j 40, j 41, j 42, j 43, j 44, j 45, j 46, j 47, j 48, j 49, j 50, j 51, j 52, j 53, j 54, j 55, j 56, j 57, j 58, j 59, j 60, j 61, j 62, j 63, j 64, j 65, j 66, j 67, j 68, j 69, j 70, j 71, j 72, j 73, j 74, j 75, j 76, j 77, j 78, j 79, j 80, j 81, j 82, j 83, j 84, j 85, j 86, j 87, j 88, j 89, j 90, j 91, j 92, j 93, j 94, j 95, j 96, j 97, j 98, j 99, j 100, j 101, j 102, j 103, j 104, j 105, j 106, j 107, j 108, j 109, j 110, j 111, j 112, j 113, j 114, j 115, j 116, j 117, j 118, j 119, j 120, j 121, j 122, j 123, j 124, j 125, j 126, j 127, j 128, j 129, j 130, j 131, j 132], K'⟩ ∧ Way h pt (.slice ca cn cm) code s K path t K' path' ∧ k ≤ t.pc) ?_ ?_ _ ?_
  · rintro k st hk ⟨t, K', path', j, rfl, w, hkt⟩
    have lt := w.lt
    have R8 := lt.R8
    have r0 : ∀ L, Heap.read1 (K' ++ L) ⟨pt, 0, some 0⟩ = some (.slice ca cn cm) := fun L => by rw [rs_at ((Kept.more K' L) _ _ lt.th), th_0]
    have r9 : ∀ L, Heap.read1 (K' ++ L) ⟨pt, 9, some 0⟩ = some (.int .i64 t.pc) := fun L => by rw [rs_at ((Kept.more K' L) _ _ lt.th), th_9 R8]
    have r0' := r0 []
    have r9' := r9 []
    rw [List.append_nil] at r0' r9'
    by_cases hpc : t.pc < code.length
    · have pcl : (t.pc : Int) < (code.length : Int) := by omega
      have hi : code[t.pc]? = some code[t.pc] := List.getElem?_eq_getElem hpc
      have kind := okI_kind (rightV_ok (rc.all _ hpc))
      obtain ⟨b, o, wv, a1, _, a3⟩ := (hc.pre lt.pre).at hpc
      have pcw := wrap_nat (k := t.pc) (by omega)
      generalize code[t.pc] = i at hi kind a3
      have sp := w.sp
      obtain ⟨pa, pn, pm, K2, u1, hlt, lgo, kold⟩ := (lt.more [.cells (insL i) 0 false]).go (t.pc : Int) (by omega)
      have r10 : ∀ L, Heap.read1 (K' ++ L) ⟨pt, 10, some 0⟩ = some path' := fun L => by rw [rs_at ((Kept.more K' L) _ _ lt.th), th_10 R8]
      have hpl : ∀ b, blk path' = some b → b < K'.length := fun b hb => (lt.pa.lt hb).2
      have tb : (pt = K'.length) = False := eq_false (by have := lt.lt; omega)
      have kI : K2[K'.length]? = some (.cells (insL i) 0 false) := kold _ _ (by have := lt.lt; omega) (fun h => by have := hpl _ h; omega) (by simp)
      have iI := fun j => rs_at (j := j) kI
      have iI17 := rr_at (n := 17) kI (insL_len i)
      have kx : ∀ {R : List Int} {pc : Nat}, KeptX pt (K' ++ [.cells (insL i) 0 false]) path' (K2.set pt (.cells (thL (.slice ca cn cm) R pc (.slice pa pn pm)) 0 false)) (.slice pa pn pm) → KeptX pt K' path' (K2.set pt (.cells (thL (.slice ca cn cm) R pc (.slice pa pn pm)) 0 false)) (.slice pa pn pm) := fun kx =>
        ⟨fun j o hj hp ho => kx.kept j o hj hp ((Kept.more _ _) _ _ ho), by have := kx.le; simp at this ⊢; omega, by
          rcases kx.new with h | ⟨m, h, h'⟩
          · exact .inl h
          · exact .inr ⟨m, h, by simp at h'; omega⟩⟩
      simp only [List.append_assoc, List.cons_append, List.nil_append, List.length_append, List.length_cons, List.length_nil, Nat.zero_add] at u1
      cases kind with
      | const hh d =>
        have kop := hh
        have km : memV i = false := by unfold memV readsV writesV; rw [hh]; rfl
        have kr : readsV i = false := by unfold readsV; rw [hh]; rfl
        have kg : givesV i = i.dst := by unfold givesV; rw [hh]; rfl
        have nD := d.nn
        have aD := d.arr1 pt
        have lD := d.lt
        have lD' : 1 + i.dst.toNat < 11 := by omega
        have wD : ∀ (R : List Int) (p : Int) (q : Value) (x : Int), R.length = 8 → (thL (.slice ca cn cm) R p q).set (1 + i.dst.toNat) (.int .i64 x) = thL (.slice ca cn cm) (R.set i.dst.toNat x) p q := fun R p q x hR => th_sr hR lD x
        have dn1 : ¬ (i.dst = -1) := by omega
        have ht : stepV i t = some ⟨t.pc + 1, t.R.set i.dst.toNat i.imm, t.rd, t.path ++ [(t.pc : Int)], t.evs⟩ := by
          simp [stepV, nextV, regsN, gotV, isEv, memV, writesV, kr, kg, hh, dn1]
        simp only [C_ops, C_cond, D_skip, normal_some, cond_tt, cond_ff, E_nil, E_cons, E_guard, next_some, next_none, guard_ff, ev_tmp, ev_const, get_succ, get_zero, List.set_cons_succ, List.set_cons_zero, O_mv, O_pick, pickO, O_bin, pairO, O_call, List.map_cons, List.map_nil, O_len, O_atRow, O_load1, load1_ptr, O_load, load_ptr, O_mkRow, mk_some, partsV_nil, partsV_cons, zeros_zero, zeros_succ, fill_nil, fill_int, Nat.lt_add_one, Nat.reduceLT, B_add, B_eql, B_lss, List.cons_append, List.nil_append, List.length_cons, List.length_nil, Nat.reduceAdd, Nat.zero_add, W_some, W_seq, W_block, Q_cont_normal, Q_block_normal, slc, O_append, O_alloc, O_atArr, O_off, off_ptr, wrote_some, O_store1, store1_int, store1_slice, O_store, store_agg, O_nilCheck, nilCheck_ptr, read1_skip0, read1_there, read_skip0, read_there, pre_some, write_skip0, write_there, List.append_assoc, List.length_append, List.append_nil, Nat.add_zero, Option.map_some, beq_self_eq_true, eq_self, Q_for_normal, List.replicate_succ, List.replicate_zero, lenC, r0', r9', r9, r10, pcl, decide_true, a1, a3, insL_len, insL_0, insL_1, insL_4, ref_Memory_c, km, kop, u1, rs_same, rs_ne, ws_same, hlt, tb, iI, R8, th_len, th_9, th_s9, th_s10, pcw, Int.reduceBEq, aD, lD', wD]
        obtain ⟨l1, l2⟩ := lgo (t.pc + 1) (t.R.set i.dst.toNat i.imm) t.rd t.evs (by first | exact R8 | (rw [List.length_set]; exact R8))
        obtain ⟨w', hw'⟩ := w.next hf hi ht (by unfold isEv; rw [km, hh]; rfl) kr l1 (kx l2)
        exact ⟨_, _, _, junkA rfl ⟨w', by omega⟩⟩
      | move hh d a =>
        have kop := hh
        have km : memV i = false := by unfold memV readsV writesV; rw [hh]; rfl
        have kr : readsV i = false := by unfold readsV; rw [hh]; rfl
        have kg : givesV i = i.dst := by unfold givesV; rw [hh]; rfl
        have nD := d.nn
        have aD := d.arr1 pt
        have lD := d.lt
        have lD' : 1 + i.dst.toNat < 11 := by omega
        have wD : ∀ (R : List Int) (p : Int) (q : Value) (x : Int), R.length = 8 → (thL (.slice ca cn cm) R p q).set (1 + i.dst.toNat) (.int .i64 x) = thL (.slice ca cn cm) (R.set i.dst.toNat x) p q := fun R p q x hR => th_sr hR lD x
        have dn1 : ¬ (i.dst = -1) := by omega
        have aA := a.arr1 pt
        have gA : ∀ (p : Int) (q : Value), (thL (.slice ca cn cm) t.R p q)[1 + i.a.toNat]? = some (.int .i64 (reg t.R i.a)) := fun p q => by rw [th_r R8 a.lt]; rfl
        have ht : stepV i t = some ⟨t.pc + 1, t.R.set i.dst.toNat (reg t.R i.a), t.rd, t.path ++ [(t.pc : Int)], t.evs⟩ := by
          simp [stepV, nextV, regsN, gotV, isEv, memV, writesV, kr, kg, hh, dn1]
        simp only [C_ops, C_cond, D_skip, normal_some, cond_tt, cond_ff, E_nil, E_cons, E_guard, next_some, next_none, guard_ff, ev_tmp, ev_const, get_succ, get_zero, List.set_cons_succ, List.set_cons_zero, O_mv, O_pick, pickO, O_bin, pairO, O_call, List.map_cons, List.map_nil, O_len, O_atRow, O_load1, load1_ptr, O_load, load_ptr, O_mkRow, mk_some, partsV_nil, partsV_cons, zeros_zero, zeros_succ, fill_nil, fill_int, Nat.lt_add_one, Nat.reduceLT, B_add, B_eql, B_lss, List.cons_append, List.nil_append, List.length_cons, List.length_nil, Nat.reduceAdd, Nat.zero_add, W_some, W_seq, W_block, Q_cont_normal, Q_block_normal, slc, O_append, O_alloc, O_atArr, O_off, off_ptr, wrote_some, O_store1, store1_int, store1_slice, O_store, store_agg, O_nilCheck, nilCheck_ptr, read1_skip0, read1_there, read_skip0, read_there, pre_some, write_skip0, write_there, List.append_assoc, List.length_append, List.append_nil, Nat.add_zero, Option.map_some, beq_self_eq_true, eq_self, Q_for_normal, List.replicate_succ, List.replicate_zero, lenC, r0', r9', r9, r10, pcl, decide_true, a1, a3, insL_len, insL_0, insL_1, insL_2, ref_Memory_c, km, kop, u1, rs_same, rs_ne, ws_same, hlt, tb, iI, R8, th_len, th_9, th_s9, th_s10, pcw, Int.reduceBEq, aD, lD', wD, aA, gA]
        obtain ⟨l1, l2⟩ := lgo (t.pc + 1) (t.R.set i.dst.toNat (reg t.R i.a)) t.rd t.evs (by first | exact R8 | (rw [List.length_set]; exact R8))
        obtain ⟨w', hw'⟩ := w.next hf hi ht (by unfold isEv; rw [km, hh]; rfl) kr l1 (kx l2)
        exact ⟨_, _, _, junkA rfl ⟨w', by omega⟩⟩
      | alu hh d a b_ =>
        have kop := hh
        have km : memV i = false := by unfold memV readsV writesV; rw [hh]; rfl
        have kr : readsV i = false := by unfold readsV; rw [hh]; rfl
        have kg : givesV i = i.dst := by unfold givesV; rw [hh]; rfl
        have nD := d.nn
        have aD := d.arr1 pt
        have lD := d.lt
        have lD' : 1 + i.dst.toNat < 11 := by omega
        have wD : ∀ (R : List Int) (p : Int) (q : Value) (x : Int), R.length = 8 → (thL (.slice ca cn cm) R p q).set (1 + i.dst.toNat) (.int .i64 x) = thL (.slice ca cn cm) (R.set i.dst.toNat x) p q := fun R p q x hR => th_sr hR lD x
        have dn1 : ¬ (i.dst = -1) := by omega
        have aA := a.arr1 pt
        have gA : ∀ (p : Int) (q : Value), (thL (.slice ca cn cm) t.R p q)[1 + i.a.toNat]? = some (.int .i64 (reg t.R i.a)) := fun p q => by rw [th_r R8 a.lt]; rfl
        have ht : stepV i t = some ⟨t.pc + 1, t.R.set i.dst.toNat (aluV i.fn (reg t.R i.a) (valR t.R i.b i.imm)), t.rd, t.path ++ [(t.pc : Int)], t.evs⟩ := by
          simp [stepV, nextV, regsN, gotV, isEv, memV, writesV, kr, kg, hh, dn1]
        rcases b_ with hb | hb
        · have vb : valR t.R i.b i.imm = i.imm := by unfold valR; rw [if_pos hb]
          have b0 : ¬ (0 ≤ i.b) := by omega
          rw [vb] at ht
          simp only [C_ops, C_cond, D_skip, normal_some, cond_tt, cond_ff, E_nil, E_cons, E_guard, next_some, next_none, guard_ff, ev_tmp, ev_const, get_succ, get_zero, List.set_cons_succ, List.set_cons_zero, O_mv, O_pick, pickO, O_bin, pairO, O_call, List.map_cons, List.map_nil, O_len, O_atRow, O_load1, load1_ptr, O_load, load_ptr, O_mkRow, mk_some, partsV_nil, partsV_cons, zeros_zero, zeros_succ, fill_nil, fill_int, Nat.lt_add_one, Nat.reduceLT, B_add, B_eql, B_lss, B_geq, List.cons_append, List.nil_append, List.length_cons, List.length_nil, Nat.reduceAdd, Nat.zero_add, W_some, W_seq, W_block, Q_cont_normal, Q_block_normal, slc, O_append, O_alloc, O_atArr, O_off, off_ptr, wrote_some, O_store1, store1_int, store1_slice, O_store, store_agg, O_nilCheck, nilCheck_ptr, read1_skip0, read1_there, read_skip0, read_there, pre_some, write_skip0, write_there, List.append_assoc, List.length_append, List.append_nil, Nat.add_zero, Option.map_some, again1_int, beq_self_eq_true, eq_self, O_again1, Q_for_normal, List.replicate_succ, List.replicate_zero, lenC, r0', r9', r9, r10, pcl, decide_true, decide_false, a1, a3, insL_len, insL_0, insL_1, insL_2, insL_3, insL_4, insL_9, ref_Memory_c, km, kop, u1, rs_same, rs_ne, ws_same, hlt, tb, iI, R8, th_len, th_9, th_s9, th_s10, pcw, Int.reduceBEq, aD, lD', wD, aA, gA, b0, alu19]
          obtain ⟨l1, l2⟩ := lgo (t.pc + 1) (t.R.set i.dst.toNat (aluV i.fn (reg t.R i.a) i.imm)) t.rd t.evs (by first | exact R8 | (rw [List.length_set]; exact R8))
          obtain ⟨w', hw'⟩ := w.next hf hi ht (by unfold isEv; rw [km, hh]; rfl) kr l1 (kx l2)
          exact ⟨_, _, _, junkA rfl ⟨w', by omega⟩⟩
        · have b0 := hb.nn
          have vb : valR t.R i.b i.imm = reg t.R i.b := by unfold valR; rw [if_neg (by omega)]
          have aB := hb.arr1 pt
          have gB : ∀ (p : Int) (q : Value), (thL (.slice ca cn cm) t.R p q)[1 + i.b.toNat]? = some (.int .i64 (reg t.R i.b)) := fun p q => by rw [th_r R8 hb.lt]; rfl
          rw [vb] at ht
          simp only [C_ops, C_cond, D_skip, normal_some, cond_tt, cond_ff, E_nil, E_cons, E_guard, next_some, next_none, guard_ff, ev_tmp, ev_const, get_succ, get_zero, List.set_cons_succ, List.set_cons_zero, O_mv, O_pick, pickO, O_bin, pairO, O_call, List.map_cons, List.map_nil, O_len, O_atRow, O_load1, load1_ptr, O_load, load_ptr, O_mkRow, mk_some, partsV_nil, partsV_cons, zeros_zero, zeros_succ, fill_nil, fill_int, Nat.lt_add_one, Nat.reduceLT, B_add, B_eql, B_lss, B_geq, List.cons_append, List.nil_append, List.length_cons, List.length_nil, Nat.reduceAdd, Nat.zero_add, W_some, W_seq, W_block, Q_cont_normal, Q_block_normal, slc, O_append, O_alloc, O_atArr, O_off, off_ptr, wrote_some, O_store1, store1_int, store1_slice, O_store, store_agg, O_nilCheck, nilCheck_ptr, read1_skip0, read1_there, read_skip0, read_there, pre_some, write_skip0, write_there, List.append_assoc, List.length_append, List.append_nil, Nat.add_zero, Option.map_some, again1_int, beq_self_eq_true, eq_self, O_again1, Q_for_normal, List.replicate_succ, List.replicate_zero, lenC, r0', r9', r9, r10, pcl, decide_true, a1, a3, insL_len, insL_0, insL_1, insL_2, insL_3, insL_4, insL_9, ref_Memory_c, km, kop, u1, rs_same, rs_ne, ws_same, hlt, tb, iI, R8, th_len, th_9, th_s9, th_s10, pcw, Int.reduceBEq, aD, lD', wD, aA, gA, b0, aB, gB, alu19]
          obtain ⟨l1, l2⟩ := lgo (t.pc + 1) (t.R.set i.dst.toNat (aluV i.fn (reg t.R i.a) (reg t.R i.b))) t.rd t.evs (by first | exact R8 | (rw [List.length_set]; exact R8))
          obtain ⟨w', hw'⟩ := w.next hf hi ht (by unfold isEv; rw [km, hh]; rfl) kr l1 (kx l2)
          exact ⟨_, _, _, junkA rfl ⟨w', by omega⟩⟩
      | load hh d x =>
        have kop := hh
        have km : memV i = true := by unfold memV readsV writesV; rw [hh]; rfl
        have kr : readsV i = true := by unfold readsV; rw [hh]; rfl
        have kg : givesV i = i.dst := by unfold givesV; rw [hh]; rfl
        have hev : isEv i = true := by unfold isEv; rw [km, hh]; rfl
        simp only [C_ops, C_cond, D_ret, D_skip, normal_some, cond_tt, E_nil, E_cons, E_guard, next_some, next_none, guard_ft, ev_tmp, ev_const, get_succ, get_zero, List.set_cons_succ, List.set_cons_zero, O_mv, O_pick, pickO, O_bin, pairO, O_call, List.map_cons, List.map_nil, O_len, O_atRow, O_load1, load1_ptr, O_load, load_ptr, B_lss, List.cons_append, List.nil_append, List.length_cons, List.length_nil, Nat.reduceAdd, Nat.zero_add, W_some, W_seq, W_block, Q_cont_normal, Q_cont_ret, Q_block_ret, O_alloc, O_off, off_ptr, wrote_some, O_store, store_agg, O_nilCheck, nilCheck_ptr, read_skip0, read_there, pre_some, write_skip0, write_there, Nat.add_zero, Option.map_some, Q_retE, eq_self, Q_for_ret, List.replicate_succ, List.replicate_zero, lenC, r0', r9', pcl, decide_true, a1, a3, insL_len, ref_Memory_c, km]
        exact w.done l0 [.cells (insL i) 0 false] (fun _ => ⟨i, hi, hev⟩) (by simp)
      | store hh a x =>
        have kop := hh
        have km : memV i = true := by unfold memV readsV writesV; rw [hh]; rfl
        have kr : readsV i = false := by unfold readsV; rw [hh]; rfl
        have kg : givesV i = -1 := by unfold givesV; rw [hh]; rfl
        have hev : isEv i = true := by unfold isEv; rw [km, hh]; rfl
        simp only [C_ops, C_cond, D_ret, D_skip, normal_some, cond_tt, E_nil, E_cons, E_guard, next_some, next_none, guard_ft, ev_tmp, ev_const, get_succ, get_zero, List.set_cons_succ, List.set_cons_zero, O_mv, O_pick, pickO, O_bin, pairO, O_call, List.map_cons, List.map_nil, O_len, O_atRow, O_load1, load1_ptr, O_load, load_ptr, B_lss, List.cons_append, List.nil_append, List.length_cons, List.length_nil, Nat.reduceAdd, Nat.zero_add, W_some, W_seq, W_block, Q_cont_normal, Q_cont_ret, Q_block_ret, O_alloc, O_off, off_ptr, wrote_some, O_store, store_agg, O_nilCheck, nilCheck_ptr, read_skip0, read_there, pre_some, write_skip0, write_there, Nat.add_zero, Option.map_some, Q_retE, eq_self, Q_for_ret, List.replicate_succ, List.replicate_zero, lenC, r0', r9', pcl, decide_true, a1, a3, insL_len, ref_Memory_c, km]
        exact w.done l0 [.cells (insL i) 0 false] (fun _ => ⟨i, hi, hev⟩) (by simp)
      | rmw hh d a x =>
        have kop := hh
        have km : memV i = true := by unfold memV readsV writesV; rw [hh]; rfl
        have kr : readsV i = true := by unfold readsV; rw [hh]; rfl
        have kg : givesV i = i.dst := by unfold givesV; rw [hh]; rfl
        have hev : isEv i = true := by unfold isEv; rw [km, hh]; rfl
        simp only [C_ops, C_cond, D_ret, D_skip, normal_some, cond_tt, E_nil, E_cons, E_guard, next_some, next_none, guard_ft, ev_tmp, ev_const, get_succ, get_zero, List.set_cons_succ, List.set_cons_zero, O_mv, O_pick, pickO, O_bin, pairO, O_call, List.map_cons, List.map_nil, O_len, O_atRow, O_load1, load1_ptr, O_load, load_ptr, B_lss, List.cons_append, List.nil_append, List.length_cons, List.length_nil, Nat.reduceAdd, Nat.zero_add, W_some, W_seq, W_block, Q_cont_normal, Q_cont_ret, Q_block_ret, O_alloc, O_off, off_ptr, wrote_some, O_store, store_agg, O_nilCheck, nilCheck_ptr, read_skip0, read_there, pre_some, write_skip0, write_there, Nat.add_zero, Option.map_some, Q_retE, eq_self, Q_for_ret, List.replicate_succ, List.replicate_zero, lenC, r0', r9', pcl, decide_true, a1, a3, insL_len, ref_Memory_c, km]
        exact w.done l0 [.cells (insL i) 0 false] (fun _ => ⟨i, hi, hev⟩) (by simp)
      | fence hh =>
        have kop := hh
        have km : memV i = false := by unfold memV readsV writesV; rw [hh]; rfl
        have kr : readsV i = false := by unfold readsV; rw [hh]; rfl
        have kg : givesV i = -1 := by unfold givesV; rw [hh]; rfl
        have hev : isEv i = true := by unfold isEv; rw [km, hh]; rfl
        simp only [C_ops, C_cond, D_ret, D_skip, normal_some, cond_tt, E_nil, E_cons, E_guard, next_some, next_none, guard_ff, guard_ft, ev_tmp, ev_const, get_succ, get_zero, List.set_cons_succ, List.set_cons_zero, O_mv, O_pick, pickO, O_bin, pairO, O_call, List.map_cons, List.map_nil, O_len, O_atRow, O_load1, load1_ptr, O_load, load_ptr, B_eql, B_lss, List.cons_append, List.nil_append, List.length_cons, List.length_nil, Nat.reduceAdd, Nat.zero_add, W_some, W_seq, W_block, Q_cont_normal, Q_cont_ret, Q_block_ret, O_alloc, O_off, off_ptr, wrote_some, O_store, store_agg, O_nilCheck, nilCheck_ptr, read1_skip0, read1_there, read_skip0, read_there, pre_some, write_skip0, write_there, Nat.add_zero, Option.map_some, Q_retE, beq_self_eq_true, eq_self, Q_for_ret, List.replicate_succ, List.replicate_zero, lenC, r0', r9', pcl, decide_true, a1, a3, insL_len, insL_0, ref_Memory_c, km, kop]
        exact w.done l0 [.cells (insL i) 0 false] (fun _ => ⟨i, hi, hev⟩) (by simp)
      | isb hh =>
        have kop := hh
        have km : memV i = false := by unfold memV readsV writesV; rw [hh]; rfl
        have kr : readsV i = false := by unfold readsV; rw [hh]; rfl
        have kg : givesV i = -1 := by unfold givesV; rw [hh]; rfl
        have hev : isEv i = true := by unfold isEv; rw [km, hh]; rfl
        simp only [C_ops, C_cond, D_ret, D_skip, normal_some, cond_tt, E_nil, E_cons, E_guard, next_some, next_none, guard_ff, ev_tmp, ev_const, get_succ, get_zero, List.set_cons_succ, List.set_cons_zero, O_mv, O_pick, pickO, O_bin, pairO, O_call, List.map_cons, List.map_nil, O_len, O_atRow, O_load1, load1_ptr, O_load, load_ptr, B_eql, B_lss, List.cons_append, List.nil_append, List.length_cons, List.length_nil, Nat.reduceAdd, Nat.zero_add, W_some, W_seq, W_block, Q_cont_normal, Q_cont_ret, Q_block_ret, O_alloc, O_off, off_ptr, wrote_some, O_store, store_agg, O_nilCheck, nilCheck_ptr, read1_skip0, read1_there, read_skip0, read_there, pre_some, write_skip0, write_there, Nat.add_zero, Option.map_some, Q_retE, beq_self_eq_true, eq_self, Q_for_ret, List.replicate_succ, List.replicate_zero, lenC, r0', r9', pcl, decide_true, a1, a3, insL_len, insL_0, ref_Memory_c, km, kop, Int.reduceBEq]
        exact w.done l0 [.cells (insL i) 0 false] (fun _ => ⟨i, hi, hev⟩) (by simp)
      | branch hh a =>
        have kop := hh
        have km : memV i = false := by unfold memV readsV writesV; rw [hh]; rfl
        have kr : readsV i = false := by unfold readsV; rw [hh]; rfl
        have kg : givesV i = -1 := by unfold givesV; rw [hh]; rfl
        have aA := a.arr1 pt
        have gA : ∀ (p : Int) (q : Value), (thL (.slice ca cn cm) t.R p q)[1 + i.a.toNat]? = some (.int .i64 (reg t.R i.a)) := fun p q => by rw [th_r R8 a.lt]; rfl
        have hto := hf _ _ hi hh
        obtain ⟨m, hm⟩ : ∃ m : Nat, i.to = (m : Int) := ⟨i.to.toNat, by omega⟩
        by_cases hz : (reg t.R i.a == 0) = i.zero
        · have hz' : ((reg t.R i.a == 0) == i.zero) = true := by simp [hz]
          have ht : stepV i t = some ⟨m, t.R, t.rd, t.path ++ [(t.pc : Int)], t.evs⟩ := by
            simp [stepV, nextV, regsN, isEv, memV, writesV, kr, kg, hh, hz, hm]
          simp only [C_ops, C_cond, D_skip, normal_some, cond_tt, cond_ff, E_nil, E_cons, E_guard, next_some, next_none, guard_ff, ev_tmp, ev_const, get_succ, get_zero, List.set_cons_succ, List.set_cons_zero, O_mv, O_pick, pickO, O_bin, pairO, O_call, List.map_cons, List.map_nil, O_len, O_atRow, O_load1, load1_ptr, O_load, load_ptr, O_mkRow, mk_some, partsV_nil, partsV_cons, zeros_zero, zeros_succ, fill_nil, fill_int, Nat.lt_add_one, Nat.reduceLT, B_add, B_eql, B_lss, List.cons_append, List.nil_append, List.length_cons, List.length_nil, Nat.reduceAdd, Nat.zero_add, W_some, W_seq, W_block, Q_cont_normal, Q_block_normal, slc, O_append, O_alloc, O_atArr, O_off, off_ptr, wrote_some, O_store1, store1_int, store1_slice, O_store, store_agg, O_nilCheck, nilCheck_ptr, read1_skip0, read1_there, read_skip0, read_there, pre_some, write_skip0, write_there, List.append_assoc, List.length_append, List.append_nil, Nat.add_zero, Option.map_some, Bool.bne_false, beq_self_eq_true, O_eqv, eqv_bool, eq_self, Q_for_normal, List.replicate_succ, List.replicate_zero, lenC, r0', r9', r9, r10, pcl, decide_true, a1, a3, insL_len, insL_0, insL_2, insL_15, insL_16, ref_Memory_c, km, kop, u1, rs_same, rs_ne, ws_same, hlt, tb, iI, R8, th_len, th_9, th_s9, th_s10, pcw, Int.reduceBEq, aA, gA, eqv_bool, hz', hm]
          obtain ⟨l1, l2⟩ := lgo (m) (t.R) t.rd t.evs (by first | exact R8 | (rw [List.length_set]; exact R8))
          obtain ⟨w', hw'⟩ := w.next hf hi ht (by unfold isEv; rw [km, hh]; rfl) kr l1 (kx l2)
          exact ⟨_, _, _, junkA rfl ⟨w', by omega⟩⟩
        · have hz' : ((reg t.R i.a == 0) == i.zero) = false := by simp [hz]
          have ht : stepV i t = some ⟨t.pc + 1, t.R, t.rd, t.path ++ [(t.pc : Int)], t.evs⟩ := by
            simp [stepV, nextV, regsN, isEv, memV, writesV, kr, kg, hh, hz]
          simp only [C_ops, C_cond, D_skip, normal_some, cond_tt, cond_ff, E_nil, E_cons, E_guard, next_some, next_none, guard_ff, ev_tmp, ev_const, get_succ, get_zero, List.set_cons_succ, List.set_cons_zero, O_mv, O_pick, pickO, O_bin, pairO, O_call, List.map_cons, List.map_nil, O_len, O_atRow, O_load1, load1_ptr, O_load, load_ptr, O_mkRow, mk_some, partsV_nil, partsV_cons, zeros_zero, zeros_succ, fill_nil, fill_int, Nat.lt_add_one, Nat.reduceLT, B_add, B_eql, B_lss, List.cons_append, List.nil_append, List.length_cons, List.length_nil, Nat.reduceAdd, Nat.zero_add, W_some, W_seq, W_block, Q_cont_normal, Q_block_normal, slc, O_append, O_alloc, O_atArr, O_off, off_ptr, wrote_some, O_store1, store1_int, store1_slice, O_store, store_agg, O_nilCheck, nilCheck_ptr, read1_skip0, read1_there, read_skip0, read_there, pre_some, write_skip0, write_there, List.append_assoc, List.length_append, List.append_nil, Nat.add_zero, Option.map_some, Bool.bne_false, beq_self_eq_true, O_eqv, eqv_bool, eq_self, Q_for_normal, List.replicate_succ, List.replicate_zero, lenC, r0', r9', r9, r10, pcl, decide_true, a1, a3, insL_len, insL_0, insL_2, insL_16, ref_Memory_c, km, kop, u1, rs_same, rs_ne, ws_same, hlt, tb, iI, R8, th_len, th_9, th_s9, th_s10, pcw, Int.reduceBEq, aA, gA, eqv_bool, hz']
          obtain ⟨l1, l2⟩ := lgo (t.pc + 1) (t.R) t.rd t.evs (by first | exact R8 | (rw [List.length_set]; exact R8))
          obtain ⟨w', hw'⟩ := w.next hf hi ht (by unfold isEv; rw [km, hh]; rfl) kr l1 (kx l2)
          exact ⟨_, _, _, junkA rfl ⟨w', by omega⟩⟩
    · have pcl : ¬ ((t.pc : Int) < (code.length : Int)) := by omega
      simp only [C_ops, C_cond, D_exit, D_ret, normal_some, cond_ff, E_nil, E_cons, next_some, ev_tmp, ev_const, get_succ, get_zero, List.set_cons_succ, List.set_cons_zero, O_mv, O_bin, pairO, O_len, O_load1, load1_ptr, B_lss, Nat.zero_add, W_some, W_seq, Q_cont_normal, Q_cont_exit, Q_block_exit, O_off, off_ptr, O_nilCheck, nilCheck_ptr, Nat.add_zero, Q_retE, Q_for_exit, lenC, r0', r9', pcl, decide_false]
      have := w.done l0 [] (b := false) (by simp) (fun _ => by omega)
      rw [List.append_nil] at this
      exact this
  · rintro st ⟨t, K', path', j, rfl, w, hkt⟩
    have lt := w.lt
    have R8 := lt.R8
    have r0' : Heap.read1 K' ⟨pt, 0, some 0⟩ = some (.slice ca cn cm) := by rw [rs_at lt.th, th_0]
    have r9' : Heap.read1 K' ⟨pt, 9, some 0⟩ = some (.int .i64 t.pc) := by rw [rs_at lt.th, th_9 R8]
    have pcl : ¬ ((t.pc : Int) < (code.length : Int)) := by omega
    simp only [C_ops, C_cond, D_exit, D_ret, normal_some, cond_ff, E_nil, E_cons, next_some, ev_tmp, ev_const, get_succ, get_zero, List.set_cons_succ, List.set_cons_zero, O_mv, O_bin, pairO, O_len, O_load1, load1_ptr, B_lss, Nat.zero_add, W_some, W_seq, Q_cont_normal, Q_cont_exit, Q_block_exit, O_off, off_ptr, O_nilCheck, nilCheck_ptr, Nat.add_zero, Q_retE, Q_for_exit, lenC, r0', r9', pcl, decide_false]
    have := w.done l0 [] (b := false) (by simp) (fun _ => by omega)
    rw [List.append_nil] at this
    exact this
  · exact ⟨s, K, path, junkA rfl ⟨⟨l0, KeptX.refl _ _ _, rfl, rfl, rfl, hle, hsp, .inl ⟨rfl, rfl, rfl⟩, fun P _ h => h⟩, Nat.zero_le _⟩⟩
end Go.Proofs.Ytjodnadlplicmaa.AM
