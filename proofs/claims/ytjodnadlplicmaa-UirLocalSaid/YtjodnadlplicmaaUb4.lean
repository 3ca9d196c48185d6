/-
  A code run by itself, as the program does it: the walk.
  Conditions: none but that the code and the reads are no longer than an argument may be.
-/
import Derived.Test.YtjodnadlplicmaaUb3
namespace Go.Proofs.Ytjodnadlplicmaa.AM
open Go.RowKit
set_option linter.unusedSimpArgs false
set_option linter.unusedVariables false

set_option maxHeartbeats 16000000 in
set_option maxRecDepth 50000 in
theorem uir_Local_c {code : List Ins} {c : Value} {h : Heap} (hc : InsSl h c code) (hl : code.length < 4611686018427387904) {R : List Int} (hR : R.length = 8) {rdv : Value} {rd : List Int} (hrd : IntS h rdv rd) (hrl : rd.length < 4611686018427387904) :
    ∃ v h', DF FF n_uir_Local [c, agg (regsL R), rdv] h = some (v, h') ∧ LocalR code R rd h v h' := by
  refine fun_wpE F_uir_Local ?_
  have hck := uir_Check_c [code] _ _ (Codes_row (hc.more [.cells (regsL R) 0 false, .cells (List.replicate 8 (.int .i64 0)) 0 false])) (by intro d hd; simp at hd; subst hd; exact hl) (by simp)
  unfold tup3 at hck
  simp only [List.append_assoc, List.cons_append, List.nil_append, List.length_append, List.length_cons, List.length_nil, Nat.zero_add, Nat.reduceAdd] at hck
  obtain ⟨ca, cn, cm, rfl⟩ := hc.shape
  have r8 : (regsL R).length = 8 := by rw [regsL_len, hR]
  cases hr : rightC code
  · have hne : ((checkV [code]).2.2 != 0) = true := by
      unfold rightC at hr; rw [bne, hr]; rfl
    simp only [c_uir_Local, C_ops, C_cond, D_ret, normal_some, cond_tt, E_nil, E_cons, next_some, next_none, ev_tmp, ev_const, get_succ, get_zero, List.set_cons_succ, List.set_cons_zero, O_mv, O_bin, pairO, O_call, List.map_cons, List.map_nil, O_load, load_ptr, O_mkRow, mk_some, partsV_nil, partsV_cons, zeros_zero, zeros_succ, fill_nil, fill_slice, Nat.lt_add_one, B_neq, List.cons_append, List.nil_append, List.length_cons, List.length_nil, Nat.reduceAdd, Nat.reduceSub, Nat.zero_add, W_some, W_seq, Q_cont_normal, Q_cont_ret, slc, O_alloc, O_box, O_extract, extract_tup, wrote_some, O_store, store_agg, read_skip, read_next, read_there, pre_some, cons_some, write_skip, write_next, write_there, fillU_zero, fillU_succ, List.append_assoc, List.length_append, List.append_nil, Option.map_some, List.getElem?_cons_zero, List.getElem?_cons_succ, eq_self, laid_agg, box_some, r8, List.length_replicate, Nat.reduceAdd, hck, hne, Q_retE4, cells4E_ptr, out4E_some]
    unfold LocalR
    rw [hr, if_neg (by simp)]
    exact ⟨rfl, finish_pre ((Pre.refl h).more _) rfl⟩
  · have hz : ((checkV [code]).2.2 != 0) = false := by
      unfold rightC at hr; rw [bne, hr]; rfl
    have rc := rightC_rc hr
    have hf := rc.fwd
    have h8 := rc.len
    have lenC : ∀ K, lenO K (.slice ca cn cm) = some (.int .i64 code.length, K) := hc.len
    have LR : LocalR code R rd h = fun v h' => match localV code R rd with
      | none => v = tup [agg (List.replicate 8 (.int .i64 0)), nils, nils, .int .i64 24] ∧ h' = h
      | some t => ∃ evs path, v = tup [agg (regsL t.R), evs, path, .int .i64 0] ∧ Own h h' path 1 (t.path.map intR) ∧ Own h h' evs 15 (t.evs.map evL) ∧ Pre h h' := by
      funext v h'; unfold LocalR; rw [if_pos hr]; cases localV code R rd <;> rfl
    have z8 : (List.replicate 8 (Value.int .i64 0)).length = 8 := by simp
    have fin : ∀ {s : LS} {K : Heap} {path evs rdv : Value}, LI h h.length (h.length + 1) code (localV code R rd) s K path evs rdv → code.length ≤ s.pc → LocalR code R rd h (tup [agg (regsL s.R), evs, path, .int .i64 0]) (AM.finish h (tup [agg (regsL s.R), evs, path, .int .i64 0]) (K.set (h.length + 1) (.cells (regsL s.R) 0 false))) := by
      intro s K path evs rdv li hpc
      have e1 := li.tot
      rw [endV_done hpc] at e1
      rw [LR, ← e1]
      have p := li.lh.pre.set li.lh.ho (.cells (regsL s.R) 0 false)
      have oa : Own h (K.set (h.length + 1) (.cells (regsL s.R) 0 false)) path 1 (s.path.map intR) := li.lh.pa.keep fun b hb o ho => by rw [List.getElem?_set_ne (by rintro rfl; exact li.lh.cpo hb)]; exact ho
      have ob : Own h (K.set (h.length + 1) (.cells (regsL s.R) 0 false)) evs 15 (s.evs.map evL) := li.lh.ev.keep fun b hb o ho => by rw [List.getElem?_set_ne (by rintro rfl; exact li.lh.ceo hb)]; exact ho
      exact ⟨evs, path, rfl, finish_two oa ob p⟩
    simp only [c_uir_Local, C_ops, C_cond, D_skip, normal_some, cond_ff, E_nil, E_cons, next_some, ev_tmp, ev_const, get_succ, get_zero, List.set_cons_succ, List.set_cons_zero, O_mv, O_bin, pairO, O_call, List.map_cons, List.map_nil, O_mkRow, mk_some, partsV_nil, partsV_cons, zeros_zero, zeros_succ, fill_nil, fill_slice, Nat.lt_add_one, B_neq, List.cons_append, List.nil_append, List.length_cons, List.length_nil, Nat.reduceAdd, Nat.reduceSub, Nat.zero_add, W_some, W_seq, W_block, Q_cont_normal, slc, O_alloc, O_box, O_extract, extract_tup, fillU_zero, fillU_succ, List.append_assoc, List.length_append, List.append_nil, List.getElem?_cons_zero, List.getElem?_cons_succ, eq_self, laid_agg, box_some, r8, Nat.reduceAdd, hck, hz, L_func]
    refine for_wp code.length (fun k st => ∃ (s : LS) (K : Heap) (path evs rdv : Value) (j : Nat → Value), st = ⟨[.slice ca cn cm, j 1, rdv, j 3, .pointer (some ⟨h.length, 0, some 0⟩), j 5, .pointer (some ⟨h.length + 1, 0, some 0⟩), evs, path, j 9, j 10, j 11, j 12, .func (.func n_uir_Local_1) #[] #[.pointer (some ⟨h.length, 0, some 0⟩)], .int .i64 (s.pc : Int), j 15, j 16, j 17, j 18, j 19, j 20, j 21, j 22, j 23, j 24, j 25, j 26, j 27, j 28, j 29, j 30, j 31, j 32, j 33, j 34, j 35, j 36, j 37, j 38, j 39, j 40, j 41, j 42, j 43, j 44, j 45, j 46, j 47, j 48, j 49, j 50, j 51, j 52, j 53, j 54, j 55, j 56, j 57, j 58, j 59, j 60, j 61, j 62, j 63, j 64, j 65, j 66, j 67, j 68, j 69, j 70, j 71, j 72, j 73, j 74, j 75, j 76, j 77, j 78, j 79, j 80, j 81, j 82, j 83, j 84, j 85, j 86, j 87, j 88, j 89, j 90, j 91, j 92, j 93, j 94, j 95, j 96, j 97, j 98, j 99, j 100, j 101, j 102, j 103, j 104, j 105, j 106, j 107, j 108, j 109, j 110, j 111, j 112, j 113, j 114, j 115, j 116, j 117, j 118, j 119, j 120, j 121, j 122, j 123, j 124, j 125, j 126, j 127, j 128, j 129, j 130, j 131, j 132, j 133, j 134, j 135, j 136, j 137, j 138, j 139, j 140, j 141, j 142, j 143, j 144, j 145, j 146, j 147, j 148, j 149, j 150, j 151, j 152, j 153, j 154, j 155, j 156, j 157, j 158, j 159, j 160, j 161, j 162, j 163, j 164, j 165, j 166, j 167, j 168, j 169, j 170, j 171, j 172, j 173, j 174, j 175, j 176, j 177, j 178, j 179, j 180, j 181, j 182, j 183, j 184, j 185, j 186, j 187, j 188, j 189, j 190, j 191, j 192, j 193, j 194, j 195, j 196, j 197], K⟩ ∧ LI h h.length (h.length + 1) code (localV code R rd) s K path evs rdv ∧ k ≤ s.pc) ?_ ?_ _ ?_
    · rintro k st hk ⟨s, K, path, evs, rdv, j, rfl, li, hks⟩
      have lh := li.lh
      by_cases hpc : s.pc < code.length
      · have pcl : (s.pc : Int) < (code.length : Int) := by omega
        have lenP : ∀ K, lenO K path = some (.int .i64 s.path.length, K) := fun K => by rw [lh.pa.len, List.length_map]
        have hi : code[s.pc]? = some code[s.pc] := List.getElem?_eq_getElem hpc
        have kind := okI_kind (rightV_ok (rc.all _ hpc))
        obtain ⟨b, o, w, a1, _, a3⟩ := (hc.pre lh.pre).at hpc
        have pcw := wrap_nat (k := s.pc) (by omega)
        have sp := li.sp
        have se := li.se
        generalize code[s.pc] = i at hi kind a3
        cases kind with
        | const hh d =>
          have kop := hh
          have kr : readsV i = false := by unfold readsV; rw [hh]; rfl
          have kw : writesV i = false := by unfold writesV; rw [hh]; rfl
          have kg : givesV i = i.dst := by unfold givesV; rw [hh]; rfl
          obtain ⟨path', K', u1, lk⟩ := lh.go i ([.int .i64 0, .int .i64 s.path.length, .int .i64 s.pc, .int .i64 1, .int .i64 0, .int .i64 0, .bool false, .bool false, .int .i64 0, .int .i64 0, .bool i.acq, .bool i.weak, .bool i.rel, .int .i64 i.pred, .int .i64 i.succ]) s.pc (by omega)
          have iI := fun j => rs_at (j := j) lk.ins
          have iI17 := rr_at (n := 17) lk.ins (insL_len i)
          have nD := d.nn
          have aD := d.arr h.length
          have wD : ∀ l x, Heap.write1 (K'.set (K.length + 1) (.cells l 0 false)) ⟨h.length, i.dst.toNat, some 0⟩ (.int .i64 x) = some ((K'.set (K.length + 1) (.cells l 0 false)).set h.length (.cells (regsL (s.R.set i.dst.toNat x)) 0 false)) := fun l x => by
            rw [ws_at (lk.lh.setE lk.low (.cells l 0 false) lk.nb lk.no lk.cp lk.ce).rg (by rw [regsL_len, lh.R8]; exact d.lt), regsL_set]
          have dn1 : ¬ (i.dst = -1) := by omega
          have ht : stepV i s = some ⟨s.pc + 1, s.R.set i.dst.toNat i.imm, s.rd, s.path ++ [(s.pc : Int)], s.evs⟩ := by
            simp [stepV, nextV, regsN, gotV, isEv, memV, kr, kw, kg, hh, dn1]
          simp only [C_ops, C_cond, D_skip, normal_some, cond_tt, cond_ff, E_nil, E_cons, E_guard, next_some, next_none, guard_ff, ev_tmp, ev_const, get_succ, get_zero, List.set_cons_succ, List.set_cons_zero, O_mv, O_pick, pickO, O_bin, pairO, O_call, List.map_cons, List.map_nil, O_len, O_atRow, O_load1, load1_ptr, O_load, load_ptr, O_mkRow, O_build, mk_some, build_some, partsV_nil, partsV_cons, zeros_zero, zeros_succ, fill_nil, fill_int, fill_bool, Nat.lt_add_one, Nat.reduceLT, B_add, B_eql, B_lss, B_geq, List.cons_append, List.nil_append, List.length_cons, List.length_nil, Nat.reduceAdd, Nat.zero_add, W_some, W_seq, W_block, Q_cont_normal, Q_block_normal, slc, O_append, O_alloc, O_atArr, O_off, off_ptr, wrote_some, O_store1, store1_int, O_store, store_agg, read1_skip0, read1_there, read_skip0, read_there, pre_some, cons_some, write_skip, write_skip0, write_next, write_there, List.append_assoc, List.length_append, List.append_nil, Nat.add_zero, Option.map_some, List.getElem?_cons_zero, List.getElem?_cons_succ, again1_int, again1_bool, beq_self_eq_true, eq_self, O_again, again_agg, O_again1, Q_for_normal, List.replicate_succ, List.replicate_zero, lenC, pcl, decide_true, a1, a3, insL_len, insL_0, insL_4, insL_10, insL_11, insL_12, insL_13, insL_14, lenP, uir_Reads_c, uir_Writes_c, uir_Gives_c, u1, rs_ne, rr_ne, rs_same, lk.nt, lk.be, lk.tb, lk.lt, iI, iI17, kop, kr, kw, kg, pcw, Int.reduceBEq, nD, aD, wD]
          obtain ⟨li', lt'⟩ := li.next hf hi ht (((lk.lh.setE lk.low (.cells ([.int .i64 0, .int .i64 s.path.length, .int .i64 s.pc, .int .i64 1, .int .i64 0, .int .i64 0, .bool false, .bool false, .int .i64 0, .int .i64 0, .bool i.acq, .bool i.weak, .bool i.rel, .int .i64 i.pred, .int .i64 i.succ]) 0 false) lk.nb lk.no lk.cp lk.ce).setR (by rw [List.length_set]; exact lh.R8) _ _)) li.rd
          exact ⟨_, _, path', evs, rdv, junkA rfl ⟨li', by omega⟩⟩
        | move hh d a =>
          have kop := hh
          have kr : readsV i = false := by unfold readsV; rw [hh]; rfl
          have kw : writesV i = false := by unfold writesV; rw [hh]; rfl
          have kg : givesV i = i.dst := by unfold givesV; rw [hh]; rfl
          obtain ⟨path', K', u1, lk⟩ := lh.go i ([.int .i64 0, .int .i64 s.path.length, .int .i64 s.pc, .int .i64 2, .int .i64 0, .int .i64 0, .bool false, .bool false, .int .i64 0, .int .i64 0, .bool i.acq, .bool i.weak, .bool i.rel, .int .i64 i.pred, .int .i64 i.succ]) s.pc (by omega)
          have iI := fun j => rs_at (j := j) lk.ins
          have iI17 := rr_at (n := 17) lk.ins (insL_len i)
          have nD := d.nn
          have aD := d.arr h.length
          have wD : ∀ l x, Heap.write1 (K'.set (K.length + 1) (.cells l 0 false)) ⟨h.length, i.dst.toNat, some 0⟩ (.int .i64 x) = some ((K'.set (K.length + 1) (.cells l 0 false)).set h.length (.cells (regsL (s.R.set i.dst.toNat x)) 0 false)) := fun l x => by
            rw [ws_at (lk.lh.setE lk.low (.cells l 0 false) lk.nb lk.no lk.cp lk.ce).rg (by rw [regsL_len, lh.R8]; exact d.lt), regsL_set]
          have dn1 : ¬ (i.dst = -1) := by omega
          have aA := a.arr h.length
          have gA := a.rd (R := s.R) lh.R8 lk.lh.rg
          have ht : stepV i s = some ⟨s.pc + 1, s.R.set i.dst.toNat (reg s.R i.a), s.rd, s.path ++ [(s.pc : Int)], s.evs⟩ := by
            simp [stepV, nextV, regsN, gotV, isEv, memV, kr, kw, kg, hh, dn1]
          simp only [C_ops, C_cond, D_skip, normal_some, cond_tt, cond_ff, E_nil, E_cons, E_guard, next_some, next_none, guard_ff, ev_tmp, ev_const, get_succ, get_zero, List.set_cons_succ, List.set_cons_zero, O_mv, O_pick, pickO, O_bin, pairO, O_call, List.map_cons, List.map_nil, O_len, O_atRow, O_load1, load1_ptr, O_load, load_ptr, O_mkRow, O_build, mk_some, build_some, partsV_nil, partsV_cons, zeros_zero, zeros_succ, fill_nil, fill_int, fill_bool, Nat.lt_add_one, Nat.reduceLT, B_add, B_eql, B_lss, B_geq, List.cons_append, List.nil_append, List.length_cons, List.length_nil, Nat.reduceAdd, Nat.zero_add, W_some, W_seq, W_block, Q_cont_normal, Q_block_normal, slc, O_append, O_alloc, O_atArr, O_off, off_ptr, wrote_some, O_store1, store1_int, O_store, store_agg, read1_skip0, read1_there, read_skip0, read_there, pre_some, cons_some, write_skip, write_skip0, write_next, write_there, List.append_assoc, List.length_append, List.append_nil, Nat.add_zero, Option.map_some, List.getElem?_cons_zero, List.getElem?_cons_succ, again1_int, again1_bool, beq_self_eq_true, eq_self, O_again, again_agg, O_again1, Q_for_normal, List.replicate_succ, List.replicate_zero, lenC, pcl, decide_true, a1, a3, insL_len, insL_0, insL_2, insL_10, insL_11, insL_12, insL_13, insL_14, lenP, uir_Reads_c, uir_Writes_c, uir_Gives_c, u1, rs_ne, rr_ne, rs_same, lk.nt, lk.nb, lk.be, lk.tb, lk.lt, iI, iI17, kop, kr, kw, kg, pcw, Int.reduceBEq, nD, aD, wD, aA, gA]
          obtain ⟨li', lt'⟩ := li.next hf hi ht (((lk.lh.setE lk.low (.cells ([.int .i64 0, .int .i64 s.path.length, .int .i64 s.pc, .int .i64 2, .int .i64 0, .int .i64 0, .bool false, .bool false, .int .i64 0, .int .i64 0, .bool i.acq, .bool i.weak, .bool i.rel, .int .i64 i.pred, .int .i64 i.succ]) 0 false) lk.nb lk.no lk.cp lk.ce).setR (by rw [List.length_set]; exact lh.R8) _ _)) li.rd
          exact ⟨_, _, path', evs, rdv, junkA rfl ⟨li', by omega⟩⟩
        | alu hh d a b_ =>
          have kop := hh
          have kr : readsV i = false := by unfold readsV; rw [hh]; rfl
          have kw : writesV i = false := by unfold writesV; rw [hh]; rfl
          have kg : givesV i = i.dst := by unfold givesV; rw [hh]; rfl
          obtain ⟨path', K', u1, lk⟩ := lh.go i ([.int .i64 0, .int .i64 s.path.length, .int .i64 s.pc, .int .i64 3, .int .i64 0, .int .i64 0, .bool false, .bool false, .int .i64 0, .int .i64 0, .bool i.acq, .bool i.weak, .bool i.rel, .int .i64 i.pred, .int .i64 i.succ]) s.pc (by omega)
          have iI := fun j => rs_at (j := j) lk.ins
          have iI17 := rr_at (n := 17) lk.ins (insL_len i)
          have nD := d.nn
          have aD := d.arr h.length
          have wD : ∀ l x, Heap.write1 (K'.set (K.length + 1) (.cells l 0 false)) ⟨h.length, i.dst.toNat, some 0⟩ (.int .i64 x) = some ((K'.set (K.length + 1) (.cells l 0 false)).set h.length (.cells (regsL (s.R.set i.dst.toNat x)) 0 false)) := fun l x => by
            rw [ws_at (lk.lh.setE lk.low (.cells l 0 false) lk.nb lk.no lk.cp lk.ce).rg (by rw [regsL_len, lh.R8]; exact d.lt), regsL_set]
          have dn1 : ¬ (i.dst = -1) := by omega
          have aA := a.arr h.length
          have gA := a.rd (R := s.R) lh.R8 lk.lh.rg
          have cB : ∀ l, DF FF n_uir_Local_1 [.int .i64 i.b, .int .i64 i.imm, .pointer (some ⟨h.length, 0, some 0⟩)] (K'.set (K.length + 1) (.cells l 0 false)) = some (.int .i64 (valR s.R i.b i.imm), (K'.set (K.length + 1) (.cells l 0 false))) := fun l => uir_Local_1_c (lk.lh.setE lk.low (.cells l 0 false) lk.nb lk.no lk.cp lk.ce).rg lh.R8 b_
          have ht : stepV i s = some ⟨s.pc + 1, s.R.set i.dst.toNat (aluV i.fn (reg s.R i.a) (valR s.R i.b i.imm)), s.rd, s.path ++ [(s.pc : Int)], s.evs⟩ := by
            simp [stepV, nextV, regsN, gotV, isEv, memV, kr, kw, kg, hh, dn1]
          simp only [C_ops, C_cond, D_skip, normal_some, cond_tt, cond_ff, E_nil, E_cons, E_guard, next_some, next_none, guard_ff, ev_tmp, ev_const, get_succ, get_zero, List.set_cons_succ, List.set_cons_zero, O_mv, O_pick, pickO, O_bin, pairO, O_call, List.map_cons, List.map_nil, O_len, O_atRow, O_load1, load1_ptr, O_load, load_ptr, O_mkRow, O_build, mk_some, build_some, partsV_nil, partsV_cons, zeros_zero, zeros_succ, fill_nil, fill_int, fill_bool, Nat.lt_add_one, Nat.reduceLT, B_add, B_eql, B_lss, B_geq, List.cons_append, List.nil_append, List.length_cons, List.length_nil, Nat.reduceAdd, Nat.zero_add, W_some, W_seq, W_block, Q_cont_normal, Q_block_normal, slc, O_append, O_alloc, O_atArr, O_off, off_ptr, wrote_some, O_store1, store1_int, O_store, store_agg, read1_skip0, read1_there, read_skip0, read_there, pre_some, cons_some, write_skip, write_skip0, write_next, write_there, List.append_assoc, List.length_append, List.append_nil, Nat.add_zero, Option.map_some, List.getElem?_cons_zero, List.getElem?_cons_succ, again1_int, again1_bool, beq_self_eq_true, eq_self, O_again, again_agg, O_again1, Q_for_normal, List.replicate_succ, List.replicate_zero, lenC, pcl, decide_true, a1, a3, insL_len, insL_0, insL_2, insL_3, insL_4, insL_9, insL_10, insL_11, insL_12, insL_13, insL_14, lenP, uir_Reads_c, uir_Writes_c, uir_Gives_c, u1, rs_ne, rr_ne, rs_same, lk.nt, lk.nb, lk.be, lk.tb, lk.lt, iI, iI17, L_callv, callL_func, kop, kr, kw, kg, pcw, Int.reduceBEq, nD, aD, wD, aA, gA, cB, alu18]
          obtain ⟨li', lt'⟩ := li.next hf hi ht (((lk.lh.setE lk.low (.cells ([.int .i64 0, .int .i64 s.path.length, .int .i64 s.pc, .int .i64 3, .int .i64 0, .int .i64 0, .bool false, .bool false, .int .i64 0, .int .i64 0, .bool i.acq, .bool i.weak, .bool i.rel, .int .i64 i.pred, .int .i64 i.succ]) 0 false) lk.nb lk.no lk.cp lk.ce).setR (by rw [List.length_set]; exact lh.R8) _ _)) li.rd
          exact ⟨_, _, path', evs, rdv, junkA rfl ⟨li', by omega⟩⟩
        | load hh d x =>
          have kop := hh
          have kr : readsV i = true := by unfold readsV; rw [hh]; rfl
          have kw : writesV i = false := by unfold writesV; rw [hh]; rfl
          have kg : givesV i = i.dst := by unfold givesV; rw [hh]; rfl
          obtain ⟨path', K', u1, lk⟩ := lh.go i ([.int .i64 0, .int .i64 s.path.length, .int .i64 s.pc, .int .i64 4, .int .i64 0, .int .i64 0, .bool true, .bool false, .int .i64 0, .int .i64 0, .bool i.acq, .bool i.weak, .bool i.rel, .int .i64 i.pred, .int .i64 i.succ]) s.pc (by omega)
          have iI := fun j => rs_at (j := j) lk.ins
          have iI17 := rr_at (n := 17) lk.ins (insL_len i)
          have nD := d.nn
          have aD := d.arr h.length
          have wD : ∀ l x, Heap.write1 (K'.set (K.length + 1) (.cells l 0 false)) ⟨h.length, i.dst.toNat, some 0⟩ (.int .i64 x) = some ((K'.set (K.length + 1) (.cells l 0 false)).set h.length (.cells (regsL (s.R.set i.dst.toNat x)) 0 false)) := fun l x => by
            rw [ws_at (lk.lh.setE lk.low (.cells l 0 false) lk.nb lk.no lk.cp lk.ce).rg (by rw [regsL_len, lh.R8]; exact d.lt), regsL_set]
          have dn1 : ¬ (i.dst = -1) := by omega
          have cX : ∀ l, DF FF n_uir_Local_1 [.int .i64 i.index, .int .i64 0, .pointer (some ⟨h.length, 0, some 0⟩)] (K'.set (K.length + 1) (.cells l 0 false)) = some (.int .i64 (valR s.R i.index 0), (K'.set (K.length + 1) (.cells l 0 false))) := fun l => uir_Local_1_c (lk.lh.setE lk.low (.cells l 0 false) lk.nb lk.no lk.cp lk.ce).rg lh.R8 x
          cases hq : s.rd with
          | nil =>
            have lenR : ∀ H, lenO H rdv = some (.int .i64 0, H) := fun H => by rw [li.rd.len, hq]; rfl
            have wO : ∀ l, Heap.write (K'.set (K.length + 1) (.cells l 0 false)) ⟨h.length + 1, 0, some 0⟩ [.int .i64 0, .int .i64 0, .int .i64 0, .int .i64 0, .int .i64 0, .int .i64 0, .int .i64 0, .int .i64 0] = some ((K'.set (K.length + 1) (.cells l 0 false)).set (h.length + 1) (.cells [.int .i64 0, .int .i64 0, .int .i64 0, .int .i64 0, .int .i64 0, .int .i64 0, .int .i64 0, .int .i64 0] 0 false)) := fun l => ww_all (lk.lh.setE lk.low (.cells l 0 false) lk.nb lk.no lk.cp lk.ce).ou rfl
            have rO : ∀ l, Heap.read ((K'.set (K.length + 1) (.cells l 0 false)).set (h.length + 1) (.cells [.int .i64 0, .int .i64 0, .int .i64 0, .int .i64 0, .int .i64 0, .int .i64 0, .int .i64 0, .int .i64 0] 0 false)) ⟨h.length + 1, 0, some 0⟩ 8 = some [.int .i64 0, .int .i64 0, .int .i64 0, .int .i64 0, .int .i64 0, .int .i64 0, .int .i64 0, .int .i64 0] := fun l => rr_same (lk.lh.setE lk.low (.cells l 0 false) lk.nb lk.no lk.cp lk.ce).lb.2 rfl
            have ht : stepV i s = none := by simp [stepV, kr, hq]
            have hn : localV code R rd = none := by rw [← li.tot, endV_step hf hi, ht]; rfl
            simp only [C_ops, C_cond, D_ret, D_skip, normal_some, cond_tt, E_nil, E_cons, E_guard, next_some, next_none, guard_ft, ev_tmp, ev_const, get_succ, get_zero, List.set_cons_succ, List.set_cons_zero, O_mv, O_pick, pickO, O_bin, pairO, O_call, List.map_cons, List.map_nil, O_len, O_atRow, O_load1, load1_ptr, O_load, load_ptr, O_mkRow, O_build, mk_some, build_some, partsV_nil, partsV_cons, zeros_zero, zeros_succ, fill_nil, fill_int, fill_bool, Nat.lt_add_one, Nat.zero_lt_succ, Nat.reduceLT, B_add, B_eql, B_lss, List.cons_append, List.nil_append, List.length_cons, List.length_nil, Nat.reduceAdd, Nat.zero_add, W_some, W_seq, W_block, Q_cont_normal, Q_cont_ret, Q_block_ret, slc, O_append, O_alloc, O_off, off_ptr, wrote_some, O_store, store_agg, read1_skip0, read1_there, read_skip0, read_there, pre_some, cons_some, write_skip, write_skip0, write_next, write_there, List.append_assoc, List.length_append, List.append_nil, Nat.add_zero, Option.map_some, List.getElem?_cons_zero, List.getElem?_cons_succ, again1_int, again1_bool, beq_self_eq_true, eq_self, O_again, again_agg, O_again1, Q_for_ret, List.replicate_succ, List.replicate_zero, lenC, pcl, decide_true, a1, a3, insL_len, insL_0, insL_5, insL_6, insL_7, insL_8, insL_10, insL_11, insL_12, insL_13, insL_14, lenP, uir_Reads_c, uir_Writes_c, u1, rs_ne, rs_same, ww_same, splice2, lk.nt, lk.lt, iI, L_callv, callL_func, kop, kr, kw, pcw, Nat.reduceLeDiff, cX, place24, mask22, lenR, wO, rO, Q_retE4, cells4E_ptr, out4E_some]
            rw [LR]
            simp only [hn]
            exact ⟨rfl, finish_pre ((lk.lh.setE lk.low _ lk.nb lk.no lk.cp lk.ce).pre.set lh.ho _) rfl⟩
          | cons x0 rest =>
            obtain ⟨rb, ro, rv, q1, _, q3⟩ := (li.rd.pre (lk.lh.setE lk.low (.cells [] 0 false) lk.nb lk.no lk.cp lk.ce).pre).at (k := 0) (by rw [hq]; simp)
            have q1 : ∀ H, rowO H 1 rdv (.int .i64 0) = some (.pointer (some ⟨rb, ro, some rv⟩), H) := q1
            have rX : ∀ l, Heap.read1 (K'.set (K.length + 1) (.cells l 0 false)) ⟨rb, ro, some rv⟩ = some (.int .i64 x0) := fun l => by
              obtain ⟨rb', ro', rv', p1, _, p3⟩ := (li.rd.pre (lk.lh.setE lk.low (.cells l 0 false) lk.nb lk.no lk.cp lk.ce).pre).at (k := 0) (by rw [hq]; simp)
              have p1 : ∀ H, rowO H 1 rdv (.int .i64 0) = some (.pointer (some ⟨rb', ro', some rv'⟩), H) := p1
              have hE := (q1 []).symm.trans (p1 [])
              simp only [Option.some.injEq, Prod.mk.injEq, Value.pointer.injEq, Addr.mk.injEq, and_true] at hE
              obtain ⟨rfl, rfl, rfl⟩ := hE
              rw [p3]; simp only [hq, List.getElem_cons_zero]
            obtain ⟨rdv', cR, rd'⟩ := IntS.tail (hq ▸ li.rd)
            have lenR : ∀ H, lenO H rdv = some (.int .i64 ((rest.length + 1 : Nat) : Int), H) := fun H => by rw [li.rd.len, hq]; rfl
            have lenZ : (((rest.length + 1 : Nat) : Int) == 0) = false := by simp; omega
            obtain ⟨evs', E', u2, lh'⟩ := ((lk.lh.setE lk.low (.cells ([.int .i64 0, .int .i64 s.path.length, .int .i64 s.pc, .int .i64 4, .int .i64 i.loc, .int .i64 (maskV (placeV i.off (valR s.R i.index 0) i.size) i.size), .bool true, .bool false, .int .i64 (getV x0 0 i.size), .int .i64 (0), .bool i.acq, .bool i.weak, .bool i.rel, .int .i64 i.pred, .int .i64 i.succ]) 0 false) lk.nb lk.no lk.cp lk.ce).setR (R := s.R.set i.dst.toNat (getV x0 0 i.size)) (by rw [List.length_set]; exact lh.R8) (s.pc + 1) rest).push (⟨s.path.length, s.pc, 4, i.loc, (spanV i s.R), true, false, getV x0 0 i.size, 0, i.acq, i.weak, i.rel, i.pred, i.succ⟩) (by show s.evs.length < 1000; omega)
            simp only [evL, spanV, List.length_set] at u2
            have ht : stepV i s = some ⟨s.pc + 1, s.R.set i.dst.toNat (getV x0 0 i.size), rest, s.path ++ [(s.pc : Int)], s.evs ++ [⟨s.path.length, s.pc, 4, i.loc, (spanV i s.R), true, false, getV x0 0 i.size, 0, i.acq, i.weak, i.rel, i.pred, i.succ⟩]⟩ := by
              simp [stepV, nextV, regsN, gotV, isEv, memV, evV, oldV, newV, kr, kw, kg, hh, dn1, hq]
            simp only [C_ops, C_cond, D_skip, normal_some, cond_tt, cond_ff, E_nil, E_cons, E_guard, next_some, next_none, guard_ft, ev_tmp, ev_const, get_succ, get_zero, List.set_cons_succ, List.set_cons_zero, O_mv, O_pick, pickO, O_bin, pairO, O_call, List.map_cons, List.map_nil, O_len, O_atRow, O_load1, load1_ptr, O_load, load_ptr, O_mkRow, O_build, mk_some, build_some, partsV_nil, partsV_cons, zeros_zero, zeros_succ, fill_nil, fill_int, fill_bool, Nat.lt_add_one, Nat.zero_lt_succ, Nat.reduceLT, B_add, B_eql, B_lss, B_geq, List.cons_append, List.nil_append, List.length_cons, List.length_nil, Nat.reduceAdd, Nat.zero_add, W_some, W_seq, W_block, Q_cont_normal, Q_block_normal, slc, O_append, O_slice, Option.map_none, O_alloc, O_atArr, O_off, off_ptr, wrote_some, O_store1, store1_int, O_store, store_agg, read1_skip0, read1_there, read_skip0, read_there, pre_some, cons_some, write_skip, write_skip0, write_next, write_there, List.append_assoc, List.length_append, List.append_nil, Nat.add_zero, Option.map_some, List.getElem?_cons_zero, List.getElem?_cons_succ, again1_int, again1_bool, eq_self, O_again, again_agg, O_again1, Q_for_normal, List.replicate_succ, List.replicate_zero, lenC, pcl, decide_true, a1, a3, insL_len, insL_0, insL_5, insL_6, insL_7, insL_8, insL_10, insL_11, insL_12, insL_13, insL_14, lenP, uir_Reads_c, uir_Writes_c, uir_Gives_c, u1, rs_ne, rr_ne, rs_same, rr_same, ws_same, ww_same, splice2, List.length_set, lk.nt, lk.be, lk.lt, iI, iI17, L_callv, callL_func, kop, kr, kw, kg, pcw, Int.reduceBEq, Nat.reduceLeDiff, fill_15, nD, aD, wD, cX, place24, mask22, lenR, lenZ, q1, rX, get10, cR, u2]
            obtain ⟨li', lt'⟩ := li.next hf hi ht lh' rd'
            exact ⟨_, _, path', evs', rdv', junkA rfl ⟨li', by omega⟩⟩
        | store hh a x =>
          have kop := hh
          have kr : readsV i = false := by unfold readsV; rw [hh]; rfl
          have kw : writesV i = true := by unfold writesV; rw [hh]; rfl
          have kg : givesV i = -1 := by unfold givesV; rw [hh]; rfl
          obtain ⟨path', K', u1, lk⟩ := lh.go i ([.int .i64 0, .int .i64 s.path.length, .int .i64 s.pc, .int .i64 5, .int .i64 0, .int .i64 0, .bool false, .bool true, .int .i64 0, .int .i64 0, .bool i.acq, .bool i.weak, .bool i.rel, .int .i64 i.pred, .int .i64 i.succ]) s.pc (by omega)
          have iI := fun j => rs_at (j := j) lk.ins
          have iI17 := rr_at (n := 17) lk.ins (insL_len i)
          have cX : ∀ l, DF FF n_uir_Local_1 [.int .i64 i.index, .int .i64 0, .pointer (some ⟨h.length, 0, some 0⟩)] (K'.set (K.length + 1) (.cells l 0 false)) = some (.int .i64 (valR s.R i.index 0), (K'.set (K.length + 1) (.cells l 0 false))) := fun l => uir_Local_1_c (lk.lh.setE lk.low (.cells l 0 false) lk.nb lk.no lk.cp lk.ce).rg lh.R8 x
          have cA : ∀ l, DF FF n_uir_Local_1 [.int .i64 i.a, .int .i64 i.imm, .pointer (some ⟨h.length, 0, some 0⟩)] (K'.set (K.length + 1) (.cells l 0 false)) = some (.int .i64 (valR s.R i.a i.imm), (K'.set (K.length + 1) (.cells l 0 false))) := fun l => uir_Local_1_c (lk.lh.setE lk.low (.cells l 0 false) lk.nb lk.no lk.cp lk.ce).rg lh.R8 a
          obtain ⟨evs', E', u2, lh'⟩ := ((lk.lh.setE lk.low (.cells ([.int .i64 0, .int .i64 s.path.length, .int .i64 s.pc, .int .i64 5, .int .i64 i.loc, .int .i64 (maskV (placeV i.off (valR s.R i.index 0) i.size) i.size), .bool false, .bool true, .int .i64 (0), .int .i64 (getV (valR s.R i.a i.imm) 0 i.size), .bool i.acq, .bool i.weak, .bool i.rel, .int .i64 i.pred, .int .i64 i.succ]) 0 false) lk.nb lk.no lk.cp lk.ce).at (s.pc + 1) s.rd).push (⟨s.path.length, s.pc, 5, i.loc, (spanV i s.R), false, true, 0, getV (valR s.R i.a i.imm) 0 i.size, i.acq, i.weak, i.rel, i.pred, i.succ⟩) (by show s.evs.length < 1000; omega)
          simp only [evL, spanV, List.length_set] at u2
          have ht : stepV i s = some ⟨s.pc + 1, s.R, s.rd, s.path ++ [(s.pc : Int)], s.evs ++ [⟨s.path.length, s.pc, 5, i.loc, (spanV i s.R), false, true, 0, getV (valR s.R i.a i.imm) 0 i.size, i.acq, i.weak, i.rel, i.pred, i.succ⟩]⟩ := by
            simp [stepV, nextV, regsN, isEv, memV, evV, oldV, newV, kr, kw, kg, hh]
          simp only [C_ops, C_cond, D_skip, normal_some, cond_tt, cond_ff, E_nil, E_cons, E_guard, next_some, next_none, guard_ff, guard_ft, ev_tmp, ev_const, get_succ, get_zero, List.set_cons_succ, List.set_cons_zero, O_mv, O_pick, pickO, O_bin, pairO, O_call, List.map_cons, List.map_nil, O_len, O_atRow, O_load1, load1_ptr, O_load, load_ptr, O_mkRow, O_build, mk_some, build_some, partsV_nil, partsV_cons, zeros_zero, zeros_succ, fill_nil, fill_int, fill_bool, Nat.lt_add_one, Nat.zero_lt_succ, Nat.reduceLT, B_add, B_eql, B_lss, B_geq, List.cons_append, List.nil_append, List.length_cons, List.length_nil, Nat.reduceAdd, Nat.zero_add, W_some, W_seq, W_block, Q_cont_normal, Q_block_normal, slc, O_append, O_alloc, O_off, off_ptr, wrote_some, O_store1, store1_int, O_store, store_agg, read1_skip0, read1_there, read_skip0, read_there, pre_some, cons_some, write_skip, write_skip0, write_next, write_there, List.append_assoc, List.length_append, List.append_nil, Nat.add_zero, Option.map_some, List.getElem?_cons_zero, List.getElem?_cons_succ, again1_int, again1_bool, beq_self_eq_true, Int.reduceLE, eq_self, O_again, again_agg, O_again1, Q_for_normal, List.replicate_succ, List.replicate_zero, lenC, pcl, decide_true, decide_false, a1, a3, insL_len, insL_0, insL_2, insL_4, insL_5, insL_6, insL_7, insL_8, insL_10, insL_11, insL_12, insL_13, insL_14, lenP, uir_Reads_c, uir_Writes_c, uir_Gives_c, u1, rs_ne, rr_ne, rs_same, rr_same, ws_same, ww_same, splice2, List.length_set, lk.nt, lk.lt, iI, iI17, L_callv, callL_func, kop, kr, kw, kg, pcw, Int.reduceBEq, Nat.reduceLeDiff, fill_15, cX, cA, place24, mask22, get10, u2, Int.reduceLE]
          obtain ⟨li', lt'⟩ := li.next hf hi ht lh' li.rd
          exact ⟨_, _, path', evs', rdv, junkA rfl ⟨li', by omega⟩⟩
        | rmw hh d a x =>
          have kop := hh
          have kr : readsV i = true := by unfold readsV; rw [hh]; rfl
          have kw : writesV i = true := by unfold writesV; rw [hh]; rfl
          have kg : givesV i = i.dst := by unfold givesV; rw [hh]; rfl
          obtain ⟨path', K', u1, lk⟩ := lh.go i ([.int .i64 0, .int .i64 s.path.length, .int .i64 s.pc, .int .i64 6, .int .i64 0, .int .i64 0, .bool true, .bool true, .int .i64 0, .int .i64 0, .bool i.acq, .bool i.weak, .bool i.rel, .int .i64 i.pred, .int .i64 i.succ]) s.pc (by omega)
          have iI := fun j => rs_at (j := j) lk.ins
          have iI17 := rr_at (n := 17) lk.ins (insL_len i)
          have nD := d.nn
          have aD := d.arr h.length
          have wD : ∀ l x, Heap.write1 (K'.set (K.length + 1) (.cells l 0 false)) ⟨h.length, i.dst.toNat, some 0⟩ (.int .i64 x) = some ((K'.set (K.length + 1) (.cells l 0 false)).set h.length (.cells (regsL (s.R.set i.dst.toNat x)) 0 false)) := fun l x => by
            rw [ws_at (lk.lh.setE lk.low (.cells l 0 false) lk.nb lk.no lk.cp lk.ce).rg (by rw [regsL_len, lh.R8]; exact d.lt), regsL_set]
          have dn1 : ¬ (i.dst = -1) := by omega
          have aA := a.arr h.length
          have gA := a.rd (R := s.R) lh.R8 lk.lh.rg
          have cX : ∀ l, DF FF n_uir_Local_1 [.int .i64 i.index, .int .i64 0, .pointer (some ⟨h.length, 0, some 0⟩)] (K'.set (K.length + 1) (.cells l 0 false)) = some (.int .i64 (valR s.R i.index 0), (K'.set (K.length + 1) (.cells l 0 false))) := fun l => uir_Local_1_c (lk.lh.setE lk.low (.cells l 0 false) lk.nb lk.no lk.cp lk.ce).rg lh.R8 x
          cases hq : s.rd with
          | nil =>
            have lenR : ∀ H, lenO H rdv = some (.int .i64 0, H) := fun H => by rw [li.rd.len, hq]; rfl
            have wO : ∀ l, Heap.write (K'.set (K.length + 1) (.cells l 0 false)) ⟨h.length + 1, 0, some 0⟩ [.int .i64 0, .int .i64 0, .int .i64 0, .int .i64 0, .int .i64 0, .int .i64 0, .int .i64 0, .int .i64 0] = some ((K'.set (K.length + 1) (.cells l 0 false)).set (h.length + 1) (.cells [.int .i64 0, .int .i64 0, .int .i64 0, .int .i64 0, .int .i64 0, .int .i64 0, .int .i64 0, .int .i64 0] 0 false)) := fun l => ww_all (lk.lh.setE lk.low (.cells l 0 false) lk.nb lk.no lk.cp lk.ce).ou rfl
            have rO : ∀ l, Heap.read ((K'.set (K.length + 1) (.cells l 0 false)).set (h.length + 1) (.cells [.int .i64 0, .int .i64 0, .int .i64 0, .int .i64 0, .int .i64 0, .int .i64 0, .int .i64 0, .int .i64 0] 0 false)) ⟨h.length + 1, 0, some 0⟩ 8 = some [.int .i64 0, .int .i64 0, .int .i64 0, .int .i64 0, .int .i64 0, .int .i64 0, .int .i64 0, .int .i64 0] := fun l => rr_same (lk.lh.setE lk.low (.cells l 0 false) lk.nb lk.no lk.cp lk.ce).lb.2 rfl
            have ht : stepV i s = none := by simp [stepV, kr, hq]
            have hn : localV code R rd = none := by rw [← li.tot, endV_step hf hi, ht]; rfl
            simp only [C_ops, C_cond, D_ret, D_skip, normal_some, cond_tt, E_nil, E_cons, E_guard, next_some, next_none, guard_ft, ev_tmp, ev_const, get_succ, get_zero, List.set_cons_succ, List.set_cons_zero, O_mv, O_pick, pickO, O_bin, pairO, O_call, List.map_cons, List.map_nil, O_len, O_atRow, O_load1, load1_ptr, O_load, load_ptr, O_mkRow, O_build, mk_some, build_some, partsV_nil, partsV_cons, zeros_zero, zeros_succ, fill_nil, fill_int, fill_bool, Nat.lt_add_one, Nat.zero_lt_succ, Nat.reduceLT, B_add, B_eql, B_lss, List.cons_append, List.nil_append, List.length_cons, List.length_nil, Nat.reduceAdd, Nat.zero_add, W_some, W_seq, W_block, Q_cont_normal, Q_cont_ret, Q_block_ret, slc, O_append, O_alloc, O_off, off_ptr, wrote_some, O_store, store_agg, read1_skip0, read1_there, read_skip0, read_there, pre_some, cons_some, write_skip, write_skip0, write_next, write_there, List.append_assoc, List.length_append, List.append_nil, Nat.add_zero, Option.map_some, List.getElem?_cons_zero, List.getElem?_cons_succ, again1_int, again1_bool, beq_self_eq_true, eq_self, O_again, again_agg, O_again1, Q_for_ret, List.replicate_succ, List.replicate_zero, lenC, pcl, decide_true, a1, a3, insL_len, insL_0, insL_5, insL_6, insL_7, insL_8, insL_10, insL_11, insL_12, insL_13, insL_14, lenP, uir_Reads_c, uir_Writes_c, u1, rs_ne, rs_same, ww_same, splice2, lk.nt, lk.lt, iI, L_callv, callL_func, kop, kr, kw, pcw, Nat.reduceLeDiff, cX, place24, mask22, lenR, wO, rO, Q_retE4, cells4E_ptr, out4E_some]
            rw [LR]
            simp only [hn]
            exact ⟨rfl, finish_pre ((lk.lh.setE lk.low _ lk.nb lk.no lk.cp lk.ce).pre.set lh.ho _) rfl⟩
          | cons x0 rest =>
            obtain ⟨rb, ro, rv, q1, _, q3⟩ := (li.rd.pre (lk.lh.setE lk.low (.cells [] 0 false) lk.nb lk.no lk.cp lk.ce).pre).at (k := 0) (by rw [hq]; simp)
            have q1 : ∀ H, rowO H 1 rdv (.int .i64 0) = some (.pointer (some ⟨rb, ro, some rv⟩), H) := q1
            have rX : ∀ l, Heap.read1 (K'.set (K.length + 1) (.cells l 0 false)) ⟨rb, ro, some rv⟩ = some (.int .i64 x0) := fun l => by
              obtain ⟨rb', ro', rv', p1, _, p3⟩ := (li.rd.pre (lk.lh.setE lk.low (.cells l 0 false) lk.nb lk.no lk.cp lk.ce).pre).at (k := 0) (by rw [hq]; simp)
              have p1 : ∀ H, rowO H 1 rdv (.int .i64 0) = some (.pointer (some ⟨rb', ro', some rv'⟩), H) := p1
              have hE := (q1 []).symm.trans (p1 [])
              simp only [Option.some.injEq, Prod.mk.injEq, Value.pointer.injEq, Addr.mk.injEq, and_true] at hE
              obtain ⟨rfl, rfl, rfl⟩ := hE
              rw [p3]; simp only [hq, List.getElem_cons_zero]
            obtain ⟨rdv', cR, rd'⟩ := IntS.tail (hq ▸ li.rd)
            have lenR : ∀ H, lenO H rdv = some (.int .i64 ((rest.length + 1 : Nat) : Int), H) := fun H => by rw [li.rd.len, hq]; rfl
            have lenZ : (((rest.length + 1 : Nat) : Int) == 0) = false := by simp; omega
            obtain ⟨evs', E', u2, lh'⟩ := ((lk.lh.setE lk.low (.cells ([.int .i64 0, .int .i64 s.path.length, .int .i64 s.pc, .int .i64 6, .int .i64 i.loc, .int .i64 (maskV (placeV i.off (valR s.R i.index 0) i.size) i.size), .bool true, .bool true, .int .i64 (getV x0 0 i.size), .int .i64 (rmwV i.fn (getV x0 0 i.size) (reg s.R i.a) i.size), .bool i.acq, .bool i.weak, .bool i.rel, .int .i64 i.pred, .int .i64 i.succ]) 0 false) lk.nb lk.no lk.cp lk.ce).setR (R := s.R.set i.dst.toNat (getV x0 0 i.size)) (by rw [List.length_set]; exact lh.R8) (s.pc + 1) rest).push (⟨s.path.length, s.pc, 6, i.loc, (spanV i s.R), true, true, getV x0 0 i.size, rmwV i.fn (getV x0 0 i.size) (reg s.R i.a) i.size, i.acq, i.weak, i.rel, i.pred, i.succ⟩) (by show s.evs.length < 1000; omega)
            simp only [evL, spanV, List.length_set] at u2
            have ht : stepV i s = some ⟨s.pc + 1, s.R.set i.dst.toNat (getV x0 0 i.size), rest, s.path ++ [(s.pc : Int)], s.evs ++ [⟨s.path.length, s.pc, 6, i.loc, (spanV i s.R), true, true, getV x0 0 i.size, rmwV i.fn (getV x0 0 i.size) (reg s.R i.a) i.size, i.acq, i.weak, i.rel, i.pred, i.succ⟩]⟩ := by
              simp [stepV, nextV, regsN, gotV, isEv, memV, evV, oldV, newV, kr, kw, kg, hh, dn1, hq]
            simp only [C_ops, C_cond, D_skip, normal_some, cond_tt, cond_ff, E_nil, E_cons, E_guard, next_some, next_none, guard_ft, ev_tmp, ev_const, get_succ, get_zero, List.set_cons_succ, List.set_cons_zero, O_mv, O_pick, pickO, O_bin, pairO, O_call, List.map_cons, List.map_nil, O_len, O_atRow, O_load1, load1_ptr, O_load, load_ptr, O_mkRow, O_build, mk_some, build_some, partsV_nil, partsV_cons, zeros_zero, zeros_succ, fill_nil, fill_int, fill_bool, Nat.lt_add_one, Nat.zero_lt_succ, Nat.reduceLT, B_add, B_eql, B_lss, B_geq, List.cons_append, List.nil_append, List.length_cons, List.length_nil, Nat.reduceAdd, Nat.zero_add, W_some, W_seq, W_block, Q_cont_normal, Q_block_normal, slc, O_append, O_slice, Option.map_none, O_alloc, O_atArr, O_off, off_ptr, wrote_some, O_store1, store1_int, O_store, store_agg, read1_skip0, read1_there, read_skip0, read_there, pre_some, cons_some, write_skip, write_skip0, write_next, write_there, List.append_assoc, List.length_append, List.append_nil, Nat.add_zero, Option.map_some, List.getElem?_cons_zero, List.getElem?_cons_succ, again1_int, again1_bool, beq_self_eq_true, eq_self, O_again, again_agg, O_again1, Q_for_normal, List.replicate_succ, List.replicate_zero, lenC, pcl, decide_true, a1, a3, insL_len, insL_0, insL_2, insL_5, insL_6, insL_7, insL_8, insL_9, insL_10, insL_11, insL_12, insL_13, insL_14, lenP, uir_Reads_c, uir_Writes_c, uir_Gives_c, u1, rs_ne, rr_ne, rs_same, rr_same, ws_same, ww_same, splice2, List.length_set, lk.nt, lk.nb, lk.be, lk.lt, iI, iI17, L_callv, callL_func, kop, kr, kw, kg, pcw, Int.reduceBEq, Nat.reduceLeDiff, fill_15, nD, aD, wD, aA, gA, cX, place24, mask22, lenR, lenZ, q1, rX, get10, rmw20, cR, u2]
            obtain ⟨li', lt'⟩ := li.next hf hi ht lh' rd'
            exact ⟨_, _, path', evs', rdv', junkA rfl ⟨li', by omega⟩⟩
        | fence hh =>
          have kop := hh
          have kr : readsV i = false := by unfold readsV; rw [hh]; rfl
          have kw : writesV i = false := by unfold writesV; rw [hh]; rfl
          have kg : givesV i = -1 := by unfold givesV; rw [hh]; rfl
          obtain ⟨path', K', u1, lk⟩ := lh.go i ([.int .i64 0, .int .i64 s.path.length, .int .i64 s.pc, .int .i64 7, .int .i64 0, .int .i64 0, .bool false, .bool false, .int .i64 0, .int .i64 0, .bool i.acq, .bool i.weak, .bool i.rel, .int .i64 i.pred, .int .i64 i.succ]) s.pc (by omega)
          have iI := fun j => rs_at (j := j) lk.ins
          have iI17 := rr_at (n := 17) lk.ins (insL_len i)
          obtain ⟨evs', E', u2, lh'⟩ := ((lk.lh.setE lk.low (.cells ([.int .i64 0, .int .i64 s.path.length, .int .i64 s.pc, .int .i64 7, .int .i64 0, .int .i64 0, .bool false, .bool false, .int .i64 (0), .int .i64 (0), .bool i.acq, .bool i.weak, .bool i.rel, .int .i64 i.pred, .int .i64 i.succ]) 0 false) lk.nb lk.no lk.cp lk.ce).at (s.pc + 1) s.rd).push (⟨s.path.length, s.pc, 7, 0, 0, false, false, 0, 0, i.acq, i.weak, i.rel, i.pred, i.succ⟩) (by show s.evs.length < 1000; omega)
          simp only [evL, List.length_set] at u2
          have ht : stepV i s = some ⟨s.pc + 1, s.R, s.rd, s.path ++ [(s.pc : Int)], s.evs ++ [⟨s.path.length, s.pc, 7, 0, 0, false, false, 0, 0, i.acq, i.weak, i.rel, i.pred, i.succ⟩]⟩ := by
            simp [stepV, nextV, regsN, isEv, memV, evV, oldV, newV, kr, kw, kg, hh]
          simp only [C_ops, C_cond, D_skip, normal_some, cond_tt, cond_ff, E_nil, E_cons, E_guard, next_some, next_none, guard_ff, guard_ft, ev_tmp, ev_const, get_succ, get_zero, List.set_cons_succ, List.set_cons_zero, O_mv, O_pick, pickO, O_bin, pairO, O_call, List.map_cons, List.map_nil, O_len, O_atRow, O_load1, load1_ptr, O_load, load_ptr, O_mkRow, O_build, mk_some, build_some, partsV_nil, partsV_cons, zeros_zero, zeros_succ, fill_nil, fill_int, fill_bool, Nat.lt_add_one, Nat.reduceLT, B_add, B_eql, B_lss, B_geq, List.cons_append, List.nil_append, List.length_cons, List.length_nil, Nat.reduceAdd, Nat.zero_add, W_some, W_seq, W_block, Q_cont_normal, Q_block_normal, slc, O_append, O_alloc, O_off, off_ptr, wrote_some, O_store, store_agg, read1_skip0, read1_there, read_skip0, read_there, pre_some, cons_some, write_skip, write_skip0, write_next, write_there, List.append_assoc, List.length_append, List.append_nil, Nat.add_zero, Option.map_some, List.getElem?_cons_zero, List.getElem?_cons_succ, again1_int, again1_bool, beq_self_eq_true, Int.reduceLE, eq_self, O_again, again_agg, O_again1, Q_for_normal, List.replicate_succ, List.replicate_zero, lenC, pcl, decide_true, decide_false, a1, a3, insL_len, insL_0, insL_10, insL_11, insL_12, insL_13, insL_14, lenP, uir_Reads_c, uir_Writes_c, uir_Gives_c, u1, rs_ne, rr_ne, rs_same, rr_same, List.length_set, lk.nt, lk.lt, iI, iI17, kop, kr, kw, kg, pcw, Int.reduceBEq, fill_15, u2, Int.reduceLE]
          obtain ⟨li', lt'⟩ := li.next hf hi ht lh' li.rd
          exact ⟨_, _, path', evs', rdv, junkA rfl ⟨li', by omega⟩⟩
        | isb hh =>
          have kop := hh
          have kr : readsV i = false := by unfold readsV; rw [hh]; rfl
          have kw : writesV i = false := by unfold writesV; rw [hh]; rfl
          have kg : givesV i = -1 := by unfold givesV; rw [hh]; rfl
          obtain ⟨path', K', u1, lk⟩ := lh.go i ([.int .i64 0, .int .i64 s.path.length, .int .i64 s.pc, .int .i64 8, .int .i64 0, .int .i64 0, .bool false, .bool false, .int .i64 0, .int .i64 0, .bool i.acq, .bool i.weak, .bool i.rel, .int .i64 i.pred, .int .i64 i.succ]) s.pc (by omega)
          have iI := fun j => rs_at (j := j) lk.ins
          have iI17 := rr_at (n := 17) lk.ins (insL_len i)
          obtain ⟨evs', E', u2, lh'⟩ := ((lk.lh.setE lk.low (.cells ([.int .i64 0, .int .i64 s.path.length, .int .i64 s.pc, .int .i64 8, .int .i64 0, .int .i64 0, .bool false, .bool false, .int .i64 (0), .int .i64 (0), .bool i.acq, .bool i.weak, .bool i.rel, .int .i64 i.pred, .int .i64 i.succ]) 0 false) lk.nb lk.no lk.cp lk.ce).at (s.pc + 1) s.rd).push (⟨s.path.length, s.pc, 8, 0, 0, false, false, 0, 0, i.acq, i.weak, i.rel, i.pred, i.succ⟩) (by show s.evs.length < 1000; omega)
          simp only [evL, List.length_set] at u2
          have ht : stepV i s = some ⟨s.pc + 1, s.R, s.rd, s.path ++ [(s.pc : Int)], s.evs ++ [⟨s.path.length, s.pc, 8, 0, 0, false, false, 0, 0, i.acq, i.weak, i.rel, i.pred, i.succ⟩]⟩ := by
            simp [stepV, nextV, regsN, isEv, memV, evV, oldV, newV, kr, kw, kg, hh]
          simp only [C_ops, C_cond, D_skip, normal_some, cond_tt, cond_ff, E_nil, E_cons, E_guard, next_some, next_none, guard_ff, ev_tmp, ev_const, get_succ, get_zero, List.set_cons_succ, List.set_cons_zero, O_mv, O_pick, pickO, O_bin, pairO, O_call, List.map_cons, List.map_nil, O_len, O_atRow, O_load1, load1_ptr, O_load, load_ptr, O_mkRow, O_build, mk_some, build_some, partsV_nil, partsV_cons, zeros_zero, zeros_succ, fill_nil, fill_int, fill_bool, Nat.lt_add_one, Nat.reduceLT, B_add, B_eql, B_lss, B_geq, List.cons_append, List.nil_append, List.length_cons, List.length_nil, Nat.reduceAdd, Nat.zero_add, W_some, W_seq, W_block, Q_cont_normal, Q_block_normal, slc, O_append, O_alloc, O_off, off_ptr, wrote_some, O_store, store_agg, read1_skip0, read1_there, read_skip0, read_there, pre_some, cons_some, write_skip, write_skip0, write_next, write_there, List.append_assoc, List.length_append, List.append_nil, Nat.add_zero, Option.map_some, List.getElem?_cons_zero, List.getElem?_cons_succ, again1_int, again1_bool, beq_self_eq_true, Int.reduceLE, eq_self, O_again, again_agg, O_again1, Q_for_normal, List.replicate_succ, List.replicate_zero, lenC, pcl, decide_true, decide_false, a1, a3, insL_len, insL_0, insL_10, insL_11, insL_12, insL_13, insL_14, lenP, uir_Reads_c, uir_Writes_c, uir_Gives_c, u1, rs_ne, rr_ne, rs_same, rr_same, List.length_set, lk.nt, lk.lt, iI, iI17, kop, kr, kw, kg, pcw, Int.reduceBEq, fill_15, u2, Int.reduceLE]
          obtain ⟨li', lt'⟩ := li.next hf hi ht lh' li.rd
          exact ⟨_, _, path', evs', rdv, junkA rfl ⟨li', by omega⟩⟩
        | branch hh a =>
          have kop := hh
          have kr : readsV i = false := by unfold readsV; rw [hh]; rfl
          have kw : writesV i = false := by unfold writesV; rw [hh]; rfl
          have kg : givesV i = -1 := by unfold givesV; rw [hh]; rfl
          obtain ⟨path', K', u1, lk⟩ := lh.go i ([.int .i64 0, .int .i64 s.path.length, .int .i64 s.pc, .int .i64 9, .int .i64 0, .int .i64 0, .bool false, .bool false, .int .i64 0, .int .i64 0, .bool i.acq, .bool i.weak, .bool i.rel, .int .i64 i.pred, .int .i64 i.succ]) s.pc (by omega)
          have iI := fun j => rs_at (j := j) lk.ins
          have iI17 := rr_at (n := 17) lk.ins (insL_len i)
          have aA := a.arr h.length
          have gA := a.rd (R := s.R) lh.R8 lk.lh.rg
          have hto := hf _ _ hi hh
          obtain ⟨m, hm⟩ : ∃ m : Nat, i.to = (m : Int) := ⟨i.to.toNat, by omega⟩
          by_cases hz : (reg s.R i.a == 0) = i.zero
          · have hz' : ((reg s.R i.a == 0) == i.zero) = true := by simp [hz]
            have ht : stepV i s = some ⟨m, s.R, s.rd, s.path ++ [(s.pc : Int)], s.evs⟩ := by
              simp [stepV, nextV, regsN, isEv, memV, kr, kw, kg, hh, hz, hm]
            simp only [C_ops, C_cond, D_skip, normal_some, cond_tt, cond_ff, E_nil, E_cons, E_guard, next_some, next_none, guard_ff, ev_tmp, ev_const, get_succ, get_zero, List.set_cons_succ, List.set_cons_zero, O_mv, O_pick, pickO, O_bin, pairO, O_call, List.map_cons, List.map_nil, O_len, O_atRow, O_load1, load1_ptr, O_load, load_ptr, O_mkRow, O_build, mk_some, build_some, partsV_nil, partsV_cons, zeros_zero, zeros_succ, fill_nil, fill_int, fill_bool, Nat.lt_add_one, Nat.reduceLT, B_add, B_eql, B_lss, B_geq, List.cons_append, List.nil_append, List.length_cons, List.length_nil, Nat.reduceAdd, Nat.zero_add, W_some, W_seq, W_block, Q_cont_normal, Q_block_normal, slc, O_append, O_alloc, O_atArr, O_off, off_ptr, wrote_some, O_store, store_agg, read1_skip0, read1_there, read_skip0, read_there, pre_some, cons_some, write_skip, write_skip0, write_next, write_there, List.append_assoc, List.length_append, List.append_nil, Nat.add_zero, Option.map_some, List.getElem?_cons_zero, List.getElem?_cons_succ, again1_int, again1_bool, Bool.bne_false, beq_self_eq_true, O_eqv, eqv_bool, Int.reduceLE, eq_self, O_again, again_agg, O_again1, Q_for_normal, List.replicate_succ, List.replicate_zero, lenC, pcl, decide_true, decide_false, a1, a3, insL_len, insL_0, insL_2, insL_10, insL_11, insL_12, insL_13, insL_14, insL_15, insL_16, lenP, uir_Reads_c, uir_Writes_c, uir_Gives_c, u1, rs_ne, rr_ne, rs_same, lk.nt, lk.nb, lk.lt, iI, iI17, kop, kr, kw, kg, pcw, Int.reduceBEq, aA, gA, eqv_bool, hz', hm, Int.reduceLE]
            obtain ⟨li', lt'⟩ := li.next hf hi ht ((lk.lh.setE lk.low (.cells ([.int .i64 0, .int .i64 s.path.length, .int .i64 s.pc, .int .i64 9, .int .i64 0, .int .i64 0, .bool false, .bool false, .int .i64 0, .int .i64 0, .bool i.acq, .bool i.weak, .bool i.rel, .int .i64 i.pred, .int .i64 i.succ]) 0 false) lk.nb lk.no lk.cp lk.ce).at _ _) li.rd
            exact ⟨_, _, path', evs, rdv, junkA rfl ⟨li', by omega⟩⟩
          · have hz' : ((reg s.R i.a == 0) == i.zero) = false := by simp [hz]
            have ht : stepV i s = some ⟨s.pc + 1, s.R, s.rd, s.path ++ [(s.pc : Int)], s.evs⟩ := by
              simp [stepV, nextV, regsN, isEv, memV, kr, kw, kg, hh, hz]
            simp only [C_ops, C_cond, D_skip, normal_some, cond_tt, cond_ff, E_nil, E_cons, E_guard, next_some, next_none, guard_ff, ev_tmp, ev_const, get_succ, get_zero, List.set_cons_succ, List.set_cons_zero, O_mv, O_pick, pickO, O_bin, pairO, O_call, List.map_cons, List.map_nil, O_len, O_atRow, O_load1, load1_ptr, O_load, load_ptr, O_mkRow, O_build, mk_some, build_some, partsV_nil, partsV_cons, zeros_zero, zeros_succ, fill_nil, fill_int, fill_bool, Nat.lt_add_one, Nat.reduceLT, B_add, B_eql, B_lss, B_geq, List.cons_append, List.nil_append, List.length_cons, List.length_nil, Nat.reduceAdd, Nat.zero_add, W_some, W_seq, W_block, Q_cont_normal, Q_block_normal, slc, O_append, O_alloc, O_atArr, O_off, off_ptr, wrote_some, O_store, store_agg, read1_skip0, read1_there, read_skip0, read_there, pre_some, cons_some, write_skip, write_skip0, write_next, write_there, List.append_assoc, List.length_append, List.append_nil, Nat.add_zero, Option.map_some, List.getElem?_cons_zero, List.getElem?_cons_succ, again1_int, again1_bool, Bool.bne_false, beq_self_eq_true, O_eqv, eqv_bool, Int.reduceLE, eq_self, O_again, again_agg, O_again1, Q_for_normal, List.replicate_succ, List.replicate_zero, lenC, pcl, decide_true, decide_false, a1, a3, insL_len, insL_0, insL_2, insL_10, insL_11, insL_12, insL_13, insL_14, insL_16, lenP, uir_Reads_c, uir_Writes_c, uir_Gives_c, u1, rs_ne, rr_ne, rs_same, lk.nt, lk.nb, lk.lt, iI, iI17, kop, kr, kw, kg, pcw, Int.reduceBEq, aA, gA, eqv_bool, hz', Int.reduceLE]
            obtain ⟨li', lt'⟩ := li.next hf hi ht ((lk.lh.setE lk.low (.cells ([.int .i64 0, .int .i64 s.path.length, .int .i64 s.pc, .int .i64 9, .int .i64 0, .int .i64 0, .bool false, .bool false, .int .i64 0, .int .i64 0, .bool i.acq, .bool i.weak, .bool i.rel, .int .i64 i.pred, .int .i64 i.succ]) 0 false) lk.nb lk.no lk.cp lk.ce).at _ _) li.rd
            exact ⟨_, _, path', evs, rdv, junkA rfl ⟨li', by omega⟩⟩
      · have pcl : ¬ ((s.pc : Int) < (code.length : Int)) := by omega
        have gR := rr_at (n := 8) lh.rg (by rw [regsL_len, lh.R8])
        have wO := ww_all (xs := regsL s.R) lh.ou (by rw [regsL_len, lh.R8]; simp)
        have rO := rr_same (K := K) (b := h.length + 1) (l := regsL s.R) (n := 8) lh.lb.2 (by rw [regsL_len, lh.R8])
        have rl8 : (regsL s.R).length = 8 := by rw [regsL_len, lh.R8]
        simp only [C_ops, C_cond, D_exit, D_ret, normal_some, cond_ff, E_nil, E_cons, next_some, next_none, ev_tmp, ev_const, get_succ, get_zero, List.set_cons_succ, List.set_cons_zero, O_mv, O_bin, pairO, O_len, O_load, load_ptr, B_lss, W_some, W_seq, Q_cont_normal, Q_cont_exit, Q_block_exit, wrote_some, O_store, store_agg, Option.map_some, eq_self, Q_for_exit, lenC, pcl, decide_false, gR, rl8, wO, rO, Q_retE4, cells4E_ptr, out4E_some]
        exact fin li (by omega)
    · rintro st ⟨s, K, path, evs, rdv, j, rfl, li, hks⟩
      have lh := li.lh
      have pcl : ¬ ((s.pc : Int) < (code.length : Int)) := by omega
      have gR := rr_at (n := 8) lh.rg (by rw [regsL_len, lh.R8])
      have wO := ww_all (xs := regsL s.R) lh.ou (by rw [regsL_len, lh.R8]; simp)
      have rO := rr_same (K := K) (b := h.length + 1) (l := regsL s.R) (n := 8) lh.lb.2 (by rw [regsL_len, lh.R8])
      have rl8 : (regsL s.R).length = 8 := by rw [regsL_len, lh.R8]
      simp only [C_ops, C_cond, D_exit, D_ret, normal_some, cond_ff, E_nil, E_cons, next_some, next_none, ev_tmp, ev_const, get_succ, get_zero, List.set_cons_succ, List.set_cons_zero, O_mv, O_bin, pairO, O_len, O_load, load_ptr, B_lss, W_some, W_seq, Q_cont_normal, Q_cont_exit, Q_block_exit, wrote_some, O_store, store_agg, Option.map_some, eq_self, Q_for_exit, lenC, pcl, decide_false, gR, rl8, wO, rO, Q_retE4, cells4E_ptr, out4E_some]
      exact fin li (by omega)
    · refine ⟨startV R rd, _, _, _, rdv, junkA rfl ⟨⟨?_, hrd, rfl, Nat.zero_le _, Nat.le_refl _, Nat.le_refl _⟩, Nat.zero_le _⟩⟩
      refine ⟨(Pre.refl h).more _, Nat.le_refl _, by omega, eq_false (by omega), hR, ?_, ?_, Own.nil _ _ _, Own.nil _ _ _, by simp [blk], by simp [blk], by simp [blk], by simp [blk], by simp [blk]⟩
      · rw [List.getElem?_append_right (by omega)]; simp [startV]
      · rw [List.getElem?_append_right (by omega)]; simp
end Go.Proofs.Ytjodnadlplicmaa.AM
