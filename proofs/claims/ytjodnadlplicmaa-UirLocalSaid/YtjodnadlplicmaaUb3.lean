/-
  A code run by itself, as the program does it.
  Conditions: none but that the code and the reads are no longer than an argument may be.
-/
import Derived.Test.YtjodnadlplicmaaUb2
namespace Go.Proofs.Ytjodnadlplicmaa.AM
open Go.RowKit
set_option linter.unusedSimpArgs false
set_option linter.unusedVariables false

theorem insL_5 (i : Ins) : (insL i)[5]? = some (.int .i64 i.loc) := rfl
theorem insL_6 (i : Ins) : (insL i)[6]? = some (.int .i64 i.off) := rfl
theorem insL_8 (i : Ins) : (insL i)[8]? = some (.int .i64 i.size) := rfl
theorem insL_10 (i : Ins) : (insL i)[10]? = some (.bool i.acq) := rfl
theorem insL_11 (i : Ins) : (insL i)[11]? = some (.bool i.weak) := rfl
theorem insL_12 (i : Ins) : (insL i)[12]? = some (.bool i.rel) := rfl
theorem insL_13 (i : Ins) : (insL i)[13]? = some (.int .i64 i.pred) := rfl
theorem insL_14 (i : Ins) : (insL i)[14]? = some (.int .i64 i.succ) := rfl
theorem insL_16 (i : Ins) : (insL i)[16]? = some (.bool i.zero) := rfl
theorem IntS.tail {h : Heap} {s : Value} {x : Int} {l : List Int} (e : IntS h s (x :: l)) : ∃ s', (∀ H, cutO H 1 (some (.int .i64 1)) none s = some (s', H)) ∧ IntS h s' l := by
  obtain ⟨e1 | ⟨b, o, v, rfl, hr⟩, hc⟩ := e
  · simp at e1
  · refine ⟨.slice (some ⟨b, o + 1, some v⟩) l.length 1, fun H => ?_, .inr ⟨b, o + 1, v, by simp, ?_⟩, by intro r hr; simp only [List.mem_map] at hr; obtain ⟨y, _, rfl⟩ := hr; rfl⟩
    · have := cut_from (h := H) (size := 1) (b := b) (o := o) (n := l.length + 1) (l := 1) (s := some v) .i64 (by omega)
      simpa using this
    · unfold Heap.read at hr ⊢
      revert hr
      simp only
      cases h[b]? with
      | none => simp
      | some ob =>
        cases ob with
        | cells vals ver ro =>
          simp only
          intro hr
          split at hr
          · rename_i hc
            have hc2 := hc.2
            simp only [List.map_cons, List.length_cons, List.length_map] at hc2
            rw [if_pos ⟨hc.1, by simp; omega⟩]
            have h2 := Option.some.inj hr
            simp only [List.map_cons, List.length_cons, List.length_map, List.flatten_cons] at h2 ⊢
            rw [Nat.mul_one] at h2 ⊢
            have h3 : ((vals.drop o).take (l.length + 1)).drop 1 = (l.map intR).flatten := by rw [h2]; rfl
            rw [List.drop_take, List.drop_drop, Nat.add_sub_cancel] at h3
            rw [h3]
          · cases hr
        | _ => simp
theorem fill_15 (x0 x1 x2 x3 x4 x5 x6 x7 x8 x9 x10 x11 x12 x13 x14 : Value) : fillRow [.int .i64 0, .int .i64 0, .int .i64 0, .int .i64 0, .int .i64 0, .int .i64 0, .bool false, .bool false, .int .i64 0, .int .i64 0, .bool false, .bool false, .bool false, .int .i64 0, .int .i64 0] [(0, 15, agg [x0, x1, x2, x3, x4, x5, x6, x7, x8, x9, x10, x11, x12, x13, x14])] = some [x0, x1, x2, x3, x4, x5, x6, x7, x8, x9, x10, x11, x12, x13, x14] := by
  have := fill_whole1 (c := 15) (z := [.int .i64 0, .int .i64 0, .int .i64 0, .int .i64 0, .int .i64 0, .int .i64 0, .bool false, .bool false, .int .i64 0, .int .i64 0, .bool false, .bool false, .bool false, .int .i64 0, .int .i64 0]) (l := [x0, x1, x2, x3, x4, x5, x6, x7, x8, x9, x10, x11, x12, x13, x14]) rfl rfl
  exact this
theorem L_func {call : Caller} (ρ : Operand → Value) (h : Heap) (f : FuncId) (a b : List Operand) : evOp call ρ h (.func f a b) = some (.func (.func f) (a.map ρ).toArray (b.map ρ).toArray, h) := rfl
def callL (call : Caller) (h : Heap) (xs : List Value) : Value → Option (Value × Heap)
  | .func (.func g) a b => call g (a.toList ++ xs ++ b.toList) h
  | _ => none
theorem L_callv {call : Caller} (ρ : Operand → Value) (h : Heap) (f : Operand) (xs : List Operand) : evOp call ρ h (.callv f xs) = callL call h (xs.map ρ) (ρ f) := by
  simp only [evOp]; generalize ρ f = x
  cases x with
  | func g a b => cases g <;> rfl
  | _ => rfl
theorem callL_func {call : Caller} (h : Heap) (xs : List Value) (g : FuncId) (a b : List Value) : callL call h xs (.func (.func g) a.toArray b.toArray) = call g (a ++ xs ++ b) h := by simp [callL]
theorem isReg.nn {r : Int} (h : isReg r) : 0 ≤ r := by obtain ⟨n, rfl, _⟩ := h; omega
theorem isReg.lt {r : Int} (h : isReg r) : r.toNat < 8 := by obtain ⟨n, rfl, _⟩ := h; omega
theorem isReg.arr {r : Int} (h : isReg r) (b : Nat) (H : Heap) : arrO H 8 1 (.pointer (some ⟨b, 0, some 0⟩)) (.int .i64 r) = some (.pointer (some ⟨b, r.toNat, some 0⟩), H) := by
  obtain ⟨n, rfl, hn⟩ := h
  rw [arr_nat H hn]; simp
theorem isReg.rd {r : Int} (h : isReg r) {R : List Int} (hR : R.length = 8) {b : Nat} {H : Heap} (e : H[b]? = some (.cells (regsL R) 0 false)) : Heap.read1 H ⟨b, r.toNat, some 0⟩ = some (.int .i64 (reg R r)) := by
  rw [rs_at e, regsL_get (by rw [hR]; exact h.lt)]; rfl
theorem uir_Local_1_c {H : Heap} {pb : Nat} {R : List Int} (hg : H[pb]? = some (.cells (regsL R) 0 false)) (hR : R.length = 8) {r none : Int} (hr : isReg1 r) : DF FF n_uir_Local_1 [.int .i64 r, .int .i64 none, .pointer (some ⟨pb, 0, some 0⟩)] H = some (.int .i64 (valR R r none), H) := by
  refine fun_wpU F_uir_Local_1 ?_
  rcases hr with rfl | hr
  · simp only [c_uir_Local_1, C_ops, C_cond, D_ret, normal_some, cond_tt, E_nil, E_cons, next_some, ev_tmp, ev_const, get_succ, get_zero, List.set_cons_succ, List.set_cons_zero, O_mv, O_bin, pairO, B_eql, List.cons_append, List.nil_append, List.length_cons, List.length_nil, Nat.reduceAdd, Nat.reduceSub, Nat.zero_add, W_some, W_seq, Q_cont_normal, Q_cont_ret, Q_ret, fillU_zero, fillU_succ, beq_self_eq_true, eq_self, valR, if_true]
  · have hne : ¬ (r = -1) := by have := hr.nn; omega
    have hne' : (r == -1) = false := by simp [hne]
    simp only [c_uir_Local_1, C_ops, C_cond, D_ret, D_skip, normal_some, cond_ff, E_nil, E_cons, next_some, ev_tmp, ev_const, get_succ, get_zero, List.set_cons_succ, List.set_cons_zero, O_mv, O_bin, pairO, O_load1, load1_ptr, B_eql, List.cons_append, List.nil_append, List.length_cons, List.length_nil, Nat.reduceAdd, Nat.reduceSub, Nat.zero_add, W_some, W_seq, Q_cont_normal, Q_ret, O_atArr, fillU_zero, fillU_succ, eq_self, hne', hr.arr, hr.rd hR hg, valR, hne, if_false]
theorem RC.fwd {code : List Ins} (e : RC code) : Fwd code := by
  intro k i hi h9
  obtain ⟨hk, rfl⟩ := List.getElem?_eq_some_iff.1 hi
  have h := e.all k hk
  unfold rightV at h
  rw [rightV_ok (e.all k hk), if_pos rfl] at h
  have h9' : (code[k].op == 9) = true := by simp [h9]
  rw [h9', Bool.true_and] at h
  split at h
  · omega
  · rename_i hc
    simp at hc; omega
theorem flat_zero (x : Int) : flat (tup [agg (List.replicate 8 (.int .i64 0)), .slice none 0 0, .slice none 0 0, .int .i64 x]) = true := rfl
theorem finish_pre {h H : Heap} {v : Value} (p : Pre h H) (hf : flat v = true) : AM.finish h v H = h := by obtain ⟨L, rfl⟩ := p; exact finish_flat h L hf
/-- What is answered. -/
def LocalR (code : List Ins) (R rd : List Int) (h : Heap) (v : Value) (h' : Heap) : Prop :=
  if rightC code = true then match localV code R rd with
    | none => v = tup [agg (List.replicate 8 (.int .i64 0)), nils, nils, .int .i64 24] ∧ h' = h
    | some t => ∃ evs path, v = tup [agg (regsL t.R), evs, path, .int .i64 0] ∧ Own h h' path 1 (t.path.map intR) ∧ Own h h' evs 15 (t.evs.map evL) ∧ Pre h h'
  else v = tup [agg (List.replicate 8 (.int .i64 0)), nils, nils, .int .i64 1] ∧ h' = h
theorem Own.flatNil {h H : Heap} {s : Value} {c : Nat} {rows : List (List Value)} (e : Own h H s c rows) (hf : plain s = true) : rows = [] ∧ s = nils := by
  rcases e with ⟨⟨rfl, hr⟩ | ⟨b, ver, hb, rfl, ho⟩, hc⟩
  · exact ⟨hr, rfl⟩
  · cases hf
theorem finish_two {h H : Heap} {l : List Value} {evs path x : Value} {A B : List (List Value)} (a : Own h H path 1 A) (b : Own h H evs 15 B) (p : Pre h H) : Own h (AM.finish h (tup [agg l, evs, path, x]) H) path 1 A ∧ Own h (AM.finish h (tup [agg l, evs, path, x]) H) evs 15 B ∧ Pre h (AM.finish h (tup [agg l, evs, path, x]) H) := by
  cases hf : flat (tup [agg l, evs, path, x])
  · rw [finish_not h hf]; exact ⟨a, b, p⟩
  · rw [finish_pre p hf]
    have hf' : plain evs = true ∧ plain path = true := by
      simp only [flat, tup, List.all_cons, Bool.and_eq_true] at hf
      exact ⟨hf.2.1, hf.2.2.1⟩
    obtain ⟨rfl, rfl⟩ := a.flatNil hf'.2
    obtain ⟨rfl, rfl⟩ := b.flatNil hf'.1
    exact ⟨Own.nil _ _ _, Own.nil _ _ _, Pre.refl h⟩
/-- A run under way. -/
structure LI (h : Heap) (pb po : Nat) (code : List Ins) (tot : Option LS) (s : LS) (K : Heap) (path evs rdv : Value) : Prop where
  lh : LH h pb po s K path evs
  rd : IntS h rdv s.rd
  tot : endV code s = tot
  le : s.pc ≤ code.length
  sp : s.path.length ≤ s.pc
  se : s.evs.length ≤ s.pc
theorem LI.next {h : Heap} {pb po : Nat} {code : List Ins} {tot : Option LS} {s : LS} {K : Heap} {path evs rdv : Value} (e : LI h pb po code tot s K path evs rdv) (hf : Fwd code) {i : Ins} (hi : code[s.pc]? = some i) {t : LS} (ht : stepV i s = some t) {K' : Heap} {path' evs' rdv' : Value} (lh : LH h pb po t K' path' evs') (rd : IntS h rdv' t.rd) :
    LI h pb po code tot t K' path' evs' rdv' ∧ s.pc < t.pc := by
  have hw := step_fwd hf hi ht
  have h1 : t.path.length = s.path.length + 1 ∧ t.evs.length ≤ s.evs.length + 1 := by
    unfold stepV at ht
    split at ht
    · cases ht
    · cases ht
      refine ⟨by simp, ?_⟩
      show (if isEv i then s.evs ++ [evV i s] else s.evs).length ≤ s.evs.length + 1
      split <;> simp
  have := e.sp
  have := e.se
  refine ⟨⟨lh, rd, ?_, hw.2, by omega, by omega⟩, hw.1⟩
  rw [← e.tot, endV_step hf hi, ht]; rfl
end Go.Proofs.Ytjodnadlplicmaa.AM
