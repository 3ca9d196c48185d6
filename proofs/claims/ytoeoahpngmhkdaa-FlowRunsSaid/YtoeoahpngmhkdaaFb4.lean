/-
  The flow laws on values.
  Conditions: none.
-/
import Derived.Test.YtoeoahpngmhkdaaFb3
namespace Go.Proofs.Ytoeoahpngmhkdaa.AM
open Go.RowKit
set_option linter.unusedSimpArgs false
set_option linter.unusedVariables false

theorem typed_intS {h : Heap} {b : Nat} {u : Value} (ht : TypedA h (false, [.slice b [.int .i64]]) u) : ∃ l : List Int, IntS h u l ∧ l.length * b ≤ roomFor := by
  obtain ⟨rows, h1, h2, h3⟩ := typed_slice (by simp) ht
  obtain ⟨l, rfl, hl⟩ := rows_of (p := fun _ => True) (f := intR) rows fun r hr => by
    obtain ⟨u, hu, ht⟩ := typedL_get (h2 r hr) (i := 0) (s := .int .i64) rfl
    have hlen := (h2 r hr).1
    cases ht with
    | int k n hw =>
      refine ⟨n, ?_, trivial⟩
      match r, hlen, hu with
      | [x], _, hu => have := Option.some.inj hu; rw [this]; rfl
  exact ⟨l, h1, Nat.le_trans (by simpa using h3) reach_room⟩
theorem typed_regs {h : Heap} {u : Value} (ht : TypedA h (true, List.replicate 8 (.int .i64)) u) : ∃ R : List Int, u = agg (regsL R) ∧ R.length = 8 := by
  obtain ⟨l, rfl, ht⟩ := ht
  have key : ∀ k, k < 8 → ∃ x : Int, l[k]? = some (.int .i64 x) := by
    intro k hk
    obtain ⟨u, hu, ht⟩ := typedL_get ht (i := k) (s := .int .i64) (by rw [List.getElem?_replicate, if_pos hk])
    cases ht with
    | int k n hw => exact ⟨n, hu⟩
  refine ⟨(List.range 8).map fun k => if h : k < 8 then (key k h).choose else 0, ?_, by simp⟩
  congr 1
  apply List.ext_getElem?
  intro k
  by_cases hk : k < 8
  · rw [(key k hk).choose_spec]
    unfold regsL
    rw [List.getElem?_map, List.getElem?_map, List.getElem?_range hk]
    simp [hk]
  · rw [List.getElem?_eq_none (by have := ht.1; simp at this; omega), List.getElem?_eq_none (by simp [regsL]; omega)]
def valueP (ps : List Ins) (R vals : List Int) (kn place r : Int) : Int × Bool := valueF ps R vals kn (ps.length + 1) place r
theorem copy3 {K : Heap} {x y z : Value} {A B C : List (List Value)} (hx : Sl K x 17 A) (hy : Sl K y 1 B) (hz : Sl K z 1 C) (la : A.length * 120 ≤ roomFor) (lb : B.length * 8 ≤ roomFor) (lc : C.length * 8 ≤ roomFor) :
    ∃ s1 K1 s2 K2 s3 K3, appendTo (K ++ [.cells [] 0 false, .cells [] 0 false, .cells [] 0 false]) 17 120 (.slice (some ⟨K.length, 0, some 0⟩) 0 17) (srcOf (K ++ [.cells [] 0 false, .cells [] 0 false, .cells [] 0 false]) 17 x) = some (s1, K1) ∧
      appendTo K1 1 8 (.slice (some ⟨K.length + 1, 0, some 0⟩) 0 1) (srcOf K1 1 y) = some (s2, K2) ∧ appendTo K2 1 8 (.slice (some ⟨K.length + 2, 0, some 0⟩) 0 1) (srcOf K2 1 z) = some (s3, K3) ∧
      Sl K3 s1 17 A ∧ Sl K3 s2 1 B ∧ Sl K3 s3 1 C ∧ Pre K K1 ∧ Pre K K2 ∧ Pre K K3 := by
  have pE : Pre K (K ++ [.cells [] 0 false, .cells [] 0 false, .cells [] 0 false]) := (Pre.refl K).more _
  have o1 : Own K (K ++ [.cells [] 0 false, .cells [] 0 false, .cells [] 0 false]) (.slice (some ⟨K.length, 0, some 0⟩) 0 17) 17 [] := ⟨.inr ⟨K.length, 0, Nat.le_refl _, rfl, by simp⟩, by simp⟩
  have o2 : Own K (K ++ [.cells [] 0 false, .cells [] 0 false, .cells [] 0 false]) (.slice (some ⟨K.length + 1, 0, some 0⟩) 0 1) 1 [] := ⟨.inr ⟨K.length + 1, 0, by omega, rfl, by rw [List.getElem?_append_right (by omega)]; simp⟩, by simp⟩
  have o3 : Own K (K ++ [.cells [] 0 false, .cells [] 0 false, .cells [] 0 false]) (.slice (some ⟨K.length + 2, 0, some 0⟩) 0 1) 1 [] := ⟨.inr ⟨K.length + 2, 0, by omega, rfl, by rw [List.getElem?_append_right (by omega)]; simp⟩, by simp⟩
  obtain ⟨s1, K1, a1, a2, a3, a4, a5, a6⟩ := o1.append pE (ys := A.flatten) (rows' := A) (bytes := 120) rfl hx.2 (by simpa using la)
  have o2' : Own K K1 (.slice (some ⟨K.length + 1, 0, some 0⟩) 0 1) 1 [] := o2.keep fun i hi o ho => a5 i o ho (by cases hi; simp [blk])
  have o3' : Own K K1 (.slice (some ⟨K.length + 2, 0, some 0⟩) 0 1) 1 [] := o3.keep fun i hi o ho => a5 i o ho (by cases hi; simp [blk])
  obtain ⟨s2, K2, b1, b2, b3, b4, b5, b6⟩ := o2'.append a3 (ys := B.flatten) (rows' := B) (bytes := 8) rfl hy.2 (by simpa using lb)
  have o3'' : Own K K2 (.slice (some ⟨K.length + 2, 0, some 0⟩) 0 1) 1 [] := o3'.keep fun i hi o ho => b5 i o ho (by cases hi; simp [blk])
  have n1 : ∀ i, blk s1 = some i → i = K.length ∨ K.length + 3 ≤ i := by
    intro i hi
    rcases a6 with h | ⟨j, h, h'⟩
    · rw [h] at hi; simp [blk] at hi; omega
    · rw [h] at hi; cases hi; simp at h'; omega
  have s12 : Own K K2 s1 17 A := by
    have := a2.keep (H' := K2) fun i hi o ho => b5 i o ho (by have := n1 i hi; simp [blk]; omega)
    simpa using this
  have n2 : ∀ i, blk s2 = some i → i = K.length + 1 ∨ K.length + 3 ≤ i := by
    intro i hi
    rcases b6 with h | ⟨j, h, h'⟩
    · rw [h] at hi; simp [blk] at hi; omega
    · rw [h] at hi; cases hi; simp at a4; omega
  obtain ⟨s3, K3, c1, c2, c3, c4, c5, c6⟩ := o3''.append b3 (ys := C.flatten) (rows' := C) (bytes := 8) rfl hz.2 (by simpa using lc)
  have s13 : Own K K3 s1 17 A := s12.keep fun i hi o ho => c5 i o ho (by have := n1 i hi; simp [blk]; omega)
  have s23 : Own K K3 s2 1 B := by
    have := b2.keep (H' := K3) fun i hi o ho => c5 i o ho (by have := n2 i hi; simp [blk]; omega)
    simpa using this
  refine ⟨s1, K1, s2, K2, s3, K3, by rw [hx.src]; exact a1, by rw [(hy.pre a3).src0]; exact b1, by rw [(hz.pre b3).src0]; exact c1, s13.sl, s23.sl, ?_, a3, b3, c3⟩
  simpa using c2.sl
theorem read_regs {h K : Heap} {R : List Int} (hR : R.length = 8) (p : Pre (h ++ [.cells (regsL R) 0 false]) K) : Heap.read K ⟨h.length, 0, some 0⟩ 8 = some (regsL R) := by
  obtain ⟨L, rfl⟩ := p
  rw [List.append_assoc]
  rw [read_skip0]
  exact read_there _ _ _ _ (by rw [regsL_len, hR])
set_option maxHeartbeats 2000000 in
theorem law_FlowValues {code : List Ins} {c : Value} {h : Heap} (e : InsSl h c code) (hb : code.length * 120 ≤ roomFor) (i : Int) (hi : W i) (R : List Int) (hR : R.length = 8) (place r kn : Int) {s : Value} {vals : List Int} (hs : IntS h s vals) (hv : vals.length * 8 ≤ roomFor) :
    DF FF n_belatedlaw10_FlowValues [c, .int .i64 i, agg (regsL R), .int .i64 place, .int .i64 r, s, .int .i64 kn] h = some (.bool true, h) := by
  refine fun_wpU F_belatedlaw10_FlowValues ?_
  have e' := e.more [.cells (regsL R) 0 false]
  have hs' := hs.more [.cells (regsL R) 0 false]
  have hvl : vals.length < 4611686018427387904 := by unfold roomFor at hv; omega
  cases hr : rightC code
  · simp only [c_belatedlaw10_FlowValues, C_ops, C_cond, D_ret, D_skip, normal_some, cond_tt, cond_ff, E_nil, E_cons, E_guard, next_some, guard_ft, ev_tmp, ev_const, get_succ, get_zero, List.set_cons_succ, List.set_cons_zero, O_mv, O_pick, pickO, pairO, O_un, O_call, List.map_cons, List.map_nil, U_not, List.cons_append, List.nil_append, List.length_cons, List.length_nil, Nat.reduceAdd, Nat.reduceSub, Nat.zero_add, Bool.not_true, Bool.not_false, W_some, W_seq, Q_cont_normal, Q_cont_ret, O_box, fillU_zero, fillU_succ, List.append_assoc, eq_self, laid_agg, box_some, regsL_len, hR, law_able_c, law_right_c e' hb, hr]
    rw [Q_more _ _ _ _ _ rfl]; rfl
  · by_cases h100 : (100 : Int) < (vals.length : Int)
    · simp only [c_belatedlaw10_FlowValues, C_ops, C_cond, D_ret, D_skip, normal_some, cond_tt, cond_ff, E_nil, E_cons, E_guard, next_some, guard_ff, ev_tmp, ev_const, get_succ, get_zero, List.set_cons_succ, List.set_cons_zero, O_mv, O_pick, pickO, O_bin, pairO, O_un, O_call, List.map_cons, List.map_nil, O_len, B_gtr, U_not, List.cons_append, List.nil_append, List.length_cons, List.length_nil, Nat.reduceAdd, Nat.reduceSub, Nat.zero_add, Bool.not_true, W_some, W_seq, Q_cont_normal, Q_cont_ret, O_box, fillU_zero, fillU_succ, List.append_assoc, eq_self, laid_agg, box_some, regsL_len, hR, law_able_c, law_right_c e' hb, hr, hs.len, h100, decide_true]
      rw [Q_more _ _ _ _ _ rfl]; rfl
    · have rc := rightC_rc hr
      obtain ⟨v, H1, p1, ⟨l, hl, p2⟩, p3⟩ := law_path_c e' rc i hi
      have h8 := rc.len
      have hlen := (pathsN_in code 9 0 l hl).1
      have n8 := names_8 hl h8
      have n1 := names_one hl rc
      have ph0 : Pre h (h ++ [.cells (regsL R) 0 false]) := (Pre.refl h).more _
      have hvr : vals.length * 8 ≤ roomFor := hv
      have slC : Sl H1 c 17 (code.map insL) := e'.pre p3
      have sls : Sl H1 s 1 (vals.map intR) := hs'.pre p3
      obtain ⟨s1, K1, s2, K2, s3, K3, a1, a2, a3, a4, a5, a6, k1, k2, k3⟩ := copy3 slC p2.sl sls (by rw [List.length_map]; exact hb) (by rw [List.length_map]; unfold roomFor; omega) (by rw [List.length_map]; exact hv)
      have rg0 := read_regs hR p3
      have rg1 := read_regs hR (p3.trans k1)
      have rg2 := read_regs hR (p3.trans k2)
      have rg3 := read_regs hR (p3.trans k3)
      have rgE := read_regs hR (p3.more [.cells [] 0 false, .cells [] 0 false])
      have on1 : On K3 s1 s2 code l (insOf code l) := On.of a4 a5 hl h8
      have on2 : On K3 c v code l (insOf code l) := On.of (e'.pre (p3.trans k3)) (p2.sl.pre k3) hl h8
      have hcap := cap_le (insOf code l) place
      have fV := flow_Value_c (kn := kn) n8 hR hvl _ place hcap r s3 K3 on1 a6
      have gV := ref_Value_c (kn := kn) n8 hR hvl _ place hcap r s K3 on2 (hs'.pre (p3.trans k3))
      unfold tupV at fV gV
      obtain ⟨c4, K4, q1, q2, q3⟩ := copy_c (bytes := 120) (slC.pre k3) (by rw [List.length_map]; exact hb)
      obtain ⟨p5, K5, r1, r2, r3⟩ := copy_c (bytes := 8) (p2.sl.pre (k3.trans q3)) (by rw [List.length_map]; unfold roomFor; omega)
      have on3 : On K5 c4 p5 code l (insOf code l) := On.of (InsSl.pre q2.sl r3) r2.sl hl h8
      have p35 : Pre H1 K5 := (k3.trans q3).trans r3
      have on4 : On K5 c v code l (insOf code l) := On.of (e'.pre (p3.trans p35)) (p2.sl.pre p35) hl h8
      have hp : Pre h K5 := (ph0.trans p3).trans p35
      simp only [c_belatedlaw10_FlowValues, C_ops, C_cond, D_ret, D_skip, normal_some, cond_ff, E_nil, E_cons, E_guard, next_some, next_none, guard_tt, guard_ff, ev_tmp, ev_const, get_succ, get_zero, List.set_cons_succ, List.set_cons_zero, O_mv, O_pick, pickO, O_bin, pairO, O_un, O_call, List.map_cons, List.map_nil, O_len, O_load, load_ptr, O_mkRow, mk_some, partsV_nil, zeros_zero, fill_nil, B_eql, B_gtr, U_not, List.cons_append, List.nil_append, List.length_cons, List.length_nil, Nat.reduceAdd, Nat.reduceSub, Nat.zero_add, Bool.not_true, W_some, W_seq, Q_cont_normal, slc, O_append, O_box, O_extract, extract_tup, fillU_zero, fillU_succ, List.append_assoc, List.length_append, Option.map_some, List.getElem?_cons_zero, List.getElem?_cons_succ, Bool.bne_false, beq_self_eq_true, O_eqv, eqv_bool, eq_self, laid_agg, box_some, O_again, again_agg, regsL_len, hR, law_able_c, law_right_c e' hb, hr, hs.len, h100, decide_false, List.length_replicate, Nat.reduceAdd, p1, rgE, rg1, rg2, rg3, a1, a2, a3, fV, gV, q1, r1, flow_Def_c on3, ref_Def_c on4, eqv_bool]
      rw [Q_pre hp _ _ _ rfl]; rfl
theorem flowValues_law (h : Heap) (us : List Value) (hu : TypedAs h [(false, [(.slice 120 (List.replicate 10 (.int .i64) ++ List.replicate 3 .bool ++ List.replicate 3 (.int .i64) ++ [.bool]))]), (false, [(.int .i64)]), (true, (List.replicate 8 (.int .i64))), (false, [(.int .i64)]), (false, [(.int .i64)]), (false, [(.slice 8 [(.int .i64)])]), (false, [(.int .i64)])] us) : ∃ h', DF FF n_belatedlaw10_FlowValues us h = some (.bool true, h') :=
  match us, hu with
  | [a, b, c, d, e, f, g], ⟨h0, h1, h2, h3, h4, h5, h6, _⟩ =>
    let ⟨code, hc, hb⟩ := typed_code h0
    let ⟨i, hi, w⟩ := typed_int h1
    let ⟨R, hR, hR8⟩ := typed_regs h2
    let ⟨k, hk, _⟩ := typed_int h3
    let ⟨r, hr, _⟩ := typed_int h4
    let ⟨vals, hv, hvb⟩ := typed_intS h5
    let ⟨kn, hkn, _⟩ := typed_int h6
    ⟨h, by rw [hi, hR, hk, hr, hkn]; exact law_FlowValues hc hb i (W_of_wf w) R hR8 k r kn hv hvb⟩
end Go.Proofs.Ytoeoahpngmhkdaa.AM
