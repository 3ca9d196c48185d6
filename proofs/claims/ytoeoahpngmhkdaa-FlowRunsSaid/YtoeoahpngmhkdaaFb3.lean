/-
  The flow law on what reads and writes hang from.
  Conditions: none.
-/
import Derived.Test.YtoeoahpngmhkdaaFb2
namespace Go.Proofs.Ytoeoahpngmhkdaa.AM
open Go.RowKit
set_option linter.unusedSimpArgs false
set_option linter.unusedVariables false

theorem reach_room : reachBytes ≤ roomFor := by unfold reachBytes roomFor; omega
theorem typed_insL {h : Heap} {l : List Value} (ht : TypedL h (List.replicate 10 (.int .i64) ++ List.replicate 3 .bool ++ List.replicate 3 (.int .i64) ++ [.bool]) l) : ∃ i, l = insL i := by
  have hi : ∀ k, k < 10 ∨ (13 ≤ k ∧ k < 16) → ∃ n : Int, l[k]? = some (.int .i64 n) := by
    intro k hk
    obtain ⟨u, hu, ht⟩ := typedL_get ht (i := k) (s := .int .i64) (by
      have : k = 0 ∨ k = 1 ∨ k = 2 ∨ k = 3 ∨ k = 4 ∨ k = 5 ∨ k = 6 ∨ k = 7 ∨ k = 8 ∨ k = 9 ∨ k = 13 ∨ k = 14 ∨ k = 15 := by omega
      rcases this with rfl | rfl | rfl | rfl | rfl | rfl | rfl | rfl | rfl | rfl | rfl | rfl | rfl <;> rfl)
    cases ht with
    | int k n hw => exact ⟨n, hu⟩
  have hb : ∀ k, (10 ≤ k ∧ k < 13) ∨ k = 16 → ∃ n : Bool, l[k]? = some (.bool n) := by
    intro k hk
    obtain ⟨u, hu, ht⟩ := typedL_get ht (i := k) (s := .bool) (by
      have : k = 10 ∨ k = 11 ∨ k = 12 ∨ k = 16 := by omega
      rcases this with rfl | rfl | rfl | rfl <;> rfl)
    cases ht with
    | bool b => exact ⟨b, hu⟩
  have hl : l.length = 17 := by have := ht.1; simpa using this.symm
  match l, hl, hi, hb with
  | [x0, x1, x2, x3, x4, x5, x6, x7, x8, x9, x10, x11, x12, x13, x14, x15, x16], _, hi, hb =>
    obtain ⟨n0, h0⟩ := hi 0 (by omega)
    obtain ⟨n1, h1⟩ := hi 1 (by omega)
    obtain ⟨n2, h2⟩ := hi 2 (by omega)
    obtain ⟨n3, h3⟩ := hi 3 (by omega)
    obtain ⟨n4, h4⟩ := hi 4 (by omega)
    obtain ⟨n5, h5⟩ := hi 5 (by omega)
    obtain ⟨n6, h6⟩ := hi 6 (by omega)
    obtain ⟨n7, h7⟩ := hi 7 (by omega)
    obtain ⟨n8, h8⟩ := hi 8 (by omega)
    obtain ⟨n9, h9⟩ := hi 9 (by omega)
    obtain ⟨n10, h10⟩ := hb 10 (by omega)
    obtain ⟨n11, h11⟩ := hb 11 (by omega)
    obtain ⟨n12, h12⟩ := hb 12 (by omega)
    obtain ⟨n13, h13⟩ := hi 13 (by omega)
    obtain ⟨n14, h14⟩ := hi 14 (by omega)
    obtain ⟨n15, h15⟩ := hi 15 (by omega)
    obtain ⟨n16, h16⟩ := hb 16 (by omega)
    refine ⟨⟨n0, n1, n2, n3, n4, n5, n6, n7, n8, n9, n10, n11, n12, n13, n14, n15, n16⟩, ?_⟩
    have e0 : x0 = _ := Option.some.inj h0
    have e1 : x1 = _ := Option.some.inj h1
    have e2 : x2 = _ := Option.some.inj h2
    have e3 : x3 = _ := Option.some.inj h3
    have e4 : x4 = _ := Option.some.inj h4
    have e5 : x5 = _ := Option.some.inj h5
    have e6 : x6 = _ := Option.some.inj h6
    have e7 : x7 = _ := Option.some.inj h7
    have e8 : x8 = _ := Option.some.inj h8
    have e9 : x9 = _ := Option.some.inj h9
    have e10 : x10 = _ := Option.some.inj h10
    have e11 : x11 = _ := Option.some.inj h11
    have e12 : x12 = _ := Option.some.inj h12
    have e13 : x13 = _ := Option.some.inj h13
    have e14 : x14 = _ := Option.some.inj h14
    have e15 : x15 = _ := Option.some.inj h15
    have e16 : x16 = _ := Option.some.inj h16
    rw [e0, e1, e2, e3, e4, e5, e6, e7, e8, e9, e10, e11, e12, e13, e14, e15, e16]
    rfl
theorem typed_code {h : Heap} {u : Value} (ht : TypedA h (false, [.slice 120 (List.replicate 10 (.int .i64) ++ List.replicate 3 .bool ++ List.replicate 3 (.int .i64) ++ [.bool])]) u) : ∃ code, InsSl h u code ∧ code.length * 120 ≤ roomFor := by
  obtain ⟨rows, h1, h2, h3⟩ := typed_slice (by simp) ht
  obtain ⟨l, rfl, hl⟩ := rows_of (p := fun _ => True) (f := insL) rows fun r hr => by
    obtain ⟨i, hi⟩ := typed_insL (h2 r hr); exact ⟨i, hi, trivial⟩
  exact ⟨l, h1, Nat.le_trans (by simpa using h3) reach_room⟩
set_option maxHeartbeats 1000000 in
theorem law_FlowHangs {code : List Ins} {c : Value} {h : Heap} (e : InsSl h c code) (hb : code.length * 120 ≤ roomFor) (i k : Int) (hi : W i) : DF FF n_belatedlaw10_FlowHangs [c, .int .i64 i, .int .i64 k] h = some (.bool true, h) := by
  refine fun_wpU F_belatedlaw10_FlowHangs ?_
  cases hr : rightC code
  · simp only [c_belatedlaw10_FlowHangs, C_ops, C_cond, D_ret, D_skip, normal_some, cond_tt, cond_ff, E_nil, E_cons, next_some, ev_tmp, ev_const, get_succ, get_zero, List.set_cons_succ, List.set_cons_zero, O_mv, pairO, O_un, O_call, List.map_cons, List.map_nil, U_not, List.cons_append, List.nil_append, List.length_cons, List.length_nil, Nat.reduceAdd, Nat.reduceSub, Nat.zero_add, Bool.not_true, Bool.not_false, W_some, W_seq, Q_cont_normal, Q_cont_ret, Q_ret, fillU_zero, fillU_succ, List.append_assoc, eq_self, law_able_c, law_right_c e hb, hr]
  · have rc := rightC_rc hr
    obtain ⟨v, H1, p1, ⟨l, hl, p2⟩, p3⟩ := law_path_c e rc i hi
    obtain ⟨c', H2, q1, q2, q3⟩ := copy_c (bytes := 120) (e.pre p3) (by rw [List.length_map]; exact hb)
    have hlen := (pathsN_in code 9 0 l hl).1
    have h8 := rc.len
    obtain ⟨p', H3, r1, r2, r3⟩ := copy_c (bytes := 8) (p2.sl.pre q3) (by rw [List.length_map]; unfold roomFor; omega)
    have h33 : Pre h H3 := (p3.trans q3).trans r3
    have on1 : On H3 c' p' code l (insOf code l) := On.of (InsSl.pre q2.sl r3) r2.sl hl h8
    have on2 : On H3 c v code l (insOf code l) := On.of (e.pre h33) (p2.sl.pre (q3.trans r3)) hl h8
    have n8 := names_8 hl h8
    have n1 := names_one hl rc
    simp only [c_belatedlaw10_FlowHangs, C_ops, C_cond, D_ret, D_skip, normal_some, cond_ff, E_nil, E_cons, E_guard, next_some, guard_tt, ev_tmp, ev_const, get_succ, get_zero, List.set_cons_succ, List.set_cons_zero, O_mv, O_pick, pickO, O_bin, pairO, O_un, O_call, List.map_cons, List.map_nil, O_mkRow, mk_some, partsV_nil, zeros_zero, fill_nil, B_eql, U_not, List.cons_append, List.nil_append, List.length_cons, List.length_nil, Nat.reduceAdd, Nat.reduceSub, Nat.zero_add, Bool.not_true, W_some, W_seq, Q_cont_normal, slc, O_append, fillU_zero, fillU_succ, List.append_assoc, List.length_append, beq_self_eq_true, List.length_replicate, Nat.reduceAdd, law_able_c, law_right_c e hb, hr, p1, q1, r1, flow_Addr_c n8 on1, ref_Addr_c n8 n1 on2, flow_Data_c n8 on1, ref_Data_c n8 n1 on2, flow_Ctrl_c n8 on1, ref_Ctrl_c n8 n1 on2]
    rw [Q_pre h33 _ _ _ rfl]; rfl
theorem flowHangs_law (h : Heap) (us : List Value) (hu : TypedAs h [(false, [(.slice 120 (List.replicate 10 (.int .i64) ++ List.replicate 3 .bool ++ List.replicate 3 (.int .i64) ++ [.bool]))]), (false, [(.int .i64)]), (false, [(.int .i64)])] us) : ∃ h', DF FF n_belatedlaw10_FlowHangs us h = some (.bool true, h') :=
  match us, hu with
  | [a, b, c], ⟨h0, h1, h2, _⟩ =>
    let ⟨code, e, hb⟩ := typed_code h0
    let ⟨i, hi, w⟩ := typed_int h1
    let ⟨k, hk, _⟩ := typed_int h2
    ⟨h, by rw [hi, hk]; exact law_FlowHangs e hb i k (W_of_wf w)⟩
end Go.Proofs.Ytoeoahpngmhkdaa.AM
