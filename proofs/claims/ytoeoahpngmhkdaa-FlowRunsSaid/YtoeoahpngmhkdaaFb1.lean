/-
  The flow laws' own small functions.
  Conditions: the code takes no more than an argument may.
-/
import Derived.Test.YtoeoahpngmhkdaaFa9
namespace Go.Proofs.Ytoeoahpngmhkdaa.AM
open Go.RowKit
set_option linter.unusedSimpArgs false
set_option linter.unusedVariables false

theorem copy_c {H : Heap} {s : Value} {c bytes : Nat} {rows : List (List Value)} (e : Sl H s c rows) (hr : rows.length * bytes ≤ roomFor) :
    ∃ s' H', appendTo (H ++ [.cells [] 0 false]) c bytes (.slice (some ⟨H.length, 0, some 0⟩) 0 c) (srcOf (H ++ [.cells [] 0 false]) c s) = some (s', H') ∧ Own H H' s' c rows ∧ Pre H H' := by
  have own0 : Own H (H ++ [.cells [] 0 false]) (.slice (some ⟨H.length, 0, some 0⟩) 0 c) c [] := ⟨.inr ⟨H.length, 0, Nat.le_refl _, rfl, by simp⟩, by simp⟩
  obtain ⟨s', H', h1, h2, h3, h4, h5, h6⟩ := own0.append ((Pre.refl H).more _) (ys := rows.flatten) (rows' := rows) (bytes := bytes) rfl e.2 (by simpa using hr)
  exact ⟨s', H', by rw [e.src]; exact h1, by simpa using h2, h3⟩
theorem law_right_c {code : List Ins} {c : Value} {h : Heap} (e : InsSl h c code) (hb : code.length * 120 ≤ roomFor) : DF FF n_belatedlaw10_right [c] h = some (.bool (rightC code), h) := by
  refine fun_wpU F_belatedlaw10_right ?_
  obtain ⟨c', H1, q1, q2, q3⟩ := copy_c (bytes := 120) e (by rw [List.length_map]; exact hb)
  have hl : code.length < 4611686018427387904 := by unfold roomFor at hb; omega
  have hck := uir_Check_c [code] _ _ (Codes_row (H := H1) (c := c') (code := code) q2.sl) (by intro d hd; simp at hd; subst hd; exact hl) (by simp)
  unfold tup3 at hck
  obtain ⟨a, n, m, hs⟩ := q2.shape
  subst hs
  simp only [c_belatedlaw10_right, C_ops, D_ret, normal_some, E_nil, E_cons, next_some, ev_tmp, ev_const, get_succ, get_zero, List.set_cons_succ, List.set_cons_zero, O_mv, O_bin, pairO, O_call, List.map_cons, List.map_nil, O_mkRow, mk_some, partsV_nil, partsV_cons, zeros_zero, zeros_succ, fill_nil, fill_slice, Nat.lt_add_one, B_eql, List.cons_append, List.nil_append, List.length_cons, List.length_nil, Nat.reduceAdd, Nat.reduceSub, Nat.zero_add, W_some, W_seq, Q_cont_normal, slc, O_append, O_extract, extract_tup, fillU_zero, fillU_succ, List.append_assoc, List.length_append, List.append_nil, List.getElem?_cons_zero, List.getElem?_cons_succ, List.length_replicate, Nat.reduceAdd, q1, hck]
  rw [Q_pre (q3.more _) _ _ _ rfl]; rfl
theorem law_ints_c {l m : List Int} {s t : Value} {h : Heap} (e : IntS h s l) (f : IntS h t m) (hl : l.length < 4611686018427387904) : DF FF n_belatedlaw10_ints [s, t] h = some (.bool (l == m), h) := by
  refine fun_wpU F_belatedlaw10_ints ?_
  by_cases hne : l.length = m.length
  · have c1 : ((l.length : Int) != (m.length : Int)) = false := by simp [hne]
    simp only [c_belatedlaw10_ints, C_ops, C_cond, D_skip, normal_some, cond_ff, E_nil, E_cons, next_some, ev_tmp, ev_const, get_succ, get_zero, List.set_cons_succ, List.set_cons_zero, O_mv, O_bin, pairO, O_len, B_neq, List.cons_append, List.nil_append, List.length_cons, List.length_nil, Nat.reduceAdd, Nat.reduceSub, Nat.zero_add, W_some, W_seq, W_block, Q_cont_normal, fillU_zero, fillU_succ, e.len, f.len, c1]
    refine for_wp l.length (fun k st => (∀ i : Nat, i < k → l[i]? = m[i]?) ∧ ∃ (j : Nat → Value), st = ⟨[s, t, j 2, j 3, j 4, .int .i64 (k : Int), j 6, j 7, j 8, j 9, j 10, j 11, j 12, j 13, j 14, j 15, j 16, j 17, j 18, j 19, j 20, j 21, j 22, j 23, j 24, j 25], h⟩) ?_ ?_ _ ?_
    · rintro k st hk ⟨hall, j, rfl⟩
      have h1 : (k : Int) < l.length := by omega
      obtain ⟨b, o, v, a1, _, a3⟩ := e.at hk
      obtain ⟨b', o', v', d1, _, d3⟩ := f.at (k := k) (by omega)
      by_cases hq : l[k] = m[k]'(by omega)
      · have hq' : (l[k] != m[k]'(by omega)) = false := by simp [hq]
        simp only [C_ops, C_cond, D_skip, normal_some, cond_tt, cond_ff, E_nil, E_cons, next_some, ev_tmp, ev_const, get_succ, get_zero, List.set_cons_succ, List.set_cons_zero, O_mv, O_bin, pairO, O_len, O_atRow, O_load1, load1_ptr, B_add, B_neq, B_lss, W_some, W_seq, W_block, Q_cont_normal, Q_block_normal, Q_for_normal, e.len, h1, decide_true, a1, a3, d1, d3, hq', wrap_nat (k := k) (by omega)]
        refine ⟨fun i hi => ?_, junk rfl⟩
        by_cases hik : i = k
        · subst hik; rw [List.getElem?_eq_getElem hk, List.getElem?_eq_getElem (by omega), hq]
        · exact hall i (by omega)
      · have hq' : (l[k] != m[k]'(by omega)) = true := by simp [hq]
        have hf : (l == m) = false := by
          rw [beq_eq_false_iff_ne]; intro he; subst he; exact hq rfl
        simp only [C_ops, C_cond, D_ret, D_skip, normal_some, cond_tt, E_nil, E_cons, next_some, ev_tmp, ev_const, get_succ, get_zero, List.set_cons_succ, List.set_cons_zero, O_mv, O_bin, pairO, O_len, O_atRow, O_load1, load1_ptr, B_neq, B_lss, W_some, W_seq, W_block, Q_cont_normal, Q_cont_ret, Q_block_ret, Q_ret, eq_self, Q_for_ret, e.len, h1, decide_true, a1, a3, d1, d3, hq', hf]
    · rintro st ⟨hall, j, rfl⟩
      have h1 : ¬ ((l.length : Nat) : Int) < l.length := by omega
      have hf : (l == m) = true := by
        rw [beq_iff_eq]
        apply List.ext_getElem?
        intro i
        by_cases hi : i < l.length
        · exact hall i hi
        · rw [List.getElem?_eq_none (by omega), List.getElem?_eq_none (by omega)]
      simp only [C_ops, C_cond, D_exit, D_ret, normal_some, cond_ff, E_nil, E_cons, next_some, ev_tmp, ev_const, get_succ, get_zero, List.set_cons_succ, List.set_cons_zero, O_mv, O_bin, pairO, O_len, B_lss, W_some, W_seq, Q_cont_normal, Q_cont_exit, Q_block_exit, Q_ret, eq_self, Q_for_exit, e.len, h1, decide_false, hf]
    · exact ⟨fun i hi => by omega, junk rfl⟩
  · have c1 : ((l.length : Int) != (m.length : Int)) = true := by simp; omega
    have hf : (l == m) = false := by
      rw [beq_eq_false_iff_ne]; intro he; exact hne (by rw [he])
    simp only [c_belatedlaw10_ints, C_ops, C_cond, D_ret, normal_some, cond_tt, E_nil, E_cons, next_some, ev_tmp, ev_const, get_succ, get_zero, List.set_cons_succ, List.set_cons_zero, O_mv, O_bin, pairO, O_len, B_neq, List.cons_append, List.nil_append, List.length_cons, List.length_nil, Nat.reduceAdd, Nat.reduceSub, Nat.zero_add, W_some, W_seq, Q_cont_normal, Q_cont_ret, Q_ret, fillU_zero, fillU_succ, eq_self, e.len, f.len, c1, hf]
theorem PL.at {h0 H : Heap} {v : Value} {L : List (List Int)} (e : PL h0 H v L) {k : Nat} (hk : k < L.length) :
    ∃ b o w x, (∀ K, rowO K 1 v (.int .i64 (k : Int)) = some (.pointer (some ⟨b, o, some w⟩), K)) ∧ Heap.read1 H ⟨b, o, some w⟩ = some x ∧ Own h0 H x 1 (L[k].map intR) := by
  obtain ⟨vs, e1, e2, e3, _⟩ := e
  have hkv : k < vs.length := by omega
  obtain ⟨b, o, w, d1, d2⟩ := e1.sl.atH (k := k) (by simpa using hkv)
  exact ⟨b, o, w, vs[k], d1, read1_of0 d2 (by rw [List.getElem_map]; rfl), e3 k _ _ (List.getElem?_eq_getElem hkv) (List.getElem?_eq_getElem hk)⟩
theorem pathsN_in (code : List Ins) : ∀ f k, ∀ l ∈ pathsN code f k, l.length ≤ code.length - k ∧ ∀ x ∈ l, ∃ m : Nat, x = (m : Int) ∧ m < code.length
  | 0, _ => by simp [pathsN]
  | f + 1, k => by
    intro l hl
    rw [pathsN] at hl
    cases hi : code[k]? with
    | none => rw [hi] at hl; simp at hl; subst hl; simp
    | some i =>
      have hk := (List.getElem?_eq_some_iff.1 hi).1
      rw [hi] at hl
      simp only [List.mem_append, List.mem_map] at hl
      rcases hl with ⟨m, hm, rfl⟩ | hl
      · obtain ⟨h1, h2⟩ := pathsN_in code f _ m hm
        refine ⟨by simp; omega, fun x hx => ?_⟩
        rcases List.mem_cons.1 hx with rfl | hx
        · exact ⟨k, rfl, hk⟩
        · exact h2 x hx
      · split at hl
        · rename_i hc
          simp only [Bool.and_eq_true, decide_eq_true_eq] at hc
          simp only [List.mem_map] at hl
          obtain ⟨m, hm, rfl⟩ := hl
          obtain ⟨h1, h2⟩ := pathsN_in code f _ m hm
          refine ⟨by simp; omega, fun x hx => ?_⟩
          rcases List.mem_cons.1 hx with rfl | hx
          · exact ⟨k, rfl, hk⟩
          · exact h2 x hx
        · cases hl
/-- The instructions that a path names. -/
def insOf (code : List Ins) (l : List Int) : List Ins := l.map fun x => code.getD x.toNat zeroI
theorem On.of {h : Heap} {c p : Value} {code : List Ins} {l : List Int} {f k : Nat} (hc : InsSl h c code) (hp : IntS h p l) (hl : l ∈ pathsN code f k) (h8 : code.length ≤ 8) : On h c p code l (insOf code l) := by
  obtain ⟨h1, h2⟩ := pathsN_in code f k l hl
  refine ⟨hc, hp, by simp [insOf], fun i hi => ?_, by omega, by simp [insOf]; omega⟩
  have hi' : i < l.length := by simpa [insOf] using hi
  obtain ⟨m, hm, hm2⟩ := h2 l[i] (List.getElem_mem _)
  refine ⟨m, by rw [List.getElem?_eq_getElem hi', hm], ?_⟩
  have : (insOf code l)[i] = code[m] := by
    simp only [insOf, List.getElem_map, hm, Int.toNat_natCast, List.getD_eq_getElem?_getD, List.getElem?_eq_getElem hm2]; rfl
  rw [this]
  exact List.getElem?_eq_getElem hm2
theorem names_8 {code : List Ins} {l : List Int} {f k : Nat} (hl : l ∈ pathsN code f k) (h8 : code.length ≤ 8) : (insOf code l).length ≤ 8 := by
  have := (pathsN_in code f k l hl).1
  simp [insOf]; omega
theorem names_one {code : List Ins} {l : List Int} {f k : Nat} (hl : l ∈ pathsN code f k) (rc : RC code) : OneA (insOf code l) := by
  intro i hi
  simp only [insOf, List.mem_map] at hi
  obtain ⟨x, hx, rfl⟩ := hi
  obtain ⟨m, rfl, hm⟩ := (pathsN_in code f k l hl).2 x hx
  rw [Int.toNat_natCast, List.getD_eq_getElem?_getD, List.getElem?_eq_getElem hm]
  exact rc.one _ (List.getElem_mem _)
set_option maxHeartbeats 1000000 in
theorem law_path_c {code : List Ins} {c : Value} {h : Heap} (e : InsSl h c code) (rc : RC code) (i : Int) (hi : W i) :
    ∃ v H', DF FF n_belatedlaw10_path [c, .int .i64 i] h = some (v, H') ∧ ((∃ l ∈ pathsN code 9 0, Own h H' v 1 (l.map intR)) ∧ Pre h H') := by
  refine fun_wpE F_belatedlaw10_path ?_
  obtain ⟨v, H', h1, h2, h3⟩ := ref_Paths_c rc.len h e
  have hn := paths_some code 9 0 (by have := rc.len; omega)
  have hm := pathsN_many code 9 0
  generalize hN : (pathsN code 9 0).length = n at hn hm
  have hm : n ≤ 512 := hm
  have hne : ((n : Int) = 0) = False := by simp; omega
  have t1 := Int.tmod_lt_of_pos i (b := (n : Int)) (by omega)
  have t2 : -(n : Int) < i.tmod n := by
    have := Int.lt_tmod_of_pos i (b := (n : Int)) (by omega)
    exact this
  have w1 : IntKind.i64.wrap (i.tmod n) = i.tmod n := wrapS (by omega)
  have w2 : IntKind.i64.wrap (i.tmod n + n) = i.tmod n + n := wrapS (by omega)
  have t3 := Int.tmod_lt_of_pos (i.tmod n + n) (b := (n : Int)) (by omega)
  have t4 : 0 ≤ (i.tmod n + n).tmod n := Int.tmod_nonneg _ (by omega)
  have w3 : IntKind.i64.wrap ((i.tmod n + n).tmod n) = (i.tmod n + n).tmod n := wrapS (by omega)
  obtain ⟨k, hk⟩ : ∃ k : Nat, (i.tmod n + n).tmod n = (k : Int) := ⟨((i.tmod n + n).tmod n).toNat, by omega⟩
  have hkn : k < (pathsN code 9 0).length := by omega
  obtain ⟨b, o, w, x, d1, d2, d3⟩ := h2.at hkn
  have hlen : ∀ K, lenO K v = some (.int .i64 n, K) := fun K => by rw [h2.len, hN]
  simp only [c_belatedlaw10_path, C_ops, D_ret, normal_some, E_nil, E_cons, next_some, ev_tmp, ev_const, get_succ, get_zero, List.set_cons_succ, List.set_cons_zero, O_mv, O_bin, pairO, O_call, List.map_cons, List.map_nil, O_len, O_atRow, O_load1, load1_ptr, B_add, B_rem, List.cons_append, List.nil_append, List.length_cons, List.length_nil, Nat.reduceAdd, Nat.reduceSub, Nat.zero_add, W_some, W_seq, Q_cont_normal, fillU_zero, fillU_succ, Q_retE, h1, hlen, hne, ne_eq, not_false_eq_true, w2, hk, d1, d2]
  have := d3.finish h3
  exact ⟨⟨_, List.getElem_mem _, this.1⟩, this.2⟩
end Go.Proofs.Ytoeoahpngmhkdaa.AM
