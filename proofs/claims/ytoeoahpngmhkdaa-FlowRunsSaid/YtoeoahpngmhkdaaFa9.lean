/-
  A code that is right; all its paths; the law's own small functions.
  Conditions: none but that it is right.
-/
import Derived.Test.YtoeoahpngmhkdaaFa8
namespace Go.Proofs.Ytoeoahpngmhkdaa.AM
open Go.RowKit
set_option linter.unusedSimpArgs false
set_option linter.unusedVariables false

/-- A code alone is right. -/
def rightC (code : List Ins) : Bool := (checkV [code]).2.2 == 0
structure RC (code : List Ins) : Prop where
  len : code.length ≤ 8
  all : ∀ k (hk : k < code.length), rightV code[k] k code.length = 0
theorem findSome_all {α β : Type} {f : α → Option β} : ∀ {l : List α}, l.findSome? f = none → ∀ a ∈ l, f a = none
  | [], _, a, h => by cases h
  | b :: l, e, a, h => by
    rw [List.findSome?_cons] at e
    cases hb : f b with
    | some x => rw [hb] at e; cases e
    | none =>
      rw [hb] at e
      rcases List.mem_cons.1 h with rfl | h
      · exact hb
      · exact findSome_all e a h
theorem rightC_rc {code : List Ins} (h : rightC code = true) : RC code := by
  unfold rightC checkV at h
  rw [if_neg (by simp)] at h
  by_cases h8 : 8 < code.length
  · have e : longT [code] = some 0 := find_first (k := 0) (fun t ht => by omega) (by simpa using h8) (by simp)
    rw [e] at h; simp at h
  · have e : longT [code] = none := find_none fun t ht => by
      have : t = 0 := by simpa using ht
      subst this; simpa using h8
    rw [e] at h
    simp only at h
    cases hb : badT [code] with
    | some x =>
      rw [hb] at h
      obtain ⟨t, k, e⟩ := x
      exfalso
      have he : e = 0 := by simpa using h
      subst he
      unfold badT at hb
      obtain ⟨t', ht', hg⟩ := List.exists_of_findSome?_eq_some hb
      unfold badG at hg
      have : t' = 0 := by simpa using ht'
      subst this
      simp only [List.getElem?_cons_zero] at hg
      cases hc : badC code with
      | none => rw [hc] at hg; cases hg
      | some y =>
        rw [hc] at hg
        obtain ⟨k', e'⟩ := y
        simp at hg
        obtain ⟨_, _, rfl⟩ := hg
        unfold badC at hc
        obtain ⟨k2, hk2, hf⟩ := List.exists_of_findSome?_eq_some hc
        unfold badF at hf
        have hk3 : k2 < code.length := by simpa using hk2
        rw [List.getElem?_eq_getElem hk3] at hf
        simp only at hf
        split at hf
        · cases hf
        · rename_i hne
          simp at hf
          exact hne hf.2
    | none =>
      refine ⟨by omega, fun k hk => ?_⟩
      unfold badT at hb
      have h0 := findSome_all hb 0 (by simp)
      unfold badG at h0
      simp only [List.getElem?_cons_zero, Option.map_eq_none_iff] at h0
      unfold badC at h0
      have h1 := findSome_all h0 k (by simpa using hk)
      unfold badF at h1
      rw [List.getElem?_eq_getElem hk] at h1
      simp only at h1
      split at h1
      · assumption
      · cases h1
theorem rightV_ok {i : Ins} {k n : Nat} (h : rightV i k n = 0) : okI i = true := by
  unfold rightV at h
  by_cases ho : okI i = true
  · exact ho
  · simp [ho] at h
theorem RC.to {code : List Ins} (e : RC code) : ∀ i ∈ code, i.op = 9 → i.to ≤ code.length := by
  intro i hi h9
  obtain ⟨k, hk, rfl⟩ := List.mem_iff_getElem.1 hi
  have h := e.all k hk
  unfold rightV at h
  rw [rightV_ok (e.all k hk), if_pos rfl] at h
  have h9' : (code[k].op == 9) = true := by simp [h9]
  rw [h9', Bool.true_and] at h
  split at h
  · omega
  · rename_i hc
    simp at hc; omega
theorem RC.one {code : List Ins} (e : RC code) : ∀ i ∈ code, i.op = 2 → i.b = -1 := by
  intro i hi h2
  obtain ⟨k, hk, rfl⟩ := List.mem_iff_getElem.1 hi
  have h := rightV_ok (e.all k hk)
  unfold okI at h
  have n1 : (code[k].op == 1) = false := by simp [h2]
  have n2 : (code[k].op == 2) = true := by simp [h2]
  simp only [n1, n2, Bool.false_eq_true, if_false, if_true, Bool.and_eq_true, beq_iff_eq] at h
  exact h.2.2.1
theorem Codes_row {H : Heap} {c : Value} {code : List Ins} (e : InsSl H c code) : Codes (H ++ [.cells [c] 0 false]) (.slice (some ⟨H.length, 0, some 0⟩) 1 1) [code] := by
  refine ⟨[c], ⟨.inr ⟨H.length, 0, 0, rfl, ?_⟩, by simp⟩, rfl, ?_⟩
  · simp [Heap.read]
  · intro k v d hv hd
    have : k = 0 := by
      have := (List.getElem?_eq_some_iff.1 hv).1
      simpa using this
    subst this
    simp at hv hd
    subst hv hd
    exact e.more _
theorem laid_slice (a : Option Addr) (n c : Nat) : laid (.slice a n c) = some [.slice a n c] := by simp [laid]
theorem Sl.shape17 {H : Heap} {s : Value} {c : Nat} {rows : List (List Value)} (e : Sl H s c rows) : (s = .slice none 0 0) ∨ ∃ p n, s = .slice (some p) n c := by
  rcases e.shape with ⟨h, _⟩ | h
  · exact .inl h
  · exact .inr h
theorem InsSl.shape {H : Heap} {c : Value} {code : List Ins} (e : InsSl H c code) : ∃ a n m, c = .slice a n m := by
  rcases Sl.shape17 e with h | ⟨p, n, h⟩
  · exact ⟨_, _, _, h⟩
  · exact ⟨_, _, _, h⟩
set_option maxHeartbeats 1000000 in
theorem flow_Paths_c {code : List Ins} {c : Value} {h : Heap} (e : InsSl h c code) (hr : rightC code = true) :
    ∃ v H', DF FF n_flow_Paths [c] h = some (v, H') ∧ (PL h H' v (pathsN code 9 0) ∧ Pre h H') := by
  have rc := rightC_rc hr
  have h8 := rc.len
  refine fun_wpE F_flow_Paths ?_
  have hck := uir_Check_c [code] _ _ (Codes_row (e.more [.cells [c] 0 false])) (by intro d hd; simp at hd; subst hd; omega) (by simp)
  have hz : (checkV [code]).2.2 = 0 := by simpa [rightC] using hr
  unfold tup3 at hck
  rw [hz] at hck
  have env : Env h c h.length (h.length + 2) (h.length + 3) (h ++ [.cells [c] 0 false, .cells [c] 0 false, .cells [nils] 0 false, .cells [closV h.length (h.length + 2) (h.length + 3)] 0 false]) nils := by
    refine ⟨(Pre.refl h).more _, by omega, by omega, by omega, ?_, ?_, ?_⟩ <;> rw [List.getElem?_append_right (by omega)] <;> simp
  obtain ⟨v4, H4, y1, out4, env4, pn4, l4, keep4, b4⟩ := walk_c (pc := h.length) (po := h.length + 2) (pw := h.length + 3) e h8 rc.to 9 (by omega) 0 (by omega) (by omega) _ nils nils [] [] (fun b => b = h.length ∨ b = h.length + 2 ∨ b = h.length + 3) env (PN.nil _ _ _) (Own.nil _ _ _) (by
      intro b hb; simp; omega) (by intro b _; simp [blk, nils]) (.inl rfl) (.inr (.inl rfl)) (.inr (.inr rfl)) (by simp) (by simp)
  have ro := one_read env4.oo
  have pl4 : PL h H4 out4 (pathsN code 9 0) := by
    have := pn4.pl
    simpa using this
  obtain ⟨a, n, m, hs⟩ := e.shape
  subst hs
  unfold closV nils at y1
  simp only [List.cons_append, List.nil_append, List.length_cons, List.length_nil, Nat.zero_add, List.append_assoc, List.length_append] at hck
  have y1 : DF FF n_flow_Paths_1 [.slice none 0 0, .int .i64 0, .pointer (some ⟨h.length, 0, some 0⟩), .pointer (some ⟨h.length + 2, 0, some 0⟩), .pointer (some ⟨h.length + 3, 0, some 0⟩)] (h ++ [.cells [.slice a n m] 0 false, .cells [.slice a n m] 0 false, .cells [.slice none 0 0] 0 false, .cells [.func (.func n_flow_Paths_1) #[] #[.pointer (some ⟨h.length, 0, some 0⟩), .pointer (some ⟨h.length + 2, 0, some 0⟩), .pointer (some ⟨h.length + 3, 0, some 0⟩)]] 0 false]) = some (v4, H4) := y1
  simp only [c_flow_Paths, C_ops, C_cond, D_ret, D_skip, normal_some, cond_ff, E_nil, E_cons, next_some, next_none, ev_tmp, ev_const, get_succ, get_zero, List.set_cons_succ, List.set_cons_zero, O_mv, O_bin, pairO, O_call, List.map_cons, List.map_nil, O_load1, load1_ptr, O_mkRow, mk_some, partsV_nil, partsV_cons, zeros_zero, zeros_succ, fill_nil, fill_slice, Nat.lt_add_one, B_neq, List.cons_append, List.nil_append, List.length_cons, List.length_nil, Nat.reduceAdd, Nat.reduceSub, Nat.zero_add, W_some, W_seq, Q_cont_normal, slc, O_alloc, O_box, O_extract, extract_tup, wrote_some, O_store1, store1_func, read1_skip, read1_skip0, read1_next, read1_there, pre_some, cons_some, write1_skip, write1_next, write1_there, fillU_zero, fillU_succ, List.append_assoc, List.length_append, List.append_nil, List.getElem?_cons_zero, List.getElem?_cons_succ, Q_retE, eq_self, box_some, laid_slice, Int.reduceBNe, hck, O_func, O_callv, callv_func, y1, ro]
  exact pl4.finish env4.pre (Pre.refl h)
end Go.Proofs.Ytoeoahpngmhkdaa.AM
