/-
  Codes: the first rule that they break: both ways.
  Conditions: each is shorter than 2^62.
-/
import Derived.Test.YtjodnadlplicmaaUa4
namespace Go.Proofs.Ytjodnadlplicmaa.AM
open Go.RowKit
set_option linter.unusedSimpArgs false
set_option linter.unusedVariables false

theorem find_first {p : Nat → Bool} {k n : Nat} (h : ∀ t, t < k → p t = false) (hk : p k = true) (hn : k < n) : (List.range n).find? p = some k := by
  have e : List.range n = List.range k ++ (List.range (n - k)).map (k + ·) := by rw [← List.range_add]; congr 1; omega
  rw [e, List.find?_append]
  have h1 : (List.range k).find? p = none := by
    rw [List.find?_eq_none]; intro x hx; rw [h x (by simpa using hx)]; simp
  rw [h1]
  have : n - k = (n - k - 1) + 1 := by omega
  rw [this, List.range_succ_eq_map]
  simp [hk]
theorem find_none {p : Nat → Bool} {n : Nat} (h : ∀ t, t < n → p t = false) : (List.range n).find? p = none := by
  rw [List.find?_eq_none]; intro x hx; rw [h x (by simpa using hx)]; simp
theorem findSome_first {α : Type} {f : Nat → Option α} {k n : Nat} {v : α} (h : ∀ t, t < k → f t = none) (hk : f k = some v) (hn : k < n) : (List.range n).findSome? f = some v := by
  have e : List.range n = List.range k ++ (List.range (n - k)).map (k + ·) := by rw [← List.range_add]; congr 1; omega
  rw [e, List.findSome?_append]
  have h1 : (List.range k).findSome? f = none := by
    rw [List.findSome?_eq_none_iff]; intro x hx; exact h x (by simpa using hx)
  rw [h1]
  have : n - k = (n - k - 1) + 1 := by omega
  rw [this, List.range_succ_eq_map]
  simp [hk]
theorem findSome_none {α : Type} {f : Nat → Option α} {n : Nat} (h : ∀ t, t < n → f t = none) : (List.range n).findSome? f = none := by
  rw [List.findSome?_eq_none_iff]; intro x hx; exact h x (by simpa using hx)

/-- A slice of codes. -/
def Codes (h : Heap) (s : Value) (codes : List (List Ins)) : Prop :=
  ∃ vs : List Value, Sl h s 1 (vs.map fun v => [v]) ∧ vs.length = codes.length ∧ ∀ (k : Nat) v c, vs[k]? = some v → codes[k]? = some c → InsSl h v c
section
variable {h : Heap} {s : Value} {codes : List (List Ins)}
theorem Codes.len (e : Codes h s codes) (H : Heap) : lenO H s = some (.int .i64 codes.length, H) := by
  obtain ⟨vs, h1, h2, _⟩ := e
  have := Sl.len h1 H
  rwa [List.length_map, h2] at this
theorem Codes.at (e : Codes h s codes) {k : Nat} (hk : k < codes.length) : ∃ b o v w, (∀ H, rowO H 1 s (.int .i64 (k : Int)) = some (.pointer (some ⟨b, o, some v⟩), H)) ∧ (∀ L, Heap.read1 (h ++ L) ⟨b, o, some v⟩ = some w) ∧ Heap.read1 h ⟨b, o, some v⟩ = some w ∧ InsSl h w codes[k] := by
  obtain ⟨vs, h1, h2, h3⟩ := e
  obtain ⟨b, o, v, a1, a2⟩ := Sl.at h1 (k := k) (by rw [List.length_map]; omega)
  have hv : k < vs.length := by omega
  have a3 : ∀ L, Heap.read1 (h ++ L) ⟨b, o, some v⟩ = some vs[k] := fun L => read1_of0 (a2 L) (by rw [List.getElem_map]; rfl)
  exact ⟨b, o, v, vs[k], a1, a3, by have := a3 []; rwa [List.append_nil] at this, h3 k _ _ (List.getElem?_eq_getElem hv) (List.getElem?_eq_getElem hk)⟩
end
def longT (codes : List (List Ins)) : Option Nat := (List.range codes.length).find? fun t => match codes[t]? with | some c => decide (8 < c.length) | none => false
def badF (code : List Ins) (k : Nat) : Option (Nat × Int) := match code[k]? with | some i => if rightV i k code.length = 0 then none else some (k, rightV i k code.length) | none => none
def badC (code : List Ins) : Option (Nat × Int) := (List.range code.length).findSome? (badF code)
def badG (codes : List (List Ins)) (t : Nat) : Option (Nat × Nat × Int) := match codes[t]? with | some c => (badC c).map fun p => (t, p.1, p.2) | none => none
def badT (codes : List (List Ins)) : Option (Nat × Nat × Int) := (List.range codes.length).findSome? (badG codes)
def sumP (p : Ins → Bool) (codes : List (List Ins)) : Nat := (codes.map (countP p)).sum
theorem sumP_succ (p : Ins → Bool) (codes : List (List Ins)) {k : Nat} (hk : k < codes.length) : sumP p (codes.take (k + 1)) = sumP p (codes.take k) + countP p codes[k] := by
  unfold sumP; rw [List.take_succ_eq_append_getElem hk, List.map_append, List.sum_append]; simp
/-- The first rule that codes break, and where. -/
def checkV (codes : List (List Ins)) : Int × Int × Int :=
  if codes.length < 1 ∨ 3 < codes.length then (0, 0, 30) else
  match longT codes with
  | some t => ((t : Int), 0, 31)
  | none => match badT codes with
    | some (t, k, e) => ((t : Int), (k : Int), e)
    | none => if 6 < sumP memV codes then (0, 0, 32) else if 3 < sumP isBr codes then (0, 0, 33) else (0, 0, 0)
def tup3 (x : Int × Int × Int) : Value := tup [.int .i64 x.1, .int .i64 x.2.1, .int .i64 x.2.2]
theorem sumP_le {p : Ins → Bool} {codes : List (List Ins)} (k : Nat) (hk : k ≤ codes.length) (h : ∀ t (ht : t < codes.length), t < k → codes[t].length ≤ 8) : sumP p (codes.take k) ≤ 8 * k := by
  induction k with
  | zero => simp [sumP]
  | succ k ih =>
    rw [sumP_succ p codes (by omega)]
    have := ih (by omega) fun t ht hlt => h t ht (by omega)
    have := h k (by omega) (by omega)
    have := countP_le p codes[k]
    omega
set_option maxHeartbeats 1000000 in
theorem uir_Check_c (codes : List (List Ins)) (s : Value) (h : Heap) (hs : Codes h s codes) (hl : ∀ c ∈ codes, c.length < 4611686018427387904) (hn : codes.length < 4611686018427387904) : DF FF n_uir_Check [s] h = some (tup3 (checkV codes), h) := by
  refine fun_wpU F_uir_Check ?_
  by_cases h0 : codes.length < 1
  · have c0 : ((codes.length : Int) < 1) := by omega
    have e : checkV codes = (0, 0, 30) := by unfold checkV; rw [if_pos (.inl h0)]
    simp only [c_uir_Check, C_ops, C_cond, D_ret, normal_some, cond_tt, E_nil, E_cons, E_guard, next_some, guard_ft, ev_tmp, ev_const, get_succ, get_zero, List.set_cons_succ, List.set_cons_zero, O_mv, O_pick, pickO, O_bin, pairO, O_len, B_lss, List.cons_append, List.nil_append, List.length_cons, List.length_nil, Nat.reduceSub, Nat.zero_add, W_some, W_seq, Q_cont_normal, Q_cont_ret, fillU_zero, fillU_succ, List.append_assoc, Q_ret3Q, finish_same, eq_self, hs.len, c0, decide_true, e, tup3]
  · have c0 : ¬ ((codes.length : Int) < 1) := by omega
    by_cases h3 : 3 < codes.length
    · have c3 : ((3 : Int) < (codes.length : Int)) := by omega
      have e : checkV codes = (0, 0, 30) := by unfold checkV; rw [if_pos (.inr h3)]
      simp only [c_uir_Check, C_ops, C_cond, D_ret, normal_some, cond_tt, E_nil, E_cons, E_guard, next_some, guard_ff, ev_tmp, ev_const, get_succ, get_zero, List.set_cons_succ, List.set_cons_zero, O_mv, O_pick, pickO, O_bin, pairO, O_len, B_lss, B_gtr, List.cons_append, List.nil_append, List.length_cons, List.length_nil, Nat.reduceSub, Nat.zero_add, W_some, W_seq, Q_cont_normal, Q_cont_ret, fillU_zero, fillU_succ, List.append_assoc, Q_ret3Q, finish_same, eq_self, hs.len, c0, c3, decide_true, decide_false, e, tup3]
    · have c3 : ¬ ((3 : Int) < (codes.length : Int)) := by omega
      have hck : checkV codes = match longT codes with
        | some t => ((t : Int), 0, 31)
        | none => match badT codes with
          | some (t, k, e) => ((t : Int), (k : Int), e)
          | none => if 6 < sumP memV codes then (0, 0, 32) else if 3 < sumP isBr codes then (0, 0, 33) else (0, 0, 0) := by
        unfold checkV; rw [if_neg (by omega)]
      simp only [c_uir_Check, C_ops, C_cond, D_skip, normal_some, cond_ff, E_nil, E_cons, E_guard, next_some, guard_ff, ev_tmp, ev_const, get_succ, get_zero, List.set_cons_succ, List.set_cons_zero, O_mv, O_pick, pickO, O_bin, pairO, O_len, B_lss, B_gtr, List.cons_append, List.nil_append, List.length_cons, List.length_nil, Nat.reduceSub, Nat.zero_add, W_some, W_seq, W_block, Q_cont_normal, fillU_zero, fillU_succ, List.append_assoc, hs.len, c0, c3, decide_false]
      refine for_wp codes.length (fun k st => (∀ t (ht : t < codes.length), t < k → codes[t].length ≤ 8) ∧ ∃ j : Nat → Value, st = ⟨[s, j 1, j 2, j 3, j 4, .int .i64 (sumP memV (codes.take k) : Nat), .int .i64 (sumP isBr (codes.take k) : Nat), j 7, j 8, j 9, j 10, j 11, j 12, j 13, j 14, j 15, j 16, j 17, j 18, j 19, j 20, j 21, s, .int .i64 codes.length, .int .i64 k, j 25, j 26, j 27, j 28, j 29, j 30, j 31, j 32, j 33, j 34, j 35, j 36, j 37, j 38, j 39, j 40, j 41, j 42, j 43, j 44, j 45, j 46, j 47, j 48, j 49, j 50, j 51, j 52, j 53, j 54, j 55, j 56, j 57, j 58, j 59, j 60, j 61, j 62, j 63, j 64, j 65, j 66, j 67, j 68, j 69, j 70, j 71, j 72, j 73], h⟩) ?_ ?_ _ ?_
      · rintro k st hk ⟨hle, j, rfl⟩
        obtain ⟨b, o, v, w, a1, _, a3, a4⟩ := hs.at hk
        have h1 : (k : Int) < codes.length := by omega
        by_cases hlong : 8 < codes[k].length
        · have c8 : (8 : Int) < (codes[k].length : Int) := by omega
          have el : longT codes = some k := find_first (fun t ht => by
            rw [List.getElem?_eq_getElem (by omega)]
            have := hle t (by omega) ht
            simp; omega) (by rw [List.getElem?_eq_getElem hk]; simpa using hlong) hk
          rw [el] at hck
          simp only [C_ops, C_cond, D_ret, D_skip, normal_some, cond_tt, E_nil, E_cons, next_some, ev_tmp, ev_const, get_succ, get_zero, List.set_cons_succ, List.set_cons_zero, O_mv, O_bin, pairO, O_len, O_atRow, O_load1, load1_ptr, B_lss, B_gtr, W_some, W_seq, W_block, Q_cont_normal, Q_cont_ret, Q_block_ret, Q_ret3Q, finish_same, eq_self, Q_for_ret, h1, decide_true, a1, a3, a4.len, c8, hck, tup3]
        · have c8 : ¬ (8 : Int) < (codes[k].length : Int) := by omega
          have s1 := sumP_le (p := memV) k (by omega) hle
          have s2 := sumP_le (p := isBr) k (by omega) hle
          have s3 := countP_le memV codes[k]
          have s4 := countP_le isBr codes[k]
          have e1 : IntKind.i64.wrap ((sumP memV (codes.take k) : Int) + (countP memV codes[k] : Int)) = ((sumP memV (codes.take (k + 1)) : Nat) : Int) := by rw [wrapS (by omega), sumP_succ memV codes hk]; omega
          have e2 : IntKind.i64.wrap ((sumP isBr (codes.take k) : Int) + (countP isBr codes[k] : Int)) = ((sumP isBr (codes.take (k + 1)) : Nat) : Int) := by rw [wrapS (by omega), sumP_succ isBr codes hk]; omega
          simp only [C_ops, C_cond, D_skip, normal_some, cond_tt, cond_ff, E_nil, E_cons, next_some, ev_tmp, ev_const, get_succ, get_zero, List.set_cons_succ, List.set_cons_zero, O_mv, O_bin, pairO, O_call, List.map_cons, List.map_nil, O_len, O_atRow, O_load1, load1_ptr, B_add, B_lss, B_gtr, W_some, W_seq, W_block, Q_cont_normal, Q_block_normal, Q_for_normal, h1, decide_true, a1, a3, a4.len, c8, decide_false, uir_Ops_c codes[k] w h a4 (by omega), uir_Branches_c codes[k] w h a4 (by omega), e1, e2, wrap_nat (k := k) (by omega)]
          refine ⟨fun t ht hlt => ?_, junk rfl⟩
          by_cases htk : t = k
          · subst htk; omega
          · exact hle t ht (by omega)
      · rintro st ⟨hle, j, rfl⟩
        have h1 : ¬ ((codes.length : Nat) : Int) < codes.length := by omega
        have hle' : ∀ t (ht : t < codes.length), codes[t].length ≤ 8 := fun t ht => hle t ht ht
        have el : longT codes = none := find_none fun t ht => by
          rw [List.getElem?_eq_getElem ht]
          have := hle' t ht
          simp; omega
        rw [el] at hck
        simp only at hck
        simp only [C_ops, C_cond, D_exit, normal_some, cond_ff, E_nil, E_cons, next_some, ev_tmp, ev_const, get_succ, get_zero, List.set_cons_succ, List.set_cons_zero, O_mv, O_bin, pairO, O_len, B_lss, W_some, W_seq, W_block, Q_cont_normal, Q_cont_exit, Q_block_exit, Q_for_exit, h1, decide_false, List.take_length, hs.len]
        refine for_wp codes.length (fun k st => (∀ t, t < k → badG codes t = none) ∧ ∃ (J : Heap) (j : Nat → Value), st = ⟨[j 0, j 1, j 2, j 3, j 4, .int .i64 (sumP memV codes : Nat), .int .i64 (sumP isBr codes : Nat), j 7, j 8, j 9, j 10, j 11, j 12, j 13, j 14, j 15, j 16, j 17, j 18, j 19, j 20, j 21, j 22, j 23, j 24, j 25, j 26, j 27, j 28, j 29, j 30, j 31, j 32, j 33, j 34, j 35, j 36, j 37, j 38, j 39, j 40, j 41, s, .int .i64 codes.length, .int .i64 k, j 45, j 46, j 47, j 48, j 49, j 50, j 51, j 52, j 53, j 54, j 55, j 56, j 57, j 58, j 59, j 60, j 61, j 62, j 63, j 64, j 65, j 66, j 67, j 68, j 69, j 70, j 71, j 72, j 73], h ++ J⟩) ?_ ?_ _ ?_
        · rintro k st hk ⟨hno, J, j, rfl⟩
          obtain ⟨b, o, v, w, a1, a2, _, a4⟩ := hs.at hk
          have h1 : (k : Int) < codes.length := by omega
          simp only [C_ops, C_cond, D_skip, normal_some, cond_tt, E_nil, E_cons, next_some, ev_tmp, ev_const, get_succ, get_zero, List.set_cons_succ, List.set_cons_zero, O_mv, O_bin, pairO, O_len, O_atRow, O_load1, load1_ptr, B_lss, W_some, W_seq, W_block, Q_cont_normal, h1, decide_true, a1, a2, a4.len]
          refine for_wp codes[k].length (fun m st => (∀ t, t < m → badF codes[k] t = none) ∧ ∃ (J : Heap) (j : Nat → Value), st = ⟨[j 0, j 1, j 2, j 3, j 4, .int .i64 (sumP memV codes : Nat), .int .i64 (sumP isBr codes : Nat), j 7, j 8, .int .i64 k, w, j 11, j 12, j 13, j 14, j 15, j 16, j 17, j 18, j 19, j 20, j 21, j 22, j 23, j 24, j 25, j 26, j 27, j 28, j 29, j 30, j 31, j 32, j 33, j 34, j 35, j 36, j 37, j 38, j 39, j 40, j 41, s, .int .i64 codes.length, .int .i64 k, j 45, j 46, j 47, j 48, w, .int .i64 codes[k].length, .int .i64 m, j 52, j 53, j 54, j 55, j 56, j 57, j 58, j 59, j 60, j 61, j 62, j 63, j 64, j 65, j 66, j 67, j 68, j 69, j 70, j 71, j 72, j 73], h ++ J⟩) ?_ ?_ _ ?_
          · rintro m st hm ⟨hno2, J, j, rfl⟩
            obtain ⟨b', o', v', p1, p2, _⟩ := a4.at hm
            have h2 : (m : Int) < codes[k].length := by omega
            have hlen8 := hle' k hk
            have hbf : badF codes[k] m = if rightV codes[k][m] m codes[k].length = 0 then none else some (m, rightV codes[k][m] m codes[k].length) := by
              unfold badF; rw [List.getElem?_eq_getElem hm]
            by_cases hz : rightV codes[k][m] m codes[k].length = 0
            · have c1 : (rightV codes[k][m] m codes[k].length != 0) = false := by rw [hz]; rfl
              simp only [C_ops, C_cond, D_skip, normal_some, cond_tt, cond_ff, E_nil, E_cons, next_some, next_none, ev_tmp, ev_const, get_succ, get_zero, List.set_cons_succ, List.set_cons_zero, O_mv, O_bin, pairO, O_call, List.map_cons, List.map_nil, O_len, O_atRow, O_load, load_ptr, B_add, B_neq, B_lss, List.cons_append, List.nil_append, List.length_cons, List.length_nil, Nat.reduceAdd, Nat.zero_add, W_some, W_seq, W_block, Q_cont_normal, Q_block_normal, O_alloc, wrote_some, O_store, store_agg, read_skip, read_skip0, read_there, pre_some, write_skip, write_skip0, write_there, List.append_assoc, List.length_append, Option.map_some, eq_self, Q_for_normal, h2, decide_true, p1, p2, insL_len, List.replicate_succ, List.replicate_zero, a4.len, uir_Right_c, c1, wrap_nat (k := m) (by omega)]
              refine ⟨fun t ht => ?_, _, junk rfl⟩
              by_cases htm : t = m
              · subst htm; rw [hbf, if_pos hz]
              · exact hno2 t (by omega)
            · have c1 : (rightV codes[k][m] m codes[k].length != 0) = true := by simp [hz]
              have eb : badT codes = some (k, m, rightV codes[k][m] m codes[k].length) := by
                refine findSome_first (k := k) hno ?_ hk
                unfold badG
                rw [List.getElem?_eq_getElem hk]
                simp only
                have : badC codes[k] = some (m, rightV codes[k][m] m codes[k].length) := findSome_first hno2 (by rw [hbf, if_neg hz]) hm
                rw [this]; rfl
              rw [eb] at hck
              simp only [C_ops, C_cond, D_ret, D_skip, normal_some, cond_tt, E_nil, E_cons, next_some, next_none, ev_tmp, ev_const, get_succ, get_zero, List.set_cons_succ, List.set_cons_zero, O_mv, O_bin, pairO, O_call, List.map_cons, List.map_nil, O_len, O_atRow, O_load, load_ptr, B_neq, B_lss, List.cons_append, List.nil_append, List.length_cons, List.length_nil, Nat.reduceAdd, Nat.zero_add, W_some, W_seq, W_block, Q_cont_normal, Q_cont_ret, Q_block_ret, O_alloc, wrote_some, O_store, store_agg, read_skip, read_skip0, read_there, pre_some, write_skip, write_skip0, write_there, List.append_assoc, List.length_append, Option.map_some, Q_ret3Q, fin_int3, eq_self, Q_for_ret, h2, decide_true, p1, p2, insL_len, List.replicate_succ, List.replicate_zero, a4.len, uir_Right_c, c1, hck, tup3]
          · rintro st ⟨hno2, J, j, rfl⟩
            have h2 : ¬ ((codes[k].length : Nat) : Int) < codes[k].length := by omega
            simp only [C_ops, C_cond, D_exit, normal_some, cond_ff, E_nil, E_cons, next_some, ev_tmp, ev_const, get_succ, get_zero, List.set_cons_succ, List.set_cons_zero, O_mv, O_bin, pairO, B_add, B_lss, W_some, W_seq, Q_cont_normal, Q_cont_exit, Q_block_normal, Q_block_exit, Q_for_normal, Q_for_exit, h2, decide_false, wrap_nat (k := k) (by omega)]
            refine ⟨fun t ht => ?_, _, junk rfl⟩
            by_cases htk : t = k
            · subst htk
              unfold badG
              rw [List.getElem?_eq_getElem hk]
              have : badC codes[t] = none := findSome_none fun x hx => hno2 x hx
              simp only; rw [this]; rfl
            · exact hno t (by omega)
          · exact ⟨fun t ht => by omega, J, junk rfl⟩
        · rintro st ⟨hno, J, j, rfl⟩
          have h1 : ¬ ((codes.length : Nat) : Int) < codes.length := by omega
          have eb : badT codes = none := findSome_none hno
          rw [eb] at hck
          simp only at hck
          by_cases c6 : 6 < sumP memV codes
          · rw [if_pos c6] at hck
            have d6 : (6 : Int) < (sumP memV codes : Int) := by omega
            simp only [C_ops, C_cond, D_exit, D_ret, normal_some, cond_tt, cond_ff, E_nil, E_cons, next_some, ev_tmp, ev_const, get_succ, get_zero, List.set_cons_succ, List.set_cons_zero, O_mv, O_bin, pairO, B_lss, B_gtr, W_some, W_seq, W_block, Q_cont_normal, Q_cont_ret, Q_cont_exit, Q_block_ret, Q_block_exit, Q_ret3Q, fin_int3, eq_self, Q_for_exit, h1, decide_false, d6, decide_true, hck, tup3]
          · rw [if_neg c6] at hck
            have d6 : ¬ (6 : Int) < (sumP memV codes : Int) := by omega
            by_cases cb : 3 < sumP isBr codes
            · rw [if_pos cb] at hck
              have db : (3 : Int) < (sumP isBr codes : Int) := by omega
              simp only [C_ops, C_cond, D_exit, D_ret, normal_some, cond_tt, cond_ff, E_nil, E_cons, next_some, ev_tmp, ev_const, get_succ, get_zero, List.set_cons_succ, List.set_cons_zero, O_mv, O_bin, pairO, B_lss, B_gtr, W_some, W_seq, W_block, Q_cont_normal, Q_cont_ret, Q_cont_exit, Q_block_ret, Q_block_exit, Q_ret3Q, fin_int3, eq_self, Q_for_exit, h1, decide_false, d6, db, decide_true, hck, tup3]
            · rw [if_neg cb] at hck
              have db : ¬ (3 : Int) < (sumP isBr codes : Int) := by omega
              simp only [C_ops, C_cond, D_exit, D_ret, D_skip, normal_some, cond_ff, E_nil, E_cons, next_some, ev_tmp, ev_const, get_succ, get_zero, List.set_cons_succ, List.set_cons_zero, O_mv, O_bin, pairO, B_lss, B_gtr, W_some, W_seq, W_block, Q_cont_normal, Q_cont_exit, Q_block_normal, Q_block_exit, Q_ret3Q, fin_int3, eq_self, Q_for_exit, h1, decide_false, d6, db, hck, tup3]
        · exact ⟨fun t ht => by omega, [], junkh rfl (by simp)⟩
      · exact ⟨fun t ht hlt => by omega, junk rfl⟩
end Go.Proofs.Ytjodnadlplicmaa.AM
