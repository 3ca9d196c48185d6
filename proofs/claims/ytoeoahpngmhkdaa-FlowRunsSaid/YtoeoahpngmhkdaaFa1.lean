/-
  The flow of a thread's code along a path: an instruction, a register's last giver.
  Conditions: the path's places lie in the code; lengths below 2^62.
-/
import Derived.Test.YtoeoahpngmhkdaaUa6
namespace Go.Proofs.Ytoeoahpngmhkdaa.AM
open Go.RowKit
set_option linter.unusedSimpArgs false
set_option linter.unusedVariables false

/-- A slice of whole numbers. -/
def intR (e : Int) : List Value := [.int .i64 e]
def IntS (h : Heap) (s : Value) (l : List Int) : Prop := Sl h s 1 (l.map intR)
section
variable {h : Heap} {s : Value} {l : List Int}
theorem IntS.len (e : IntS h s l) (H : Heap) : lenO H s = some (.int .i64 l.length, H) := by
  have := Sl.len e H
  rwa [List.length_map] at this
theorem IntS.at (e : IntS h s l) {k : Nat} (hk : k < l.length) : ∃ b o v, (∀ H, rowO H 1 s (.int .i64 (k : Int)) = some (.pointer (some ⟨b, o, some v⟩), H)) ∧ (∀ L, Heap.read1 (h ++ L) ⟨b, o, some v⟩ = some (.int .i64 l[k])) ∧ Heap.read1 h ⟨b, o, some v⟩ = some (.int .i64 l[k]) := by
  obtain ⟨b, o, v, h1, h2⟩ := Sl.at e (k := k) (by rw [List.length_map]; exact hk)
  have h3 : ∀ L, Heap.read1 (h ++ L) ⟨b, o, some v⟩ = some (.int .i64 l[k]) := fun L => read1_of0 (h2 L) (by rw [List.getElem_map]; rfl)
  exact ⟨b, o, v, h1, h3, by have := h3 []; rwa [List.append_nil] at this⟩
theorem IntS.more (e : IntS h s l) (L : Heap) : IntS (h ++ L) s l := Sl.more e L
theorem IntS.pre {H : Heap} (e : IntS h s l) (p : Pre h H) : IntS H s l := Sl.pre e p
end
/-- The instructions on a path. -/
structure On (h : Heap) (c p : Value) (code : List Ins) (path : List Int) (ps : List Ins) : Prop where
  c : InsSl h c code
  p : IntS h p path
  n : path.length = ps.length
  inn : ∀ k (hk : k < ps.length), ∃ m : Nat, path[k]? = some (m : Int) ∧ code[m]? = some ps[k]
  lc : code.length < 4611686018427387904
  lp : ps.length < 4611686018427387904
theorem On.more {h : Heap} {c p : Value} {code : List Ins} {path : List Int} {ps : List Ins} (e : On h c p code path ps) (L : Heap) : On (h ++ L) c p code path ps := ⟨e.c.more L, e.p.more L, e.n, e.inn, e.lc, e.lp⟩
theorem On.len {h : Heap} {c p : Value} {code : List Ins} {path : List Int} {ps : List Ins} (e : On h c p code path ps) (H : Heap) : lenO H p = some (.int .i64 ps.length, H) := by rw [← e.n]; exact e.p.len H
/-- An instruction on the path, read. -/
theorem On.rd {h : Heap} {c p : Value} {code : List Ins} {path : List Int} {ps : List Ins} (e : On h c p code path ps) {k : Nat} (hk : k < ps.length) :
    ∃ (m : Nat) (b o v b' o' v' : Nat), m < code.length ∧ (∀ H, rowO H 1 p (.int .i64 (k : Int)) = some (.pointer (some ⟨b, o, some v⟩), H)) ∧ (∀ L, Heap.read1 (h ++ L) ⟨b, o, some v⟩ = some (.int .i64 m)) ∧ Heap.read1 h ⟨b, o, some v⟩ = some (.int .i64 m) ∧
      (∀ H, rowO H 17 c (.int .i64 (m : Int)) = some (.pointer (some ⟨b', o', some v'⟩), H)) ∧ (∀ L, Heap.read (h ++ L) ⟨b', o', some v'⟩ 17 = some (insL ps[k])) ∧ Heap.read h ⟨b', o', some v'⟩ 17 = some (insL ps[k]) := by
  obtain ⟨m, h1, h2⟩ := e.inn k hk
  obtain ⟨b, o, v, a1, a2, a3⟩ := e.p.at (k := k) (by rw [e.n]; exact hk)
  have hm : m < code.length := (List.getElem?_eq_some_iff.1 h2).1
  have e1 : path[k]'(by rw [e.n]; exact hk) = (m : Int) := by
    have := (List.getElem?_eq_some_iff.1 h1).2; exact this
  have e2 : code[m] = ps[k] := (List.getElem?_eq_some_iff.1 h2).2
  obtain ⟨b', o', v', d1, d2, d3⟩ := e.c.at hm
  rw [e1] at a3
  simp only [e1] at a2
  rw [e2] at d3
  simp only [e2] at d2
  exact ⟨m, b, o, v, b', o', v', hm, a1, a2, a3, d1, d2, d3⟩
def zeroI : Ins := ⟨0, 0, 0, 0, 0, 0, 0, 0, 0, 0, false, false, false, 0, 0, 0, false⟩
theorem flat_insB (i : Ins) (b : Bool) : flat (tup [agg (insL i), .bool b]) = true := rfl
section
variable {h : Heap} {c p : Value} {code : List Ins} {path : List Int} {ps : List Ins}
theorem flow_ins_in (e : On h c p code path ps) {k : Nat} (hk : k < ps.length) : DF FF n_flow_ins [c, p, .int .i64 (k : Int)] h = some (tup [agg (insL ps[k]), .bool true], h) := by
  obtain ⟨m, b, o, v, b', o', v', hm, a1, a2, a3, d1, d2, d3⟩ := e.rd hk
  suffices hh : ∃ v h', DF FF n_flow_ins [c, p, .int .i64 (k : Int)] h = some (v, h') ∧ (v = tup [agg (insL ps[k]), .bool true] ∧ h' = h) by
    obtain ⟨v, h', e, rfl, rfl⟩ := hh; exact e
  refine fun_wpE F_flow_ins ?_
  have c1 : ¬ ((k : Int) < 0) := by omega
  have c2 : ¬ ((ps.length : Int) ≤ (k : Int)) := by omega
  have c3 : ¬ ((m : Int) < 0) := by omega
  have c4 : ¬ ((code.length : Int) ≤ (m : Int)) := by omega
  simp only [c_flow_ins, C_ops, C_cond, D_ret, D_skip, normal_some, cond_ff, E_nil, E_cons, E_guard, next_some, next_none, guard_ff, ev_tmp, ev_const, get_succ, get_zero, List.set_cons_succ, List.set_cons_zero, O_mv, O_pick, pickO, O_bin, pairO, O_len, O_atRow, O_load1, load1_ptr, O_load, load_ptr, B_lss, B_geq, List.cons_append, List.nil_append, List.length_cons, List.length_nil, Nat.reduceAdd, Nat.reduceSub, Nat.zero_add, W_some, W_seq, Q_cont_normal, O_alloc, wrote_some, O_store, store_agg, read_skip0, read_there, pre_some, write_skip0, write_there, fillU_zero, fillU_succ, Option.map_some, Q_retEct, cellsTE_ptr, outTE_some, eq_self, e.len, e.c.len, a1, a2, d1, d2, c1, c2, c3, c4, decide_false, insL_len, List.replicate_succ, List.replicate_zero]
  exact ⟨trivial, finish_flat _ _ (flat_insB _ _)⟩
theorem flow_ins_out (e : On h c p code path ps) {k : Int} (hk : k < 0 ∨ (ps.length : Int) ≤ k) : DF FF n_flow_ins [c, p, .int .i64 k] h = some (tup [agg (insL zeroI), .bool false], h) := by
  suffices hh : ∃ v h', DF FF n_flow_ins [c, p, .int .i64 k] h = some (v, h') ∧ (v = tup [agg (insL zeroI), .bool false] ∧ h' = h) by
    obtain ⟨v, h', e, rfl, rfl⟩ := hh; exact e
  refine fun_wpE F_flow_ins ?_
  by_cases c1 : k < 0
  · simp only [c_flow_ins, C_ops, C_cond, D_ret, normal_some, cond_tt, E_nil, E_cons, E_guard, next_some, next_none, guard_ft, ev_tmp, ev_const, get_succ, get_zero, List.set_cons_succ, List.set_cons_zero, O_mv, O_pick, pickO, O_bin, pairO, O_build, build_some, partsV_nil, fill_nil, B_lss, List.cons_append, List.nil_append, List.length_cons, List.length_nil, Nat.reduceAdd, Nat.reduceSub, Nat.zero_add, W_some, W_seq, Q_cont_normal, Q_cont_ret, O_alloc, wrote_some, O_store, store_agg, read_skip0, read_there, pre_some, write_skip0, write_there, fillU_zero, fillU_succ, Q_retEct, cellsTE_ptr, outTE_some, eq_self, c1, decide_true, List.replicate_succ, List.replicate_zero]
    exact ⟨rfl, finish_flat _ _ rfl⟩
  · have c2 : (ps.length : Int) ≤ k := by omega
    simp only [c_flow_ins, C_ops, C_cond, D_ret, normal_some, cond_tt, E_nil, E_cons, E_guard, next_some, next_none, guard_ff, guard_ft, ev_tmp, ev_const, get_succ, get_zero, List.set_cons_succ, List.set_cons_zero, O_mv, O_pick, pickO, O_bin, pairO, O_len, O_build, build_some, partsV_nil, fill_nil, B_lss, B_geq, List.cons_append, List.nil_append, List.length_cons, List.length_nil, Nat.reduceAdd, Nat.reduceSub, Nat.zero_add, W_some, W_seq, Q_cont_normal, Q_cont_ret, O_alloc, wrote_some, O_store, store_agg, read_skip0, read_there, pre_some, write_skip0, write_there, fillU_zero, fillU_succ, Q_retEct, cellsTE_ptr, outTE_some, eq_self, e.len, c1, c2, decide_true, decide_false, List.replicate_succ, List.replicate_zero]
    exact ⟨rfl, finish_flat _ _ rfl⟩
end
/-- The last before k that gives r. -/
def defV (ps : List Ins) (r : Int) : Nat → Int
  | 0 => -1
  | k + 1 => match ps[k]? with
    | some i => if givesV i = r then (k : Int) else defV ps r k
    | none => defV ps r k
theorem defV_succ {ps : List Ins} (r : Int) {k : Nat} (hk : k < ps.length) : defV ps r (k + 1) = if givesV ps[k] = r then (k : Int) else defV ps r k := by
  show (match ps[k]? with
    | some i => if givesV i = r then (k : Int) else defV ps r k
    | none => defV ps r k) = _
  rw [List.getElem?_eq_getElem hk]
def cap (ps : List Ins) (place : Int) : Nat := min place.toNat ps.length
def defP (ps : List Ins) (place r : Int) : Int := if r < 0 then -1 else defV ps r (cap ps place)
theorem defV_lt (ps : List Ins) (r : Int) : ∀ k : Nat, -1 ≤ defV ps r k ∧ defV ps r k < k ∧ defV ps r k < ps.length
  | 0 => by simp [defV]; omega
  | k + 1 => by
    have := defV_lt ps r k
    unfold defV
    cases hi : ps[k]? with
    | none => simp only; omega
    | some i =>
      have := (List.getElem?_eq_some_iff.1 hi).1
      simp only; split <;> omega
theorem defP_cases (ps : List Ins) (place r : Int) : defP ps place r = -1 ∨ ∃ d : Nat, defP ps place r = (d : Int) ∧ d < ps.length ∧ (d : Int) < place := by
  unfold defP
  split
  · exact .inl rfl
  · have := defV_lt ps r (cap ps place)
    unfold cap at this ⊢
    by_cases hn : defV ps r (min place.toNat ps.length) = -1
    · exact .inl hn
    · exact .inr ⟨(defV ps r (min place.toNat ps.length)).toNat, by omega, by omega, by omega⟩
section
variable {h : Heap} {c p : Value} {code : List Ins} {path : List Int} {ps : List Ins}
theorem flow_Def_c (e : On h c p code path ps) (place r : Int) : DF FF n_flow_Def [c, p, .int .i64 place, .int .i64 r] h = some (.int .i64 (defP ps place r), h) := by
  refine fun_wpU F_flow_Def ?_
  have hl := e.lp
  have e1 : (if 0 < (if (ps.length : Int) < place then (ps.length : Int) else place) then (if (ps.length : Int) < place then (ps.length : Int) else place) else 0) = ((cap ps place : Nat) : Int) := by
    unfold cap; split <;> split <;> omega
  have hcap : cap ps place ≤ ps.length := Nat.min_le_right _ _
  have hw : IntKind.i64.wrap (((cap ps place : Nat) : Int) - 1) = ((cap ps place : Nat) : Int) - 1 := wrapS (by omega)
  simp only [c_flow_Def, C_ops, normal_some, E_nil, E_cons, next_some, ev_tmp, ev_const, get_succ, get_zero, List.set_cons_succ, List.set_cons_zero, O_mv, O_bin, pairO, O_len, B_sub, List.cons_append, List.nil_append, List.length_cons, List.length_nil, Nat.reduceAdd, Nat.reduceSub, Nat.zero_add, W_some, W_seq, W_block, Q_cont_normal, fillU_zero, fillU_succ, List.append_assoc, O_max2, max_int, O_min2, min_int, e.len, e1, hw]
  by_cases hr : r < 0
  · have hr' : ¬ (0 ≤ r) := by omega
    have ep : defP ps place r = -1 := by unfold defP; rw [if_pos hr]
    rw [ep]
    refine for_wp 0 (fun k st => ∃ j : Nat → Value, st = ⟨[c, p, j 2, .int .i64 r, j 4, j 5, j 6, j 7, j 8, .int .i64 (((cap ps place : Nat) : Int) - 1), j 10, j 11, j 12, j 13, j 14, j 15, j 16, j 17, j 18, j 19, j 20, j 21, j 22, j 23, j 24, j 25, j 26, j 27, j 28, j 29, j 30, j 31, j 32, j 33, j 34, j 35, j 36, j 37, j 38, j 39, j 40], h⟩) ?_ ?_ _ ?_
    · intro k st hk; omega
    · rintro st ⟨j, rfl⟩
      by_cases h0 : (0 : Int) ≤ ((cap ps place : Nat) : Int) - 1
      · simp only [C_ops, C_cond, D_exit, D_ret, normal_some, cond_ff, E_nil, E_cons, E_guard, next_some, guard_tt, ev_tmp, ev_const, get_succ, get_zero, List.set_cons_succ, List.set_cons_zero, O_mv, O_pick, pickO, O_bin, pairO, B_geq, W_some, W_seq, Q_cont_normal, Q_cont_exit, Q_block_exit, Q_ret, eq_self, Q_for_exit, h0, hr', decide_true, decide_false]
      · simp only [C_ops, C_cond, D_exit, D_ret, normal_some, cond_ff, E_nil, E_cons, E_guard, next_some, guard_tf, ev_tmp, ev_const, get_succ, get_zero, List.set_cons_succ, List.set_cons_zero, O_mv, O_pick, pickO, O_bin, pairO, B_geq, W_some, W_seq, Q_cont_normal, Q_cont_exit, Q_block_exit, Q_ret, eq_self, Q_for_exit, h0, decide_false]
    · exact junk rfl
  · have hr' : 0 ≤ r := by omega
    have ep : defP ps place r = defV ps r (cap ps place) := by unfold defP; rw [if_neg hr]
    rw [ep]
    refine for_wp (cap ps place) (fun k st => (defV ps r (cap ps place - k) = defV ps r (cap ps place)) ∧ ∃ (J : Heap) (j : Nat → Value), st = ⟨[c, p, j 2, .int .i64 r, j 4, j 5, j 6, j 7, j 8, .int .i64 (((cap ps place : Nat) : Int) - 1 - (k : Int)), j 10, j 11, j 12, j 13, j 14, j 15, j 16, j 17, j 18, j 19, j 20, j 21, j 22, j 23, j 24, j 25, j 26, j 27, j 28, j 29, j 30, j 31, j 32, j 33, j 34, j 35, j 36, j 37, j 38, j 39, j 40], h ++ J⟩) ?_ ?_ _ ?_
    · rintro k st hk ⟨hd, J, j, rfl⟩
      obtain ⟨q, hq⟩ : ∃ q : Nat, cap ps place - k = q + 1 := ⟨cap ps place - k - 1, by omega⟩
      have hq1 : ((cap ps place : Nat) : Int) - 1 - (k : Int) = (q : Int) := by omega
      have hq2 : q < ps.length := by omega
      have h0 : (0 : Int) ≤ (q : Int) := by omega
      rw [hq, defV_succ r hq2] at hd
      have hw2 : IntKind.i64.wrap ((q : Int) - 1) = (q : Int) - 1 := wrapS (by omega)
      by_cases hg : givesV ps[q] = r
      · rw [if_pos hg] at hd
        have hg' : (givesV ps[q] == r) = true := by simp [hg]
        simp only [C_ops, C_cond, D_ret, D_skip, normal_some, cond_tt, E_nil, E_cons, E_guard, next_some, next_none, guard_tt, ev_tmp, ev_const, get_succ, get_zero, List.set_cons_succ, List.set_cons_zero, O_mv, O_pick, pickO, O_bin, pairO, O_call, List.map_cons, List.map_nil, O_load, load_ptr, B_eql, B_geq, List.cons_append, List.nil_append, List.length_cons, List.length_nil, Nat.reduceAdd, Nat.zero_add, W_some, W_seq, W_block, Q_cont_normal, Q_cont_ret, Q_block_ret, O_alloc, O_extract, extract_tup, wrote_some, O_store, store_agg, read_skip, read_skip0, read_there, pre_some, write_skip, write_skip0, write_there, List.append_assoc, List.length_append, Option.map_some, List.getElem?_cons_zero, List.getElem?_cons_succ, eq_self, Q_for_ret, hq1, h0, hr', decide_true, flow_ins_in (e.more J) hq2, insL_len, List.replicate_succ, List.replicate_zero, uir_Gives_c, hg', ← hd]
        rw [Q_more _ _ _ _ _ rfl]; rfl
      · rw [if_neg hg] at hd
        have hg' : (givesV ps[q] == r) = false := by simp [hg]
        simp only [C_ops, C_cond, D_skip, normal_some, cond_tt, cond_ff, E_nil, E_cons, E_guard, next_some, next_none, guard_tt, ev_tmp, ev_const, get_succ, get_zero, List.set_cons_succ, List.set_cons_zero, O_mv, O_pick, pickO, O_bin, pairO, O_call, List.map_cons, List.map_nil, O_load, load_ptr, B_sub, B_eql, B_geq, List.cons_append, List.nil_append, List.length_cons, List.length_nil, Nat.reduceAdd, Nat.zero_add, W_some, W_seq, W_block, Q_cont_normal, Q_block_normal, O_alloc, O_extract, extract_tup, wrote_some, O_store, store_agg, read_skip, read_skip0, read_there, pre_some, write_skip, write_skip0, write_there, List.append_assoc, List.length_append, Option.map_some, List.getElem?_cons_zero, List.getElem?_cons_succ, eq_self, Q_for_normal, hq1, h0, hr', decide_true, flow_ins_in (e.more J) hq2, insL_len, List.replicate_succ, List.replicate_zero, uir_Gives_c, hg', hw2]
        refine ⟨by rw [← hd]; congr 1; omega, ?_⟩
        have : (q : Int) - 1 = ((cap ps place : Nat) : Int) - 1 - ((k + 1 : Nat) : Int) := by omega
        rw [this]
        exact ⟨_, junk rfl⟩
    · rintro st ⟨hd, J, j, rfl⟩
      have h0 : ¬ (0 : Int) ≤ ((cap ps place : Nat) : Int) - 1 - ((cap ps place : Nat) : Int) := by omega
      rw [Nat.sub_self] at hd
      have hd' : defV ps r (cap ps place) = -1 := by rw [← hd]; rfl
      simp only [C_ops, C_cond, D_exit, D_ret, normal_some, cond_ff, E_nil, E_cons, E_guard, next_some, guard_tf, ev_tmp, ev_const, get_succ, get_zero, List.set_cons_succ, List.set_cons_zero, O_mv, O_pick, pickO, O_bin, pairO, B_geq, W_some, W_seq, Q_cont_normal, Q_cont_exit, Q_block_exit, Q_for_exit, h0, decide_false, hd']
      rw [Q_more _ _ _ _ _ rfl]; rfl
    · refine ⟨rfl, [], ?_⟩
      have : ((cap ps place : Nat) : Int) - 1 - ((0 : Nat) : Int) = ((cap ps place : Nat) : Int) - 1 := by omega
      rw [this]
      exact junkh rfl (by simp)
theorem ref_Def_c (e : On h c p code path ps) (place r : Int) : DF FF n_belatedref10_Def [c, p, .int .i64 place, .int .i64 r] h = some (.int .i64 (defP ps place r), h) := by
  refine fun_wpU F_belatedref10_Def ?_
  have hl := e.lp
  have e1 : (if (ps.length : Int) < (if place < 0 then 0 else place) then (ps.length : Int) else (if place < 0 then 0 else place)) = ((cap ps place : Nat) : Int) := by
    unfold cap; split <;> split <;> omega
  have hcap : cap ps place ≤ ps.length := Nat.min_le_right _ _
  have hw : IntKind.i64.wrap (((cap ps place : Nat) : Int) - 1) = ((cap ps place : Nat) : Int) - 1 := wrapS (by omega)
  simp only [c_belatedref10_Def, C_ops, normal_some, E_nil, E_cons, next_some, ev_tmp, ev_const, get_succ, get_zero, List.set_cons_succ, List.set_cons_zero, O_mv, O_bin, pairO, O_len, B_sub, List.cons_append, List.nil_append, List.length_cons, List.length_nil, Nat.reduceAdd, Nat.reduceSub, Nat.zero_add, W_some, W_seq, W_block, Q_cont_normal, fillU_zero, fillU_succ, O_max2, max_int, O_min2, min_int, e.len, e1, hw]
  by_cases hr : r < 0
  · have hr' : ¬ (0 ≤ r) := by omega
    have ep : defP ps place r = -1 := by unfold defP; rw [if_pos hr]
    rw [ep]
    refine for_wp 0 (fun k st => ∃ j : Nat → Value, st = ⟨[c, p, j 2, .int .i64 r, j 4, j 5, j 6, j 7, j 8, .int .i64 (((cap ps place : Nat) : Int) - 1), j 10, j 11, j 12, j 13, j 14, j 15, j 16, j 17, j 18, j 19, j 20, j 21, j 22, j 23, j 24, j 25, j 26, j 27, j 28, j 29, j 30, j 31, j 32, j 33, j 34], h⟩) ?_ ?_ _ ?_
    · intro k st hk; omega
    · rintro st ⟨j, rfl⟩
      by_cases h0 : (0 : Int) ≤ ((cap ps place : Nat) : Int) - 1
      · simp only [C_ops, C_cond, D_exit, D_ret, normal_some, cond_ff, E_nil, E_cons, E_guard, next_some, guard_tt, ev_tmp, ev_const, get_succ, get_zero, List.set_cons_succ, List.set_cons_zero, O_mv, O_pick, pickO, O_bin, pairO, B_geq, W_some, W_seq, Q_cont_normal, Q_cont_exit, Q_block_exit, Q_ret, eq_self, Q_for_exit, h0, hr', decide_true, decide_false]
      · simp only [C_ops, C_cond, D_exit, D_ret, normal_some, cond_ff, E_nil, E_cons, E_guard, next_some, guard_tf, ev_tmp, ev_const, get_succ, get_zero, List.set_cons_succ, List.set_cons_zero, O_mv, O_pick, pickO, O_bin, pairO, B_geq, W_some, W_seq, Q_cont_normal, Q_cont_exit, Q_block_exit, Q_ret, eq_self, Q_for_exit, h0, decide_false]
    · exact junk rfl
  · have hr' : 0 ≤ r := by omega
    have ep : defP ps place r = defV ps r (cap ps place) := by unfold defP; rw [if_neg hr]
    rw [ep]
    refine for_wp (cap ps place) (fun k st => (defV ps r (cap ps place - k) = defV ps r (cap ps place)) ∧ ∃ (j : Nat → Value), st = ⟨[c, p, j 2, .int .i64 r, j 4, j 5, j 6, j 7, j 8, .int .i64 (((cap ps place : Nat) : Int) - 1 - (k : Int)), j 10, j 11, j 12, j 13, j 14, j 15, j 16, j 17, j 18, j 19, j 20, j 21, j 22, j 23, j 24, j 25, j 26, j 27, j 28, j 29, j 30, j 31, j 32, j 33, j 34], h⟩) ?_ ?_ _ ?_
    · rintro k st hk ⟨hd, j, rfl⟩
      obtain ⟨q, hq⟩ : ∃ q : Nat, cap ps place - k = q + 1 := ⟨cap ps place - k - 1, by omega⟩
      have hq1 : ((cap ps place : Nat) : Int) - 1 - (k : Int) = (q : Int) := by omega
      have hq2 : q < ps.length := by omega
      have h0 : (0 : Int) ≤ (q : Int) := by omega
      rw [hq, defV_succ r hq2] at hd
      have hw2 : IntKind.i64.wrap ((q : Int) - 1) = (q : Int) - 1 := wrapS (by omega)
      obtain ⟨m, b, o, v, b', o', v', hm, a1, a2, a3, d1, d2, d3⟩ := e.rd hq2
      by_cases hg : givesV ps[q] = r
      · rw [if_pos hg] at hd
        have hg' : (givesV ps[q] == r) = true := by simp [hg]
        simp only [C_ops, C_cond, D_ret, D_skip, normal_some, cond_tt, E_nil, E_cons, E_guard, next_some, guard_tt, ev_tmp, ev_const, get_succ, get_zero, List.set_cons_succ, List.set_cons_zero, O_mv, O_pick, pickO, O_bin, pairO, O_call, List.map_cons, List.map_nil, O_atRow, O_load1, load1_ptr, O_load, load_ptr, B_eql, B_geq, W_some, W_seq, W_block, Q_cont_normal, Q_cont_ret, Q_block_ret, Q_ret, Option.map_some, eq_self, Q_for_ret, hq1, h0, hr', decide_true, a1, a3, d1, d3, ref_Gives_c, hg', ← hd]
      · rw [if_neg hg] at hd
        have hg' : (givesV ps[q] == r) = false := by simp [hg]
        simp only [C_ops, C_cond, D_skip, normal_some, cond_tt, cond_ff, E_nil, E_cons, E_guard, next_some, guard_tt, ev_tmp, ev_const, get_succ, get_zero, List.set_cons_succ, List.set_cons_zero, O_mv, O_pick, pickO, O_bin, pairO, O_call, List.map_cons, List.map_nil, O_atRow, O_load1, load1_ptr, O_load, load_ptr, B_sub, B_eql, B_geq, W_some, W_seq, W_block, Q_cont_normal, Q_block_normal, Option.map_some, Q_for_normal, hq1, h0, hr', decide_true, a1, a3, d1, d3, ref_Gives_c, hg', hw2]
        refine ⟨by rw [← hd]; congr 1; omega, ?_⟩
        have : (q : Int) - 1 = ((cap ps place : Nat) : Int) - 1 - ((k + 1 : Nat) : Int) := by omega
        rw [this]
        exact junk rfl
    · rintro st ⟨hd, j, rfl⟩
      have h0 : ¬ (0 : Int) ≤ ((cap ps place : Nat) : Int) - 1 - ((cap ps place : Nat) : Int) := by omega
      rw [Nat.sub_self] at hd
      have hd' : defV ps r (cap ps place) = -1 := by rw [← hd]; rfl
      simp only [C_ops, C_cond, D_exit, D_ret, normal_some, cond_ff, E_nil, E_cons, E_guard, next_some, guard_tf, ev_tmp, ev_const, get_succ, get_zero, List.set_cons_succ, List.set_cons_zero, O_mv, O_pick, pickO, O_bin, pairO, B_geq, W_some, W_seq, Q_cont_normal, Q_cont_exit, Q_block_exit, Q_ret, eq_self, Q_for_exit, h0, decide_false, hd']
    · refine ⟨rfl, ?_⟩
      have : ((cap ps place : Nat) : Int) - 1 - ((0 : Nat) : Int) = ((cap ps place : Nat) : Int) - 1 := by omega
      rw [this]
      exact junk rfl
end
end Go.Proofs.Ytoeoahpngmhkdaa.AM
