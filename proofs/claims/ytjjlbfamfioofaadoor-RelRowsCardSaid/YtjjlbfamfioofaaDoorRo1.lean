/-
  Relations: the row in which one goes forward: what it comes to.
  Conditions: the table of the lowest bit lies where it was laid.
-/
import Derived.Test.YtjjlbfamfioofaaDoorRl1
namespace Go.Proofs.YtjjlbfamfioofaaDoor.AM
open Go.RowKit
set_option linter.unusedSimpArgs false
set_option linter.unusedVariables false

/-- The table of the lowest bits. -/
def tzN : List Nat := [0, 1, 28, 2, 29, 14, 24, 3, 30, 22, 20, 15, 25, 17, 4, 8, 31, 27, 13, 23, 21, 19, 16, 7, 26, 12, 18, 6, 11, 5, 10, 9]
def tzTab : List Value := tzN.map fun (n : Nat) => Value.int .u8 (n : Int)
def TzTab (h : Heap) : Prop := h[g_math_bits_deBruijn32tab]? = some (.cells tzTab 0 true)
instance tzTab_more (h L : Heap) [t : Nonempty (TzTab h)] : Nonempty (TzTab (h ++ L)) := by
  obtain ⟨t⟩ := t
  refine ⟨?_⟩
  unfold TzTab at *
  rw [List.getElem?_append_left (List.getElem?_eq_some_iff.1 t).1]; exact t
theorem tzTab_pre {h H : Heap} (p : Pre h H) [t : Nonempty (TzTab h)] : Nonempty (TzTab H) := by obtain ⟨L, rfl⟩ := p; infer_instance
/-- The lowest bit. -/
def tz (x : U) : Nat := ((List.range 32).find? fun i => x.getLsbD i).getD 32
theorem tz_spec {x : U} (hx : x ≠ 0#32) : tz x < 32 ∧ x.getLsbD (tz x) = true ∧ ∀ i, i < tz x → x.getLsbD i = false := by
  unfold tz
  cases h : (List.range 32).find? fun i => x.getLsbD i with
  | none =>
    exfalso
    apply hx
    refine u_ext fun i hi => ?_
    have := List.find?_eq_none.1 h i (by simpa using hi)
    simp only [Bool.not_eq_true] at this
    rw [this]; simp
  | some k =>
    simp only [Option.getD_some]
    have h1 := List.find?_some h
    have h2 := List.mem_of_find?_eq_some h
    refine ⟨by simpa using h2, h1, fun i hi => ?_⟩
    rw [List.find?_eq_some_iff_getElem] at h
    obtain ⟨_, n, hn, he, hlt⟩ := h
    rw [List.getElem_range] at he
    subst he
    have := hlt i hi
    rw [List.getElem_range] at this
    simpa using this
theorem tz_uniq {x : U} {k : Nat} (hk : k < 32) (h1 : x.getLsbD k = true) (h2 : ∀ i, i < k → x.getLsbD i = false) : tz x = k := by
  have hx : x ≠ 0#32 := by rintro rfl; simp at h1
  obtain ⟨a, b, c⟩ := tz_spec hx
  apply Classical.byContradiction
  intro hne
  rcases Nat.lt_or_gt_of_ne hne with h | h
  · rw [h2 _ h] at b; cases b
  · rw [c _ h] at h1; cases h1
theorem and_neg {x : U} (hx : x ≠ 0#32) : x &&& -x = 1#32 <<< tz x := by
  obtain ⟨a, b, c⟩ := tz_spec hx
  refine u_ext fun i hi => bool_iff.2 ?_
  rw [BitVec.getLsbD_and, u_one hi, BitVec.getLsbD_neg, Bool.and_eq_true, decide_eq_true_eq]
  constructor
  · rintro ⟨h1, h2⟩
    apply Classical.byContradiction
    intro hne
    rcases Nat.lt_or_gt_of_ne hne with h | h
    · rw [c _ h] at h1; cases h1
    · have : decide (∃ j, j < i ∧ x.getLsbD j = true) = true := by simp only [decide_eq_true_eq]; exact ⟨_, h, b⟩
      rw [this, h1] at h2; simp at h2; omega
  · intro h
    subst h
    have : decide (∃ j, j < tz x ∧ x.getLsbD j = true) = false := by
      simp only [decide_eq_false_iff_not]; rintro ⟨j, hj, h⟩; rw [c j hj] at h; cases h
    rw [this, b]; simp [hi]
theorem tz_atN : ∀ k, k < 32 → tzN[(((1#32 <<< k) * 125613361#32) >>> 27).toNat]? = some k := by decide +kernel
theorem tz_at (k : Nat) (hk : k < 32) : tzTab[(((1#32 <<< k) * 125613361#32) >>> 27).toNat]? = some (.int .u8 (k : Nat)) := by
  unfold tzTab; rw [List.getElem?_map, tz_atN k hk]; rfl
theorem u_neg (x : U) : IntKind.u32.wrap (0 - (x.toNat : Int)) = ((-x).toNat : Int) := by
  have := x.isLt
  simp [IntKind.wrap, IntKind.signed, IntKind.bits, BitVec.toNat_neg]
  omega
theorem wrap32 (n : Int) : IntKind.u32.wrap n = n % 4294967296 := by simp [IntKind.wrap, IntKind.signed, IntKind.bits]
theorem u_mul (x y : U) : IntKind.u32.wrap ((x.toNat : Int) * (y.toNat : Int)) = ((x * y).toNat : Int) := by
  rw [wrap32, BitVec.toNat_mul, ← Int.natCast_mul, show (2 : Nat) ^ 32 = 4294967296 from by decide]
  generalize x.toNat * y.toNat = p
  omega
theorem tz_c (x : U) (hx : x ≠ 0#32) (h : Heap) [t : Nonempty (TzTab h)] : DF FF n_math_bits_TrailingZeros32 [.int .u32 x.toNat] h = some (.int .i64 (tz x : Nat), h) := by
  refine fun_wpU F_math_bits_TrailingZeros32 ?_
  have e1 : (((x.toNat : Int) == 0) : Bool) = false := by rw [show (0 : Int) = ((0#32).toNat : Int) from rfl, u_eq]; simp [hx]
  have e2 : IntKind.u32.wrap (((x &&& -x).toNat : Int) * 125613361) = (((x &&& -x) * 125613361#32).toNat : Int) := u_mul _ 125613361#32
  obtain ⟨ht, _, _⟩ := tz_spec hx
  have e3 : ((((x &&& -x) * 125613361#32) >>> 27).toNat) < 32 := by
    rw [BitVec.toNat_ushiftRight, Nat.shiftRight_eq_div_pow]
    have := ((x &&& -x) * 125613361#32).isLt
    rw [show (2 : Nat) ^ 27 = 134217728 from by decide]
    omega
  have e4 : h.read1 ⟨g_math_bits_deBruijn32tab, (((x &&& -x) * 125613361#32) >>> 27).toNat, some 0⟩ = some (.int .u8 (tz x : Nat)) := by
    obtain ⟨t⟩ := t
    unfold TzTab at t
    unfold Heap.read1
    simp only [t, if_true]
    rw [and_neg hx]
    exact tz_at _ ht
  simp only [c_math_bits_TrailingZeros32, C_ops, C_cond, D_exit, D_ret, D_skip, normal_some, cond_tt, cond_ff, E_nil, E_cons, E_guard, next_some, next_none, guard_tt, guard_ff, guard_tf, guard_ft, guard_tu, ev_tmp, ev_const, ev_global, ev_func, get_succ, get_zero, List.set_cons_succ, List.set_cons_zero, O_mv, O_pick, pickO, O_bin, pairO, O_un, O_conv, convO, O_call, List.map_cons, List.map_nil, O_len, len_slice, O_atRow, O_load1, load1_ptr, O_load, load_ptr, O_mkRow, O_build, mk_some, build_some, partsV_nil, partsV_cons, zeros_zero, zeros_succ, fill_nil, fill_int, fill_bool, fill_slice, fill_string, Nat.lt_add_one, Nat.zero_lt_succ, Nat.reduceLT, Nat.zero_lt_one, B_add, B_sub, B_mul, B_band, B_bor, B_bxor, B_bandNot, B_eql, B_neq, B_lss, B_leq, B_gtr, B_geq, B_shl', B_shr', B_rem, B_quo, U_not, U_neg, List.cons_append, List.nil_append, List.length_cons, List.length_nil, Nat.reduceAdd, Nat.reduceSub, Nat.zero_add, end_ret, end_normal, Bool.false_or, Bool.or_false, Bool.true_or, Bool.or_true, Bool.not_true, Bool.not_false, Bool.true_and, Bool.and_true, Bool.false_and, Bool.and_false, W_some, W_seq, W_block, Q_cont_normal, Q_cont_ret, Q_cont_exit, Q_block_normal, Q_block_ret, Q_block_exit, Q_loop_normal, Q_loop_ret, Q_loop_exit, Q_ret, Q_ret', slc, O_append, O_slice, cut_to, cut_from, cut_all, cut_mid, Option.map_none, O_alloc, O_box, O_atArr, arr_some, O_off, off_ptr, O_field, O_field1, field1_agg, pair_some, O_extract, extract_tup, wrote_some, O_store1, store1_int, store1_bool, store1_string, store1_slice, store1_ptr, store1_func, store1_nilFunc, store1_map, O_store, store_agg, O_nilCheck, nilCheck_ptr, nilCheck_func, read1_skip, read1_skip0, read1_next, read1_there, read_skip, read_skip0, read_next, read_there, pre_some, cons_some, write1_skip, write1_skip0, write1_next, write1_there, write_skip, write_skip0, write_next, write_there, fillU_zero, fillU_succ, List.append_assoc, List.length_append, List.append_nil, rowOf_len, rowOf_get, rowOf_set, Int.toNat_natCast, Nat.mul_one, Nat.add_zero, Option.map_some, List.getElem?_cons_zero, List.getElem?_cons_succ, Q_out, O_idxStr, O_idxArr, idxArr_nat, O_max2, max_int, O_min2, min_int, Q_retE, Q_retE2, Q_retE3, Bool.bne_false, Bool.bne_true, beq_self_eq_true, Bool.true_beq, Bool.false_beq, O_eqv, eqv_bool, Int.reduceLE, Int.reduceLT, Int.reduceToNat, fill_rel1, fill_rel2, fill_rel3, Q_cellsE, cellsE_ptr, outE_rel, eq_self, arr_nat, row_nat, laid_agg, box_some, O_again, again_agg, O_again1, O_eqAgg, eq_rel, relV_len, relV_get, relV_mixput, relV_mixall, mix_zero, mix_at, rowOf_mixset, rowOf_mixall, relV_zero, Q_for_normal, Q_for_exit, Q_for_ret, u_or, u_and, u_andNot, u_shl, u_shl1, u_bit, u_eq, u_ne, e1, u_neg, e2, u_shr, ptr, e3, e4, wrapS (n := (tz x : Int)) (by omega)]

/-! One less. -/
theorem pop_drop (f : Nat → Bool) (e n : Nat) (he : e < n) (hf : f e = true) : pop (fun k => f k && !decide (k = e)) n + 1 = pop f n := by
  have h1 : n = e + (1 + (n - e - 1)) := by omega
  rw [h1, pop_add, pop_add, pop_add f, pop_add (fun k => f (e + k))]
  have a1 : pop (fun k => f k && !decide (k = e)) e = pop f e := pop_congr fun k hk => by simp; intro _; omega
  have a2 : pop (fun k => f (e + (1 + k)) && !decide (e + (1 + k) = e)) (n - e - 1) = pop (fun k => f (e + (1 + k))) (n - e - 1) := pop_congr fun k hk => by simp
  have a3 : pop (fun k => f (e + k) && !decide (e + k = e)) 1 = 0 := by simp [pop]
  have a4 : pop (fun k => f (e + k)) 1 = 1 := by simp [pop, hf]
  rw [a1, a2, a3, a4]; omega
theorem pop_lt {f g : Nat → Bool} {n : Nat} (h : ∀ k, k < n → f k = true → g k = true) {k : Nat} (hk : k < n) (h1 : g k = true) (h2 : f k = false) : pop f n < pop g n := by
  have le : ∀ m, m ≤ n → pop f m ≤ pop g m := by
    intro m
    induction m with
    | zero => intro _; exact Nat.le_refl _
    | succ m ih =>
      intro hm
      unfold pop
      have := ih (by omega)
      cases hf : f m
      · simp; omega
      · rw [h m (by omega) hf]; simp; omega
  have lt : ∀ m, k < m → m ≤ n → pop f m < pop g m := by
    intro m
    induction m with
    | zero => intro h; omega
    | succ m ih =>
      intro hm hmn
      unfold pop
      by_cases e : k = m
      · subst e
        rw [h1, h2]; have := le k (by omega); simp; omega
      · have := ih (by omega) (by omega)
        cases hf : f m
        · simp; omega
        · rw [h m (by omega) hf]; simp; omega
  exact lt n hk (Nat.le_refl _)
/-- Without an event. -/
def less (u : U) (e : Nat) : U := u &&& ~~~ (1#32 <<< e)
theorem less_bit (u : U) (e : Nat) {i : Nat} (hi : i < 32) : (less u e).getLsbD i = true ↔ u.getLsbD i = true ∧ i ≠ e := by
  unfold less; rw [BitVec.getLsbD_and, BitVec.getLsbD_not, u_one hi]; simp [hi]
theorem less_pop {u : U} {e : Nat} (he : e < 32) (h : u.getLsbD e = true) : popU (less u e) + 1 = popU u := by
  unfold popU
  rw [← pop_drop (fun k => u.getLsbD k) e 32 he h]
  congr 1
  refine pop_congr fun k hk => bool_iff.2 ?_
  rw [less_bit _ _ hk]; simp
/-- Those to which none leads. -/
def freeS (r : Nat → U) (u : U) : U := u &&& ~~~ nextS u r
theorem free_bit (r : Nat → U) (u : U) {i : Nat} (hi : i < 32) : (freeS r u).getLsbD i = true ↔ u.getLsbD i = true ∧ ∀ a, a < 32 → u.getLsbD a = true → ¬ Bt r a i := by
  unfold freeS
  rw [BitVec.getLsbD_and, BitVec.getLsbD_not, Bool.and_eq_true, Bool.and_eq_true, decide_eq_true_eq, Bool.not_eq_true']
  rw [← Bool.not_eq_true, next_bit]
  constructor
  · rintro ⟨h1, _, h2⟩
    exact ⟨h1, fun a ha hu hb => h2 ⟨a, ha, hu, hb⟩⟩
  · rintro ⟨h1, h2⟩
    exact ⟨h1, hi, fun ⟨a, ha, hu, hb⟩ => h2 a ha hu hb⟩
/-- The row, or none. -/
inductive Ord (r : Nat → U) : U → Option (List Nat) → Prop
  | done : Ord r 0#32 (some [])
  | stuck (u : U) (h : u ≠ 0#32) (hf : freeS r u = 0#32) : Ord r u none
  | step (u : U) (o : Option (List Nat)) (hf : freeS r u ≠ 0#32) (ho : Ord r (less u (tz (freeS r u))) o) : Ord r u (o.map (tz (freeS r u) :: ·))
theorem free_zero (r : Nat → U) : freeS r 0#32 = 0#32 := by unfold freeS; simp
theorem Ord.det {r : Nat → U} {u : U} {o : Option (List Nat)} (h : Ord r u o) : ∀ {p}, Ord r u p → o = p := by
  induction h with
  | done => intro p hp; cases hp with
    | done => rfl
    | stuck _ h _ => exact absurd rfl h
    | step _ _ hf _ => exact absurd (free_zero r) hf
  | stuck u h hf => intro p hp; cases hp with
    | done => exact absurd rfl h
    | stuck _ _ _ => rfl
    | step _ _ hf' _ => exact absurd hf hf'
  | step u o hf ho ih => intro p hp; cases hp with
    | done => exact absurd (free_zero r) hf
    | stuck _ _ hf' => exact absurd hf' hf
    | step _ o' _ ho' => rw [ih ho']
theorem Own.finish2 {h H : Heap} {s : Value} {c : Nat} {rows : List (List Value)} (e : Own h H s c rows) (p : Pre h H) (b : Bool) : Own h (AM.finish h (tup [s, .bool b]) H) s c rows ∧ Pre h (AM.finish h (tup [s, .bool b]) H) := by
  obtain ⟨L, rfl⟩ := p
  rcases finish_any h L (tup [s, .bool b]) with hf | ⟨hf, hfl⟩
  · rw [hf]; exact ⟨e, L, rfl⟩
  · rw [hf]
    rcases e with ⟨⟨rfl, rfl⟩ | ⟨b', ver, hb, rfl, ho⟩, hc⟩
    · exact ⟨⟨.inl ⟨rfl, rfl⟩, hc⟩, Pre.refl h⟩
    · simp [flat, tup, plain, plain1] at hfl
theorem rel_Order_c (u : U) (r : Nat → U) (h : Heap) [t : Nonempty (TzTab h)] : ∃ o v H, Ord r u o ∧ DF FF n_rel_Order [.int .u32 u.toNat, agg (relV r)] h = some (tup [v, .bool o.isSome], H) ∧ Own h H v 1 ((o.getD []).map natRow) ∧ Pre h H := by
  suffices hs : ∃ V H, DF FF n_rel_Order [.int .u32 u.toNat, agg (relV r)] h = some (V, H) ∧ ∃ o v, V = tup [v, .bool o.isSome] ∧ Ord r u o ∧ Own h H v 1 ((o.getD []).map natRow) ∧ Pre h H by
    obtain ⟨V, H, h1, o, v, rfl, h2, h3, h4⟩ := hs
    exact ⟨o, v, H, h2, h1, h3, h4⟩
  refine fun_wpE F_rel_Order ?_
  simp only [c_rel_Order, C_ops, C_cond, D_exit, D_ret, D_skip, normal_some, cond_tt, cond_ff, E_nil, E_cons, E_guard, next_some, next_none, guard_tt, guard_ff, guard_tf, guard_ft, guard_tu, ev_tmp, ev_const, ev_global, ev_func, get_succ, get_zero, List.set_cons_succ, List.set_cons_zero, O_mv, O_pick, pickO, O_bin, pairO, O_un, O_conv, convO, O_call, List.map_cons, List.map_nil, O_len, len_slice, O_atRow, O_load1, load1_ptr, O_load, load_ptr, O_mkRow, O_build, mk_some, build_some, partsV_nil, partsV_cons, zeros_zero, zeros_succ, fill_nil, fill_int, fill_bool, fill_slice, fill_string, Nat.lt_add_one, Nat.zero_lt_succ, Nat.reduceLT, Nat.zero_lt_one, B_add, B_sub, B_mul, B_band, B_bor, B_bxor, B_bandNot, B_eql, B_neq, B_lss, B_leq, B_gtr, B_geq, B_shl', B_shr', B_rem, B_quo, U_not, U_neg, List.cons_append, List.nil_append, List.length_cons, List.length_nil, Nat.reduceAdd, Nat.reduceSub, Nat.zero_add, end_ret, end_normal, Bool.false_or, Bool.or_false, Bool.true_or, Bool.or_true, Bool.not_true, Bool.not_false, Bool.true_and, Bool.and_true, Bool.false_and, Bool.and_false, W_some, W_seq, W_block, Q_cont_normal, Q_cont_ret, Q_cont_exit, Q_block_normal, Q_block_ret, Q_block_exit, Q_loop_normal, Q_loop_ret, Q_loop_exit, Q_ret, Q_ret', slc, O_append, O_slice, cut_to, cut_from, cut_all, cut_mid, Option.map_none, O_alloc, O_box, O_atArr, arr_some, O_off, off_ptr, O_field, O_field1, field1_agg, pair_some, O_extract, extract_tup, wrote_some, O_store1, store1_int, store1_bool, store1_string, store1_slice, store1_ptr, store1_func, store1_nilFunc, store1_map, O_store, store_agg, O_nilCheck, nilCheck_ptr, nilCheck_func, read1_skip, read1_skip0, read1_next, read1_there, read_skip, read_skip0, read_next, read_there, pre_some, cons_some, write1_skip, write1_skip0, write1_next, write1_there, write_skip, write_skip0, write_next, write_there, fillU_zero, fillU_succ, List.append_assoc, List.length_append, List.append_nil, rowOf_len, rowOf_get, rowOf_set, Int.toNat_natCast, Nat.mul_one, Nat.add_zero, Option.map_some, List.getElem?_cons_zero, List.getElem?_cons_succ, Q_out, O_idxStr, O_idxArr, idxArr_nat, O_max2, max_int, O_min2, min_int, Q_retE, Q_retE2, Q_retE3, Bool.bne_false, Bool.bne_true, beq_self_eq_true, Bool.true_beq, Bool.false_beq, O_eqv, eqv_bool, Int.reduceLE, Int.reduceLT, Int.reduceToNat, fill_rel1, fill_rel2, fill_rel3, Q_cellsE, cellsE_ptr, outE_rel, eq_self, arr_nat, row_nat, laid_agg, box_some, O_again, again_agg, O_again1, O_eqAgg, eq_rel, relV_len, relV_get, relV_mixput, relV_mixall, mix_zero, mix_at, rowOf_mixset, rowOf_mixall, relV_zero, Q_for_normal, Q_for_exit, Q_for_ret, u_or, u_and, u_andNot, u_shl, u_shl1, u_bit, u_eq, u_ne]
  obtain ⟨h1, hh1⟩ : ∃ h1, h1 = h ++ [AObj.cells (relV r) 0 false] := ⟨_, rfl⟩
  have hh : Pre h h1 := ⟨_, hh1⟩
  rw [← hh1]
  refine loop_wp (fun m st => ∃ (w : U) (ys : List Nat) (H : Heap) (v : Value), (popU w = m ∧ ys.length + m ≤ 32 ∧ (∀ o, Ord r w o → Ord r u (o.map (ys ++ ·))) ∧ Own h1 H v 1 (ys.map natRow) ∧ Pre h1 H) ∧ ∃ j : Nat → Value, st = ⟨[.int .u32 w.toNat, j 1, j 2, .pointer (some ⟨h.length, 0, some 0⟩), j 4, j 5, v, j 7, j 8, j 9, j 10, j 11, j 12, j 13, j 14, j 15, j 16, j 17, j 18, j 19, j 20, j 21, j 22, j 23, j 24, j 25, j 26, j 27, j 28, j 29, j 30], H⟩) ?_ (popU u) _ ?_
  · rintro m st ⟨w, ys, H, v, ⟨hm, hle, hord, ho, hp⟩, j, rfl⟩
    have hp0 : Pre h H := Pre.trans hh hp
    have hrd : Heap.read H ⟨h.length, 0, some 0⟩ 32 = some (relV r) := by obtain ⟨L, rfl⟩ := hp; subst hh1; simp only [C_ops, C_cond, D_exit, D_ret, D_skip, normal_some, cond_tt, cond_ff, E_nil, E_cons, E_guard, next_some, next_none, guard_tt, guard_ff, guard_tf, guard_ft, guard_tu, ev_tmp, ev_const, ev_global, ev_func, get_succ, get_zero, List.set_cons_succ, List.set_cons_zero, O_mv, O_pick, pickO, O_bin, pairO, O_un, O_conv, convO, O_call, List.map_cons, List.map_nil, O_len, len_slice, O_atRow, O_load1, load1_ptr, O_load, load_ptr, O_mkRow, O_build, mk_some, build_some, partsV_nil, partsV_cons, zeros_zero, zeros_succ, fill_nil, fill_int, fill_bool, fill_slice, fill_string, Nat.lt_add_one, Nat.zero_lt_succ, Nat.reduceLT, Nat.zero_lt_one, B_add, B_sub, B_mul, B_band, B_bor, B_bxor, B_bandNot, B_eql, B_neq, B_lss, B_leq, B_gtr, B_geq, B_shl', B_shr', B_rem, B_quo, U_not, U_neg, List.cons_append, List.nil_append, List.length_cons, List.length_nil, Nat.reduceAdd, Nat.reduceSub, Nat.zero_add, end_ret, end_normal, Bool.false_or, Bool.or_false, Bool.true_or, Bool.or_true, Bool.not_true, Bool.not_false, Bool.true_and, Bool.and_true, Bool.false_and, Bool.and_false, W_some, W_seq, W_block, Q_cont_normal, Q_cont_ret, Q_cont_exit, Q_block_normal, Q_block_ret, Q_block_exit, Q_loop_normal, Q_loop_ret, Q_loop_exit, Q_ret, Q_ret', slc, O_append, O_slice, cut_to, cut_from, cut_all, cut_mid, Option.map_none, O_alloc, O_box, O_atArr, arr_some, O_off, off_ptr, O_field, O_field1, field1_agg, pair_some, O_extract, extract_tup, wrote_some, O_store1, store1_int, store1_bool, store1_string, store1_slice, store1_ptr, store1_func, store1_nilFunc, store1_map, O_store, store_agg, O_nilCheck, nilCheck_ptr, nilCheck_func, read1_skip, read1_skip0, read1_next, read1_there, read_skip, read_skip0, read_next, read_there, pre_some, cons_some, write1_skip, write1_skip0, write1_next, write1_there, write_skip, write_skip0, write_next, write_there, fillU_zero, fillU_succ, List.append_assoc, List.length_append, List.append_nil, rowOf_len, rowOf_get, rowOf_set, Int.toNat_natCast, Nat.mul_one, Nat.add_zero, Option.map_some, List.getElem?_cons_zero, List.getElem?_cons_succ, Q_out, O_idxStr, O_idxArr, idxArr_nat, O_max2, max_int, O_min2, min_int, Q_retE, Q_retE2, Q_retE3, Bool.bne_false, Bool.bne_true, beq_self_eq_true, Bool.true_beq, Bool.false_beq, O_eqv, eqv_bool, Int.reduceLE, Int.reduceLT, Int.reduceToNat, fill_rel1, fill_rel2, fill_rel3, Q_cellsE, cellsE_ptr, outE_rel, eq_self, arr_nat, row_nat, laid_agg, box_some, O_again, again_agg, O_again1, O_eqAgg, eq_rel, relV_len, relV_get, relV_mixput, relV_mixall, mix_zero, mix_at, rowOf_mixset, rowOf_mixall, relV_zero, Q_for_normal, Q_for_exit, Q_for_ret, u_or, u_and, u_andNot, u_shl, u_shl1, u_bit, u_eq, u_ne]
    by_cases hw : w = 0#32
    · have e1 : (((w.toNat : Int) != 0) : Bool) = false := by subst hw; rfl
      have fin := hord (some []) (by rw [hw]; exact .done)
      simp only [Option.map_some, List.append_nil] at fin
      obtain ⟨g1, g2⟩ := (ho.weak hh.le).finish2 hp0 true
      simp only [C_ops, C_cond, D_exit, D_ret, D_skip, normal_some, cond_tt, cond_ff, E_nil, E_cons, E_guard, next_some, next_none, guard_tt, guard_ff, guard_tf, guard_ft, guard_tu, ev_tmp, ev_const, ev_global, ev_func, get_succ, get_zero, List.set_cons_succ, List.set_cons_zero, O_mv, O_pick, pickO, O_bin, pairO, O_un, O_conv, convO, O_call, List.map_cons, List.map_nil, O_len, len_slice, O_atRow, O_load1, load1_ptr, O_load, load_ptr, O_mkRow, O_build, mk_some, build_some, partsV_nil, partsV_cons, zeros_zero, zeros_succ, fill_nil, fill_int, fill_bool, fill_slice, fill_string, Nat.lt_add_one, Nat.zero_lt_succ, Nat.reduceLT, Nat.zero_lt_one, B_add, B_sub, B_mul, B_band, B_bor, B_bxor, B_bandNot, B_eql, B_neq, B_lss, B_leq, B_gtr, B_geq, B_shl', B_shr', B_rem, B_quo, U_not, U_neg, List.cons_append, List.nil_append, List.length_cons, List.length_nil, Nat.reduceAdd, Nat.reduceSub, Nat.zero_add, end_ret, end_normal, Bool.false_or, Bool.or_false, Bool.true_or, Bool.or_true, Bool.not_true, Bool.not_false, Bool.true_and, Bool.and_true, Bool.false_and, Bool.and_false, W_some, W_seq, W_block, Q_cont_normal, Q_cont_ret, Q_cont_exit, Q_block_normal, Q_block_ret, Q_block_exit, Q_loop_normal, Q_loop_ret, Q_loop_exit, Q_ret, Q_ret', slc, O_append, O_slice, cut_to, cut_from, cut_all, cut_mid, Option.map_none, O_alloc, O_box, O_atArr, arr_some, O_off, off_ptr, O_field, O_field1, field1_agg, pair_some, O_extract, extract_tup, wrote_some, O_store1, store1_int, store1_bool, store1_string, store1_slice, store1_ptr, store1_func, store1_nilFunc, store1_map, O_store, store_agg, O_nilCheck, nilCheck_ptr, nilCheck_func, read1_skip, read1_skip0, read1_next, read1_there, read_skip, read_skip0, read_next, read_there, pre_some, cons_some, write1_skip, write1_skip0, write1_next, write1_there, write_skip, write_skip0, write_next, write_there, fillU_zero, fillU_succ, List.append_assoc, List.length_append, List.append_nil, rowOf_len, rowOf_get, rowOf_set, Int.toNat_natCast, Nat.mul_one, Nat.add_zero, Option.map_some, List.getElem?_cons_zero, List.getElem?_cons_succ, Q_out, O_idxStr, O_idxArr, idxArr_nat, O_max2, max_int, O_min2, min_int, Q_retE, Q_retE2, Q_retE3, Bool.bne_false, Bool.bne_true, beq_self_eq_true, Bool.true_beq, Bool.false_beq, O_eqv, eqv_bool, Int.reduceLE, Int.reduceLT, Int.reduceToNat, fill_rel1, fill_rel2, fill_rel3, Q_cellsE, cellsE_ptr, outE_rel, eq_self, arr_nat, row_nat, laid_agg, box_some, O_again, again_agg, O_again1, O_eqAgg, eq_rel, relV_len, relV_get, relV_mixput, relV_mixall, mix_zero, mix_at, rowOf_mixset, rowOf_mixall, relV_zero, Q_for_normal, Q_for_exit, Q_for_ret, u_or, u_and, u_andNot, u_shl, u_shl1, u_bit, u_eq, u_ne, e1]
      exact ⟨some ys, v, rfl, fin, g1, g2⟩
    · have e1 : (((w.toNat : Int) != 0) : Bool) = true := by rw [show (0 : Int) = ((0#32).toNat : Int) from rfl, u_ne]; simp [hw]
      have e0 : w &&& ~~~ nextS w r = freeS r w := rfl
      by_cases hf : freeS r w = 0#32
      · have e2 : ((((freeS r w).toNat : Int) == 0) : Bool) = true := by rw [hf]; rfl
        have fin := hord none (.stuck w hw hf)
        obtain ⟨g1, g2⟩ := (Own.nil h H 1).finish2 hp0 false
        simp only [C_ops, C_cond, D_exit, D_ret, D_skip, normal_some, cond_tt, cond_ff, E_nil, E_cons, E_guard, next_some, next_none, guard_tt, guard_ff, guard_tf, guard_ft, guard_tu, ev_tmp, ev_const, ev_global, ev_func, get_succ, get_zero, List.set_cons_succ, List.set_cons_zero, O_mv, O_pick, pickO, O_bin, pairO, O_un, O_conv, convO, O_call, List.map_cons, List.map_nil, O_len, len_slice, O_atRow, O_load1, load1_ptr, O_load, load_ptr, O_mkRow, O_build, mk_some, build_some, partsV_nil, partsV_cons, zeros_zero, zeros_succ, fill_nil, fill_int, fill_bool, fill_slice, fill_string, Nat.lt_add_one, Nat.zero_lt_succ, Nat.reduceLT, Nat.zero_lt_one, B_add, B_sub, B_mul, B_band, B_bor, B_bxor, B_bandNot, B_eql, B_neq, B_lss, B_leq, B_gtr, B_geq, B_shl', B_shr', B_rem, B_quo, U_not, U_neg, List.cons_append, List.nil_append, List.length_cons, List.length_nil, Nat.reduceAdd, Nat.reduceSub, Nat.zero_add, end_ret, end_normal, Bool.false_or, Bool.or_false, Bool.true_or, Bool.or_true, Bool.not_true, Bool.not_false, Bool.true_and, Bool.and_true, Bool.false_and, Bool.and_false, W_some, W_seq, W_block, Q_cont_normal, Q_cont_ret, Q_cont_exit, Q_block_normal, Q_block_ret, Q_block_exit, Q_loop_normal, Q_loop_ret, Q_loop_exit, Q_ret, Q_ret', slc, O_append, O_slice, cut_to, cut_from, cut_all, cut_mid, Option.map_none, O_alloc, O_box, O_atArr, arr_some, O_off, off_ptr, O_field, O_field1, field1_agg, pair_some, O_extract, extract_tup, wrote_some, O_store1, store1_int, store1_bool, store1_string, store1_slice, store1_ptr, store1_func, store1_nilFunc, store1_map, O_store, store_agg, O_nilCheck, nilCheck_ptr, nilCheck_func, read1_skip, read1_skip0, read1_next, read1_there, read_skip, read_skip0, read_next, read_there, pre_some, cons_some, write1_skip, write1_skip0, write1_next, write1_there, write_skip, write_skip0, write_next, write_there, fillU_zero, fillU_succ, List.append_assoc, List.length_append, List.append_nil, rowOf_len, rowOf_get, rowOf_set, Int.toNat_natCast, Nat.mul_one, Nat.add_zero, Option.map_some, List.getElem?_cons_zero, List.getElem?_cons_succ, Q_out, O_idxStr, O_idxArr, idxArr_nat, O_max2, max_int, O_min2, min_int, Q_retE, Q_retE2, Q_retE3, Bool.bne_false, Bool.bne_true, beq_self_eq_true, Bool.true_beq, Bool.false_beq, O_eqv, eqv_bool, Int.reduceLE, Int.reduceLT, Int.reduceToNat, fill_rel1, fill_rel2, fill_rel3, Q_cellsE, cellsE_ptr, outE_rel, eq_self, arr_nat, row_nat, laid_agg, box_some, O_again, again_agg, O_again1, O_eqAgg, eq_rel, relV_len, relV_get, relV_mixput, relV_mixall, mix_zero, mix_at, rowOf_mixset, rowOf_mixall, relV_zero, Q_for_normal, Q_for_exit, Q_for_ret, u_or, u_and, u_andNot, u_shl, u_shl1, u_bit, u_eq, u_ne, e1, hrd, rel_next_c, e0, e2]
        exact ⟨none, nils, rfl, fin, g1, g2⟩
      · have e2 : ((((freeS r w).toNat : Int) == 0) : Bool) = false := by rw [show (0 : Int) = ((0#32).toNat : Int) from rfl, u_eq]; simp [hf]
        obtain ⟨t1, t2, t3⟩ := tz_spec hf
        have t4 := ((free_bit r w t1).1 t2).1
        have hpop := less_pop t1 t4
        haveI : Nonempty (TzTab H) := tzTab_pre hp0
        have hles : w &&& ~~~ (1#32 <<< tz (freeS r w)) = less w (tz (freeS r w)) := rfl
        obtain ⟨v', H', q1, q2, q3, q4, q5, _⟩ := ho.push hp (row := [.int .i64 (tz (freeS r w) : Int)]) (bytes := 8) rfl (by rw [List.length_map]; unfold roomFor; omega)
        simp only [C_ops, C_cond, D_exit, D_ret, D_skip, normal_some, cond_tt, cond_ff, E_nil, E_cons, E_guard, next_some, next_none, guard_tt, guard_ff, guard_tf, guard_ft, guard_tu, ev_tmp, ev_const, ev_global, ev_func, get_succ, get_zero, List.set_cons_succ, List.set_cons_zero, O_mv, O_pick, pickO, O_bin, pairO, O_un, O_conv, convO, O_call, List.map_cons, List.map_nil, O_len, len_slice, O_atRow, O_load1, load1_ptr, O_load, load_ptr, O_mkRow, O_build, mk_some, build_some, partsV_nil, partsV_cons, zeros_zero, zeros_succ, fill_nil, fill_int, fill_bool, fill_slice, fill_string, Nat.lt_add_one, Nat.zero_lt_succ, Nat.reduceLT, Nat.zero_lt_one, B_add, B_sub, B_mul, B_band, B_bor, B_bxor, B_bandNot, B_eql, B_neq, B_lss, B_leq, B_gtr, B_geq, B_shl', B_shr', B_rem, B_quo, U_not, U_neg, List.cons_append, List.nil_append, List.length_cons, List.length_nil, Nat.reduceAdd, Nat.reduceSub, Nat.zero_add, end_ret, end_normal, Bool.false_or, Bool.or_false, Bool.true_or, Bool.or_true, Bool.not_true, Bool.not_false, Bool.true_and, Bool.and_true, Bool.false_and, Bool.and_false, W_some, W_seq, W_block, Q_cont_normal, Q_cont_ret, Q_cont_exit, Q_block_normal, Q_block_ret, Q_block_exit, Q_loop_normal, Q_loop_ret, Q_loop_exit, Q_ret, Q_ret', slc, O_append, O_slice, cut_to, cut_from, cut_all, cut_mid, Option.map_none, O_alloc, O_box, O_atArr, arr_some, O_off, off_ptr, O_field, O_field1, field1_agg, pair_some, O_extract, extract_tup, wrote_some, O_store1, store1_int, store1_bool, store1_string, store1_slice, store1_ptr, store1_func, store1_nilFunc, store1_map, O_store, store_agg, O_nilCheck, nilCheck_ptr, nilCheck_func, read1_skip, read1_skip0, read1_next, read1_there, read_skip, read_skip0, read_next, read_there, pre_some, cons_some, write1_skip, write1_skip0, write1_next, write1_there, write_skip, write_skip0, write_next, write_there, fillU_zero, fillU_succ, List.append_assoc, List.length_append, List.append_nil, rowOf_len, rowOf_get, rowOf_set, Int.toNat_natCast, Nat.mul_one, Nat.add_zero, Option.map_some, List.getElem?_cons_zero, List.getElem?_cons_succ, Q_out, O_idxStr, O_idxArr, idxArr_nat, O_max2, max_int, O_min2, min_int, Q_retE, Q_retE2, Q_retE3, Bool.bne_false, Bool.bne_true, beq_self_eq_true, Bool.true_beq, Bool.false_beq, O_eqv, eqv_bool, Int.reduceLE, Int.reduceLT, Int.reduceToNat, fill_rel1, fill_rel2, fill_rel3, Q_cellsE, cellsE_ptr, outE_rel, eq_self, arr_nat, row_nat, laid_agg, box_some, O_again, again_agg, O_again1, O_eqAgg, eq_rel, relV_len, relV_get, relV_mixput, relV_mixall, mix_zero, mix_at, rowOf_mixset, rowOf_mixall, relV_zero, Q_for_normal, Q_for_exit, Q_for_ret, u_or, u_and, u_andNot, u_shl, u_shl1, u_bit, u_eq, u_ne, e1, hrd, rel_next_c, e0, e2, tz_c _ hf, nat0, hles, q1]
        refine ⟨popU (less w (tz (freeS r w))), by omega, less w (tz (freeS r w)), ys ++ [tz (freeS r w)], H', v', ⟨rfl, by simp; omega, fun o ho' => ?_, by rw [List.map_append]; exact q2, q3⟩, junk rfl⟩
        have := hord _ (.step w o hf ho')
        rw [Option.map_map] at this
        have e : ((fun x => ys ++ x) ∘ fun x => tz (freeS r w) :: x) = fun x => ys ++ [tz (freeS r w)] ++ x := by funext x; simp
        rw [e] at this
        exact this
  · exact ⟨u, [], _, _, ⟨rfl, by have := popU_le u; simpa using this, fun o ho => by simpa using ho, Own.nil h1 _ 1, Pre.refl _⟩, junk rfl⟩
end Go.Proofs.YtjjlbfamfioofaaDoor.AM
