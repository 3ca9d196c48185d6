/-
  The flow along a path: the reads that a register hangs from.
  Conditions: paths no longer than 8.
-/
import Derived.Test.YtoeoahpngmhkdaaFa1
namespace Go.Proofs.Ytoeoahpngmhkdaa.AM
open Go.RowKit
set_option linter.unusedSimpArgs false
set_option linter.unusedVariables false

theorem or_nat {a b : Nat} (ha : a < 256) (hb : b < 256) : Go.bits .or .i64 (a : Int) (b : Int) = ((a ||| b : Nat) : Int) := by
  have h3 : a ||| b < 2 ^ 8 := Nat.or_lt_two_pow ha hb
  unfold Go.bits
  simp only [IntKind.bits, BitVec.ofInt_natCast]
  show IntKind.i64.wrap (((BitVec.ofNat 64 a ||| BitVec.ofNat 64 b : BitVec 64).toNat : Nat) : Int) = _
  rw [BitVec.toNat_or, BitVec.toNat_ofNat, BitVec.toNat_ofNat, Nat.mod_eq_of_lt (by omega), Nat.mod_eq_of_lt (by omega)]
  exact wrapS (by omega)
theorem shl_nat {d : Nat} (hd : d < 8) : shl .i64 1 (d : Int) = ((2 ^ d : Nat) : Int) := by
  have : d = 0 ∨ d = 1 ∨ d = 2 ∨ d = 3 ∨ d = 4 ∨ d = 5 ∨ d = 6 ∨ d = 7 := by omega
  rcases this with rfl | rfl | rfl | rfl | rfl | rfl | rfl | rfl <;> rfl
theorem pow_lt8 {d : Nat} (hd : d < 8) : 2 ^ d < 256 := by
  have : d = 0 ∨ d = 1 ∨ d = 2 ∨ d = 3 ∨ d = 4 ∨ d = 5 ∨ d = 6 ∨ d = 7 := by omega
  rcases this with rfl | rfl | rfl | rfl | rfl | rfl | rfl | rfl <;> decide
/-- The reads that a register hangs from, as bits. -/
def hangF (ps : List Ins) : Nat → Int → Int → Nat
  | 0, _, _ => 0
  | f + 1, place, r => if defP ps place r < 0 then 0 else
    match ps[(defP ps place r).toNat]? with
    | none => 0
    | some i => if readsV i then 2 ^ (defP ps place r).toNat else
      if i.op == 2 || i.op == 3 then hangF ps f (defP ps place r) i.a ||| hangF ps f (defP ps place r) i.b else 0
theorem hangF_none {ps : List Ins} {f : Nat} {place r : Int} (h : defP ps place r = -1) : hangF ps (f + 1) place r = 0 := by
  rw [hangF, h]; rfl
theorem hangF_some {ps : List Ins} {f : Nat} {place r : Int} {d : Nat} (h : defP ps place r = (d : Int)) (hd : d < ps.length) :
    hangF ps (f + 1) place r = if readsV ps[d] then 2 ^ d else if ps[d].op == 2 || ps[d].op == 3 then hangF ps f d ps[d].a ||| hangF ps f d ps[d].b else 0 := by
  rw [hangF, h]
  rw [if_neg (by omega), Int.toNat_natCast, List.getElem?_eq_getElem hd]
theorem hangF_lt {ps : List Ins} (h8 : ps.length ≤ 8) : ∀ (f : Nat) (place r : Int), hangF ps f place r < 256
  | 0, _, _ => by simp [hangF]
  | f + 1, place, r => by
    rcases defP_cases ps place r with h | ⟨d, h, hd, _⟩
    · rw [hangF_none h]; omega
    · rw [hangF_some h hd]
      split
      · exact pow_lt8 (by omega)
      · split
        · exact Nat.or_lt_two_pow (n := 8) (hangF_lt h8 f _ _) (hangF_lt h8 f _ _)
        · omega
def orH (ps : List Ins) (f : Nat) (place : Int) (rs : List Int) : Nat := rs.foldl (fun a r => a ||| hangF ps f place r) 0
theorem orH_succ (ps : List Ins) (f : Nat) (place : Int) (rs : List Int) {k : Nat} (hk : k < rs.length) : orH ps f place (rs.take (k + 1)) = orH ps f place (rs.take k) ||| hangF ps f place rs[k] := by
  unfold orH; rw [List.take_succ_eq_append_getElem hk, List.foldl_append]; rfl
theorem orH_lt {ps : List Ins} (h8 : ps.length ≤ 8) (f : Nat) (place : Int) (rs : List Int) : orH ps f place rs < 256 := by
  unfold orH
  generalize h0 : (0 : Nat) = z
  have hz : z < 256 := by omega
  clear h0
  induction rs generalizing z with
  | nil => exact hz
  | cons r rs ih => exact ih _ (Nat.or_lt_two_pow (n := 8) hz (hangF_lt h8 f _ _))
theorem IntS_row (H : Heap) (l : List Int) : IntS (H ++ [.cells (l.map fun e => .int .i64 e) 0 false]) (.slice (some ⟨H.length, 0, some 0⟩) l.length 1) l := by
  refine ⟨.inr ⟨H.length, 0, 0, by rw [List.length_map], ?_⟩, by simp [intR]⟩
  rw [List.length_map]
  unfold Heap.read
  have e : (l.map intR).flatten = l.map fun e => Value.int .i64 e := by
    induction l with
    | nil => rfl
    | cons a l ih => simp [intR] at ih ⊢; exact ih
  simp [e]
  exact List.take_of_length_le (by simp)
section
variable {c p : Value} {code : List Ins} {path : List Int} {ps : List Ins}
theorem cap_lt {ps : List Ins} {place r : Int} {d : Nat} (h : defP ps place r = (d : Int)) (hd : d < ps.length) (hp : (d : Int) < place) : cap ps (d : Int) < cap ps place := by
  unfold cap; omega
set_option maxHeartbeats 1000000 in
theorem flow_hangs_c (h8 : ps.length ≤ 8) : ∀ (f : Nat) (place : Int), cap ps place < f → ∀ (rs : List Int) (s : Value) (h : Heap), On h c p code path ps → IntS h s rs → rs.length < 4611686018427387904 →
    DF FF n_flow_hangs [c, p, .int .i64 place, s] h = some (.int .i64 (orH ps f place rs : Nat), h)
  | 0, place, hf => by omega
  | f + 1, place, hf => by
    intro rs s h e hs hrs
    have ih := flow_hangs_c h8 f
    refine fun_wpU F_flow_hangs ?_
    simp only [c_flow_hangs, C_ops, normal_some, E_nil, E_cons, next_some, ev_tmp, ev_const, get_succ, get_zero, List.set_cons_succ, List.set_cons_zero, O_mv, O_len, List.cons_append, List.nil_append, List.length_cons, List.length_nil, Nat.reduceAdd, Nat.reduceSub, Nat.zero_add, W_some, W_seq, W_block, Q_cont_normal, fillU_zero, fillU_succ, List.append_assoc, hs.len]
    refine for_wp rs.length (fun k st => ∃ (J : Heap) (j : Nat → Value), st = ⟨[c, p, .int .i64 place, j 3, j 4, j 5, j 6, j 7, j 8, .int .i64 (orH ps (f + 1) place (rs.take k) : Nat), j 10, j 11, j 12, j 13, j 14, s, .int .i64 rs.length, .int .i64 k, j 18, j 19, j 20, j 21, j 22, j 23, j 24, j 25, j 26, j 27, j 28, j 29, j 30, j 31, j 32, j 33, j 34, j 35, j 36, j 37, j 38, j 39, j 40, j 41, j 42, j 43, j 44, j 45, j 46, j 47, j 48, j 49, j 50, j 51, j 52, j 53, j 54, j 55, j 56, j 57, j 58, j 59, j 60, j 61, j 62, j 63, j 64], h ++ J⟩) ?_ ?_ _ ?_
    · rintro k st hk ⟨J, j, rfl⟩
      obtain ⟨b, o, v, a1, a2, _⟩ := hs.at hk
      have h1 : (k : Int) < rs.length := by omega
      have hsucc := orH_succ ps (f + 1) place rs hk
      have hlt := orH_lt h8 (f + 1) place (rs.take k)
      rcases defP_cases ps place rs[k] with hd | ⟨d, hd, hd1, hd2⟩
      · rw [hangF_none hd, Nat.or_zero] at hsucc
        simp only [C_ops, C_cond, D_skip, normal_some, cond_tt, E_nil, E_cons, next_some, next_none, ev_tmp, ev_const, get_succ, get_zero, List.set_cons_succ, List.set_cons_zero, O_mv, O_bin, pairO, O_un, O_call, List.map_cons, List.map_nil, O_atRow, O_load1, load1_ptr, B_add, B_lss, U_not, List.cons_append, List.nil_append, List.length_cons, List.length_nil, Nat.reduceAdd, Nat.zero_add, Bool.not_false, W_some, W_seq, W_block, Q_cont_normal, Q_block_normal, O_alloc, O_extract, extract_tup, wrote_some, O_store, store_agg, pre_some, write_skip, write_skip0, write_there, List.append_assoc, List.length_append, List.getElem?_cons_zero, List.getElem?_cons_succ, eq_self, Q_for_normal, h1, decide_true, a1, a2, flow_Def_c (e.more J), hd, flow_ins_out (e.more J) (k := -1) (.inl (by omega)), insL_len, List.replicate_succ, List.replicate_zero, wrap_nat (k := k) (by omega), hsucc]
        exact ⟨_, junk rfl⟩
      · rw [hangF_some hd hd1] at hsucc
        cases hr : readsV ps[d] with
        | true =>
          rw [hr, if_pos rfl] at hsucc
          have hb := pow_lt8 (d := d) (by omega)
          simp only [C_ops, C_cond, D_skip, normal_some, cond_tt, cond_ff, E_nil, E_cons, next_some, next_none, ev_tmp, ev_const, get_succ, get_zero, List.set_cons_succ, List.set_cons_zero, O_mv, O_bin, pairO, O_un, O_call, List.map_cons, List.map_nil, O_atRow, O_load1, load1_ptr, O_load, load_ptr, B_add, B_bor, B_lss, B_shl', U_not, List.cons_append, List.nil_append, List.length_cons, List.length_nil, Nat.reduceAdd, Nat.zero_add, Bool.not_true, W_some, W_seq, W_block, Q_cont_normal, Q_block_normal, O_alloc, O_extract, extract_tup, wrote_some, O_store, store_agg, read_skip, read_skip0, read_there, pre_some, write_skip, write_skip0, write_there, List.append_assoc, List.length_append, Option.map_some, List.getElem?_cons_zero, List.getElem?_cons_succ, eq_self, Q_for_normal, h1, decide_true, a1, a2, flow_Def_c (e.more J), hd, flow_ins_in (e.more J) hd1, insL_len, List.replicate_succ, List.replicate_zero, uir_Reads_c, hr, wrap_nat (k := k) (by omega), shl_nat (d := d) (by omega), or_nat hlt hb, hsucc, Int.natCast_nonneg]
          exact ⟨_, junk rfl⟩
        | false =>
          rw [hr, if_neg (by simp)] at hsucc
          have hcap := cap_lt hd hd1 hd2
          have hrec : ∀ a b : Int, orH ps f d [a, b] = hangF ps f d a ||| hangF ps f d b := fun a b => by simp [orH]
          have hb := orH_lt h8 f d [ps[d].a, ps[d].b]
          have hcall := ih (d : Int) (by omega) [ps[d].a, ps[d].b] _ _ ((e.more (J ++ [.cells (insL ps[d]) 0 false])).more _) (IntS_row _ [ps[d].a, ps[d].b]) (by simp)
          simp only [List.map_cons, List.map_nil, List.cons_append, List.nil_append, List.length_cons, List.length_nil, Nat.reduceAdd, Nat.zero_add, List.append_assoc, List.length_append, List.map_cons, List.map_nil, List.length_cons, List.length_nil] at hcall
          cases h2 : (ps[d].op == 2) with
          | true =>
            rw [h2, Bool.true_or, if_pos rfl, ← hrec] at hsucc
            simp only [C_ops, C_cond, D_skip, normal_some, cond_tt, cond_ff, E_nil, E_cons, E_guard, next_some, next_none, guard_ft, ev_tmp, ev_const, get_succ, get_zero, List.set_cons_succ, List.set_cons_zero, O_mv, O_pick, pickO, O_bin, pairO, O_un, O_call, List.map_cons, List.map_nil, O_atRow, O_load1, load1_ptr, O_load, load_ptr, O_mkRow, mk_some, partsV_nil, partsV_cons, zeros_zero, zeros_succ, fill_nil, fill_int, Nat.lt_add_one, Nat.zero_lt_succ, B_add, B_bor, B_eql, B_lss, U_not, List.cons_append, List.nil_append, List.length_cons, List.length_nil, Nat.reduceAdd, Nat.zero_add, Bool.not_true, W_some, W_seq, W_block, Q_cont_normal, Q_block_normal, slc, O_alloc, O_off, off_ptr, O_extract, extract_tup, wrote_some, O_store, store_agg, read1_skip, read1_skip0, read1_there, read_skip, read_skip0, read_there, pre_some, write_skip, write_skip0, write_there, List.append_assoc, List.length_append, List.append_nil, Nat.add_zero, Option.map_some, List.getElem?_cons_zero, List.getElem?_cons_succ, eq_self, Q_for_normal, h1, decide_true, a1, a2, flow_Def_c (e.more J), hd, flow_ins_in (e.more J) hd1, insL_len, List.replicate_succ, List.replicate_zero, uir_Reads_c, hr, insL_0, insL_2, insL_3, h2, hcall, wrap_nat (k := k) (by omega), or_nat hlt hb, hsucc]
            exact ⟨_, junk rfl⟩
          | false =>
            cases h3 : (ps[d].op == 3) with
            | true =>
              rw [h2, h3, Bool.or_true, if_pos rfl, ← hrec] at hsucc
              simp only [C_ops, C_cond, D_skip, normal_some, cond_tt, cond_ff, E_nil, E_cons, E_guard, next_some, next_none, guard_ff, ev_tmp, ev_const, get_succ, get_zero, List.set_cons_succ, List.set_cons_zero, O_mv, O_pick, pickO, O_bin, pairO, O_un, O_call, List.map_cons, List.map_nil, O_atRow, O_load1, load1_ptr, O_load, load_ptr, O_mkRow, mk_some, partsV_nil, partsV_cons, zeros_zero, zeros_succ, fill_nil, fill_int, Nat.lt_add_one, Nat.zero_lt_succ, B_add, B_bor, B_eql, B_lss, U_not, List.cons_append, List.nil_append, List.length_cons, List.length_nil, Nat.reduceAdd, Nat.zero_add, Bool.not_true, W_some, W_seq, W_block, Q_cont_normal, Q_block_normal, slc, O_alloc, O_off, off_ptr, O_extract, extract_tup, wrote_some, O_store, store_agg, read1_skip, read1_skip0, read1_there, read_skip, read_skip0, read_there, pre_some, write_skip, write_skip0, write_there, List.append_assoc, List.length_append, List.append_nil, Nat.add_zero, Option.map_some, List.getElem?_cons_zero, List.getElem?_cons_succ, eq_self, Q_for_normal, h1, decide_true, a1, a2, flow_Def_c (e.more J), hd, flow_ins_in (e.more J) hd1, insL_len, List.replicate_succ, List.replicate_zero, uir_Reads_c, hr, insL_0, insL_2, insL_3, h2, h3, hcall, wrap_nat (k := k) (by omega), or_nat hlt hb, hsucc]
              exact ⟨_, junk rfl⟩
            | false =>
              rw [h2, h3, Bool.or_false, if_neg (by simp), Nat.or_zero] at hsucc
              simp only [C_ops, C_cond, D_skip, normal_some, cond_tt, cond_ff, E_nil, E_cons, E_guard, next_some, next_none, guard_ff, ev_tmp, ev_const, get_succ, get_zero, List.set_cons_succ, List.set_cons_zero, O_mv, O_pick, pickO, O_bin, pairO, O_un, O_call, List.map_cons, List.map_nil, O_atRow, O_load1, load1_ptr, O_load, load_ptr, B_add, B_eql, B_lss, U_not, List.cons_append, List.nil_append, List.length_cons, List.length_nil, Nat.reduceAdd, Nat.zero_add, Bool.not_true, W_some, W_seq, W_block, Q_cont_normal, Q_block_normal, O_alloc, O_off, off_ptr, O_extract, extract_tup, wrote_some, O_store, store_agg, read1_skip, read1_skip0, read1_there, read_skip, read_skip0, read_there, pre_some, write_skip, write_skip0, write_there, List.append_assoc, List.length_append, Nat.add_zero, Option.map_some, List.getElem?_cons_zero, List.getElem?_cons_succ, eq_self, Q_for_normal, h1, decide_true, a1, a2, flow_Def_c (e.more J), hd, flow_ins_in (e.more J) hd1, insL_len, List.replicate_succ, List.replicate_zero, uir_Reads_c, hr, insL_0, h2, h3, wrap_nat (k := k) (by omega), hsucc]
              exact ⟨_, junk rfl⟩
    · rintro st ⟨J, j, rfl⟩
      have h1 : ¬ ((rs.length : Nat) : Int) < rs.length := by omega
      simp only [C_ops, C_cond, D_exit, D_ret, normal_some, cond_ff, E_nil, E_cons, next_some, ev_tmp, get_succ, get_zero, List.set_cons_succ, List.set_cons_zero, O_mv, O_bin, pairO, B_lss, W_some, W_seq, Q_cont_normal, Q_cont_exit, Q_block_exit, Q_for_exit, h1, decide_false, List.take_length]
      rw [Q_more _ _ _ _ _ rfl]; rfl
    · exact ⟨[], junkh rfl (by simp)⟩
/-- A move has one register alone. -/
def OneA (ps : List Ins) : Prop := ∀ i ∈ ps, i.op = 2 → i.b = -1
theorem hangF_m1 (ps : List Ins) (f : Nat) (place : Int) : hangF ps f place (-1) = 0 := by
  cases f with
  | zero => rfl
  | succ f => exact hangF_none (by unfold defP; rw [if_pos (by omega)])
set_option maxHeartbeats 1000000 in
theorem ref_hangs_c (h8 : ps.length ≤ 8) (h2 : OneA ps) : ∀ (f : Nat) (place : Int), cap ps place < f → ∀ (r : Int) (h : Heap), On h c p code path ps →
    DF FF n_belatedref10_hangs [c, p, .int .i64 place, .int .i64 r] h = some (.int .i64 (hangF ps f place r : Nat), h)
  | 0, place, hf => by omega
  | f + 1, place, hf => by
    intro r h e
    have ih := ref_hangs_c h8 h2 f
    refine fun_wpU F_belatedref10_hangs ?_
    rcases defP_cases ps place r with hd | ⟨d, hd, hd1, hd2⟩
    · rw [hangF_none hd]
      have c0 : ((-1 : Int) < 0) := by omega
      simp only [c_belatedref10_hangs, C_ops, C_cond, D_ret, normal_some, cond_tt, E_nil, E_cons, next_some, ev_tmp, ev_const, get_succ, get_zero, List.set_cons_succ, List.set_cons_zero, O_mv, O_bin, pairO, O_call, List.map_cons, List.map_nil, B_lss, List.cons_append, List.nil_append, List.length_cons, List.length_nil, Nat.reduceAdd, Nat.reduceSub, Nat.zero_add, W_some, W_seq, Q_cont_normal, Q_cont_ret, Q_ret, fillU_zero, fillU_succ, List.append_assoc, ref_Def_c e, hd, c0, decide_true]; rfl
    · rw [hangF_some hd hd1]
      have c0 : ¬ ((d : Int) < 0) := by omega
      have hcap := cap_lt hd hd1 hd2
      have hcall := fun (r : Int) (L : Heap) => ih (d : Int) (by omega) r _ (e.more L)
      obtain ⟨m, b, o, v, b', o', v', hm, a1, a2, a3, d1, d2, d3⟩ := e.rd hd1
      have hb := pow_lt8 (d := d) (by omega)
      have hb1 := hangF_lt h8 f d ps[d].a
      have hb2 := hangF_lt h8 f d ps[d].b
      cases n2 : (ps[d].op == 2) with
      | true =>
        have n4 := op_not ps[d].op 2 4 n2 rfl
        have n6 := op_not ps[d].op 2 6 n2 rfl
        have hm1 : ps[d].b = -1 := h2 _ (List.getElem_mem _) (by simpa using n2)
        have hr : readsV ps[d] = false := by unfold readsV; rw [n4, n6]; rfl
        rw [hr, if_neg (by simp), Bool.true_or, if_pos rfl, hm1, hangF_m1, Nat.or_zero]
        simp only [c_belatedref10_hangs, C_ops, C_cond, D_ret, D_skip, normal_some, cond_tt, cond_ff, E_nil, E_cons, next_some, next_none, ev_tmp, ev_const, get_succ, get_zero, List.set_cons_succ, List.set_cons_zero, O_mv, O_bin, pairO, O_call, List.map_cons, List.map_nil, O_atRow, O_load1, load1_ptr, O_load, load_ptr, B_eql, B_lss, List.cons_append, List.nil_append, List.length_cons, List.length_nil, Nat.reduceAdd, Nat.reduceSub, Nat.zero_add, W_some, W_seq, W_block, Q_cont_normal, Q_cont_ret, Q_block_ret, O_alloc, O_off, off_ptr, wrote_some, O_store, store_agg, read1_skip0, read1_there, pre_some, write_skip0, write_there, fillU_zero, fillU_succ, Nat.add_zero, Option.map_some, eq_self, ref_Def_c e, hd, c0, decide_false, a1, a3, d1, d3, insL_len, insL_0, insL_2, n2, hcall, List.replicate_succ, List.replicate_zero]
        rw [Q_more _ _ _ _ _ rfl]; rfl
      | false =>
        cases n3 : (ps[d].op == 3) with
        | true =>
          have n4 := op_not ps[d].op 3 4 n3 rfl
          have n6 := op_not ps[d].op 3 6 n3 rfl
          have hr : readsV ps[d] = false := by unfold readsV; rw [n4, n6]; rfl
          rw [hr, if_neg (by simp), Bool.or_true, if_pos rfl]
          simp only [c_belatedref10_hangs, C_ops, C_cond, D_ret, D_skip, normal_some, cond_tt, cond_ff, E_nil, E_cons, next_some, next_none, ev_tmp, ev_const, get_succ, get_zero, List.set_cons_succ, List.set_cons_zero, O_mv, O_bin, pairO, O_call, List.map_cons, List.map_nil, O_atRow, O_load1, load1_ptr, O_load, load_ptr, B_bor, B_eql, B_lss, List.cons_append, List.nil_append, List.length_cons, List.length_nil, Nat.reduceAdd, Nat.reduceSub, Nat.zero_add, W_some, W_seq, W_block, Q_cont_normal, Q_cont_ret, Q_block_ret, O_alloc, O_off, off_ptr, wrote_some, O_store, store_agg, read1_skip0, read1_there, pre_some, write_skip0, write_there, fillU_zero, fillU_succ, Nat.add_zero, Option.map_some, again1_int, eq_self, O_again1, ref_Def_c e, hd, c0, decide_false, a1, a3, d1, d3, insL_len, insL_0, insL_2, insL_3, n2, n3, hcall, List.replicate_succ, List.replicate_zero, or_nat hb1 hb2]
          rw [Q_more _ _ _ _ _ rfl]; rfl
        | false =>
          rw [Bool.or_false, if_neg (c := false = true) (by simp)]
          cases n4 : (ps[d].op == 4) with
          | true =>
            have hr : readsV ps[d] = true := by unfold readsV; rw [n4]; rfl
            rw [hr, if_pos rfl]
            simp only [c_belatedref10_hangs, C_ops, C_cond, D_ret, D_skip, normal_some, cond_tt, cond_ff, E_nil, E_cons, next_some, next_none, ev_tmp, ev_const, get_succ, get_zero, List.set_cons_succ, List.set_cons_zero, O_mv, O_bin, pairO, O_call, List.map_cons, List.map_nil, O_atRow, O_load1, load1_ptr, O_load, load_ptr, B_eql, B_lss, B_shl', List.cons_append, List.nil_append, List.length_cons, List.length_nil, Nat.reduceAdd, Nat.reduceSub, Nat.zero_add, W_some, W_seq, W_block, Q_cont_normal, Q_cont_ret, Q_block_ret, O_alloc, O_off, off_ptr, wrote_some, O_store, store_agg, read1_skip0, read1_there, pre_some, write_skip0, write_there, fillU_zero, fillU_succ, Nat.add_zero, Option.map_some, eq_self, ref_Def_c e, hd, c0, decide_false, a1, a3, d1, d3, insL_len, insL_0, n2, n3, n4, List.replicate_succ, List.replicate_zero, shl_nat (d := d) (by omega), Int.natCast_nonneg]
            rw [Q_more _ _ _ _ _ rfl]; rfl
          | false =>
            cases n6 : (ps[d].op == 6) with
            | true =>
              have hr : readsV ps[d] = true := by unfold readsV; rw [n6]; simp
              rw [hr, if_pos rfl]
              simp only [c_belatedref10_hangs, C_ops, C_cond, D_ret, D_skip, normal_some, cond_tt, cond_ff, E_nil, E_cons, next_some, next_none, ev_tmp, ev_const, get_succ, get_zero, List.set_cons_succ, List.set_cons_zero, O_mv, O_bin, pairO, O_call, List.map_cons, List.map_nil, O_atRow, O_load1, load1_ptr, O_load, load_ptr, B_eql, B_lss, B_shl', List.cons_append, List.nil_append, List.length_cons, List.length_nil, Nat.reduceAdd, Nat.reduceSub, Nat.zero_add, W_some, W_seq, W_block, Q_cont_normal, Q_cont_ret, Q_block_ret, O_alloc, O_off, off_ptr, wrote_some, O_store, store_agg, read1_skip0, read1_there, pre_some, write_skip0, write_there, fillU_zero, fillU_succ, Nat.add_zero, Option.map_some, eq_self, ref_Def_c e, hd, c0, decide_false, a1, a3, d1, d3, insL_len, insL_0, n2, n3, n4, n6, List.replicate_succ, List.replicate_zero, shl_nat (d := d) (by omega), Int.natCast_nonneg]
              rw [Q_more _ _ _ _ _ rfl]; rfl
            | false =>
              have hr : readsV ps[d] = false := by unfold readsV; rw [n4, n6]; rfl
              rw [hr, if_neg (by simp)]
              simp only [c_belatedref10_hangs, C_ops, C_cond, D_ret, D_skip, normal_some, cond_ff, E_nil, E_cons, next_some, next_none, ev_tmp, ev_const, get_succ, get_zero, List.set_cons_succ, List.set_cons_zero, O_mv, O_bin, pairO, O_call, List.map_cons, List.map_nil, O_atRow, O_load1, load1_ptr, O_load, load_ptr, B_eql, B_lss, List.cons_append, List.nil_append, List.length_cons, List.length_nil, Nat.reduceAdd, Nat.reduceSub, Nat.zero_add, W_some, W_seq, W_block, Q_cont_normal, Q_block_normal, O_alloc, O_off, off_ptr, wrote_some, O_store, store_agg, read1_skip0, read1_there, pre_some, write_skip0, write_there, fillU_zero, fillU_succ, Nat.add_zero, Option.map_some, eq_self, ref_Def_c e, hd, c0, decide_false, a1, a3, d1, d3, insL_len, insL_0, n2, n3, n4, n6, List.replicate_succ, List.replicate_zero]
              rw [Q_more _ _ _ _ _ rfl]; rfl
end
end Go.Proofs.Ytoeoahpngmhkdaa.AM
