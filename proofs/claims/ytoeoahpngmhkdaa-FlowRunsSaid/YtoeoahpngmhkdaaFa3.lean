/-
  The flow along a path: what an address, a datum, a branch hangs from.
  Conditions: paths no longer than 8.
-/
import Derived.Test.YtoeoahpngmhkdaaFa2
namespace Go.Proofs.Ytoeoahpngmhkdaa.AM
open Go.RowKit
set_option linter.unusedSimpArgs false
set_option linter.unusedVariables false

theorem InsSl_row (H : Heap) (i : Ins) : InsSl (H ++ [.cells (insL i) 0 false]) (.slice (some ⟨H.length, 0, some 0⟩) 1 17) [i] := by
  refine ⟨.inr ⟨H.length, 0, 0, rfl, ?_⟩, by simp [insL_len]⟩
  unfold Heap.read
  simp [insL_len]
  exact List.take_of_length_le (by simp [insL_len])
theorem fill_ins (i : Ins) : fillRow [.int .i64 0, .int .i64 0, .int .i64 0, .int .i64 0, .int .i64 0, .int .i64 0, .int .i64 0, .int .i64 0, .int .i64 0, .int .i64 0, .bool false, .bool false, .bool false, .int .i64 0, .int .i64 0, .int .i64 0, .bool false] [(0, 17, agg (insL i))] = some (insL i) := by
  have := fill_whole1 (c := 17) (z := insL zeroI) (l := insL i) rfl rfl
  exact this
def atP (ps : List Ins) (k : Int) (f : Nat → Ins → Nat) : Nat := if k < 0 then 0 else match ps[k.toNat]? with | some i => f k.toNat i | none => 0
theorem atP_in {ps : List Ins} {k : Nat} (hk : k < ps.length) (f : Nat → Ins → Nat) : atP ps (k : Int) f = f k ps[k] := by
  unfold atP; rw [if_neg (by omega), Int.toNat_natCast, List.getElem?_eq_getElem hk]
theorem atP_out {ps : List Ins} {k : Int} (hk : k < 0 ∨ (ps.length : Int) ≤ k) (f : Nat → Ins → Nat) : atP ps k f = 0 := by
  unfold atP
  by_cases h0 : k < 0
  · rw [if_pos h0]
  · rw [if_neg h0, List.getElem?_eq_none (by omega)]
theorem at_cases (ps : List Ins) (k : Int) : (k < 0 ∨ (ps.length : Int) ≤ k) ∨ ∃ n : Nat, k = (n : Int) ∧ n < ps.length := by
  by_cases h0 : k < 0
  · exact .inl (.inl h0)
  · by_cases h1 : (ps.length : Int) ≤ k
    · exact .inl (.inr h1)
    · exact .inr ⟨k.toNat, by omega, by omega⟩
def hangP (ps : List Ins) (k : Nat) (r : Int) : Nat := hangF ps (ps.length + 1) k r
def addrV (ps : List Ins) (k : Int) : Nat := atP ps k fun n i => if memV i then hangP ps n i.index else 0
def dataV (ps : List Ins) (k : Int) : Nat := atP ps k fun n i => if writesV i then hangP ps n i.a else 0
def brAt (ps : List Ins) (k : Nat) : Nat := match ps[k]? with | some i => if i.op == 9 then hangP ps k i.a else 0 | none => 0
def ctrlN (ps : List Ins) : Nat → Nat
  | 0 => 0
  | k + 1 => ctrlN ps k ||| brAt ps k
def ctrlV (ps : List Ins) (k : Int) : Nat := ctrlN ps (cap ps k)
theorem cap_le (ps : List Ins) (k : Int) : cap ps k < ps.length + 1 := by unfold cap; omega
theorem orH_one (ps : List Ins) (f : Nat) (place r : Int) : orH ps f place [r] = hangF ps f place r := by simp [orH]
section
variable {h : Heap} {c p : Value} {code : List Ins} {path : List Int} {ps : List Ins}
theorem flow_hang1 (h8 : ps.length ≤ 8) (k : Nat) (r : Int) (H : Heap) (e : On H c p code path ps) : DF FF n_flow_hangs [c, p, .int .i64 (k : Int), .slice (some ⟨H.length, 0, some 0⟩) 1 1] (H ++ [.cells [.int .i64 r] 0 false]) = some (.int .i64 (hangP ps k r : Nat), H ++ [.cells [.int .i64 r] 0 false]) := by
  have := flow_hangs_c h8 (ps.length + 1) (k : Int) (cap_le ps k) [r] _ _ (e.more _) (IntS_row H [r]) (by simp)
  rw [orH_one] at this
  exact this
theorem ref_hang1 (h8 : ps.length ≤ 8) (h2 : OneA ps) (k : Nat) (r : Int) (H : Heap) (e : On H c p code path ps) : DF FF n_belatedref10_hangs [c, p, .int .i64 (k : Int), .int .i64 r] H = some (.int .i64 (hangP ps k r : Nat), H) :=
  ref_hangs_c h8 h2 (ps.length + 1) (k : Int) (cap_le ps k) r H e
theorem uir_Ops_one (i : Ins) (H : Heap) : DF FF n_uir_Ops [.slice (some ⟨H.length, 0, some 0⟩) 1 17] (H ++ [.cells (insL i) 0 false]) = some (.int .i64 (if memV i then 1 else 0), H ++ [.cells (insL i) 0 false]) := by
  have := uir_Ops_c [i] _ _ (InsSl_row H i) (by simp)
  rw [this]
  cases hm : memV i <;> simp [countP, hm]
theorem flow_Addr_c (h8 : ps.length ≤ 8) (e : On h c p code path ps) (k : Int) : DF FF n_flow_Addr [c, p, .int .i64 k] h = some (.int .i64 (addrV ps k : Nat), h) := by
  refine fun_wpU F_flow_Addr ?_
  unfold addrV
  rcases at_cases ps k with hk | ⟨n, rfl, hn⟩
  · rw [atP_out hk]
    simp only [c_flow_Addr, C_ops, C_cond, D_ret, normal_some, cond_tt, E_nil, E_cons, E_guard, next_some, next_none, guard_ft, ev_tmp, ev_const, get_succ, get_zero, List.set_cons_succ, List.set_cons_zero, O_mv, O_pick, pickO, pairO, O_un, O_call, List.map_cons, List.map_nil, U_not, List.cons_append, List.nil_append, List.length_cons, List.length_nil, Nat.reduceAdd, Nat.reduceSub, Nat.zero_add, Bool.not_false, W_some, W_seq, Q_cont_normal, Q_cont_ret, O_alloc, O_extract, extract_tup, wrote_some, O_store, store_agg, pre_some, write_skip0, write_there, fillU_zero, fillU_succ, List.getElem?_cons_zero, List.getElem?_cons_succ, eq_self, flow_ins_out e hk, insL_len, List.replicate_succ, List.replicate_zero]
    rw [Q_more _ _ _ _ _ rfl]; rfl
  · rw [atP_in hn]
    have hops := uir_Ops_one ps[n] (h ++ [.cells (insL ps[n]) 0 false])
    have hcall := flow_hang1 h8 n ps[n].index (h ++ [.cells (insL ps[n]) 0 false, .cells (insL ps[n]) 0 false]) (e.more _)
    have hcall := hcall
    simp only [List.cons_append, List.nil_append, List.length_cons, List.length_nil, Nat.reduceAdd, Nat.zero_add, List.append_assoc, List.length_append] at hops hcall
    cases hm : memV ps[n]
    · simp only [hm, Bool.false_eq_true, if_false] at hops
      simp only [c_flow_Addr, C_ops, C_cond, D_ret, normal_some, cond_tt, E_nil, E_cons, E_guard, next_some, next_none, guard_ff, ev_tmp, ev_const, get_succ, get_zero, List.set_cons_succ, List.set_cons_zero, O_mv, O_pick, pickO, O_bin, pairO, O_un, O_call, List.map_cons, List.map_nil, O_load, load_ptr, O_mkRow, mk_some, partsV_nil, partsV_cons, zeros_zero, zeros_succ, B_eql, U_not, List.cons_append, List.nil_append, List.length_cons, List.length_nil, Nat.reduceAdd, Nat.reduceSub, Nat.zero_add, Bool.not_true, W_some, W_seq, Q_cont_normal, Q_cont_ret, slc, O_alloc, O_extract, extract_tup, wrote_some, O_store, store_agg, read_skip0, read_there, pre_some, write_skip0, write_there, fillU_zero, fillU_succ, List.append_assoc, List.length_append, List.append_nil, Option.map_some, List.getElem?_cons_zero, List.getElem?_cons_succ, beq_self_eq_true, eq_self, flow_ins_in e hn, insL_len, List.replicate_succ, List.replicate_zero, fill_ins, hops, Bool.false_eq_true, if_false]
      rw [Q_more _ _ _ _ _ rfl]; rfl
    · simp only [hm, if_true] at hops
      simp only [c_flow_Addr, C_ops, C_cond, D_ret, D_skip, normal_some, cond_ff, E_nil, E_cons, E_guard, next_some, next_none, guard_ff, ev_tmp, ev_const, get_succ, get_zero, List.set_cons_succ, List.set_cons_zero, O_mv, O_pick, pickO, O_bin, pairO, O_un, O_call, List.map_cons, List.map_nil, O_load1, load1_ptr, O_load, load_ptr, O_mkRow, mk_some, partsV_nil, partsV_cons, zeros_zero, zeros_succ, fill_nil, fill_int, Nat.lt_add_one, B_eql, U_not, List.cons_append, List.nil_append, List.length_cons, List.length_nil, Nat.reduceAdd, Nat.reduceSub, Nat.zero_add, Bool.not_true, W_some, W_seq, Q_cont_normal, slc, O_alloc, O_off, off_ptr, O_extract, extract_tup, wrote_some, O_store, store_agg, read1_skip0, read1_there, read_skip0, read_there, pre_some, write_skip0, write_there, fillU_zero, fillU_succ, List.append_assoc, List.length_append, List.append_nil, Option.map_some, List.getElem?_cons_zero, List.getElem?_cons_succ, eq_self, flow_ins_in e hn, insL_len, List.replicate_succ, List.replicate_zero, insL_7, fill_ins, hops, hcall, if_true, Int.reduceBEq]
      rw [Q_more _ _ _ _ _ rfl]; rfl
theorem flow_Data_c (h8 : ps.length ≤ 8) (e : On h c p code path ps) (k : Int) : DF FF n_flow_Data [c, p, .int .i64 k] h = some (.int .i64 (dataV ps k : Nat), h) := by
  refine fun_wpU F_flow_Data ?_
  unfold dataV
  rcases at_cases ps k with hk | ⟨n, rfl, hn⟩
  · rw [atP_out hk]
    simp only [c_flow_Data, C_ops, C_cond, D_ret, normal_some, cond_tt, E_nil, E_cons, E_guard, next_some, next_none, guard_ft, ev_tmp, ev_const, get_succ, get_zero, List.set_cons_succ, List.set_cons_zero, O_mv, O_pick, pickO, pairO, O_un, O_call, List.map_cons, List.map_nil, U_not, List.cons_append, List.nil_append, List.length_cons, List.length_nil, Nat.reduceAdd, Nat.reduceSub, Nat.zero_add, Bool.not_false, W_some, W_seq, Q_cont_normal, Q_cont_ret, O_alloc, O_extract, extract_tup, wrote_some, O_store, store_agg, pre_some, write_skip0, write_there, fillU_zero, fillU_succ, List.getElem?_cons_zero, List.getElem?_cons_succ, eq_self, flow_ins_out e hk, insL_len, List.replicate_succ, List.replicate_zero]
    rw [Q_more _ _ _ _ _ rfl]; rfl
  · rw [atP_in hn]
    have hcall := flow_hang1 h8 n ps[n].a (h ++ [.cells (insL ps[n]) 0 false]) (e.more _)
    simp only [List.cons_append, List.nil_append, List.length_cons, List.length_nil, Nat.zero_add, List.append_assoc, List.length_append] at hcall
    cases hm : writesV ps[n]
    · simp only [c_flow_Data, C_ops, C_cond, D_ret, normal_some, cond_tt, E_nil, E_cons, E_guard, next_some, next_none, guard_ff, ev_tmp, ev_const, get_succ, get_zero, List.set_cons_succ, List.set_cons_zero, O_mv, O_pick, pickO, pairO, O_un, O_call, List.map_cons, List.map_nil, O_load, load_ptr, U_not, List.cons_append, List.nil_append, List.length_cons, List.length_nil, Nat.reduceAdd, Nat.reduceSub, Nat.zero_add, Bool.not_true, Bool.not_false, W_some, W_seq, Q_cont_normal, Q_cont_ret, O_alloc, O_extract, extract_tup, wrote_some, O_store, store_agg, read_skip0, read_there, pre_some, write_skip0, write_there, fillU_zero, fillU_succ, Option.map_some, List.getElem?_cons_zero, List.getElem?_cons_succ, eq_self, flow_ins_in e hn, insL_len, List.replicate_succ, List.replicate_zero, uir_Writes_c, hm, Bool.false_eq_true, if_false]
      rw [Q_more _ _ _ _ _ rfl]; rfl
    · simp only [c_flow_Data, C_ops, C_cond, D_ret, D_skip, normal_some, cond_ff, E_nil, E_cons, E_guard, next_some, next_none, guard_ff, ev_tmp, ev_const, get_succ, get_zero, List.set_cons_succ, List.set_cons_zero, O_mv, O_pick, pickO, pairO, O_un, O_call, List.map_cons, List.map_nil, O_load1, load1_ptr, O_load, load_ptr, O_mkRow, mk_some, partsV_nil, partsV_cons, zeros_zero, zeros_succ, fill_nil, fill_int, Nat.lt_add_one, U_not, List.cons_append, List.nil_append, List.length_cons, List.length_nil, Nat.reduceAdd, Nat.reduceSub, Nat.zero_add, Bool.not_true, W_some, W_seq, Q_cont_normal, slc, O_alloc, O_off, off_ptr, O_extract, extract_tup, wrote_some, O_store, store_agg, read1_skip0, read1_there, read_skip0, read_there, pre_some, write_skip0, write_there, fillU_zero, fillU_succ, List.append_assoc, List.length_append, List.append_nil, Option.map_some, List.getElem?_cons_zero, List.getElem?_cons_succ, eq_self, flow_ins_in e hn, insL_len, List.replicate_succ, List.replicate_zero, insL_2, uir_Writes_c, hm, hcall, if_true]
      rw [Q_more _ _ _ _ _ rfl]; rfl
theorem ref_Addr_c (h8 : ps.length ≤ 8) (h2 : OneA ps) (e : On h c p code path ps) (k : Int) : DF FF n_belatedref10_Addr [c, p, .int .i64 k] h = some (.int .i64 (addrV ps k : Nat), h) := by
  refine fun_wpU F_belatedref10_Addr ?_
  unfold addrV
  rcases at_cases ps k with hk | ⟨n, rfl, hn⟩
  · rw [atP_out hk]
    by_cases h0 : k < 0
    · simp only [c_belatedref10_Addr, C_ops, C_cond, D_ret, normal_some, cond_tt, E_nil, E_cons, E_guard, next_some, guard_ft, ev_tmp, ev_const, get_succ, get_zero, List.set_cons_succ, List.set_cons_zero, O_mv, O_pick, pickO, O_bin, pairO, B_lss, List.cons_append, List.nil_append, List.length_cons, List.length_nil, Nat.reduceAdd, Nat.reduceSub, Nat.zero_add, W_some, W_seq, Q_cont_normal, Q_cont_ret, Q_ret, fillU_zero, fillU_succ, h0, decide_true]; rfl
    · have h1 : (ps.length : Int) ≤ k := by omega
      simp only [c_belatedref10_Addr, C_ops, C_cond, D_ret, normal_some, cond_tt, E_nil, E_cons, E_guard, next_some, guard_ff, guard_ft, ev_tmp, ev_const, get_succ, get_zero, List.set_cons_succ, List.set_cons_zero, O_mv, O_pick, pickO, O_bin, pairO, O_len, B_lss, B_geq, List.cons_append, List.nil_append, List.length_cons, List.length_nil, Nat.reduceAdd, Nat.reduceSub, Nat.zero_add, W_some, W_seq, Q_cont_normal, Q_cont_ret, Q_ret, fillU_zero, fillU_succ, h0, h1, e.len, decide_true, decide_false]; rfl
  · rw [atP_in hn]
    obtain ⟨m, b, o, v, b', o', v', hm, a1, a2, a3, d1, d2, d3⟩ := e.rd hn
    have h0 : ¬ ((n : Int) < 0) := by omega
    have h1 : ¬ ((ps.length : Int) ≤ (n : Int)) := by omega
    have d7 := read1_of d3 (insL_7 ps[n])
    cases hme : memV ps[n]
    · simp only [c_belatedref10_Addr, C_ops, C_cond, D_ret, normal_some, cond_tt, E_nil, E_cons, E_guard, next_some, guard_ff, ev_tmp, ev_const, get_succ, get_zero, List.set_cons_succ, List.set_cons_zero, O_mv, O_pick, pickO, O_bin, pairO, O_un, O_call, List.map_cons, List.map_nil, O_len, O_atRow, O_load1, load1_ptr, O_load, load_ptr, B_lss, B_geq, U_not, List.cons_append, List.nil_append, List.length_cons, List.length_nil, Nat.reduceAdd, Nat.reduceSub, Nat.zero_add, Bool.not_false, W_some, W_seq, Q_cont_normal, Q_cont_ret, Q_ret, fillU_zero, fillU_succ, Option.map_some, h0, h1, e.len, decide_false, a1, a3, d1, d3, ref_Memory_c, hme, Bool.false_eq_true, if_false]; rfl
    · simp only [c_belatedref10_Addr, C_ops, C_cond, D_ret, D_skip, normal_some, cond_ff, E_nil, E_cons, E_guard, next_some, guard_ff, ev_tmp, ev_const, get_succ, get_zero, List.set_cons_succ, List.set_cons_zero, O_mv, O_pick, pickO, O_bin, pairO, O_un, O_call, List.map_cons, List.map_nil, O_len, O_atRow, O_load1, load1_ptr, O_load, load_ptr, B_lss, B_geq, U_not, List.cons_append, List.nil_append, List.length_cons, List.length_nil, Nat.reduceAdd, Nat.reduceSub, Nat.zero_add, Bool.not_true, W_some, W_seq, Q_cont_normal, Q_ret, O_off, off_ptr, fillU_zero, fillU_succ, Option.map_some, eq_self, h0, h1, e.len, decide_false, a1, a3, d1, d3, d7, ref_Memory_c, hme, ref_hang1 h8 h2 n ps[n].index h e, if_true]
theorem ref_Data_c (h8 : ps.length ≤ 8) (h2 : OneA ps) (e : On h c p code path ps) (k : Int) : DF FF n_belatedref10_Data [c, p, .int .i64 k] h = some (.int .i64 (dataV ps k : Nat), h) := by
  refine fun_wpU F_belatedref10_Data ?_
  unfold dataV
  rcases at_cases ps k with hk | ⟨n, rfl, hn⟩
  · rw [atP_out hk]
    by_cases h0 : k < 0
    · simp only [c_belatedref10_Data, C_ops, C_cond, D_ret, normal_some, cond_tt, E_nil, E_cons, E_guard, next_some, guard_ft, ev_tmp, ev_const, get_succ, get_zero, List.set_cons_succ, List.set_cons_zero, O_mv, O_pick, pickO, O_bin, pairO, B_lss, List.cons_append, List.nil_append, List.length_cons, List.length_nil, Nat.reduceAdd, Nat.reduceSub, Nat.zero_add, W_some, W_seq, Q_cont_normal, Q_cont_ret, Q_ret, fillU_zero, fillU_succ, h0, decide_true]; rfl
    · have h1 : (ps.length : Int) ≤ k := by omega
      simp only [c_belatedref10_Data, C_ops, C_cond, D_ret, normal_some, cond_tt, E_nil, E_cons, E_guard, next_some, guard_ff, guard_ft, ev_tmp, ev_const, get_succ, get_zero, List.set_cons_succ, List.set_cons_zero, O_mv, O_pick, pickO, O_bin, pairO, O_len, B_lss, B_geq, List.cons_append, List.nil_append, List.length_cons, List.length_nil, Nat.reduceAdd, Nat.reduceSub, Nat.zero_add, W_some, W_seq, Q_cont_normal, Q_cont_ret, Q_ret, fillU_zero, fillU_succ, h0, h1, e.len, decide_true, decide_false]; rfl
  · rw [atP_in hn]
    obtain ⟨m, b, o, v, b', o', v', hm, a1, a2, a3, d1, d2, d3⟩ := e.rd hn
    have h0 : ¬ ((n : Int) < 0) := by omega
    have h1 : ¬ ((ps.length : Int) ≤ (n : Int)) := by omega
    have d7 := read1_of d3 (insL_2 ps[n])
    cases hme : writesV ps[n]
    · simp only [c_belatedref10_Data, C_ops, C_cond, D_ret, normal_some, cond_tt, E_nil, E_cons, E_guard, next_some, guard_ff, ev_tmp, ev_const, get_succ, get_zero, List.set_cons_succ, List.set_cons_zero, O_mv, O_pick, pickO, O_bin, pairO, O_un, O_call, List.map_cons, List.map_nil, O_len, O_atRow, O_load1, load1_ptr, O_load, load_ptr, B_lss, B_geq, U_not, List.cons_append, List.nil_append, List.length_cons, List.length_nil, Nat.reduceAdd, Nat.reduceSub, Nat.zero_add, Bool.not_false, W_some, W_seq, Q_cont_normal, Q_cont_ret, Q_ret, fillU_zero, fillU_succ, Option.map_some, h0, h1, e.len, decide_false, a1, a3, d1, d3, ref_Writes_c, hme, Bool.false_eq_true, if_false]; rfl
    · simp only [c_belatedref10_Data, C_ops, C_cond, D_ret, D_skip, normal_some, cond_ff, E_nil, E_cons, E_guard, next_some, guard_ff, ev_tmp, ev_const, get_succ, get_zero, List.set_cons_succ, List.set_cons_zero, O_mv, O_pick, pickO, O_bin, pairO, O_un, O_call, List.map_cons, List.map_nil, O_len, O_atRow, O_load1, load1_ptr, O_load, load_ptr, B_lss, B_geq, U_not, List.cons_append, List.nil_append, List.length_cons, List.length_nil, Nat.reduceAdd, Nat.reduceSub, Nat.zero_add, Bool.not_true, W_some, W_seq, Q_cont_normal, Q_ret, O_off, off_ptr, fillU_zero, fillU_succ, Option.map_some, eq_self, h0, h1, e.len, decide_false, a1, a3, d1, d3, d7, ref_Writes_c, hme, ref_hang1 h8 h2 n ps[n].a h e, if_true]
theorem hangP_lt (h8 : ps.length ≤ 8) (k : Nat) (r : Int) : hangP ps k r < 256 := hangF_lt h8 _ _ _
theorem ctrlN_lt (h8 : ps.length ≤ 8) : ∀ k, ctrlN ps k < 256
  | 0 => by simp [ctrlN]
  | k + 1 => by
    refine Nat.or_lt_two_pow (n := 8) (ctrlN_lt h8 k) ?_
    unfold brAt
    cases ps[k]? with
    | none => simp
    | some i => simp only; split
                · exact hangP_lt h8 _ _
                · omega
theorem ctrl_yes {k : Nat} (hk : k < ps.length) (h9 : (ps[k].op == 9) = true) : ctrlN ps (k + 1) = ctrlN ps k ||| hangP ps k ps[k].a := by
  show ctrlN ps k ||| brAt ps k = _
  unfold brAt; rw [List.getElem?_eq_getElem hk]; simp only; rw [h9, if_pos rfl]
theorem ctrl_no {k : Nat} (hk : k < ps.length) (h9 : (ps[k].op == 9) = false) : ctrlN ps (k + 1) = ctrlN ps k := by
  show ctrlN ps k ||| brAt ps k = _
  unfold brAt; rw [List.getElem?_eq_getElem hk]; simp only; rw [h9, if_neg (by simp), Nat.or_zero]
set_option maxHeartbeats 1000000 in
theorem flow_Ctrl_c (h8 : ps.length ≤ 8) (e : On h c p code path ps) (place : Int) : DF FF n_flow_Ctrl [c, p, .int .i64 place] h = some (.int .i64 (ctrlV ps place : Nat), h) := by
  refine fun_wpU F_flow_Ctrl ?_
  unfold ctrlV
  have e1 : (if 0 < (if (ps.length : Int) < place then (ps.length : Int) else place) then (if (ps.length : Int) < place then (ps.length : Int) else place) else 0) = ((cap ps place : Nat) : Int) := by
    unfold cap; split <;> split <;> omega
  have hcap : cap ps place ≤ ps.length := Nat.min_le_right _ _
  simp only [c_flow_Ctrl, C_ops, normal_some, E_nil, E_cons, next_some, ev_tmp, ev_const, get_succ, get_zero, List.set_cons_succ, List.set_cons_zero, O_mv, O_len, List.cons_append, List.nil_append, List.length_cons, List.length_nil, Nat.reduceAdd, Nat.reduceSub, Nat.zero_add, W_some, W_seq, W_block, Q_cont_normal, fillU_zero, fillU_succ, List.append_assoc, O_max2, max_int, O_min2, min_int, e.len, e1]
  refine for_wp (cap ps place) (fun k st => ∃ (J : Heap) (j : Nat → Value), st = ⟨[c, p, j 2, j 3, j 4, j 5, j 6, .int .i64 (ctrlN ps k : Nat), j 8, j 9, j 10, j 11, j 12, j 13, j 14, .int .i64 (cap ps place : Nat), .int .i64 (k : Int), j 17, j 18, j 19, j 20, j 21, j 22, j 23, j 24, j 25, j 26, j 27, j 28, j 29, j 30, j 31, j 32, j 33, j 34, j 35, j 36, j 37, j 38, j 39, j 40, j 41, j 42], h ++ J⟩) ?_ ?_ _ ?_
  · rintro k st hk ⟨J, j, rfl⟩
    have hk' : k < ps.length := by omega
    have h1 : (k : Int) < (cap ps place : Int) := by omega
    have hcall := flow_hang1 h8 k ps[k].a ((h ++ J) ++ [.cells (insL ps[k]) 0 false]) ((e.more J).more _)
    simp only [List.cons_append, List.nil_append, List.length_cons, List.length_nil, Nat.zero_add, List.append_assoc, List.length_append] at hcall
    have hb1 := ctrlN_lt h8 k
    have hb2 := hangP_lt h8 k ps[k].a
    cases h9 : (ps[k].op == 9)
    · have hs := ctrl_no hk' h9
      simp only [C_ops, C_cond, D_skip, normal_some, cond_tt, cond_ff, E_nil, E_cons, E_guard, next_some, next_none, guard_tt, ev_tmp, ev_const, get_succ, get_zero, List.set_cons_succ, List.set_cons_zero, O_mv, O_pick, pickO, O_bin, pairO, O_call, List.map_cons, List.map_nil, O_load1, load1_ptr, B_add, B_eql, B_lss, List.cons_append, List.nil_append, List.length_cons, List.length_nil, Nat.reduceAdd, Nat.zero_add, W_some, W_seq, W_block, Q_cont_normal, Q_block_normal, O_alloc, O_off, off_ptr, O_extract, extract_tup, wrote_some, O_store, store_agg, read1_skip, read1_skip0, read1_there, pre_some, write_skip, write_skip0, write_there, List.append_assoc, List.length_append, Nat.add_zero, List.getElem?_cons_zero, List.getElem?_cons_succ, eq_self, Q_for_normal, h1, decide_true, flow_ins_in (e.more J) hk', insL_len, List.replicate_succ, List.replicate_zero, insL_0, h9, wrap_nat (k := k) (by omega), hs]
      exact ⟨_, junk rfl⟩
    · have hs := ctrl_yes hk' h9
      simp only [C_ops, C_cond, D_skip, normal_some, cond_tt, E_nil, E_cons, E_guard, next_some, next_none, guard_tt, ev_tmp, ev_const, get_succ, get_zero, List.set_cons_succ, List.set_cons_zero, O_mv, O_pick, pickO, O_bin, pairO, O_call, List.map_cons, List.map_nil, O_load1, load1_ptr, O_mkRow, mk_some, partsV_nil, partsV_cons, zeros_zero, zeros_succ, fill_nil, fill_int, Nat.lt_add_one, B_add, B_bor, B_eql, B_lss, List.cons_append, List.nil_append, List.length_cons, List.length_nil, Nat.reduceAdd, Nat.zero_add, W_some, W_seq, W_block, Q_cont_normal, Q_block_normal, slc, O_alloc, O_off, off_ptr, O_extract, extract_tup, wrote_some, O_store, store_agg, read1_skip, read1_skip0, read1_there, pre_some, write_skip, write_skip0, write_there, List.append_assoc, List.length_append, List.append_nil, Nat.add_zero, List.getElem?_cons_zero, List.getElem?_cons_succ, eq_self, Q_for_normal, h1, decide_true, flow_ins_in (e.more J) hk', insL_len, List.replicate_succ, List.replicate_zero, insL_0, insL_2, h9, hcall, or_nat hb1 hb2, wrap_nat (k := k) (by omega), hs]
      exact ⟨_, junk rfl⟩
  · rintro st ⟨J, j, rfl⟩
    have h1 : ¬ ((cap ps place : Nat) : Int) < (cap ps place : Nat) := by omega
    simp only [C_ops, C_cond, D_exit, D_ret, normal_some, cond_ff, E_nil, E_cons, next_some, ev_tmp, get_succ, get_zero, List.set_cons_succ, List.set_cons_zero, O_mv, O_bin, pairO, B_lss, W_some, W_seq, Q_cont_normal, Q_cont_exit, Q_block_exit, Q_for_exit, h1, decide_false]
    rw [Q_more _ _ _ _ _ rfl]; rfl
  · exact ⟨[], junkh rfl (by simp)⟩
set_option maxHeartbeats 1000000 in
theorem ref_Ctrl_c (h8 : ps.length ≤ 8) (h2 : OneA ps) (e : On h c p code path ps) (place : Int) : DF FF n_belatedref10_Ctrl [c, p, .int .i64 place] h = some (.int .i64 (ctrlV ps place : Nat), h) := by
  refine fun_wpU F_belatedref10_Ctrl ?_
  unfold ctrlV
  have hcap : cap ps place ≤ ps.length := Nat.min_le_right _ _
  simp only [c_belatedref10_Ctrl, C_ops, normal_some, E_nil, E_cons, next_some, ev_const, List.set_cons_succ, List.set_cons_zero, O_mv, List.cons_append, List.nil_append, List.length_cons, List.length_nil, Nat.reduceAdd, Nat.reduceSub, Nat.zero_add, W_some, W_seq, W_block, Q_cont_normal, fillU_zero, fillU_succ]
  refine for_wp (cap ps place) (fun k st => ∃ (j : Nat → Value), st = ⟨[c, p, .int .i64 place, j 3, j 4, j 5, j 6, .int .i64 (ctrlN ps k : Nat), .int .i64 (k : Int), j 9, j 10, j 11, j 12, j 13, j 14, j 15, j 16, j 17, j 18, j 19, j 20, j 21, j 22, j 23, j 24, j 25, j 26, j 27, j 28, j 29, j 30, j 31, j 32, j 33, j 34, j 35, j 36, j 37, j 38, j 39, j 40, j 41, j 42, j 43], h⟩) ?_ ?_ _ ?_
  · rintro k st hk ⟨j, rfl⟩
    have hk' : k < ps.length := by omega
    have h1 : (k : Int) < place := by unfold cap at hk; omega
    have h3 : (k : Int) < (ps.length : Int) := by omega
    obtain ⟨m, b, o, v, b', o', v', hm, a1, a2, a3, d1, d2, d3⟩ := e.rd hk'
    have q0 := read1_of0 d3 (insL_0 ps[k])
    have q2 := read1_of d3 (insL_2 ps[k])
    have hb1 := ctrlN_lt h8 k
    have hb2 := hangP_lt h8 k ps[k].a
    cases h9 : (ps[k].op == 9)
    · have hs := ctrl_no hk' h9
      simp only [C_ops, C_cond, D_skip, normal_some, cond_tt, cond_ff, E_nil, E_cons, E_guard, next_some, guard_tt, ev_tmp, ev_const, get_succ, get_zero, List.set_cons_succ, List.set_cons_zero, O_mv, O_pick, pickO, O_bin, pairO, O_len, O_atRow, O_load1, load1_ptr, B_add, B_eql, B_lss, W_some, W_seq, W_block, Q_cont_normal, Q_block_normal, O_off, off_ptr, Nat.add_zero, Q_for_normal, h1, h3, decide_true, e.len, a1, a3, d1, q0, h9, wrap_nat (k := k) (by omega), hs]
      exact junk rfl
    · have hs := ctrl_yes hk' h9
      simp only [C_ops, C_cond, D_skip, normal_some, cond_tt, E_nil, E_cons, E_guard, next_some, guard_tt, ev_tmp, ev_const, get_succ, get_zero, List.set_cons_succ, List.set_cons_zero, O_mv, O_pick, pickO, O_bin, pairO, O_call, List.map_cons, List.map_nil, O_len, O_atRow, O_load1, load1_ptr, B_add, B_bor, B_eql, B_lss, W_some, W_seq, W_block, Q_cont_normal, Q_block_normal, O_off, off_ptr, Nat.add_zero, Q_for_normal, h1, h3, decide_true, e.len, a1, a3, d1, q0, q2, h9, ref_hang1 h8 h2 k ps[k].a h e, or_nat hb1 hb2, wrap_nat (k := k) (by omega), hs]
      exact junk rfl
  · rintro st ⟨j, rfl⟩
    by_cases h1 : ((cap ps place : Nat) : Int) < place
    · have h3 : ¬ (((cap ps place : Nat) : Int) < (ps.length : Int)) := by unfold cap at h1 ⊢; omega
      simp only [C_ops, C_cond, D_exit, D_ret, normal_some, cond_ff, E_nil, E_cons, E_guard, next_some, guard_tt, ev_tmp, get_succ, get_zero, List.set_cons_succ, List.set_cons_zero, O_mv, O_pick, pickO, O_bin, pairO, O_len, B_lss, W_some, W_seq, Q_cont_normal, Q_cont_exit, Q_block_exit, Q_ret, eq_self, Q_for_exit, h1, h3, decide_true, decide_false, e.len]
    · simp only [C_ops, C_cond, D_exit, D_ret, normal_some, cond_ff, E_nil, E_cons, E_guard, next_some, guard_tf, ev_tmp, ev_const, get_succ, get_zero, List.set_cons_succ, List.set_cons_zero, O_mv, O_pick, pickO, O_bin, pairO, B_lss, W_some, W_seq, Q_cont_normal, Q_cont_exit, Q_block_exit, Q_ret, eq_self, Q_for_exit, h1, decide_false]
  · exact junk rfl
end
end Go.Proofs.Ytoeoahpngmhkdaa.AM
