/-
  The uir laws' trial of a small code.
  Conditions: none.
-/
import Derived.Test.YtjodnadlplicmaaUb4
namespace Go.Proofs.Ytjodnadlplicmaa.AM
open Go.RowKit
set_option linter.unusedSimpArgs false
set_option linter.unusedVariables false

def ac0 : Ins := ⟨1, 1, -1, -1, 5, 0, 0, -1, 0, 0, false, false, false, 0, 0, 0, false⟩
def ac1 : Ins := ⟨5, -1, 1, -1, 0, 0, 0, -1, 8, 0, false, false, false, 0, 0, 0, false⟩
theorem fill_ins2 (a b : Ins) : fillRow (zeros (insL zeroI) 2) [(0, 17, agg (insL a)), (17, 17, agg (insL b))] = some (insL a ++ insL b) :=
  fill_whole2 (c := 17) (z := insL zeroI) rfl rfl rfl
theorem fill_able2 : fillRow [.int .i64 0, .int .i64 0, .int .i64 0, .int .i64 0, .int .i64 0, .int .i64 0, .int .i64 0, .int .i64 0, .int .i64 0, .int .i64 0, .bool false, .bool false, .bool false, .int .i64 0, .int .i64 0, .int .i64 0, .bool false, .int .i64 0, .int .i64 0, .int .i64 0, .int .i64 0, .int .i64 0, .int .i64 0, .int .i64 0, .int .i64 0, .int .i64 0, .int .i64 0, .bool false, .bool false, .bool false, .int .i64 0, .int .i64 0, .int .i64 0, .bool false] [(0, 17, agg [.int .i64 1, .int .i64 1, .int .i64 (-1), .int .i64 (-1), .int .i64 5, .int .i64 0, .int .i64 0, .int .i64 (-1), .int .i64 0, .int .i64 0, .bool false, .bool false, .bool false, .int .i64 0, .int .i64 0, .int .i64 0, .bool false]), (17, 17, agg [.int .i64 5, .int .i64 (-1), .int .i64 1, .int .i64 (-1), .int .i64 0, .int .i64 0, .int .i64 0, .int .i64 (-1), .int .i64 8, .int .i64 0, .bool false, .bool false, .bool false, .int .i64 0, .int .i64 0, .int .i64 0, .bool false])] = some (insL ac0 ++ insL ac1) := fill_ins2 ac0 ac1
theorem able3_right : rightC [ac0, ac1] = true := by decide
def ableE : Ev := ⟨1, 1, 5, 0, 255, false, true, 0, 5, false, false, false, 0, 0⟩
def ableS : LS := ⟨2, [0, 5, 0, 0, 0, 0, 0, 0], [], [0, 1], [ableE]⟩
theorem able3_local : localV [ac0, ac1] [0, 0, 0, 0, 0, 0, 0, 0] [] = some ableS := by rfl
theorem InsSl_able2 (h : Heap) : InsSl (h ++ [.cells (insL ac0 ++ insL ac1) 0 false]) (.slice (some ⟨h.length, 0, some 0⟩) 2 17) [ac0, ac1] := by
  refine ⟨.inr ⟨h.length, 0, 0, rfl, ?_⟩, by simp [insL_len]⟩
  unfold Heap.read
  simp [insL_len]
  rfl
theorem Codes_nil (h : Heap) : Codes h (.slice none 0 0) [] := ⟨[], ⟨.inl ⟨rfl, rfl⟩, by simp⟩, rfl, fun k v d hv hd => by simp at hd⟩
set_option maxHeartbeats 4000000 in
set_option maxRecDepth 20000 in
theorem law3_able_c (h : Heap) : DF FF n_belatedlaw3_able [] h = some (.bool true, h) := by
  refine fun_wpU F_belatedlaw3_able ?_
  have hc := InsSl_able2 h
  have hn : IntS (h ++ [.cells (insL ac0 ++ insL ac1) 0 false]) (.slice none 0 0) [] := ⟨.inl ⟨rfl, rfl⟩, by simp⟩
  obtain ⟨v, H', h1, h2⟩ := uir_Local_c hc (by simp) (R := [0, 0, 0, 0, 0, 0, 0, 0]) rfl hn (by simp)
  have h1 : DF FF n_uir_Local [.slice (some ⟨h.length, 0, some 0⟩) 2 17, agg [.int .i64 0, .int .i64 0, .int .i64 0, .int .i64 0, .int .i64 0, .int .i64 0, .int .i64 0, .int .i64 0], .slice none 0 0] (h ++ [.cells (insL ac0 ++ insL ac1) 0 false]) = some (v, H') := h1
  unfold LocalR at h2
  rw [if_pos able3_right, able3_local] at h2
  obtain ⟨evs, path, rfl, op, oe, pH⟩ := h2
  have pH2 : Pre h H' := ((Pre.refl h).more _).trans pH
  have l1 : ∀ K, lenO K evs = some (.int .i64 1, K) := fun K => by rw [oe.len]; rfl
  have l2 : ∀ K, lenO K path = some (.int .i64 2, K) := fun K => by rw [op.len]; rfl
  obtain ⟨b, o, w, d1, d2⟩ := oe.sl.at (k := 0) (by simp [ableS])
  have d1 : ∀ K, rowO K 15 evs (.int .i64 0) = some (.pointer (some ⟨b, o, some w⟩), K) := d1
  have d2 : ∀ L, Heap.read (H' ++ L) ⟨b, o, some w⟩ 15 = some (evL ableE) := d2
  have e9 : ∀ L, Heap.read1 (H' ++ L) ⟨b, o + 9, some w⟩ = some (.int .i64 5) := fun L => read1_of (d2 L) rfl
  have e5 : ∀ L, Heap.read1 (H' ++ L) ⟨b, o + 4 + 1, some w⟩ = some (.int .i64 255) := fun L => read1_of (o := o) (i := 5) (d2 L) rfl
  obtain ⟨c0, q0, w0, f1, f2, f3⟩ := (hc.pre pH).at (k := 0) (by simp)
  obtain ⟨c1, q1, w1, g1, g2, g3⟩ := (hc.pre pH).at (k := 1) (by simp)
  have f1 : ∀ K, rowO K 17 (.slice (some ⟨h.length, 0, some 0⟩) 2 17) (.int .i64 0) = some (.pointer (some ⟨c0, q0, some w0⟩), K) := f1
  have g1 : ∀ K, rowO K 17 (.slice (some ⟨h.length, 0, some 0⟩) 2 17) (.int .i64 1) = some (.pointer (some ⟨c1, q1, some w1⟩), K) := g1
  have f2 : ∀ L, Heap.read (H' ++ L) ⟨c0, q0, some w0⟩ 17 = some (insL ac0) := f2
  have g2 : ∀ L, Heap.read (H' ++ L) ⟨c1, q1, some w1⟩ 17 = some (insL ac1) := g2
  have ck : ∀ K, DF FF n_uir_Check [.slice none 0 0] K = some (tup [.int .i64 0, .int .i64 0, .int .i64 30], K) := fun K => uir_Check_c [] _ K (Codes_nil K) (by simp) (by simp)
  have kw : writesV ac1 = true := rfl
  have kg : givesV ac0 = 1 := rfl
  have aR : ∀ K, arrO K 8 1 (.pointer (some ⟨H'.length, 0, some 0⟩)) (.int .i64 1) = some (.pointer (some ⟨H'.length, 1, some 0⟩), K) := fun K => arr_nat (k := 1) K (by omega)
  have rl : (regsL ableS.R).length = 8 := rfl
  have r1 : (regsL ableS.R)[1]? = some (.int .i64 5) := rfl
  simp only [c_belatedlaw3_able, C_ops, D_ret, normal_some, E_nil, E_cons, E_guard, next_some, next_none, guard_tt, ev_tmp, ev_const, get_succ, get_zero, List.set_cons_succ, List.set_cons_zero, O_mv, O_pick, pickO, O_bin, pairO, O_call, List.map_cons, List.map_nil, O_len, O_atRow, O_load1, load1_ptr, O_load, load_ptr, O_mkRow, O_build, mk_some, build_some, partsV_nil, partsV_cons, zeros_zero, zeros_succ, fill_nil, fill_int, Nat.zero_lt_succ, Nat.reduceLT, B_eql, B_neq, List.cons_append, List.nil_append, List.length_cons, List.length_nil, Nat.reduceAdd, Nat.reduceSub, Nat.zero_add, W_some, W_seq, Q_cont_normal, slc, O_alloc, O_atArr, O_off, off_ptr, O_extract, extract_tup, wrote_some, O_store, store_agg, read1_skip0, read1_there, pre_some, write_skip0, write_there, fillU_zero, fillU_succ, List.append_nil, Option.map_some, List.getElem?_cons_zero, List.getElem?_cons_succ, beq_self_eq_true, eq_self, List.replicate_succ, List.replicate_zero, fill_able2, h1, ck, l1, l2, d1, e9, e5, f1, f2, g1, g2, uir_Writes_c, uir_Gives_c, kw, kg, aR, rl, r1, Int.reduceBNe]
  rw [Q_pre (pH2.more _) _ _ _ rfl]; rfl
end Go.Proofs.Ytjodnadlplicmaa.AM
