/-
  The small functions of the bits: what they come to.
    Conditions: none.
-/
import Derived.Test.YtjodnadlplicmaaCode
import Derived.Test.YtjodnadlplicmaaAa
import Derived.Test.YtjodnadlplicmaaTb
namespace Go.Proofs.Ytjodnadlplicmaa.AM
open Go.RowKit
set_option linter.unusedSimpArgs false
set_option linter.unusedVariables false

def sized (n : Int) : Bool := n == 1 || n == 2 || n == 4 || n == 8
theorem sized_cases {n : Int} (h : sized n = true) : n = 1 ∨ n = 2 ∨ n = 4 ∨ n = 8 := by
  simpa [sized, or_assoc] using h

theorem size30 (n : Int) (h : Heap) : DF FF n_bits_sized [.int .i64 n] h = some (.bool (sized n), h) := by
  rw [DF_eq F_bits_sized]
  cases h1 : n == 1 <;> cases h2 : n == 2 <;> cases h3 : n == 4 <;> simp only [c_bits_sized, D_seq, then_normal, C_ops, D_ret, normal_some, E_nil, E_cons, E_guard, next_some, guard_ff, guard_ft, ev_tmp, ev_const, get_succ, get_zero, List.set_cons_succ, List.set_cons_zero, O_mv, O_pick, pickO, O_bin, pairO, B_eql, List.cons_append, List.nil_append, List.replicate_succ, List.replicate_zero, List.length_cons, List.length_nil, Nat.reduceSub, Nat.zero_add, end_ret, Bool.false_or, Bool.or_false, Bool.true_or, Bool.or_true, sized, h1, h2, h3]
theorem size31 (n : Int) (h : Heap) : DF FF n_belatedref1_size [.int .i64 n] h = some (.bool (sized n), h) := by
  rw [DF_eq F_belatedref1_size]
  cases h1 : n == 1 <;> cases h2 : n == 2 <;> cases h3 : n == 4 <;> simp only [c_belatedref1_size, D_seq, then_normal, C_ops, D_ret, normal_some, E_nil, E_cons, E_guard, next_some, guard_ff, guard_ft, ev_tmp, ev_const, get_succ, get_zero, List.set_cons_succ, List.set_cons_zero, O_mv, O_pick, pickO, O_bin, pairO, B_eql, List.cons_append, List.nil_append, List.replicate_succ, List.replicate_zero, List.length_cons, List.length_nil, Nat.reduceSub, Nat.zero_add, end_ret, Bool.false_or, Bool.or_false, Bool.true_or, Bool.or_true, sized, h1, h2, h3]
theorem low28 (v n : Int) (h : Heap) (h0 : 0 ≤ IntKind.i64.wrap (8 * n)) : DF FF n_bits_low [.int .i64 v, .int .i64 n] h = some (.int .i64 (if n = 8 then v else Go.bits .and .i64 v (IntKind.i64.wrap (shl .i64 1 (IntKind.i64.wrap (8 * n)) - 1))), h) := by
  rw [DF_eq F_bits_low]
  have hs := B_shl' .i64 1 _ .i64 h0
  by_cases h1 : n = 8
  · have h2 : (n == 8) = true := by simpa using h1
    simp only [c_bits_low, D_seq, then_normal, then_ret, C_ops, C_cond, D_ret, normal_some, cond_tt, E_nil, E_cons, next_some, ev_tmp, ev_const, get_succ, get_zero, List.set_cons_succ, List.set_cons_zero, O_mv, O_bin, pairO, B_eql, List.cons_append, List.nil_append, List.replicate_succ, List.replicate_zero, List.length_cons, List.length_nil, Nat.reduceAdd, Nat.reduceSub, Nat.zero_add, end_ret, h2, if_pos h1]
  · have h2 : (n == 8) = false := by simpa using h1
    simp only [c_bits_low, D_seq, then_normal, C_ops, C_cond, D_ret, D_skip, normal_some, cond_ff, E_nil, E_cons, next_some, ev_tmp, ev_const, get_succ, get_zero, List.set_cons_succ, List.set_cons_zero, O_mv, O_bin, pairO, B_sub, B_mul, B_band, B_eql, List.cons_append, List.nil_append, List.replicate_succ, List.replicate_zero, List.length_cons, List.length_nil, Nat.reduceAdd, Nat.reduceSub, Nat.zero_add, end_ret, h2, hs, if_neg h1]
theorem byte29 (v k : Int) (h : Heap) (h0 : 0 ≤ IntKind.i64.wrap (8 * k)) : DF FF n_belatedref1_Byte [.int .i64 v, .int .i64 k] h = some (.int .i64 (Go.bits .and .i64 (shr .i64 v (IntKind.i64.wrap (8 * k))) 255), h) := by
  rw [DF_eq F_belatedref1_Byte]
  have hs := B_shr' .i64 v _ .i64 h0
  simp only [c_belatedref1_Byte, D_seq, then_normal, C_ops, D_ret, normal_some, E_nil, E_cons, next_some, ev_tmp, ev_const, get_succ, get_zero, List.set_cons_succ, List.set_cons_zero, O_mv, O_bin, pairO, B_mul, B_band, List.cons_append, List.nil_append, List.replicate_succ, List.replicate_zero, List.length_cons, List.length_nil, Nat.reduceAdd, Nat.reduceSub, Nat.zero_add, end_ret, hs]
end Go.Proofs.Ytjodnadlplicmaa.AM

namespace Go.Proofs.Ytjodnadlplicmaa.AM
open Go.RowKit
set_option linter.unusedSimpArgs false
set_option linter.unusedVariables false

def okAt (off n : Int) : Bool := sized n && decide (0 ≤ off) && decide (off ≤ 8 - n) && decide (off.tmod n = 0)
/-- The mask, by number. -/
def maskV (off n : Int) : Int := if okAt off n then (2 ^ n.toNat - 1) * 2 ^ off.toNat else 0
theorem ok_cases {off n : Int} (h : okAt off n = true) : (n = 1 ∧ (off = 0 ∨ off = 1 ∨ off = 2 ∨ off = 3 ∨ off = 4 ∨ off = 5 ∨ off = 6 ∨ off = 7)) ∨ (n = 2 ∧ (off = 0 ∨ off = 2 ∨ off = 4 ∨ off = 6)) ∨ (n = 4 ∧ (off = 0 ∨ off = 4)) ∨ (n = 8 ∧ off = 0) := by
  unfold okAt at h
  simp only [Bool.and_eq_true, decide_eq_true_eq] at h
  obtain ⟨⟨⟨h1, h2⟩, h3⟩, h4⟩ := h
  rw [Int.tmod_eq_emod_of_nonneg h2] at h4
  rcases sized_cases h1 with rfl | rfl | rfl | rfl <;> omega
/-- What holds of the fifteen places holds of every one. -/
theorem ok_all {p : Int → Int → Prop} (h : ∀ q ∈ [((0 : Int), (1 : Int)), (1, 1), (2, 1), (3, 1), (4, 1), (5, 1), (6, 1), (7, 1), (0, 2), (2, 2), (4, 2), (6, 2), (0, 4), (4, 4), (0, 8)], p q.1 q.2) {off n : Int} (hk : okAt off n = true) : p off n := by
  rcases ok_cases hk with ⟨rfl, rfl | rfl | rfl | rfl | rfl | rfl | rfl | rfl⟩ | ⟨rfl, rfl | rfl | rfl | rfl⟩ | ⟨rfl, rfl | rfl⟩ | ⟨rfl, rfl⟩ <;>
  · exact h (_, _) (by simp only [List.mem_cons, Prod.mk.injEq, List.not_mem_nil, or_false, Int.reduceEq, and_self, and_false, and_true, or_true])

theorem mask22_ok {off n : Int} (hk : okAt off n = true) (h : Heap) : DF FF n_bits_Mask [.int .i64 off, .int .i64 n] h = some (.int .i64 (maskV off n), h) := by
  refine ok_all (p := fun off n => DF FF n_bits_Mask [.int .i64 off, .int .i64 n] h = some (.int .i64 (maskV off n), h)) ?_ hk
  intro q hq
  simp only [List.mem_cons, List.not_mem_nil, or_false] at hq
  rcases hq with rfl | rfl | rfl | rfl | rfl | rfl | rfl | rfl | rfl | rfl | rfl | rfl | rfl | rfl | rfl <;>
  · rw [DF_eq F_bits_Mask]
    simp only [c_bits_Mask, D_seq, then_normal, C_ops, C_cond, D_ret, D_skip, normal_some, cond_ff, E_nil, E_cons, E_guard, next_some, guard_ff, ev_tmp, ev_const, get_succ, get_zero, List.set_cons_succ, List.set_cons_zero, O_mv, O_pick, pickO, O_bin, pairO, O_un, O_call, List.map_cons, List.map_nil, B_sub, B_neq, B_lss, B_gtr, B_shl', B_rem, U_not, List.cons_append, List.nil_append, List.replicate_succ, List.replicate_zero, List.length_cons, List.length_nil, Nat.reduceAdd, Nat.reduceSub, Nat.zero_add, end_ret, Bool.or_false, Bool.or_true, Bool.not_true, shl, IntKind.wrap_i64, IntKind.bits, Int.reduceAdd, Int.reduceSub, Int.reduceMul, Int.reduceMod, Int.reduceTMod, Int.reduceLT, Int.reduceLE, Int.reduceBEq, Int.reduceBNe, Int.reduceToNat, Int.reducePow, Int.reduceEq, Nat.reduceLeDiff, decide_false, ne_eq, not_false_eq_true, reduceIte, Nat.min_def, size30, sized]
    rfl
theorem mask23_ok {off n : Int} (hk : okAt off n = true) (h : Heap) : DF FF n_belatedref1_Mask [.int .i64 off, .int .i64 n] h = some (.int .i64 (maskV off n), h) := by
  refine ok_all (p := fun off n => DF FF n_belatedref1_Mask [.int .i64 off, .int .i64 n] h = some (.int .i64 (maskV off n), h)) ?_ hk
  intro q hq
  simp only [List.mem_cons, List.not_mem_nil, or_false] at hq
  rcases hq with rfl | rfl | rfl | rfl | rfl | rfl | rfl | rfl | rfl | rfl | rfl | rfl | rfl | rfl | rfl <;>
  · rw [DF_eq F_belatedref1_Mask]
    simp only [c_belatedref1_Mask, D_seq, D_block, then_normal, then_exit, block_normal, block_exit, C_ops, C_cond, D_exit, D_ret, D_skip, normal_some, cond_tt, cond_ff, E_nil, E_cons, E_guard, next_some, guard_ff, ev_tmp, ev_const, get_succ, get_zero, List.set_cons_succ, List.set_cons_zero, O_mv, O_pick, pickO, O_bin, pairO, O_un, O_call, List.map_cons, List.map_nil, B_add, B_sub, B_bor, B_neq, B_lss, B_gtr, B_shl', B_rem, U_not, List.cons_append, List.nil_append, List.replicate_succ, List.replicate_zero, List.length_cons, List.length_nil, Nat.reduceAdd, Nat.reduceSub, Nat.zero_add, end_ret, Bool.or_false, Bool.or_true, Bool.not_true, shl, IntKind.wrap_i64, IntKind.bits, Int.reduceAdd, Int.reduceSub, Int.reduceMul, Int.reduceMod, Int.reduceTMod, Int.reduceLT, Int.reduceLE, Int.reduceBEq, Int.reduceBNe, Int.reduceToNat, Int.reducePow, Int.reduceEq, Nat.reduceLeDiff, decide_true, decide_false, ne_eq, not_false_eq_true, reduceIte, Nat.min_def, size31, sized, D_loop]
    rfl
theorem wrap_small {n : Int} (h : -9223372036854775808 ≤ n ∧ n ≤ 9223372036854775807) : IntKind.i64.wrap n = n := wrap_in h
/-- Where it lies nowhere. -/
theorem mask22_no {off n : Int} (hk : okAt off n = false) (h : Heap) : DF FF n_bits_Mask [.int .i64 off, .int .i64 n] h = some (.int .i64 0, h) := by
  rw [DF_eq F_bits_Mask]
  cases h1 : sized n
  · simp only [c_bits_Mask, D_seq, then_normal, then_ret, C_ops, C_cond, D_ret, normal_some, cond_tt, E_nil, E_cons, E_guard, next_some, guard_ft, ev_tmp, ev_const, get_succ, get_zero, List.set_cons_succ, List.set_cons_zero, O_mv, O_pick, pickO, pairO, O_un, O_call, List.map_cons, List.map_nil, U_not, List.cons_append, List.nil_append, List.replicate_succ, List.replicate_zero, List.length_cons, List.length_nil, Nat.reduceAdd, Nat.reduceSub, Nat.zero_add, end_ret, Bool.not_false, size30, h1]
  · have hn := sized_cases h1
    have hw : IntKind.i64.wrap (8 - n) = 8 - n := wrap_small (by omega)
    have hz : n ≠ 0 := by omega
    by_cases h2 : off < 0
    · simp only [c_bits_Mask, D_seq, then_normal, then_ret, C_ops, C_cond, D_ret, normal_some, cond_tt, E_nil, E_cons, E_guard, next_some, guard_ff, guard_ft, ev_tmp, ev_const, get_succ, get_zero, List.set_cons_succ, List.set_cons_zero, O_mv, O_pick, pickO, O_bin, pairO, O_un, O_call, List.map_cons, List.map_nil, B_lss, U_not, List.cons_append, List.nil_append, List.replicate_succ, List.replicate_zero, List.length_cons, List.length_nil, Nat.reduceAdd, Nat.reduceSub, Nat.zero_add, end_ret, Bool.not_true, size30, h1, h2, decide_true]
    · by_cases h3 : 8 - n < off
      · simp only [c_bits_Mask, D_seq, then_normal, then_ret, C_ops, C_cond, D_ret, normal_some, cond_tt, E_nil, E_cons, E_guard, next_some, guard_ff, guard_ft, ev_tmp, ev_const, get_succ, get_zero, List.set_cons_succ, List.set_cons_zero, O_mv, O_pick, pickO, O_bin, pairO, O_un, O_call, List.map_cons, List.map_nil, B_sub, B_lss, B_gtr, U_not, List.cons_append, List.nil_append, List.replicate_succ, List.replicate_zero, List.length_cons, List.length_nil, Nat.reduceAdd, Nat.reduceSub, Nat.zero_add, end_ret, Bool.not_true, size30, h1, h2, decide_true, decide_false, hw, h3]
      · have h4 : (off.tmod n != 0) = true := by
          cases h5 : off.tmod n != 0
          · have h6 : off.tmod n = 0 := by simpa using h5
            have : okAt off n = true := by
              simp [okAt, h1, h6]; omega
            rw [this] at hk; cases hk
          · rfl
        simp only [c_bits_Mask, D_seq, then_normal, then_ret, C_ops, C_cond, D_ret, normal_some, cond_tt, E_nil, E_cons, E_guard, next_some, guard_ff, ev_tmp, ev_const, get_succ, get_zero, List.set_cons_succ, List.set_cons_zero, O_mv, O_pick, pickO, O_bin, pairO, O_un, O_call, List.map_cons, List.map_nil, B_sub, B_neq, B_lss, B_gtr, B_rem, U_not, List.cons_append, List.nil_append, List.replicate_succ, List.replicate_zero, List.length_cons, List.length_nil, Nat.reduceAdd, Nat.reduceSub, Nat.zero_add, end_ret, Bool.not_true, size30, h1, h2, decide_false, hw, h3, ne_eq, hz, not_false_eq_true, h4]
theorem mask23_no {off n : Int} (hk : okAt off n = false) (h : Heap) : DF FF n_belatedref1_Mask [.int .i64 off, .int .i64 n] h = some (.int .i64 0, h) := by
  rw [DF_eq F_belatedref1_Mask]
  cases h1 : sized n
  · simp only [c_belatedref1_Mask, D_seq, then_normal, then_ret, C_ops, C_cond, D_ret, normal_some, cond_tt, E_nil, E_cons, E_guard, next_some, guard_ft, ev_tmp, ev_const, get_succ, get_zero, List.set_cons_succ, List.set_cons_zero, O_mv, O_pick, pickO, pairO, O_un, O_call, List.map_cons, List.map_nil, U_not, List.cons_append, List.nil_append, List.replicate_succ, List.replicate_zero, List.length_cons, List.length_nil, Nat.reduceAdd, Nat.reduceSub, Nat.zero_add, end_ret, Bool.not_false, size31, h1]
  · have hn := sized_cases h1
    have hw : IntKind.i64.wrap (8 - n) = 8 - n := wrap_small (by omega)
    have hz : n ≠ 0 := by omega
    by_cases h2 : off < 0
    · simp only [c_belatedref1_Mask, D_seq, then_normal, then_ret, C_ops, C_cond, D_ret, normal_some, cond_tt, E_nil, E_cons, E_guard, next_some, guard_ff, guard_ft, ev_tmp, ev_const, get_succ, get_zero, List.set_cons_succ, List.set_cons_zero, O_mv, O_pick, pickO, O_bin, pairO, O_un, O_call, List.map_cons, List.map_nil, B_lss, U_not, List.cons_append, List.nil_append, List.replicate_succ, List.replicate_zero, List.length_cons, List.length_nil, Nat.reduceAdd, Nat.reduceSub, Nat.zero_add, end_ret, Bool.not_true, size31, h1, h2, decide_true]
    · by_cases h3 : 8 - n < off
      · simp only [c_belatedref1_Mask, D_seq, then_normal, then_ret, C_ops, C_cond, D_ret, normal_some, cond_tt, E_nil, E_cons, E_guard, next_some, guard_ff, guard_ft, ev_tmp, ev_const, get_succ, get_zero, List.set_cons_succ, List.set_cons_zero, O_mv, O_pick, pickO, O_bin, pairO, O_un, O_call, List.map_cons, List.map_nil, B_sub, B_lss, B_gtr, U_not, List.cons_append, List.nil_append, List.replicate_succ, List.replicate_zero, List.length_cons, List.length_nil, Nat.reduceAdd, Nat.reduceSub, Nat.zero_add, end_ret, Bool.not_true, size31, h1, h2, decide_true, decide_false, hw, h3]
      · have h4 : (off.tmod n != 0) = true := by
          cases h5 : off.tmod n != 0
          · have h6 : off.tmod n = 0 := by simpa using h5
            have : okAt off n = true := by
              simp [okAt, h1, h6]; omega
            rw [this] at hk; cases hk
          · rfl
        simp only [c_belatedref1_Mask, D_seq, then_normal, then_ret, C_ops, C_cond, D_ret, normal_some, cond_tt, E_nil, E_cons, E_guard, next_some, guard_ff, ev_tmp, ev_const, get_succ, get_zero, List.set_cons_succ, List.set_cons_zero, O_mv, O_pick, pickO, O_bin, pairO, O_un, O_call, List.map_cons, List.map_nil, B_sub, B_neq, B_lss, B_gtr, B_rem, U_not, List.cons_append, List.nil_append, List.replicate_succ, List.replicate_zero, List.length_cons, List.length_nil, Nat.reduceAdd, Nat.reduceSub, Nat.zero_add, end_ret, Bool.not_true, size31, h1, h2, decide_false, hw, h3, ne_eq, hz, not_false_eq_true, h4]
theorem mask22 (off n : Int) (h : Heap) : DF FF n_bits_Mask [.int .i64 off, .int .i64 n] h = some (.int .i64 (maskV off n), h) := by
  cases hk : okAt off n
  · rw [mask22_no hk, maskV, hk]; rfl
  · exact mask22_ok hk h
theorem mask23 (off n : Int) (h : Heap) : DF FF n_belatedref1_Mask [.int .i64 off, .int .i64 n] h = some (.int .i64 (maskV off n), h) := by
  cases hk : okAt off n
  · rw [mask23_no hk, maskV, hk]; rfl
  · exact mask23_ok hk h
end Go.Proofs.Ytjodnadlplicmaa.AM

namespace Go.Proofs.Ytjodnadlplicmaa.AM
open Go.RowKit
set_option linter.unusedSimpArgs false
set_option linter.unusedVariables false

theorem ok_range {off n : Int} (hk : okAt off n = true) : 0 ≤ off ∧ off ≤ 7 ∧ 1 ≤ n ∧ n ≤ 8 ∧ off + n ≤ 8 ∧ sized n = true := by
  rcases ok_cases hk with ⟨rfl, h⟩ | ⟨rfl, h⟩ | ⟨rfl, h⟩ | ⟨rfl, h⟩ <;> exact ⟨by omega, by omega, by omega, by omega, by omega, rfl⟩
theorem mask_ne {off n : Int} (hk : okAt off n = true) : (maskV off n == 0) = false :=
  ok_all (p := fun off n => (maskV off n == 0) = false) (by decide) hk
theorem mask_no {off n : Int} (hk : okAt off n = false) : (maskV off n == 0) = true := by simp [maskV, hk]
theorem wrap8 {k : Int} (h : 0 ≤ k ∧ k ≤ 8) : IntKind.i64.wrap (8 * k) = 8 * k := wrap_small (by omega)

/-- What is taken out, by bits. -/
def getV (v off n : Int) : Int := if okAt off n then ((B v >>> (8 * off.toNat)) &&& BitVec.ofNat 64 (2 ^ (8 * n.toNat) - 1)).toInt else 0
theorem W_getV (v off n : Int) : W (getV v off n) := by
  unfold getV; split
  · exact W_toInt _
  · unfold W; omega
theorem b_lows {n : Nat} (hn : n ≤ 64) {i : Nat} (hi : i < 64) : (BitVec.ofNat 64 (2 ^ n - 1)).getLsbD i = decide (i < n) := by
  rw [BitVec.getLsbD_ofNat, Nat.testBit_two_pow_sub_one]; simp [hi]
theorem b_getV (v : Int) {off n : Int} (hk : okAt off n = true) {i : Nat} (hi : i < 64) : bi (getV v off n) i = (decide (i < 8 * n.toNat) && bi v (8 * off.toNat + i)) := by
  have := ok_range hk
  unfold getV bi
  rw [if_pos hk, B_toInt, BitVec.getLsbD_and, b_lows (by omega) hi, BitVec.getLsbD_ushiftRight, Bool.and_comm]
theorem b_one {i : Nat} (hi : i < 64) : bi 1 i = decide (i = 0) := by
  unfold bi; rw [show B 1 = 1#64 from rfl, BitVec.getLsbD_one]; simp
theorem lowV (v n : Int) (hv : W v) (h1 : 1 ≤ n ∧ n ≤ 8) {i : Nat} (hi : i < 64) :
    bi (if n = 8 then v else Go.bits .and .i64 v (IntKind.i64.wrap (shl .i64 1 (IntKind.i64.wrap (8 * n)) - 1))) i = (decide (i < 8 * n.toNat) && bi v i) := by
  split
  · subst n; simp; intro _; omega
  · rw [b_and, b_wrap, wrap8 (by omega), Bool.and_comm]
    congr 1
    have e : shl .i64 1 (8 * n) - 1 = ((2 ^ (8 * n.toNat) - 1 : Nat) : Int) := by
      have : n = 1 ∨ n = 2 ∨ n = 3 ∨ n = 4 ∨ n = 5 ∨ n = 6 ∨ n = 7 := by omega
      rcases this with rfl | rfl | rfl | rfl | rfl | rfl | rfl <;> rfl
    rw [e]
    unfold bi B
    rw [BitVec.ofInt_natCast, b_lows (by omega) hi]
theorem W_low (v n : Int) (hv : W v) : W (if n = 8 then v else Go.bits .and .i64 v (IntKind.i64.wrap (shl .i64 1 (IntKind.i64.wrap (8 * n)) - 1))) := by
  split
  · exact hv
  · exact W_bits _ _ _

theorem get10 (v off n : Int) (h : Heap) : DF FF n_bits_Get [.int .i64 v, .int .i64 off, .int .i64 n] h = some (.int .i64 (getV v off n), h) := by
  rw [DF_eq F_bits_Get]
  cases hk : okAt off n
  · simp only [c_bits_Get, D_seq, then_normal, then_ret, C_ops, C_cond, D_ret, normal_some, cond_tt, E_nil, E_cons, next_some, ev_tmp, ev_const, get_succ, get_zero, List.set_cons_succ, List.set_cons_zero, O_mv, O_bin, pairO, O_call, List.map_cons, List.map_nil, B_eql, List.cons_append, List.nil_append, List.replicate_succ, List.replicate_zero, List.length_cons, List.length_nil, Nat.reduceAdd, Nat.reduceSub, Nat.zero_add, end_ret, mask22, mask_no hk]
    simp [getV, hk]
  · have hr := ok_range hk
    have h0 : (0 : Int) ≤ 8 * off := by omega
    have h1 : 0 ≤ IntKind.i64.wrap (8 * n) := by rw [wrap8 (by omega)]; omega
    simp only [c_bits_Get, D_seq, then_normal, C_ops, C_cond, D_ret, D_skip, normal_some, cond_ff, E_nil, E_cons, next_some, ev_tmp, ev_const, get_succ, get_zero, List.set_cons_succ, List.set_cons_zero, O_mv, O_bin, pairO, O_conv, convO, O_call, List.map_cons, List.map_nil, B_mul, B_eql, B_shr', List.cons_append, List.nil_append, List.replicate_succ, List.replicate_zero, List.length_cons, List.length_nil, Nat.reduceAdd, Nat.reduceSub, Nat.zero_add, end_ret, mask22, mask_ne hk, wrap8 (k := off) (by omega), h0, low28 _ _ _ h1]
    congr 3
    refine ext (W_low _ _ (W_wrap _)) (W_getV _ _ _) fun i hi => ?_
    rw [lowV _ _ (W_wrap _) (by omega) hi, b_getV v hk hi, b_ushr v _ (by omega)]
    congr 3; omega

/-- A byte. -/
def byteV (v : Int) (k : Int) : Int := Go.bits .and .i64 (shr .i64 v (8 * k)) 255
theorem byte29' (v k : Int) (hk : 0 ≤ k ∧ k ≤ 8) (h : Heap) : DF FF n_belatedref1_Byte [.int .i64 v, .int .i64 k] h = some (.int .i64 (byteV v k), h) := by
  rw [byte29 v k h (by rw [wrap8 hk]; omega), wrap8 hk]; rfl
theorem b_255 {i : Nat} (hi : i < 64) : bi 255 i = decide (i < 8) := by
  have : (255 : Int) = ((2 ^ 8 - 1 : Nat) : Int) := rfl
  rw [this]; unfold bi B; rw [BitVec.ofInt_natCast, b_lows (by omega) hi]
theorem b_byteV {v k : Int} (hv : W v) (hk : 0 ≤ k ∧ k ≤ 7) {i : Nat} (hi : i < 64) : bi (byteV v k) i = (decide (i < 8) && bi v (8 * k.toNat + i)) := by
  unfold byteV
  rw [b_and, b_255 hi, b_shr v _ hv (by omega) hi, Bool.and_comm]
  by_cases h8 : i < 8
  · rw [if_pos (by omega)]; congr 2; omega
  · simp [h8]

theorem get11 (v off n : Int) (hv : W v) (h : Heap) : DF FF n_belatedref1_Get [.int .i64 v, .int .i64 off, .int .i64 n] h = some (.int .i64 (getV v off n), h) := by
  refine fun_wp F_belatedref1_Get ?_
  cases hk : okAt off n
  · simp only [c_belatedref1_Get, C_ops, C_cond, D_ret, normal_some, cond_tt, E_nil, E_cons, next_some, ev_tmp, ev_const, get_succ, get_zero, List.set_cons_succ, List.set_cons_zero, O_mv, O_bin, pairO, O_call, List.map_cons, List.map_nil, B_eql, List.cons_append, List.nil_append, List.replicate_succ, List.replicate_zero, List.length_cons, List.length_nil, Nat.reduceAdd, Nat.reduceSub, Nat.zero_add, W_some, W_seq, Q_cont_normal, Q_cont_ret, Q_ret, mask23, mask_no hk]
    simp [getV, hk]
  · have hr := ok_range hk
    simp only [c_belatedref1_Get, C_ops, C_cond, D_skip, normal_some, cond_ff, E_nil, E_cons, next_some, ev_tmp, ev_const, get_succ, get_zero, List.set_cons_succ, List.set_cons_zero, O_mv, O_bin, pairO, O_call, List.map_cons, List.map_nil, B_eql, List.cons_append, List.nil_append, List.replicate_succ, List.replicate_zero, List.length_cons, List.length_nil, Nat.reduceAdd, Nat.reduceSub, Nat.zero_add, W_some, W_seq, W_block, Q_cont_normal, mask23, mask_ne hk]
    refine loop_wp (fun m s => ∃ (k : Nat) (out : Int), m + k = n.toNat ∧ W out ∧ (∀ i, i < 64 → bi out i = (decide (i < 8 * k) && bi v (8 * off.toNat + i))) ∧
      ∃ j : Nat → Value, s = ⟨[.int .i64 v, .int .i64 off, .int .i64 n, j 3, j 4, j 5, j 6, .int .i64 out, .int .i64 k, j 9, j 10, j 11, j 12, j 13, j 14, j 15, j 16, j 17, j 18, j 19, j 20, j 21, j 22, j 23, j 24, j 25, j 26, j 27, j 28], h⟩) ?_ n.toNat _ ?_
    · rintro m s ⟨k, out, hm, hW, hb, j, rfl⟩
      by_cases hlt : (k : Int) < n
      · have hs : IntKind.i64.wrap (off + k) = off + k := wrap_small (by omega)
        have h8 : (0 : Int) ≤ 8 * k := by omega
        simp only [C_ops, C_cond, D_skip, normal_some, cond_tt, E_nil, E_cons, next_some, ev_tmp, ev_const, get_succ, get_zero, List.set_cons_succ, List.set_cons_zero, O_mv, O_bin, pairO, O_call, List.map_cons, List.map_nil, B_add, B_mul, B_bor, B_lss, B_shl', W_some, W_seq, W_block, Q_cont_normal, Q_block_normal, Q_loop_normal, hlt, decide_true, hs, byte29' v (off + k) (by omega), wrap8 (k := k) (by omega), h8, wrap_small (n := k + 1) (by omega)]
        refine ⟨m - 1, by omega, k + 1, _, by omega, W_bits _ _ _, fun i hi => ?_, junk rfl⟩
        rw [b_or, hb i hi, b_shl _ _ (by omega) (by omega) hi, b_byteV hv (by omega) (by omega)]
        by_cases h1 : i < 8 * k
        · simp [h1, show i < 8 * (k + 1) by omega, show i < (8 * (k : Int)).toNat by omega]
        · by_cases h2 : i < 8 * (k + 1)
          · have e : 8 * (off + (k : Int)).toNat + (i - (8 * (k : Int)).toNat) = 8 * off.toNat + i := by omega
            simp [h1, h2, e, show ¬ i < (8 * (k : Int)).toNat by omega, show i - (8 * (k : Int)).toNat < 8 by omega]
          · simp [h1, h2, show ¬ i - (8 * (k : Int)).toNat < 8 by omega]
      · simp only [C_ops, C_cond, D_exit, D_ret, normal_some, cond_ff, E_nil, E_cons, next_some, ev_tmp, get_succ, get_zero, List.set_cons_succ, List.set_cons_zero, O_mv, O_bin, pairO, B_lss, W_some, W_seq, Q_cont_normal, Q_cont_exit, Q_block_exit, Q_loop_exit, Q_ret, hlt, decide_false]
        have hk' : k = n.toNat := by omega
        congr 3
        refine ext hW (W_getV _ _ _) fun i hi => ?_
        rw [hb i hi, b_getV v hk hi, hk']
    · exact ⟨0, 0, by omega, by unfold W; omega, fun i hi => by simp [bi, B], junk rfl⟩
end Go.Proofs.Ytjodnadlplicmaa.AM

namespace Go.Proofs.Ytjodnadlplicmaa.AM
open Go.RowKit
set_option linter.unusedSimpArgs false
set_option linter.unusedVariables false

def orL (ms : List Int) : Int := ms.foldl (fun a m => Go.bits .or .i64 a m) 0
def unionV (ms : List Int) : Int := Go.bits .and .i64 (orL ms) 255
def meetV (ms : List Int) : Int := ms.foldl (fun a m => Go.bits .and .i64 a m) 255

end Go.Proofs.Ytjodnadlplicmaa.AM

namespace Go.Proofs.Ytjodnadlplicmaa.AM
open Go.RowKit
set_option linter.unusedSimpArgs false
set_option linter.unusedVariables false

/-- A value by its bits. -/
def ofBits (f : Nat → Bool) : Nat → BitVec 64
  | 0 => 0#64
  | n + 1 => ofBits f n ||| (if f n then 1#64 <<< n else 0#64)
theorem b_ofBits (f : Nat → Bool) (n : Nat) {i : Nat} (hi : i < 64) : (ofBits f n).getLsbD i = (decide (i < n) && f i) := by
  induction n with
  | zero => simp [ofBits]
  | succ n ih =>
    rw [ofBits, BitVec.getLsbD_or, ih]
    by_cases h : i = n
    · subst h
      cases f i <;> simp [hi]
    · have e : (if f n = true then 1#64 <<< n else 0#64).getLsbD i = false := by
        split
        · rw [BitVec.getLsbD_shiftLeft, BitVec.getLsbD_one]; simp; omega
        · simp
      rw [e, Bool.or_false]
      by_cases h2 : i < n
      · simp [h2, show i < n + 1 by omega]
      · simp [h2, show ¬ i < n + 1 by omega]
def blendV (v w u : Int) : Int := (ofBits (fun i => if bi u (i / 8) then bi w i else bi v i) 64).toInt
theorem W_blendV (v w u : Int) : W (blendV v w u) := W_toInt _
theorem b_blendV (v w u : Int) {i : Nat} (hi : i < 64) : bi (blendV v w u) i = if bi u (i / 8) then bi w i else bi v i := by
  unfold blendV bi
  rw [B_toInt, b_ofBits _ _ hi]; simp [hi]
theorem and_one (x : Int) : Go.bits .and .i64 x 1 = if bi x 0 then 1 else 0 := by
  refine ext (W_bits _ _ _) (by split <;> (unfold W; omega)) fun i hi => ?_
  rw [b_and, b_one hi]
  by_cases h : i = 0
  · subst h
    cases bi x 0 <;> rfl
  · simp only [h, decide_false, Bool.and_false]
    split
    · rw [b_one hi]; simp [h]
    · simp [bi, B]
theorem bit_is {u : Int} (hu : W u) {k : Nat} (hk : k < 64) : (Go.bits .and .i64 (shr .i64 u k) 1 == 1) = bi u k := by
  have e : bi (shr .i64 u k) 0 = bi u k := by
    rw [b_shr u k hu (by omega) (by omega)]
    simp [show k < 64 from hk]
  rw [and_one, e]
  cases bi u k <;> rfl

end Go.Proofs.Ytjodnadlplicmaa.AM

namespace Go.Proofs.Ytjodnadlplicmaa.AM
open Go.RowKit
set_option linter.unusedSimpArgs false
set_option linter.unusedVariables false

theorem b_maskV {off n : Int} (hk : okAt off n = true) : ∀ k, k < 64 → bi (maskV off n) k = (decide (off.toNat ≤ k) && decide (k < off.toNat + n.toNat)) :=
  ok_all (p := fun off n => ∀ k, k < 64 → bi (maskV off n) k = (decide (off.toNat ≤ k) && decide (k < off.toNat + n.toNat))) (by decide +kernel) hk
theorem union_mask {off n : Int} (hk : okAt off n = true) : unionV [maskV off n] = maskV off n :=
  ok_all (p := fun off n => unionV [maskV off n] = maskV off n) (by decide +kernel) hk
theorem W_maskV (off n : Int) : W (maskV off n) := by
  cases hk : okAt off n
  · unfold maskV W; rw [hk]; simp
  · exact ok_all (p := fun off n => W (maskV off n)) (by unfold W; decide +kernel) hk
/-- What is laid in. -/
def putV (v off n x : Int) : Int := if okAt off n then blendV v (shl .i64 x (8 * off)) (maskV off n) else v
theorem W_putV (v off n x : Int) (hv : W v) : W (putV v off n x) := by
  unfold putV; split
  · exact W_blendV _ _ _
  · exact hv
theorem ints_last (h : Heap) (m : Int) : Ints (h ++ [AObj.cells [.int .i64 m] 0 false]) (slc h.length 0 0 1 1) [m] := ⟨_, rfl, by rw [show ([m] : List Int).length = 1 from rfl, read_last h _ 1 (by simp)]; rfl⟩
theorem blend_low (v x : Int) {off n : Int} (hk : okAt off n = true) (y : Int) (hy : ∀ i, i < 64 → bi y i = (decide (i < 8 * n.toNat) && bi x i)) : blendV v (shl .i64 y (8 * off)) (maskV off n) = blendV v (shl .i64 x (8 * off)) (maskV off n) := by
  have hr := ok_range hk
  refine ext (W_blendV _ _ _) (W_blendV _ _ _) fun i hi => ?_
  rw [b_blendV _ _ _ hi, b_blendV _ _ _ hi, b_maskV hk _ (by omega)]
  split
  · rename_i hc
    simp only [Bool.and_eq_true, decide_eq_true_eq] at hc
    rw [b_shl _ _ (by omega) (by omega) hi, b_shl _ _ (by omega) (by omega) hi, hy _ (by omega)]
    simp [show i - (8 * off).toNat < 8 * n.toNat by omega]
  · rfl
/-- The place. -/
def placeV (off index n : Int) : Int := if sized n then Go.bits .andNot .i64 (Go.bits .and .i64 (IntKind.i64.wrap (off + index)) 7) (IntKind.i64.wrap (n - 1)) else -1
theorem and_seven (x : Int) : ∃ k : Nat, k < 8 ∧ Go.bits .and .i64 x 7 = k := by
  refine ⟨(B x &&& 7#64).toNat, ?_, ?_⟩
  · rw [BitVec.toNat_and]
    exact Nat.lt_of_le_of_lt Nat.and_le_right (by decide)
  · have : (B x &&& 7#64).toNat < 8 := by
      rw [BitVec.toNat_and]
      exact Nat.lt_of_le_of_lt Nat.and_le_right (by decide)
    unfold Go.bits
    exact wrap_small (by show -9223372036854775808 ≤ ((B x &&& 7#64).toNat : Int) ∧ ((B x &&& 7#64).toNat : Int) ≤ _; omega)
theorem place24 (off index n : Int) (h : Heap) : DF FF n_bits_Place [.int .i64 off, .int .i64 index, .int .i64 n] h = some (.int .i64 (placeV off index n), h) := by
  refine fun_wp F_bits_Place ?_
  cases hk : sized n
  · simp only [c_bits_Place, C_ops, C_cond, D_ret, normal_some, cond_tt, E_nil, E_cons, next_some, ev_tmp, ev_const, get_succ, get_zero, List.set_cons_succ, List.set_cons_zero, O_mv, pairO, O_un, O_call, List.map_cons, List.map_nil, U_not, List.cons_append, List.nil_append, List.replicate_succ, List.replicate_zero, List.length_cons, List.length_nil, Nat.reduceAdd, Nat.reduceSub, Nat.zero_add, Bool.not_false, W_some, W_seq, Q_cont_normal, Q_cont_ret, Q_ret, size30, hk]
    simp [placeV, hk]
  · simp only [c_bits_Place, C_ops, C_cond, D_ret, D_skip, normal_some, cond_ff, E_nil, E_cons, next_some, ev_tmp, ev_const, get_succ, get_zero, List.set_cons_succ, List.set_cons_zero, O_mv, O_bin, pairO, O_un, O_call, List.map_cons, List.map_nil, B_add, B_sub, B_band, B_bandNot, U_not, List.cons_append, List.nil_append, List.replicate_succ, List.replicate_zero, List.length_cons, List.length_nil, Nat.reduceAdd, Nat.reduceSub, Nat.zero_add, Bool.not_true, W_some, W_seq, Q_cont_normal, Q_ret, size30, hk]
    simp [placeV, hk]
theorem place_eq : ∀ k : Nat, k < 8 → ∀ n ∈ [(1 : Int), 2, 4, 8], IntKind.i64.wrap ((k : Int) - (k : Int).tmod n) = Go.bits .andNot .i64 (k : Int) (IntKind.i64.wrap (n - 1)) := by decide +kernel
theorem place25 (off index n : Int) (h : Heap) : DF FF n_belatedref1_Place [.int .i64 off, .int .i64 index, .int .i64 n] h = some (.int .i64 (placeV off index n), h) := by
  refine fun_wp F_belatedref1_Place ?_
  cases hk : sized n
  · simp only [c_belatedref1_Place, C_ops, C_cond, D_ret, normal_some, cond_tt, E_nil, E_cons, next_some, ev_tmp, ev_const, get_succ, get_zero, List.set_cons_succ, List.set_cons_zero, O_mv, pairO, O_un, O_call, List.map_cons, List.map_nil, U_not, List.cons_append, List.nil_append, List.replicate_succ, List.replicate_zero, List.length_cons, List.length_nil, Nat.reduceAdd, Nat.reduceSub, Nat.zero_add, Bool.not_false, W_some, W_seq, Q_cont_normal, Q_cont_ret, Q_ret, size31, hk]
    simp [placeV, hk]
  · have hn := sized_cases hk
    have hz : n ≠ 0 := by omega
    simp only [c_belatedref1_Place, C_ops, C_cond, D_ret, D_skip, normal_some, cond_ff, E_nil, E_cons, next_some, ev_tmp, ev_const, get_succ, get_zero, List.set_cons_succ, List.set_cons_zero, O_mv, O_bin, pairO, O_un, O_call, List.map_cons, List.map_nil, B_add, B_sub, B_band, B_rem, U_not, List.cons_append, List.nil_append, List.replicate_succ, List.replicate_zero, List.length_cons, List.length_nil, Nat.reduceAdd, Nat.reduceSub, Nat.zero_add, Bool.not_true, W_some, W_seq, Q_cont_normal, Q_ret, size31, hk, ne_eq, hz, not_false_eq_true]
    obtain ⟨k, h8, e⟩ := and_seven (IntKind.i64.wrap (off + index))
    simp only [placeV, hk, if_true, e]
    rw [place_eq k h8 n (by simp only [List.mem_cons, List.not_mem_nil, or_false]; exact hn)]

/-- How many bytes a mask has. -/
def countV (m : Int) : Int := pop (fun k => bi m k) 8
theorem u8_wrap (m : Int) : IntKind.u8.wrap m = ((B m).toNat % 256 : Nat) := by
  have e : IntKind.u8.wrap m = m % 256 := by simp [IntKind.wrap, IntKind.signed, IntKind.bits]
  rw [e]
  unfold B
  rw [BitVec.toNat_ofInt]
  have h0 : 0 ≤ m % ((2 ^ 64 : Nat) : Int) := Int.emod_nonneg _ (by decide)
  rw [Int.natCast_emod, Int.toNat_of_nonneg h0, two64]
  show m % 256 = m % 18446744073709551616 % 256
  omega
end Go.Proofs.Ytjodnadlplicmaa.AM

namespace Go.Proofs.Ytjodnadlplicmaa.AM
open Go.RowKit
set_option linter.unusedSimpArgs false
set_option linter.unusedVariables false

def aluV (fn a b : Int) : Int :=
  if fn == 1 then IntKind.i64.wrap (a + b) else if fn == 2 then IntKind.i64.wrap (a - b) else if fn == 3 then Go.bits .xor .i64 a b else if fn == 4 then Go.bits .and .i64 a b else if fn == 5 then Go.bits .or .i64 a b else 0
theorem alu18 (fn a b : Int) (h : Heap) : DF FF n_bits_Alu [.int .i64 fn, .int .i64 a, .int .i64 b] h = some (.int .i64 (aluV fn a b), h) := by
  refine fun_wp F_bits_Alu ?_
  unfold aluV
  cases h1 : fn == 1
  · cases h2 : fn == 2
    · cases h3 : fn == 3
      · cases h4 : fn == 4
        · cases h5 : fn == 5 <;> simp only [c_bits_Alu, C_ops, C_cond, D_ret, D_skip, normal_some, cond_tt, cond_ff, E_nil, E_cons, next_some, ev_tmp, ev_const, get_succ, get_zero, List.set_cons_succ, List.set_cons_zero, O_mv, O_bin, pairO, B_bor, B_eql, List.cons_append, List.nil_append, List.replicate_succ, List.replicate_zero, List.length_cons, List.length_nil, Nat.reduceAdd, Nat.reduceSub, Nat.zero_add, W_some, W_seq, W_block, Q_cont_normal, Q_cont_ret, Q_block_normal, Q_block_ret, Q_ret, h1, h2, h3, h4, h5] <;> rfl
        · simp only [c_bits_Alu, C_ops, C_cond, D_ret, normal_some, cond_tt, cond_ff, E_nil, E_cons, next_some, ev_tmp, ev_const, get_succ, get_zero, List.set_cons_succ, List.set_cons_zero, O_mv, O_bin, pairO, B_band, B_eql, List.cons_append, List.nil_append, List.replicate_succ, List.replicate_zero, List.length_cons, List.length_nil, Nat.reduceAdd, Nat.reduceSub, Nat.zero_add, W_some, W_seq, W_block, Q_cont_normal, Q_cont_ret, Q_block_ret, Q_ret, h1, h2, h3, h4]; rfl
      · simp only [c_bits_Alu, C_ops, C_cond, D_ret, normal_some, cond_tt, cond_ff, E_nil, E_cons, next_some, ev_tmp, ev_const, get_succ, get_zero, List.set_cons_succ, List.set_cons_zero, O_mv, O_bin, pairO, B_bxor, B_eql, List.cons_append, List.nil_append, List.replicate_succ, List.replicate_zero, List.length_cons, List.length_nil, Nat.reduceAdd, Nat.reduceSub, Nat.zero_add, W_some, W_seq, W_block, Q_cont_normal, Q_cont_ret, Q_block_ret, Q_ret, h1, h2, h3]; rfl
    · simp only [c_bits_Alu, C_ops, C_cond, D_ret, normal_some, cond_tt, cond_ff, E_nil, E_cons, next_some, ev_tmp, ev_const, get_succ, get_zero, List.set_cons_succ, List.set_cons_zero, O_mv, O_bin, pairO, B_sub, B_eql, List.cons_append, List.nil_append, List.replicate_succ, List.replicate_zero, List.length_cons, List.length_nil, Nat.reduceAdd, Nat.reduceSub, Nat.zero_add, W_some, W_seq, W_block, Q_cont_normal, Q_cont_ret, Q_block_ret, Q_ret, h1, h2]; rfl
  · simp only [c_bits_Alu, C_ops, C_cond, D_ret, normal_some, cond_tt, E_nil, E_cons, next_some, ev_tmp, ev_const, get_succ, get_zero, List.set_cons_succ, List.set_cons_zero, O_mv, O_bin, pairO, B_add, B_eql, List.cons_append, List.nil_append, List.replicate_succ, List.replicate_zero, List.length_cons, List.length_nil, Nat.reduceAdd, Nat.reduceSub, Nat.zero_add, W_some, W_seq, W_block, Q_cont_normal, Q_cont_ret, Q_block_ret, Q_ret, h1]; rfl
theorem alu19 (fn a b : Int) (h : Heap) : DF FF n_belatedref1_Alu [.int .i64 fn, .int .i64 a, .int .i64 b] h = some (.int .i64 (aluV fn a b), h) := by
  refine fun_wp F_belatedref1_Alu ?_
  unfold aluV
  cases h1 : fn == 1
  · cases h2 : fn == 2
    · cases h3 : fn == 3
      · cases h4 : fn == 4
        · cases h5 : fn == 5 <;> simp only [c_belatedref1_Alu, C_ops, C_cond, D_ret, D_skip, normal_some, cond_tt, cond_ff, E_nil, E_cons, next_some, ev_tmp, ev_const, get_succ, get_zero, List.set_cons_succ, List.set_cons_zero, O_mv, O_bin, pairO, B_bor, B_eql, List.cons_append, List.nil_append, List.replicate_succ, List.replicate_zero, List.length_cons, List.length_nil, Nat.reduceAdd, Nat.reduceSub, Nat.zero_add, W_some, W_seq, W_block, Q_cont_normal, Q_cont_ret, Q_block_normal, Q_block_ret, Q_ret, h1, h2, h3, h4, h5] <;> rfl
        · simp only [c_belatedref1_Alu, C_ops, C_cond, D_ret, normal_some, cond_tt, cond_ff, E_nil, E_cons, next_some, ev_tmp, ev_const, get_succ, get_zero, List.set_cons_succ, List.set_cons_zero, O_mv, O_bin, pairO, B_band, B_eql, List.cons_append, List.nil_append, List.replicate_succ, List.replicate_zero, List.length_cons, List.length_nil, Nat.reduceAdd, Nat.reduceSub, Nat.zero_add, W_some, W_seq, W_block, Q_cont_normal, Q_cont_ret, Q_block_ret, Q_ret, h1, h2, h3, h4]; rfl
      · simp only [c_belatedref1_Alu, C_ops, C_cond, D_ret, normal_some, cond_tt, cond_ff, E_nil, E_cons, next_some, ev_tmp, ev_const, get_succ, get_zero, List.set_cons_succ, List.set_cons_zero, O_mv, O_bin, pairO, B_bxor, B_eql, List.cons_append, List.nil_append, List.replicate_succ, List.replicate_zero, List.length_cons, List.length_nil, Nat.reduceAdd, Nat.reduceSub, Nat.zero_add, W_some, W_seq, W_block, Q_cont_normal, Q_cont_ret, Q_block_ret, Q_ret, h1, h2, h3]; rfl
    · simp only [c_belatedref1_Alu, C_ops, C_cond, D_ret, normal_some, cond_tt, cond_ff, E_nil, E_cons, next_some, ev_tmp, ev_const, get_succ, get_zero, List.set_cons_succ, List.set_cons_zero, O_mv, O_bin, pairO, B_sub, B_eql, List.cons_append, List.nil_append, List.replicate_succ, List.replicate_zero, List.length_cons, List.length_nil, Nat.reduceAdd, Nat.reduceSub, Nat.zero_add, W_some, W_seq, W_block, Q_cont_normal, Q_cont_ret, Q_block_ret, Q_ret, h1, h2]; rfl
  · simp only [c_belatedref1_Alu, C_ops, C_cond, D_ret, normal_some, cond_tt, E_nil, E_cons, next_some, ev_tmp, ev_const, get_succ, get_zero, List.set_cons_succ, List.set_cons_zero, O_mv, O_bin, pairO, B_add, B_eql, List.cons_append, List.nil_append, List.replicate_succ, List.replicate_zero, List.length_cons, List.length_nil, Nat.reduceAdd, Nat.reduceSub, Nat.zero_add, W_some, W_seq, W_block, Q_cont_normal, Q_cont_ret, Q_block_ret, Q_ret, h1]; rfl
def rmwV (fn old a n : Int) : Int := if fn == 6 then getV a 0 n else if fn == 1 then getV (IntKind.i64.wrap (old + a)) 0 n else 0
theorem rmw20 (fn old a n : Int) (h : Heap) : DF FF n_bits_Rmw [.int .i64 fn, .int .i64 old, .int .i64 a, .int .i64 n] h = some (.int .i64 (rmwV fn old a n), h) := by
  refine fun_wp F_bits_Rmw ?_
  unfold rmwV
  cases h1 : fn == 6
  · cases h2 : fn == 1 <;> simp only [c_bits_Rmw, C_ops, C_cond, D_ret, D_skip, normal_some, cond_tt, cond_ff, E_nil, E_cons, next_some, ev_tmp, ev_const, get_succ, get_zero, List.set_cons_succ, List.set_cons_zero, O_mv, O_bin, pairO, O_call, List.map_cons, List.map_nil, B_add, B_eql, List.cons_append, List.nil_append, List.replicate_succ, List.replicate_zero, List.length_cons, List.length_nil, Nat.reduceAdd, Nat.reduceSub, Nat.zero_add, W_some, W_seq, W_block, Q_cont_normal, Q_cont_ret, Q_block_normal, Q_block_ret, Q_ret, h1, h2, get10] <;> rfl
  · simp only [c_bits_Rmw, C_ops, C_cond, D_ret, normal_some, cond_tt, E_nil, E_cons, next_some, ev_tmp, ev_const, get_succ, get_zero, List.set_cons_succ, List.set_cons_zero, O_mv, O_bin, pairO, O_call, List.map_cons, List.map_nil, B_eql, List.cons_append, List.nil_append, List.replicate_succ, List.replicate_zero, List.length_cons, List.length_nil, Nat.reduceAdd, Nat.reduceSub, Nat.zero_add, W_some, W_seq, W_block, Q_cont_normal, Q_cont_ret, Q_block_ret, Q_ret, h1, get10]; rfl
theorem rmw21 (fn old a n : Int) (ha : W a) (h : Heap) : DF FF n_belatedref1_Rmw [.int .i64 fn, .int .i64 old, .int .i64 a, .int .i64 n] h = some (.int .i64 (rmwV fn old a n), h) := by
  refine fun_wp F_belatedref1_Rmw ?_
  unfold rmwV
  cases h1 : fn == 6
  · cases h2 : fn == 1 <;> simp only [c_belatedref1_Rmw, C_ops, C_cond, D_ret, D_skip, normal_some, cond_tt, cond_ff, E_nil, E_cons, next_some, ev_tmp, ev_const, get_succ, get_zero, List.set_cons_succ, List.set_cons_zero, O_mv, O_bin, pairO, O_call, List.map_cons, List.map_nil, B_add, B_eql, List.cons_append, List.nil_append, List.replicate_succ, List.replicate_zero, List.length_cons, List.length_nil, Nat.reduceAdd, Nat.reduceSub, Nat.zero_add, W_some, W_seq, W_block, Q_cont_normal, Q_cont_ret, Q_block_normal, Q_block_ret, Q_ret, h1, h2, get11 _ _ _ (W_wrap _)] <;> rfl
  · simp only [c_belatedref1_Rmw, C_ops, C_cond, D_ret, normal_some, cond_tt, E_nil, E_cons, next_some, ev_tmp, ev_const, get_succ, get_zero, List.set_cons_succ, List.set_cons_zero, O_mv, O_bin, pairO, O_call, List.map_cons, List.map_nil, B_eql, List.cons_append, List.nil_append, List.replicate_succ, List.replicate_zero, List.length_cons, List.length_nil, Nat.reduceAdd, Nat.reduceSub, Nat.zero_add, W_some, W_seq, W_block, Q_cont_normal, Q_cont_ret, Q_block_ret, Q_ret, h1, get11 _ _ _ ha]; rfl
end Go.Proofs.Ytjodnadlplicmaa.AM

namespace Go.Proofs.Ytjodnadlplicmaa.AM
open Go.RowKit
set_option linter.unusedSimpArgs false
set_option linter.unusedVariables false

theorem b_zero (i : Nat) : bi 0 i = false := by simp [bi, B]
theorem b_union1 (a : Int) {k : Nat} (hk : k < 64) : bi (unionV [a]) k = (bi a k && decide (k < 8)) := by
  unfold unionV orL; simp only [List.foldl_cons, List.foldl_nil]; rw [b_and, b_or, b_zero, b_255 hk, Bool.false_or]
theorem b_union2 (a b : Int) {k : Nat} (hk : k < 64) : bi (unionV [a, b]) k = ((bi a k || bi b k) && decide (k < 8)) := by
  unfold unionV orL; simp only [List.foldl_cons, List.foldl_nil]; rw [b_and, b_or, b_or, b_zero, b_255 hk, Bool.false_or]
theorem ints_one (H : Heap) (m : Int) : Ints (H ++ [AObj.cells [.int .i64 m] 0 false]) (slc H.length 0 0 1 1) [m] := ints_last H m
theorem ints_two (h : Heap) (a b : Int) : Ints (h ++ [AObj.cells [.int .i64 a, .int .i64 b] 0 false]) (slc h.length 0 0 2 1) [a, b] := ⟨_, rfl, by rw [show ([a, b] : List Int).length = 2 from rfl, read_last h _ 2 (by simp)]; rfl⟩
theorem W_meet2 (a b : Int) : W (meetV [a, b]) := W_bits .and (Go.bits .and .i64 255 a) b
theorem W_255 : W 255 := by unfold W; omega

theorem ok_zero {off n : Int} (hk : okAt off n = true) : okAt 0 n = true := ok_all (p := fun off n => okAt 0 n = true) (by decide +kernel) hk
theorem count_mask {off n : Int} (hk : okAt off n = true) : (countV (maskV off n) != n) = false := ok_all (p := fun off n => (countV (maskV off n) != n) = false) (by decide +kernel) hk
theorem place_self {off n : Int} (hk : okAt off n = true) : (placeV off 0 n == off) = true := ok_all (p := fun off n => (placeV off 0 n == off) = true) (by decide +kernel) hk
theorem place_ok : ∀ k : Nat, k < 8 → ∀ n ∈ [(1 : Int), 2, 4, 8], okAt (Go.bits .andNot .i64 (k : Int) (IntKind.i64.wrap (n - 1))) n = true ∧ ((Go.bits .andNot .i64 (k : Int) (IntKind.i64.wrap (n - 1))).tmod n == 0) = true := by decide +kernel
theorem and7 (x : Int) : Go.bits .and .i64 x 7 = x % 8 := by
  have h8 : (B x &&& 7#64).toNat < 8 := by
    rw [BitVec.toNat_and]
    exact Nat.lt_of_le_of_lt Nat.and_le_right (by decide)
  have e : (B x &&& 7#64).toNat = (B x).toNat % 8 := by
    rw [BitVec.toNat_and]; exact Nat.and_two_pow_sub_one_eq_mod (B x).toNat 3
  have e2 : Go.bits .and .i64 x 7 = ((B x &&& 7#64).toNat : Int) := by
    unfold Go.bits
    exact wrap_small (by show -9223372036854775808 ≤ ((B x &&& 7#64).toNat : Int) ∧ ((B x &&& 7#64).toNat : Int) ≤ _; omega)
  rw [e2, e]
  unfold B
  rw [BitVec.toNat_ofInt]
  have h0 : 0 ≤ x % ((2 ^ 64 : Nat) : Int) := Int.emod_nonneg _ (by decide)
  rw [Int.natCast_emod, Int.toNat_of_nonneg h0, two64]
  show x % 18446744073709551616 % 8 = x % 8
  omega
theorem place_seven (off index n : Int) : placeV off (Go.bits .and .i64 index 7) n = placeV off index n := by
  unfold placeV
  have : Go.bits .and .i64 (IntKind.i64.wrap (off + Go.bits .and .i64 index 7)) 7 = Go.bits .and .i64 (IntKind.i64.wrap (off + index)) 7 := by
    simp only [and7, IntKind.wrap_i64]; omega
  rw [this]
theorem apart {off n other : Int} (hk : okAt off n = true) (ho : okAt other n = true) (hne : maskV other n ≠ maskV off n) : other.toNat + n.toNat ≤ off.toNat ∨ off.toNat + n.toNat ≤ other.toNat := by
  have hk' := ok_cases hk
  have ho' := ok_cases ho
  have : other ≠ off := fun e => hne (by rw [e])
  omega
end Go.Proofs.Ytjodnadlplicmaa.AM
