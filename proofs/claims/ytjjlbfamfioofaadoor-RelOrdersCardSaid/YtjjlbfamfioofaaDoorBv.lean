/-
  Plain words for 64-bit whole numbers read bit by bit: what and, or, xor, and-not, shifts and wraps do to each bit.
  Conditions: the numbers lie in int's range where it says so.
-/
import Derived.Test.YtjjlbfamfioofaaDoorAm1
namespace Go.Proofs.YtjjlbfamfioofaaDoor.AM
open Go.RowKit

def B (x : Int) : BitVec 64 := BitVec.ofInt 64 x
def W (x : Int) : Prop := -9223372036854775808 ≤ x ∧ x ≤ 9223372036854775807
/-- Bit i. -/
def bi (x : Int) (i : Nat) : Bool := (B x).getLsbD i

theorem W_of_wf {x : Int} (h : (Lit.int .i64 x).wf = true) : W x := by
  simp [Lit.wf, IntKind.min, IntKind.max, IntKind.signed, IntKind.bits] at h
  unfold W; omega

theorem two64 : ((2 ^ 64 : Nat) : Int) = 18446744073709551616 := rfl

theorem toInt_B {x : Int} (hx : W x) : (B x).toInt = x := by
  unfold W at hx
  unfold B; rw [BitVec.toInt_ofInt, Int.bmod_def, two64]; split <;> omega

theorem wrap_toInt (n : Int) : IntKind.i64.wrap n = (BitVec.ofInt 64 n).toInt := by
  rw [BitVec.toInt_ofInt, Int.bmod_def, two64, IntKind.wrap_i64]; split <;> omega

theorem B_toInt (v : BitVec 64) : B v.toInt = v := by unfold B; exact BitVec.ofInt_toInt
theorem W_toInt (v : BitVec 64) : W v.toInt := by
  unfold W; have h1 := BitVec.toInt_lt (x := v); have h2 := BitVec.le_toInt (x := v)
  have e : (2 : Int) ^ (64 - 1) = 9223372036854775808 := rfl
  rw [e] at h1 h2; omega
theorem W_wrap (n : Int) : W (IntKind.i64.wrap n) := by rw [wrap_toInt]; exact W_toInt _
theorem B_wrap (n : Int) : B (IntKind.i64.wrap n) = B n := by rw [wrap_toInt, B_toInt]; rfl
theorem wrap_in {n : Int} (h : W n) : IntKind.i64.wrap n = n := by unfold W at h; rw [IntKind.wrap_i64]; omega
theorem B_nat (v : BitVec 64) : B (v.toNat : Int) = v := by
  unfold B; rw [BitVec.ofInt_natCast]; exact BitVec.ofNat_toNat 64 v ▸ (by simp)

theorem ext {x y : Int} (hx : W x) (hy : W y) (h : ∀ i, i < 64 → bi x i = bi y i) : x = y := by
  have e : B x = B y := BitVec.eq_of_getLsbD_eq (fun i hi => h i hi)
  rw [← toInt_B hx, ← toInt_B hy, e]

theorem W_bits (op : BinOp) (x y : Int) : W (Go.bits op .i64 x y) := by unfold Go.bits; exact W_wrap _
theorem W_shl (x y : Int) : W (shl .i64 x y) := by unfold shl; exact W_wrap _
theorem B_and (x y : Int) : B (Go.bits .and .i64 x y) = B x &&& B y := by unfold Go.bits; rw [B_wrap]; exact B_nat _
theorem B_or (x y : Int) : B (Go.bits .or .i64 x y) = B x ||| B y := by unfold Go.bits; rw [B_wrap]; exact B_nat _
theorem B_xor (x y : Int) : B (Go.bits .xor .i64 x y) = B x ^^^ B y := by unfold Go.bits; rw [B_wrap]; exact B_nat _
theorem B_andNot (x y : Int) : B (Go.bits .andNot .i64 x y) = B x &&& ~~~ B y := by unfold Go.bits; rw [B_wrap]; exact B_nat _

theorem b_wrap (n : Int) (i : Nat) : bi (IntKind.i64.wrap n) i = bi n i := by unfold bi; rw [B_wrap]
theorem b_and (x y : Int) (i : Nat) : bi (Go.bits .and .i64 x y) i = (bi x i && bi y i) := by unfold bi; rw [B_and]; simp
theorem b_or (x y : Int) (i : Nat) : bi (Go.bits .or .i64 x y) i = (bi x i || bi y i) := by unfold bi; rw [B_or]; simp
theorem b_xor (x y : Int) (i : Nat) : bi (Go.bits .xor .i64 x y) i = (bi x i != bi y i) := by unfold bi; rw [B_xor]; simp
theorem b_andNot (x y : Int) {i : Nat} (hi : i < 64) : bi (Go.bits .andNot .i64 x y) i = (bi x i && !bi y i) := by
  unfold bi; rw [B_andNot]; simp [hi]

theorem B_shl (x n : Int) (hn : 0 ≤ n) (hn' : n ≤ 64) : B (shl .i64 x n) = B x <<< n.toNat := by
  unfold shl
  rw [B_wrap]
  have : min n.toNat IntKind.i64.bits = n.toNat := by simp [IntKind.bits]; omega
  rw [this]
  unfold B
  rw [BitVec.ofInt_mul, BitVec.shiftLeft_eq_mul_twoPow]
  congr 1
  apply BitVec.eq_of_toNat_eq
  rw [BitVec.toNat_ofInt, BitVec.toNat_twoPow]
  have : ((2 : Int) ^ n.toNat) = ((2 ^ n.toNat : Nat) : Int) := by simp
  rw [this, ← Int.natCast_emod, Int.toNat_natCast]
theorem b_shl (x n : Int) (hn : 0 ≤ n) (hn' : n ≤ 64) {i : Nat} (hi : i < 64) : bi (shl .i64 x n) i = (!decide (i < n.toNat) && bi x (i - n.toNat)) := by
  unfold bi; rw [B_shl x n hn hn', BitVec.getLsbD_shiftLeft]; simp [hi]

theorem fdiv_pow (x : Int) (n : Nat) : x.fdiv (2 ^ n) = x >>> n := by
  rw [Int.shiftRight_eq_div_pow, Int.fdiv_eq_ediv_of_nonneg _ (by exact Int.le_of_lt (Int.pow_pos (by decide)))]
  simp
theorem B_shr (x n : Int) (hx : W x) (hn' : n ≤ 64) : B (shr .i64 x n) = (B x).sshiftRight n.toNat := by
  unfold shr
  have : min n.toNat IntKind.i64.bits = n.toNat := by simp [IntKind.bits]; omega
  rw [this, fdiv_pow]
  apply BitVec.eq_of_toInt_eq
  rw [BitVec.toInt_sshiftRight, toInt_B hx, ← toInt_B hx, ← BitVec.toInt_sshiftRight, B_toInt]
theorem W_shr (x n : Int) (hx : W x) (hn' : n ≤ 64) : W (shr .i64 x n) := by
  unfold shr
  have : min n.toNat IntKind.i64.bits = n.toNat := by simp [IntKind.bits]; omega
  rw [this, fdiv_pow, ← toInt_B hx, ← BitVec.toInt_sshiftRight]
  exact W_toInt _
theorem b_shr (x n : Int) (hx : W x) (hn' : n ≤ 64) {i : Nat} (hi : i < 64) : bi (shr .i64 x n) i = if n.toNat + i < 64 then bi x (n.toNat + i) else bi x 63 := by
  unfold bi; rw [B_shr x n hx hn', BitVec.getLsbD_sshiftRight]; simp [hi, BitVec.msb_eq_getLsbD_last]

/-- The shift of what is taken without a sign. -/
theorem u64_wrap (v : Int) : IntKind.u64.wrap v = ((B v).toNat : Int) := by
  unfold B
  rw [BitVec.toNat_ofInt]
  have : IntKind.u64.wrap v = v % 18446744073709551616 := by simp [IntKind.wrap, IntKind.signed, IntKind.bits]
  rw [this, Int.toNat_of_nonneg (Int.emod_nonneg _ (by decide))]
  rfl
theorem B_ushr (v n : Int) (hn' : n ≤ 64) : B (IntKind.i64.wrap (shr .u64 (IntKind.u64.wrap v) n)) = B v >>> n.toNat := by
  rw [B_wrap, u64_wrap]
  unfold shr
  have : min n.toNat IntKind.u64.bits = n.toNat := by simp [IntKind.bits]; omega
  rw [this, fdiv_pow]
  have : ((B v).toNat : Int) >>> n.toNat = ((B v >>> n.toNat).toNat : Int) := by
    rw [BitVec.toNat_ushiftRight]; rfl
  rw [this, B_nat]
theorem b_ushr (v n : Int) (hn' : n ≤ 64) (i : Nat) : bi (IntKind.i64.wrap (shr .u64 (IntKind.u64.wrap v) n)) i = bi v (n.toNat + i) := by
  unfold bi; rw [B_ushr v n hn', BitVec.getLsbD_ushiftRight]
theorem b_ge (v : Int) {i : Nat} (hi : 64 ≤ i) : bi v i = false := by unfold bi; exact BitVec.getLsbD_of_ge _ _ hi
end Go.Proofs.YtjjlbfamfioofaaDoor.AM
