/-
  The flow along a path: the reads that a register hangs from.
  Conditions: paths no longer than 8.
-/
import Derived.Test.YtjodnadlplicmaaFa1
namespace Go.Proofs.Ytjodnadlplicmaa.AM
open Go.RowKit
set_option linter.unusedSimpArgs false
set_option linter.unusedVariables false

theorem or_nat {a b : Nat} (ha : a < 256) (hb : b < 256) : Go.bits .or .i64 (a : Int) (b : Int) = ((a ||| b : Nat) : Int) := by
  have h3 : a ||| b < 2 ^ 8 := Nat.or_lt_two_pow ha hb
  unfold Go.bits
  simp only [IntKind.bits, BitVec.ofInt_natCast]
  show IntKind.i64.wrap (((BitVec.ofNat 64 a ||| BitVec.ofNat 64 b : BitVec 64).toNat : Nat) : Int) = _
  rw [BitVec.toNat_or, BitVec.toNat_ofNat, BitVec.toNat_ofNat, Nat.mod_eq_of_lt (by omega), Nat.mod_eq_of_lt (by omega)]
  exact wrapS (by omega)
theorem shl_nat {d : Nat} (hd : d < 8) : shl .i64 1 (d : Int) = ((2 ^ d : Nat) : Int) := by
  have : d = 0 ∨ d = 1 ∨ d = 2 ∨ d = 3 ∨ d = 4 ∨ d = 5 ∨ d = 6 ∨ d = 7 := by omega
  rcases this with rfl | rfl | rfl | rfl | rfl | rfl | rfl | rfl <;> rfl
theorem pow_lt8 {d : Nat} (hd : d < 8) : 2 ^ d < 256 := by
  have : d = 0 ∨ d = 1 ∨ d = 2 ∨ d = 3 ∨ d = 4 ∨ d = 5 ∨ d = 6 ∨ d = 7 := by omega
  rcases this with rfl | rfl | rfl | rfl | rfl | rfl | rfl | rfl <;> decide
/-- The reads that a register hangs from, as bits. -/
def hangF (ps : List Ins) : Nat → Int → Int → Nat
  | 0, _, _ => 0
  | f + 1, place, r => if defP ps place r < 0 then 0 else
    match ps[(defP ps place r).toNat]? with
    | none => 0
    | some i => if readsV i then 2 ^ (defP ps place r).toNat else
      if i.op == 2 || i.op == 3 then hangF ps f (defP ps place r) i.a ||| hangF ps f (defP ps place r) i.b else 0
theorem hangF_none {ps : List Ins} {f : Nat} {place r : Int} (h : defP ps place r = -1) : hangF ps (f + 1) place r = 0 := by
  rw [hangF, h]; rfl
theorem hangF_some {ps : List Ins} {f : Nat} {place r : Int} {d : Nat} (h : defP ps place r = (d : Int)) (hd : d < ps.length) :
    hangF ps (f + 1) place r = if readsV ps[d] then 2 ^ d else if ps[d].op == 2 || ps[d].op == 3 then hangF ps f d ps[d].a ||| hangF ps f d ps[d].b else 0 := by
  rw [hangF, h]
  rw [if_neg (by omega), Int.toNat_natCast, List.getElem?_eq_getElem hd]
theorem hangF_lt {ps : List Ins} (h8 : ps.length ≤ 8) : ∀ (f : Nat) (place r : Int), hangF ps f place r < 256
  | 0, _, _ => by simp [hangF]
  | f + 1, place, r => by
    rcases defP_cases ps place r with h | ⟨d, h, hd, _⟩
    · rw [hangF_none h]; omega
    · rw [hangF_some h hd]
      split
      · exact pow_lt8 (by omega)
      · split
        · exact Nat.or_lt_two_pow (n := 8) (hangF_lt h8 f _ _) (hangF_lt h8 f _ _)
        · omega
def orH (ps : List Ins) (f : Nat) (place : Int) (rs : List Int) : Nat := rs.foldl (fun a r => a ||| hangF ps f place r) 0
theorem orH_succ (ps : List Ins) (f : Nat) (place : Int) (rs : List Int) {k : Nat} (hk : k < rs.length) : orH ps f place (rs.take (k + 1)) = orH ps f place (rs.take k) ||| hangF ps f place rs[k] := by
  unfold orH; rw [List.take_succ_eq_append_getElem hk, List.foldl_append]; rfl
theorem orH_lt {ps : List Ins} (h8 : ps.length ≤ 8) (f : Nat) (place : Int) (rs : List Int) : orH ps f place rs < 256 := by
  unfold orH
  generalize h0 : (0 : Nat) = z
  have hz : z < 256 := by omega
  clear h0
  induction rs generalizing z with
  | nil => exact hz
  | cons r rs ih => exact ih _ (Nat.or_lt_two_pow (n := 8) hz (hangF_lt h8 f _ _))
theorem IntS_row (H : Heap) (l : List Int) : IntS (H ++ [.cells (l.map fun e => .int .i64 e) 0 false]) (.slice (some ⟨H.length, 0, some 0⟩) l.length 1) l := by
  refine ⟨.inr ⟨H.length, 0, 0, by rw [List.length_map], ?_⟩, by simp [intR]⟩
  rw [List.length_map]
  unfold Heap.read
  have e : (l.map intR).flatten = l.map fun e => Value.int .i64 e := by
    induction l with
    | nil => rfl
    | cons a l ih => simp [intR] at ih ⊢; exact ih
  simp [e]
  exact List.take_of_length_le (by simp)
section
variable {c p : Value} {code : List Ins} {path : List Int} {ps : List Ins}
theorem cap_lt {ps : List Ins} {place r : Int} {d : Nat} (h : defP ps place r = (d : Int)) (hd : d < ps.length) (hp : (d : Int) < place) : cap ps (d : Int) < cap ps place := by
  unfold cap; omega
/-- A move has one register alone. -/
def OneA (ps : List Ins) : Prop := ∀ i ∈ ps, i.op = 2 → i.b = -1
theorem hangF_m1 (ps : List Ins) (f : Nat) (place : Int) : hangF ps f place (-1) = 0 := by
  cases f with
  | zero => rfl
  | succ f => exact hangF_none (by unfold defP; rw [if_pos (by omega)])
end
end Go.Proofs.Ytjodnadlplicmaa.AM
