/-
  AM, part 27: tables of truths, 32 by 32; a relation built bit by bit.
  Conditions: none.
-/
import Derived.Test.YtjjlbfamfioofaaDoorAm28
namespace Go.Proofs.YtjjlbfamfioofaaDoor.AM
open Go.RowKit
set_option linter.unusedSimpArgs false
set_option linter.unusedVariables false

def tabV (t : Nat → Nat → Bool) : List Value := rowOf 1024 fun i => .bool (t (i / 32) (i % 32))
theorem tabV_len (t : Nat → Nat → Bool) : (tabV t).length = 1024 := rowOf_len _ _
theorem tabV_get {t : Nat → Nat → Bool} {a b : Nat} (ha : a < 32) (hb : b < 32) : (tabV t)[a * 32 + b]? = some (.bool (t a b)) := by
  unfold tabV
  rw [rowOf_get (by omega), show (a * 32 + b) / 32 = a by omega, show (a * 32 + b) % 32 = b by omega]
theorem tabV_congr {t u : Nat → Nat → Bool} (h : ∀ a b, a < 32 → b < 32 → t a b = u a b) : tabV t = tabV u := by
  apply rowOf_congr
  intro k hk
  rw [h _ _ (by omega) (by omega)]
theorem tabV_put {t u : Nat → Nat → Bool} {a b : Nat} {x : Bool} (hb : b < 32) (h : ∀ y z, y < 32 → z < 32 → u y z = if y = a ∧ z = b then x else t y z) : (tabV t).set (a * 32 + b) (.bool x) = tabV u := by
  unfold tabV
  rw [rowOf_set]
  apply rowOf_congr
  intro i hi
  rw [h _ _ (by omega) (by omega)]
  by_cases e : i = a * 32 + b
  · rw [if_pos e, if_pos ⟨by omega, by omega⟩]
  · rw [if_neg e, if_neg (by omega)]
theorem tabV_zero : List.replicate 1024 (.bool false) = tabV (fun _ _ => false) := rowOf_rep 1024 _
theorem tabV_plain (t : Nat → Nat → Bool) : (tabV t).all plain1 = true := rowOf_all _ fun _ _ => rfl
theorem outE_tab (h L : Heap) (t : Nat → Nat → Bool) : outE h (h ++ L) (some (tabV t)) = some (agg (tabV t), h) := outE_plain h L (tabV_plain t)
/-- Those ahead of (a, b) by A, the others by B. -/
def mix2 (a b : Nat) (A B : Nat → Nat → Bool) (y z : Nat) : Bool := if y < a ∨ (y = a ∧ z < b) then A y z else B y z
theorem mix2_at (a b : Nat) (A B : Nat → Nat → Bool) : mix2 a b A B a b = B a b := by simp [mix2]
theorem mix2_zero (A B : Nat → Nat → Bool) : mix2 0 0 A B = B := by funext y z; simp [mix2]
theorem mix2_put {a b : Nat} {A B : Nat → Nat → Bool} {x : Bool} (hb : b < 32) (h : A a b = x) : (tabV (mix2 a b A B)).set (a * 32 + b) (.bool x) = tabV (mix2 a (b + 1) A B) := by
  refine tabV_put hb fun y z _ _ => ?_
  unfold mix2
  by_cases e : y = a ∧ z = b
  · obtain ⟨rfl, rfl⟩ := e
    rw [if_pos (.inr ⟨rfl, by omega⟩), if_pos ⟨rfl, rfl⟩, h]
  · rw [if_neg e]
    by_cases e2 : y < a ∨ (y = a ∧ z < b)
    · rw [if_pos e2, if_pos (by omega)]
    · rw [if_neg e2, if_neg (by omega)]
theorem mix2_row (a : Nat) (A B : Nat → Nat → Bool) : tabV (mix2 a 32 A B) = tabV (mix2 (a + 1) 0 A B) := by
  refine tabV_congr fun y z _ _ => ?_
  unfold mix2
  by_cases e : y < a ∨ (y = a ∧ z < 32)
  · rw [if_pos e, if_pos (by omega)]
  · rw [if_neg e, if_neg (by omega)]
theorem mix2_all (A B : Nat → Nat → Bool) : tabV (mix2 32 0 A B) = tabV A := tabV_congr fun y z h _ => by unfold mix2; rw [if_pos (by omega)]

/-- One place anew. -/
def put {α : Type} (f : Nat → α) (k : Nat) (x : α) (i : Nat) : α := if i = k then x else f i
theorem put_at {α : Type} (f : Nat → α) (k : Nat) (x : α) : put f k x k = x := if_pos rfl
theorem put_ne {α : Type} (f : Nat → α) {k i : Nat} (x : α) (h : i ≠ k) : put f k x i = f i := if_neg h
theorem put_put {α : Type} (f : Nat → α) (k : Nat) (x y : α) : put (put f k x) k y = put f k y := by
  funext i; unfold put; by_cases h : i = k <;> simp [h]
theorem put_self {α : Type} (f : Nat → α) (k : Nat) : put f k (f k) = f := by
  funext i; unfold put; by_cases h : i = k <;> simp [h]
theorem relV_put (f : Nat → U) (k : Nat) (x : U) : (relV f).set k (.int .u32 (x.toNat : Int)) = relV (put f k x) := relV_set f k x
theorem put_mix {k : Nat} {A B : Nat → U} {x : U} (hx : A k = x) : relV (put (mix k A B) k x) = relV (mix (k + 1) A B) := by
  rw [← relV_put, relV_mixput hx]
/-- A set by its bits, the first b. -/
def rowB (t : Nat → Bool) : Nat → U
  | 0 => 0#32
  | b + 1 => if t b then rowB t b ||| (1#32 <<< b) else rowB t b
theorem rowB_bit (t : Nat → Bool) (b : Nat) {i : Nat} (hi : i < 32) : (rowB t b).getLsbD i = (decide (i < b) && t i) := by
  induction b with
  | zero => simp [rowB]
  | succ b ih =>
    rw [rowB]
    by_cases hb : i = b
    · subst hb
      cases ht : t i
      · simp [ih]
      · simp only [if_true, BitVec.getLsbD_or, ih, u_one hi]; simp
    · have : decide (i < b + 1) = decide (i < b) := by
        by_cases h : i < b <;> simp [h] <;> omega
      rw [this]
      split
      · rw [BitVec.getLsbD_or, ih, u_one hi]; simp [hb]
      · exact ih
def ofTab (t : Nat → Nat → Bool) : Nat → U := fun a => rowB (t a) 32
theorem ofTab_bit (t : Nat → Nat → Bool) (a : Nat) {b : Nat} (hb : b < 32) : (ofTab t a).getLsbD b = t a b := by
  unfold ofTab; rw [rowB_bit _ _ hb]; simp [hb]
theorem relV_bits {f g : Nat → U} (h : ∀ a b, a < 32 → b < 32 → (f a).getLsbD b = (g a).getLsbD b) : relV f = relV g := relV_congr fun k hk => u_ext fun i hi => h k i hk hi
theorem ofTab_eq {t : Nat → Nat → Bool} {f : Nat → U} (h : ∀ a b, a < 32 → b < 32 → t a b = (f a).getLsbD b) : relV (ofTab t) = relV f := relV_bits fun a b ha hb => by rw [ofTab_bit t a hb, h a b ha hb]
end Go.Proofs.YtjjlbfamfioofaaDoor.AM
