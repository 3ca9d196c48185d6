/-
  AM, part 2e: evaluation of what is appended and cut.
  Conditions: none.
-/
import Derived.Test.YtjjlbfamfioofaaDoorAm2d
namespace Go.Proofs.YtjjlbfamfioofaaDoor.AM
open Go.RowKit

section
variable {call : Caller} (ρ : Operand → Value) (h : Heap)
theorem O_append (size bytes : Nat) (x y : Operand) : evOp call ρ h (.append size bytes x y) = appendTo h size bytes (ρ x) (srcOf h size (ρ y)) := rfl
theorem src_some {p : Addr} {n size : Nat} {l : List Value} (e : h.read p (n * size) = some l) : srcOf h size (.slice (some p) n size) = some (l, n) := by
  simp [srcOf, e]
theorem src_nils (size : Nat) : srcOf h size nils = some ([], 0) := rfl
/-- Appending to a row of one's own: it moves. -/
theorem append_at {h h' : Heap} {size bytes b m n ver : Nat} {vals ys : List Value} (hb : h[b]? = some (.cells vals ver false)) (hl : m * size ≤ vals.length) (hr : (m + n) * bytes ≤ roomFor) (hs : h.set b (.cells (vals.take (m * size) ++ ys) (ver + 1) false) = h') :
    appendTo h size bytes (slc b 0 ver m size) (some (ys, n)) = some (slc b 0 (ver + 1) (m + n) size, h') := by
  unfold appendTo slc
  simp only [hb]
  rw [if_pos ⟨trivial, trivial, trivial, hl, hr⟩, hs]
def cutO (h : Heap) (size : Nat) (lo hi : Option Value) : Value → Option (Value × Heap)
  | .slice (some p) n c => match bound lo 0, bound hi n with
    | some l, some k => if c = size ∧ l ≤ k ∧ k ≤ n then some (.slice (some { p with off := p.off + l * size }) (k - l) c, h) else none
    | _, _ => none
  | .slice none _ _ => match bound lo 0, bound hi 0 with
    | some 0, some 0 => some (nils, h)
    | _, _ => none
  | _ => none
theorem O_slice (size : Nat) (x : Operand) (lo hi : Option Operand) : evOp call ρ h (.slice size x lo hi) = cutO h size (lo.map ρ) (hi.map ρ) (ρ x) := by
  simp only [evOp]; generalize ρ x = x
  cases x with
  | slice p n c => cases p <;> rfl
  | _ => rfl
end
end Go.Proofs.YtjjlbfamfioofaaDoor.AM
