/-
  The flow along a path: a register's value.
  Conditions: paths no longer than 8.
-/
import Derived.Test.YtjodnadlplicmaaFa3
namespace Go.Proofs.Ytjodnadlplicmaa.AM
open Go.RowKit
set_option linter.unusedSimpArgs false
set_option linter.unusedVariables false

theorem insL_9 (i : Ins) : (insL i)[9]? = some (.int .i64 i.fn) := rfl
theorem kn0 (x : Int) : (Go.bits .and .i64 x 1 == 0) = !(bi x 0) := by rw [and_one]; cases bi x 0 <;> rfl
theorem kn1 (x : Int) : (Go.bits .and .i64 x 1 == 1) = bi x 0 := by rw [and_one]; cases bi x 0 <;> rfl
def regsL (R : List Int) : List Value := R.map fun n => .int .i64 n
theorem regsL_len (R : List Int) : (regsL R).length = R.length := by simp [regsL]
theorem regsL_get {R : List Int} {k : Nat} (hk : k < R.length) : (regsL R)[k]? = some (.int .i64 (R.getD k 0)) := by
  unfold regsL; rw [List.getElem?_map, List.getElem?_eq_getElem hk, List.getD_eq_getElem?_getD, List.getElem?_eq_getElem hk]; rfl
theorem defV_gives (ps : List Ins) (r : Int) : ∀ (k d : Nat) (hd : d < ps.length), defV ps r k = (d : Int) → givesV ps[d] = r
  | 0, d, hd, h => by simp only [defV] at h; omega
  | k + 1, d, hd, h => by
    by_cases hk : k < ps.length
    · rw [defV_succ r hk] at h
      split at h
      · have : k = d := by omega
        subst this; assumption
      · exact defV_gives ps r k d hd h
    · have hn : defV ps r (k + 1) = defV ps r k := by
        show (match ps[k]? with
          | some i => if givesV i = r then (k : Int) else defV ps r k
          | none => defV ps r k) = _
        rw [List.getElem?_eq_none (by omega)]
      rw [hn] at h
      exact defV_gives ps r k d hd h
theorem defP_gives {ps : List Ins} {place r : Int} {d : Nat} (hd : d < ps.length) (h : defP ps place r = (d : Int)) : givesV ps[d] = r := by
  unfold defP at h
  split at h
  · omega
  · exact defV_gives ps r _ d hd h
theorem gives_cases {i : Ins} (h : givesV i ≠ -1) : (readsV i = false ∧ (i.op == 1) = true) ∨ (readsV i = false ∧ (i.op == 1) = false ∧ (i.op == 2) = true) ∨ (readsV i = false ∧ (i.op == 1) = false ∧ (i.op == 2) = false ∧ (i.op == 3) = true) ∨ (readsV i = true ∧ (i.op == 1) = false ∧ (i.op == 2) = false ∧ (i.op == 3) = false) := by
  unfold givesV at h
  unfold readsV
  by_cases h1 : i.op = 1
  · simp [h1]
  by_cases h2 : i.op = 2
  · simp [h2]
  by_cases h3 : i.op = 3
  · simp [h3]
  by_cases h4 : i.op = 4
  · simp [h4]
  by_cases h6 : i.op = 6
  · simp [h6]
  · simp [h1, h2, h3, h4, h6] at h
/-- A register's value before a place. -/
def valueF (ps : List Ins) (R vals : List Int) (kn : Int) : Nat → Int → Int → Int × Bool
  | 0, _, _ => (0, false)
  | f + 1, place, r => if r = -1 then (0, true) else if r < 0 ∨ 8 ≤ r then (0, false) else
    if defP ps place r < 0 then (R.getD r.toNat 0, true) else
    match ps[(defP ps place r).toNat]? with
    | none => (0, false)
    | some i =>
      if readsV i then (if decide ((defP ps place r).toNat < vals.length) && bi (shr .i64 kn (defP ps place r)) 0 then (vals.getD (defP ps place r).toNat 0, true) else (0, false))
      else if i.op == 1 then (i.imm, true)
      else if i.op == 2 then valueF ps R vals kn f (defP ps place r) i.a
      else
        if (valueF ps R vals kn f (defP ps place r) i.a).2 && (if i.b == -1 then (i.imm, true) else valueF ps R vals kn f (defP ps place r) i.b).2 then
          (aluV i.fn (valueF ps R vals kn f (defP ps place r) i.a).1 (if i.b == -1 then (i.imm, true) else valueF ps R vals kn f (defP ps place r) i.b).1, true) else (0, false)
section
variable {ps : List Ins} {R vals : List Int} {kn : Int} {f : Nat} {place r : Int}
theorem valueF_m1 : valueF ps R vals kn (f + 1) place (-1) = (0, true) := by rw [valueF, if_pos rfl]
theorem valueF_bad (h1 : r ≠ -1) (h : r < 0 ∨ 8 ≤ r) : valueF ps R vals kn (f + 1) place r = (0, false) := by rw [valueF, if_neg h1, if_pos h]
theorem valueF_reg {n : Nat} (hn : n < 8) (h : defP ps place (n : Int) = -1) : valueF ps R vals kn (f + 1) place (n : Int) = (R.getD n 0, true) := by
  rw [valueF, if_neg (by omega), if_neg (by omega), if_pos (by omega), Int.toNat_natCast]
theorem valueF_at {n d : Nat} (hn : n < 8) (hd : d < ps.length) (h : defP ps place (n : Int) = (d : Int)) : valueF ps R vals kn (f + 1) place (n : Int) =
      if readsV ps[d] then (if decide (d < vals.length) && bi (shr .i64 kn (d : Int)) 0 then (vals.getD d 0, true) else (0, false))
      else if ps[d].op == 1 then (ps[d].imm, true)
      else if ps[d].op == 2 then valueF ps R vals kn f (d : Int) ps[d].a
      else
        if (valueF ps R vals kn f (d : Int) ps[d].a).2 && (if ps[d].b == -1 then (ps[d].imm, true) else valueF ps R vals kn f (d : Int) ps[d].b).2 then
          (aluV ps[d].fn (valueF ps R vals kn f (d : Int) ps[d].a).1 (if ps[d].b == -1 then (ps[d].imm, true) else valueF ps R vals kn f (d : Int) ps[d].b).1, true) else (0, false) := by
  rw [valueF, if_neg (by omega), if_neg (by omega), if_neg (by omega)]
  simp only [h, Int.toNat_natCast]
  rw [List.getElem?_eq_getElem hd]
theorem okz (b : Bool) (x : Int) : (if b = true then (x, true) else ((0 : Int), false)).2 = false → (if b = true then (x, true) else ((0 : Int), false)).1 = 0 := by cases b <;> simp
theorem valueF_zero : ∀ (f : Nat) (place r : Int), (valueF ps R vals kn f place r).2 = false → (valueF ps R vals kn f place r).1 = 0
  | 0, _, _, _ => rfl
  | f + 1, place, r, h => by
    by_cases h1 : r = -1
    · subst h1; rw [valueF_m1]
    · by_cases h2 : r < 0 ∨ 8 ≤ r
      · rw [valueF_bad h1 h2]
      · obtain ⟨n, rfl⟩ : ∃ n : Nat, r = (n : Int) := ⟨r.toNat, by omega⟩
        rcases defP_cases ps place (n : Int) with hd | ⟨d, hd, hd1, hd2⟩
        · rw [valueF_reg (by omega) hd] at h; simp at h
        · rw [valueF_at (by omega) hd1 hd] at h ⊢
          revert h
          split
          · split <;> simp
          · split
            · simp
            · split
              · exact valueF_zero f _ _
              · exact okz _ _
end
section
variable {c p : Value} {code : List Ins} {path : List Int} {ps : List Ins} {R vals : List Int} {kn : Int}
def tupV (x : Int × Bool) : Value := tup [.int .i64 x.1, .bool x.2]
end
end Go.Proofs.Ytjodnadlplicmaa.AM
