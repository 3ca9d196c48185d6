/-
  The flow of a thread's code along a path: an instruction, a register's last giver.
  Conditions: the path's places lie in the code; lengths below 2^62.
-/
import Derived.Test.YtjodnadlplicmaaUa6
namespace Go.Proofs.Ytjodnadlplicmaa.AM
open Go.RowKit
set_option linter.unusedSimpArgs false
set_option linter.unusedVariables false

/-- A slice of whole numbers. -/
def intR (e : Int) : List Value := [.int .i64 e]
def IntS (h : Heap) (s : Value) (l : List Int) : Prop := Sl h s 1 (l.map intR)
section
variable {h : Heap} {s : Value} {l : List Int}
theorem IntS.len (e : IntS h s l) (H : Heap) : lenO H s = some (.int .i64 l.length, H) := by
  have := Sl.len e H
  rwa [List.length_map] at this
theorem IntS.at (e : IntS h s l) {k : Nat} (hk : k < l.length) : ∃ b o v, (∀ H, rowO H 1 s (.int .i64 (k : Int)) = some (.pointer (some ⟨b, o, some v⟩), H)) ∧ (∀ L, Heap.read1 (h ++ L) ⟨b, o, some v⟩ = some (.int .i64 l[k])) ∧ Heap.read1 h ⟨b, o, some v⟩ = some (.int .i64 l[k]) := by
  obtain ⟨b, o, v, h1, h2⟩ := Sl.at e (k := k) (by rw [List.length_map]; exact hk)
  have h3 : ∀ L, Heap.read1 (h ++ L) ⟨b, o, some v⟩ = some (.int .i64 l[k]) := fun L => read1_of0 (h2 L) (by rw [List.getElem_map]; rfl)
  exact ⟨b, o, v, h1, h3, by have := h3 []; rwa [List.append_nil] at this⟩
theorem IntS.more (e : IntS h s l) (L : Heap) : IntS (h ++ L) s l := Sl.more e L
theorem IntS.pre {H : Heap} (e : IntS h s l) (p : Pre h H) : IntS H s l := Sl.pre e p
end
/-- The instructions on a path. -/
structure On (h : Heap) (c p : Value) (code : List Ins) (path : List Int) (ps : List Ins) : Prop where
  c : InsSl h c code
  p : IntS h p path
  n : path.length = ps.length
  inn : ∀ k (hk : k < ps.length), ∃ m : Nat, path[k]? = some (m : Int) ∧ code[m]? = some ps[k]
  lc : code.length < 4611686018427387904
  lp : ps.length < 4611686018427387904
theorem On.more {h : Heap} {c p : Value} {code : List Ins} {path : List Int} {ps : List Ins} (e : On h c p code path ps) (L : Heap) : On (h ++ L) c p code path ps := ⟨e.c.more L, e.p.more L, e.n, e.inn, e.lc, e.lp⟩
theorem On.len {h : Heap} {c p : Value} {code : List Ins} {path : List Int} {ps : List Ins} (e : On h c p code path ps) (H : Heap) : lenO H p = some (.int .i64 ps.length, H) := by rw [← e.n]; exact e.p.len H
/-- An instruction on the path, read. -/
theorem On.rd {h : Heap} {c p : Value} {code : List Ins} {path : List Int} {ps : List Ins} (e : On h c p code path ps) {k : Nat} (hk : k < ps.length) :
    ∃ (m : Nat) (b o v b' o' v' : Nat), m < code.length ∧ (∀ H, rowO H 1 p (.int .i64 (k : Int)) = some (.pointer (some ⟨b, o, some v⟩), H)) ∧ (∀ L, Heap.read1 (h ++ L) ⟨b, o, some v⟩ = some (.int .i64 m)) ∧ Heap.read1 h ⟨b, o, some v⟩ = some (.int .i64 m) ∧
      (∀ H, rowO H 17 c (.int .i64 (m : Int)) = some (.pointer (some ⟨b', o', some v'⟩), H)) ∧ (∀ L, Heap.read (h ++ L) ⟨b', o', some v'⟩ 17 = some (insL ps[k])) ∧ Heap.read h ⟨b', o', some v'⟩ 17 = some (insL ps[k]) := by
  obtain ⟨m, h1, h2⟩ := e.inn k hk
  obtain ⟨b, o, v, a1, a2, a3⟩ := e.p.at (k := k) (by rw [e.n]; exact hk)
  have hm : m < code.length := (List.getElem?_eq_some_iff.1 h2).1
  have e1 : path[k]'(by rw [e.n]; exact hk) = (m : Int) := by
    have := (List.getElem?_eq_some_iff.1 h1).2; exact this
  have e2 : code[m] = ps[k] := (List.getElem?_eq_some_iff.1 h2).2
  obtain ⟨b', o', v', d1, d2, d3⟩ := e.c.at hm
  rw [e1] at a3
  simp only [e1] at a2
  rw [e2] at d3
  simp only [e2] at d2
  exact ⟨m, b, o, v, b', o', v', hm, a1, a2, a3, d1, d2, d3⟩
def zeroI : Ins := ⟨0, 0, 0, 0, 0, 0, 0, 0, 0, 0, false, false, false, 0, 0, 0, false⟩
theorem flat_insB (i : Ins) (b : Bool) : flat (tup [agg (insL i), .bool b]) = true := rfl
section
variable {h : Heap} {c p : Value} {code : List Ins} {path : List Int} {ps : List Ins}
end
/-- The last before k that gives r. -/
def defV (ps : List Ins) (r : Int) : Nat → Int
  | 0 => -1
  | k + 1 => match ps[k]? with
    | some i => if givesV i = r then (k : Int) else defV ps r k
    | none => defV ps r k
theorem defV_succ {ps : List Ins} (r : Int) {k : Nat} (hk : k < ps.length) : defV ps r (k + 1) = if givesV ps[k] = r then (k : Int) else defV ps r k := by
  show (match ps[k]? with
    | some i => if givesV i = r then (k : Int) else defV ps r k
    | none => defV ps r k) = _
  rw [List.getElem?_eq_getElem hk]
def cap (ps : List Ins) (place : Int) : Nat := min place.toNat ps.length
def defP (ps : List Ins) (place r : Int) : Int := if r < 0 then -1 else defV ps r (cap ps place)
theorem defV_lt (ps : List Ins) (r : Int) : ∀ k : Nat, -1 ≤ defV ps r k ∧ defV ps r k < k ∧ defV ps r k < ps.length
  | 0 => by simp [defV]; omega
  | k + 1 => by
    have := defV_lt ps r k
    unfold defV
    cases hi : ps[k]? with
    | none => simp only; omega
    | some i =>
      have := (List.getElem?_eq_some_iff.1 hi).1
      simp only; split <;> omega
theorem defP_cases (ps : List Ins) (place r : Int) : defP ps place r = -1 ∨ ∃ d : Nat, defP ps place r = (d : Int) ∧ d < ps.length ∧ (d : Int) < place := by
  unfold defP
  split
  · exact .inl rfl
  · have := defV_lt ps r (cap ps place)
    unfold cap at this ⊢
    by_cases hn : defV ps r (min place.toNat ps.length) = -1
    · exact .inl hn
    · exact .inr ⟨(defV ps r (min place.toNat ps.length)).toNat, by omega, by omega, by omega⟩
section
variable {h : Heap} {c p : Value} {code : List Ins} {path : List Int} {ps : List Ins}
end
end Go.Proofs.Ytjodnadlplicmaa.AM
