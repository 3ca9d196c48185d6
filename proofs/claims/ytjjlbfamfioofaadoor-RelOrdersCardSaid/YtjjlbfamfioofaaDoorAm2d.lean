/-
  AM, part 2d: evaluation of what reads and writes rows.
  Conditions: none.
-/
import Derived.Test.YtjjlbfamfioofaaDoorAm2c
namespace Go.Proofs.YtjjlbfamfioofaaDoor.AM
open Go.RowKit

section
variable {call : Caller} (ρ : Operand → Value) (h : Heap)
def rowO (h : Heap) (size : Nat) : Value → Value → Option (Value × Heap)
  | .slice (some p) n c, .int _ k => if c = size ∧ 0 ≤ k ∧ k < n then some (.pointer (some { p with off := p.off + k.toNat * size }), h) else none
  | _, _ => none
theorem O_atRow (size : Nat) (x i : Operand) : evOp call ρ h (.atRow size x i) = rowO h size (ρ x) (ρ i) := by
  simp only [evOp]; generalize ρ x = x; generalize ρ i = y
  cases x with
  | slice p n c => cases p <;> cases y <;> rfl
  | _ => rfl
theorem row_some {size : Nat} {p : Addr} {n : Nat} {kk : IntKind} {k : Int} (h0 : 0 ≤ k) (h1 : k < n) : rowO h size (.slice (some p) n size) (.int kk k) = some (.pointer (some ⟨p.block, p.off + k.toNat * size, p.spot⟩), h) := by
  simp only [rowO]; rw [if_pos ⟨trivial, h0, h1⟩]
def load1O (h : Heap) : Value → Option (Value × Heap)
  | .pointer (some p) => pairO h (h.read1 p)
  | _ => none
theorem O_load1 (a : Operand) : evOp call ρ h (.load1 a) = load1O h (ρ a) := by
  simp only [evOp]; generalize ρ a = x
  cases x <;> try rfl
  rename_i p
  cases p with
  | none => rfl
  | some p => simp only [load1O]; cases h.read1 p <;> rfl
theorem load1_ptr (p : Addr) : load1O h (.pointer (some p)) = pairO h (h.read1 p) := rfl
def loadO (h : Heap) (n : Nat) : Value → Option (Value × Heap)
  | .pointer (some p) => pairO h ((h.read p n).map agg)
  | _ => none
theorem O_load (n : Nat) (a : Operand) : evOp call ρ h (.load n a) = loadO h n (ρ a) := by
  simp only [evOp]; generalize ρ a = x
  cases x <;> try rfl
  rename_i p
  cases p with
  | none => rfl
  | some p => simp only [loadO]; cases h.read p n <;> rfl
theorem load_ptr (n : Nat) (p : Addr) : loadO h n (.pointer (some p)) = pairO h ((h.read p n).map agg) := rfl
/-- A new row, its parts laid in. -/
def mkO (h : Heap) (n size : Nat) : Option (List Value) → Option (Value × Heap)
  | some l => some (slc h.length 0 0 n size, h ++ [.cells l 0 false])
  | none => none
def partsV (ρ : Operand → Value) : List (Nat × Nat × Operand) → List (Nat × Nat × Value)
  | [] => []
  | p :: r => (p.1, p.2.1, ρ p.2.2) :: partsV ρ r
theorem partsV_nil : partsV ρ [] = [] := rfl
theorem partsV_cons (i n : Nat) (x : Operand) (r : List (Nat × Nat × Operand)) : partsV ρ ((i, n, x) :: r) = (i, n, ρ x) :: partsV ρ r := rfl
theorem partsV_eq (ps : List (Nat × Nat × Operand)) : (ps.map fun p => (p.1, p.2.1, ρ p.2.2)) = partsV ρ ps := by
  induction ps with
  | nil => rfl
  | cons p r ih => simp only [List.map_cons, ih]; rfl
theorem O_mkRow (z : List Value) (n : Nat) (ps : List (Nat × Nat × Operand)) : evOp call ρ h (.mkRow z n ps) = mkO h n z.length (fillRow (zeros z n) (partsV ρ ps)) := by
  simp only [evOp, partsV_eq]; cases fillRow (zeros z n) (partsV ρ ps) <;> rfl
def buildO (h : Heap) : Option (List Value) → Option (Value × Heap)
  | some l => some (agg l, h)
  | none => none
theorem O_build (z : List Value) (ps : List (Nat × Nat × Operand)) : evOp call ρ h (.build z ps) = buildO h (fillRow z (partsV ρ ps)) := by
  simp only [evOp, partsV_eq]; cases fillRow z (partsV ρ ps) <;> rfl
theorem mk_some (n size : Nat) (l : List Value) : mkO h n size (some l) = some (slc h.length 0 0 n size, h ++ [.cells l 0 false]) := rfl
theorem build_some (l : List Value) : buildO h (some l) = some (agg l, h) := rfl
theorem fill_nil (l : List Value) : fillRow l [] = some l := rfl
theorem splice_one {l : List Value} {i : Nat} (hi : i < l.length) (v : Value) : splice l i [v] = l.set i v := by
  unfold splice; rw [List.set_eq_take_append_cons_drop, if_pos hi]; simp
theorem fill_one {l : List Value} {i : Nat} {v : Value} (r : List (Nat × Nat × Value)) (hi : i < l.length) (hv : laid v = some [v]) : fillRow l ((i, 1, v) :: r) = fillRow (l.set i v) r := by
  rw [fillRow, hv]; simp only [List.length_singleton, true_and]; rw [if_pos (by omega), splice_one hi]
theorem fill_int {l : List Value} {i : Nat} {k : IntKind} {n : Int} (r : List (Nat × Nat × Value)) (hi : i < l.length) : fillRow l ((i, 1, .int k n) :: r) = fillRow (l.set i (.int k n)) r := fill_one r hi rfl
theorem fill_bool {l : List Value} {i : Nat} {b : Bool} (r : List (Nat × Nat × Value)) (hi : i < l.length) : fillRow l ((i, 1, .bool b) :: r) = fillRow (l.set i (.bool b)) r := fill_one r hi rfl
theorem fill_slice {l : List Value} {i : Nat} {p : Option Addr} {n c : Nat} (r : List (Nat × Nat × Value)) (hi : i < l.length) : fillRow l ((i, 1, .slice p n c) :: r) = fillRow (l.set i (.slice p n c)) r := fill_one r hi rfl
theorem fill_string {l : List Value} {i : Nat} {s : ByteArray} (r : List (Nat × Nat × Value)) (hi : i < l.length) : fillRow l ((i, 1, .string s) :: r) = fillRow (l.set i (.string s)) r := fill_one r hi rfl
theorem zeros_zero (z : List Value) : zeros z 0 = [] := rfl
theorem zeros_succ (z : List Value) (n : Nat) : zeros z (n + 1) = z ++ zeros z n := rfl

/-- Reading what was just laid behind the rest. -/
theorem read1_last (l : List Value) (o : Nat) (v : Value) (hv : l[o]? = some v) : Heap.read1 (h ++ [AObj.cells l 0 false]) ⟨h.length, o, some 0⟩ = some v := by
  unfold Heap.read1; simp [hv]
theorem read_last (l : List Value) (n : Nat) (hn : n ≤ l.length) : Heap.read (h ++ [AObj.cells l 0 false]) ⟨h.length, 0, some 0⟩ n = some (l.take n) := by
  unfold Heap.read; simp [hn]
/-- What was read is read with more behind. -/
theorem read_more {p : Addr} {n : Nat} {l : List Value} (more : Heap) (e : h.read p n = some l) : Heap.read (h ++ more) p n = some l := by
  unfold Heap.read at e ⊢
  split at e
  · rename_i vals ver ro hb
    rw [List.getElem?_append_left (List.getElem?_eq_some_iff.1 hb).1, hb]; exact e
  · cases e
theorem read_get {p : Addr} {n : Nat} {l : List Value} (e : h.read p n = some l) {i : Nat} {v : Value} (hv : l[i]? = some v) : h.read1 ⟨p.block, p.off + i, p.spot⟩ = some v := by
  unfold Heap.read at e
  unfold Heap.read1
  split at e
  · rename_i vals ver ro hb
    simp only [hb]
    split at e
    · rename_i hc
      cases e
      rw [if_pos hc.1]
      rw [List.getElem?_take] at hv
      split at hv
      · rwa [List.getElem?_drop] at hv
      · cases hv
    · cases e
  · cases e
theorem read_len {p : Addr} {n : Nat} {l : List Value} (e : h.read p n = some l) : l.length = n := by
  unfold Heap.read at e
  split at e
  · split at e
    · rename_i hc
      cases e; simp; omega
    · cases e
  · cases e
/-- The end of a function that has laid more, and answers a flat value. -/
theorem end_more (more : Heap) (i : Nat) (t : List Value) (hf : flat (t.getD i undef) = true) : endF h [.tmp i] (some (.ret, ⟨t, h ++ more⟩)) = some (t.getD i undef, h) := by
  simp [endF, aResults, aRes, finish, List.getD_eq_getElem?_getD] at hf ⊢
  simp [hf]
theorem Q_more (more : Heap) (i : Nat) (t : List Value) (r : Option (Value × Heap)) (hf : flat (t.getD i undef) = true) : retQ h [.tmp i] r .ret ⟨t, h ++ more⟩ = (some (t.getD i undef, h) = r) := by
  unfold retQ; rw [end_more h more i t hf]
end
/-- A row of whole numbers. -/
def Ints (h : Heap) (s : Value) (ms : List Int) : Prop := ∃ p, s = .slice (some p) ms.length 1 ∧ h.read p ms.length = some (ms.map (.int .i64 ·))
theorem Ints.get {h : Heap} {p : Addr} {ms : List Int} (e : h.read p ms.length = some (ms.map (.int .i64 ·))) {k : Nat} (hk : k < ms.length) : h.read1 ⟨p.block, p.off + k, p.spot⟩ = some (.int .i64 ms[k]) := read_get h e (by simp [hk])
end Go.Proofs.YtjjlbfamfioofaaDoor.AM
