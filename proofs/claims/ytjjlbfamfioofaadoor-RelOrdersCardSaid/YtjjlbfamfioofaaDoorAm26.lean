/-
  AM, part 26: slices of rows of cells; rows made of whole parts.
  Conditions: none.
-/
import Derived.Test.YtjjlbfamfioofaaDoorAm25
namespace Go.Proofs.YtjjlbfamfioofaaDoor.AM
open Go.RowKit
set_option linter.unusedSimpArgs false
set_option linter.unusedVariables false

/-- A slice of elements of c cells each: nil, or somewhere. -/
def Sl (h : Heap) (s : Value) (c : Nat) (rows : List (List Value)) : Prop :=
  ((s = nils ∧ rows = []) ∨ ∃ b o v, s = .slice (some ⟨b, o, some v⟩) rows.length c ∧ h.read ⟨b, o, some v⟩ (rows.length * c) = some rows.flatten) ∧ ∀ r ∈ rows, r.length = c
section
variable {h : Heap} {s : Value} {c : Nat} {rows : List (List Value)}
theorem Sl.len (e : Sl h s c rows) (H : Heap) : lenO H s = some (.int .i64 rows.length, H) := by
  rcases e with ⟨⟨rfl, rfl⟩ | ⟨b, o, v, rfl, _⟩, _⟩ <;> rfl
theorem Sl.more (e : Sl h s c rows) (L : Heap) : Sl (h ++ L) s c rows := by
  rcases e with ⟨⟨rfl, rfl⟩ | ⟨b, o, v, rfl, hr⟩, hc⟩
  · exact ⟨.inl ⟨rfl, rfl⟩, hc⟩
  · exact ⟨.inr ⟨b, o, v, rfl, read_more h L hr⟩, hc⟩
theorem flatten_cut : ∀ (rows : List (List Value)) (c : Nat), (∀ r ∈ rows, r.length = c) → ∀ (k : Nat) (hk : k < rows.length), (rows.flatten.drop (k * c)).take c = rows[k]
  | [], c, hc, k, hk => by simp at hk
  | r :: rows, c, hc, 0, hk => by
    have := hc r (by simp)
    simp [this]
  | r :: rows, c, hc, k + 1, hk => by
    have h1 := hc r (by simp)
    have h2 := flatten_cut rows c (fun q hq => hc q (by simp [hq])) k (by simpa using hk)
    have h3 : (r ++ rows.flatten).drop ((k + 1) * c) = rows.flatten.drop (k * c) := by
      rw [Nat.succ_mul, Nat.add_comm, ← List.drop_drop, ← h1, List.drop_left]
    rw [List.flatten_cons, h3]
    simpa using h2
theorem flatten_length (rows : List (List Value)) (c : Nat) (hc : ∀ r ∈ rows, r.length = c) : rows.flatten.length = rows.length * c := by
  induction rows with
  | nil => simp
  | cons r rows ih =>
    rw [List.flatten_cons, List.length_append, hc r (by simp), ih fun q hq => hc q (by simp [hq]), List.length_cons, Nat.succ_mul, Nat.add_comm]
theorem read_cut {b o n : Nat} {v : Option Nat} {l : List Value} (e : h.read ⟨b, o, v⟩ n = some l) {i m : Nat} (hm : i + m ≤ n) : h.read ⟨b, o + i, v⟩ m = some ((l.drop i).take m) := by
  unfold Heap.read at e ⊢
  simp only at e ⊢
  split at e
  · rename_i vals ver ro hb
    split at e
    · rename_i hc
      rw [if_pos ⟨hc.1, by omega⟩]
      cases e
      rw [List.drop_take, List.drop_drop, List.take_take, Nat.min_eq_left (by omega)]
    · cases e
  · cases e
/-- An element of it. -/
theorem Sl.at (e : Sl h s c rows) {k : Nat} (hk : k < rows.length) : ∃ b o v, (∀ H, rowO H c s (.int .i64 (k : Int)) = some (.pointer (some ⟨b, o, some v⟩), H)) ∧ ∀ L, Heap.read (h ++ L) ⟨b, o, some v⟩ c = some rows[k] := by
  rcases e with ⟨⟨rfl, rfl⟩ | ⟨b, o, v, rfl, hr⟩, hc⟩
  · simp at hk
  · refine ⟨b, o + k * c, v, fun H => row_nat H hk, fun L => ?_⟩
    have h1 : k * c + c ≤ rows.length * c := by rw [← Nat.succ_mul]; exact Nat.mul_le_mul_right c hk
    rw [read_cut (read_more h L hr) h1, flatten_cut rows c hc k hk]
theorem read1_of {b o n : Nat} {v : Option Nat} {l : List Value} (e : h.read ⟨b, o, v⟩ n = some l) {i : Nat} {x : Value} (hx : l[i]? = some x) : h.read1 ⟨b, o + i, v⟩ = some x := read_get h e hx
theorem read1_of0 {b o n : Nat} {v : Option Nat} {l : List Value} (e : h.read ⟨b, o, v⟩ n = some l) {x : Value} (hx : l[0]? = some x) : h.read1 ⟨b, o, v⟩ = some x := read_get h e hx
/-- The elements' cells, one behind the other. -/
theorem Sl.src (e : Sl h s c rows) (L : Heap) : srcOf (h ++ L) c s = some (rows.flatten, rows.length) := by
  rcases e with ⟨⟨rfl, rfl⟩ | ⟨b, o, v, rfl, hr⟩, hc⟩
  · rfl
  · exact src_some _ (read_more h L hr)
theorem Sl.src0 (e : Sl h s c rows) : srcOf h c s = some (rows.flatten, rows.length) := by
  have := e.src []
  rwa [List.append_nil] at this
/-- Just laid. -/
theorem Sl.last (h : Heap) {c n : Nat} {rows : List (List Value)} {l : List Value} (hl : l = rows.flatten) (hn : n = rows.length) (hc : ∀ r ∈ rows, r.length = c) (ver : Nat) (ro : Bool) : Sl (h ++ [.cells l ver ro]) (.slice (some ⟨h.length, 0, some ver⟩) n c) c rows := by
  subst hl hn
  refine ⟨.inr ⟨_, _, ver, rfl, ?_⟩, hc⟩
  rw [read_skip0, read_there _ _ _ _ (flatten_length rows c hc)]
end

/-! Rows made of whole parts. -/
theorem zeros_len (z : List Value) (n : Nat) : (zeros z n).length = n * z.length := by
  induction n with
  | zero => simp [zeros]
  | succ n ih => rw [zeros, List.length_append, ih, Nat.succ_mul, Nat.add_comm]
theorem splice_mid {a b x y : List Value} (hx : x.length = y.length) : splice (a ++ x ++ b) a.length y = a ++ y ++ b := by
  unfold splice
  rw [List.append_assoc a x b, List.take_left, ← List.drop_drop, List.drop_left, ← hx, List.drop_left]
theorem fill_whole {c : Nat} {l : List Value} {i : Nat} {a z b : List Value} {r : List (Nat × Nat × Value)} (hl : l.length = c) (hi : a.length = i) (hz : z.length = c) : fillRow (a ++ z ++ b) ((i, c, agg l) :: r) = fillRow (a ++ l ++ b) r := by
  rw [fillRow, laid_agg]
  simp only
  rw [if_pos ⟨hl, by simp [hi, hz]⟩, ← hi, splice_mid (by omega)]
theorem fill_whole1 {c : Nat} {z l : List Value} (hz : z.length = c) (hl : l.length = c) : fillRow (zeros z 1) [(0, c, agg l)] = some l := by
  have e : zeros z 1 = [] ++ z ++ [] := by simp [zeros]
  rw [e, fill_whole (i := 0) hl rfl hz, fill_nil]; simp
theorem fill_whole2 {c : Nat} {z l m : List Value} (hz : z.length = c) (hl : l.length = c) (hm : m.length = c) : fillRow (zeros z 2) [(0, c, agg l), (c, c, agg m)] = some (l ++ m) := by
  have e : zeros z 2 = [] ++ z ++ z := by simp [zeros]
  rw [e, fill_whole (i := 0) hl rfl hz]
  have e2 : [] ++ l ++ z = l ++ z ++ [] := by simp
  rw [e2, fill_whole hm hl hz, fill_nil]; simp
theorem fill_whole3 {c : Nat} {z l m n : List Value} (hz : z.length = c) (hl : l.length = c) (hm : m.length = c) (hn : n.length = c) : fillRow (zeros z 3) [(0, c, agg l), (c, c, agg m), (2 * c, c, agg n)] = some (l ++ m ++ n) := by
  have e : zeros z 3 = [] ++ z ++ (z ++ z) := by simp [zeros]
  rw [e, fill_whole (i := 0) hl rfl hz]
  have e2 : [] ++ l ++ (z ++ z) = l ++ z ++ z := by simp
  rw [e2, fill_whole hm hl hz]
  have e3 : l ++ m ++ z = (l ++ m) ++ z ++ [] := by simp
  rw [e3, fill_whole hn (by simp; omega) hz, fill_nil]; simp
theorem fill_rel1 (f : Nat → U) : fillRow (relV fun _ => 0#32) [(0, 32, agg (relV f))] = some (relV f) := by
  have := fill_whole1 (relV_len fun _ => 0#32) (relV_len f)
  simpa [zeros] using this
theorem fill_rel2 (f g : Nat → U) : fillRow ((relV fun _ => 0#32) ++ relV fun _ => 0#32) [(0, 32, agg (relV f)), (32, 32, agg (relV g))] = some (relV f ++ relV g) := by
  have := fill_whole2 (relV_len fun _ => 0#32) (relV_len f) (relV_len g)
  simpa [zeros] using this
theorem fill_rel3 (f g k : Nat → U) : fillRow ((relV fun _ => 0#32) ++ ((relV fun _ => 0#32) ++ relV fun _ => 0#32)) [(0, 32, agg (relV f)), (32, 32, agg (relV g)), (64, 32, agg (relV k))] = some (relV f ++ (relV g ++ relV k)) := by
  have := fill_whole3 (relV_len fun _ => 0#32) (relV_len f) (relV_len g) (relV_len k)
  simpa [zeros] using this
/-- A slice of relations. -/
def Rels (h : Heap) (s : Value) (rs : List (Nat → U)) : Prop := Sl h s 32 (rs.map relV)
end Go.Proofs.YtjjlbfamfioofaaDoor.AM
