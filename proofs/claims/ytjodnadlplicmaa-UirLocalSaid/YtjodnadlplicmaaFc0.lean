/-
  A slice of one's own, written in place.
  Conditions: none.
-/
import Derived.Test.YtjodnadlplicmaaFa7
namespace Go.Proofs.Ytjodnadlplicmaa.AM
open Go.RowKit
set_option linter.unusedSimpArgs false
set_option linter.unusedVariables false

/-- A place of a slice of one's own is written. -/
theorem Own.putV {h H : Heap} {s : Value} {vs : List Value} (e : Own h H s 1 (vs.map fun x => [x])) (p : Pre h H) {k : Nat} (hk : k < vs.length) (x : Value) :
    ∃ b ver H', (∀ K, rowO K 1 s (.int .i64 (k : Int)) = some (.pointer (some ⟨b, k, some ver⟩), K)) ∧ Heap.write1 H ⟨b, k, some ver⟩ x = some H' ∧
      Own h H' s 1 ((vs.set k x).map fun x => [x]) ∧ Pre h H' ∧ blk s = some b ∧ H'.length = H.length ∧ ∀ (i : Nat) (o : AObj), i ≠ b → H[i]? = some o → H'[i]? = some o := by
  have flat1 : ∀ l : List Value, (l.map fun x => [x]).flatten = l := fun l => by induction l <;> simp_all
  rcases e with ⟨⟨rfl, hr⟩ | ⟨b, ver, hb, rfl, ho⟩, hc⟩
  · have : vs = [] := by simpa using hr
    subst this; simp at hk
  · have hlt := (List.getElem?_eq_some_iff.1 ho).1
    rw [flat1] at ho
    refine ⟨b, ver, H.set b (.cells (vs.set k x) ver false), fun K => ?_, ?_, ⟨.inr ⟨b, ver, hb, by simp, ?_⟩, by intro r hr; simp only [List.mem_map] at hr; obtain ⟨y, _, rfl⟩ := hr; rfl⟩, p.set hb _, rfl, by simp, fun i o hi ho' => ?_⟩
    · rw [row_nat K (by simpa using hk)]; simp
    · simp [Heap.write1, ho, hk]
    · rw [List.getElem?_set_self hlt, flat1]
    · rw [List.getElem?_set_ne (Ne.symm hi)]; exact ho'
theorem Own.putI {h H : Heap} {s : Value} {l : List Int} (e : Own h H s 1 (l.map intR)) (p : Pre h H) {k : Nat} (hk : k < l.length) (x : Int) :
    ∃ b ver H', (∀ K, rowO K 1 s (.int .i64 (k : Int)) = some (.pointer (some ⟨b, k, some ver⟩), K)) ∧ Heap.write1 H ⟨b, k, some ver⟩ (.int .i64 x) = some H' ∧
      Own h H' s 1 ((l.set k x).map intR) ∧ Pre h H' ∧ blk s = some b ∧ H'.length = H.length ∧ ∀ (i : Nat) (o : AObj), i ≠ b → H[i]? = some o → H'[i]? = some o := by
  have e' : Own h H s 1 ((l.map fun n => Value.int .i64 n).map fun x => [x]) := by rw [List.map_map]; exact e
  obtain ⟨b, ver, H', a1, a2, a3, a4⟩ := e'.putV p (k := k) (by simpa using hk) (.int .i64 x)
  refine ⟨b, ver, H', a1, a2, ?_, a4⟩
  have : (l.set k x).map intR = ((l.map fun n => Value.int .i64 n).set k (.int .i64 x)).map fun x => [x] := by
    rw [← List.map_set, List.map_map]; rfl
  rw [this]; exact a3
end Go.Proofs.Ytjodnadlplicmaa.AM
