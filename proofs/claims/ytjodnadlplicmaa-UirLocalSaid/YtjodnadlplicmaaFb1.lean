/-
  The flow laws' own small functions.
  Conditions: the code takes no more than an argument may.
-/
import Derived.Test.YtjodnadlplicmaaFa9
namespace Go.Proofs.Ytjodnadlplicmaa.AM
open Go.RowKit
set_option linter.unusedSimpArgs false
set_option linter.unusedVariables false

theorem copy_c {H : Heap} {s : Value} {c bytes : Nat} {rows : List (List Value)} (e : Sl H s c rows) (hr : rows.length * bytes ≤ roomFor) :
    ∃ s' H', appendTo (H ++ [.cells [] 0 false]) c bytes (.slice (some ⟨H.length, 0, some 0⟩) 0 c) (srcOf (H ++ [.cells [] 0 false]) c s) = some (s', H') ∧ Own H H' s' c rows ∧ Pre H H' := by
  have own0 : Own H (H ++ [.cells [] 0 false]) (.slice (some ⟨H.length, 0, some 0⟩) 0 c) c [] := ⟨.inr ⟨H.length, 0, Nat.le_refl _, rfl, by simp⟩, by simp⟩
  obtain ⟨s', H', h1, h2, h3, h4, h5, h6⟩ := own0.append ((Pre.refl H).more _) (ys := rows.flatten) (rows' := rows) (bytes := bytes) rfl e.2 (by simpa using hr)
  exact ⟨s', H', by rw [e.src]; exact h1, by simpa using h2, h3⟩
theorem PL.at {h0 H : Heap} {v : Value} {L : List (List Int)} (e : PL h0 H v L) {k : Nat} (hk : k < L.length) :
    ∃ b o w x, (∀ K, rowO K 1 v (.int .i64 (k : Int)) = some (.pointer (some ⟨b, o, some w⟩), K)) ∧ Heap.read1 H ⟨b, o, some w⟩ = some x ∧ Own h0 H x 1 (L[k].map intR) := by
  obtain ⟨vs, e1, e2, e3, _⟩ := e
  have hkv : k < vs.length := by omega
  obtain ⟨b, o, w, d1, d2⟩ := e1.sl.atH (k := k) (by simpa using hkv)
  exact ⟨b, o, w, vs[k], d1, read1_of0 d2 (by rw [List.getElem_map]; rfl), e3 k _ _ (List.getElem?_eq_getElem hkv) (List.getElem?_eq_getElem hk)⟩
theorem pathsN_in (code : List Ins) : ∀ f k, ∀ l ∈ pathsN code f k, l.length ≤ code.length - k ∧ ∀ x ∈ l, ∃ m : Nat, x = (m : Int) ∧ m < code.length
  | 0, _ => by simp [pathsN]
  | f + 1, k => by
    intro l hl
    rw [pathsN] at hl
    cases hi : code[k]? with
    | none => rw [hi] at hl; simp at hl; subst hl; simp
    | some i =>
      have hk := (List.getElem?_eq_some_iff.1 hi).1
      rw [hi] at hl
      simp only [List.mem_append, List.mem_map] at hl
      rcases hl with ⟨m, hm, rfl⟩ | hl
      · obtain ⟨h1, h2⟩ := pathsN_in code f _ m hm
        refine ⟨by simp; omega, fun x hx => ?_⟩
        rcases List.mem_cons.1 hx with rfl | hx
        · exact ⟨k, rfl, hk⟩
        · exact h2 x hx
      · split at hl
        · rename_i hc
          simp only [Bool.and_eq_true, decide_eq_true_eq] at hc
          simp only [List.mem_map] at hl
          obtain ⟨m, hm, rfl⟩ := hl
          obtain ⟨h1, h2⟩ := pathsN_in code f _ m hm
          refine ⟨by simp; omega, fun x hx => ?_⟩
          rcases List.mem_cons.1 hx with rfl | hx
          · exact ⟨k, rfl, hk⟩
          · exact h2 x hx
        · cases hl
/-- The instructions that a path names. -/
def insOf (code : List Ins) (l : List Int) : List Ins := l.map fun x => code.getD x.toNat zeroI
theorem On.of {h : Heap} {c p : Value} {code : List Ins} {l : List Int} {f k : Nat} (hc : InsSl h c code) (hp : IntS h p l) (hl : l ∈ pathsN code f k) (h8 : code.length ≤ 8) : On h c p code l (insOf code l) := by
  obtain ⟨h1, h2⟩ := pathsN_in code f k l hl
  refine ⟨hc, hp, by simp [insOf], fun i hi => ?_, by omega, by simp [insOf]; omega⟩
  have hi' : i < l.length := by simpa [insOf] using hi
  obtain ⟨m, hm, hm2⟩ := h2 l[i] (List.getElem_mem _)
  refine ⟨m, by rw [List.getElem?_eq_getElem hi', hm], ?_⟩
  have : (insOf code l)[i] = code[m] := by
    simp only [insOf, List.getElem_map, hm, Int.toNat_natCast, List.getD_eq_getElem?_getD, List.getElem?_eq_getElem hm2]; rfl
  rw [this]
  exact List.getElem?_eq_getElem hm2
theorem names_8 {code : List Ins} {l : List Int} {f k : Nat} (hl : l ∈ pathsN code f k) (h8 : code.length ≤ 8) : (insOf code l).length ≤ 8 := by
  have := (pathsN_in code f k l hl).1
  simp [insOf]; omega
theorem names_one {code : List Ins} {l : List Int} {f k : Nat} (hl : l ∈ pathsN code f k) (rc : RC code) : OneA (insOf code l) := by
  intro i hi
  simp only [insOf, List.mem_map] at hi
  obtain ⟨x, hx, rfl⟩ := hi
  obtain ⟨m, rfl, hm⟩ := (pathsN_in code f k l hl).2 x hx
  rw [Int.toNat_natCast, List.getD_eq_getElem?_getD, List.getElem?_eq_getElem hm]
  exact rc.one _ (List.getElem_mem _)
end Go.Proofs.Ytjodnadlplicmaa.AM
