/-
  A code that is right; all its paths; the law's own small functions.
  Conditions: none but that it is right.
-/
import Derived.Test.YtjodnadlplicmaaFa8
namespace Go.Proofs.Ytjodnadlplicmaa.AM
open Go.RowKit
set_option linter.unusedSimpArgs false
set_option linter.unusedVariables false

/-- A code alone is right. -/
def rightC (code : List Ins) : Bool := (checkV [code]).2.2 == 0
structure RC (code : List Ins) : Prop where
  len : code.length ≤ 8
  all : ∀ k (hk : k < code.length), rightV code[k] k code.length = 0
theorem findSome_all {α β : Type} {f : α → Option β} : ∀ {l : List α}, l.findSome? f = none → ∀ a ∈ l, f a = none
  | [], _, a, h => by cases h
  | b :: l, e, a, h => by
    rw [List.findSome?_cons] at e
    cases hb : f b with
    | some x => rw [hb] at e; cases e
    | none =>
      rw [hb] at e
      rcases List.mem_cons.1 h with rfl | h
      · exact hb
      · exact findSome_all e a h
theorem rightC_rc {code : List Ins} (h : rightC code = true) : RC code := by
  unfold rightC checkV at h
  rw [if_neg (by simp)] at h
  by_cases h8 : 8 < code.length
  · have e : longT [code] = some 0 := find_first (k := 0) (fun t ht => by omega) (by simpa using h8) (by simp)
    rw [e] at h; simp at h
  · have e : longT [code] = none := find_none fun t ht => by
      have : t = 0 := by simpa using ht
      subst this; simpa using h8
    rw [e] at h
    simp only at h
    cases hb : badT [code] with
    | some x =>
      rw [hb] at h
      obtain ⟨t, k, e⟩ := x
      exfalso
      have he : e = 0 := by simpa using h
      subst he
      unfold badT at hb
      obtain ⟨t', ht', hg⟩ := List.exists_of_findSome?_eq_some hb
      unfold badG at hg
      have : t' = 0 := by simpa using ht'
      subst this
      simp only [List.getElem?_cons_zero] at hg
      cases hc : badC code with
      | none => rw [hc] at hg; cases hg
      | some y =>
        rw [hc] at hg
        obtain ⟨k', e'⟩ := y
        simp at hg
        obtain ⟨_, _, rfl⟩ := hg
        unfold badC at hc
        obtain ⟨k2, hk2, hf⟩ := List.exists_of_findSome?_eq_some hc
        unfold badF at hf
        have hk3 : k2 < code.length := by simpa using hk2
        rw [List.getElem?_eq_getElem hk3] at hf
        simp only at hf
        split at hf
        · cases hf
        · rename_i hne
          simp at hf
          exact hne hf.2
    | none =>
      refine ⟨by omega, fun k hk => ?_⟩
      unfold badT at hb
      have h0 := findSome_all hb 0 (by simp)
      unfold badG at h0
      simp only [List.getElem?_cons_zero, Option.map_eq_none_iff] at h0
      unfold badC at h0
      have h1 := findSome_all h0 k (by simpa using hk)
      unfold badF at h1
      rw [List.getElem?_eq_getElem hk] at h1
      simp only at h1
      split at h1
      · assumption
      · cases h1
theorem rightV_ok {i : Ins} {k n : Nat} (h : rightV i k n = 0) : okI i = true := by
  unfold rightV at h
  by_cases ho : okI i = true
  · exact ho
  · simp [ho] at h
theorem RC.to {code : List Ins} (e : RC code) : ∀ i ∈ code, i.op = 9 → i.to ≤ code.length := by
  intro i hi h9
  obtain ⟨k, hk, rfl⟩ := List.mem_iff_getElem.1 hi
  have h := e.all k hk
  unfold rightV at h
  rw [rightV_ok (e.all k hk), if_pos rfl] at h
  have h9' : (code[k].op == 9) = true := by simp [h9]
  rw [h9', Bool.true_and] at h
  split at h
  · omega
  · rename_i hc
    simp at hc; omega
theorem RC.one {code : List Ins} (e : RC code) : ∀ i ∈ code, i.op = 2 → i.b = -1 := by
  intro i hi h2
  obtain ⟨k, hk, rfl⟩ := List.mem_iff_getElem.1 hi
  have h := rightV_ok (e.all k hk)
  unfold okI at h
  have n1 : (code[k].op == 1) = false := by simp [h2]
  have n2 : (code[k].op == 2) = true := by simp [h2]
  simp only [n1, n2, Bool.false_eq_true, if_false, if_true, Bool.and_eq_true, beq_iff_eq] at h
  exact h.2.2.1
theorem Codes_row {H : Heap} {c : Value} {code : List Ins} (e : InsSl H c code) : Codes (H ++ [.cells [c] 0 false]) (.slice (some ⟨H.length, 0, some 0⟩) 1 1) [code] := by
  refine ⟨[c], ⟨.inr ⟨H.length, 0, 0, rfl, ?_⟩, by simp⟩, rfl, ?_⟩
  · simp [Heap.read]
  · intro k v d hv hd
    have : k = 0 := by
      have := (List.getElem?_eq_some_iff.1 hv).1
      simpa using this
    subst this
    simp at hv hd
    subst hv hd
    exact e.more _
theorem laid_slice (a : Option Addr) (n c : Nat) : laid (.slice a n c) = some [.slice a n c] := by simp [laid]
theorem Sl.shape17 {H : Heap} {s : Value} {c : Nat} {rows : List (List Value)} (e : Sl H s c rows) : (s = .slice none 0 0) ∨ ∃ p n, s = .slice (some p) n c := by
  rcases e.shape with ⟨h, _⟩ | h
  · exact .inl h
  · exact .inr h
theorem InsSl.shape {H : Heap} {c : Value} {code : List Ins} (e : InsSl H c code) : ∃ a n m, c = .slice a n m := by
  rcases Sl.shape17 e with h | ⟨p, n, h⟩
  · exact ⟨_, _, _, h⟩
  · exact ⟨_, _, _, h⟩
end Go.Proofs.Ytjodnadlplicmaa.AM
