/-
  What is told of all paths through a code.
  Conditions: the code is right.
-/
import Derived.Test.YtoeoahpngmhkdaaFa9
namespace Go.Proofs.Ytoeoahpngmhkdaa.AM
open Go.RowKit
set_option linter.unusedSimpArgs false
set_option linter.unusedVariables false

theorem pathsN_succ {code : List Ins} {f k : Nat} (hk : k < code.length) : pathsN code (f + 1) k = (pathsN code f (k + 1)).map ((k : Int) :: ·) ++ if (code[k].op == 9) && (decide ((k : Int) + 1 < code[k].to) && decide (code[k].to ≤ (code.length : Int))) then (pathsN code f code[k].to.toNat).map ((k : Int) :: ·) else [] := by
  rw [pathsN, List.getElem?_eq_getElem hk]
theorem countP_drop {p : Ins → Bool} {code : List Ins} {k : Nat} (hk : k < code.length) : countP p (code.drop k) = (if p code[k] then 1 else 0) + countP p (code.drop (k + 1)) := by
  rw [List.drop_eq_getElem_cons hk]
  unfold countP
  rw [List.filter_cons]
  split
  · simp; omega
  · simp
theorem countP_mono {p : Ins → Bool} {code : List Ins} {k m : Nat} (h : k ≤ m) : countP p (code.drop m) ≤ countP p (code.drop k) := by
  obtain ⟨d, rfl⟩ : ∃ d, m = k + d := ⟨m - k, by omega⟩
  unfold countP
  rw [← List.drop_drop]
  exact ((List.drop_sublist d (code.drop k)).filter p).length_le
/-- There are at most as many paths as ways to take the branches. -/
theorem pathsN_br (code : List Ins) : ∀ f k, (pathsN code f k).length ≤ 2 ^ countP isBr (code.drop k)
  | 0, _ => by simp [pathsN]
  | f + 1, k => by
    by_cases hk : k < code.length
    · rw [pathsN_succ hk, countP_drop hk]
      have h1 := pathsN_br code f (k + 1)
      cases hc : (code[k].op == 9 && (decide ((k : Int) + 1 < code[k].to) && decide (code[k].to ≤ (code.length : Int))))
      · rw [if_neg (by simp), List.append_nil, List.length_map]
        refine Nat.le_trans h1 (Nat.pow_le_pow_right (by omega) (by omega))
      · simp only [Bool.and_eq_true, decide_eq_true_eq] at hc
        have hb : isBr code[k] = true := hc.1
        have h2 := pathsN_br code f code[k].to.toNat
        have h3 := countP_mono (p := isBr) (code := code) (k := k + 1) (m := code[k].to.toNat) (by omega)
        have h4 : 2 ^ countP isBr (code.drop code[k].to.toNat) ≤ 2 ^ countP isBr (code.drop (k + 1)) := Nat.pow_le_pow_right (by omega) h3
        rw [if_pos rfl, hb, if_pos rfl, List.length_append, List.length_map, List.length_map, Nat.add_comm 1, Nat.pow_succ]
        omega
    · rw [pathsN, List.getElem?_eq_none (by omega)]
      simp; exact Nat.pos_of_ne_zero (by simp)
/-- A path from a place on. -/
def chainP (code : List Ins) : Nat → List Int → Prop
  | k, [] => code.length ≤ k
  | k, x :: l => x = (k : Int) ∧ ∃ hk : k < code.length, ∃ m : Nat, (m = k + 1 ∨ (code[k].op = 9 ∧ code[k].to = (m : Int))) ∧ m ≤ code.length ∧ chainP code m l
theorem pathsN_chain (code : List Ins) : ∀ f k, code.length - k < f → ∀ l ∈ pathsN code f k, chainP code k l
  | 0, _, h => by omega
  | f + 1, k, h => by
    intro l hl
    by_cases hk : k < code.length
    · rw [pathsN_succ hk, List.mem_append, List.mem_map] at hl
      rcases hl with ⟨m, hm, rfl⟩ | hl
      · exact ⟨rfl, hk, k + 1, .inl rfl, hk, pathsN_chain code f _ (by omega) m hm⟩
      · split at hl
        · rename_i hc
          simp only [Bool.and_eq_true, decide_eq_true_eq, beq_iff_eq] at hc
          simp only [List.mem_map] at hl
          obtain ⟨m, hm, rfl⟩ := hl
          exact ⟨rfl, hk, code[k].to.toNat, .inr ⟨hc.1, by omega⟩, by omega, pathsN_chain code f _ (by omega) m hm⟩
        · cases hl
    · rw [pathsN, List.getElem?_eq_none (by omega)] at hl
      simp at hl; subst hl
      show code.length ≤ k
      omega
/-- The next place of a path. -/
theorem chainP_get {code : List Ins} : ∀ {l : List Int} {k : Nat}, chainP code k l → k ≤ code.length →
    (l = [] → k = code.length) ∧ (∀ h : 0 < l.length, l[0] = (k : Int)) ∧
    (∀ j (hj : j < l.length), ∃ m : Nat, l[j] = (m : Int) ∧ ∃ hm : m < code.length,
      ∃ q : Nat, (q = m + 1 ∨ (code[m].op = 9 ∧ code[m].to = (q : Int))) ∧ (∀ hj1 : j + 1 < l.length, l[j + 1] = (q : Int)) ∧ (j + 1 = l.length → q = code.length))
  | [], k, h, hk => ⟨fun _ => Nat.le_antisymm hk h, fun h => by simp at h, fun j hj => by simp at hj⟩
  | x :: l, k, h, hk => by
    obtain ⟨rfl, hk1, m, hm, hm2, hl⟩ := h
    obtain ⟨i1, i2, i3⟩ := chainP_get hl hm2
    refine ⟨by simp, fun _ => rfl, fun j hj => ?_⟩
    cases j with
    | zero =>
      refine ⟨k, rfl, hk1, m, hm, fun hj1 => ?_, fun hj1 => ?_⟩
      · exact i2 (by simpa using hj1)
      · refine i1 ?_
        simpa using hj1
    | succ j =>
      obtain ⟨p, q1, q2, q, q3, q4, q5⟩ := i3 j (by simpa using hj)
      exact ⟨p, q1, q2, q, q3, fun hj1 => q4 (by simpa using hj1), fun hj1 => q5 (by simpa using hj1)⟩
theorem chainP_apart {code : List Ins} {a b : Nat} (hab : a < b) (hb : b ≤ code.length) {l : List Int} (h1 : chainP code a l) (h2 : chainP code b l) : False := by
  cases l with
  | nil => have : code.length ≤ a := h1; omega
  | cons x l => have e1 := h1.1; have e2 := h2.1; omega
/-- No two are the same. -/
theorem pathsN_nodup (code : List Ins) : ∀ f k, code.length - k < f → (pathsN code f k).Nodup
  | 0, _, h => by omega
  | f + 1, k, h => by
    by_cases hk : k < code.length
    · rw [pathsN_succ hk]
      have inj : ∀ L : List (List Int), L.Nodup → (L.map ((k : Int) :: ·)).Nodup := fun L hL => List.pairwise_map.2 (hL.imp fun hne e => hne (List.cons.inj e).2)
      rw [List.nodup_append]
      refine ⟨inj _ (pathsN_nodup code f _ (by omega)), ?_, ?_⟩
      · split
        · rename_i hc
          simp only [Bool.and_eq_true, decide_eq_true_eq] at hc
          exact inj _ (pathsN_nodup code f _ (by omega))
        · exact List.nodup_nil
      · intro a ha b hb hab
        subst hab
        split at hb
        · rename_i hc
          simp only [Bool.and_eq_true, decide_eq_true_eq] at hc
          simp only [List.mem_map] at ha hb
          obtain ⟨l, hl, rfl⟩ := ha
          obtain ⟨m, hm, e⟩ := hb
          have e' : m = l := (List.cons.inj e).2
          subst e'
          exact chainP_apart (a := k + 1) (b := code[k].to.toNat) (by omega) (by omega) (pathsN_chain code f _ (by omega) _ hl) (pathsN_chain code f _ (by omega) _ hm)
        · cases hb
    · rw [pathsN, List.getElem?_eq_none (by omega)]
      simp
end Go.Proofs.Ytoeoahpngmhkdaa.AM
