/-
  AM, part 19: what comes ahead of what in a statement whose order is open; operations that hang on no memory, or on what stays.
  Conditions: none.
-/
import Derived.Test.YtjjlbfamfioofaaDoorAm18
namespace Go.Proofs.YtjjlbfamfioofaaDoor.AM
open Go.RowKit

set_option linter.unusedSimpArgs false
set_option linter.unusedVariables false
variable {P : Program} {G N : Nat} {σ : Emb} {g : Mem} {w : World} {h : Heap}

def bits (b : List Nat) (i j : Nat) : Bool := (b.getD i 0).testBit j

theorem fold_bits (acc : Array Nat) : ∀ (l : List Edge) (s j : Nat), (l.foldl (fun s e => if Region.binds .any e then s ||| 2 ^ e.on ||| acc.getD e.on 0 else s) s).testBit j = true ↔
    s.testBit j = true ∨ ∃ e ∈ l, Region.binds .any e = true ∧ (j = e.on ∨ (acc.getD e.on 0).testBit j = true)
  | [], s, j => by simp
  | e :: l, s, j => by
    rw [List.foldl_cons, fold_bits acc l]
    by_cases hb : Region.binds .any e = true
    · rw [if_pos hb]
      simp only [Nat.testBit_or, Nat.testBit_two_pow, Bool.or_eq_true, decide_eq_true_eq, List.mem_cons]
      constructor
      · rintro ((((h | h) | h)) | ⟨e', he', h⟩)
        · exact .inl h
        · exact .inr ⟨e, .inl rfl, hb, .inl h.symm⟩
        · exact .inr ⟨e, .inl rfl, hb, .inr h⟩
        · exact .inr ⟨e', .inr he', h⟩
      · rintro (h | ⟨e', rfl | he', hb', h⟩)
        · exact .inl (.inl (.inl h))
        · rcases h with h | h
          · exact .inl (.inl (.inr h.symm))
          · exact .inl (.inr h)
        · exact .inr ⟨e', he', hb', h⟩
    · rw [if_neg hb]
      simp only [List.mem_cons]
      constructor
      · rintro (h | ⟨e', he', h⟩)
        · exact .inl h
        · exact .inr ⟨e', .inr he', h⟩
      · rintro (h | ⟨e', rfl | he', hb', h⟩)
        · exact .inl h
        · exact absurd hb' hb
        · exact .inr ⟨e', he', hb', h⟩

theorem before_fold : ∀ (l : List Oper) (acc : Array Nat),
    (l.foldl (fun acc o => acc.push (o.after.foldl (fun s e => if Region.binds .any e then s ||| 2 ^ e.on ||| acc.getD e.on 0 else s) 0)) acc).size = acc.size + l.length ∧
    (∀ i, i < acc.size → (l.foldl (fun acc o => acc.push (o.after.foldl (fun s e => if Region.binds .any e then s ||| 2 ^ e.on ||| acc.getD e.on 0 else s) 0)) acc).getD i 0 = acc.getD i 0) ∧
    ∀ (k : Nat) o, l[k]? = some o → ∃ ak : Array Nat, ak.size = acc.size + k ∧
      (∀ i, i < ak.size → ak.getD i 0 = (l.foldl (fun acc o => acc.push (o.after.foldl (fun s e => if Region.binds .any e then s ||| 2 ^ e.on ||| acc.getD e.on 0 else s) 0)) acc).getD i 0) ∧
      (l.foldl (fun acc o => acc.push (o.after.foldl (fun s e => if Region.binds .any e then s ||| 2 ^ e.on ||| acc.getD e.on 0 else s) 0)) acc).getD (acc.size + k) 0 =
        o.after.foldl (fun s e => if Region.binds .any e then s ||| 2 ^ e.on ||| ak.getD e.on 0 else s) 0
  | [], acc => ⟨by simp, fun _ _ => rfl, fun k o h => by simp at h⟩
  | o :: l, acc => by
    obtain ⟨h1, h2, h3⟩ := before_fold l (acc.push (o.after.foldl (fun s e => if Region.binds .any e then s ||| 2 ^ e.on ||| acc.getD e.on 0 else s) 0))
    simp only [Array.size_push] at h1 h2 h3
    have hpush : ∀ (x i : Nat), i < acc.size → (acc.push x).getD i 0 = acc.getD i 0 := by
      intro x i hi
      rw [Array.getD_eq_getD_getElem?, Array.getD_eq_getD_getElem?, Array.getElem?_push, if_neg (by omega)]
    have hlast : ∀ (x : Nat), (acc.push x).getD acc.size 0 = x := by
      intro x; rw [Array.getD_eq_getD_getElem?]; simp
    simp only [List.foldl_cons, List.length_cons]
    refine ⟨by omega, fun i hi => by rw [h2 i (by omega), hpush _ i hi], fun k q hk => ?_⟩
    cases k with
    | zero =>
      simp at hk; subst hk
      refine ⟨acc, rfl, fun i hi => ?_, ?_⟩
      · rw [h2 i (by omega), hpush _ i hi]
      · rw [Nat.add_zero, h2 acc.size (by omega), hlast]
    | succ k =>
      obtain ⟨ak, a1, a2, a3⟩ := h3 k q (by simpa using hk)
      exact ⟨ak, by omega, a2, by rw [show acc.size + (k + 1) = acc.size + 1 + k from by omega]; exact a3⟩

/-- What comes ahead of an operation: what its edges name, and what comes ahead of that. -/
theorem before_spec {ops : Array Oper} {i : Nat} {o : Oper} (hi : ops[i]? = some o) :
    (∀ e ∈ o.after, Region.binds .any e = true → bits (Region.before ops).toList i e.on = true) ∧
    ∀ j, bits (Region.before ops).toList i j = true → ∃ e ∈ o.after, Region.binds .any e = true ∧ (j = e.on ∨ bits (Region.before ops).toList e.on j = true) := by
  obtain ⟨h1, h2, h3⟩ := before_fold ops.toList #[]
  obtain ⟨ak, a1, a2, a3⟩ := h3 i o (by simpa using hi)
  have e0 : Region.before ops = ops.toList.foldl (fun acc o => acc.push (o.after.foldl (fun s e => if Region.binds .any e then s ||| 2 ^ e.on ||| acc.getD e.on 0 else s) 0)) #[] := by
    unfold Region.before
    rw [← Array.foldl_toList]
  rw [← e0] at h1 h2 a2 a3
  have hget : ∀ k, (Region.before ops).toList.getD k 0 = (Region.before ops).getD k 0 := fun k => by simp [Array.getD_eq_getD_getElem?, List.getD_eq_getElem?_getD]
  simp only [Array.size_empty, Nat.zero_add] at a1 a3
  rw [← Array.foldl_toList] at a3
  have key : ∀ j, bits (Region.before ops).toList i j = true ↔ ∃ e ∈ o.after.toList, Region.binds .any e = true ∧ (j = e.on ∨ (ak.getD e.on 0).testBit j = true) := by
    intro j
    unfold bits
    rw [hget, a3, fold_bits]
    simp
  constructor
  · intro e he hb
    exact (key _).2 ⟨e, Array.mem_toList_iff.2 he, hb, .inl rfl⟩
  · intro j hj
    obtain ⟨e, he, hb, h⟩ := (key j).1 hj
    refine ⟨e, Array.mem_toList_iff.1 he, hb, h.imp id fun h => ?_⟩
    unfold bits
    rw [hget]
    by_cases hlt : e.on < ak.size
    · rw [← a2 e.on hlt]; exact h
    · rw [Array.getD_eq_getD_getElem?, Array.getElem?_eq_none (by omega)] at h
      simp at h

/-- An operation that neither acts, nor makes, nor reads memory hangs on none. -/
theorem pure_indep {call : Caller} {ρ : Operand → Value} {ao : AOp} (h1 : ao.acts = false) (h2 : ao.makes = false) (h3 : ao.reads = false) {h h₁ : Heap} {v : Value} {h' : Heap} (ha : ∀ a t, ao ≠ .again1 a t) (hb : ∀ n a t, ao ≠ .again n a t)
    (he : evOp call ρ h ao = some (v, h')) : h' = h ∧ evOp call ρ h₁ ao = some (v, h₁) := by
  cases ao <;> simp only [AOp.acts, AOp.makes, AOp.reads, Bool.true_eq_false] at h1 h2 h3 <;> (try (exact absurd rfl (ha _ _))) <;> (try (exact absurd rfl (hb _ _ _)))
  case max2 x y =>
    simp only [evOp] at he ⊢
    cases hx : ρ x <;> simp only [hx, reduceCtorEq] at he ⊢
    cases hy : ρ y <;> simp only [hy, reduceCtorEq] at he ⊢
    simp only [Option.some.injEq, Prod.mk.injEq] at he ⊢
    obtain ⟨rfl, rfl⟩ := he
    exact ⟨rfl, rfl, trivial⟩
  case min2 x y =>
    simp only [evOp] at he ⊢
    cases hx : ρ x <;> simp only [hx, reduceCtorEq] at he ⊢
    cases hy : ρ y <;> simp only [hy, reduceCtorEq] at he ⊢
    simp only [Option.some.injEq, Prod.mk.injEq] at he ⊢
    obtain ⟨rfl, rfl⟩ := he
    exact ⟨rfl, rfl, trivial⟩
  all_goals
    simp only [evOp] at he ⊢
    first
      | (simp only [Option.some.injEq, Prod.mk.injEq] at he; obtain ⟨rfl, rfl⟩ := he; exact ⟨rfl, rfl⟩)
      | (obtain ⟨r, hr, he⟩ := opt_map_some he; simp only [Prod.mk.injEq] at he; obtain ⟨rfl, rfl⟩ := he; exact ⟨rfl, by simp [hr]⟩)
      | (repeat' split at he
         all_goals first
           | (cases he; done)
           | (simp only [Option.some.injEq, Prod.mk.injEq] at he; obtain ⟨rfl, rfl⟩ := he; exact ⟨rfl, by simp_all⟩)
           | (obtain ⟨r, hr, he⟩ := opt_map_some he; simp only [Prod.mk.injEq] at he; obtain ⟨rfl, rfl⟩ := he; exact ⟨rfl, by simp_all⟩))
theorem getElem_append_some {h : Heap} {o : AObj} {i : Nat} {x : AObj} (hi : h[i]? = some x) : (h ++ [o])[i]? = some x := by
  rw [List.getElem?_append_left (List.getElem?_eq_some_iff.1 hi).1]; exact hi
/-- What is read stays, where an object comes more. -/
theorem reads_append {call : Caller} {ρ : Operand → Value} {ao : AOp} (h3 : ao.reads = true) {h : Heap} {v : Value} (he : evOp call ρ h ao = some (v, h)) (o : AObj) : evOp call ρ (h ++ [o]) ao = some (v, h ++ [o]) := by
  cases ao <;> simp only [AOp.reads, Bool.false_eq_true] at h3
  case load1 a =>
    simp only [evOp] at he ⊢
    split at he
    · obtain ⟨r, hr, he⟩ := opt_map_some he
      simp only [Prod.mk.injEq, and_true] at he
      subst he
      unfold Heap.read1 at hr ⊢
      split at hr
      · rename_i hq
        rw [getElem_append_some hq]
        simp only
        rw [hr]; rfl
      · cases hr
    · cases he
  case load n a =>
    simp only [evOp] at he ⊢
    split at he
    · obtain ⟨r, hr, he⟩ := opt_map_some he
      simp only [Prod.mk.injEq, and_true] at he
      subst he
      unfold Heap.read at hr ⊢
      split at hr
      · rename_i hq
        rw [getElem_append_some hq]
        simp only
        rw [hr]; rfl
      · cases hr
    · cases he
  case lookup kk z m k ok =>
    have hm : ∀ r, mapAt h kk (ρ k) (ρ m) = some r → mapAt (h ++ [o]) kk (ρ k) (ρ m) = some r := by
      intro r hr
      unfold mapAt at hr ⊢
      split at hr
      · exact hr
      · split at hr
        · rename_i hq
          rw [getElem_append_some hq]
          exact hr
        · cases hr
      · cases hr
    simp only [evOp] at he ⊢
    by_cases hok : keyOk kk (ρ k) = true
    · rw [if_pos hok] at he ⊢
      cases hq : mapAt h kk (ρ k) (ρ m) with
      | none => rw [hq] at he; cases he
      | some r =>
        rw [hq] at he
        rw [hm r hq]
        cases r <;> simp only [Option.some.injEq, Prod.mk.injEq, and_true] at he ⊢ <;> exact he
    · rw [if_neg hok] at he; cases he
  case lenMap m =>
    simp only [evOp] at he ⊢
    split at he
    · simp only [Option.some.injEq, Prod.mk.injEq, and_true] at he ⊢; exact he
    · split at he
      · rename_i hq
        rw [getElem_append_some hq]
        simp only [Option.some.injEq, Prod.mk.injEq, and_true] at he ⊢; exact he
      · cases he
    · cases he
  case sliceArr len size x lo hi =>
    simp only [evOp] at he ⊢
    split at he
    · split at he
      · rename_i hl hk
        split at he
        · rename_i hq
          rw [getElem_append_some hq]
          split at he
          · rename_i hc
            simp only [if_pos hc, Option.some.injEq, Prod.mk.injEq, and_true] at he ⊢; exact he
          · cases he
        · cases he
      · cases he
    · cases he
end Go.Proofs.YtjjlbfamfioofaaDoor.AM
