/-
  AM, part 19: what comes ahead of what in a statement whose order is open; operations that hang on no memory, or on what stays.
    Conditions: none.
-/
import Derived.Test.YtfbldlgjlgcpoaaDoorAc
import Derived.LoopN
namespace Go.Proofs.YtfbldlgjlgcpoaaDoor.AM
open Go.RowKit

set_option linter.unusedSimpArgs false
set_option linter.unusedVariables false
variable {P : Program} {G N : Nat} {σ : Emb} {g : Mem} {w : World} {h : Heap}

def bits (b : List Nat) (i j : Nat) : Bool := (b.getD i 0).testBit j

theorem fold_bits (acc : Array Nat) : ∀ (l : List Edge) (s j : Nat), (l.foldl (fun s e => if Region.binds .any e then s ||| 2 ^ e.on ||| acc.getD e.on 0 else s) s).testBit j = true ↔
    s.testBit j = true ∨ ∃ e ∈ l, Region.binds .any e = true ∧ (j = e.on ∨ (acc.getD e.on 0).testBit j = true)
  | [], s, j => by simp
  | e :: l, s, j => by
    rw [List.foldl_cons, fold_bits acc l]
    by_cases hb : Region.binds .any e = true
    · rw [if_pos hb]
      simp only [Nat.testBit_or, Nat.testBit_two_pow, Bool.or_eq_true, decide_eq_true_eq, List.mem_cons]
      constructor
      · rintro ((((h | h) | h)) | ⟨e', he', h⟩)
        · exact .inl h
        · exact .inr ⟨e, .inl rfl, hb, .inl h.symm⟩
        · exact .inr ⟨e, .inl rfl, hb, .inr h⟩
        · exact .inr ⟨e', .inr he', h⟩
      · rintro (h | ⟨e', rfl | he', hb', h⟩)
        · exact .inl (.inl (.inl h))
        · rcases h with h | h
          · exact .inl (.inl (.inr h.symm))
          · exact .inl (.inr h)
        · exact .inr ⟨e', he', hb', h⟩
    · rw [if_neg hb]
      simp only [List.mem_cons]
      constructor
      · rintro (h | ⟨e', he', h⟩)
        · exact .inl h
        · exact .inr ⟨e', .inr he', h⟩
      · rintro (h | ⟨e', rfl | he', hb', h⟩)
        · exact .inl h
        · exact absurd hb' hb
        · exact .inr ⟨e', he', hb', h⟩

theorem before_fold : ∀ (l : List Oper) (acc : Array Nat),
    (l.foldl (fun acc o => acc.push (o.after.foldl (fun s e => if Region.binds .any e then s ||| 2 ^ e.on ||| acc.getD e.on 0 else s) 0)) acc).size = acc.size + l.length ∧
    (∀ i, i < acc.size → (l.foldl (fun acc o => acc.push (o.after.foldl (fun s e => if Region.binds .any e then s ||| 2 ^ e.on ||| acc.getD e.on 0 else s) 0)) acc).getD i 0 = acc.getD i 0) ∧
    ∀ (k : Nat) o, l[k]? = some o → ∃ ak : Array Nat, ak.size = acc.size + k ∧
      (∀ i, i < ak.size → ak.getD i 0 = (l.foldl (fun acc o => acc.push (o.after.foldl (fun s e => if Region.binds .any e then s ||| 2 ^ e.on ||| acc.getD e.on 0 else s) 0)) acc).getD i 0) ∧
      (l.foldl (fun acc o => acc.push (o.after.foldl (fun s e => if Region.binds .any e then s ||| 2 ^ e.on ||| acc.getD e.on 0 else s) 0)) acc).getD (acc.size + k) 0 =
        o.after.foldl (fun s e => if Region.binds .any e then s ||| 2 ^ e.on ||| ak.getD e.on 0 else s) 0
  | [], acc => ⟨by simp, fun _ _ => rfl, fun k o h => by simp at h⟩
  | o :: l, acc => by
    obtain ⟨h1, h2, h3⟩ := before_fold l (acc.push (o.after.foldl (fun s e => if Region.binds .any e then s ||| 2 ^ e.on ||| acc.getD e.on 0 else s) 0))
    simp only [Array.size_push] at h1 h2 h3
    have hpush : ∀ (x i : Nat), i < acc.size → (acc.push x).getD i 0 = acc.getD i 0 := by
      intro x i hi
      rw [Array.getD_eq_getD_getElem?, Array.getD_eq_getD_getElem?, Array.getElem?_push, if_neg (by omega)]
    have hlast : ∀ (x : Nat), (acc.push x).getD acc.size 0 = x := by
      intro x; rw [Array.getD_eq_getD_getElem?]; simp
    simp only [List.foldl_cons, List.length_cons]
    refine ⟨by omega, fun i hi => by rw [h2 i (by omega), hpush _ i hi], fun k q hk => ?_⟩
    cases k with
    | zero =>
      simp at hk; subst hk
      refine ⟨acc, rfl, fun i hi => ?_, ?_⟩
      · rw [h2 i (by omega), hpush _ i hi]
      · rw [Nat.add_zero, h2 acc.size (by omega), hlast]
    | succ k =>
      obtain ⟨ak, a1, a2, a3⟩ := h3 k q (by simpa using hk)
      exact ⟨ak, by omega, a2, by rw [show acc.size + (k + 1) = acc.size + 1 + k from by omega]; exact a3⟩

/-- What comes ahead of an operation: what its edges name, and what comes ahead of that. -/
theorem before_spec {ops : Array Oper} {i : Nat} {o : Oper} (hi : ops[i]? = some o) :
    (∀ e ∈ o.after, Region.binds .any e = true → bits (Region.before ops).toList i e.on = true) ∧
    ∀ j, bits (Region.before ops).toList i j = true → ∃ e ∈ o.after, Region.binds .any e = true ∧ (j = e.on ∨ bits (Region.before ops).toList e.on j = true) := by
  obtain ⟨h1, h2, h3⟩ := before_fold ops.toList #[]
  obtain ⟨ak, a1, a2, a3⟩ := h3 i o (by simpa using hi)
  have e0 : Region.before ops = ops.toList.foldl (fun acc o => acc.push (o.after.foldl (fun s e => if Region.binds .any e then s ||| 2 ^ e.on ||| acc.getD e.on 0 else s) 0)) #[] := by
    unfold Region.before
    rw [← Array.foldl_toList]
  rw [← e0] at h1 h2 a2 a3
  have hget : ∀ k, (Region.before ops).toList.getD k 0 = (Region.before ops).getD k 0 := fun k => by simp [Array.getD_eq_getD_getElem?, List.getD_eq_getElem?_getD]
  simp only [Array.size_empty, Nat.zero_add] at a1 a3
  rw [← Array.foldl_toList] at a3
  have key : ∀ j, bits (Region.before ops).toList i j = true ↔ ∃ e ∈ o.after.toList, Region.binds .any e = true ∧ (j = e.on ∨ (ak.getD e.on 0).testBit j = true) := by
    intro j
    unfold bits
    rw [hget, a3, fold_bits]
    simp
  constructor
  · intro e he hb
    exact (key _).2 ⟨e, Array.mem_toList_iff.2 he, hb, .inl rfl⟩
  · intro j hj
    obtain ⟨e, he, hb, h⟩ := (key j).1 hj
    refine ⟨e, Array.mem_toList_iff.1 he, hb, h.imp id fun h => ?_⟩
    unfold bits
    rw [hget]
    by_cases hlt : e.on < ak.size
    · rw [← a2 e.on hlt]; exact h
    · rw [Array.getD_eq_getD_getElem?, Array.getElem?_eq_none (by omega)] at h
      simp at h

/-- An operation that neither acts, nor makes, nor reads memory hangs on none. -/
theorem pure_indep {call : Caller} {ρ : Operand → Value} {ao : AOp} (h1 : ao.acts = false) (h2 : ao.makes = false) (h3 : ao.reads = false) {h h₁ : Heap} {v : Value} {h' : Heap} (ha : ∀ a t, ao ≠ .again1 a t) (hb : ∀ n a t, ao ≠ .again n a t)
    (he : evOp call ρ h ao = some (v, h')) : h' = h ∧ evOp call ρ h₁ ao = some (v, h₁) := by
  cases ao <;> simp only [AOp.acts, AOp.makes, AOp.reads, Bool.true_eq_false] at h1 h2 h3 <;> (try (exact absurd rfl (ha _ _))) <;> (try (exact absurd rfl (hb _ _ _)))
  case max2 x y =>
    simp only [evOp] at he ⊢
    cases hx : ρ x <;> simp only [hx, reduceCtorEq] at he ⊢
    cases hy : ρ y <;> simp only [hy, reduceCtorEq] at he ⊢
    simp only [Option.some.injEq, Prod.mk.injEq] at he ⊢
    obtain ⟨rfl, rfl⟩ := he
    exact ⟨rfl, rfl, trivial⟩
  case min2 x y =>
    simp only [evOp] at he ⊢
    cases hx : ρ x <;> simp only [hx, reduceCtorEq] at he ⊢
    cases hy : ρ y <;> simp only [hy, reduceCtorEq] at he ⊢
    simp only [Option.some.injEq, Prod.mk.injEq] at he ⊢
    obtain ⟨rfl, rfl⟩ := he
    exact ⟨rfl, rfl, trivial⟩
  all_goals
    simp only [evOp] at he ⊢
    first
      | (simp only [Option.some.injEq, Prod.mk.injEq] at he; obtain ⟨rfl, rfl⟩ := he; exact ⟨rfl, rfl⟩)
      | (obtain ⟨r, hr, he⟩ := opt_map_some he; simp only [Prod.mk.injEq] at he; obtain ⟨rfl, rfl⟩ := he; exact ⟨rfl, by simp [hr]⟩)
      | (repeat' split at he
         all_goals first
           | (cases he; done)
           | (simp only [Option.some.injEq, Prod.mk.injEq] at he; obtain ⟨rfl, rfl⟩ := he; exact ⟨rfl, by simp_all⟩)
           | (obtain ⟨r, hr, he⟩ := opt_map_some he; simp only [Prod.mk.injEq] at he; obtain ⟨rfl, rfl⟩ := he; exact ⟨rfl, by simp_all⟩))
theorem getElem_append_some {h : Heap} {o : AObj} {i : Nat} {x : AObj} (hi : h[i]? = some x) : (h ++ [o])[i]? = some x := by
  rw [List.getElem?_append_left (List.getElem?_eq_some_iff.1 hi).1]; exact hi
/-- What is read stays, where an object comes more. -/
theorem reads_append {call : Caller} {ρ : Operand → Value} {ao : AOp} (h3 : ao.reads = true) {h : Heap} {v : Value} (he : evOp call ρ h ao = some (v, h)) (o : AObj) : evOp call ρ (h ++ [o]) ao = some (v, h ++ [o]) := by
  cases ao <;> simp only [AOp.reads, Bool.false_eq_true] at h3
  case load1 a =>
    simp only [evOp] at he ⊢
    split at he
    · obtain ⟨r, hr, he⟩ := opt_map_some he
      simp only [Prod.mk.injEq, and_true] at he
      subst he
      unfold Heap.read1 at hr ⊢
      split at hr
      · rename_i hq
        rw [getElem_append_some hq]
        simp only
        rw [hr]; rfl
      · cases hr
    · cases he
  case load n a =>
    simp only [evOp] at he ⊢
    split at he
    · obtain ⟨r, hr, he⟩ := opt_map_some he
      simp only [Prod.mk.injEq, and_true] at he
      subst he
      unfold Heap.read at hr ⊢
      split at hr
      · rename_i hq
        rw [getElem_append_some hq]
        simp only
        rw [hr]; rfl
      · cases hr
    · cases he
  case lookup kk z m k ok =>
    have hm : ∀ r, mapAt h kk (ρ k) (ρ m) = some r → mapAt (h ++ [o]) kk (ρ k) (ρ m) = some r := by
      intro r hr
      unfold mapAt at hr ⊢
      split at hr
      · exact hr
      · split at hr
        · rename_i hq
          rw [getElem_append_some hq]
          exact hr
        · cases hr
      · cases hr
    simp only [evOp] at he ⊢
    by_cases hok : keyOk kk (ρ k) = true
    · rw [if_pos hok] at he ⊢
      cases hq : mapAt h kk (ρ k) (ρ m) with
      | none => rw [hq] at he; cases he
      | some r =>
        rw [hq] at he
        rw [hm r hq]
        cases r <;> simp only [Option.some.injEq, Prod.mk.injEq, and_true] at he ⊢ <;> exact he
    · rw [if_neg hok] at he; cases he
  case lenMap m =>
    simp only [evOp] at he ⊢
    split at he
    · simp only [Option.some.injEq, Prod.mk.injEq, and_true] at he ⊢; exact he
    · split at he
      · rename_i hq
        rw [getElem_append_some hq]
        simp only [Option.some.injEq, Prod.mk.injEq, and_true] at he ⊢; exact he
      · cases he
    · cases he
  case sliceArr len size x lo hi =>
    simp only [evOp] at he ⊢
    split at he
    · split at he
      · rename_i hl hk
        split at he
        · rename_i hq
          rw [getElem_append_some hq]
          split at he
          · rename_i hc
            simp only [if_pos hc, Option.some.injEq, Prod.mk.injEq, and_true] at he ⊢; exact he
          · cases he
        · cases he
      · cases he
    · cases he
end Go.Proofs.YtfbldlgjlgcpoaaDoor.AM

namespace Go.Proofs.YtfbldlgjlgcpoaaDoor.AM
open Go.RowKit

set_option linter.unusedSimpArgs false
set_option linter.unusedVariables false

def wantR (ρ : Operand → Value) : Option (Nat × Bool) → Bool
  | none => true
  | some (t, b) => match ρ (.tmp t) with
    | .bool c => c == b
    | _ => false

structure Stat (P : Program) (G : Nat) (ops : Array Oper) (as : List AOper) : Prop where
  norm : normOpers P G ops ops.toList = some as
  places : placesOk ops.toList as (Region.before ops).toList = true
  guards : guardsOk ops.toList (Region.before ops).toList = true

def nm (ops : Array Oper) (as : List AOper) (j : Nat) : List Nat := namesOf (ops.toList.getD j default) (as.getD j none')

section
variable {P : Program} {G N : Nat} {ops : Array Oper} {as : List AOper} (S : Stat P G ops as)
include S
theorem Stat.len : as.length = ops.size := by
  obtain ⟨h, _⟩ := normOpers_get S.norm; simpa using h
theorem Stat.pair {i j t : Nat} (hi : i < as.length) (hj : j < as.length) (ht : (as.getD i none').dst = some t) :
    (i = j ∨ (as.getD j none').dst ≠ some t) ∧ (t ∈ nm ops as j → bits (Region.before ops).toList j i = true ∨ bits (Region.before ops).toList i j = true) := by
  have h := S.places
  unfold placesOk at h
  rw [List.all_eq_true] at h
  have h := h i (List.mem_range.2 hi)
  rw [List.all_eq_true] at h
  have h := h j (List.mem_range.2 hj)
  simp only [ht, Bool.and_eq_true, Bool.or_eq_true, beq_iff_eq, bne_iff_ne, ne_eq, Bool.not_eq_true'] at h
  obtain ⟨h1, h2⟩ := h
  refine ⟨h1, fun hm => ?_⟩
  rcases h2 with (h2 | h2) | h2
  · have : (namesOf (ops.toList.getD j default) (as.getD j none')).contains t = true := List.contains_iff_mem.2 hm
    rw [this] at h2; cases h2
  · exact .inl h2
  · exact .inr h2
theorem Stat.uniq {i j t : Nat} (hi : i < as.length) (hj : j < as.length) (ht : (as.getD i none').dst = some t) (ht' : (as.getD j none').dst = some t) : i = j :=
  ((S.pair hi hj ht).1).resolve_right fun h => h ht'
theorem Stat.oper {i : Nat} (hi : i < as.length) : ∃ o, ops[i]? = some o ∧ normOper P G ops o = some (as.getD i none') ∧ ops.toList.getD i default = o := by
  obtain ⟨hl, hget⟩ := normOpers_get S.norm
  have hlt : i < ops.size := by rw [← S.len]; exact hi
  obtain ⟨ao, hao, hno⟩ := hget i ops[i] (by simp [hlt])
  refine ⟨ops[i], by simp [hlt], ?_, by simp [List.getD_eq_getElem?_getD, hlt]⟩
  rw [List.getD_eq_getElem?_getD, hao]; exact hno
end

/-- The values at which an operation looks: those that came ahead of it by the edges, else those of the beginning. -/
structure RelV (ops : Array Oper) (as : List AOper) (s0 : St) (val : Nat → Value) (i : Nat) (ρ : Operand → Value) : Prop where
  far : ∀ t ∈ nm ops as i, s0.t.length ≤ t → ρ (.tmp t) = undef
  new : ∀ t ∈ nm ops as i, ∀ k, k < as.length → (as.getD k none').dst = some t → bits (Region.before ops).toList i k = true → t < s0.t.length → ρ (.tmp t) = val k
  old : ∀ t ∈ nm ops as i, (∀ k, k < as.length → (as.getD k none').dst = some t → bits (Region.before ops).toList i k = false) → ρ (.tmp t) = s0.t.getD t undef
  rest : ∀ x, (∀ t, x ≠ .tmp t) → ρ x = s0.eval x

/-- What is known of an operation that the abstract machine has done, and the model has not. -/
def Pend (call : Caller) (ops : Array Oper) (as : List AOper) (s0 : St) (val : Nat → Value) (hole : Nat → Option Nat) (g : Mem) (h : Heap) (i : Nat) : Prop :=
  ∃ ρ, RelV ops as s0 val i ρ ∧ (as.getD i none').op.acts = false ∧
    match hole i with
    | some id => s0.h.length ≤ id ∧ g id = none ∧ wantR ρ (as.getD i none').guard = true ∧ (as.getD i none').op.makes = true ∧
        ∃ obj, h[id]? = some obj ∧ ∀ h₁ : Heap, h₁.length = id → evOp call ρ h₁ (as.getD i none').op = some (val i, h₁ ++ [obj])
    | none => if wantR ρ (as.getD i none').guard = true then
        (as.getD i none').op.makes = false ∧ evOp call ρ h (as.getD i none').op = some (val i, h) ∧ ((as.getD i none').op.reads = false → ∀ h₁, evOp call ρ h₁ (as.getD i none').op = some (val i, h₁))
      else val i = undef

structure Inv (call : Caller) (P : Program) (G N : Nat) (ops : Array Oper) (as : List AOper) (s0 : St) (σ0 : Emb) (g0 : Mem) (w0 : World) (D : Nat → Prop) (pre rest : List Nat) (seen : Nat) (s sfin : St) (val : Nat → Value) (hole : Nat → Option Nat)
    (σ : Emb) (g : Mem) (w : World) (a : Act) : Prop where
  asz : a.tmps.size = s0.t.length
  ssz : s.t.length = s0.t.length
  dfr : a.defers = []
  mr : MR G N σ g w
  sub : Sub g s.h
  go : Go N σ0 g0 w0 σ g w
  holes : Holes g0 s0.h s.h
  grows : ∀ i, g i = grow g0 s0.h s.h i ∨ (g i = none ∧ ∃ k ∈ pre, ¬ D k ∧ hole k = some i)
  apart : ∀ i ∈ pre, ∀ j ∈ pre, ∀ id, ¬ D i → ¬ D j → hole i = some id → hole j = some id → i = j
  inD : ∀ i, D i → i ∈ pre
  closed : ∀ i j, D i → bits (Region.before ops).toList i j = true → D j
  all : ∀ i, i < as.length → i ∈ pre ∨ i ∈ rest
  lt : ∀ i ∈ pre, i < as.length
  marks : ∀ i, seen.testBit i = true ↔ i ∈ pre
  preclosed : ∀ i ∈ pre, ∀ j, bits (Region.before ops).toList i j = true → j ∈ pre
  order : orderOk as (Region.before ops).toList rest seen = true
  weaved : ∃ m, weave ops.toList as (Region.before ops).toList rest pre = some m ∧ evOps call m s = some sfin
  actD : ∀ i ∈ pre, (as.getD i none').op.acts = true → D i
  tmpD : ∀ t, t < s0.t.length → (∀ k, D k → (as.getD k none').dst = some t → VR σ g (val k) (a.tmps.getD t undef)) ∧ ((∀ k, D k → (as.getD k none').dst ≠ some t) → VR σ g (s0.t.getD t undef) (a.tmps.getD t undef))
  tmpC : ∀ t, (∀ k ∈ pre, (as.getD k none').dst = some t → t < s0.t.length → s.t.getD t undef = val k) ∧ ((∀ k ∈ pre, (as.getD k none').dst ≠ some t) → s.t.getD t undef = s0.t.getD t undef)
  pend : ∀ i ∈ pre, ¬ D i → Pend call ops as s0 val hole g s.h i

variable {call : Caller} {P : Program} {G N : Nat} {ops : Array Oper} {as : List AOper} {s0 : St} {σ0 : Emb} {g0 : Mem} {w0 : World} {D : Nat → Prop} {pre rest : List Nat} {seen : Nat} {s sfin : St} {val : Nat → Value} {hole : Nat → Option Nat}
  {σ : Emb} {g : Mem} {w : World} {a : Act}

theorem wants_wantR (s : St) (gd : Option (Nat × Bool)) : wants s gd = wantR s.eval gd := by
  cases gd with
  | none => rfl
  | some p => rfl
theorem getD_far {l : List Value} {t : Nat} (h : l.length ≤ t) : l.getD t undef = undef := by
  rw [List.getD_eq_getElem?_getD, List.getElem?_eq_none h]; rfl

/-- At the abstract machine's own place the values are those. -/
theorem Inv.relV (S : Stat P G ops as) (I : Inv call P G N ops as s0 σ0 g0 w0 D pre rest seen s sfin val hole σ g w a) {i : Nat} (hi : i < as.length) (hni : i ∉ pre) (hb : ∀ j, bits (Region.before ops).toList i j = true → j ∈ pre) :
    RelV ops as s0 val i s.eval := by
  refine ⟨fun t ht hl => getD_far (by rw [I.ssz]; exact hl), fun t ht k hk hd hbk hlt => (I.tmpC t).1 k (hb k hbk) hd hlt, fun t ht hno => ?_, fun x hx => ?_⟩
  · refine (I.tmpC t).2 fun k hk hd => ?_
    have hkl := I.lt k hk
    rcases (S.pair hkl hi hd).2 ht with h | h
    · rw [hno k hkl hd] at h; cases h
    · exact hni (I.preclosed k hk i h)
  · cases x with
    | tmp t => exact absurd rfl (hx t)
    | _ => rfl
theorem RelV.upd {i k : Nat} {ρ : Operand → Value} (h : RelV ops as s0 val i ρ) (v : Value) (hb : bits (Region.before ops).toList i k = false) : RelV ops as s0 (fun j => if j = k then v else val j) i ρ := by
  refine ⟨h.far, fun t ht j hj hd hbj hlt => ?_, h.old, h.rest⟩
  have hne : j ≠ k := by rintro rfl; rw [hb] at hbj; cases hbj
  simp only [if_neg hne]
  exact h.new t ht j hj hd hbj hlt

theorem orderOk_cons {i : Nat} {r : List Nat} {b : List Nat} (h : orderOk as b (i :: r) seen = true) : seen.testBit i = false ∧ i < as.length ∧ (∀ j, bits b i j = true → seen.testBit j = true) ∧
    ((as.getD i none').op.acts = true → ∀ j, j < as.length → seen.testBit j = true ∨ j = i ∨ bits b j i = true) ∧ orderOk as b r (seen ||| 2 ^ i) = true := by
  unfold orderOk at h
  simp only [Bool.and_eq_true, Bool.not_eq_true', decide_eq_true_eq, beq_iff_eq, Bool.or_eq_true, List.all_eq_true, List.mem_range] at h
  obtain ⟨⟨⟨⟨h1, h2⟩, h3⟩, h4⟩, h5⟩ := h
  refine ⟨h1, h2, fun j hj => ?_, fun ha j hj => ?_, h5⟩
  · unfold bits at hj
    rw [← h3, Nat.testBit_and, Bool.and_eq_true] at hj
    exact hj.2
  · rcases h4 with h4 | h4
    · rw [ha] at h4; cases h4
    · rcases h4 j hj with (h | h) | h
      · exact .inl h
      · exact .inr (.inl h)
      · exact .inr (.inr h)
theorem testBit_or_two {x i j : Nat} : (x ||| 2 ^ i).testBit j = true ↔ x.testBit j = true ∨ j = i := by
  rw [Nat.testBit_or, Nat.testBit_two_pow, Bool.or_eq_true, decide_eq_true_eq]
  exact ⟨fun h => h.imp id Eq.symm, fun h => h.imp id Eq.symm⟩

/-- The abstract machine goes on by one operation that doesn't act. -/
theorem Inv.advance1 (S : Stat P G ops as) {i : Nat} {r : List Nat} (I : Inv call P G N ops as s0 σ0 g0 w0 D pre (i :: r) seen s sfin val hole σ g w a) (hna : (as.getD i none').op.acts = false) (hag : (∀ x t, (as.getD i none').op ≠ .again1 x t) ∧ ∀ n x t, (as.getD i none').op ≠ .again n x t) :
    ∃ s' val' hole', Inv call P G N ops as s0 σ0 g0 w0 D (pre ++ [i]) r (seen ||| 2 ^ i) s' sfin val' hole' σ g w a := by
  obtain ⟨o1, o2, o3, o4, o5⟩ := orderOk_cons I.order
  have hni : i ∉ pre := fun h => by rw [(I.marks i).2 h] at o1; cases o1
  have hbi : ∀ j, bits (Region.before ops).toList i j = true → j ∈ pre := fun j hj => (I.marks j).1 (o3 j hj)
  have hrel := I.relV S o2 hni hbi
  have hnD : ¬ D i := fun h => hni (I.inD i h)
  obtain ⟨m, hm, hev⟩ := I.weaved
  unfold weave at hm
  simp only [hna, Bool.false_eq_true, if_false] at hm
  cases hw2 : weave ops.toList as (Region.before ops).toList r (pre ++ [i]) with
  | none => rw [hw2] at hm; cases hm
  | some m2 =>
    rw [hw2] at hm
    simp only [List.nil_append, Option.some.injEq] at hm
    subst hm
    simp only [evOps] at hev
    obtain ⟨s1, hs1, hrun⟩ := Option.bind_eq_some_iff.1 hev
    -- what does not hang on the case
    have common : ∀ (v : Value) (hl' : Option Nat) (h1 : Heap), s1 = s.put (as.getD i none').dst v h1 → (∀ k, k ∈ pre → ¬ D k → Pend call ops as s0 (fun j => if j = i then v else val j) (fun j => if j = i then hl' else hole j) g h1 k) →
        Pend call ops as s0 (fun j => if j = i then v else val j) (fun j => if j = i then hl' else hole j) g h1 i → Sub g h1 → Holes g0 s0.h h1 →
        (∀ j, g j = grow g0 s0.h h1 j ∨ (g j = none ∧ ∃ k ∈ pre ++ [i], ¬ D k ∧ (if k = i then hl' else hole k) = some j)) → (∀ id, hl' = some id → ∀ k ∈ pre, ¬ D k → hole k ≠ some id) →
        ∃ s' val' hole', Inv call P G N ops as s0 σ0 g0 w0 D (pre ++ [i]) r (seen ||| 2 ^ i) s' sfin val' hole' σ g w a := by
      intro v hl' h1 hs1' hp hpi hsub hho hgr hap
      refine ⟨s1, fun j => if j = i then v else val j, fun j => if j = i then hl' else hole j, ?_⟩
      have hh1 : s1.h = h1 := by rw [hs1', put_h]
      have hne : ∀ k ∈ pre, k ≠ i := fun k hk e => hni (e ▸ hk)
      refine ⟨I.asz, ?_, I.dfr, I.mr, by rw [hh1]; exact hsub, I.go, by rw [hh1]; exact hho, by rw [hh1]; exact hgr, ?_, fun j hj => List.mem_append.2 (.inl (I.inD j hj)), I.closed, ?_, ?_, ?_, ?_, o5, ⟨m2, hw2, hrun⟩, ?_, ?_, ?_, ?_⟩
      · rw [hs1']; cases (as.getD i none').dst <;> simp [St.put, I.ssz]
      · intro x hx y hy id hDx hDy h1 h2
        simp only [List.mem_append, List.mem_singleton] at hx hy
        rcases hx with hx | rfl <;> rcases hy with hy | rfl
        · rw [if_neg (hne x hx)] at h1; rw [if_neg (hne y hy)] at h2
          exact I.apart x hx y hy id hDx hDy h1 h2
        · rw [if_neg (hne x hx)] at h1; rw [if_pos rfl] at h2
          exact absurd h1 (hap id h2 x hx hDx)
        · rw [if_pos rfl] at h1; rw [if_neg (hne y hy)] at h2
          exact absurd h2 (hap id h1 y hy hDy)
        · rfl
      · intro j hj
        rcases I.all j hj with h | h
        · exact .inl (List.mem_append.2 (.inl h))
        · rcases List.mem_cons.1 h with rfl | h
          · exact .inl (by simp)
          · exact .inr h
      · intro j hj
        rcases List.mem_append.1 hj with h | h
        · exact I.lt j h
        · rw [List.mem_singleton.1 h]; exact o2
      · intro j
        rw [testBit_or_two, I.marks j, List.mem_append, List.mem_singleton]
      · intro j hj k hk
        rcases List.mem_append.1 hj with h | h
        · exact List.mem_append.2 (.inl (I.preclosed j h k hk))
        · rw [List.mem_singleton.1 h] at hk; exact List.mem_append.2 (.inl (hbi k hk))
      · intro j hj ha
        rcases List.mem_append.1 hj with h | h
        · exact I.actD j h ha
        · rw [List.mem_singleton.1 h, hna] at ha; cases ha
      · intro t ht
        refine ⟨fun k hk hd => ?_, (I.tmpD t ht).2⟩
        simp only [if_neg (hne k (I.inD k hk))]
        exact (I.tmpD t ht).1 k hk hd
      · intro t
        have hput : ∀ t, s1.t.getD t undef = if (as.getD i none').dst = some t ∧ t < s0.t.length then v else s.t.getD t undef := by
          intro t
          rw [hs1']
          cases hd : (as.getD i none').dst with
          | none => simp [St.put]
          | some u =>
            simp only [St.put, Option.some.injEq]
            rw [List.getD_eq_getElem?_getD, List.getElem?_set]
            by_cases hut : u = t
            · subst hut
              by_cases hlt : u < s.t.length
              · rw [if_pos rfl, if_pos hlt, if_pos ⟨rfl, by rw [← I.ssz]; exact hlt⟩]; rfl
              · rw [if_pos rfl, if_neg hlt, if_neg (fun h => hlt (by rw [I.ssz]; exact h.2)), getD_far (by omega)]; rfl
            · rw [if_neg hut, if_neg (fun h => hut h.1), List.getD_eq_getElem?_getD]
        constructor
        · intro k hk hd hlt
          rw [hput]
          simp only [List.mem_append, List.mem_singleton] at hk
          rcases hk with hk | rfl
          · simp only [if_neg (hne k hk)]
            rw [if_neg (fun h => hne k hk (S.uniq (I.lt k hk) o2 hd h.1))]
            exact (I.tmpC t).1 k hk hd hlt
          · simp only [if_pos]
            rw [if_pos ⟨hd, hlt⟩]
        · intro hno
          rw [hput, if_neg (fun h => hno i (by simp) h.1)]
          exact (I.tmpC t).2 fun k hk => hno k (by simp [hk])
      · intro k hk hDk
        rw [hh1]
        simp only [List.mem_append, List.mem_singleton] at hk
        rcases hk with hk | rfl
        · exact hp k hk hDk
        · exact hpi
    have hkeep : ∀ (v : Value) (hl' : Option Nat) (h1 : Heap), (h1 = s.h ∨ ∃ ob, h1 = s.h ++ [ob]) → ∀ k, k ∈ pre → ¬ D k → Pend call ops as s0 (fun j => if j = i then v else val j) (fun j => if j = i then hl' else hole j) g h1 k := by
      intro v hl' h1 hh1 k hk hDk
      have hne : k ≠ i := fun e => hni (e ▸ hk)
      obtain ⟨ρ, r1, r2, r3⟩ := I.pend k hk hDk
      have hbk : bits (Region.before ops).toList k i = false := by
        cases hq : bits (Region.before ops).toList k i with
        | false => rfl
        | true => exact absurd (I.preclosed k hk i hq) hni
      refine ⟨ρ, r1.upd v hbk, r2, ?_⟩
      simp only [if_neg hne]
      cases hhk : hole k with
      | some id =>
        rw [hhk] at r3
        simp only at r3 ⊢
        obtain ⟨q1, q2, q3, q4, ob, q5, q6⟩ := r3
        refine ⟨q1, q2, q3, q4, ob, ?_, q6⟩
        rcases hh1 with rfl | ⟨x, rfl⟩
        · exact q5
        · exact getElem_append_some q5
      | none =>
        rw [hhk] at r3
        simp only at r3 ⊢
        split at r3
        · rename_i hwr
          rw [if_pos hwr]
          obtain ⟨q1, q2, q3⟩ := r3
          refine ⟨q1, ?_, q3⟩
          rcases hh1 with rfl | ⟨x, rfl⟩
          · exact q2
          · cases hrd : (as.getD k none').op.reads with
            | true => exact reads_append hrd q2 x
            | false => exact q3 hrd _
        · rename_i hwr
          rw [if_neg hwr]; exact r3
    have hreli : ∀ v, RelV ops as s0 (fun j => if j = i then v else val j) i s.eval := fun v => hrel.upd v (by
      cases hq : bits (Region.before ops).toList i i with
      | false => rfl
      | true => exact absurd (hbi i hq) hni)
    unfold evOper at hs1
    by_cases hw : wants s (as.getD i none').guard = true
    · rw [if_pos hw] at hs1
      obtain ⟨⟨v, h1⟩, hv, rfl⟩ := opt_map_some hs1
      have hwr : wantR s.eval (as.getD i none').guard = true := by rw [← wants_wantR]; exact hw
      by_cases hmk : (as.getD i none').op.makes = true
      · obtain ⟨ob, rfl, _⟩ := make_indep (h₁ := s.h) hmk hv
        have hid : g s.h.length = none := sub_none I.sub (Nat.le_refl _)
        refine common v (some s.h.length) (s.h ++ [ob]) rfl (hkeep v _ _ (.inr ⟨ob, rfl⟩)) ?_ (fun j o hj => getElem_append_some (I.sub j o hj)) ⟨by simp; exact Nat.le_succ_of_le I.holes.1, fun j hj hg => ?_⟩ ?_ ?_
        · refine ⟨s.eval, hreli v, hna, ?_⟩
          simp only [if_pos]
          refine ⟨I.holes.1, hid, hwr, hmk, ob, by simp, fun h₁ hl => ?_⟩
          obtain ⟨ob', e1, e2⟩ := make_indep (h₁ := h₁) hmk hv
          have : ob' = ob := by have := List.append_cancel_left e1; simpa using this.symm
          rw [← this]; exact e2 hl
        · rw [List.getElem?_append_left (Nat.lt_of_lt_of_le hj I.holes.1)]; exact I.holes.2 j hj hg
        · intro j
          by_cases hj : j = s.h.length
          · subst hj
            exact .inr ⟨hid, i, by simp, hnD, by simp⟩
          · have hsame : grow g0 s0.h (s.h ++ [ob]) j = grow g0 s0.h s.h j := by
              unfold grow
              by_cases h1 : j < s0.h.length
              · rw [if_pos h1, if_pos h1, List.getElem?_append_left (Nat.lt_of_lt_of_le h1 I.holes.1)]
              · rw [if_neg h1, if_neg h1]
                by_cases h2 : j < s.h.length
                · rw [List.getElem?_append_left h2]
                · rw [List.getElem?_eq_none (by simp; omega), List.getElem?_eq_none (by omega)]
            rw [hsame]
            rcases I.grows j with h | ⟨h, k, hk, hDk, hhk⟩
            · exact .inl h
            · exact .inr ⟨h, k, by simp [hk], hDk, by rw [if_neg (show k ≠ i from fun e => hni (e ▸ hk))]; exact hhk⟩
        · intro id hid' k hk hDk hhk
          simp only [Option.some.injEq] at hid'
          subst hid'
          obtain ⟨ρ, _, _, r3⟩ := I.pend k hk hDk
          rw [hhk] at r3
          simp only at r3
          obtain ⟨_, _, _, _, ob', q5, _⟩ := r3
          have := (List.getElem?_eq_some_iff.1 q5).1
          omega
      · have hmk' : (as.getD i none').op.makes = false := by simpa using hmk
        have hh1 : h1 = s.h := by
          cases hrd : (as.getD i none').op.reads with
          | false => exact (pure_indep (h₁ := s.h) hna hmk' hrd hag.1 hag.2 hv).1
          | true =>
            cases hop : (as.getD i none').op <;> rw [hop] at hrd hv <;> simp only [AOp.reads, Bool.false_eq_true] at hrd <;> simp only [evOp] at hv <;> (repeat' split at hv) <;>
              first
              | (cases hv; done)
              | (simp only [Option.some.injEq, Prod.mk.injEq] at hv; exact hv.2.symm)
              | (obtain ⟨q, _, hq⟩ := opt_map_some hv; simp only [Prod.mk.injEq] at hq; exact hq.2.symm)
        subst hh1
        refine common v none s.h rfl (hkeep v _ _ (.inl rfl)) ?_ I.sub I.holes (fun j => ?_) (fun id h => by cases h)
        · refine ⟨s.eval, hreli v, hna, ?_⟩
          simp only [if_pos, hwr]
          refine ⟨hmk', hv, fun hrd h₁ => (pure_indep (h₁ := h₁) hna hmk' hrd hag.1 hag.2 hv).2⟩
        · rcases I.grows j with h | ⟨h, k, hk, hDk, hhk⟩
          · exact .inl h
          · exact .inr ⟨h, k, by simp [hk], hDk, by rw [if_neg (show k ≠ i from fun e => hni (e ▸ hk))]; exact hhk⟩
    · rw [if_neg hw] at hs1
      simp only [Option.some.injEq] at hs1
      have hwr : ¬ wantR s.eval (as.getD i none').guard = true := by rw [← wants_wantR]; exact hw
      refine common undef none s.h hs1.symm (hkeep undef _ _ (.inl rfl)) ?_ I.sub I.holes (fun j => ?_) (fun id h => by cases h)
      · refine ⟨s.eval, hreli undef, hna, ?_⟩
        simp only [if_pos, if_neg hwr]
      · rcases I.grows j with h | ⟨h, k, hk, hDk, hhk⟩
        · exact .inl h
        · exact .inr ⟨h, k, by simp [hk], hDk, by rw [if_neg (show k ≠ i from fun e => hni (e ▸ hk))]; exact hhk⟩
end Go.Proofs.YtfbldlgjlgcpoaaDoor.AM

namespace Go.Proofs.YtfbldlgjlgcpoaaDoor.AM
open Go.RowKit

set_option linter.unusedSimpArgs false
set_option linter.unusedVariables false
variable {call : Caller} {P : Program} {G N : Nat} {ops : Array Oper} {as : List AOper} {s0 : St} {σ0 : Emb} {g0 : Mem} {w0 : World} {D : Nat → Prop} {pre rest : List Nat} {seen : Nat} {s sfin : St} {val : Nat → Value} {hole : Nat → Option Nat}
  {σ : Emb} {g : Mem} {w : World} {a : Act}

theorem norm_noagain {ty : TypeId} {op : Op} {ao : AOp} (hn : normOp P ty op = some ao) : (∀ x t, ao ≠ .again1 x t) ∧ ∀ n x t, ao ≠ .again n x t := by
  have key : ((∃ x t, ao = .again1 x t) ∨ ∃ n x t, ao = .again n x t) → False := by
    intro hk
    have hno : (∀ x t, ao ≠ .again1 x t) → (∀ n x t, ao ≠ .again n x t) → False := fun h1 h2 => by
      rcases hk with ⟨x, t, e⟩ | ⟨n, x, t, e⟩
      · exact h1 _ _ e
      · exact h2 _ _ _ e
    cases op
    case call c =>
      simp only [normOp, normCall] at hn
      repeat' split at hn
      all_goals first
        | (cases hn; done)
        | (simp only [Option.some.injEq] at hn; subst hn; exact hno (by simp) (by simp))
    case binOp op t x y yt =>
      have eqs : ∀ neg, normEq P neg t x y = some ao → False := by
        intro neg hne
        unfold normEq at hne
        repeat' split at hne
        all_goals first
          | (cases hne; done)
          | (simp only [Option.some.injEq] at hne; subst hne; exact hno (by simp) (by simp))
          | (obtain ⟨z, _, rfl⟩ := opt_map_some hne; exact hno (by simp) (by simp))
      simp only [normOp] at hn
      cases op <;> simp only at hn
      case eql => exact eqs false hn
      case neq => exact eqs true hn
      all_goals
        split at hn
        · simp only [Option.some.injEq] at hn; subst hn; exact hno (by simp) (by simp)
        · cases hn
    case makeFunc fn a b =>
      cases fn <;> simp only [normOp, reduceCtorEq, Option.some.injEq] at hn
      subst hn; exact hno (by simp) (by simp)
    case makeMap t r =>
      have hn : normMap (P.underlying t) r = some ao := hn
      rw [normMap_mk hn] at hno
      exact hno (by simp) (by simp)
    case slice t x lo hi mx =>
      cases mx with
      | some y => simp [normOp] at hn
      | none =>
        simp only [normOp] at hn
        repeat' split at hn
        all_goals first
          | (cases hn; done)
          | (simp only [Option.some.injEq] at hn; subst hn; exact hno (by simp) (by simp))
          | (obtain ⟨z, _, hn⟩ := Option.bind_eq_some_iff.1 hn
             split at hn <;> first | (cases hn; done) | (simp only [Option.some.injEq] at hn; subst hn; exact hno (by simp) (by simp)))
    all_goals
      simp only [normOp, reduceCtorEq] at hn
      try (
        repeat' split at hn
        all_goals first
          | (cases hn; done)
          | (simp only [Option.some.injEq] at hn; subst hn; exact hno (by simp) (by simp))
          | (obtain ⟨z, _, rfl⟩ := opt_map_some hn; exact hno (by simp) (by simp))
          | (obtain ⟨z, _, hn⟩ := Option.bind_eq_some_iff.1 hn
             split at hn <;> first | (cases hn; done) | (simp only [Option.some.injEq] at hn; subst hn; exact hno (by simp) (by simp))))
  exact ⟨fun x t e => key (.inl ⟨x, t, e⟩), fun n x t e => key (.inr ⟨n, x, t, e⟩)⟩

/-- Loads stand for loads alone. -/
theorem norm_load {ty : TypeId} {op : Op} {ao : AOp} {x : Operand} (hn : normOp P ty op = some ao) (hk : ao = .load1 x ∨ ∃ n, ao = .load n x) : ∃ t, op = .load t x := by
  have hno : (∀ y, ao ≠ .load1 y) → (∀ n y, ao ≠ .load n y) → False := fun h1 h2 => by
    rcases hk with e | ⟨n, e⟩
    · exact h1 _ e
    · exact h2 _ _ e
  cases op
  case load t a =>
    simp only [normOp] at hn
    repeat' split at hn
    all_goals first
      | (cases hn; done)
      | (simp only [Option.some.injEq] at hn; subst hn
         rcases hk with e | ⟨n, e⟩
         · cases e
           try exact ⟨t, rfl⟩
         · cases e
           try exact ⟨t, rfl⟩)
  case call c =>
    exfalso
    simp only [normOp, normCall] at hn
    repeat' split at hn
    all_goals first
      | (cases hn; done)
      | (simp only [Option.some.injEq] at hn; subst hn; exact hno (by simp) (by simp))
  case binOp op t x y yt =>
    exfalso
    have eqs : ∀ neg, normEq P neg t x y = some ao → False := by
      intro neg hne
      unfold normEq at hne
      repeat' split at hne
      all_goals first
        | (cases hne; done)
        | (simp only [Option.some.injEq] at hne; subst hne; exact hno (by simp) (by simp))
        | (obtain ⟨z, _, rfl⟩ := opt_map_some hne; exact hno (by simp) (by simp))
    simp only [normOp] at hn
    cases op <;> simp only at hn
    case eql => exact eqs false hn
    case neq => exact eqs true hn
    all_goals
      split at hn
      · simp only [Option.some.injEq] at hn; subst hn; exact hno (by simp) (by simp)
      · cases hn
  case makeFunc fn a b =>
    exfalso
    cases fn <;> simp only [normOp, reduceCtorEq, Option.some.injEq] at hn
    subst hn; exact hno (by simp) (by simp)
  case makeMap t r =>
    exfalso
    have hn : normMap (P.underlying t) r = some ao := hn
    rw [normMap_mk hn] at hno
    exact hno (by simp) (by simp)
  case slice t x lo hi mx =>
    exfalso
    cases mx with
    | some y => simp [normOp] at hn
    | none =>
      simp only [normOp] at hn
      repeat' split at hn
      all_goals first
        | (cases hn; done)
        | (simp only [Option.some.injEq] at hn; subst hn; exact hno (by simp) (by simp))
        | (obtain ⟨z, _, hn⟩ := Option.bind_eq_some_iff.1 hn
           split at hn <;> first | (cases hn; done) | (simp only [Option.some.injEq] at hn; subst hn; exact hno (by simp) (by simp)))
  all_goals
    exfalso
    simp only [normOp, reduceCtorEq] at hn
    try (
      repeat' split at hn
      all_goals first
        | (cases hn; done)
        | (simp only [Option.some.injEq] at hn; subst hn; exact hno (by simp) (by simp))
        | (obtain ⟨z, _, rfl⟩ := opt_map_some hn; exact hno (by simp) (by simp))
        | (obtain ⟨z, _, hn⟩ := Option.bind_eq_some_iff.1 hn
           split at hn <;> first | (cases hn; done) | (simp only [Option.some.injEq] at hn; subst hn; exact hno (by simp) (by simp))))
/-- The abstract machine goes on to the next operation that acts. -/
theorem Inv.advance (S : Stat P G ops as) : ∀ (rest pre : List Nat) (seen : Nat) (s : St) (val : Nat → Value) (hole : Nat → Option Nat), Inv call P G N ops as s0 σ0 g0 w0 D pre rest seen s sfin val hole σ g w a →
    ∃ pre' rest' seen' s' val' hole', Inv call P G N ops as s0 σ0 g0 w0 D pre' rest' seen' s' sfin val' hole' σ g w a ∧ (rest' = [] ∨ ∃ e r, rest' = e :: r ∧ (as.getD e none').op.acts = true)
  | [], pre, seen, s, val, hole, I => ⟨pre, [], seen, s, val, hole, I, .inl rfl⟩
  | i :: r, pre, seen, s, val, hole, I => by
    cases ha : (as.getD i none').op.acts with
    | true => exact ⟨pre, i :: r, seen, s, val, hole, I, .inr ⟨i, r, rfl, ha⟩⟩
    | false =>
      obtain ⟨o1, o2, _⟩ := orderOk_cons I.order
      obtain ⟨o, _, hno, _⟩ := S.oper o2
      obtain ⟨s', val', hole', I'⟩ := I.advance1 S ha (norm_noagain (normOper_inv hno).2.1)
      exact Inv.advance S r (pre ++ [i]) _ s' val' hole' I'

theorem Inv.names_VR (S : Stat P G ops as) (I : Inv call P G N ops as s0 σ0 g0 w0 D pre rest seen s sfin val hole σ g w a) {i : Nat} (hi : i < as.length) (hnD : ¬ D i) (hb : ∀ j, bits (Region.before ops).toList i j = true → D j)
    {ρ : Operand → Value} (hr : RelV ops as s0 val i ρ) {t : Nat} (ht : t ∈ nm ops as i) : VR σ g (ρ (.tmp t)) (a.tmps.getD t undef) := by
  by_cases hl : s0.t.length ≤ t
  · rw [hr.far t ht hl]
    have : a.tmps.getD t undef = undef := by
      rw [Array.getD_eq_getD_getElem?, Array.getElem?_eq_none (by rw [I.asz]; exact hl)]; rfl
    rw [this]
    exact .tuple [] [] .nil
  · have hlt : t < s0.t.length := by omega
    by_cases hk : ∃ k, k < as.length ∧ (as.getD k none').dst = some t ∧ bits (Region.before ops).toList i k = true
    · obtain ⟨k, hkl, hd, hbk⟩ := hk
      rw [hr.new t ht k hkl hd hbk hlt]
      exact (I.tmpD t hlt).1 k (hb k hbk) hd
    · have hno : ∀ k, k < as.length → (as.getD k none').dst = some t → bits (Region.before ops).toList i k = false := by
        intro k hkl hd
        cases hq : bits (Region.before ops).toList i k with
        | false => rfl
        | true => exact absurd ⟨k, hkl, hd, hq⟩ hk
      rw [hr.old t ht hno]
      refine (I.tmpD t hlt).2 fun k hDk hd => ?_
      have hkl := I.lt k (I.inD k hDk)
      rcases (S.pair hkl hi hd).2 ht with h | h
      · rw [hno k hkl hd] at h; cases h
      · exact hnD (I.closed k i hDk h)

theorem Inv.operand_VR (S : Stat P G ops as) (I : Inv call P G N ops as s0 σ0 g0 w0 D pre rest seen s sfin val hole σ g w a) {i : Nat} (hi : i < as.length) (hnD : ¬ D i) (hb : ∀ j, bits (Region.before ops).toList i j = true → D j)
    {ρ : Operand → Value} (hr : RelV ops as s0 val i ρ) {o : Oper} (ho : ops.toList.getD i default = o) {x : Operand} (hx : x ∈ o.op.operands) (hok : operandOk G x = true) : VR σ g (ρ x) (a.eval x) := by
  cases x with
  | tmp t =>
    have ht : t ∈ nm ops as i := by
      unfold nm namesOf
      rw [ho]
      refine List.mem_append.2 (.inl ?_)
      rw [List.mem_filterMap]
      exact ⟨.tmp t, Array.mem_toList_iff.2 hx, rfl⟩
    exact I.names_VR S hi hnD hb hr ht
  | const v => rw [hr.rest _ (fun t e => by cases e)]; exact .plain hok
  | global g' =>
    rw [hr.rest _ (fun t e => by cases e)]
    obtain ⟨vals, h1, h2, h3⟩ := I.mr.glob g' (by simpa [operandOk] using hok)
    refine .ptr _ _ 0 vals 0 true rfl h1 (Nat.le_refl _) fun _ => ?_
    simp only
    rw [h2, h3]
  | func f => rw [hr.rest _ (fun t e => by cases e)]; exact .func _ [] [] [] [] .nil .nil

theorem Inv.wanted_eq (S : Stat P G ops as) (I : Inv call P G N ops as s0 σ0 g0 w0 D pre rest seen s sfin val hole σ g w a) {i : Nat} (hi : i < as.length) (hnD : ¬ D i) (hb : ∀ j, bits (Region.before ops).toList i j = true → D j)
    {ρ : Operand → Value} (hr : RelV ops as s0 val i ρ) {o : Oper} (hg : normGuard ops o.guard = some (as.getD i none').guard) : Region.wanted o (yielded ops a.tmps) = wantR ρ (as.getD i none').guard := by
  unfold normGuard at hg
  unfold Region.wanted
  split at hg
  · rename_i hq
    simp only [Option.some.injEq] at hg
    rw [hq, ← hg]; rfl
  · rename_i j b hq
    split at hg
    · rename_i t ht
      simp only [Option.some.injEq] at hg
      rw [hq, ← hg]
      have hmem : t ∈ nm ops as i := by
        unfold nm namesOf
        rw [← hg]
        exact List.mem_append.2 (.inr (by simp))
      have hvr := I.names_VR S hi hnD hb hr hmem
      simp only [yielded, ht, Option.bind_some, wantR]
      rw [Array.getD_eq_getD_getElem?] at hvr
      generalize ρ (.tmp t) = u at hvr
      cases hc : a.tmps[t]? with
      | none =>
        rw [hc] at hvr
        simp only [Option.getD_none] at hvr
        cases hvr
        rfl
      | some c =>
        rw [hc] at hvr
        simp only [Option.getD_some] at hvr
        cases hvr <;> first | rfl | (rename_i bb; cases bb <;> cases b <;> rfl)
    · cases hg

/-- The places behind a step of the model. -/
theorem Inv.tmpD_put (S : Stat P G ops as) (I : Inv call P G N ops as s0 σ0 g0 w0 D pre rest seen s sfin val hole σ g w a) {i : Nat} (hi : i < as.length) (hnD : ¬ D i) {σ' : Emb} {g' : Mem} (he : Ext σ g σ' g') {v cv : Value} (hv : VR σ' g' v cv)
    (val' : Nat → Value) (hvi : val' i = v) (hvo : ∀ k, D k → val' k = val k) :
    (a.put (as.getD i none').dst cv).tmps.size = s0.t.length ∧
    ∀ t, t < s0.t.length → (∀ k, (D k ∨ k = i) → (as.getD k none').dst = some t → VR σ' g' (val' k) ((a.put (as.getD i none').dst cv).tmps.getD t undef)) ∧
      ((∀ k, (D k ∨ k = i) → (as.getD k none').dst ≠ some t) → VR σ' g' (s0.t.getD t undef) ((a.put (as.getD i none').dst cv).tmps.getD t undef)) := by
  have hput : ∀ t, t < s0.t.length → (a.put (as.getD i none').dst cv).tmps.getD t undef = if (as.getD i none').dst = some t then cv else a.tmps.getD t undef := by
    intro t ht
    cases hd : (as.getD i none').dst with
    | none => simp [Act.put]
    | some u =>
      simp only [Act.put, Option.some.injEq]
      rw [Array.getD_eq_getD_getElem?, Array.getElem?_setIfInBounds]
      by_cases hut : u = t
      · subst hut
        rw [if_pos rfl, if_pos (by rw [I.asz]; exact ht), if_pos rfl]; rfl
      · rw [if_neg hut, if_neg hut, Array.getD_eq_getD_getElem?]
  refine ⟨by cases (as.getD i none').dst <;> simp [Act.put, I.asz], fun t ht => ⟨fun k hk hd => ?_, fun hno => ?_⟩⟩
  · rw [hput t ht]
    rcases hk with hk | rfl
    · have hkl := I.lt k (I.inD k hk)
      have hne : (as.getD i none').dst ≠ some t := fun h => hnD (by rw [← S.uniq hkl hi hd h]; exact hk)
      rw [if_neg hne, hvo k hk]
      exact ((I.tmpD t ht).1 k hk hd).ext he
    · rw [if_pos hd, hvi]; exact hv
  · rw [hput t ht, if_neg (hno i (.inr rfl))]
    exact ((I.tmpD t ht).2 fun k hk => hno k (.inl hk)).ext he

/-- The model does an operation that the abstract machine has done. -/
theorem Inv.step_pend (S : Stat P G ops as) (I : Inv call P G N ops as s0 σ0 g0 w0 D pre rest seen s sfin val hole σ g w a) {i : Nat} (hip : i ∈ pre) (hnD : ¬ D i) (hb : ∀ j, bits (Region.before ops).toList i j = true → D j)
    {K : Act → World → Prop} {Q : Exit → Act → World → Prop} (hK : ∀ σ' g' w' a', Inv call P G N ops as s0 σ0 g0 w0 (fun j => D j ∨ j = i) pre rest seen s sfin val hole σ' g' w' a' → K a' w') : wpOp P ops Q i K a w := by
  have hi := I.lt i hip
  obtain ⟨o, hoi, hno, hod⟩ := S.oper hi
  obtain ⟨hok, hop, hgd, hdst⟩ := normOper_inv hno
  obtain ⟨ρ, hrel, hna, hp⟩ := I.pend i hip hnD
  have hops : ∀ x ∈ o.op.operands, VR σ g (ρ x) (a.eval x) := fun x hx => I.operand_VR S hi hnD hb hrel hod hx (hok x hx)
  have hcs : ∀ v, ρ (.const v) = v ∧ a.eval (.const v) = v := fun v => ⟨by rw [hrel.rest _ (fun t e => by cases e)]; rfl, rfl⟩
  -- what is left for the invariant
  have fin : ∀ (σ' : Emb) (g' : Mem) (w' : World) (cv : Value), Go N σ g w σ' g' w' → MR G N σ' g' w' → VR σ' g' (val i) cv → Sub g' s.h → (∀ j, g' j = grow g0 s0.h s.h j ∨ (g' j = none ∧ ∃ k ∈ pre, ¬ (D k ∨ k = i) ∧ hole k = some j)) →
      (∀ k ∈ pre, ¬ (D k ∨ k = i) → ∀ id, hole k = some id → g' id = none) → K (a.put o.dst cv) w' := by
    intro σ' g' w' cv hgo hmr hv hsub hgr hh
    rw [← hdst]
    obtain ⟨t1, t2⟩ := I.tmpD_put S hi hnD hgo.ext hv val rfl (fun _ _ => rfl)
    refine hK σ' g' w' _ ⟨t1, I.ssz, by rw [put_defers]; exact I.dfr, hmr, hsub, I.go.trans hgo, I.holes, hgr, ?_, ?_, ?_, I.all, I.lt, I.marks, I.preclosed, I.order, I.weaved, ?_, t2, I.tmpC, ?_⟩
    · intro x hx y hy id hDx hDy h1 h2
      exact I.apart x hx y hy id (fun h => hDx (.inl h)) (fun h => hDy (.inl h)) h1 h2
    · rintro j (hj | rfl)
      · exact I.inD j hj
      · exact hip
    · rintro x y (hx | rfl) hxy
      · exact .inl (I.closed x y hx hxy)
      · exact .inl (hb y hxy)
    · intro x hx ha; exact .inl (I.actD x hx ha)
    · intro k hk hDk
      obtain ⟨ρ', r1, r2, r3⟩ := I.pend k hk (fun h => hDk (.inl h))
      refine ⟨ρ', r1, r2, ?_⟩
      cases hhk : hole k with
      | none => rw [hhk] at r3; exact r3
      | some id =>
        rw [hhk] at r3
        obtain ⟨q1, q2, q3⟩ := r3
        exact ⟨q1, hh k hk hDk id hhk, q3⟩
  have finStill : ∀ cv, VR σ g (val i) cv → hole i = none → K (a.put o.dst cv) w := by
    intro cv hv hhi
    refine fin σ g w cv (.refl _ _ _ _) I.mr hv I.sub (fun j => ?_) (fun k hk hDk id hhk => ?_)
    · rcases I.grows j with h | ⟨h, k, hk, hDk, hhk⟩
      · exact .inl h
      · refine .inr ⟨h, k, hk, fun hq => ?_, hhk⟩
        rcases hq with hq | rfl
        · exact hDk hq
        · rw [hhi] at hhk; cases hhk
    · obtain ⟨_, _, _, r3⟩ := I.pend k hk (fun h => hDk (.inl h))
      rw [hhk] at r3
      exact r3.2.1
  unfold wpOp
  rw [hoi]
  simp only
  rw [I.wanted_eq S hi hnD hb hrel hgd]
  cases hhi : hole i with
  | none =>
    rw [hhi] at hp
    simp only at hp
    by_cases hw : wantR ρ (as.getD i none').guard = true
    · rw [if_pos hw] at hp ⊢
      obtain ⟨hmk, hev, _⟩ := hp
      left
      obtain ⟨_, cv, hrun, hvr⟩ := still_op call I.mr I.sub hop hna hmk hops hcs hev
      unfold Oper.wp
      rw [hrun]
      exact finStill cv hvr hhi
    · rw [if_neg hw] at hp ⊢
      exact finStill undef (by rw [hp]; exact .tuple [] [] .nil) hhi
  | some id =>
    rw [hhi] at hp
    obtain ⟨q1, q2, q3, q4, ob, q5, q6⟩ := hp
    rw [if_pos q3]
    left
    have hl : (List.replicate id AObj.gone).length = id := List.length_replicate
    obtain ⟨ob', e1, cv, w', hrun, σ', f1, f2, f3⟩ := make_fill call (h := List.replicate id AObj.gone) I.mr (by rw [hl]; exact q2) hop q4 hops hcs (q6 _ hl)
    have hob : ob' = ob := by have := List.append_cancel_left e1; simpa using this.symm
    subst hob
    rw [hl] at f1 f2 f3
    unfold Oper.wp
    rw [hrun]
    refine fin σ' _ w' cv f1 f2 f3 ?_ (fun j => ?_) (fun k hk hDk id' hhk => ?_)
    · intro j x hj
      unfold upd at hj
      by_cases hji : j = id
      · subst hji; rw [if_pos rfl] at hj; cases hj; exact q5
      · rw [if_neg hji] at hj; exact I.sub j x hj
    · unfold upd
      by_cases hji : j = id
      · subst hji
        left
        rw [if_pos rfl]
        unfold grow
        rw [if_neg (by omega), q5]
      · rw [if_neg hji]
        rcases I.grows j with h | ⟨h, k, hk, hDk, hhk⟩
        · exact .inl h
        · refine .inr ⟨h, k, hk, fun hq => ?_, hhk⟩
          rcases hq with hq | rfl
          · exact hDk hq
          · rw [hhi] at hhk; cases hhk; exact hji rfl
    · have hne : id' ≠ id := by
        rintro rfl
        have := I.apart k hk i hip id' (fun h => hDk (.inl h)) hnD hhk hhi
        exact hDk (.inr this)
      unfold upd
      rw [if_neg hne]
      obtain ⟨_, _, _, r3⟩ := I.pend k hk (fun h => hDk (.inl h))
      rw [hhk] at r3
      exact r3.2.1
end Go.Proofs.YtfbldlgjlgcpoaaDoor.AM

namespace Go.Proofs.YtfbldlgjlgcpoaaDoor.AM
open Go.RowKit

set_option linter.unusedSimpArgs false
set_option linter.unusedVariables false
variable {call : Caller} {P : Program} {G N : Nat} {ops : Array Oper} {as : List AOper} {s0 : St} {σ0 : Emb} {g0 : Mem} {w0 : World} {D : Nat → Prop} {pre rest : List Nat} {seen : Nat} {s sfin : St} {val : Nat → Value} {hole : Nat → Option Nat}
  {σ : Emb} {g : Mem} {w : World} {a : Act}

theorem evOps_append (call : Caller) : ∀ (l m : List AOper) (s : St), evOps call (l ++ m) s = (evOps call l s).bind (evOps call m)
  | [], m, s => rfl
  | o :: l, m, s => by
    simp only [List.cons_append, evOps]
    cases evOper call o s with
    | none => rfl
    | some s1 => exact evOps_append call l m s1

/-- The looks that were taken again. -/
theorem looks_spec {bi : Nat} {s1 s2 : St} : ∀ (js : List Nat) (l : List AOper), looks ops.toList as (Region.before ops).toList bi js = some l → evOps call l s1 = some s2 → s2 = s1 ∧
    ∀ j ∈ js, (as.getD j none').op.reads = true → bi.testBit j = false → ∃ t ag, (as.getD j none').dst = some t ∧ (as.getD j none').op.againOf t = some ag ∧ (wants s1 (as.getD j none').guard = true → ∃ r, evOp call s1.eval s1.h ag = some r) ∧
      ∀ k, k < as.length → ∀ u, (as.getD k none').dst = some u → u ∈ nm ops as j → bits (Region.before ops).toList j k = true
  | [], l, hl, he => by
    simp only [looks, Option.some.injEq] at hl; subst hl
    simp only [evOps, Option.some.injEq] at he
    exact ⟨he.symm, fun j hj => by simp at hj⟩
  | j :: js, l, hl, he => by
    unfold looks at hl
    simp only at hl
    split at hl
    · rename_i hc
      split at hl
      · rename_i t l2 ht hl2
        split at hl
        · rename_i hall
          obtain ⟨ag, hag, rfl⟩ := opt_map_some hl
          simp only [evOps] at he
          obtain ⟨s3, h3, h4⟩ := Option.bind_eq_some_iff.1 he
          have hstay : s3 = s1 ∧ (wants s1 (as.getD j none').guard = true → ∃ r, evOp call s1.eval s1.h ag = some r) := by
            unfold evOper at h3
            by_cases hw : wants s1 (as.getD j none').guard = true
            · rw [if_pos hw] at h3
              obtain ⟨r, hr, h5⟩ := opt_map_some h3
              refine ⟨?_, fun _ => ⟨r, hr⟩⟩
              have hrh : r.2 = s1.h := by
                cases hop : (as.getD j none').op <;> rw [hop] at hag <;> simp only [AOp.againOf, reduceCtorEq, Option.some.injEq] at hag <;> subst hag <;> simp only [evOp] at hr <;> split at hr <;> (try cases hr) <;> split at hr <;> (try cases hr) <;> rfl
              rw [← h5]
              simp only [St.put, hrh]
            · rw [if_neg hw] at h3
              simp only [St.put, Option.some.injEq] at h3
              exact ⟨h3.symm, fun h => absurd h hw⟩
          obtain ⟨rfl, hw⟩ := hstay
          obtain ⟨rfl, hrest⟩ := looks_spec js l2 hl2 h4
          refine ⟨rfl, fun k hk hr hb => ?_⟩
          rcases List.mem_cons.1 hk with rfl | hk
          · refine ⟨t, ag, ht, hag, hw, fun q hq u hu hm => ?_⟩
            rw [List.all_eq_true] at hall
            have := hall q (List.mem_range.2 hq)
            rw [hu] at this
            simp only [Bool.or_eq_true, Bool.not_eq_true'] at this
            rcases this with h | h
            · have hc2 : (namesOf (ops.toList.getD k default) (as.getD k none')).contains u = true := List.contains_iff_mem.2 hm
              rw [hc2] at h; cases h
            · exact h
          · exact hrest k hk hr hb
        · cases hl
      · cases hl
    · rename_i hc
      obtain ⟨rfl, hrest⟩ := looks_spec js l hl he
      refine ⟨rfl, fun k hk hr hb => ?_⟩
      rcases List.mem_cons.1 hk with rfl | hk
      · rw [hr, hb] at hc; exact absurd rfl hc
      · exact hrest k hk hr hb

/-- The next operation that acts is done on both sides. -/
theorem Inv.step_act (S : Stat P G ops as) (hF : CallsOk P G N call) {e : Nat} {r : List Nat} (I : Inv call P G N ops as s0 σ0 g0 w0 D pre (e :: r) seen s sfin val hole σ g w a) (hacts : (as.getD e none').op.acts = true)
    (hb : ∀ j, bits (Region.before ops).toList e j = true → D j) {K : Act → World → Prop} {Q : Exit → Act → World → Prop}
    (hK : ∀ s' val' σ' g' w' a', Inv call P G N ops as s0 σ0 g0 w0 (fun j => D j ∨ j = e) (pre ++ [e]) r (seen ||| 2 ^ e) s' sfin val' hole σ' g' w' a' → K a' w') : wpOp P ops Q e K a w := by
  obtain ⟨o1, o2, o3, o4, o5⟩ := orderOk_cons I.order
  have hni : e ∉ pre := fun h => by rw [(I.marks e).2 h] at o1; cases o1
  have hbp : ∀ j, bits (Region.before ops).toList e j = true → j ∈ pre := fun j hj => (I.marks j).1 (o3 j hj)
  have hrel := I.relV S o2 hni hbp
  have hnD : ¬ D e := fun h => hni (I.inD e h)
  obtain ⟨m, hm, hev⟩ := I.weaved
  unfold weave at hm
  simp only [hacts, if_true] at hm
  cases hw1 : looks ops.toList as (Region.before ops).toList ((Region.before ops).toList.getD e 0) pre with
  | none => rw [hw1] at hm; cases hm
  | some l =>
  cases hw2 : weave ops.toList as (Region.before ops).toList r (pre ++ [e]) with
  | none => rw [hw1, hw2] at hm; cases hm
  | some m2 =>
  rw [hw1, hw2] at hm
  simp only [Option.some.injEq] at hm
  subst hm
  simp only [evOps] at hev
  obtain ⟨s1, hs1, hrun⟩ := Option.bind_eq_some_iff.1 hev
  rw [evOps_append] at hrun
  obtain ⟨s2, hs2, hrun2⟩ := Option.bind_eq_some_iff.1 hrun
  obtain ⟨rfl, hlooks⟩ := looks_spec _ _ hw1 hs2
  obtain ⟨o, hoi, hno, hod⟩ := S.oper o2
  obtain ⟨hok, hop, hgd, hdst⟩ := normOper_inv hno
  have hops : ∀ x ∈ o.op.operands, VR σ g (s.eval x) (a.eval x) := fun x hx => I.operand_VR S o2 hnD hb hrel hod hx (hok x hx)
  have hne : ∀ k ∈ pre, k ≠ e := fun k hk q => hni (q ▸ hk)
  have fin : ∀ (v : Value) (h1 : Heap) (σ' : Emb) (w' : World) (cv : Value), s2 = s.put (as.getD e none').dst v h1 → Go N σ g w σ' (grow g s.h h1) w' → MR G N σ' (grow g s.h h1) w' → VR σ' (grow g s.h h1) v cv → Holes g s.h h1 → K (a.put o.dst cv) w' := by
    intro v h1 σ' w' cv hs2' hgo hmr hv hho
    rw [← hdst]
    have hh1 : s2.h = h1 := by rw [hs2', put_h]
    obtain ⟨t1, t2⟩ := I.tmpD_put S o2 hnD hgo.ext hv (fun j => if j = e then v else val j) (if_pos rfl) (fun k hk => if_neg (hne k (I.inD k hk)))
    have hput : ∀ t, s2.t.getD t undef = if (as.getD e none').dst = some t ∧ t < s0.t.length then v else s.t.getD t undef := by
      intro t
      rw [hs2']
      cases hd : (as.getD e none').dst with
      | none => simp [St.put]
      | some u =>
        simp only [St.put, Option.some.injEq]
        rw [List.getD_eq_getElem?_getD, List.getElem?_set]
        by_cases hut : u = t
        · subst hut
          by_cases hlt : u < s.t.length
          · rw [if_pos rfl, if_pos hlt, if_pos ⟨rfl, by rw [← I.ssz]; exact hlt⟩]; rfl
          · rw [if_pos rfl, if_neg hlt, if_neg (fun h => hlt (by rw [I.ssz]; exact h.2)), getD_far (by omega)]; rfl
        · rw [if_neg hut, if_neg (fun h => hut h.1), List.getD_eq_getElem?_getD]
    have hssz : s2.t.length = s0.t.length := by rw [hs2']; cases (as.getD e none').dst <;> simp [St.put, I.ssz]
    have htC : ∀ t, (∀ k ∈ pre ++ [e], (as.getD k none').dst = some t → t < s0.t.length → s2.t.getD t undef = (if k = e then v else val k)) ∧ ((∀ k ∈ pre ++ [e], (as.getD k none').dst ≠ some t) → s2.t.getD t undef = s0.t.getD t undef) := by
      intro t
      constructor
      · intro k hk hd hlt
        rw [hput]
        simp only [List.mem_append, List.mem_singleton] at hk
        rcases hk with hk | rfl
        · rw [if_neg (hne k hk), if_neg (fun h => hne k hk (S.uniq (I.lt k hk) o2 hd h.1))]
          exact (I.tmpC t).1 k hk hd hlt
        · rw [if_pos rfl, if_pos ⟨hd, hlt⟩]
      · intro hno
        rw [hput, if_neg (fun h => hno e (by simp) h.1)]
        exact (I.tmpC t).2 fun k hk => hno k (by simp [hk])
    have hnone : ∀ i, i < s0.h.length → g0 i = none → g i = none := by
      intro i hi hg0
      rcases I.grows i with h | ⟨h, _⟩
      · rw [h]; unfold grow; rw [if_pos hi, hg0]
      · exact h
    refine hK s2 (fun j => if j = e then v else val j) σ' _ w' _ ⟨t1, hssz, by rw [put_defers]; exact I.dfr, hmr, by rw [hh1]; exact grow_sub _ _ _, I.go.trans hgo, ?_, ?_, ?_, ?_, ?_, ?_, ?_, ?_, ?_, o5, ⟨m2, hw2, hrun2⟩, ?_, t2, htC, ?_⟩
    · rw [hh1]
      refine ⟨Nat.le_trans I.holes.1 hho.1, fun i hi hg0 => ?_⟩
      rw [hho.2 i (Nat.lt_of_lt_of_le hi I.holes.1) (hnone i hi hg0), I.holes.2 i hi hg0]
    · intro j
      rw [hh1]
      have hle := I.holes.1
      by_cases hj : j < s.h.length
      · cases hgj : g j with
        | none =>
          have hg' : grow g s.h h1 j = none := by unfold grow; rw [if_pos hj, hgj]
          rcases I.grows j with h | ⟨_, k, hk, hDk, hhk⟩
          · left
            rw [hg']
            rw [hgj] at h
            unfold grow at h ⊢
            by_cases h0 : j < s0.h.length
            · rw [if_pos h0] at h ⊢
              cases hg0 : g0 j with
              | none => rfl
              | some x =>
                rw [hg0] at h
                simp only at h
                rw [List.getElem?_eq_getElem hj] at h; cases h
            · rw [if_neg h0] at h
              rw [List.getElem?_eq_getElem hj] at h; cases h
          · right
            exact ⟨hg', k, by simp [hk], fun q => by rcases q with q | q; exact hDk q; exact hne k hk q, hhk⟩
        | some x =>
          left
          have hg' : grow g s.h h1 j = h1[j]? := by unfold grow; rw [if_pos hj, hgj]
          rw [hg']
          rcases I.grows j with h | ⟨h, _⟩
          · rw [hgj] at h
            unfold grow at h ⊢
            by_cases h0 : j < s0.h.length
            · rw [if_pos h0] at h ⊢
              cases hg0 : g0 j with
              | none => rw [hg0] at h; cases h
              | some y => rfl
            · rw [if_neg h0]
          · rw [hgj] at h; cases h
      · left
        unfold grow
        rw [if_neg hj, if_neg (by omega)]
    · intro x hx y hy id hDx hDy h1 h2
      simp only [List.mem_append, List.mem_singleton] at hx hy
      rcases hx with hx | rfl
      · rcases hy with hy | rfl
        · exact I.apart x hx y hy id (fun h => hDx (.inl h)) (fun h => hDy (.inl h)) h1 h2
        · exact absurd (.inr rfl) hDy
      · exact absurd (.inr rfl) hDx
    · rintro j (hj | rfl)
      · exact List.mem_append.2 (.inl (I.inD j hj))
      · simp
    · rintro x y (hx | rfl) hxy
      · exact .inl (I.closed x y hx hxy)
      · exact .inl (hb y hxy)
    · intro j hj
      rcases I.all j hj with h | h
      · exact .inl (List.mem_append.2 (.inl h))
      · rcases List.mem_cons.1 h with rfl | h
        · exact .inl (by simp)
        · exact .inr h
    · intro j hj
      rcases List.mem_append.1 hj with h | h
      · exact I.lt j h
      · rw [List.mem_singleton.1 h]; exact o2
    · intro j
      rw [testBit_or_two, I.marks j, List.mem_append, List.mem_singleton]
    · intro j hj k hk
      rcases List.mem_append.1 hj with h | h
      · exact List.mem_append.2 (.inl (I.preclosed j h k hk))
      · rw [List.mem_singleton.1 h] at hk; exact List.mem_append.2 (.inl (hbp k hk))
    · intro j hj ha
      rcases List.mem_append.1 hj with h | h
      · exact .inl (I.actD j h ha)
      · exact .inr (List.mem_singleton.1 h)
    · intro k hk hDk
      have hkp : k ∈ pre := by
        rcases List.mem_append.1 hk with h | h
        · exact h
        · exact absurd (.inr (List.mem_singleton.1 h)) hDk
      have hnDk : ¬ D k := fun h => hDk (.inl h)
      obtain ⟨ρ, r1, r2, r3⟩ := I.pend k hkp hnDk
      have hbk : bits (Region.before ops).toList k e = false := by
        cases hq : bits (Region.before ops).toList k e with
        | false => rfl
        | true => exact absurd (I.preclosed k hkp e hq) hni
      have hbe : bits (Region.before ops).toList e k = false := by
        cases hq : bits (Region.before ops).toList e k with
        | false => rfl
        | true => exact absurd (hb k hq) hnDk
      refine ⟨ρ, r1.upd v hbk, r2, ?_⟩
      simp only [if_neg (hne k hkp)]
      rw [hh1]
      cases hhk : hole k with
      | some id =>
        rw [hhk] at r3
        simp only at r3 ⊢
        obtain ⟨q1, q2, q3, q4, ob, q5, q6⟩ := r3
        have hlt := (List.getElem?_eq_some_iff.1 q5).1
        exact ⟨q1, by unfold grow; rw [if_pos hlt, q2], q3, q4, ob, by rw [hho.2 id hlt q2]; exact q5, q6⟩
      | none =>
        rw [hhk] at r3
        simp only at r3 ⊢
        split at r3
        · rename_i hwr
          rw [if_pos hwr]
          obtain ⟨q1, q2, q3⟩ := r3
          refine ⟨q1, ?_, q3⟩
          cases hrd : (as.getD k none').op.reads with
          | false => exact q3 hrd _
          | true =>
            obtain ⟨t, ag, l1, l2, l3, l4⟩ := hlooks k hkp hrd hbe
            have hname : ∀ u ∈ nm ops as k, s2.t.getD u undef = ρ (.tmp u) := by
              intro u hu
              by_cases hfar : s0.t.length ≤ u
              · rw [r1.far u hu hfar, getD_far (by rw [hssz]; exact hfar)]
              · by_cases hwx : ∃ q, q < as.length ∧ (as.getD q none').dst = some u
                · obtain ⟨q, hq, hd⟩ := hwx
                  have hbq := l4 q hq u hd hu
                  have hqp := I.preclosed k hkp q hbq
                  rw [(htC u).1 q (by simp [hqp]) hd (by omega), if_neg (hne q hqp), r1.new u hu q hq hd hbq (by omega)]
                · have hno : ∀ q, q < as.length → (as.getD q none').dst = some u → False := fun q hq hd => hwx ⟨q, hq, hd⟩
                  rw [(htC u).2 (fun q hq hd => hno q (by rcases List.mem_append.1 hq with h | h; exact I.lt q h; rw [List.mem_singleton.1 h]; exact o2) hd), r1.old u hu (fun q hq hd => (hno q hq hd).elim)]
            have hopd : ∀ x ∈ (ops.toList.getD k default).op.operands, s2.eval x = ρ x := by
              intro x hx
              cases x with
              | tmp u =>
                refine hname u ?_
                unfold nm namesOf
                refine List.mem_append.2 (.inl ?_)
                rw [List.mem_filterMap]
                exact ⟨.tmp u, Array.mem_toList_iff.2 hx, rfl⟩
              | const c => rw [r1.rest _ (fun t e => by cases e)]; rfl
              | global c => rw [r1.rest _ (fun t e => by cases e)]; rfl
              | func c => rw [r1.rest _ (fun t e => by cases e)]; rfl
            have hwants : wants s2 (as.getD k none').guard = true := by
              rw [wants_wantR]
              unfold wantR at hwr ⊢
              cases hgk : (as.getD k none').guard with
              | none => rfl
              | some p =>
                obtain ⟨u, bb⟩ := p
                rw [hgk] at hwr
                simp only at hwr ⊢
                have : s2.eval (.tmp u) = ρ (.tmp u) := hname u (by unfold nm namesOf; rw [hgk]; exact List.mem_append.2 (.inr (by simp)))
                rw [this]; exact hwr
            obtain ⟨res, hres⟩ := l3 hwants
            rw [hh1] at hres
            obtain ⟨ok', _, hno', hod'⟩ := S.oper (I.lt k hkp)
            obtain ⟨_, hop', _, _⟩ := normOper_inv hno'
            have htv : isTup (s2.eval (.tmp t)) = false → s2.eval (.tmp t) = val k := by
              intro hnt
              by_cases hlt : t < s0.t.length
              · have := (htC t).1 k (by simp [hkp]) l1 hlt
                rw [if_neg (hne k hkp)] at this
                exact this
              · have : s2.eval (.tmp t) = undef := getD_far (by rw [hssz]; omega)
                rw [this] at hnt; simp [undef, isTup] at hnt
            -- which operation it is
            have hload : ∀ x, ((∃ t, (ops.toList.getD k default).op = .load t x)) → s2.eval x = ρ x := by
              rintro x ⟨t, ht⟩
              exact hopd x (by rw [ht]; simp [Op.operands])
            have hsrc : ∀ x, ((as.getD k none').op = .load1 x ∨ ∃ n, (as.getD k none').op = .load n x) → ∃ t, (ops.toList.getD k default).op = .load t x := by
              intro x hx
              rw [hod'] at *
              exact norm_load hop' hx
            cases hopk : (as.getD k none').op <;> rw [hopk] at l2 <;> simp only [AOp.againOf, reduceCtorEq, Option.some.injEq] at l2
            case load1 x =>
              subst l2
              have hx := hload x (hsrc x (.inl hopk))
              simp only [evOp] at hres ⊢
              rw [hx] at hres
              split at hres
              · split at hres
                · rename_i hc
                  rw [hc.1, htv hc.2]; rfl
                · cases hres
              · cases hres
            case load n x =>
              subst l2
              have hx := hload x (hsrc x (.inr ⟨n, hopk⟩))
              simp only [evOp] at hres ⊢
              rw [hx] at hres
              split at hres
              · split at hres
                · rename_i hc
                  have h5 := hc.1
                  rw [htv hc.2] at h5
                  obtain ⟨ll, hll, hagg⟩ := opt_map_some h5
                  rw [hll, ← hagg]; rfl
                · cases hres
              · cases hres
        · rename_i hwr
          rw [if_neg hwr]; exact r3
  unfold wpOp
  rw [hoi]
  simp only
  rw [I.wanted_eq S o2 hnD hb hrel hgd, ← wants_wantR]
  unfold evOper at hs1
  by_cases hw : wants s (as.getD e none').guard = true
  · rw [if_pos hw] at hs1 ⊢
    obtain ⟨⟨v, h1⟩, hv, hs2'⟩ := opt_map_some hs1
    left
    refine op_wp hF I.mr I.sub hop hops (fun v => rfl) (fun f => rfl) hv fun cv w' hd => ?_
    obtain ⟨σ', d1, d2, d3, d4⟩ := hd
    exact fin v h1 σ' w' cv hs2'.symm d1 d2 d3 d4
  · rw [if_neg hw] at hs1 ⊢
    simp only [Option.some.injEq] at hs1
    refine fin undef s.h σ w undef hs1.symm ?_ ?_ (.tuple [] [] .nil) (.refl _ _) <;> rw [grow_same I.sub]
    · exact .refl _ _ _ _
    · exact I.mr
end Go.Proofs.YtfbldlgjlgcpoaaDoor.AM

namespace Go.Proofs.YtfbldlgjlgcpoaaDoor.AM
open Go.RowKit

set_option linter.unusedSimpArgs false
set_option linter.unusedVariables false
variable {P : Program} {G N : Nat} {σ : Emb} {g : Mem} {w : World} {h : Heap}

def exitOf : AEx → Exit
  | .normal => .normal
  | .exit id => .exit id
  | .ret => .ret

/-- A region does what its list does. -/
def RegionOk (P : Program) (G : Nat) (ords : List (Nat × List Nat)) (id : Nat) (ops : Array Oper) (d : Bool) : Prop :=
  ∀ (N : Nat) (call : Caller), CallsOk P G N call → ∀ l, normRegion P G (ords.lookup id) ops d = some l → ∀ (σ : Emb) (g : Mem) (w : World) (s s' : St) (a : Act) (Q : Exit → Act → World → Prop),
    MR G N σ g w → Sub g s.h → VRs σ g s.t a.tmps.toList → a.defers = [] → evOps call l s = some s' → (∀ a' w', To G N σ g w s.h s' a' w' → Q .normal a' w') → (Code.region id ops d).wp P Q a w

theorem region_plain (ords : List (Nat × List Nat)) (id : Nat) (ops : Array Oper) : RegionOk P G ords id ops false := by
  intro N call hF l hn σ g w s s' a Q hm hs hv hd he hq
  unfold normRegion at hn
  split at hn
  · cases hn
  · rename_i as has
    simp only [Bool.false_eq_true, if_false, Option.some.injEq] at hn
    subst hn
    refine wp_region ?_
    rw [List.range_eq_range']
    exact plain_ops hF has ops.size 0 σ g w s s' a (by omega) hm hs hv hd (by simpa using he) hq

/-- A code does what its reading does. -/
def CodeOk (P : Program) (G : Nat) (F : Funcs) (n : Nat) : Prop :=
  ∀ (N : Nat) (c : Code) (ords : List (Nat × List Nat)) (ac : ACode), normCode P G ords c = some ac → ∀ (s s' : St) (x : AEx), evC F n ac s = some (x, s') → ∀ (σ : Emb) (g : Mem) (w : World) (a : Act) (Q : Exit → Act → World → Prop),
    MR G N σ g w → Sub g s.h → VRs σ g s.t a.tmps.toList → a.defers = [] → (∀ a' w', To G N σ g w s.h s' a' w' → Q (exitOf x) a' w') → c.wp P Q a w

/-- The rounds of a loop. -/
theorem loop_rounds {F : Funcs} {c : Code} {ords : List (Nat × List Nat)} {ac : ACode} (hn : normCode P G ords c = some ac) (n : Nat) (ih : ∀ m, m ≤ n → CodeOk P G F m) : ∀ m, m ≤ n + 1 →
    ∀ (N : Nat) (s s' : St) (x : AEx), evC F m (.loop ac) s = some (x, s') → ∀ (σ : Emb) (g : Mem) (w : World) (a : Act) (Q : Exit → Act → World → Prop),
    MR G N σ g w → Sub g s.h → VRs σ g s.t a.tmps.toList → a.defers = [] → (∀ a' w', To G N σ g w s.h s' a' w' → Q (exitOf x) a' w') → Code.rounds P c Q m a w := by
  intro m
  induction m with
  | zero => intro _ N s s' x he; simp [evC] at he
  | succ m ihm =>
    intro hle N s s' x he σ g w a Q hm hs hv hd hq
    rw [evC] at he
    rw [rounds_succ]
    cases hx : evC F m ac s with
    | none => rw [hx] at he; cases he
    | some p =>
      obtain ⟨y, s1⟩ := p
      rw [hx] at he
      refine ih m (by omega) N c ords ac hn s s1 y hx σ g w a _ hm hs hv hd fun a' w' hto => ?_
      cases y with
      | normal =>
        obtain ⟨σ1, g1, m1, v1, hh1, d1⟩ := hto
        exact ihm (by omega) N s1 s' x he σ1 _ w' a' Q m1 (grow_sub _ _ _) v1 d1 fun a2 w2 ht => hq a2 w2 (To.trans (a₁ := a') hm hs g1 hh1 ht)
      | exit id => simp only [Option.some.injEq, Prod.mk.injEq] at he; obtain ⟨rfl, rfl⟩ := he; exact hq a' w' hto
      | ret => simp only [Option.some.injEq, Prod.mk.injEq] at he; obtain ⟨rfl, rfl⟩ := he; exact hq a' w' hto

theorem code_step (hreg : ∀ ords id ops, RegionOk P G ords id ops true) (F : Funcs) (n : Nat) (hF : ∀ N, CallsOk P G N (evF F n)) (ihs : ∀ m, m ≤ n → CodeOk P G F m) : CodeOk P G F (n + 1) := by
  have ih := ihs n (Nat.le_refl _)
  intro N c
  intro ords ac hn s s' x he σ g w a Q hm hs hv hd hq
  cases c <;> simp only [normCode, reduceCtorEq] at hn
  case skip =>
    simp only [Option.some.injEq] at hn; subst hn
    simp only [evC, Option.some.injEq, Prod.mk.injEq] at he
    obtain ⟨rfl, rfl⟩ := he
    exact wp_skip (hq _ _ (To.refl hm hs hv hd))
  case region id ops d =>
    obtain ⟨l, hl, rfl⟩ := opt_map_some hn
    simp only [evC] at he
    obtain ⟨s1, h1, h2⟩ := opt_map_some he
    simp only [Prod.mk.injEq] at h2
    obtain ⟨rfl, rfl⟩ := h2
    cases d with
    | false => exact region_plain ords id ops N _ (hF N) l hl σ g w s s1 a Q hm hs hv hd h1 hq
    | true => exact hreg ords id ops N _ (hF N) l hl σ g w s s1 a Q hm hs hv hd h1 hq
  case seq c1 c2 =>
    split at hn
    · rename_i a1 a2 h1 h2
      simp only [Option.some.injEq] at hn; subst hn
      rw [evC] at he
      refine wp_seq ?_
      cases hx : evC F n a1 s with
      | none => rw [hx] at he; cases he
      | some p =>
        obtain ⟨y, s1⟩ := p
        rw [hx] at he
        refine ih N c1 ords a1 h1 s s1 y hx σ g w a _ hm hs hv hd fun a' w' hto => ?_
        cases y with
        | normal =>
          obtain ⟨σ1, g1, m1, v1, hh1, d1⟩ := hto
          show c2.wp P Q a' w'
          exact ih N c2 ords a2 h2 s1 s' x he σ1 _ w' a' Q m1 (grow_sub _ _ _) v1 d1 fun a2 w2 ht => hq a2 w2 (To.trans (a₁ := a') hm hs g1 hh1 ht)
        | exit id => simp only [Option.some.injEq, Prod.mk.injEq] at he; obtain ⟨rfl, rfl⟩ := he; exact hq a' w' hto
        | ret => simp only [Option.some.injEq, Prod.mk.injEq] at he; obtain ⟨rfl, rfl⟩ := he; exact hq a' w' hto
    · cases hn
  case cond o c1 c2 =>
    split at hn
    · rename_i a1 a2 h1 h2
      by_cases hok : operandOk G o = true
      case neg => rw [if_neg hok] at hn; cases hn
      rw [if_pos hok] at hn
      simp only [Option.some.injEq] at hn; subst hn
      rw [evC] at he
      have hov := eval_VR hm hv (x := o) hok
      split at he
      · rename_i ho
        rw [ho] at hov
        exact wp_cond_true hov.bool_inv (ih N c1 ords a1 h1 s s' x he σ g w a Q hm hs hv hd hq)
      · rename_i ho
        rw [ho] at hov
        exact wp_cond_false hov.bool_inv (ih N c2 ords a2 h2 s s' x he σ g w a Q hm hs hv hd hq)
      · cases he
    · cases hn
  case block id c1 =>
    obtain ⟨a1, h1, rfl⟩ := opt_map_some hn
    rw [evC] at he
    refine wp_block ?_
    cases hx : evC F n a1 s with
    | none => rw [hx] at he; cases he
    | some p =>
      obtain ⟨y, s1⟩ := p
      rw [hx] at he
      refine ih N c1 ords a1 h1 s s1 y hx σ g w a _ hm hs hv hd fun a' w' hto => ?_
      cases y with
      | normal => simp only [Option.some.injEq, Prod.mk.injEq] at he; obtain ⟨rfl, rfl⟩ := he; exact hq a' w' hto
      | ret => simp only [Option.some.injEq, Prod.mk.injEq] at he; obtain ⟨rfl, rfl⟩ := he; exact hq a' w' hto
      | exit j =>
        simp only [Option.some.injEq, Prod.mk.injEq] at he
        obtain ⟨rfl, rfl⟩ := he
        have h2 := hq a' w' hto
        show (if j = id then Q .normal a' w' else Q (.exit j) a' w')
        by_cases hj : j = id
        · rw [if_pos hj] at h2 ⊢; exact h2
        · rw [if_neg hj] at h2 ⊢; exact h2
  case loop c1 =>
    obtain ⟨a1, h1, rfl⟩ := opt_map_some hn
    rw [evC] at he
    exact wp_loop_rounds (n + 1) (loop_rounds h1 n ihs (n + 1) (Nat.le_refl _) N s s' x (by rw [evC]; exact he) σ g w a Q hm hs hv hd hq)
  case exit id =>
    simp only [Option.some.injEq] at hn; subst hn
    simp only [evC, Option.some.injEq, Prod.mk.injEq] at he
    obtain ⟨rfl, rfl⟩ := he
    exact wp_exit (hq _ _ (To.refl hm hs hv hd))
  case ret =>
    simp only [Option.some.injEq] at hn; subst hn
    simp only [evC, Option.some.injEq, Prod.mk.injEq] at he
    obtain ⟨rfl, rfl⟩ := he
    exact wp_ret (hq _ _ (To.refl hm hs hv hd))
end Go.Proofs.YtfbldlgjlgcpoaaDoor.AM

namespace Go.Proofs.YtfbldlgjlgcpoaaDoor.AM
open Go.RowKit

set_option linter.unusedSimpArgs false
set_option linter.unusedVariables false
variable {call : Caller} {P : Program} {G N : Nat} {ops : Array Oper} {as : List AOper} {s0 : St} {σ0 : Emb} {g0 : Mem} {w0 : World} {D : Nat → Prop} {pre rest : List Nat} {seen : Nat} {s sfin : St} {val : Nat → Value} {hole : Nat → Option Nat}
  {σ : Emb} {g : Mem} {w : World} {a : Act}

theorem count_lt {p q : Nat → Bool} : ∀ {l : List Nat} {i : Nat}, i ∈ l → (∀ x, q x = true → p x = true) → p i = true → q i = false → (l.filter q).length < (l.filter p).length
  | x :: l, i, hi, hqp, hp, hq => by
    have hle : ∀ l : List Nat, (l.filter q).length ≤ (l.filter p).length := by
      intro l
      induction l with
      | nil => simp
      | cons y l ih =>
        cases hqy : q y with
        | true => rw [List.filter_cons_of_pos hqy, List.filter_cons_of_pos (hqp y hqy)]; simpa using ih
        | false =>
          rw [List.filter_cons_of_neg (by simp [hqy])]
          cases hpy : p y with
          | true => rw [List.filter_cons_of_pos hpy]; simp only [List.length_cons]; omega
          | false => rw [List.filter_cons_of_neg (by simp [hpy])]; exact ih
    rcases List.mem_cons.1 hi with rfl | hi
    · rw [List.filter_cons_of_pos hp, List.filter_cons_of_neg (by simp [hq])]
      have := hle l
      simp only [List.length_cons]; omega
    · have ih := count_lt hi hqp hp hq
      cases hqx : q x with
      | true => rw [List.filter_cons_of_pos hqx, List.filter_cons_of_pos (hqp x hqx)]; simpa using ih
      | false =>
        rw [List.filter_cons_of_neg (by simp [hqx])]
        cases hpx : p x with
        | true => rw [List.filter_cons_of_pos hpx]; simp only [List.length_cons]; omega
        | false => rw [List.filter_cons_of_neg (by simp [hpx])]; exact ih

theorem order_all {b : List Nat} : ∀ (rest : List Nat) (seen : Nat), orderOk as b rest seen = true → (∀ i, seen.testBit i = true → D i) → (∀ i, i < as.length → (∀ j, bits b i j = true → D j) → D i) → ∀ i ∈ rest, D i
  | [], seen, h, hs, hr, i, hi => by simp at hi
  | k :: r, seen, h, hs, hr, i, hi => by
    obtain ⟨o1, o2, o3, o4, o5⟩ := orderOk_cons h
    have hk : D k := hr k o2 fun j hj => hs j (o3 j hj)
    rcases List.mem_cons.1 hi with rfl | hi
    · exact hk
    · refine order_all r _ o5 (fun j hj => ?_) hr i hi
      rcases testBit_or_two.1 hj with h | rfl
      · exact hs j h
      · exact hk

/-- The statement's end. -/
theorem Inv.done (S : Stat P G ops as) (I : Inv call P G N ops as s0 σ0 g0 w0 D pre rest seen s sfin val hole σ g w a) (hall : ∀ i, i < as.length → D i) : To G N σ0 g0 w0 s0.h sfin a w := by
  have hrest : rest = [] := by
    cases rest with
    | nil => rfl
    | cons e r =>
      obtain ⟨o1, o2, _⟩ := orderOk_cons I.order
      have := (I.marks e).2 (I.inD e (hall e o2))
      rw [this] at o1; cases o1
  subst hrest
  obtain ⟨m, hm, hev⟩ := I.weaved
  simp only [weave, Option.some.injEq] at hm
  subst hm
  simp only [evOps, Option.some.injEq] at hev
  subst hev
  have hg : g = grow g0 s0.h s.h := by
    funext j
    rcases I.grows j with h | ⟨_, k, hk, hDk, _⟩
    · exact h
    · exact absurd (hall k (I.lt k hk)) hDk
  refine ⟨σ, ?_, ?_, ?_, I.holes, I.dfr⟩ <;> rw [← hg]
  · exact I.go
  · exact I.mr
  · refine .of_get (by rw [I.ssz]; simp [I.asz]) fun t u c hu hc => ?_
    have hlt : t < s0.t.length := by rw [← I.ssz]; exact (List.getElem?_eq_some_iff.1 hu).1
    have e1 : s.t.getD t undef = u := by rw [List.getD_eq_getElem?_getD, hu]; rfl
    have e2 : a.tmps.getD t undef = c := by
      rw [Array.getD_eq_getD_getElem?]
      have : a.tmps[t]? = some c := by simpa using hc
      rw [this]; rfl
    rw [← e1, ← e2]
    by_cases hk : ∃ k, k < as.length ∧ (as.getD k none').dst = some t
    · obtain ⟨k, hkl, hd⟩ := hk
      rw [(I.tmpC t).1 k (I.inD k (hall k hkl)) hd hlt]
      exact (I.tmpD t hlt).1 k (hall k hkl) hd
    · rw [(I.tmpC t).2 fun k hk' hd => hk ⟨k, I.lt k hk', hd⟩]
      exact (I.tmpD t hlt).2 fun k hDk hd => hk ⟨k, I.lt k (I.inD k hDk), hd⟩

theorem listed_set {listed : Array Bool} {i : Nat} (hi : i < listed.size) : (fun j => (listed.setIfInBounds i true).getD j false = true) = fun j => listed.getD j false = true ∨ j = i := by
  funext j
  apply propext
  rw [Array.getD_eq_getD_getElem?, Array.getElem?_setIfInBounds, Array.getD_eq_getD_getElem?]
  by_cases h : i = j
  · subst h; rw [if_pos rfl, if_pos hi]; simp
  · rw [if_neg h]
    exact ⟨.inl, fun q => q.resolve_right fun e => h e.symm⟩

theorem ready_iff {listed : Array Bool} (hsz : listed.size = ops.size) {i : Nat} : i ∈ Region.ready .any ops listed ↔ ∃ o, ops[i]? = some o ∧ ¬ listed.getD i false = true ∧ ∀ e ∈ o.after, Region.binds .any e = true → listed.getD e.on false = true := by
  unfold Region.ready
  rw [List.mem_filter, List.mem_range]
  constructor
  · rintro ⟨hlt, h⟩
    rw [Bool.and_eq_true] at h
    obtain ⟨h1, h2⟩ := h
    have hl : i < listed.size := by omega
    refine ⟨ops[i], by simp [hlt], ?_, ?_⟩
    · rw [Array.getD_eq_getD_getElem?] at h1 ⊢
      simp [hl] at h1 ⊢
      exact h1
    · have he1 : ops[i]? = some ops[i] := by simp [hlt]
      rw [he1] at h2
      simp only [Option.map_some, Option.getD_some] at h2
      intro e he hb
      have := Array.all_eq_true'.1 h2 e he
      rw [hb] at this
      simpa using this
  · rintro ⟨o, ho, h1, h2⟩
    have hlt : i < ops.size := (Array.getElem?_eq_some_iff.1 ho).1
    have hl : i < listed.size := by omega
    refine ⟨hlt, ?_⟩
    rw [Bool.and_eq_true]
    constructor
    · rw [Array.getD_eq_getD_getElem?] at h1 ⊢
      simp [hl] at h1 ⊢
      exact h1
    · rw [ho]
      simp only [Option.map_some, Option.getD_some]
      rw [Array.all_eq_true_iff_forall_mem]
      intro e he
      cases hb : Region.binds .any e with
      | false => rfl
      | true => rw [h2 e he hb]; rfl

theorem any_order (S : Stat P G ops as) (hF : CallsOk P G N call) {ord : List Nat} (hord : orderOk as (Region.before ops).toList ord 0 = true) (hcov : ∀ i, i < as.length → i ∈ ord) {Q : Exit → Act → World → Prop} (hQ : ∀ a' w', To G N σ0 g0 w0 s0.h sfin a' w' → Q .normal a' w') :
    ∀ (fuel : Nat) (listed : Array Bool) (pre rest : List Nat) (seen : Nat) (s : St) (val : Nat → Value) (hole : Nat → Option Nat) (σ : Emb) (g : Mem) (w : World) (a : Act), listed.size = ops.size →
      ((List.range as.length).filter fun i => !listed.getD i false).length ≤ fuel → Inv call P G N ops as s0 σ0 g0 w0 (fun i => listed.getD i false = true) pre rest seen s sfin val hole σ g w a → (rest = [] ∨ ∃ e r, rest = e :: r ∧ (as.getD e none').op.acts = true) →
      wpAny P .any ops Q fuel listed a w := by
  have allD : ∀ (listed : Array Bool), listed.size = ops.size → Region.ready .any ops listed = [] → ∀ i, i < as.length → listed.getD i false = true := by
    intro listed hsz hr i hi
    refine order_all (D := fun i => listed.getD i false = true) ord 0 hord (fun j hj => by simp at hj) (fun k hk hb => ?_) i (hcov i hi)
    by_cases hk' : listed.getD k false = true
    · exact hk'
    · exfalso
      obtain ⟨o, ho, _⟩ := S.oper hk
      have : k ∈ Region.ready .any ops listed := (ready_iff hsz).2 ⟨o, ho, hk', fun e he hbe => hb _ ((before_spec ho).1 e he hbe)⟩
      rw [hr] at this; simp at this
  intro fuel
  induction fuel with
  | zero =>
    intro listed pre rest seen s val hole σ g w a hsz hc I hh
    have hall : ∀ i, i < as.length → listed.getD i false = true := by
      intro i hi
      have h0 : ((List.range as.length).filter fun i => !listed.getD i false) = [] := List.length_eq_zero_iff.1 (by omega)
      have := List.filter_eq_nil_iff.1 h0 i (List.mem_range.2 hi)
      simpa using this
    refine ⟨?_, hQ _ _ (I.done S hall)⟩
    cases hr : Region.ready .any ops listed with
    | nil => rfl
    | cons i r =>
      have hi : i ∈ Region.ready .any ops listed := by rw [hr]; simp
      obtain ⟨o, ho, h1, _⟩ := (ready_iff hsz).1 hi
      exact absurd (hall i (by rw [S.len]; exact (Array.getElem?_eq_some_iff.1 ho).1)) h1
  | succ fuel ih =>
    intro listed pre rest seen s val hole σ g w a hsz hc I hh
    refine ⟨fun hr => hQ _ _ (I.done S (allD listed hsz hr)), fun i hi => ?_⟩
    obtain ⟨o, ho, hnD, hedges⟩ := (ready_iff hsz).1 hi
    have hin : i < as.length := by rw [S.len]; exact (Array.getElem?_eq_some_iff.1 ho).1
    have hls : i < listed.size := by rw [hsz]; exact (Array.getElem?_eq_some_iff.1 ho).1
    have hb : ∀ j, bits (Region.before ops).toList i j = true → listed.getD j false = true := by
      intro j hj
      obtain ⟨e, he, hbe, h⟩ := (before_spec ho).2 j hj
      rcases h with rfl | h
      · exact hedges e he hbe
      · exact I.closed _ _ (hedges e he hbe) h
    have hcount : ((List.range as.length).filter fun k => !(listed.setIfInBounds i true).getD k false).length ≤ fuel := by
      have := count_lt (p := fun k => !listed.getD k false) (q := fun k => !(listed.setIfInBounds i true).getD k false) (List.mem_range.2 hin) (fun x hx => by
        cases hq : listed.getD x false with
        | false => rfl
        | true =>
          have h2 : (listed.setIfInBounds i true).getD x false = true := by
            have := congrFun (listed_set hls) x
            rw [this]; exact .inl hq
          rw [h2] at hx; cases hx) (by simpa using hnD) (by
        have h2 : (listed.setIfInBounds i true).getD i false = true := by
          have := congrFun (listed_set hls) i
          rw [this]; exact .inr rfl
        rw [h2]; rfl)
      omega
    have hset := listed_set hls
    by_cases hacts : (as.getD i none').op.acts = true
    · -- it is the next one
      have hip : i ∉ pre := fun h => hnD (I.actD i h hacts)
      have hir : i ∈ rest := (I.all i hin).resolve_left hip
      rcases hh with rfl | ⟨e, r, rfl, he⟩
      · simp at hir
      · obtain ⟨o1, o2, o3, o4, o5⟩ := orderOk_cons I.order
        have hie : i = e := by
          rcases o4 he i hin with h | h | h
          · exact absurd ((I.marks i).1 h) hip
          · exact h
          · have := (I.marks e).2 (I.inD e (hb e h)); rw [this] at o1; cases o1
        subst hie
        refine I.step_act S hF hacts hb fun s' val' σ' g' w' a' I' => ?_
        rw [← hset] at I'
        obtain ⟨pre2, rest2, seen2, s2, val2, hole2, I2, hh2⟩ := Inv.advance S _ _ _ _ _ _ I'
        exact ih _ pre2 rest2 seen2 s2 val2 hole2 σ' g' w' a' (by simpa using hsz) hcount I2 hh2
    · have hip : i ∈ pre := by
        rcases I.all i hin with h | h
        · exact h
        · exfalso
          rcases hh with rfl | ⟨e, r, rfl, he⟩
          · simp at h
          · obtain ⟨o1, o2, o3, o4, o5⟩ := orderOk_cons I.order
            have hne : i ≠ e := by rintro rfl; exact hacts he
            rcases o4 he i hin with h1 | h1 | h1
            · exact hnD ((by
                have hpi := (I.marks i).1 h1
                -- it is in the prefix already
                exact absurd hpi (by
                  intro hpi
                  have hrp : i ∈ e :: r := h
                  have hmem : ∀ (l : List Nat) (sn : Nat), orderOk as (Region.before ops).toList l sn = true → ∀ x ∈ l, sn.testBit x = false := by
                    intro l
                    induction l with
                    | nil => intro sn _ x hx; simp at hx
                    | cons y l ihl =>
                      intro sn hsn x hx
                      obtain ⟨p1, p2, p3, p4, p5⟩ := orderOk_cons hsn
                      rcases List.mem_cons.1 hx with rfl | hx
                      · exact p1
                      · have := ihl _ p5 x hx
                        cases hq : sn.testBit x with
                        | false => rfl
                        | true => rw [testBit_or_two.2 (.inl hq)] at this; cases this
                  have := hmem _ _ I.order i hrp
                  rw [h1] at this; cases this)))
            · exact hne h1
            · have := (I.marks e).2 (I.inD e (hb e h1)); rw [this] at o1; cases o1
      refine I.step_pend S hip hnD hb fun σ' g' w' a' I' => ?_
      rw [← hset] at I'
      exact ih _ pre rest seen s val hole σ' g' w' a' (by simpa using hsz) hcount I' hh

/-- A statement whose order is open. -/
theorem region_draw (hm : P.follows .mixedOrders = true) (ords : List (Nat × List Nat)) (id : Nat) (ops : Array Oper) : RegionOk P G ords id ops true := by
  intro N call hF l hn σ g w s s' a Q hmr hs hv hd he hq
  unfold normRegion at hn
  split at hn
  · cases hn
  · rename_i as has
    simp only [if_true] at hn
    split at hn
    · rename_i hcond
      simp only [Bool.and_eq_true, beq_iff_eq] at hcond
      obtain ⟨⟨⟨hp, hg⟩, hlen⟩, hord⟩ := hcond
      have S : Stat P G ops as := ⟨has, hp, hg⟩
      let ord := (ords.lookup id).getD (List.range as.length)
      have hord : orderOk as (Region.before ops).toList ord 0 = true := hord
      have hn : weave ops.toList as (Region.before ops).toList ord [] = some l := hn
      -- the order has all
      have hcov : ∀ i, i < as.length → i ∈ ord := by
        intro i hi
        have := List.all_eq_true.1 hlen i (List.mem_range.2 hi)
        simpa using this
      refine wp_region_any hm ?_
      have hmr' : MR G N σ g { w with drawn := w.drawn + 1 } := hmr.drew
      have hgo : Go N σ g w σ g { w with drawn := w.drawn + 1 } := ⟨.refl _ _, Nat.le_refl _, rfl, rfl, rfl, fun _ _ _ => rfl, fun _ h => .inl h⟩
      have hnl : ∀ i, ¬ (Array.replicate ops.size false).getD i false = true := by
        intro i
        rw [Array.getD_eq_getD_getElem?, Array.getElem?_replicate]
        split <;> simp
      have I0 : Inv call P G N ops as s σ g w (fun i => (Array.replicate ops.size false).getD i false = true) [] ord 0 s s' (fun _ => undef) (fun _ => none) σ g { w with drawn := w.drawn + 1 } a := by
        refine ⟨by rw [hv.length]; simp, rfl, hd, hmr', hs, hgo, .refl _ _, fun i => .inl (by rw [grow_same hs]), fun i hi => by simp at hi, fun i hi => absurd hi (hnl i), fun i j hi => absurd hi (hnl i), fun i hi => .inr (hcov i hi), fun i hi => by simp at hi,
          fun i => by simp, fun i hi => by simp at hi, hord, ⟨l, hn, he⟩, fun i hi => by simp at hi, fun t ht => ⟨fun k hk => absurd hk (hnl k), fun _ => ?_⟩, fun t => ⟨fun k hk => by simp at hk, fun _ => rfl⟩, fun i hi => by simp at hi⟩
        have := hv.getD t
        rw [show a.tmps.getD t undef = a.tmps.toList.getD t undef from by simp [Array.getD_eq_getD_getElem?, List.getD_eq_getElem?_getD]]
        exact this
      obtain ⟨pre2, rest2, seen2, s2, val2, hole2, I2, hh2⟩ := Inv.advance S _ _ _ _ _ _ I0
      exact any_order S hF hord hcov hq ops.size _ pre2 rest2 seen2 s2 val2 hole2 σ g _ a (by simp) (by
        refine Nat.le_trans (List.length_filter_le _ _) ?_
        rw [List.length_range, S.len]; exact Nat.le_refl _) I2 hh2
    · cases hn
end Go.Proofs.YtfbldlgjlgcpoaaDoor.AM

namespace Go.Proofs.YtfbldlgjlgcpoaaDoor.AM
open Go.RowKit

set_option linter.unusedSimpArgs false
set_option linter.unusedVariables false
variable {P : Program} {G N : Nat} {σ : Emb} {g : Mem} {w : World} {h : Heap}

mutual
/-- A value that read as one in the elder memory, and reads as another now, reads so in what is left. -/
theorem VR.back {σ' : Emb} {g' g2 : Mem} (hsame : ∀ i o, g i = some o → g2 i = some o ∧ g' i = some o) {u c c' : Value} : VR σ g u c → VR σ' g' u c' → VR σ' g2 u c'
  | .bool b, .bool _ => .bool b
  | .int k n, .int _ _ => .int k n
  | .float k n, .float _ _ => .float k n
  | .complex k n m, .complex _ _ _ => .complex k n m
  | .string s, .string _ => .string s
  | .nilPtr, .nilPtr => .nilPtr
  | .ptr p q v vals ver ro hv hg hle hq, .ptr _ q' v' vals' ver' ro' hv' hg' hle' hq' => by
    obtain ⟨h2, h1⟩ := hsame _ _ hg
    rw [h1] at hg'; cases hg'
    exact .ptr p q' v' vals ver ro hv' h2 hle' hq'
  | .nilSlice, .nilSlice => .nilSlice
  | .slice p q n c cap v vals ver ro hv hg hle hn hq, .slice _ q' _ _ cap' v' vals' ver' ro' hv' hg' hle' hn' hq' => by
    obtain ⟨h2, h1⟩ := hsame _ _ hg
    rw [h1] at hg'; cases hg'
    exact .slice p q' n c cap' v' vals ver ro hv' h2 hle' hn' hq'
  | .nilMap, .nilMap => .nilMap
  | .map r s es hg hs, .map _ s' es' hg' hs' => by
    obtain ⟨h2, h1⟩ := hsame _ _ hg
    rw [h1] at hg'; cases hg'
    exact .map r s' es h2 hs'
  | .nilChan, .nilChan => .nilChan
  | .any k _, .any _ q' => .any k q'
  | .func fn xs ys us vs h h', .func _ _ ys' _ vs' k k' => .func fn xs ys' us vs' (VRs.back hsame h k) (VRs.back hsame h' k')
  | .nilFunc, .nilFunc => .nilFunc
  | .iface t u c h, .iface _ _ c' k => .iface t u c' (VR.back hsame h k)
  | .nilIface, .nilIface => .nilIface
  | .agg xs ys h h1, .agg _ ys' k k1 => .agg xs ys' (VRs.back hsame h k) h1
  | .tuple xs ys h, .tuple _ ys' k => .tuple xs ys' (VRs.back hsame h k)
theorem VRs.back {σ' : Emb} {g' g2 : Mem} (hsame : ∀ i o, g i = some o → g2 i = some o ∧ g' i = some o) {us cs cs' : List Value} : VRs σ g us cs → VRs σ' g' us cs' → VRs σ' g2 us cs'
  | .nil, .nil => .nil
  | .cons u c us cs h hs, .cons _ c' _ cs' k ks => .cons u c' us cs' (VR.back hsame h k) (VRs.back hsame hs ks)
end
theorem EntriesR.back {σ' : Emb} {g' g2 : Mem} (hsame : ∀ i o, g i = some o → g2 i = some o ∧ g' i = some o) {es : List (Value × Value)} {ms ms' : List MapEntry} (h : EntriesR σ g es ms) (h' : EntriesR σ' g' es ms') : EntriesR σ' g2 es ms' := by
  induction h generalizing ms' with
  | nil => cases h'; exact .nil
  | cons e m es ms he _ ih =>
    cases h' with
    | cons _ m' _ ms' he' hs' => exact .cons _ _ _ _ ⟨he'.key, he'.plain, he.val.back hsame he'.val⟩ (ih hs')

/-- The memory of a call that leaves the elder one as it was, and answers a flat value, is the elder one. -/
theorem finish_done (hm : MR G N σ g w) (hs : Sub g h) {v cv : Value} {h' : Heap} {w' : World} (hd : Done G N σ g w h v h' cv w') (hf : flat v = true) (hp : h'.take h.length = h) : Done G N σ g w h v h cv w' := by
  obtain ⟨σ', hgo, hm', hv, hh⟩ := hd
  have hcv : cv = v := by
    have key1 : ∀ {σ : Emb} {g : Mem} {u c : Value}, plain1 u = true → VR σ g u c → c = u := by
      intro σ g u c hu hr
      cases hr <;> first | rfl | simp [plain1] at hu
    have keys : ∀ {σ : Emb} {g : Mem} (us cs : List Value), us.all plain1 = true → VRs σ g us cs → cs = us := by
      intro σ g us
      induction us with
      | nil => intro cs _ hr; cases hr; rfl
      | cons u us ih =>
        intro cs hu hr
        cases hr with
        | cons _ c _ cs h hs =>
          simp only [List.all_cons, Bool.and_eq_true] at hu
          rw [key1 hu.1 h, ih _ hu.2 hs]
    have key2 : ∀ {σ : Emb} {g : Mem} {u c : Value}, plain u = true → VR σ g u c → c = u := by
      intro σ g u c hu hr
      unfold plain at hu
      split at hu
      · rename_i cs
        cases hr with
        | agg xs ys h h1 => rw [keys _ _ hu h]
      · exact key1 hu hr
    have keys2 : ∀ {σ : Emb} {g : Mem} (us cs : List Value), us.all plain = true → VRs σ g us cs → cs = us := by
      intro σ g us
      induction us with
      | nil => intro cs _ hr; cases hr; rfl
      | cons u us ih =>
        intro cs hu hr
        cases hr with
        | cons _ c _ cs h hs =>
          simp only [List.all_cons, Bool.and_eq_true] at hu
          rw [key2 hu.1 h, ih _ hu.2 hs]
    unfold flat at hf
    split at hf
    · rename_i cs
      cases hv with
      | tuple xs ys h => rw [keys2 _ _ hf h]
    · exact key2 hf hv
  subst hcv
  -- what was there is there, as it was
  have hsame : ∀ i o, g i = some o → g i = some o ∧ grow g h h' i = some o := by
    intro i o hi
    refine ⟨hi, ?_⟩
    have hlt : i < h.length := (List.getElem?_eq_some_iff.1 (hs _ _ hi)).1
    unfold grow
    rw [if_pos hlt, hi]
    simp only
    have : h'[i]? = (h'.take h.length)[i]? := by rw [List.getElem?_take, if_pos hlt]
    rw [this, hp]; exact hs _ _ hi
  have hseat : ∀ i o, g i = some o → o ≠ .gone → σ' i = σ i := by
    intro i o hi hng
    have h2 := (hsame i o hi).2
    cases o with
    | cells vals ver ro =>
      obtain ⟨vals', ver', h3, _, h5⟩ := hgo.ext.cells _ _ _ _ hi
      rw [h2] at h3; cases h3
      exact h5 rfl
    | map es =>
      obtain ⟨es', h3, h4⟩ := hgo.ext.map _ _ hi
      exact h4
    | gone => exact absurd rfl hng
  have hng : ∀ i o, g i = some o → o ≠ .gone := by
    rintro i o hi rfl
    exact hm.noGone i hi
  have hext : Ext σ' g σ g := by
    constructor
    · intro i vals ver ro hi; exact ⟨vals, ver, hi, Nat.le_refl _, fun _ => (hseat i _ hi (hng i _ hi)).symm⟩
    · intro i es hi; exact ⟨es, hi, (hseat i _ hi (hng i _ hi)).symm⟩
  refine ⟨σ, ?_, ?_, .flat hf, .refl _ _⟩ <;> rw [grow_same hs]
  · refine ⟨.refl _ _, hgo.size, hgo.os, hgo.tape, hgo.output, hgo.rest, fun b hb => .inl hb⟩
  · refine ⟨fun i o hi => ?_, hm.inj, hm.glob, Nat.le_trans hm.size hgo.size⟩
    have h1 := hm'.obj i o (hsame i o hi).2
    have h0 := hm.obj i o hi
    rw [hseat i o hi (hng i o hi)] at h1
    cases h1 with
    | own vals cs ver el hb h00 hw hsz hv hl h1 =>
      cases h0 with
      | own _ cs0 _ el0 hb0 h000 hw0 hs0 hv0 hl0 h10 => exact .own vals cs ver el hb h00 hw hsz ((hv0.back hsame hv).ext hext) hl h1
    | ro vals hb hv h1 =>
      cases h0 with
      | ro _ hb0 hv0 h10 =>
        refine .ro vals hb (fun j u hu => ?_) h1
        obtain ⟨c, hc, hvr⟩ := hv j u hu
        obtain ⟨c0, _, hvr0⟩ := hv0 j u hu
        exact ⟨c, hc, (hvr0.back hsame hvr).ext hext⟩
    | map es ms clock hb hw he =>
      cases h0 with
      | map _ ms0 clock0 hb0 hw0 he0 => exact .map es ms clock hb hw ((he0.back hsame he).ext hext)

/-- One result. -/
def resOne (tm : Array Value) : ResultVar → Sem Value
  | .tmp i => pure (tm.getD i undef)
  | .cell a ty => do loadVar ty (← asAddr (tm.getD a undef))
theorem results_eq (fn : Func) (tm : Array Value) : results fn tm = (do
    let vs ← fn.results.mapM (resOne tm)
    pure (if h : vs.size = 1 then vs[0] else .tuple vs)) := by
  unfold results
  congr 1
/-- The results of a function. -/
theorem results_run (hm : MR G N σ g w) (hs : Sub g h) {fn : Func} {rs : List ARes} (hn : normRes P fn.results.toList = some rs) {t : List Value} {tm : Array Value} (hv : VRs σ g t tm.toList) {v : Value} (he : aResults ⟨t, h⟩ rs = some v) :
    ∃ cv, (results fn tm).run P w = .ok cv w ∧ VR σ g v cv := by
  have tmp : ∀ i, VR σ g (t.getD i undef) (tm.getD i undef) := by
    intro i
    have := hv.getD i
    rw [show tm.getD i undef = tm.toList.getD i undef from by simp [Array.getD_eq_getD_getElem?, List.getD_eq_getElem?_getD]]
    exact this
  have one : ∀ (r : ResultVar) (a : ARes) (u : Value), normRes P [r] = some [a] → aRes ⟨t, h⟩ a = some u →
      ∃ cu, (resOne tm r).run P w = .ok cu w ∧ VR σ g u cu := by
    intro r a u hr ha
    cases r with
    | tmp i =>
      simp only [normRes, Option.map_some, Option.some.injEq, List.cons.injEq, and_true] at hr
      subst hr
      simp only [aRes, Option.some.injEq] at ha
      subst ha
      exact ⟨_, rfl, tmp i⟩
    | cell x ty =>
      have hx := tmp x
      unfold normRes at hr
      cases hag : aggT P ty with
      | none => rw [hag] at hr; simp [normRes] at hr
      | some b =>
        cases hz : sizeT P ty with
        | none => rw [hag, hz] at hr; cases b <;> simp [normRes] at hr
        | some n =>
          rw [hag, hz] at hr
          cases b <;> simp only [normRes, Option.some.injEq, List.cons.injEq, and_true] at hr <;> subst hr <;> simp only [aRes] at ha <;> split at ha <;> (try cases ha)
          · rename_i p hp
            rw [hp] at hx
            obtain ⟨q, hq⟩ := hx.ptr_inv
            obtain ⟨cv, hrun, hvr⟩ := load1_sound (P := P) hm hs hag hx ha
            refine ⟨cv, ?_, hvr⟩
            rw [hq] at hrun
            simp only [resOne]
            rw [hq]
            simpa [Instr.loadAt, Instr.sureAddr, asAddr] using hrun
          · rename_i p hp
            rw [hp] at hx
            obtain ⟨q, hq⟩ := hx.ptr_inv
            obtain ⟨l, hl, rfl⟩ := opt_map_some ha
            obtain ⟨cv, hrun, hvr⟩ := load_sound (P := P) hm hs hag hz hx hl
            refine ⟨cv, ?_, hvr⟩
            rw [hq] at hrun
            simp only [resOne]
            rw [hq]
            simpa [Instr.loadAt, Instr.sureAddr, asAddr] using hrun
  have many : ∀ (l : List ResultVar) (as : List ARes) (us : List Value), normRes P l = some as → as.mapM (aRes ⟨t, h⟩) = some us →
      ∃ cus, (l.mapM (resOne tm) : Sem (List Value)).run P w = .ok cus w ∧ VRs σ g us cus := by
    intro l
    induction l with
    | nil =>
      intro as us hl hus
      simp only [normRes, Option.some.injEq] at hl; subst hl
      simp at hus; subst hus
      exact ⟨[], rfl, .nil⟩
    | cons r l ih =>
      intro as us hl hus
      obtain ⟨a, as', rfl, h1, h2⟩ : ∃ a as', as = a :: as' ∧ normRes P [r] = some [a] ∧ normRes P l = some as' := by
        cases r with
        | tmp i =>
          simp only [normRes] at hl
          obtain ⟨as', h1, rfl⟩ := opt_map_some hl
          exact ⟨_, _, rfl, rfl, h1⟩
        | cell x ty =>
          unfold normRes at hl
          split at hl
          · rename_i n as' h1 h2 h3
            simp only [Option.some.injEq] at hl; subst hl
            exact ⟨_, _, rfl, by simp [normRes, h1, h2], h3⟩
          · rename_i n as' h1 h2 h3
            simp only [Option.some.injEq] at hl; subst hl
            exact ⟨_, _, rfl, by simp [normRes, h1, h2], h3⟩
          · cases hl
      rw [List.mapM_cons] at hus
      simp only [bind, Option.bind_eq_some_iff, pure, Option.some.injEq] at hus
      obtain ⟨u, hu, us', hus', rfl⟩ := hus
      obtain ⟨cu, hrun, hvr⟩ := one r a u h1 hu
      obtain ⟨cus, hruns, hvrs⟩ := ih as' us' h2 hus'
      refine ⟨cu :: cus, ?_, .cons _ _ _ _ hvr hvrs⟩
      rw [List.mapM_cons]
      simp only [Sem.run_bind, hrun, Result.andThen_ok, hruns, Sem.run_pure]
  have hlen : ∀ (l : List ResultVar) (as : List ARes), normRes P l = some as → as.length = l.length := by
    intro l
    induction l with
    | nil => intro as h; simp only [normRes, Option.some.injEq] at h; subst h; rfl
    | cons r l ih =>
      intro as h
      cases r with
      | tmp i => simp only [normRes] at h; obtain ⟨as', h1, rfl⟩ := opt_map_some h; simp [ih _ h1]
      | cell x ty =>
        unfold normRes at h
        split at h
        · rename_i h3; simp only [Option.some.injEq] at h; subst h; simp [ih _ h3]
        · rename_i h3; simp only [Option.some.injEq] at h; subst h; simp [ih _ h3]
        · cases h
  have hvs : ∃ us cus, rs.mapM (aRes ⟨t, h⟩) = some us ∧ (fn.results.toList.mapM (resOne tm) : Sem (List Value)).run P w = .ok cus w ∧
      VRs σ g us cus ∧ v = (if us.length = 1 then us.getD 0 undef else tup us) ∧ us.length = rs.length := by
    unfold aResults at he
    split at he
    · rename_i r
      have hus : [r].mapM (aRes ⟨t, h⟩) = some [v] := by simp [he]
      obtain ⟨cus, h1, h2⟩ := many _ _ _ hn hus
      exact ⟨[v], cus, hus, h1, h2, by simp, rfl⟩
    · rename_i hne
      obtain ⟨us, hus, rfl⟩ := opt_map_some he
      obtain ⟨cus, h1, h2⟩ := many _ _ _ hn hus
      have hl : us.length = rs.length := by
        have : ∀ (rs : List ARes) (us : List Value), rs.mapM (aRes ⟨t, h⟩) = some us → us.length = rs.length := by
          intro rs
          induction rs with
          | nil => intro us h; simp at h; subst h; rfl
          | cons r rs ih =>
            intro us h
            rw [List.mapM_cons] at h
            simp only [bind, Option.bind_eq_some_iff, pure, Option.some.injEq] at h
            obtain ⟨u, _, us', hus', rfl⟩ := h
            simp [ih _ hus']
        exact this _ _ hus
      refine ⟨us, cus, hus, h1, h2, ?_, hl⟩
      rw [if_neg]
      rw [hl]
      intro h1'
      obtain ⟨r, hr⟩ := List.length_eq_one_iff.1 h1'
      exact hne r hr
  obtain ⟨us, cus, _, hrun, hvrs, rfl, _⟩ := hvs
  have hcl := hvrs.length
  refine ⟨if cus.length = 1 then cus.getD 0 undef else .tuple ⟨cus⟩, ?_, ?_⟩
  · rw [results_eq, Array.mapM_eq_mapM_toList]
    simp only [Sem.run_bind, Sem.run_map, hrun, Result.andThen_ok, Sem.run_pure]
    congr 1
    have hsz : (List.toArray cus).size = cus.length := rfl
    by_cases h1 : cus.length = 1
    · rw [dif_pos (by rw [hsz]; exact h1), if_pos h1]
      obtain ⟨c, rfl⟩ := List.length_eq_one_iff.1 h1
      rfl
    · rw [dif_neg (by rw [hsz]; exact h1), if_neg h1]
  · rw [hcl]
    by_cases h1 : cus.length = 1
    · rw [if_pos h1, if_pos h1]; exact hvrs.getD 0
    · rw [if_neg h1, if_neg h1]; exact .tuple _ _ hvrs

/-- The functions that are read. -/
def Reads (P : Program) (G : Nat) (F : Funcs) : Prop := (∀ f fn, F f = some fn → ∃ pf ords, P.funcs[f]? = some pf ∧ normFunc P G ords pf = some fn ∧ pf.name ≠ "runtime.NumGoroutine") ∧ ∀ N, CallsOk P G N F.ext

theorem sound (hreg : ∀ ords id ops, RegionOk P G ords id ops true) {F : Funcs} (hr : Reads P G F) : ∀ n, (∀ N, CallsOk P G N (evF F n)) ∧ ∀ m, m ≤ n → CodeOk P G F m := by
  intro n
  induction n with
  | zero =>
    refine ⟨fun N f args h v h' he => by simp [evF] at he, fun m hm => ?_⟩
    obtain rfl : m = 0 := by omega
    intro N c ords ac hn s s' x he
    simp [evC] at he
  | succ n ih =>
    obtain ⟨ihf, ihc⟩ := ih
    refine ⟨fun N f args h v h' he σ g w cargs hs hm hv => ?_, fun m hm => ?_⟩
    · rw [evF] at he
      cases hf : F f with
      | none =>
        rw [hf] at he
        exact hr.2 N f args h v h' he σ g w cargs hs hm hv
      | some fn =>
        rw [hf] at he
        simp only at he
        obtain ⟨pf, ords, hpf, hnf, hname⟩ := hr.1 f fn hf
        unfold normFunc at hnf
        split at hnf
        · rename_i b r hb hres
          simp only [Option.some.injEq] at hnf
          subst hnf
          obtain ⟨pb, hpb, hnb⟩ := Option.bind_eq_some_iff.1 hb
          refine ⟨by simp [entered, hpf, hpb, hname], ?_⟩
          simp only at he
          have hal := hv.length
          have hv0 : VRs σ g (args ++ List.replicate (pf.ntmps - args.length) undef) (cargs ++ List.replicate (pf.ntmps - cargs.length) undef) := by
            rw [hal]
            exact hv.append (.replicate (.tuple [] [] .nil) _)
          refine calls_of_wp hpf hpb ?_
          have hact : ({ tmps := (⟨cargs⟩ : Array Value) ++ Array.replicate (pf.ntmps - (⟨cargs⟩ : Array Value).size) undef, defers := [] } : Act).tmps.toList = cargs ++ List.replicate (pf.ntmps - cargs.length) undef := by simp
          cases hc : evC F n b ⟨args ++ List.replicate (pf.ntmps - args.length) undef, h⟩ with
          | none => rw [hc] at he; cases he
          | some p =>
            obtain ⟨x, s⟩ := p
            rw [hc] at he
            refine ihc n (Nat.le_refl _) N pb ords b hnb ⟨args ++ List.replicate (pf.ntmps - args.length) undef, h⟩ s x hc σ g w _ _ hm hs (by rw [hact]; exact hv0) rfl fun a' w' hto => ?_
            obtain ⟨σ', hgo, hm', hv', hh, hd⟩ := hto
            have fin : (aResults s r).map (fun v => (v, finish h v s.h)) = some (v, h') → a'.defers = [] ∧ ∃ cv, (results pf a'.tmps).run P w' = .ok cv w' ∧ (∃ cv', Ending.returned cv = .returned cv' ∧ Done G N σ g w h v h' cv' w') := by
              intro he
              obtain ⟨v0, hv0, he⟩ := opt_map_some he
              simp only [Prod.mk.injEq] at he
              obtain ⟨rfl, rfl⟩ := he
              obtain ⟨cv, hrun, hvr⟩ := results_run (P := P) hm' (grow_sub _ _ _) hres hv' (show aResults ⟨s.t, s.h⟩ r = some v0 from hv0)
              refine ⟨hd, cv, hrun, cv, rfl, ?_⟩
              have hdone : Done G N σ g w h v0 s.h cv w' := ⟨σ', hgo, hm', hvr, hh⟩
              unfold finish
              split
              · rename_i hfl
                exact finish_done hm hs hdone hfl.1 hfl.2
              · exact hdone
            cases x with
            | normal => exact fin he
            | ret => exact fin he
            | exit id => cases he
        · cases hnf
    · by_cases hmn : m = n + 1
      · subst hmn
        exact code_step hreg F n ihf ihc
      · exact ihc m (by omega)
end Go.Proofs.YtfbldlgjlgcpoaaDoor.AM

namespace Go.Proofs.YtfbldlgjlgcpoaaDoor.AM
open Go.RowKit

set_option linter.unusedSimpArgs false
set_option linter.unusedVariables false
variable {P : Program} {G N : Nat} {σ : Emb} {g : Mem} {w : World} {h : Heap}

theorem entry {F : Funcs} (hm : P.follows .mixedOrders = true) (hr : Reads P G F) {f : FuncId} {args cargs : List Value} {h0 h' : Heap} {v : Value} (hd : DF F f args h0 = some (v, h')) (hf : plain1 v = true) (σ : Emb) (W : World)
    (mr : MR G W.heap.size σ (fun i => h0[i]?) W) (hv : VRs σ (fun i => h0[i]?) args cargs) (hro : ∀ o ∈ h0, owns o = false) :
    Calls P f ⟨cargs⟩ W fun e W' => e = .returned v ∧ Go.RowKit.Below W.heap.size W W' := by
  obtain ⟨n, hn⟩ := (DF_iff F _ _ _ _).1 hd
  obtain ⟨_, hc⟩ := ((sound (region_draw hm) hr n).1 W.heap.size) f args h0 v h' hn σ (fun i => h0[i]?) W cargs (fun i o h => h) mr hv
  refine hc.mono fun e W' ⟨cv, he, σ', hgo, hmr, hcv, hh⟩ => ?_
  have key1 : ∀ {σ : Emb} {g : Mem} {u c : Value}, plain1 u = true → VR σ g u c → c = u := by
    intro σ g u c hu hr
    cases hr <;> first | rfl | simp [plain1] at hu
  refine ⟨by rw [he, key1 hf hcv], hgo.os, hgo.tape, hgo.output, hgo.size, fun k hk => hgo.rest k hk ?_⟩
  rintro ⟨i, o, hi, ho, _⟩
  rw [hro o (List.mem_of_getElem? hi)] at ho
  cases ho

/-- From no memory at all. -/
theorem entry0 {F : Funcs} (hm : P.follows .mixedOrders = true) (hr : Reads P 0 F) {f : FuncId} {args : List Value} {h' : Heap} {v : Value} (hd : DF F f args [] = some (v, h')) (hf : plain1 v = true) (ha : ∀ x ∈ args, plain1 x = true) (W : World) :
    Calls P f ⟨args⟩ W fun e W' => e = .returned v ∧ Go.RowKit.Below W.heap.size W W' := by
  have key : ∀ (l : List Value), (∀ x ∈ l, plain1 x = true) → VRs (fun _ => ⟨0, 0, 0⟩) (fun i => ([] : Heap)[i]?) l l := by
    intro l
    induction l with
    | nil => intro _; exact .nil
    | cons x l ih =>
      intro h
      refine .cons _ _ _ _ ?_ (ih fun y hy => h y (by simp [hy]))
      have := h x (by simp)
      unfold plain1 at this
      split at this <;> first | constructor | cases this
  refine entry hm hr hd hf (fun _ => ⟨0, 0, 0⟩) W ⟨fun i o hi => by simp at hi, fun i j o p hi => by simp at hi, fun i hi => by omega, Nat.le_refl _⟩ (key _ ha) fun o ho => by simp at ho
end Go.Proofs.YtfbldlgjlgcpoaaDoor.AM
