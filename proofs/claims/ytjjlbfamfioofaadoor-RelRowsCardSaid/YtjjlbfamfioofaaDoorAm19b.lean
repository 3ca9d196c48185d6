/-
  AM, part 19b: a statement whose order is open: what holds between the model, which has done some of its operations, and the abstract machine, which has gone on to the next that acts.
  Conditions: none.
-/
import Derived.Test.YtjjlbfamfioofaaDoorAm19
namespace Go.Proofs.YtjjlbfamfioofaaDoor.AM
open Go.RowKit

set_option linter.unusedSimpArgs false
set_option linter.unusedVariables false

def wantR (ρ : Operand → Value) : Option (Nat × Bool) → Bool
  | none => true
  | some (t, b) => match ρ (.tmp t) with
    | .bool c => c == b
    | _ => false

structure Stat (P : Program) (G : Nat) (ops : Array Oper) (as : List AOper) : Prop where
  norm : normOpers P G ops ops.toList = some as
  places : placesOk ops.toList as (Region.before ops).toList = true
  guards : guardsOk ops.toList (Region.before ops).toList = true

def nm (ops : Array Oper) (as : List AOper) (j : Nat) : List Nat := namesOf (ops.toList.getD j default) (as.getD j none')

section
variable {P : Program} {G N : Nat} {ops : Array Oper} {as : List AOper} (S : Stat P G ops as)
include S
theorem Stat.len : as.length = ops.size := by
  obtain ⟨h, _⟩ := normOpers_get S.norm; simpa using h
theorem Stat.pair {i j t : Nat} (hi : i < as.length) (hj : j < as.length) (ht : (as.getD i none').dst = some t) :
    (i = j ∨ (as.getD j none').dst ≠ some t) ∧ (t ∈ nm ops as j → bits (Region.before ops).toList j i = true ∨ bits (Region.before ops).toList i j = true) := by
  have h := S.places
  unfold placesOk at h
  rw [List.all_eq_true] at h
  have h := h i (List.mem_range.2 hi)
  rw [List.all_eq_true] at h
  have h := h j (List.mem_range.2 hj)
  simp only [ht, Bool.and_eq_true, Bool.or_eq_true, beq_iff_eq, bne_iff_ne, ne_eq, Bool.not_eq_true'] at h
  obtain ⟨h1, h2⟩ := h
  refine ⟨h1, fun hm => ?_⟩
  rcases h2 with (h2 | h2) | h2
  · have : (namesOf (ops.toList.getD j default) (as.getD j none')).contains t = true := List.contains_iff_mem.2 hm
    rw [this] at h2; cases h2
  · exact .inl h2
  · exact .inr h2
theorem Stat.uniq {i j t : Nat} (hi : i < as.length) (hj : j < as.length) (ht : (as.getD i none').dst = some t) (ht' : (as.getD j none').dst = some t) : i = j :=
  ((S.pair hi hj ht).1).resolve_right fun h => h ht'
theorem Stat.oper {i : Nat} (hi : i < as.length) : ∃ o, ops[i]? = some o ∧ normOper P G ops o = some (as.getD i none') ∧ ops.toList.getD i default = o := by
  obtain ⟨hl, hget⟩ := normOpers_get S.norm
  have hlt : i < ops.size := by rw [← S.len]; exact hi
  obtain ⟨ao, hao, hno⟩ := hget i ops[i] (by simp [hlt])
  refine ⟨ops[i], by simp [hlt], ?_, by simp [List.getD_eq_getElem?_getD, hlt]⟩
  rw [List.getD_eq_getElem?_getD, hao]; exact hno
end

/-- The values at which an operation looks: those that came ahead of it by the edges, else those of the beginning. -/
structure RelV (ops : Array Oper) (as : List AOper) (s0 : St) (val : Nat → Value) (i : Nat) (ρ : Operand → Value) : Prop where
  far : ∀ t ∈ nm ops as i, s0.t.length ≤ t → ρ (.tmp t) = undef
  new : ∀ t ∈ nm ops as i, ∀ k, k < as.length → (as.getD k none').dst = some t → bits (Region.before ops).toList i k = true → t < s0.t.length → ρ (.tmp t) = val k
  old : ∀ t ∈ nm ops as i, (∀ k, k < as.length → (as.getD k none').dst = some t → bits (Region.before ops).toList i k = false) → ρ (.tmp t) = s0.t.getD t undef
  rest : ∀ x, (∀ t, x ≠ .tmp t) → ρ x = s0.eval x

/-- What is known of an operation that the abstract machine has done, and the model has not. -/
def Pend (call : Caller) (ops : Array Oper) (as : List AOper) (s0 : St) (val : Nat → Value) (hole : Nat → Option Nat) (g : Mem) (h : Heap) (i : Nat) : Prop :=
  ∃ ρ, RelV ops as s0 val i ρ ∧ (as.getD i none').op.acts = false ∧
    match hole i with
    | some id => s0.h.length ≤ id ∧ g id = none ∧ wantR ρ (as.getD i none').guard = true ∧ (as.getD i none').op.makes = true ∧
        ∃ obj, h[id]? = some obj ∧ ∀ h₁ : Heap, h₁.length = id → evOp call ρ h₁ (as.getD i none').op = some (val i, h₁ ++ [obj])
    | none => if wantR ρ (as.getD i none').guard = true then
        (as.getD i none').op.makes = false ∧ evOp call ρ h (as.getD i none').op = some (val i, h) ∧ ((as.getD i none').op.reads = false → ∀ h₁, evOp call ρ h₁ (as.getD i none').op = some (val i, h₁))
      else val i = undef

structure Inv (call : Caller) (P : Program) (G N : Nat) (ops : Array Oper) (as : List AOper) (s0 : St) (σ0 : Emb) (g0 : Mem) (w0 : World) (D : Nat → Prop) (pre rest : List Nat) (seen : Nat) (s sfin : St) (val : Nat → Value) (hole : Nat → Option Nat)
    (σ : Emb) (g : Mem) (w : World) (a : Act) : Prop where
  asz : a.tmps.size = s0.t.length
  ssz : s.t.length = s0.t.length
  dfr : a.defers = []
  mr : MR G N σ g w
  sub : Sub g s.h
  go : Go N σ0 g0 w0 σ g w
  holes : Holes g0 s0.h s.h
  grows : ∀ i, g i = grow g0 s0.h s.h i ∨ (g i = none ∧ ∃ k ∈ pre, ¬ D k ∧ hole k = some i)
  apart : ∀ i ∈ pre, ∀ j ∈ pre, ∀ id, ¬ D i → ¬ D j → hole i = some id → hole j = some id → i = j
  inD : ∀ i, D i → i ∈ pre
  closed : ∀ i j, D i → bits (Region.before ops).toList i j = true → D j
  all : ∀ i, i < as.length → i ∈ pre ∨ i ∈ rest
  lt : ∀ i ∈ pre, i < as.length
  marks : ∀ i, seen.testBit i = true ↔ i ∈ pre
  preclosed : ∀ i ∈ pre, ∀ j, bits (Region.before ops).toList i j = true → j ∈ pre
  order : orderOk as (Region.before ops).toList rest seen = true
  weaved : ∃ m, weave ops.toList as (Region.before ops).toList rest pre = some m ∧ evOps call m s = some sfin
  actD : ∀ i ∈ pre, (as.getD i none').op.acts = true → D i
  tmpD : ∀ t, t < s0.t.length → (∀ k, D k → (as.getD k none').dst = some t → VR σ g (val k) (a.tmps.getD t undef)) ∧ ((∀ k, D k → (as.getD k none').dst ≠ some t) → VR σ g (s0.t.getD t undef) (a.tmps.getD t undef))
  tmpC : ∀ t, (∀ k ∈ pre, (as.getD k none').dst = some t → t < s0.t.length → s.t.getD t undef = val k) ∧ ((∀ k ∈ pre, (as.getD k none').dst ≠ some t) → s.t.getD t undef = s0.t.getD t undef)
  pend : ∀ i ∈ pre, ¬ D i → Pend call ops as s0 val hole g s.h i

variable {call : Caller} {P : Program} {G N : Nat} {ops : Array Oper} {as : List AOper} {s0 : St} {σ0 : Emb} {g0 : Mem} {w0 : World} {D : Nat → Prop} {pre rest : List Nat} {seen : Nat} {s sfin : St} {val : Nat → Value} {hole : Nat → Option Nat}
  {σ : Emb} {g : Mem} {w : World} {a : Act}

theorem wants_wantR (s : St) (gd : Option (Nat × Bool)) : wants s gd = wantR s.eval gd := by
  cases gd with
  | none => rfl
  | some p => rfl
theorem getD_far {l : List Value} {t : Nat} (h : l.length ≤ t) : l.getD t undef = undef := by
  rw [List.getD_eq_getElem?_getD, List.getElem?_eq_none h]; rfl

/-- At the abstract machine's own place the values are those. -/
theorem Inv.relV (S : Stat P G ops as) (I : Inv call P G N ops as s0 σ0 g0 w0 D pre rest seen s sfin val hole σ g w a) {i : Nat} (hi : i < as.length) (hni : i ∉ pre) (hb : ∀ j, bits (Region.before ops).toList i j = true → j ∈ pre) :
    RelV ops as s0 val i s.eval := by
  refine ⟨fun t ht hl => getD_far (by rw [I.ssz]; exact hl), fun t ht k hk hd hbk hlt => (I.tmpC t).1 k (hb k hbk) hd hlt, fun t ht hno => ?_, fun x hx => ?_⟩
  · refine (I.tmpC t).2 fun k hk hd => ?_
    have hkl := I.lt k hk
    rcases (S.pair hkl hi hd).2 ht with h | h
    · rw [hno k hkl hd] at h; cases h
    · exact hni (I.preclosed k hk i h)
  · cases x with
    | tmp t => exact absurd rfl (hx t)
    | _ => rfl
theorem RelV.upd {i k : Nat} {ρ : Operand → Value} (h : RelV ops as s0 val i ρ) (v : Value) (hb : bits (Region.before ops).toList i k = false) : RelV ops as s0 (fun j => if j = k then v else val j) i ρ := by
  refine ⟨h.far, fun t ht j hj hd hbj hlt => ?_, h.old, h.rest⟩
  have hne : j ≠ k := by rintro rfl; rw [hb] at hbj; cases hbj
  simp only [if_neg hne]
  exact h.new t ht j hj hd hbj hlt

theorem orderOk_cons {i : Nat} {r : List Nat} {b : List Nat} (h : orderOk as b (i :: r) seen = true) : seen.testBit i = false ∧ i < as.length ∧ (∀ j, bits b i j = true → seen.testBit j = true) ∧
    ((as.getD i none').op.acts = true → ∀ j, j < as.length → seen.testBit j = true ∨ j = i ∨ bits b j i = true) ∧ orderOk as b r (seen ||| 2 ^ i) = true := by
  unfold orderOk at h
  simp only [Bool.and_eq_true, Bool.not_eq_true', decide_eq_true_eq, beq_iff_eq, Bool.or_eq_true, List.all_eq_true, List.mem_range] at h
  obtain ⟨⟨⟨⟨h1, h2⟩, h3⟩, h4⟩, h5⟩ := h
  refine ⟨h1, h2, fun j hj => ?_, fun ha j hj => ?_, h5⟩
  · unfold bits at hj
    rw [← h3, Nat.testBit_and, Bool.and_eq_true] at hj
    exact hj.2
  · rcases h4 with h4 | h4
    · rw [ha] at h4; cases h4
    · rcases h4 j hj with (h | h) | h
      · exact .inl h
      · exact .inr (.inl h)
      · exact .inr (.inr h)
theorem testBit_or_two {x i j : Nat} : (x ||| 2 ^ i).testBit j = true ↔ x.testBit j = true ∨ j = i := by
  rw [Nat.testBit_or, Nat.testBit_two_pow, Bool.or_eq_true, decide_eq_true_eq]
  exact ⟨fun h => h.imp id Eq.symm, fun h => h.imp id Eq.symm⟩

/-- The abstract machine goes on by one operation that doesn't act. -/
theorem Inv.advance1 (S : Stat P G ops as) {i : Nat} {r : List Nat} (I : Inv call P G N ops as s0 σ0 g0 w0 D pre (i :: r) seen s sfin val hole σ g w a) (hna : (as.getD i none').op.acts = false) (hag : (∀ x t, (as.getD i none').op ≠ .again1 x t) ∧ ∀ n x t, (as.getD i none').op ≠ .again n x t) :
    ∃ s' val' hole', Inv call P G N ops as s0 σ0 g0 w0 D (pre ++ [i]) r (seen ||| 2 ^ i) s' sfin val' hole' σ g w a := by
  obtain ⟨o1, o2, o3, o4, o5⟩ := orderOk_cons I.order
  have hni : i ∉ pre := fun h => by rw [(I.marks i).2 h] at o1; cases o1
  have hbi : ∀ j, bits (Region.before ops).toList i j = true → j ∈ pre := fun j hj => (I.marks j).1 (o3 j hj)
  have hrel := I.relV S o2 hni hbi
  have hnD : ¬ D i := fun h => hni (I.inD i h)
  obtain ⟨m, hm, hev⟩ := I.weaved
  unfold weave at hm
  simp only [hna, Bool.false_eq_true, if_false] at hm
  cases hw2 : weave ops.toList as (Region.before ops).toList r (pre ++ [i]) with
  | none => rw [hw2] at hm; cases hm
  | some m2 =>
    rw [hw2] at hm
    simp only [List.nil_append, Option.some.injEq] at hm
    subst hm
    simp only [evOps] at hev
    obtain ⟨s1, hs1, hrun⟩ := Option.bind_eq_some_iff.1 hev
    -- what does not hang on the case
    have common : ∀ (v : Value) (hl' : Option Nat) (h1 : Heap), s1 = s.put (as.getD i none').dst v h1 → (∀ k, k ∈ pre → ¬ D k → Pend call ops as s0 (fun j => if j = i then v else val j) (fun j => if j = i then hl' else hole j) g h1 k) →
        Pend call ops as s0 (fun j => if j = i then v else val j) (fun j => if j = i then hl' else hole j) g h1 i → Sub g h1 → Holes g0 s0.h h1 →
        (∀ j, g j = grow g0 s0.h h1 j ∨ (g j = none ∧ ∃ k ∈ pre ++ [i], ¬ D k ∧ (if k = i then hl' else hole k) = some j)) → (∀ id, hl' = some id → ∀ k ∈ pre, ¬ D k → hole k ≠ some id) →
        ∃ s' val' hole', Inv call P G N ops as s0 σ0 g0 w0 D (pre ++ [i]) r (seen ||| 2 ^ i) s' sfin val' hole' σ g w a := by
      intro v hl' h1 hs1' hp hpi hsub hho hgr hap
      refine ⟨s1, fun j => if j = i then v else val j, fun j => if j = i then hl' else hole j, ?_⟩
      have hh1 : s1.h = h1 := by rw [hs1', put_h]
      have hne : ∀ k ∈ pre, k ≠ i := fun k hk e => hni (e ▸ hk)
      refine ⟨I.asz, ?_, I.dfr, I.mr, by rw [hh1]; exact hsub, I.go, by rw [hh1]; exact hho, by rw [hh1]; exact hgr, ?_, fun j hj => List.mem_append.2 (.inl (I.inD j hj)), I.closed, ?_, ?_, ?_, ?_, o5, ⟨m2, hw2, hrun⟩, ?_, ?_, ?_, ?_⟩
      · rw [hs1']; cases (as.getD i none').dst <;> simp [St.put, I.ssz]
      · intro x hx y hy id hDx hDy h1 h2
        simp only [List.mem_append, List.mem_singleton] at hx hy
        rcases hx with hx | rfl <;> rcases hy with hy | rfl
        · rw [if_neg (hne x hx)] at h1; rw [if_neg (hne y hy)] at h2
          exact I.apart x hx y hy id hDx hDy h1 h2
        · rw [if_neg (hne x hx)] at h1; rw [if_pos rfl] at h2
          exact absurd h1 (hap id h2 x hx hDx)
        · rw [if_pos rfl] at h1; rw [if_neg (hne y hy)] at h2
          exact absurd h2 (hap id h1 y hy hDy)
        · rfl
      · intro j hj
        rcases I.all j hj with h | h
        · exact .inl (List.mem_append.2 (.inl h))
        · rcases List.mem_cons.1 h with rfl | h
          · exact .inl (by simp)
          · exact .inr h
      · intro j hj
        rcases List.mem_append.1 hj with h | h
        · exact I.lt j h
        · rw [List.mem_singleton.1 h]; exact o2
      · intro j
        rw [testBit_or_two, I.marks j, List.mem_append, List.mem_singleton]
      · intro j hj k hk
        rcases List.mem_append.1 hj with h | h
        · exact List.mem_append.2 (.inl (I.preclosed j h k hk))
        · rw [List.mem_singleton.1 h] at hk; exact List.mem_append.2 (.inl (hbi k hk))
      · intro j hj ha
        rcases List.mem_append.1 hj with h | h
        · exact I.actD j h ha
        · rw [List.mem_singleton.1 h, hna] at ha; cases ha
      · intro t ht
        refine ⟨fun k hk hd => ?_, (I.tmpD t ht).2⟩
        simp only [if_neg (hne k (I.inD k hk))]
        exact (I.tmpD t ht).1 k hk hd
      · intro t
        have hput : ∀ t, s1.t.getD t undef = if (as.getD i none').dst = some t ∧ t < s0.t.length then v else s.t.getD t undef := by
          intro t
          rw [hs1']
          cases hd : (as.getD i none').dst with
          | none => simp [St.put]
          | some u =>
            simp only [St.put, Option.some.injEq]
            rw [List.getD_eq_getElem?_getD, List.getElem?_set]
            by_cases hut : u = t
            · subst hut
              by_cases hlt : u < s.t.length
              · rw [if_pos rfl, if_pos hlt, if_pos ⟨rfl, by rw [← I.ssz]; exact hlt⟩]; rfl
              · rw [if_pos rfl, if_neg hlt, if_neg (fun h => hlt (by rw [I.ssz]; exact h.2)), getD_far (by omega)]; rfl
            · rw [if_neg hut, if_neg (fun h => hut h.1), List.getD_eq_getElem?_getD]
        constructor
        · intro k hk hd hlt
          rw [hput]
          simp only [List.mem_append, List.mem_singleton] at hk
          rcases hk with hk | rfl
          · simp only [if_neg (hne k hk)]
            rw [if_neg (fun h => hne k hk (S.uniq (I.lt k hk) o2 hd h.1))]
            exact (I.tmpC t).1 k hk hd hlt
          · simp only [if_pos]
            rw [if_pos ⟨hd, hlt⟩]
        · intro hno
          rw [hput, if_neg (fun h => hno i (by simp) h.1)]
          exact (I.tmpC t).2 fun k hk => hno k (by simp [hk])
      · intro k hk hDk
        rw [hh1]
        simp only [List.mem_append, List.mem_singleton] at hk
        rcases hk with hk | rfl
        · exact hp k hk hDk
        · exact hpi
    have hkeep : ∀ (v : Value) (hl' : Option Nat) (h1 : Heap), (h1 = s.h ∨ ∃ ob, h1 = s.h ++ [ob]) → ∀ k, k ∈ pre → ¬ D k → Pend call ops as s0 (fun j => if j = i then v else val j) (fun j => if j = i then hl' else hole j) g h1 k := by
      intro v hl' h1 hh1 k hk hDk
      have hne : k ≠ i := fun e => hni (e ▸ hk)
      obtain ⟨ρ, r1, r2, r3⟩ := I.pend k hk hDk
      have hbk : bits (Region.before ops).toList k i = false := by
        cases hq : bits (Region.before ops).toList k i with
        | false => rfl
        | true => exact absurd (I.preclosed k hk i hq) hni
      refine ⟨ρ, r1.upd v hbk, r2, ?_⟩
      simp only [if_neg hne]
      cases hhk : hole k with
      | some id =>
        rw [hhk] at r3
        simp only at r3 ⊢
        obtain ⟨q1, q2, q3, q4, ob, q5, q6⟩ := r3
        refine ⟨q1, q2, q3, q4, ob, ?_, q6⟩
        rcases hh1 with rfl | ⟨x, rfl⟩
        · exact q5
        · exact getElem_append_some q5
      | none =>
        rw [hhk] at r3
        simp only at r3 ⊢
        split at r3
        · rename_i hwr
          rw [if_pos hwr]
          obtain ⟨q1, q2, q3⟩ := r3
          refine ⟨q1, ?_, q3⟩
          rcases hh1 with rfl | ⟨x, rfl⟩
          · exact q2
          · cases hrd : (as.getD k none').op.reads with
            | true => exact reads_append hrd q2 x
            | false => exact q3 hrd _
        · rename_i hwr
          rw [if_neg hwr]; exact r3
    have hreli : ∀ v, RelV ops as s0 (fun j => if j = i then v else val j) i s.eval := fun v => hrel.upd v (by
      cases hq : bits (Region.before ops).toList i i with
      | false => rfl
      | true => exact absurd (hbi i hq) hni)
    unfold evOper at hs1
    by_cases hw : wants s (as.getD i none').guard = true
    · rw [if_pos hw] at hs1
      obtain ⟨⟨v, h1⟩, hv, rfl⟩ := opt_map_some hs1
      have hwr : wantR s.eval (as.getD i none').guard = true := by rw [← wants_wantR]; exact hw
      by_cases hmk : (as.getD i none').op.makes = true
      · obtain ⟨ob, rfl, _⟩ := make_indep (h₁ := s.h) hmk hv
        have hid : g s.h.length = none := sub_none I.sub (Nat.le_refl _)
        refine common v (some s.h.length) (s.h ++ [ob]) rfl (hkeep v _ _ (.inr ⟨ob, rfl⟩)) ?_ (fun j o hj => getElem_append_some (I.sub j o hj)) ⟨by simp; exact Nat.le_succ_of_le I.holes.1, fun j hj hg => ?_⟩ ?_ ?_
        · refine ⟨s.eval, hreli v, hna, ?_⟩
          simp only [if_pos]
          refine ⟨I.holes.1, hid, hwr, hmk, ob, by simp, fun h₁ hl => ?_⟩
          obtain ⟨ob', e1, e2⟩ := make_indep (h₁ := h₁) hmk hv
          have : ob' = ob := by have := List.append_cancel_left e1; simpa using this.symm
          rw [← this]; exact e2 hl
        · rw [List.getElem?_append_left (Nat.lt_of_lt_of_le hj I.holes.1)]; exact I.holes.2 j hj hg
        · intro j
          by_cases hj : j = s.h.length
          · subst hj
            exact .inr ⟨hid, i, by simp, hnD, by simp⟩
          · have hsame : grow g0 s0.h (s.h ++ [ob]) j = grow g0 s0.h s.h j := by
              unfold grow
              by_cases h1 : j < s0.h.length
              · rw [if_pos h1, if_pos h1, List.getElem?_append_left (Nat.lt_of_lt_of_le h1 I.holes.1)]
              · rw [if_neg h1, if_neg h1]
                by_cases h2 : j < s.h.length
                · rw [List.getElem?_append_left h2]
                · rw [List.getElem?_eq_none (by simp; omega), List.getElem?_eq_none (by omega)]
            rw [hsame]
            rcases I.grows j with h | ⟨h, k, hk, hDk, hhk⟩
            · exact .inl h
            · exact .inr ⟨h, k, by simp [hk], hDk, by rw [if_neg (show k ≠ i from fun e => hni (e ▸ hk))]; exact hhk⟩
        · intro id hid' k hk hDk hhk
          simp only [Option.some.injEq] at hid'
          subst hid'
          obtain ⟨ρ, _, _, r3⟩ := I.pend k hk hDk
          rw [hhk] at r3
          simp only at r3
          obtain ⟨_, _, _, _, ob', q5, _⟩ := r3
          have := (List.getElem?_eq_some_iff.1 q5).1
          omega
      · have hmk' : (as.getD i none').op.makes = false := by simpa using hmk
        have hh1 : h1 = s.h := by
          cases hrd : (as.getD i none').op.reads with
          | false => exact (pure_indep (h₁ := s.h) hna hmk' hrd hag.1 hag.2 hv).1
          | true =>
            cases hop : (as.getD i none').op <;> rw [hop] at hrd hv <;> simp only [AOp.reads, Bool.false_eq_true] at hrd <;> simp only [evOp] at hv <;> (repeat' split at hv) <;>
              first
              | (cases hv; done)
              | (simp only [Option.some.injEq, Prod.mk.injEq] at hv; exact hv.2.symm)
              | (obtain ⟨q, _, hq⟩ := opt_map_some hv; simp only [Prod.mk.injEq] at hq; exact hq.2.symm)
        subst hh1
        refine common v none s.h rfl (hkeep v _ _ (.inl rfl)) ?_ I.sub I.holes (fun j => ?_) (fun id h => by cases h)
        · refine ⟨s.eval, hreli v, hna, ?_⟩
          simp only [if_pos, hwr]
          refine ⟨hmk', hv, fun hrd h₁ => (pure_indep (h₁ := h₁) hna hmk' hrd hag.1 hag.2 hv).2⟩
        · rcases I.grows j with h | ⟨h, k, hk, hDk, hhk⟩
          · exact .inl h
          · exact .inr ⟨h, k, by simp [hk], hDk, by rw [if_neg (show k ≠ i from fun e => hni (e ▸ hk))]; exact hhk⟩
    · rw [if_neg hw] at hs1
      simp only [Option.some.injEq] at hs1
      have hwr : ¬ wantR s.eval (as.getD i none').guard = true := by rw [← wants_wantR]; exact hw
      refine common undef none s.h hs1.symm (hkeep undef _ _ (.inl rfl)) ?_ I.sub I.holes (fun j => ?_) (fun id h => by cases h)
      · refine ⟨s.eval, hreli undef, hna, ?_⟩
        simp only [if_pos, if_neg hwr]
      · rcases I.grows j with h | ⟨h, k, hk, hDk, hhk⟩
        · exact .inl h
        · exact .inr ⟨h, k, by simp [hk], hDk, by rw [if_neg (show k ≠ i from fun e => hni (e ▸ hk))]; exact hhk⟩
end Go.Proofs.YtjjlbfamfioofaaDoor.AM
