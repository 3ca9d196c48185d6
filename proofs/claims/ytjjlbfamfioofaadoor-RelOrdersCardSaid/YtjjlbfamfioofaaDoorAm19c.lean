/-
  AM, part 19c: a statement whose order is open: the model does an operation that the abstract machine has done.
  Conditions: none.
-/
import Derived.Test.YtjjlbfamfioofaaDoorAm19b
namespace Go.Proofs.YtjjlbfamfioofaaDoor.AM
open Go.RowKit

set_option linter.unusedSimpArgs false
set_option linter.unusedVariables false
variable {call : Caller} {P : Program} {G N : Nat} {ops : Array Oper} {as : List AOper} {s0 : St} {σ0 : Emb} {g0 : Mem} {w0 : World} {D : Nat → Prop} {pre rest : List Nat} {seen : Nat} {s sfin : St} {val : Nat → Value} {hole : Nat → Option Nat}
  {σ : Emb} {g : Mem} {w : World} {a : Act}

theorem norm_noagain {ty : TypeId} {op : Op} {ao : AOp} (hn : normOp P ty op = some ao) : (∀ x t, ao ≠ .again1 x t) ∧ ∀ n x t, ao ≠ .again n x t := by
  have key : ((∃ x t, ao = .again1 x t) ∨ ∃ n x t, ao = .again n x t) → False := by
    intro hk
    have hno : (∀ x t, ao ≠ .again1 x t) → (∀ n x t, ao ≠ .again n x t) → False := fun h1 h2 => by
      rcases hk with ⟨x, t, e⟩ | ⟨n, x, t, e⟩
      · exact h1 _ _ e
      · exact h2 _ _ _ e
    cases op
    case call c =>
      simp only [normOp, normCall] at hn
      repeat' split at hn
      all_goals first
        | (cases hn; done)
        | (simp only [Option.some.injEq] at hn; subst hn; exact hno (by simp) (by simp))
    case binOp op t x y yt =>
      have eqs : ∀ neg, normEq P neg t x y = some ao → False := by
        intro neg hne
        unfold normEq at hne
        repeat' split at hne
        all_goals first
          | (cases hne; done)
          | (simp only [Option.some.injEq] at hne; subst hne; exact hno (by simp) (by simp))
          | (obtain ⟨z, _, rfl⟩ := opt_map_some hne; exact hno (by simp) (by simp))
      simp only [normOp] at hn
      cases op <;> simp only at hn
      case eql => exact eqs false hn
      case neq => exact eqs true hn
      all_goals
        split at hn
        · simp only [Option.some.injEq] at hn; subst hn; exact hno (by simp) (by simp)
        · cases hn
    case makeFunc fn a b =>
      cases fn <;> simp only [normOp, reduceCtorEq, Option.some.injEq] at hn
      subst hn; exact hno (by simp) (by simp)
    case makeMap t r =>
      have hn : normMap (P.underlying t) r = some ao := hn
      rw [normMap_mk hn] at hno
      exact hno (by simp) (by simp)
    case slice t x lo hi mx =>
      cases mx with
      | some y => simp [normOp] at hn
      | none =>
        simp only [normOp] at hn
        repeat' split at hn
        all_goals first
          | (cases hn; done)
          | (simp only [Option.some.injEq] at hn; subst hn; exact hno (by simp) (by simp))
          | (obtain ⟨z, _, hn⟩ := Option.bind_eq_some_iff.1 hn
             split at hn <;> first | (cases hn; done) | (simp only [Option.some.injEq] at hn; subst hn; exact hno (by simp) (by simp)))
    all_goals
      simp only [normOp, reduceCtorEq] at hn
      try (
        repeat' split at hn
        all_goals first
          | (cases hn; done)
          | (simp only [Option.some.injEq] at hn; subst hn; exact hno (by simp) (by simp))
          | (obtain ⟨z, _, rfl⟩ := opt_map_some hn; exact hno (by simp) (by simp))
          | (obtain ⟨z, _, hn⟩ := Option.bind_eq_some_iff.1 hn
             split at hn <;> first | (cases hn; done) | (simp only [Option.some.injEq] at hn; subst hn; exact hno (by simp) (by simp))))
  exact ⟨fun x t e => key (.inl ⟨x, t, e⟩), fun n x t e => key (.inr ⟨n, x, t, e⟩)⟩

/-- Loads stand for loads alone. -/
theorem norm_load {ty : TypeId} {op : Op} {ao : AOp} {x : Operand} (hn : normOp P ty op = some ao) (hk : ao = .load1 x ∨ ∃ n, ao = .load n x) : ∃ t, op = .load t x := by
  have hno : (∀ y, ao ≠ .load1 y) → (∀ n y, ao ≠ .load n y) → False := fun h1 h2 => by
    rcases hk with e | ⟨n, e⟩
    · exact h1 _ e
    · exact h2 _ _ e
  cases op
  case load t a =>
    simp only [normOp] at hn
    repeat' split at hn
    all_goals first
      | (cases hn; done)
      | (simp only [Option.some.injEq] at hn; subst hn
         rcases hk with e | ⟨n, e⟩
         · cases e
           try exact ⟨t, rfl⟩
         · cases e
           try exact ⟨t, rfl⟩)
  case call c =>
    exfalso
    simp only [normOp, normCall] at hn
    repeat' split at hn
    all_goals first
      | (cases hn; done)
      | (simp only [Option.some.injEq] at hn; subst hn; exact hno (by simp) (by simp))
  case binOp op t x y yt =>
    exfalso
    have eqs : ∀ neg, normEq P neg t x y = some ao → False := by
      intro neg hne
      unfold normEq at hne
      repeat' split at hne
      all_goals first
        | (cases hne; done)
        | (simp only [Option.some.injEq] at hne; subst hne; exact hno (by simp) (by simp))
        | (obtain ⟨z, _, rfl⟩ := opt_map_some hne; exact hno (by simp) (by simp))
    simp only [normOp] at hn
    cases op <;> simp only at hn
    case eql => exact eqs false hn
    case neq => exact eqs true hn
    all_goals
      split at hn
      · simp only [Option.some.injEq] at hn; subst hn; exact hno (by simp) (by simp)
      · cases hn
  case makeFunc fn a b =>
    exfalso
    cases fn <;> simp only [normOp, reduceCtorEq, Option.some.injEq] at hn
    subst hn; exact hno (by simp) (by simp)
  case makeMap t r =>
    exfalso
    have hn : normMap (P.underlying t) r = some ao := hn
    rw [normMap_mk hn] at hno
    exact hno (by simp) (by simp)
  case slice t x lo hi mx =>
    exfalso
    cases mx with
    | some y => simp [normOp] at hn
    | none =>
      simp only [normOp] at hn
      repeat' split at hn
      all_goals first
        | (cases hn; done)
        | (simp only [Option.some.injEq] at hn; subst hn; exact hno (by simp) (by simp))
        | (obtain ⟨z, _, hn⟩ := Option.bind_eq_some_iff.1 hn
           split at hn <;> first | (cases hn; done) | (simp only [Option.some.injEq] at hn; subst hn; exact hno (by simp) (by simp)))
  all_goals
    exfalso
    simp only [normOp, reduceCtorEq] at hn
    try (
      repeat' split at hn
      all_goals first
        | (cases hn; done)
        | (simp only [Option.some.injEq] at hn; subst hn; exact hno (by simp) (by simp))
        | (obtain ⟨z, _, rfl⟩ := opt_map_some hn; exact hno (by simp) (by simp))
        | (obtain ⟨z, _, hn⟩ := Option.bind_eq_some_iff.1 hn
           split at hn <;> first | (cases hn; done) | (simp only [Option.some.injEq] at hn; subst hn; exact hno (by simp) (by simp))))
/-- The abstract machine goes on to the next operation that acts. -/
theorem Inv.advance (S : Stat P G ops as) : ∀ (rest pre : List Nat) (seen : Nat) (s : St) (val : Nat → Value) (hole : Nat → Option Nat), Inv call P G N ops as s0 σ0 g0 w0 D pre rest seen s sfin val hole σ g w a →
    ∃ pre' rest' seen' s' val' hole', Inv call P G N ops as s0 σ0 g0 w0 D pre' rest' seen' s' sfin val' hole' σ g w a ∧ (rest' = [] ∨ ∃ e r, rest' = e :: r ∧ (as.getD e none').op.acts = true)
  | [], pre, seen, s, val, hole, I => ⟨pre, [], seen, s, val, hole, I, .inl rfl⟩
  | i :: r, pre, seen, s, val, hole, I => by
    cases ha : (as.getD i none').op.acts with
    | true => exact ⟨pre, i :: r, seen, s, val, hole, I, .inr ⟨i, r, rfl, ha⟩⟩
    | false =>
      obtain ⟨o1, o2, _⟩ := orderOk_cons I.order
      obtain ⟨o, _, hno, _⟩ := S.oper o2
      obtain ⟨s', val', hole', I'⟩ := I.advance1 S ha (norm_noagain (normOper_inv hno).2.1)
      exact Inv.advance S r (pre ++ [i]) _ s' val' hole' I'

theorem Inv.names_VR (S : Stat P G ops as) (I : Inv call P G N ops as s0 σ0 g0 w0 D pre rest seen s sfin val hole σ g w a) {i : Nat} (hi : i < as.length) (hnD : ¬ D i) (hb : ∀ j, bits (Region.before ops).toList i j = true → D j)
    {ρ : Operand → Value} (hr : RelV ops as s0 val i ρ) {t : Nat} (ht : t ∈ nm ops as i) : VR σ g (ρ (.tmp t)) (a.tmps.getD t undef) := by
  by_cases hl : s0.t.length ≤ t
  · rw [hr.far t ht hl]
    have : a.tmps.getD t undef = undef := by
      rw [Array.getD_eq_getD_getElem?, Array.getElem?_eq_none (by rw [I.asz]; exact hl)]; rfl
    rw [this]
    exact .tuple [] [] .nil
  · have hlt : t < s0.t.length := by omega
    by_cases hk : ∃ k, k < as.length ∧ (as.getD k none').dst = some t ∧ bits (Region.before ops).toList i k = true
    · obtain ⟨k, hkl, hd, hbk⟩ := hk
      rw [hr.new t ht k hkl hd hbk hlt]
      exact (I.tmpD t hlt).1 k (hb k hbk) hd
    · have hno : ∀ k, k < as.length → (as.getD k none').dst = some t → bits (Region.before ops).toList i k = false := by
        intro k hkl hd
        cases hq : bits (Region.before ops).toList i k with
        | false => rfl
        | true => exact absurd ⟨k, hkl, hd, hq⟩ hk
      rw [hr.old t ht hno]
      refine (I.tmpD t hlt).2 fun k hDk hd => ?_
      have hkl := I.lt k (I.inD k hDk)
      rcases (S.pair hkl hi hd).2 ht with h | h
      · rw [hno k hkl hd] at h; cases h
      · exact hnD (I.closed k i hDk h)

theorem Inv.operand_VR (S : Stat P G ops as) (I : Inv call P G N ops as s0 σ0 g0 w0 D pre rest seen s sfin val hole σ g w a) {i : Nat} (hi : i < as.length) (hnD : ¬ D i) (hb : ∀ j, bits (Region.before ops).toList i j = true → D j)
    {ρ : Operand → Value} (hr : RelV ops as s0 val i ρ) {o : Oper} (ho : ops.toList.getD i default = o) {x : Operand} (hx : x ∈ o.op.operands) (hok : operandOk G x = true) : VR σ g (ρ x) (a.eval x) := by
  cases x with
  | tmp t =>
    have ht : t ∈ nm ops as i := by
      unfold nm namesOf
      rw [ho]
      refine List.mem_append.2 (.inl ?_)
      rw [List.mem_filterMap]
      exact ⟨.tmp t, Array.mem_toList_iff.2 hx, rfl⟩
    exact I.names_VR S hi hnD hb hr ht
  | const v => rw [hr.rest _ (fun t e => by cases e)]; exact .plain hok
  | global g' =>
    rw [hr.rest _ (fun t e => by cases e)]
    obtain ⟨vals, h1, h2, h3⟩ := I.mr.glob g' (by simpa [operandOk] using hok)
    refine .ptr _ _ 0 vals 0 true rfl h1 (Nat.le_refl _) fun _ => ?_
    simp only
    rw [h2, h3]
  | func f => rw [hr.rest _ (fun t e => by cases e)]; exact .func _ [] [] [] [] .nil .nil

theorem Inv.wanted_eq (S : Stat P G ops as) (I : Inv call P G N ops as s0 σ0 g0 w0 D pre rest seen s sfin val hole σ g w a) {i : Nat} (hi : i < as.length) (hnD : ¬ D i) (hb : ∀ j, bits (Region.before ops).toList i j = true → D j)
    {ρ : Operand → Value} (hr : RelV ops as s0 val i ρ) {o : Oper} (hg : normGuard ops o.guard = some (as.getD i none').guard) : Region.wanted o (yielded ops a.tmps) = wantR ρ (as.getD i none').guard := by
  unfold normGuard at hg
  unfold Region.wanted
  split at hg
  · rename_i hq
    simp only [Option.some.injEq] at hg
    rw [hq, ← hg]; rfl
  · rename_i j b hq
    split at hg
    · rename_i t ht
      simp only [Option.some.injEq] at hg
      rw [hq, ← hg]
      have hmem : t ∈ nm ops as i := by
        unfold nm namesOf
        rw [← hg]
        exact List.mem_append.2 (.inr (by simp))
      have hvr := I.names_VR S hi hnD hb hr hmem
      simp only [yielded, ht, Option.bind_some, wantR]
      rw [Array.getD_eq_getD_getElem?] at hvr
      generalize ρ (.tmp t) = u at hvr
      cases hc : a.tmps[t]? with
      | none =>
        rw [hc] at hvr
        simp only [Option.getD_none] at hvr
        cases hvr
        rfl
      | some c =>
        rw [hc] at hvr
        simp only [Option.getD_some] at hvr
        cases hvr <;> first | rfl | (rename_i bb; cases bb <;> cases b <;> rfl)
    · cases hg

/-- The places behind a step of the model. -/
theorem Inv.tmpD_put (S : Stat P G ops as) (I : Inv call P G N ops as s0 σ0 g0 w0 D pre rest seen s sfin val hole σ g w a) {i : Nat} (hi : i < as.length) (hnD : ¬ D i) {σ' : Emb} {g' : Mem} (he : Ext σ g σ' g') {v cv : Value} (hv : VR σ' g' v cv)
    (val' : Nat → Value) (hvi : val' i = v) (hvo : ∀ k, D k → val' k = val k) :
    (a.put (as.getD i none').dst cv).tmps.size = s0.t.length ∧
    ∀ t, t < s0.t.length → (∀ k, (D k ∨ k = i) → (as.getD k none').dst = some t → VR σ' g' (val' k) ((a.put (as.getD i none').dst cv).tmps.getD t undef)) ∧
      ((∀ k, (D k ∨ k = i) → (as.getD k none').dst ≠ some t) → VR σ' g' (s0.t.getD t undef) ((a.put (as.getD i none').dst cv).tmps.getD t undef)) := by
  have hput : ∀ t, t < s0.t.length → (a.put (as.getD i none').dst cv).tmps.getD t undef = if (as.getD i none').dst = some t then cv else a.tmps.getD t undef := by
    intro t ht
    cases hd : (as.getD i none').dst with
    | none => simp [Act.put]
    | some u =>
      simp only [Act.put, Option.some.injEq]
      rw [Array.getD_eq_getD_getElem?, Array.getElem?_setIfInBounds]
      by_cases hut : u = t
      · subst hut
        rw [if_pos rfl, if_pos (by rw [I.asz]; exact ht), if_pos rfl]; rfl
      · rw [if_neg hut, if_neg hut, Array.getD_eq_getD_getElem?]
  refine ⟨by cases (as.getD i none').dst <;> simp [Act.put, I.asz], fun t ht => ⟨fun k hk hd => ?_, fun hno => ?_⟩⟩
  · rw [hput t ht]
    rcases hk with hk | rfl
    · have hkl := I.lt k (I.inD k hk)
      have hne : (as.getD i none').dst ≠ some t := fun h => hnD (by rw [← S.uniq hkl hi hd h]; exact hk)
      rw [if_neg hne, hvo k hk]
      exact ((I.tmpD t ht).1 k hk hd).ext he
    · rw [if_pos hd, hvi]; exact hv
  · rw [hput t ht, if_neg (hno i (.inr rfl))]
    exact ((I.tmpD t ht).2 fun k hk => hno k (.inl hk)).ext he

/-- The model does an operation that the abstract machine has done. -/
theorem Inv.step_pend (S : Stat P G ops as) (I : Inv call P G N ops as s0 σ0 g0 w0 D pre rest seen s sfin val hole σ g w a) {i : Nat} (hip : i ∈ pre) (hnD : ¬ D i) (hb : ∀ j, bits (Region.before ops).toList i j = true → D j)
    {K : Act → World → Prop} {Q : Exit → Act → World → Prop} (hK : ∀ σ' g' w' a', Inv call P G N ops as s0 σ0 g0 w0 (fun j => D j ∨ j = i) pre rest seen s sfin val hole σ' g' w' a' → K a' w') : wpOp P ops Q i K a w := by
  have hi := I.lt i hip
  obtain ⟨o, hoi, hno, hod⟩ := S.oper hi
  obtain ⟨hok, hop, hgd, hdst⟩ := normOper_inv hno
  obtain ⟨ρ, hrel, hna, hp⟩ := I.pend i hip hnD
  have hops : ∀ x ∈ o.op.operands, VR σ g (ρ x) (a.eval x) := fun x hx => I.operand_VR S hi hnD hb hrel hod hx (hok x hx)
  have hcs : ∀ v, ρ (.const v) = v ∧ a.eval (.const v) = v := fun v => ⟨by rw [hrel.rest _ (fun t e => by cases e)]; rfl, rfl⟩
  -- what is left for the invariant
  have fin : ∀ (σ' : Emb) (g' : Mem) (w' : World) (cv : Value), Go N σ g w σ' g' w' → MR G N σ' g' w' → VR σ' g' (val i) cv → Sub g' s.h → (∀ j, g' j = grow g0 s0.h s.h j ∨ (g' j = none ∧ ∃ k ∈ pre, ¬ (D k ∨ k = i) ∧ hole k = some j)) →
      (∀ k ∈ pre, ¬ (D k ∨ k = i) → ∀ id, hole k = some id → g' id = none) → K (a.put o.dst cv) w' := by
    intro σ' g' w' cv hgo hmr hv hsub hgr hh
    rw [← hdst]
    obtain ⟨t1, t2⟩ := I.tmpD_put S hi hnD hgo.ext hv val rfl (fun _ _ => rfl)
    refine hK σ' g' w' _ ⟨t1, I.ssz, by rw [put_defers]; exact I.dfr, hmr, hsub, I.go.trans hgo, I.holes, hgr, ?_, ?_, ?_, I.all, I.lt, I.marks, I.preclosed, I.order, I.weaved, ?_, t2, I.tmpC, ?_⟩
    · intro x hx y hy id hDx hDy h1 h2
      exact I.apart x hx y hy id (fun h => hDx (.inl h)) (fun h => hDy (.inl h)) h1 h2
    · rintro j (hj | rfl)
      · exact I.inD j hj
      · exact hip
    · rintro x y (hx | rfl) hxy
      · exact .inl (I.closed x y hx hxy)
      · exact .inl (hb y hxy)
    · intro x hx ha; exact .inl (I.actD x hx ha)
    · intro k hk hDk
      obtain ⟨ρ', r1, r2, r3⟩ := I.pend k hk (fun h => hDk (.inl h))
      refine ⟨ρ', r1, r2, ?_⟩
      cases hhk : hole k with
      | none => rw [hhk] at r3; exact r3
      | some id =>
        rw [hhk] at r3
        obtain ⟨q1, q2, q3⟩ := r3
        exact ⟨q1, hh k hk hDk id hhk, q3⟩
  have finStill : ∀ cv, VR σ g (val i) cv → hole i = none → K (a.put o.dst cv) w := by
    intro cv hv hhi
    refine fin σ g w cv (.refl _ _ _ _) I.mr hv I.sub (fun j => ?_) (fun k hk hDk id hhk => ?_)
    · rcases I.grows j with h | ⟨h, k, hk, hDk, hhk⟩
      · exact .inl h
      · refine .inr ⟨h, k, hk, fun hq => ?_, hhk⟩
        rcases hq with hq | rfl
        · exact hDk hq
        · rw [hhi] at hhk; cases hhk
    · obtain ⟨_, _, _, r3⟩ := I.pend k hk (fun h => hDk (.inl h))
      rw [hhk] at r3
      exact r3.2.1
  unfold wpOp
  rw [hoi]
  simp only
  rw [I.wanted_eq S hi hnD hb hrel hgd]
  cases hhi : hole i with
  | none =>
    rw [hhi] at hp
    simp only at hp
    by_cases hw : wantR ρ (as.getD i none').guard = true
    · rw [if_pos hw] at hp ⊢
      obtain ⟨hmk, hev, _⟩ := hp
      left
      obtain ⟨_, cv, hrun, hvr⟩ := still_op call I.mr I.sub hop hna hmk hops hcs hev
      unfold Oper.wp
      rw [hrun]
      exact finStill cv hvr hhi
    · rw [if_neg hw] at hp ⊢
      exact finStill undef (by rw [hp]; exact .tuple [] [] .nil) hhi
  | some id =>
    rw [hhi] at hp
    obtain ⟨q1, q2, q3, q4, ob, q5, q6⟩ := hp
    rw [if_pos q3]
    left
    have hl : (List.replicate id AObj.gone).length = id := List.length_replicate
    obtain ⟨ob', e1, cv, w', hrun, σ', f1, f2, f3⟩ := make_fill call (h := List.replicate id AObj.gone) I.mr (by rw [hl]; exact q2) hop q4 hops hcs (q6 _ hl)
    have hob : ob' = ob := by have := List.append_cancel_left e1; simpa using this.symm
    subst hob
    rw [hl] at f1 f2 f3
    unfold Oper.wp
    rw [hrun]
    refine fin σ' _ w' cv f1 f2 f3 ?_ (fun j => ?_) (fun k hk hDk id' hhk => ?_)
    · intro j x hj
      unfold upd at hj
      by_cases hji : j = id
      · subst hji; rw [if_pos rfl] at hj; cases hj; exact q5
      · rw [if_neg hji] at hj; exact I.sub j x hj
    · unfold upd
      by_cases hji : j = id
      · subst hji
        left
        rw [if_pos rfl]
        unfold grow
        rw [if_neg (by omega), q5]
      · rw [if_neg hji]
        rcases I.grows j with h | ⟨h, k, hk, hDk, hhk⟩
        · exact .inl h
        · refine .inr ⟨h, k, hk, fun hq => ?_, hhk⟩
          rcases hq with hq | rfl
          · exact hDk hq
          · rw [hhi] at hhk; cases hhk; exact hji rfl
    · have hne : id' ≠ id := by
        rintro rfl
        have := I.apart k hk i hip id' (fun h => hDk (.inl h)) hnD hhk hhi
        exact hDk (.inr this)
      unfold upd
      rw [if_neg hne]
      obtain ⟨_, _, _, r3⟩ := I.pend k hk (fun h => hDk (.inl h))
      rw [hhk] at r3
      exact r3.2.1
end Go.Proofs.YtjjlbfamfioofaaDoor.AM
