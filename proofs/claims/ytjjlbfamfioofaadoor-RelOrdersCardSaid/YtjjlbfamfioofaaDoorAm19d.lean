/-
  AM, part 19d: a statement whose order is open: the operation that acts next; and the whole statement.
  Conditions: none.
-/
import Derived.Test.YtjjlbfamfioofaaDoorAm19c
namespace Go.Proofs.YtjjlbfamfioofaaDoor.AM
open Go.RowKit

set_option linter.unusedSimpArgs false
set_option linter.unusedVariables false
variable {call : Caller} {P : Program} {G N : Nat} {ops : Array Oper} {as : List AOper} {s0 : St} {σ0 : Emb} {g0 : Mem} {w0 : World} {D : Nat → Prop} {pre rest : List Nat} {seen : Nat} {s sfin : St} {val : Nat → Value} {hole : Nat → Option Nat}
  {σ : Emb} {g : Mem} {w : World} {a : Act}

theorem evOps_append (call : Caller) : ∀ (l m : List AOper) (s : St), evOps call (l ++ m) s = (evOps call l s).bind (evOps call m)
  | [], m, s => rfl
  | o :: l, m, s => by
    simp only [List.cons_append, evOps]
    cases evOper call o s with
    | none => rfl
    | some s1 => exact evOps_append call l m s1

/-- The looks that were taken again. -/
theorem looks_spec {bi : Nat} {s1 s2 : St} : ∀ (js : List Nat) (l : List AOper), looks ops.toList as (Region.before ops).toList bi js = some l → evOps call l s1 = some s2 → s2 = s1 ∧
    ∀ j ∈ js, (as.getD j none').op.reads = true → bi.testBit j = false → ∃ t ag, (as.getD j none').dst = some t ∧ (as.getD j none').op.againOf t = some ag ∧ (wants s1 (as.getD j none').guard = true → ∃ r, evOp call s1.eval s1.h ag = some r) ∧
      ∀ k, k < as.length → ∀ u, (as.getD k none').dst = some u → u ∈ nm ops as j → bits (Region.before ops).toList j k = true
  | [], l, hl, he => by
    simp only [looks, Option.some.injEq] at hl; subst hl
    simp only [evOps, Option.some.injEq] at he
    exact ⟨he.symm, fun j hj => by simp at hj⟩
  | j :: js, l, hl, he => by
    unfold looks at hl
    simp only at hl
    split at hl
    · rename_i hc
      split at hl
      · rename_i t l2 ht hl2
        split at hl
        · rename_i hall
          obtain ⟨ag, hag, rfl⟩ := opt_map_some hl
          simp only [evOps] at he
          obtain ⟨s3, h3, h4⟩ := Option.bind_eq_some_iff.1 he
          have hstay : s3 = s1 ∧ (wants s1 (as.getD j none').guard = true → ∃ r, evOp call s1.eval s1.h ag = some r) := by
            unfold evOper at h3
            by_cases hw : wants s1 (as.getD j none').guard = true
            · rw [if_pos hw] at h3
              obtain ⟨r, hr, h5⟩ := opt_map_some h3
              refine ⟨?_, fun _ => ⟨r, hr⟩⟩
              have hrh : r.2 = s1.h := by
                cases hop : (as.getD j none').op <;> rw [hop] at hag <;> simp only [AOp.againOf, reduceCtorEq, Option.some.injEq] at hag <;> subst hag <;> simp only [evOp] at hr <;> split at hr <;> (try cases hr) <;> split at hr <;> (try cases hr) <;> rfl
              rw [← h5]
              simp only [St.put, hrh]
            · rw [if_neg hw] at h3
              simp only [St.put, Option.some.injEq] at h3
              exact ⟨h3.symm, fun h => absurd h hw⟩
          obtain ⟨rfl, hw⟩ := hstay
          obtain ⟨rfl, hrest⟩ := looks_spec js l2 hl2 h4
          refine ⟨rfl, fun k hk hr hb => ?_⟩
          rcases List.mem_cons.1 hk with rfl | hk
          · refine ⟨t, ag, ht, hag, hw, fun q hq u hu hm => ?_⟩
            rw [List.all_eq_true] at hall
            have := hall q (List.mem_range.2 hq)
            rw [hu] at this
            simp only [Bool.or_eq_true, Bool.not_eq_true'] at this
            rcases this with h | h
            · have hc2 : (namesOf (ops.toList.getD k default) (as.getD k none')).contains u = true := List.contains_iff_mem.2 hm
              rw [hc2] at h; cases h
            · exact h
          · exact hrest k hk hr hb
        · cases hl
      · cases hl
    · rename_i hc
      obtain ⟨rfl, hrest⟩ := looks_spec js l hl he
      refine ⟨rfl, fun k hk hr hb => ?_⟩
      rcases List.mem_cons.1 hk with rfl | hk
      · rw [hr, hb] at hc; exact absurd rfl hc
      · exact hrest k hk hr hb

/-- The next operation that acts is done on both sides. -/
theorem Inv.step_act (S : Stat P G ops as) (hF : CallsOk P G N call) {e : Nat} {r : List Nat} (I : Inv call P G N ops as s0 σ0 g0 w0 D pre (e :: r) seen s sfin val hole σ g w a) (hacts : (as.getD e none').op.acts = true)
    (hb : ∀ j, bits (Region.before ops).toList e j = true → D j) {K : Act → World → Prop} {Q : Exit → Act → World → Prop}
    (hK : ∀ s' val' σ' g' w' a', Inv call P G N ops as s0 σ0 g0 w0 (fun j => D j ∨ j = e) (pre ++ [e]) r (seen ||| 2 ^ e) s' sfin val' hole σ' g' w' a' → K a' w') : wpOp P ops Q e K a w := by
  obtain ⟨o1, o2, o3, o4, o5⟩ := orderOk_cons I.order
  have hni : e ∉ pre := fun h => by rw [(I.marks e).2 h] at o1; cases o1
  have hbp : ∀ j, bits (Region.before ops).toList e j = true → j ∈ pre := fun j hj => (I.marks j).1 (o3 j hj)
  have hrel := I.relV S o2 hni hbp
  have hnD : ¬ D e := fun h => hni (I.inD e h)
  obtain ⟨m, hm, hev⟩ := I.weaved
  unfold weave at hm
  simp only [hacts, if_true] at hm
  cases hw1 : looks ops.toList as (Region.before ops).toList ((Region.before ops).toList.getD e 0) pre with
  | none => rw [hw1] at hm; cases hm
  | some l =>
  cases hw2 : weave ops.toList as (Region.before ops).toList r (pre ++ [e]) with
  | none => rw [hw1, hw2] at hm; cases hm
  | some m2 =>
  rw [hw1, hw2] at hm
  simp only [Option.some.injEq] at hm
  subst hm
  simp only [evOps] at hev
  obtain ⟨s1, hs1, hrun⟩ := Option.bind_eq_some_iff.1 hev
  rw [evOps_append] at hrun
  obtain ⟨s2, hs2, hrun2⟩ := Option.bind_eq_some_iff.1 hrun
  obtain ⟨rfl, hlooks⟩ := looks_spec _ _ hw1 hs2
  obtain ⟨o, hoi, hno, hod⟩ := S.oper o2
  obtain ⟨hok, hop, hgd, hdst⟩ := normOper_inv hno
  have hops : ∀ x ∈ o.op.operands, VR σ g (s.eval x) (a.eval x) := fun x hx => I.operand_VR S o2 hnD hb hrel hod hx (hok x hx)
  have hne : ∀ k ∈ pre, k ≠ e := fun k hk q => hni (q ▸ hk)
  have fin : ∀ (v : Value) (h1 : Heap) (σ' : Emb) (w' : World) (cv : Value), s2 = s.put (as.getD e none').dst v h1 → Go N σ g w σ' (grow g s.h h1) w' → MR G N σ' (grow g s.h h1) w' → VR σ' (grow g s.h h1) v cv → Holes g s.h h1 → K (a.put o.dst cv) w' := by
    intro v h1 σ' w' cv hs2' hgo hmr hv hho
    rw [← hdst]
    have hh1 : s2.h = h1 := by rw [hs2', put_h]
    obtain ⟨t1, t2⟩ := I.tmpD_put S o2 hnD hgo.ext hv (fun j => if j = e then v else val j) (if_pos rfl) (fun k hk => if_neg (hne k (I.inD k hk)))
    have hput : ∀ t, s2.t.getD t undef = if (as.getD e none').dst = some t ∧ t < s0.t.length then v else s.t.getD t undef := by
      intro t
      rw [hs2']
      cases hd : (as.getD e none').dst with
      | none => simp [St.put]
      | some u =>
        simp only [St.put, Option.some.injEq]
        rw [List.getD_eq_getElem?_getD, List.getElem?_set]
        by_cases hut : u = t
        · subst hut
          by_cases hlt : u < s.t.length
          · rw [if_pos rfl, if_pos hlt, if_pos ⟨rfl, by rw [← I.ssz]; exact hlt⟩]; rfl
          · rw [if_pos rfl, if_neg hlt, if_neg (fun h => hlt (by rw [I.ssz]; exact h.2)), getD_far (by omega)]; rfl
        · rw [if_neg hut, if_neg (fun h => hut h.1), List.getD_eq_getElem?_getD]
    have hssz : s2.t.length = s0.t.length := by rw [hs2']; cases (as.getD e none').dst <;> simp [St.put, I.ssz]
    have htC : ∀ t, (∀ k ∈ pre ++ [e], (as.getD k none').dst = some t → t < s0.t.length → s2.t.getD t undef = (if k = e then v else val k)) ∧ ((∀ k ∈ pre ++ [e], (as.getD k none').dst ≠ some t) → s2.t.getD t undef = s0.t.getD t undef) := by
      intro t
      constructor
      · intro k hk hd hlt
        rw [hput]
        simp only [List.mem_append, List.mem_singleton] at hk
        rcases hk with hk | rfl
        · rw [if_neg (hne k hk), if_neg (fun h => hne k hk (S.uniq (I.lt k hk) o2 hd h.1))]
          exact (I.tmpC t).1 k hk hd hlt
        · rw [if_pos rfl, if_pos ⟨hd, hlt⟩]
      · intro hno
        rw [hput, if_neg (fun h => hno e (by simp) h.1)]
        exact (I.tmpC t).2 fun k hk => hno k (by simp [hk])
    have hnone : ∀ i, i < s0.h.length → g0 i = none → g i = none := by
      intro i hi hg0
      rcases I.grows i with h | ⟨h, _⟩
      · rw [h]; unfold grow; rw [if_pos hi, hg0]
      · exact h
    refine hK s2 (fun j => if j = e then v else val j) σ' _ w' _ ⟨t1, hssz, by rw [put_defers]; exact I.dfr, hmr, by rw [hh1]; exact grow_sub _ _ _, I.go.trans hgo, ?_, ?_, ?_, ?_, ?_, ?_, ?_, ?_, ?_, o5, ⟨m2, hw2, hrun2⟩, ?_, t2, htC, ?_⟩
    · rw [hh1]
      refine ⟨Nat.le_trans I.holes.1 hho.1, fun i hi hg0 => ?_⟩
      rw [hho.2 i (Nat.lt_of_lt_of_le hi I.holes.1) (hnone i hi hg0), I.holes.2 i hi hg0]
    · intro j
      rw [hh1]
      have hle := I.holes.1
      by_cases hj : j < s.h.length
      · cases hgj : g j with
        | none =>
          have hg' : grow g s.h h1 j = none := by unfold grow; rw [if_pos hj, hgj]
          rcases I.grows j with h | ⟨_, k, hk, hDk, hhk⟩
          · left
            rw [hg']
            rw [hgj] at h
            unfold grow at h ⊢
            by_cases h0 : j < s0.h.length
            · rw [if_pos h0] at h ⊢
              cases hg0 : g0 j with
              | none => rfl
              | some x =>
                rw [hg0] at h
                simp only at h
                rw [List.getElem?_eq_getElem hj] at h; cases h
            · rw [if_neg h0] at h
              rw [List.getElem?_eq_getElem hj] at h; cases h
          · right
            exact ⟨hg', k, by simp [hk], fun q => by rcases q with q | q; exact hDk q; exact hne k hk q, hhk⟩
        | some x =>
          left
          have hg' : grow g s.h h1 j = h1[j]? := by unfold grow; rw [if_pos hj, hgj]
          rw [hg']
          rcases I.grows j with h | ⟨h, _⟩
          · rw [hgj] at h
            unfold grow at h ⊢
            by_cases h0 : j < s0.h.length
            · rw [if_pos h0] at h ⊢
              cases hg0 : g0 j with
              | none => rw [hg0] at h; cases h
              | some y => rfl
            · rw [if_neg h0]
          · rw [hgj] at h; cases h
      · left
        unfold grow
        rw [if_neg hj, if_neg (by omega)]
    · intro x hx y hy id hDx hDy h1 h2
      simp only [List.mem_append, List.mem_singleton] at hx hy
      rcases hx with hx | rfl
      · rcases hy with hy | rfl
        · exact I.apart x hx y hy id (fun h => hDx (.inl h)) (fun h => hDy (.inl h)) h1 h2
        · exact absurd (.inr rfl) hDy
      · exact absurd (.inr rfl) hDx
    · rintro j (hj | rfl)
      · exact List.mem_append.2 (.inl (I.inD j hj))
      · simp
    · rintro x y (hx | rfl) hxy
      · exact .inl (I.closed x y hx hxy)
      · exact .inl (hb y hxy)
    · intro j hj
      rcases I.all j hj with h | h
      · exact .inl (List.mem_append.2 (.inl h))
      · rcases List.mem_cons.1 h with rfl | h
        · exact .inl (by simp)
        · exact .inr h
    · intro j hj
      rcases List.mem_append.1 hj with h | h
      · exact I.lt j h
      · rw [List.mem_singleton.1 h]; exact o2
    · intro j
      rw [testBit_or_two, I.marks j, List.mem_append, List.mem_singleton]
    · intro j hj k hk
      rcases List.mem_append.1 hj with h | h
      · exact List.mem_append.2 (.inl (I.preclosed j h k hk))
      · rw [List.mem_singleton.1 h] at hk; exact List.mem_append.2 (.inl (hbp k hk))
    · intro j hj ha
      rcases List.mem_append.1 hj with h | h
      · exact .inl (I.actD j h ha)
      · exact .inr (List.mem_singleton.1 h)
    · intro k hk hDk
      have hkp : k ∈ pre := by
        rcases List.mem_append.1 hk with h | h
        · exact h
        · exact absurd (.inr (List.mem_singleton.1 h)) hDk
      have hnDk : ¬ D k := fun h => hDk (.inl h)
      obtain ⟨ρ, r1, r2, r3⟩ := I.pend k hkp hnDk
      have hbk : bits (Region.before ops).toList k e = false := by
        cases hq : bits (Region.before ops).toList k e with
        | false => rfl
        | true => exact absurd (I.preclosed k hkp e hq) hni
      have hbe : bits (Region.before ops).toList e k = false := by
        cases hq : bits (Region.before ops).toList e k with
        | false => rfl
        | true => exact absurd (hb k hq) hnDk
      refine ⟨ρ, r1.upd v hbk, r2, ?_⟩
      simp only [if_neg (hne k hkp)]
      rw [hh1]
      cases hhk : hole k with
      | some id =>
        rw [hhk] at r3
        simp only at r3 ⊢
        obtain ⟨q1, q2, q3, q4, ob, q5, q6⟩ := r3
        have hlt := (List.getElem?_eq_some_iff.1 q5).1
        exact ⟨q1, by unfold grow; rw [if_pos hlt, q2], q3, q4, ob, by rw [hho.2 id hlt q2]; exact q5, q6⟩
      | none =>
        rw [hhk] at r3
        simp only at r3 ⊢
        split at r3
        · rename_i hwr
          rw [if_pos hwr]
          obtain ⟨q1, q2, q3⟩ := r3
          refine ⟨q1, ?_, q3⟩
          cases hrd : (as.getD k none').op.reads with
          | false => exact q3 hrd _
          | true =>
            obtain ⟨t, ag, l1, l2, l3, l4⟩ := hlooks k hkp hrd hbe
            have hname : ∀ u ∈ nm ops as k, s2.t.getD u undef = ρ (.tmp u) := by
              intro u hu
              by_cases hfar : s0.t.length ≤ u
              · rw [r1.far u hu hfar, getD_far (by rw [hssz]; exact hfar)]
              · by_cases hwx : ∃ q, q < as.length ∧ (as.getD q none').dst = some u
                · obtain ⟨q, hq, hd⟩ := hwx
                  have hbq := l4 q hq u hd hu
                  have hqp := I.preclosed k hkp q hbq
                  rw [(htC u).1 q (by simp [hqp]) hd (by omega), if_neg (hne q hqp), r1.new u hu q hq hd hbq (by omega)]
                · have hno : ∀ q, q < as.length → (as.getD q none').dst = some u → False := fun q hq hd => hwx ⟨q, hq, hd⟩
                  rw [(htC u).2 (fun q hq hd => hno q (by rcases List.mem_append.1 hq with h | h; exact I.lt q h; rw [List.mem_singleton.1 h]; exact o2) hd), r1.old u hu (fun q hq hd => (hno q hq hd).elim)]
            have hopd : ∀ x ∈ (ops.toList.getD k default).op.operands, s2.eval x = ρ x := by
              intro x hx
              cases x with
              | tmp u =>
                refine hname u ?_
                unfold nm namesOf
                refine List.mem_append.2 (.inl ?_)
                rw [List.mem_filterMap]
                exact ⟨.tmp u, Array.mem_toList_iff.2 hx, rfl⟩
              | const c => rw [r1.rest _ (fun t e => by cases e)]; rfl
              | global c => rw [r1.rest _ (fun t e => by cases e)]; rfl
              | func c => rw [r1.rest _ (fun t e => by cases e)]; rfl
            have hwants : wants s2 (as.getD k none').guard = true := by
              rw [wants_wantR]
              unfold wantR at hwr ⊢
              cases hgk : (as.getD k none').guard with
              | none => rfl
              | some p =>
                obtain ⟨u, bb⟩ := p
                rw [hgk] at hwr
                simp only at hwr ⊢
                have : s2.eval (.tmp u) = ρ (.tmp u) := hname u (by unfold nm namesOf; rw [hgk]; exact List.mem_append.2 (.inr (by simp)))
                rw [this]; exact hwr
            obtain ⟨res, hres⟩ := l3 hwants
            rw [hh1] at hres
            obtain ⟨ok', _, hno', hod'⟩ := S.oper (I.lt k hkp)
            obtain ⟨_, hop', _, _⟩ := normOper_inv hno'
            have htv : isTup (s2.eval (.tmp t)) = false → s2.eval (.tmp t) = val k := by
              intro hnt
              by_cases hlt : t < s0.t.length
              · have := (htC t).1 k (by simp [hkp]) l1 hlt
                rw [if_neg (hne k hkp)] at this
                exact this
              · have : s2.eval (.tmp t) = undef := getD_far (by rw [hssz]; omega)
                rw [this] at hnt; simp [undef, isTup] at hnt
            -- which operation it is
            have hload : ∀ x, ((∃ t, (ops.toList.getD k default).op = .load t x)) → s2.eval x = ρ x := by
              rintro x ⟨t, ht⟩
              exact hopd x (by rw [ht]; simp [Op.operands])
            have hsrc : ∀ x, ((as.getD k none').op = .load1 x ∨ ∃ n, (as.getD k none').op = .load n x) → ∃ t, (ops.toList.getD k default).op = .load t x := by
              intro x hx
              rw [hod'] at *
              exact norm_load hop' hx
            cases hopk : (as.getD k none').op <;> rw [hopk] at l2 <;> simp only [AOp.againOf, reduceCtorEq, Option.some.injEq] at l2
            case load1 x =>
              subst l2
              have hx := hload x (hsrc x (.inl hopk))
              simp only [evOp] at hres ⊢
              rw [hx] at hres
              split at hres
              · split at hres
                · rename_i hc
                  rw [hc.1, htv hc.2]; rfl
                · cases hres
              · cases hres
            case load n x =>
              subst l2
              have hx := hload x (hsrc x (.inr ⟨n, hopk⟩))
              simp only [evOp] at hres ⊢
              rw [hx] at hres
              split at hres
              · split at hres
                · rename_i hc
                  have h5 := hc.1
                  rw [htv hc.2] at h5
                  obtain ⟨ll, hll, hagg⟩ := opt_map_some h5
                  rw [hll, ← hagg]; rfl
                · cases hres
              · cases hres
        · rename_i hwr
          rw [if_neg hwr]; exact r3
  unfold wpOp
  rw [hoi]
  simp only
  rw [I.wanted_eq S o2 hnD hb hrel hgd, ← wants_wantR]
  unfold evOper at hs1
  by_cases hw : wants s (as.getD e none').guard = true
  · rw [if_pos hw] at hs1 ⊢
    obtain ⟨⟨v, h1⟩, hv, hs2'⟩ := opt_map_some hs1
    left
    refine op_wp hF I.mr I.sub hop hops (fun v => rfl) (fun f => rfl) hv fun cv w' hd => ?_
    obtain ⟨σ', d1, d2, d3, d4⟩ := hd
    exact fin v h1 σ' w' cv hs2'.symm d1 d2 d3 d4
  · rw [if_neg hw] at hs1 ⊢
    simp only [Option.some.injEq] at hs1
    refine fin undef s.h σ w undef hs1.symm ?_ ?_ (.tuple [] [] .nil) (.refl _ _) <;> rw [grow_same I.sub]
    · exact .refl _ _ _ _
    · exact I.mr
end Go.Proofs.YtjjlbfamfioofaaDoor.AM
