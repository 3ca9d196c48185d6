/-
  AM, part 18: a statement whose order is Go's own: the model does what the abstract machine does.
  Conditions: none.
-/
import Derived.Test.YtjjlbfamfioofaaDoorAm17
namespace Go.Proofs.YtjjlbfamfioofaaDoor.AM
open Go.RowKit

set_option linter.unusedSimpArgs false
set_option linter.unusedVariables false
variable {P : Program} {G N : Nat} {σ : Emb} {g : Mem} {w : World} {h : Heap}

/-- The state behind, on both sides. -/
def To (G N : Nat) (σ : Emb) (g : Mem) (w : World) (h : Heap) (s' : St) (a' : Act) (w' : World) : Prop :=
  ∃ σ', Go N σ g w σ' (grow g h s'.h) w' ∧ MR G N σ' (grow g h s'.h) w' ∧ VRs σ' (grow g h s'.h) s'.t a'.tmps.toList ∧ Holes g h s'.h ∧ a'.defers = []
theorem grow_ext {σ' : Emb} {h' : Heap} (hs : Sub g h) (he : Ext σ g σ' (grow g h h')) (hg : ∀ i, g i ≠ some .gone) : ∀ i, i < h.length → g i ≠ none → h'[i]? ≠ none := by
  intro i hi hne
  cases hgi : g i with
  | none => exact absurd hgi hne
  | some o =>
    cases o with
    | cells vals ver ro =>
      obtain ⟨vals', ver', h1, _⟩ := he.cells _ _ _ _ hgi
      unfold grow at h1; rw [if_pos hi, hgi] at h1
      simp only at h1
      rw [h1]; simp
    | map es =>
      obtain ⟨es', h1, _⟩ := he.map _ _ hgi
      unfold grow at h1; rw [if_pos hi, hgi] at h1
      simp only at h1
      rw [h1]; simp
    | gone => exact absurd hgi (hg i)
theorem MR.noGone (hm : MR G N σ g w) : ∀ i, g i ≠ some .gone := fun i hi => by cases hm.obj _ _ hi
/-- Two steps, one behind the other. -/
theorem To.trans {s₁ s₂ : St} {a₁ a₂ : Act} {w₁ w₂ : World} {σ₁ : Emb} (hm0 : MR G N σ g w) (hs0 : Sub g h) (hgo : Go N σ g w σ₁ (grow g h s₁.h) w₁) (hh : Holes g h s₁.h)
    (h2 : To G N σ₁ (grow g h s₁.h) w₁ s₁.h s₂ a₂ w₂) : To G N σ g w h s₂ a₂ w₂ := by
  obtain ⟨σ₂, hgo2, hm2, hv2, hh2, hd2⟩ := h2
  have e := grow_trans (h₃ := s₂.h) hh (grow_ext hs0 hgo.ext hm0.noGone)
  rw [e] at hgo2 hm2 hv2
  exact ⟨σ₂, hgo.trans hgo2, hm2, hv2, hh.trans hh2, hd2⟩
theorem To.refl {s : St} {a : Act} (hm : MR G N σ g w) (hs : Sub g s.h) (hv : VRs σ g s.t a.tmps.toList) (hd : a.defers = []) : To G N σ g w s.h s a w := by
  refine ⟨σ, ?_, ?_, ?_, .refl _ _, hd⟩ <;> rw [grow_same hs]
  · exact .refl _ _ _ _
  · exact hm
  · exact hv

theorem eval_VR (hm : MR G N σ g w) {s : St} {a : Act} (hv : VRs σ g s.t a.tmps.toList) {x : Operand} (hx : operandOk G x = true) : VR σ g (s.eval x) (a.eval x) := by
  cases x with
  | tmp t =>
    have := hv.getD t
    simp only [St.eval, Act.eval]
    rw [show a.tmps.getD t undef = a.tmps.toList.getD t undef from by simp [Array.getD_eq_getD_getElem?, List.getD_eq_getElem?_getD]]
    exact this
  | const v => exact .plain hx
  | global g' =>
    obtain ⟨vals, h1, h2, h3⟩ := hm.glob g' (by simpa [operandOk] using hx)
    refine .ptr _ _ 0 vals 0 true rfl h1 (Nat.le_refl _) fun _ => ?_
    simp only
    rw [h2, h3]
  | func f => exact .func _ [] [] [] [] .nil .nil
theorem put_VRs {σ' : Emb} {g' : Mem} {s : St} {a : Act} (hv : VRs σ' g' s.t a.tmps.toList) {v cv : Value} (hvr : VR σ' g' v cv) (d : Option Nat) (h' : Heap) :
    VRs σ' g' (s.put d v h').t (a.put d cv).tmps.toList := by
  cases d with
  | none => exact hv
  | some d =>
    simp only [St.put, Act.put]
    rw [Array.toList_setIfInBounds]
    exact hv.set d hvr
theorem put_h (s : St) (d : Option Nat) (v : Value) (h' : Heap) : (s.put d v h').h = h' := by cases d <;> rfl
theorem put_defers (a : Act) (d : Option Nat) (v : Value) : (a.put d v).defers = a.defers := by cases d <;> rfl

/-- Whether an operation is wanted. -/
theorem wants_iff {s : St} {a : Act} (hv : VRs σ g s.t a.tmps.toList) {ops : Array Oper} {o : Oper} {gd : Option (Nat × Bool)} (hg : normGuard ops o.guard = some gd) :
    Region.wanted o (yielded ops a.tmps) = wants s gd := by
  unfold normGuard at hg
  unfold Region.wanted
  split at hg
  · rename_i hq
    simp only [Option.some.injEq] at hg; subst hg
    rw [hq]; rfl
  · rename_i j b hq
    split at hg
    · rename_i t ht
      simp only [Option.some.injEq] at hg; subst hg
      rw [hq]
      simp only [yielded, ht, Option.bind_some, wants]
      have hg := hv.getD t
      have e : a.tmps[t]? = a.tmps.toList[t]? := by simp
      rw [List.getD_eq_getElem?_getD, List.getD_eq_getElem?_getD] at hg
      rw [e, List.getD_eq_getElem?_getD]
      cases hc : a.tmps.toList[t]? with
      | none =>
        rw [hc] at hg
        cases hu : s.t[t]? with
        | none => rfl
        | some u =>
          obtain ⟨c, hc', _⟩ := hv.get hu
          rw [hc] at hc'; cases hc'
      | some c =>
        obtain ⟨u, hu, _⟩ := hv.get' hc
        rw [hc, hu] at hg
        rw [hu]
        simp only [Option.getD_some] at hg ⊢
        cases hg <;> first | rfl | (rename_i bb; cases bb <;> cases b <;> rfl)
    · cases hg

theorem normOper_inv {ops : Array Oper} {o : Oper} {ao : AOper} (h : normOper P G ops o = some ao) :
    (∀ x ∈ o.op.operands, operandOk G x = true) ∧ normOp P o.type o.op = some ao.op ∧ normGuard ops o.guard = some ao.guard ∧ ao.dst = o.dst := by
  unfold normOper at h
  split at h
  · rename_i hall
    refine ⟨fun x hx => List.all_eq_true.1 hall x (Array.mem_toList_iff.2 hx), ?_⟩
    split at h
    · rename_i a gd ha hg
      simp only [Option.some.injEq] at h
      subst h
      exact ⟨ha, hg, rfl⟩
    · cases h
  · cases h

/-- One operation of a statement. -/
theorem oper_wp {call : Caller} (hF : CallsOk P G N call) (hm : MR G N σ g w) {s s' : St} (hs : Sub g s.h) {a : Act} (hv : VRs σ g s.t a.tmps.toList) (hd : a.defers = []) {ops : Array Oper} {i : Nat} {o : Oper} {ao : AOper} (hi : ops[i]? = some o)
    (hn : normOper P G ops o = some ao) (he : evOper call ao s = some s') {next : Act → World → Prop} {Q : Exit → Act → World → Prop} (hnext : ∀ a' w', To G N σ g w s.h s' a' w' → next a' w') : wpOp P ops Q i next a w := by
  obtain ⟨hok, hop, hgd, hdst⟩ := normOper_inv hn
  unfold wpOp
  rw [hi]
  simp only
  rw [wants_iff hv hgd]
  unfold evOper at he
  by_cases hw : wants s ao.guard = true
  · rw [if_pos hw] at he
    rw [if_pos hw]
    obtain ⟨⟨v, h'⟩, hev, rfl⟩ := opt_map_some he
    left
    refine op_wp hF hm hs hop (fun x hx => eval_VR hm hv (hok x hx)) (fun v => rfl) (fun f => rfl) hev fun cv w' hdone => hnext _ _ ?_
    obtain ⟨σ', h1, h2, h3, h4⟩ := hdone
    rw [hdst]
    refine ⟨σ', ?_, ?_, ?_, ?_, by rw [put_defers]; exact hd⟩ <;> rw [put_h]
    · exact h1
    · exact h2
    · exact put_VRs (hv.ext h1.ext) h3 _ _
    · exact h4
  · rw [if_neg hw] at he
    rw [if_neg hw]
    simp only [Option.some.injEq] at he
    subst he
    refine hnext _ _ ?_
    rw [hdst]
    have := To.refl (s := s.put o.dst undef s.h) (a := a.put o.dst undef) hm (by rw [put_h]; exact hs) (put_VRs hv (.tuple [] [] .nil) _ _) (by rw [put_defers]; exact hd)
    rw [put_h] at this
    exact this

theorem normOpers_get {ops : Array Oper} : ∀ {l : List Oper} {as : List AOper}, normOpers P G ops l = some as → as.length = l.length ∧ ∀ (i : Nat) o, l[i]? = some o → ∃ ao, as[i]? = some ao ∧ normOper P G ops o = some ao
  | [], as, h => by
    simp only [normOpers, Option.some.injEq] at h; subst h
    exact ⟨rfl, fun i o hi => by simp at hi⟩
  | o :: l, as, h => by
    unfold normOpers at h
    split at h
    · rename_i a as' ha has
      simp only [Option.some.injEq] at h; subst h
      obtain ⟨h1, h2⟩ := normOpers_get has
      refine ⟨by simp [h1], fun i q hi => ?_⟩
      cases i with
      | zero => simp at hi; subst hi; exact ⟨a, rfl, ha⟩
      | succ i => exact h2 i q (by simpa using hi)
    · cases h

/-- The operations in the text's order. -/
theorem plain_ops {call : Caller} (hF : CallsOk P G N call) {ops : Array Oper} {as : List AOper} (hn : normOpers P G ops ops.toList = some as) {Q : Exit → Act → World → Prop} : ∀ (k i : Nat) (σ : Emb) (g : Mem) (w : World) (s s' : St) (a : Act),
    i + k = ops.size → MR G N σ g w → Sub g s.h → VRs σ g s.t a.tmps.toList → a.defers = [] → evOps call (as.drop i) s = some s' → (∀ a' w', To G N σ g w s.h s' a' w' → Q .normal a' w') → wpOps P ops Q (List.range' i k) a w := by
  obtain ⟨hlen, hget⟩ := normOpers_get hn
  intro k
  induction k with
  | zero =>
    intro i σ g w s s' a hik hm hs hv hd he hq
    rw [List.drop_eq_nil_of_le (by rw [hlen]; simp; omega)] at he
    simp only [evOps, Option.some.injEq] at he
    subst he
    exact hq _ _ (To.refl hm hs hv hd)
  | succ k ih =>
    intro i σ g w s s' a hik hm hs hv hd he hq
    have hilt : i < ops.size := by omega
    obtain ⟨ao, hao, hno⟩ := hget i ops[i] (by simp [hilt])
    have hdrop : as.drop i = ao :: as.drop (i + 1) := by
      have hlt : i < as.length := by rw [hlen]; simpa using hilt
      rw [List.drop_eq_getElem_cons hlt]
      congr 1
      exact (List.getElem?_eq_some_iff.1 hao).2
    rw [hdrop] at he
    simp only [evOps] at he
    obtain ⟨s1, h1, h2⟩ := Option.bind_eq_some_iff.1 he
    rw [List.range'_succ, wpOps_cons]
    refine oper_wp hF hm hs hv hd (by simp [hilt]) hno h1 fun a1 w1 hto => ?_
    obtain ⟨σ1, g1, m1, v1, hh1, d1⟩ := hto
    exact ih (i + 1) σ1 _ w1 s1 s' a1 (by omega) m1 (grow_sub _ _ _) v1 d1 h2 fun a' w' ht => hq a' w' (To.trans (a₁ := a1) hm hs g1 hh1 ht)
end Go.Proofs.YtjjlbfamfioofaaDoor.AM
