/-
  AM, part 9: every operation that neither acts nor makes memory: the model comes to the same.
  Conditions: none.
-/
import Derived.Test.YtjjlbfamfioofaaDoorAm8
namespace Go.Proofs.YtjjlbfamfioofaaDoor.AM
open Go.RowKit

set_option linter.unusedSimpArgs false
variable {P : Program} {G N : Nat} {σ : Emb} {g : Mem} {w : World}

theorem sameNow_sound {kk : EqK} {d : TypeDesc} (hd : eqK d = some kk) {k j : Value} {b : Bool} (h : leafEq kk k j = some b) : Instr.sameNow d k j = some b := by
  cases d <;> simp only [eqK, Option.some.injEq, reduceCtorEq] at hd <;> subst hd
  · cases k <;> cases j <;> simp [leafEq] at h
    subst h; rfl
  · cases k <;> cases j <;> simp [leafEq] at h
    obtain ⟨rfl, rfl⟩ := h; simp [Instr.sameNow]
  · cases k <;> cases j <;> simp [leafEq] at h
    subst h; rfl
theorem findNow_sound {kk : EqK} {d : TypeDesc} (hd : eqK d = some kk) {k : Value} : ∀ {es : List (Value × Value)} {ms : List MapEntry} (_ : EntriesR σ g es ms) (i : Nat) {r : Option Value}, findKey kk k es = some r →
    (r = none → Instr.findNow d k ms i = some none) ∧ (∀ v, r = some v → ∃ j c, Instr.findNow d k ms i = some (some (j, c)) ∧ VR σ g v c)
  | _, _, .nil, i, r, h => by
    simp only [findKey, Option.some.injEq] at h; subst h
    exact ⟨fun _ => rfl, (fun v h => by cases h)⟩
  | _, _, .cons e m es ms he hs, i, r, h => by
    obtain ⟨kj, v⟩ := e
    unfold findKey at h
    have hkey : m.key = kj := he.key
    cases hq : leafEq kk k kj with
    | none => rw [hq] at h; cases h
    | some b =>
      rw [hq] at h
      have hn := sameNow_sound hd hq
      rw [← hkey] at hn
      cases b with
      | true =>
        simp only [Option.some.injEq] at h; subst h
        refine ⟨(fun h => by cases h), fun u hu => ?_⟩
        cases hu
        exact ⟨i, m.val, by unfold Instr.findNow; rw [hn], he.val⟩
      | false =>
        obtain ⟨h1, h2⟩ := findNow_sound hd hs (i + 1) h
        refine ⟨fun hr => ?_, fun u hu => ?_⟩
        · unfold Instr.findNow; rw [hn]; exact h1 hr
        · obtain ⟨j, c, h3, h4⟩ := h2 u hu
          exact ⟨j, c, by unfold Instr.findNow; rw [hn]; exact h3, h4⟩
theorem checkKey_run {kk : EqK} {d : TypeDesc} (hd : eqK d = some kk) {t : TypeId} (ht : P.underlying t = some d) {k : Value} (hk : keyOk kk k = true) (e : Bool) (n : Nat) : (Instr.checkKey e (n + 1) t k).run P w = .ok () w := by
  cases d <;> simp only [eqK, Option.some.injEq, reduceCtorEq] at hd <;> subst hd <;> cases k <;> simp only [keyOk, Bool.false_eq_true] at hk <;> simp [Instr.checkKey, run_und ht]
theorem keyOk_inv {kk : EqK} {k ck : Value} (hk : keyOk kk k = true) (h : VR σ g k ck) : ck = k := by
  cases kk <;> cases k <;> simp only [keyOk, Bool.false_eq_true] at hk <;> cases h <;> rfl

/-- What a look into a map answers. -/
def lookRes (ok : Bool) (z : Value) : Option Value → Value
  | some v => if ok then tup [v, .bool true] else v
  | none => if ok then tup [z, .bool false] else z
/-- What is looked up in a map. -/
theorem lookup_sound (hm : MR G N σ g w) {h : Heap} (hs : Sub g h) {t kt e : TypeId} {d : TypeDesc} {kk : EqK} (ht : P.underlying t = some (.map kt e)) (hk : P.underlying kt = some d) (hd : eqK d = some kk)
    {z : Value} (hz : zeroVal P e = some z) {m cm k ck : Value} (hvm : VR σ g m cm) (hvk : VR σ g k ck) (hok : keyOk kk k = true) {r : Option Value} {ok : Bool}
    (hr : mapAt h kk k m = some r) :
    ∃ cv, (Instr.lookup t cm ck ok).run P w = .ok cv w ∧ VR σ g (lookRes ok z r) cv := by
  have hck := keyOk_inv hok hvk
  subst hck
  have hzr := fun w => (run_zero hz w).1
  have hzp := (run_zero hz w).2
  have e0 : (10000 : Nat) = 9999 + 1 := rfl
  have fin : ∀ (es : Array MapEntry) (r : Option Value), (r = none → Instr.findNow d ck es.toList 0 = some none) → (∀ v, r = some v → ∃ j c, Instr.findNow d ck es.toList 0 = some (some (j, c)) ∧ VR σ g v c) →
      ∃ cv, (do
        Instr.checkKey es.isEmpty 10000 kt ck
        let (v, ok') ← match ← Instr.findKey kt ck es.toList with
          | some (_, v) => pure (v, true)
          | none => pure (← zeroValue e, false)
        pure (if ok then .tuple #[v, .bool ok'] else v) : Sem Value).run P w = .ok cv w ∧ VR σ g (lookRes ok z r) cv := by
    intro es r h1 h2
    have hc := checkKey_run (w := w) hd hk hok es.isEmpty 9999
    rw [e0]
    simp only [Sem.run_bind, hc, Result.andThen_ok]
    cases r with
    | none =>
      have hf : (Instr.findKey kt ck es.toList).run P w = .ok none w := by
        simp [Instr.findKey, run_und hk, h1 rfl]
      rw [hf]
      simp only [Result.andThen_ok, Sem.run_bind, hzr, Sem.run_pure]
      refine ⟨_, rfl, ?_⟩
      cases ok
      · exact .plain hzp
      · exact .tuple [z, .bool false] [z, .bool false] (.cons _ _ _ _ (.plain hzp) (.cons _ _ _ _ (.bool _) .nil))
    | some v =>
      obtain ⟨j, c, h3, h4⟩ := h2 v rfl
      have hf : (Instr.findKey kt ck es.toList).run P w = .ok (some (j, c)) w := by
        simp [Instr.findKey, run_und hk, h3]
      rw [hf]
      simp only [Result.andThen_ok, Sem.run_pure]
      refine ⟨_, rfl, ?_⟩
      cases ok
      · exact h4
      · exact .tuple [v, .bool true] [c, .bool true] (.cons _ _ _ _ h4 (.cons _ _ _ _ (.bool _) .nil))
  unfold Instr.lookup
  simp only [Sem.run_bind, run_und ht, Result.andThen_ok]
  cases hvm with
  | nilMap =>
    simp only [mapAt, Option.some.injEq] at hr
    subst hr
    have := fin #[] none (fun _ => rfl) (fun v h => by cases h)
    simp only [Sem.run_bind] at this
    simp only [Sem.run_bind, Sem.run_pure, Result.andThen_ok]
    exact this
  | map b s es hg hsb =>
    simp only [mapAt, hs _ _ hg] at hr
    have ho := hm.obj _ _ hg
    cases ho with
    | map _ ms clock hb hw he =>
      rw [← hsb] at hw
      have hgo : (getObj s).run P w = .ok (.map ⟨ms⟩ clock) w := by simp [getObj, Sem.run, hw]
      simp only [Sem.run_bind, hgo, Result.andThen_ok, Sem.run_pure]
      have hf := findNow_sound hd he 0 hr
      have := fin ⟨ms⟩ r hf.1 hf.2
      simp only [Sem.run_bind] at this
      exact this
  | _ => simp [mapAt] at hr
end Go.Proofs.YtjjlbfamfioofaaDoor.AM
