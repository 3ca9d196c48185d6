/-
  AM, part 2: the abstract machine without a bound on its steps: what a code and a function come to, and the equations that hold of it.
  Conditions: none.
-/
import Derived.Test.YtjjlbfamfioofaaDoorAm1
namespace Go.Proofs.YtjjlbfamfioofaaDoor.AM
open Go.RowKit

/-- One answers at least what the other does. -/
def Below (c c' : Caller) : Prop := ∀ f args h r, c f args h = some r → c' f args h = some r

theorem evOp_mono {c c' : Caller} (hc : Below c c') (ρ : Operand → Value) (h : Heap) (o : AOp) (r : Value × Heap) (e : evOp c ρ h o = some r) : evOp c' ρ h o = some r := by
  cases o <;> first | exact e | skip
  case call f as => exact hc _ _ _ _ e
  case callv f as =>
    simp only [evOp] at e ⊢
    split at e
    · exact hc _ _ _ _ e
    · exact e

theorem evOper_mono {c c' : Caller} (hc : Below c c') (o : AOper) (s r : St) (e : evOper c o s = some r) : evOper c' o s = some r := by
  unfold evOper at e ⊢
  split at e
  · rename_i hw
    rw [if_pos hw]
    cases h : evOp c s.eval s.h o.op with
    | none => rw [h] at e; cases e
    | some v => rw [evOp_mono hc _ _ _ _ h]; rw [h] at e; exact e
  · rename_i hw
    rw [if_neg hw]; exact e

theorem evOps_mono {c c' : Caller} (hc : Below c c') (l : List AOper) : ∀ (s r : St), evOps c l s = some r → evOps c' l s = some r := by
  induction l with
  | nil => exact fun s r e => e
  | cons o l ih =>
    intro s r e
    simp only [evOps] at e ⊢
    cases h : evOper c o s with
    | none => rw [h] at e; cases e
    | some s' => rw [evOper_mono hc _ _ _ h]; rw [h] at e; exact ih _ _ e

theorem ev_mono (F : Funcs) (n : Nat) : (∀ c s r, evC F n c s = some r → evC F (n + 1) c s = some r) ∧ Below (evF F n) (evF F (n + 1)) := by
  induction n with
  | zero => exact ⟨fun c s r e => by simp [evC] at e, fun f args h r e => by simp [evF] at e⟩
  | succ n ih =>
    obtain ⟨ihc, ihf⟩ := ih
    constructor
    · intro c s r e
      cases c with
      | skip => simpa [evC] using e
      | ops l =>
        simp only [evC] at e ⊢
        cases h : evOps (evF F n) l s with
        | none => rw [h] at e; cases e
        | some s' => rw [evOps_mono ihf _ _ _ h]; rw [h] at e; exact e
      | seq a b =>
        rw [evC] at e ⊢
        cases h : evC F n a s with
        | none => rw [h] at e; cases e
        | some p =>
          rw [h] at e; rw [ihc _ _ _ h]
          obtain ⟨x, s'⟩ := p
          cases x with
          | normal => exact ihc _ _ _ e
          | exit id => exact e
          | ret => exact e
      | cond c a b =>
        rw [evC] at e ⊢
        split at e
        · exact ihc _ _ _ e
        · exact ihc _ _ _ e
        · cases e
      | block id b =>
        rw [evC] at e ⊢
        cases h : evC F n b s with
        | none => rw [h] at e; cases e
        | some p => rw [ihc _ _ _ h]; rw [h] at e; exact e
      | loop b =>
        rw [evC] at e ⊢
        cases h : evC F n b s with
        | none => rw [h] at e; cases e
        | some p =>
          rw [h] at e; rw [ihc _ _ _ h]
          obtain ⟨x, s'⟩ := p
          cases x with
          | normal => exact ihc _ _ _ e
          | exit id => exact e
          | ret => exact e
      | exit id => simpa [evC] using e
      | ret => simpa [evC] using e
    · intro f args h r e
      rw [evF] at e ⊢
      cases hf : F f with
      | none => rw [hf] at e; cases e
      | some fn =>
        rw [hf] at e
        simp only at e ⊢
        cases hc : evC F n fn.body ⟨args ++ List.replicate (fn.ntmps - args.length) undef, h⟩ with
        | none => rw [hc] at e; cases e
        | some p => rw [ihc _ _ _ hc]; rw [hc] at e; exact e

theorem evC_le (F : Funcs) {n m : Nat} (h : n ≤ m) {c : ACode} {s : St} {r : AEx × St} (e : evC F n c s = some r) : evC F m c s = some r := by
  induction h with
  | refl => exact e
  | step _ ih => exact (ev_mono F _).1 _ _ _ ih
theorem evF_le (F : Funcs) {n m : Nat} (h : n ≤ m) : Below (evF F n) (evF F m) := by
  induction h with
  | refl => exact fun _ _ _ _ e => e
  | step _ ih => exact fun f a x r e => (ev_mono F _).2 _ _ _ _ (ih _ _ _ _ e)

open Classical in
/-- What a code comes to. -/
noncomputable def D (F : Funcs) (c : ACode) (s : St) : Option (AEx × St) := if h : ∃ r n, evC F n c s = some r then some h.choose else none
open Classical in
/-- What a function comes to. -/
noncomputable def DF (F : Funcs) : Caller := fun f args h => if h : ∃ r n, evF F n f args h = some r then some h.choose else none

theorem D_iff (F : Funcs) (c : ACode) (s : St) (r : AEx × St) : D F c s = some r ↔ ∃ n, evC F n c s = some r := by
  unfold D
  constructor
  · intro e
    split at e
    · rename_i h
      obtain ⟨n, hn⟩ := h.choose_spec
      exact ⟨n, by rw [hn]; exact e⟩
    · cases e
  · rintro ⟨n, hn⟩
    have h : ∃ r n, evC F n c s = some r := ⟨r, n, hn⟩
    rw [dif_pos h]
    obtain ⟨m, hm⟩ := h.choose_spec
    have h1 := evC_le F (Nat.le_max_left n m) hn
    have h2 := evC_le F (Nat.le_max_right n m) hm
    rw [h1] at h2
    exact h2.symm
theorem DF_iff (F : Funcs) (f : FuncId) (args : List Value) (h : Heap) (r : Value × Heap) : DF F f args h = some r ↔ ∃ n, evF F n f args h = some r := by
  unfold DF
  constructor
  · intro e
    split at e
    · rename_i h
      obtain ⟨n, hn⟩ := h.choose_spec
      exact ⟨n, by rw [hn]; exact e⟩
    · cases e
  · rintro ⟨n, hn⟩
    have h' : ∃ r n, evF F n f args h = some r := ⟨r, n, hn⟩
    rw [dif_pos h']
    obtain ⟨m, hm⟩ := h'.choose_spec
    have h1 := evF_le F (Nat.le_max_left n m) _ _ _ _ hn
    have h2 := evF_le F (Nat.le_max_right n m) _ _ _ _ hm
    rw [h1] at h2
    exact h2.symm
theorem evF_DF (F : Funcs) (n : Nat) : Below (evF F n) (DF F) := fun _ _ _ _ e => (DF_iff F _ _ _ _).2 ⟨n, e⟩

theorem evOp_lim {F : Funcs} (ρ : Operand → Value) (h : Heap) (o : AOp) (r : Value × Heap) (e : evOp (DF F) ρ h o = some r) : ∃ n, evOp (evF F n) ρ h o = some r := by
  cases o <;> first | exact ⟨0, e⟩ | skip
  case call f as => exact (DF_iff F _ _ _ _).1 e
  case callv f as =>
    simp only [evOp] at e
    split at e
    · obtain ⟨n, hn⟩ := (DF_iff F _ _ _ _).1 e
      rename_i heq
      exact ⟨n, by simp only [evOp, heq]; exact hn⟩
    · cases e
theorem evOper_lim {F : Funcs} (o : AOper) (s r : St) (e : evOper (DF F) o s = some r) : ∃ n, evOper (evF F n) o s = some r := by
  unfold evOper at e ⊢
  split at e
  · rename_i hw
    cases h : evOp (DF F) s.eval s.h o.op with
    | none => rw [h] at e; cases e
    | some v =>
      obtain ⟨n, hn⟩ := evOp_lim _ _ _ _ h
      exact ⟨n, by rw [if_pos hw, hn]; rw [h] at e; exact e⟩
  · rename_i hw
    exact ⟨0, by rw [if_neg hw]; exact e⟩
theorem evOps_lim {F : Funcs} (l : List AOper) : ∀ (s r : St), evOps (DF F) l s = some r → ∃ n, evOps (evF F n) l s = some r := by
  induction l with
  | nil => exact fun s r e => ⟨0, e⟩
  | cons o l ih =>
    intro s r e
    simp only [evOps] at e ⊢
    cases h : evOper (DF F) o s with
    | none => rw [h] at e; cases e
    | some s' =>
      rw [h] at e
      obtain ⟨n, hn⟩ := evOper_lim _ _ _ h
      obtain ⟨m, hm⟩ := ih _ _ e
      refine ⟨max n m, ?_⟩
      rw [evOper_mono (evF_le F (Nat.le_max_left n m)) _ _ _ hn]
      exact evOps_mono (evF_le F (Nat.le_max_right n m)) _ _ _ hm

theorem opt_ext {α : Type} {a b : Option α} (h : ∀ r, a = some r ↔ b = some r) : a = b := by
  cases a with
  | none => cases b with
    | none => rfl
    | some y => exact absurd ((h y).2 rfl) (by simp)
  | some x => exact ((h x).1 rfl).symm

section
variable (F : Funcs) (s : St)
theorem D_skip : D F .skip s = some (.normal, s) := (D_iff _ _ _ _).2 ⟨1, by simp [evC]⟩
theorem D_exit (id : Nat) : D F (.exit id) s = some (.exit id, s) := (D_iff _ _ _ _).2 ⟨1, by simp [evC]⟩
theorem D_ret : D F .ret s = some (.ret, s) := (D_iff _ _ _ _).2 ⟨1, by simp [evC]⟩
theorem D_ops (l : List AOper) : D F (.ops l) s = (evOps (DF F) l s).map fun s' => (.normal, s') := by
  apply opt_ext; intro r
  rw [D_iff]
  constructor
  · rintro ⟨n, hn⟩
    cases n with
    | zero => simp [evC] at hn
    | succ n =>
      simp only [evC] at hn
      cases h : evOps (evF F n) l s with
      | none => rw [h] at hn; cases hn
      | some s' => rw [evOps_mono (evF_DF F n) _ _ _ h]; rw [h] at hn; exact hn
  · intro e
    cases h : evOps (DF F) l s with
    | none => rw [h] at e; cases e
    | some s' =>
      obtain ⟨n, hn⟩ := evOps_lim _ _ _ h
      exact ⟨n + 1, by simp only [evC]; rw [hn]; rw [h] at e; exact e⟩
/-- What comes behind. -/
noncomputable def thenD (F : Funcs) (b : ACode) : Option (AEx × St) → Option (AEx × St)
  | some (.normal, s') => D F b s'
  | r => r
theorem D_seq (a b : ACode) : D F (.seq a b) s = thenD F b (D F a s) := by
  apply opt_ext; intro r
  rw [D_iff]
  constructor
  · rintro ⟨n, hn⟩
    cases n with
    | zero => simp [evC] at hn
    | succ n =>
      rw [evC] at hn
      cases h : evC F n a s with
      | none => rw [h] at hn; cases hn
      | some p =>
        rw [h] at hn
        rw [(D_iff F a s p).2 ⟨n, h⟩]
        obtain ⟨x, s'⟩ := p
        cases x with
        | normal => exact (D_iff _ _ _ _).2 ⟨n, hn⟩
        | exit id => exact hn
        | ret => exact hn
  · intro e
    cases h : D F a s with
    | none => rw [h] at e; cases e
    | some p =>
      rw [h] at e
      obtain ⟨n, hn⟩ := (D_iff _ _ _ _).1 h
      obtain ⟨x, s'⟩ := p
      cases x with
      | normal =>
        obtain ⟨m, hm⟩ := (D_iff _ _ _ _).1 (show D F b s' = some r from e)
        refine ⟨max n m + 1, ?_⟩
        rw [evC, evC_le F (Nat.le_max_left n m) hn]
        exact evC_le F (Nat.le_max_right n m) hm
      | exit id => exact ⟨n + 1, by rw [evC, hn]; exact e⟩
      | ret => exact ⟨n + 1, by rw [evC, hn]; exact e⟩
theorem D_cond (c : Operand) (a b : ACode) : D F (.cond c a b) s = match s.eval c with
    | .bool true => D F a s
    | .bool false => D F b s
    | _ => none := by
  apply opt_ext; intro r
  rw [D_iff]
  constructor
  · rintro ⟨n, hn⟩
    cases n with
    | zero => simp [evC] at hn
    | succ n =>
      rw [evC] at hn
      split at hn
      · rename_i h; rw [h]; exact (D_iff _ _ _ _).2 ⟨n, hn⟩
      · rename_i h; rw [h]; exact (D_iff _ _ _ _).2 ⟨n, hn⟩
      · cases hn
  · intro e
    split at e
    · obtain ⟨n, hn⟩ := (D_iff _ _ _ _).1 e
      rename_i h
      exact ⟨n + 1, by rw [evC, h]; exact hn⟩
    · obtain ⟨n, hn⟩ := (D_iff _ _ _ _).1 e
      rename_i h
      exact ⟨n + 1, by rw [evC, h]; exact hn⟩
    · cases e
/-- The end of a block. -/
def endBlock (id : Nat) : Option (AEx × St) → Option (AEx × St)
  | some (.exit j, s') => some (if j = id then .normal else .exit j, s')
  | r => r
theorem D_block (id : Nat) (b : ACode) : D F (.block id b) s = endBlock id (D F b s) := by
  apply opt_ext; intro r
  rw [D_iff]
  constructor
  · rintro ⟨n, hn⟩
    cases n with
    | zero => simp [evC] at hn
    | succ n =>
      rw [evC] at hn
      cases h : evC F n b s with
      | none => rw [h] at hn; cases hn
      | some p => rw [(D_iff F b s p).2 ⟨n, h⟩]; rw [h] at hn; exact hn
  · intro e
    cases h : D F b s with
    | none => rw [h] at e; cases e
    | some p =>
      obtain ⟨n, hn⟩ := (D_iff _ _ _ _).1 h
      exact ⟨n + 1, by rw [evC, hn]; rw [h] at e; exact e⟩
theorem D_loop (b : ACode) : D F (.loop b) s = thenD F (.loop b) (D F b s) := by
  apply opt_ext; intro r
  rw [D_iff]
  constructor
  · rintro ⟨n, hn⟩
    cases n with
    | zero => simp [evC] at hn
    | succ n =>
      rw [evC] at hn
      cases h : evC F n b s with
      | none => rw [h] at hn; cases hn
      | some p =>
        rw [h] at hn
        rw [(D_iff F b s p).2 ⟨n, h⟩]
        obtain ⟨x, s'⟩ := p
        cases x with
        | normal => exact (D_iff _ _ _ _).2 ⟨n, hn⟩
        | exit id => exact hn
        | ret => exact hn
  · intro e
    cases h : D F b s with
    | none => rw [h] at e; cases e
    | some p =>
      rw [h] at e
      obtain ⟨n, hn⟩ := (D_iff _ _ _ _).1 h
      obtain ⟨x, s'⟩ := p
      cases x with
      | normal =>
        obtain ⟨m, hm⟩ := (D_iff _ _ _ _).1 (show D F (.loop b) s' = some r from e)
        refine ⟨max n m + 1, ?_⟩
        rw [evC, evC_le F (Nat.le_max_left n m) hn]
        exact evC_le F (Nat.le_max_right n m) hm
      | exit id => exact ⟨n + 1, by rw [evC, hn]; exact e⟩
      | ret => exact ⟨n + 1, by rw [evC, hn]; exact e⟩
end
/-- The end of a function's body. -/
noncomputable def endF (h : Heap) (res : List ARes) : Option (AEx × St) → Option (Value × Heap)
  | some (.exit _, _) => none
  | some (_, s) => (aResults s res).map fun v => (v, finish h v s.h)
  | none => none
theorem DF_eq {F : Funcs} {f : FuncId} {fn : AFunc} (hf : F f = some fn) (args : List Value) (h : Heap) :
    DF F f args h = endF h fn.res (D F fn.body ⟨args ++ List.replicate (fn.ntmps - args.length) undef, h⟩) := by
  apply opt_ext; intro r
  rw [DF_iff]
  constructor
  · rintro ⟨n, hn⟩
    cases n with
    | zero => simp [evF] at hn
    | succ n =>
      rw [evF, hf] at hn
      simp only at hn
      cases hc : evC F n fn.body ⟨args ++ List.replicate (fn.ntmps - args.length) undef, h⟩ with
      | none => rw [hc] at hn; cases hn
      | some p => rw [(D_iff F _ _ p).2 ⟨n, hc⟩]; rw [hc] at hn; exact hn
  · intro e
    cases hc : D F fn.body ⟨args ++ List.replicate (fn.ntmps - args.length) undef, h⟩ with
    | none => rw [hc] at e; cases e
    | some p =>
      obtain ⟨n, hn⟩ := (D_iff _ _ _ _).1 hc
      refine ⟨n + 1, ?_⟩
      rw [evF, hf]
      simp only
      rw [hn]; rw [hc] at e; exact e
end Go.Proofs.YtjjlbfamfioofaaDoor.AM
