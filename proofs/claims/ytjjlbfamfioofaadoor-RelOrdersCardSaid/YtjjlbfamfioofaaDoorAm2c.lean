/-
  AM, part 2c: evaluation towards an aim: what a code must come to, what comes behind being data; and the rounds of a loop.
  Conditions: none.
-/
import Derived.Test.YtjjlbfamfioofaaDoorAm2b
namespace Go.Proofs.YtjjlbfamfioofaaDoor.AM
open Go.RowKit

section
variable {F : Funcs}
/-- It comes to something, and that is as asked. -/
def WPD (o : Option (AEx × St)) (Q : AEx → St → Prop) : Prop := ∃ x s, o = some (x, s) ∧ Q x s
/-- What is asked ahead of more code. -/
def contQ (F : Funcs) (b : ACode) (Q : AEx → St → Prop) : AEx → St → Prop
  | .normal, s => WPD (D F b s) Q
  | x, s => Q x s
def blockQ (id : Nat) (Q : AEx → St → Prop) : AEx → St → Prop
  | .exit j, s => Q (if j = id then .normal else .exit j) s
  | x, s => Q x s
def retQ (h : Heap) (res : List ARes) (r : Option (Value × Heap)) : AEx → St → Prop := fun x s => endF h res (some (x, s)) = r
def loopQ (I : Nat → St → Prop) (m : Nat) (Q : AEx → St → Prop) : AEx → St → Prop
  | .normal, s => ∃ m', m' < m ∧ I m' s
  | x, s => Q x s

variable (x : AEx) (s : St) (Q : AEx → St → Prop)
theorem W_some : WPD (some (x, s)) Q = Q x s := by
  unfold WPD; apply propext
  constructor
  · rintro ⟨_, _, h, q⟩; cases h; exact q
  · exact fun q => ⟨_, _, rfl, q⟩
theorem W_seq (a b : ACode) : WPD (D F (.seq a b) s) Q = WPD (D F a s) (contQ F b Q) := by
  rw [D_seq]; unfold WPD; apply propext
  constructor
  · rintro ⟨x, s', h, q⟩
    cases ha : D F a s with
    | none => rw [ha] at h; cases h
    | some p =>
      obtain ⟨y, u⟩ := p
      rw [ha] at h
      refine ⟨y, u, rfl, ?_⟩
      cases y with
      | normal => exact ⟨x, s', h, q⟩
      | exit j => cases h; exact q
      | ret => cases h; exact q
  · rintro ⟨y, u, ha, q⟩
    rw [ha]
    cases y with
    | normal => exact q
    | exit j => exact ⟨_, _, rfl, q⟩
    | ret => exact ⟨_, _, rfl, q⟩
theorem W_block (id : Nat) (b : ACode) : WPD (D F (.block id b) s) Q = WPD (D F b s) (blockQ id Q) := by
  rw [D_block]; unfold WPD; apply propext
  constructor
  · rintro ⟨x, s', h, q⟩
    cases ha : D F b s with
    | none => rw [ha] at h; cases h
    | some p =>
      obtain ⟨y, u⟩ := p
      rw [ha] at h
      refine ⟨y, u, rfl, ?_⟩
      cases y <;> (cases h; exact q)
  · rintro ⟨y, u, ha, q⟩
    rw [ha]
    cases y <;> exact ⟨_, _, rfl, q⟩
theorem Q_cont_normal (b : ACode) : contQ F b Q .normal s = WPD (D F b s) Q := rfl
theorem Q_cont_ret (b : ACode) : contQ F b Q .ret s = Q .ret s := rfl
theorem Q_cont_exit (b : ACode) (j : Nat) : contQ F b Q (.exit j) s = Q (.exit j) s := rfl
theorem Q_block_normal (id : Nat) : blockQ id Q .normal s = Q .normal s := rfl
theorem Q_block_ret (id : Nat) : blockQ id Q .ret s = Q .ret s := rfl
theorem Q_block_exit (id : Nat) : blockQ id Q (.exit id) s = Q .normal s := by simp [blockQ]
theorem Q_block_other (id j : Nat) (h : j ≠ id) : blockQ id Q (.exit j) s = Q (.exit j) s := by simp [blockQ, h]
theorem Q_loop_normal (I : Nat → St → Prop) (m : Nat) : loopQ I m Q .normal s = ∃ m', m' < m ∧ I m' s := rfl
theorem Q_loop_ret (I : Nat → St → Prop) (m : Nat) : loopQ I m Q .ret s = Q .ret s := rfl
theorem Q_loop_exit (I : Nat → St → Prop) (m j : Nat) : loopQ I m Q (.exit j) s = Q (.exit j) s := rfl
theorem Q_ret (h : Heap) (i : Nat) (t : List Value) (r : Option (Value × Heap)) : retQ h [.tmp i] r .ret ⟨t, h⟩ = (some (t.getD i undef, h) = r) := by
  unfold retQ; rw [end_ret]
theorem Q_ret' (h : Heap) (i : Nat) (t : List Value) (r : Option (Value × Heap)) : retQ h [.tmp i] r .normal ⟨t, h⟩ = (some (t.getD i undef, h) = r) := by
  unfold retQ; rw [end_normal]

/-- A function comes to what its body comes to. -/
theorem fun_wp {f : FuncId} {fn : AFunc} (hf : F f = some fn) {args : List Value} {h : Heap} {r : Option (Value × Heap)} (hb : WPD (D F fn.body ⟨args ++ List.replicate (fn.ntmps - args.length) undef, h⟩) (retQ h fn.res r)) : DF F f args h = r := by
  rw [DF_eq hf]
  obtain ⟨x, s, hd, hq⟩ := hb
  rw [hd]; exact hq

/-- The rounds of a loop: what holds ahead of each; each round lowers a number or leaves. -/
theorem loop_wp {b : ACode} {Q : AEx → St → Prop} (I : Nat → St → Prop) (step : ∀ m s, I m s → WPD (D F b s) (loopQ I m Q)) : ∀ m s, I m s → WPD (D F (.loop b) s) Q := by
  intro m
  induction m using Nat.strongRecOn with
  | ind m ih =>
    intro s hI
    obtain ⟨x, s', hd, hq⟩ := step m s hI
    rw [D_loop, hd]
    cases x with
    | normal =>
      obtain ⟨m', hm, hI'⟩ := hq
      exact ih m' hm s' hI'
    | exit j => exact ⟨_, _, rfl, hq⟩
    | ret => exact ⟨_, _, rfl, hq⟩
/-- Places of which nothing is told. -/
theorem junk {l : List Value} {h : Heap} {f : (Nat → Value) → List Value} (e : f (fun i => l.getD i undef) = l) : ∃ j, St.mk l h = ⟨f j, h⟩ := ⟨_, by rw [e]⟩
theorem WPD.mono {o : Option (AEx × St)} {Q Q' : AEx → St → Prop} (h : WPD o Q) (hq : ∀ x s, Q x s → Q' x s) : WPD o Q' := by
  obtain ⟨x, s, e, q⟩ := h; exact ⟨x, s, e, hq _ _ q⟩
end
end Go.Proofs.YtjjlbfamfioofaaDoor.AM
