/-
  AM, part 22: what a function of the abstract machine comes to from a memory that is read alone, the model's call comes to: it returns that, and what was there is as it was.
  Conditions: the codes are those that 'normFunc' reads; every object of the first memory is one that is read alone; the answer is flat.
-/
import Derived.Test.YtjjlbfamfioofaaDoorAm19e
import Derived.Test.YtjjlbfamfioofaaDoorAm21
namespace Go.Proofs.YtjjlbfamfioofaaDoor.AM
open Go.RowKit

set_option linter.unusedSimpArgs false
set_option linter.unusedVariables false
variable {P : Program} {G N : Nat} {σ : Emb} {g : Mem} {w : World} {h : Heap}

theorem entry {F : Funcs} (hm : P.follows .mixedOrders = true) (hr : Reads P G F) {f : FuncId} {args cargs : List Value} {h0 h' : Heap} {v : Value} (hd : DF F f args h0 = some (v, h')) (hf : plain1 v = true) (σ : Emb) (W : World)
    (mr : MR G W.heap.size σ (fun i => h0[i]?) W) (hv : VRs σ (fun i => h0[i]?) args cargs) (hro : ∀ o ∈ h0, owns o = false) :
    Calls P f ⟨cargs⟩ W fun e W' => e = .returned v ∧ Go.RowKit.Below W.heap.size W W' := by
  obtain ⟨n, hn⟩ := (DF_iff F _ _ _ _).1 hd
  obtain ⟨_, hc⟩ := ((sound (region_draw hm) hr n).1 W.heap.size) f args h0 v h' hn σ (fun i => h0[i]?) W cargs (fun i o h => h) mr hv
  refine hc.mono fun e W' ⟨cv, he, σ', hgo, hmr, hcv, hh⟩ => ?_
  have key1 : ∀ {σ : Emb} {g : Mem} {u c : Value}, plain1 u = true → VR σ g u c → c = u := by
    intro σ g u c hu hr
    cases hr <;> first | rfl | simp [plain1] at hu
  refine ⟨by rw [he, key1 hf hcv], hgo.os, hgo.tape, hgo.output, hgo.size, fun k hk => hgo.rest k hk ?_⟩
  rintro ⟨i, o, hi, ho, _⟩
  rw [hro o (List.mem_of_getElem? hi)] at ho
  cases ho

/-- From no memory at all. -/
theorem entry0 {F : Funcs} (hm : P.follows .mixedOrders = true) (hr : Reads P 0 F) {f : FuncId} {args : List Value} {h' : Heap} {v : Value} (hd : DF F f args [] = some (v, h')) (hf : plain1 v = true) (ha : ∀ x ∈ args, plain1 x = true) (W : World) :
    Calls P f ⟨args⟩ W fun e W' => e = .returned v ∧ Go.RowKit.Below W.heap.size W W' := by
  have key : ∀ (l : List Value), (∀ x ∈ l, plain1 x = true) → VRs (fun _ => ⟨0, 0, 0⟩) (fun i => ([] : Heap)[i]?) l l := by
    intro l
    induction l with
    | nil => intro _; exact .nil
    | cons x l ih =>
      intro h
      refine .cons _ _ _ _ ?_ (ih fun y hy => h y (by simp [hy]))
      have := h x (by simp)
      unfold plain1 at this
      split at this <;> first | constructor | cases this
  refine entry hm hr hd hf (fun _ => ⟨0, 0, 0⟩) W ⟨fun i o hi => by simp at hi, fun i j o p hi => by simp at hi, fun i hi => by omega, Nat.le_refl _⟩ (key _ ha) fun o ho => by simp at ho
end Go.Proofs.YtjjlbfamfioofaaDoor.AM
