/-
  AM, part 20: codes and functions: what the abstract machine comes to, the model comes to.
  Conditions: none.
-/
import Derived.Test.YtjjlbfamfioofaaDoorAm18
import Derived.LoopN
namespace Go.Proofs.YtjjlbfamfioofaaDoor.AM
open Go.RowKit

set_option linter.unusedSimpArgs false
set_option linter.unusedVariables false
variable {P : Program} {G N : Nat} {σ : Emb} {g : Mem} {w : World} {h : Heap}

def exitOf : AEx → Exit
  | .normal => .normal
  | .exit id => .exit id
  | .ret => .ret

/-- A region does what its list does. -/
def RegionOk (P : Program) (G : Nat) (ords : List (Nat × List Nat)) (id : Nat) (ops : Array Oper) (d : Bool) : Prop :=
  ∀ (N : Nat) (call : Caller), CallsOk P G N call → ∀ l, normRegion P G (ords.lookup id) ops d = some l → ∀ (σ : Emb) (g : Mem) (w : World) (s s' : St) (a : Act) (Q : Exit → Act → World → Prop),
    MR G N σ g w → Sub g s.h → VRs σ g s.t a.tmps.toList → a.defers = [] → evOps call l s = some s' → (∀ a' w', To G N σ g w s.h s' a' w' → Q .normal a' w') → (Code.region id ops d).wp P Q a w

theorem region_plain (ords : List (Nat × List Nat)) (id : Nat) (ops : Array Oper) : RegionOk P G ords id ops false := by
  intro N call hF l hn σ g w s s' a Q hm hs hv hd he hq
  unfold normRegion at hn
  split at hn
  · cases hn
  · rename_i as has
    simp only [Bool.false_eq_true, if_false, Option.some.injEq] at hn
    subst hn
    refine wp_region ?_
    rw [List.range_eq_range']
    exact plain_ops hF has ops.size 0 σ g w s s' a (by omega) hm hs hv hd (by simpa using he) hq

/-- A code does what its reading does. -/
def CodeOk (P : Program) (G : Nat) (F : Funcs) (n : Nat) : Prop :=
  ∀ (N : Nat) (c : Code) (ords : List (Nat × List Nat)) (ac : ACode), normCode P G ords c = some ac → ∀ (s s' : St) (x : AEx), evC F n ac s = some (x, s') → ∀ (σ : Emb) (g : Mem) (w : World) (a : Act) (Q : Exit → Act → World → Prop),
    MR G N σ g w → Sub g s.h → VRs σ g s.t a.tmps.toList → a.defers = [] → (∀ a' w', To G N σ g w s.h s' a' w' → Q (exitOf x) a' w') → c.wp P Q a w

/-- The rounds of a loop. -/
theorem loop_rounds {F : Funcs} {c : Code} {ords : List (Nat × List Nat)} {ac : ACode} (hn : normCode P G ords c = some ac) (n : Nat) (ih : ∀ m, m ≤ n → CodeOk P G F m) : ∀ m, m ≤ n + 1 →
    ∀ (N : Nat) (s s' : St) (x : AEx), evC F m (.loop ac) s = some (x, s') → ∀ (σ : Emb) (g : Mem) (w : World) (a : Act) (Q : Exit → Act → World → Prop),
    MR G N σ g w → Sub g s.h → VRs σ g s.t a.tmps.toList → a.defers = [] → (∀ a' w', To G N σ g w s.h s' a' w' → Q (exitOf x) a' w') → Code.rounds P c Q m a w := by
  intro m
  induction m with
  | zero => intro _ N s s' x he; simp [evC] at he
  | succ m ihm =>
    intro hle N s s' x he σ g w a Q hm hs hv hd hq
    rw [evC] at he
    rw [rounds_succ]
    cases hx : evC F m ac s with
    | none => rw [hx] at he; cases he
    | some p =>
      obtain ⟨y, s1⟩ := p
      rw [hx] at he
      refine ih m (by omega) N c ords ac hn s s1 y hx σ g w a _ hm hs hv hd fun a' w' hto => ?_
      cases y with
      | normal =>
        obtain ⟨σ1, g1, m1, v1, hh1, d1⟩ := hto
        exact ihm (by omega) N s1 s' x he σ1 _ w' a' Q m1 (grow_sub _ _ _) v1 d1 fun a2 w2 ht => hq a2 w2 (To.trans (a₁ := a') hm hs g1 hh1 ht)
      | exit id => simp only [Option.some.injEq, Prod.mk.injEq] at he; obtain ⟨rfl, rfl⟩ := he; exact hq a' w' hto
      | ret => simp only [Option.some.injEq, Prod.mk.injEq] at he; obtain ⟨rfl, rfl⟩ := he; exact hq a' w' hto

theorem code_step (hreg : ∀ ords id ops, RegionOk P G ords id ops true) (F : Funcs) (n : Nat) (hF : ∀ N, CallsOk P G N (evF F n)) (ihs : ∀ m, m ≤ n → CodeOk P G F m) : CodeOk P G F (n + 1) := by
  have ih := ihs n (Nat.le_refl _)
  intro N c
  intro ords ac hn s s' x he σ g w a Q hm hs hv hd hq
  cases c <;> simp only [normCode, reduceCtorEq] at hn
  case skip =>
    simp only [Option.some.injEq] at hn; subst hn
    simp only [evC, Option.some.injEq, Prod.mk.injEq] at he
    obtain ⟨rfl, rfl⟩ := he
    exact wp_skip (hq _ _ (To.refl hm hs hv hd))
  case region id ops d =>
    obtain ⟨l, hl, rfl⟩ := opt_map_some hn
    simp only [evC] at he
    obtain ⟨s1, h1, h2⟩ := opt_map_some he
    simp only [Prod.mk.injEq] at h2
    obtain ⟨rfl, rfl⟩ := h2
    cases d with
    | false => exact region_plain ords id ops N _ (hF N) l hl σ g w s s1 a Q hm hs hv hd h1 hq
    | true => exact hreg ords id ops N _ (hF N) l hl σ g w s s1 a Q hm hs hv hd h1 hq
  case seq c1 c2 =>
    split at hn
    · rename_i a1 a2 h1 h2
      simp only [Option.some.injEq] at hn; subst hn
      rw [evC] at he
      refine wp_seq ?_
      cases hx : evC F n a1 s with
      | none => rw [hx] at he; cases he
      | some p =>
        obtain ⟨y, s1⟩ := p
        rw [hx] at he
        refine ih N c1 ords a1 h1 s s1 y hx σ g w a _ hm hs hv hd fun a' w' hto => ?_
        cases y with
        | normal =>
          obtain ⟨σ1, g1, m1, v1, hh1, d1⟩ := hto
          show c2.wp P Q a' w'
          exact ih N c2 ords a2 h2 s1 s' x he σ1 _ w' a' Q m1 (grow_sub _ _ _) v1 d1 fun a2 w2 ht => hq a2 w2 (To.trans (a₁ := a') hm hs g1 hh1 ht)
        | exit id => simp only [Option.some.injEq, Prod.mk.injEq] at he; obtain ⟨rfl, rfl⟩ := he; exact hq a' w' hto
        | ret => simp only [Option.some.injEq, Prod.mk.injEq] at he; obtain ⟨rfl, rfl⟩ := he; exact hq a' w' hto
    · cases hn
  case cond o c1 c2 =>
    split at hn
    · rename_i a1 a2 h1 h2
      by_cases hok : operandOk G o = true
      case neg => rw [if_neg hok] at hn; cases hn
      rw [if_pos hok] at hn
      simp only [Option.some.injEq] at hn; subst hn
      rw [evC] at he
      have hov := eval_VR hm hv (x := o) hok
      split at he
      · rename_i ho
        rw [ho] at hov
        exact wp_cond_true hov.bool_inv (ih N c1 ords a1 h1 s s' x he σ g w a Q hm hs hv hd hq)
      · rename_i ho
        rw [ho] at hov
        exact wp_cond_false hov.bool_inv (ih N c2 ords a2 h2 s s' x he σ g w a Q hm hs hv hd hq)
      · cases he
    · cases hn
  case block id c1 =>
    obtain ⟨a1, h1, rfl⟩ := opt_map_some hn
    rw [evC] at he
    refine wp_block ?_
    cases hx : evC F n a1 s with
    | none => rw [hx] at he; cases he
    | some p =>
      obtain ⟨y, s1⟩ := p
      rw [hx] at he
      refine ih N c1 ords a1 h1 s s1 y hx σ g w a _ hm hs hv hd fun a' w' hto => ?_
      cases y with
      | normal => simp only [Option.some.injEq, Prod.mk.injEq] at he; obtain ⟨rfl, rfl⟩ := he; exact hq a' w' hto
      | ret => simp only [Option.some.injEq, Prod.mk.injEq] at he; obtain ⟨rfl, rfl⟩ := he; exact hq a' w' hto
      | exit j =>
        simp only [Option.some.injEq, Prod.mk.injEq] at he
        obtain ⟨rfl, rfl⟩ := he
        have h2 := hq a' w' hto
        show (if j = id then Q .normal a' w' else Q (.exit j) a' w')
        by_cases hj : j = id
        · rw [if_pos hj] at h2 ⊢; exact h2
        · rw [if_neg hj] at h2 ⊢; exact h2
  case loop c1 =>
    obtain ⟨a1, h1, rfl⟩ := opt_map_some hn
    rw [evC] at he
    exact wp_loop_rounds (n + 1) (loop_rounds h1 n ihs (n + 1) (Nat.le_refl _) N s s' x (by rw [evC]; exact he) σ g w a Q hm hs hv hd hq)
  case exit id =>
    simp only [Option.some.injEq] at hn; subst hn
    simp only [evC, Option.some.injEq, Prod.mk.injEq] at he
    obtain ⟨rfl, rfl⟩ := he
    exact wp_exit (hq _ _ (To.refl hm hs hv hd))
  case ret =>
    simp only [Option.some.injEq] at hn; subst hn
    simp only [evC, Option.some.injEq, Prod.mk.injEq] at he
    obtain ⟨rfl, rfl⟩ := he
    exact wp_ret (hq _ _ (To.refl hm hs hv hd))
end Go.Proofs.YtjjlbfamfioofaaDoor.AM
