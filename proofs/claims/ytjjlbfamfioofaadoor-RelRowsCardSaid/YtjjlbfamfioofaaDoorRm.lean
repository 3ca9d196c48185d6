/-
  Relations as numbers: which pairs they have. Plain facts, no program in sight.
  Conditions: none.
-/
import Derived.Test.YtjjlbfamfioofaaDoorRa5
namespace Go.Proofs.YtjjlbfamfioofaaDoor.AM
open Go.RowKit
set_option linter.unusedSimpArgs false
set_option linter.unusedVariables false

/-- It has the pair. -/
abbrev Bt (r : Nat → U) (a b : Nat) : Prop := (r a).getLsbD b = true
theorem bool_iff {x y : Bool} : x = y ↔ (x = true ↔ y = true) := by cases x <;> cases y <;> simp
theorem same_of {f g : Nat → U} (h : ∀ a b, a < 32 → b < 32 → (Bt f a b ↔ Bt g a b)) : sameR f g = true :=
  sameR_iff.2 fun k hk => u_ext fun i hi => bool_iff.2 (h k i hk hi)
theorem same_at {f g : Nat → U} (h : sameR f g = true) {a : Nat} (ha : a < 32) (b : Nat) : Bt f a b ↔ Bt g a b := by
  unfold Bt; rw [sameR_iff.1 h a ha]
theorem allOnes_bit {i : Nat} (hi : i < 32) : (BitVec.allOnes 32).getLsbD i = true := by rw [BitVec.getLsbD_allOnes]; simp [hi]
theorem id_bit (s : U) (a : Nat) {b : Nat} (hb : b < 32) : Bt (idR s) a b ↔ s.getLsbD b = true ∧ b = a := by
  unfold Bt idR; rw [BitVec.getLsbD_and, u_one hb, Bool.and_eq_true, decide_eq_true_eq]
theorem cross_bit (s t : U) (a b : Nat) : Bt (crossR s t) a b ↔ s.getLsbD a = true ∧ t.getLsbD b = true := by
  unfold Bt crossR; cases h : s.getLsbD a <;> simp
theorem minus_bit (f g : Nat → U) (a : Nat) {b : Nat} (hb : b < 32) : Bt (minusR f g) a b ↔ Bt f a b ∧ ¬ Bt g a b := by
  unfold Bt minusR; rw [BitVec.getLsbD_and, BitVec.getLsbD_not]; simp [hb]
theorem join_bit (f g : Nat → U) (a b : Nat) : Bt (joinR f g) a b ↔ Bt f a b ∨ Bt g a b := by
  unfold Bt joinR; rw [BitVec.getLsbD_or, Bool.or_eq_true]
theorem foldl_or (rs : List (Nat → U)) (e : Nat) (x : U) (b : Nat) : ((rs.foldl (fun acc r => acc ||| r e) x).getLsbD b = true) ↔ (x.getLsbD b = true ∨ ∃ r ∈ rs, Bt r e b) := by
  induction rs generalizing x with
  | nil => simp
  | cons r rs ih =>
    rw [List.foldl_cons, ih, BitVec.getLsbD_or, Bool.or_eq_true]
    simp only [List.mem_cons, exists_eq_or_imp, or_assoc]
theorem union_bit (rs : List (Nat → U)) (a b : Nat) : Bt (unionK rs) a b ↔ ∃ r ∈ rs, Bt r a b := by
  unfold Bt unionK; rw [foldl_or]; simp
theorem foldl_and (rs : List (Nat → U)) (e : Nat) (x : U) (b : Nat) : ((rs.foldl (fun acc r => acc &&& r e) x).getLsbD b = true) ↔ (x.getLsbD b = true ∧ ∀ r ∈ rs, Bt r e b) := by
  induction rs generalizing x with
  | nil => simp
  | cons r rs ih =>
    rw [List.foldl_cons, ih, BitVec.getLsbD_and, Bool.and_eq_true]
    simp only [List.forall_mem_cons, and_assoc]
theorem meet_bit (rs : List (Nat → U)) {a b : Nat} (ha : a < 32) (hb : b < 32) : Bt (meetK rs) a b ↔ ∀ r ∈ rs, Bt r a b := by
  unfold Bt meetK; rw [foldl_and]
  have : Bt (crossR (BitVec.allOnes 32) (BitVec.allOnes 32)) a b := (cross_bit _ _ a b).2 ⟨allOnes_bit ha, allOnes_bit hb⟩
  exact ⟨fun h => h.2, fun h => ⟨this, h⟩⟩
theorem nextK_bit (s : U) (r : Nat → U) (k b : Nat) : (nextK s r k).getLsbD b = true ↔ ∃ e, e < k ∧ s.getLsbD e = true ∧ Bt r e b := by
  induction k with
  | zero => simp [nextK]
  | succ k ih =>
    rw [nextK]
    constructor
    · intro h
      split at h
      · rename_i hs
        rw [BitVec.getLsbD_or, Bool.or_eq_true, ih] at h
        rcases h with ⟨e, he, h1, h2⟩ | h
        · exact ⟨e, by omega, h1, h2⟩
        · exact ⟨k, by omega, hs, h⟩
      · obtain ⟨e, he, h1, h2⟩ := ih.1 h
        exact ⟨e, by omega, h1, h2⟩
    · rintro ⟨e, he, h1, h2⟩
      by_cases hk : e = k
      · subst hk; rw [if_pos h1, BitVec.getLsbD_or, Bool.or_eq_true]; exact .inr h2
      · have := ih.2 ⟨e, by omega, h1, h2⟩
        split
        · rw [BitVec.getLsbD_or, this]; rfl
        · exact this
theorem next_bit (s : U) (r : Nat → U) (b : Nat) : (nextS s r).getLsbD b = true ↔ ∃ e, e < 32 ∧ s.getLsbD e = true ∧ Bt r e b := nextK_bit s r 32 b
theorem two_bit (f g : Nat → U) (a b : Nat) : Bt (twoR f g) a b ↔ ∃ e, e < 32 ∧ Bt f a e ∧ Bt g e b := next_bit _ _ _
theorem two_id (f : Nat → U) {a : Nat} (ha : a < 32) : twoR (idR (BitVec.allOnes 32)) f a = f a := by
  refine u_ext fun i hi => bool_iff.2 ?_
  rw [show ((twoR (idR (BitVec.allOnes 32)) f a).getLsbD i = true) = Bt (twoR (idR (BitVec.allOnes 32)) f) a i from rfl, two_bit]
  constructor
  · rintro ⟨e, he, h1, h2⟩
    rw [id_bit _ _ he] at h1
    rw [← h1.2]; exact h2
  · intro h
    exact ⟨a, ha, (id_bit _ _ ha).2 ⟨allOnes_bit ha, rfl⟩, h⟩
theorem two_congr {f f' g g' : Nat → U} {a : Nat} (ha : f a = f' a) (hg : ∀ e, e < 32 → g e = g' e) : twoR f g a = twoR f' g' a := by
  refine u_ext fun i hi => bool_iff.2 ?_
  rw [show ((twoR f g a).getLsbD i = true) = Bt (twoR f g) a i from rfl, show ((twoR f' g' a).getLsbD i = true) = Bt (twoR f' g') a i from rfl, two_bit, two_bit]
  unfold Bt
  rw [ha]
  exact ⟨fun ⟨e, he, h1, h2⟩ => ⟨e, he, h1, by rw [← hg e he]; exact h2⟩, fun ⟨e, he, h1, h2⟩ => ⟨e, he, h1, by rw [hg e he]; exact h2⟩⟩
theorem seq2_bit (f g : Nat → U) {a : Nat} (ha : a < 32) (b : Nat) : Bt (seqK [f, g]) a b ↔ ∃ e, e < 32 ∧ Bt f a e ∧ Bt g e b := by
  have : seqK [f, g] a = twoR f g a := two_congr (two_id f ha) fun _ _ => rfl
  unfold Bt; rw [this]; exact two_bit f g a b
theorem seq3_bit (f g k : Nat → U) {a : Nat} (ha : a < 32) (b : Nat) : Bt (seqK [f, g, k]) a b ↔ ∃ e, e < 32 ∧ (∃ d, d < 32 ∧ Bt f a d ∧ Bt g d e) ∧ Bt k e b := by
  have : seqK [f, g, k] = twoR (seqK [f, g]) k := rfl
  rw [this, two_bit]
  simp only [seq2_bit f g ha]
theorem inv_bit' (r : Nat → U) (k : Nat) (hk : k ≤ 32) (b : Nat) {a : Nat} (ha : a < 32) : Bt (invK r k) b a ↔ a < k ∧ Bt r a b := by
  induction k with
  | zero => simp [invK, Bt]
  | succ k ih =>
    have ih := ih (by omega)
    unfold Bt at ih ⊢
    rw [invK]
    simp only
    by_cases hc : (r k).getLsbD b = true
    · rw [if_pos hc, BitVec.getLsbD_or, Bool.or_eq_true, ih, u_one ha, decide_eq_true_eq]
      constructor
      · rintro (⟨h1, h2⟩ | h)
        · exact ⟨by omega, h2⟩
        · subst h; exact ⟨by omega, hc⟩
      · rintro ⟨h1, h2⟩
        by_cases h : a = k
        · exact .inr h
        · exact .inl ⟨by omega, h2⟩
    · rw [if_neg hc, ih]
      constructor
      · rintro ⟨h1, h2⟩; exact ⟨by omega, h2⟩
      · rintro ⟨h1, h2⟩
        have : a ≠ k := by rintro rfl; exact hc h2
        exact ⟨by omega, h2⟩
theorem inv_bit (r : Nat → U) (b : Nat) {a : Nat} (ha : a < 32) : Bt (invR r) b a ↔ Bt r a b := by
  unfold invR; rw [inv_bit' r 32 (Nat.le_refl _) b ha]; simp [ha]
theorem plus_tab (r : Nat → U) (k : Nat) (hk : k ≤ 32) (a b : Nat) : (plusK r k a).getLsbD b = plusT (tabOf r) k a b := by
  induction k generalizing a b with
  | zero => rfl
  | succ k ih =>
    have ih := ih (by omega)
    rw [plusK, plusT]
    simp only
    rw [← ih a b, ← ih a k, ← ih k b]
    split
    · rename_i h; rw [h, BitVec.getLsbD_or]; rfl
    · rename_i h; simp at h; rw [h]; simp

/-! The closure. -/
theorem plusT_up (t : Nat → Nat → Bool) (k : Nat) {a b : Nat} (h : t a b = true) : plusT t k a b = true := by
  induction k with
  | zero => exact h
  | succ k ih => rw [plusT]; simp only; rw [ih]; rfl
theorem plusT_trans (t : Nat → Nat → Bool) (k : Nat) : ∀ a m b, m < k → plusT t k a m = true → plusT t k m b = true → plusT t k a b = true := by
  induction k with
  | zero => intro a m b h; omega
  | succ k ih =>
    intro a m b hm h1 h2
    rw [plusT] at h1 h2 ⊢
    simp only [Bool.or_eq_true, Bool.and_eq_true] at h1 h2 ⊢
    by_cases e : m = k
    · subst e
      have g1 : plusT t m a m = true := by rcases h1 with h | h
                                           · exact h
                                           · exact h.1
      have g2 : plusT t m m b = true := by rcases h2 with h | h
                                           · exact h
                                           · exact h.2
      exact .inr ⟨g1, g2⟩
    · have hmk : m < k := by omega
      rcases h1 with h1 | ⟨h1, h1'⟩
      · rcases h2 with h2 | ⟨h2, h2'⟩
        · exact .inl (ih a m b hmk h1 h2)
        · exact .inr ⟨ih a m k hmk h1 h2, h2'⟩
      · rcases h2 with h2 | ⟨h2, h2'⟩
        · exact .inr ⟨h1, ih k m b hmk h1' h2⟩
        · exact .inr ⟨h1, h2'⟩
theorem plusT_least (t : Nat → Nat → Bool) (S : Nat → Nat → Prop) (hs : ∀ a b, t a b = true → S a b) (k : Nat) (ht : ∀ a m b, m < k → S a m → S m b → S a b) : ∀ a b, plusT t k a b = true → S a b := by
  induction k with
  | zero => exact hs
  | succ k ih =>
    intro a b h
    have ih := ih fun a m b hm => ht a m b (by omega)
    rw [plusT] at h
    simp only [Bool.or_eq_true, Bool.and_eq_true] at h
    rcases h with h | ⟨h1, h2⟩
    · exact ih a b h
    · exact ht a k b (by omega) (ih a k h1) (ih k b h2)
theorem plus_up (r : Nat → U) {a b : Nat} (h : Bt r a b) : Bt (plusR r) a b := by
  unfold Bt plusR; rw [plus_tab r 32 (Nat.le_refl _)]; exact plusT_up _ _ h
theorem plus_trans (r : Nat → U) {a m b : Nat} (hm : m < 32) (h1 : Bt (plusR r) a m) (h2 : Bt (plusR r) m b) : Bt (plusR r) a b := by
  unfold Bt plusR at *; rw [plus_tab r 32 (Nat.le_refl _)] at *; exact plusT_trans _ _ a m b hm h1 h2
theorem plus_least (r : Nat → U) (S : Nat → Nat → Prop) (hs : ∀ a b, Bt r a b → S a b) (ht : ∀ a m b, m < 32 → S a m → S m b → S a b) {a b : Nat} (h : Bt (plusR r) a b) : S a b := by
  unfold Bt plusR at h; rw [plus_tab r 32 (Nat.le_refl _)] at h
  exact plusT_least _ S hs 32 ht a b h
theorem empty_iff (r : Nat → U) : emptyR r = true ↔ ∀ a b, a < 32 → b < 32 → ¬ Bt r a b := by
  unfold emptyR
  constructor
  · intro h a b ha hb hc
    have := (same_at h ha b).1 hc
    simp [Bt] at this
  · intro h
    refine same_of fun a b ha hb => ⟨fun hc => absurd hc (h a b ha hb), fun hc => ?_⟩
    simp [Bt] at hc
theorem irrefl_iff (r : Nat → U) : irreflR r = true ↔ ∀ a, a < 32 → ¬ Bt r a a := by
  unfold irreflR
  rw [empty_iff]
  constructor
  · intro h a ha hc
    refine h a a ha ha ((meet_bit _ ha ha).2 ?_)
    intro q hq
    simp at hq
    rcases hq with rfl | rfl
    · exact hc
    · exact (id_bit _ a ha).2 ⟨allOnes_bit ha, rfl⟩
  · intro h a b ha hb hc
    have := (meet_bit _ ha hb).1 hc
    have h1 := this r (by simp)
    have h2 := (id_bit _ a hb).1 (this (idR (BitVec.allOnes 32)) (by simp))
    rw [h2.2] at h1
    exact h a ha h1
theorem irreflK_iff (r : Nat → U) : irreflK r 32 = true ↔ ∀ a, a < 32 → ¬ Bt r a a := by
  unfold irreflK
  rw [List.all_eq_true]
  simp only [List.mem_range, Bool.not_eq_true', Bt, Bool.not_eq_true]
theorem ofTab_Bt (t : Nat → Nat → Bool) (a : Nat) {b : Nat} (hb : b < 32) : Bt (ofTab t) a b ↔ t a b = true := by unfold Bt; rw [ofTab_bit t a hb]
theorem range_bit (r : Nat → U) (b : Nat) : (rangeR r).getLsbD b = true ↔ ∃ e, e < 32 ∧ Bt r e b := by
  unfold rangeR; rw [next_bit]
  exact ⟨fun ⟨e, he, _, h⟩ => ⟨e, he, h⟩, fun ⟨e, he, h⟩ => ⟨e, he, allOnes_bit he, h⟩⟩
theorem domain_bit (r : Nat → U) {a : Nat} (ha : a < 32) : (domainR r).getLsbD a = true ↔ ∃ b, b < 32 ∧ Bt r a b := by
  unfold domainR; rw [range_bit]
  exact ⟨fun ⟨e, he, h⟩ => ⟨e, he, (inv_bit r e ha).1 h⟩, fun ⟨e, he, h⟩ => ⟨e, he, (inv_bit r e ha).2 h⟩⟩
theorem acyclic_iff (r : Nat → U) : acyclicR r = true ↔ ∀ a, a < 32 → ¬ Bt (plusR r) a a := irrefl_iff _
/-- The document's closure is the program's. -/
theorem same_plus (r : Nat → U) : sameR (plusR r) (ofTab (plusT (tabOf r) 32)) = true := same_of fun a b _ hb => by
  rw [ofTab_Bt _ _ hb]; unfold Bt plusR; rw [plus_tab r 32 (Nat.le_refl _)]
theorem same_inv (r : Nat → U) : sameR (invR r) (ofTab fun a b => (r b).getLsbD a) = true := same_of fun a b _ hb => by
  rw [ofTab_Bt _ _ hb, inv_bit r a hb]
theorem same_union (rs : List (Nat → U)) : sameR (unionK rs) (ofTab (anyT rs)) = true := same_of fun a b _ hb => by
  rw [ofTab_Bt _ _ hb, union_bit]; unfold anyT; rw [List.any_eq_true]
theorem same_meet (rs : List (Nat → U)) : sameR (meetK rs) (ofTab (allT rs)) = true := same_of fun a b ha hb => by
  rw [ofTab_Bt _ _ hb, meet_bit _ ha hb]; unfold allT; rw [List.all_eq_true]
theorem sameR_symm {f g : Nat → U} (h : sameR f g = true) : sameR g f = true := by rw [sameR_iff] at *; exact fun k hk => (h k hk).symm
theorem u_eq0 (x : U) : (((x.toNat : Int) == 0) : Bool) = (x == 0#32) := u_eq x 0#32
theorem u_ne0 (x : U) : (((x.toNat : Int) != 0) : Bool) = (x != 0#32) := u_ne x 0#32
theorem u_nonzero {x : U} (h : x ≠ 0#32) : ∃ e, e < 32 ∧ x.getLsbD e = true := by
  apply Classical.byContradiction
  intro hc
  refine h (u_ext fun i hi => ?_)
  have : ¬ x.getLsbD i = true := fun h => hc ⟨i, hi, h⟩
  rw [Bool.not_eq_true] at this
  rw [this]; simp
theorem evK_pop (s : U) (k : Nat) : (evK s k).length = pop (fun e => s.getLsbD e) k := by
  induction k with
  | zero => rfl
  | succ k ih =>
    rw [evK_succ]
    unfold pop
    split
    · rename_i h; rw [List.length_append, ih]; rfl
    · rename_i h; rw [ih]; rfl
theorem evL_pop (s : U) : (evL s).length = popU s := evK_pop s 32
theorem pop_zero (n : Nat) : pop (fun _ => false) n = 0 := by
  induction n with
  | zero => rfl
  | succ n ih => unfold pop; rw [ih]; rfl
theorem pop_one (c : Bool) (e n : Nat) (he : e < n) : pop (fun k => c && decide (k = e)) n = if c then 1 else 0 := by
  have h1 : n = e + (1 + (n - e - 1)) := by omega
  rw [h1, pop_add, pop_add]
  rw [pop_congr (g := fun _ => false) (fun k hk => by simp; intro _; omega), pop_zero]
  rw [pop_congr (f := fun k => (c && decide (e + (1 + k) = e))) (g := fun _ => false) (fun k hk => by simp), pop_zero]
  unfold pop; unfold pop
  cases c <;> simp
theorem count_cross (a b : U) (k : Nat) : countR (crossR a b) k = pop (fun e => a.getLsbD e) k * popU b := by
  induction k with
  | zero => simp [countR, pop]
  | succ k ih =>
    unfold countR pop
    rw [ih, Nat.add_mul]
    congr 1
    cases h : a.getLsbD k
    · simp only [crossR, h]
      unfold popU
      rw [pop_congr (g := fun _ => false) (fun i _ => by simp), pop_zero]
      simp
    · simp [crossR, h]
theorem count_id (a : U) (k : Nat) (hk : k ≤ 32) : countR (idR a) k = pop (fun e => a.getLsbD e) k := by
  induction k with
  | zero => rfl
  | succ k ih =>
    unfold countR pop
    rw [ih (by omega)]
    congr 1
    unfold popU idR
    rw [← pop_one (a.getLsbD k) k 32 (by omega)]
    refine pop_congr fun i hi => ?_
    rw [BitVec.getLsbD_and, u_one hi]
    by_cases h : i = k
    · subst h; rfl
    · simp [h]
end Go.Proofs.YtjjlbfamfioofaaDoor.AM
