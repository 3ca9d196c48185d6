/-
  AM, part 25: counted loops; sets of 32 as numbers without a sign; rows of them.
    Conditions: none.
-/
import Derived.Test.YtfbldlgjlgcpoaaDoorAa
namespace Go.Proofs.YtfbldlgjlgcpoaaDoor.AM
open Go.RowKit
set_option linter.unusedSimpArgs false
set_option linter.unusedVariables false

section
variable {F : Funcs}
/-- What is asked of one round. -/
def forQ (J : St → Prop) (Q : AEx → St → Prop) : AEx → St → Prop
  | .normal, s => J s
  | x, s => Q x s
theorem Q_for_normal (J : St → Prop) (Q : AEx → St → Prop) (s : St) : forQ J Q .normal s = J s := rfl
theorem Q_for_exit (J : St → Prop) (Q : AEx → St → Prop) (i : Nat) (s : St) : forQ J Q (.exit i) s = Q (.exit i) s := rfl
theorem Q_for_ret (J : St → Prop) (Q : AEx → St → Prop) (s : St) : forQ J Q .ret s = Q .ret s := rfl
theorem for_wp {b : ACode} {Q : AEx → St → Prop} (n : Nat) (I : Nat → St → Prop) (step : ∀ k s, k < n → I k s → WPD (D F b s) (forQ (I (k + 1)) Q)) (last : ∀ s, I n s → WPD (D F b s) (forQ (fun _ => False) Q)) (s : St) (h0 : I 0 s) : WPD (D F (.loop b) s) Q := by
  refine loop_wp (fun m s => ∃ k, m + k = n + 1 ∧ ((k ≤ n ∧ I k s) ∨ (n < k ∧ False))) ?_ (n + 1) s ⟨0, by omega, .inl ⟨Nat.zero_le _, h0⟩⟩
  rintro m s ⟨k, hm, ⟨hk, hI⟩ | ⟨_, hf⟩⟩
  · by_cases hlt : k < n
    · refine (step k s hlt hI).mono fun x s' hq => ?_
      cases x with
      | normal => exact ⟨m - 1, by omega, k + 1, by omega, .inl ⟨by omega, hq⟩⟩
      | exit i => exact hq
      | ret => exact hq
    · have : k = n := by omega
      subst this
      refine (last s hI).mono fun x s' hq => ?_
      cases x with
      | normal => exact hq.elim
      | exit i => exact hq
      | ret => exact hq
  · exact hf.elim
/-- It leaves by that exit, and so. -/
def outQ (id : Nat) (P : St → Prop) : AEx → St → Prop := fun x s => x = .exit id ∧ P s
theorem Q_out (id : Nat) (P : St → Prop) (s : St) : outQ id P (.exit id) s = P s := by unfold outQ; simp
theorem for_out {b : ACode} {Q : AEx → St → Prop} (id n : Nat) (I : Nat → St → Prop) (P : St → Prop) (step : ∀ k s, k < n → I k s → WPD (D F b s) (forQ (I (k + 1)) (outQ id P))) (last : ∀ s, I n s → WPD (D F b s) (forQ (fun _ => False) (outQ id P))) (s : St) (h0 : I 0 s) (hq : ∀ s, P s → Q (.exit id) s) : WPD (D F (.loop b) s) Q :=
  (for_wp n I step last s h0).mono fun x s ⟨hx, hp⟩ => by subst hx; exact hq s hp
/-- A step down. -/
theorem W_forQ {o : Option (AEx × St)} {J : St → Prop} {Q : AEx → St → Prop} (h : WPD o Q) (hn : ∀ s, ¬ Q .normal s) : WPD o (forQ J Q) := h.mono fun x s q => by
  cases x with
  | normal => exact (hn s q).elim
  | _ => exact q
end

theorem wrapS {n : Int} (h : -9223372036854775808 ≤ n ∧ n ≤ 9223372036854775807) : IntKind.i64.wrap n = n := wrap_in (by unfold W; exact h)
abbrev U := BitVec 32
theorem wrap_u32 (x : U) : IntKind.u32.wrap (x.toNat : Int) = x.toNat := by
  have := x.isLt
  simp [IntKind.wrap, IntKind.signed, IntKind.bits]; omega
theorem ofInt_u (x : U) : BitVec.ofInt 32 (x.toNat : Int) = x := by
  rw [BitVec.ofInt_natCast]; simp
theorem u_or (x y : U) : Go.bits .or .u32 x.toNat y.toNat = ((x ||| y).toNat : Int) := by
  unfold Go.bits; simp only [IntKind.bits, ofInt_u]; exact wrap_u32 _
theorem u_and (x y : U) : Go.bits .and .u32 x.toNat y.toNat = ((x &&& y).toNat : Int) := by
  unfold Go.bits; simp only [IntKind.bits, ofInt_u]; exact wrap_u32 _
theorem u_andNot (x y : U) : Go.bits .andNot .u32 x.toNat y.toNat = ((x &&& ~~~ y).toNat : Int) := by
  unfold Go.bits; simp only [IntKind.bits, ofInt_u]; exact wrap_u32 _
theorem u_shl (x : U) (k : Int) : shl .u32 x.toNat k = ((x <<< k.toNat).toNat : Int) := by
  unfold shl
  have e : IntKind.u32.wrap ((x.toNat : Int) * 2 ^ min k.toNat IntKind.u32.bits) = ((x.toNat * 2 ^ min k.toNat 32 % 2 ^ 32 : Nat) : Int) := by
    simp [IntKind.wrap, IntKind.signed, IntKind.bits]
  rw [e, BitVec.toNat_shiftLeft, Nat.shiftLeft_eq]
  congr 1
  by_cases h : k.toNat ≤ 32
  · rw [Nat.min_eq_left h]
  · rw [Nat.min_eq_right (by omega)]
    have h1 : k.toNat = 32 + (k.toNat - 32) := by omega
    rw [h1, Nat.pow_add]
    rw [Nat.mul_mod_left, ← Nat.mul_assoc, Nat.mul_comm x.toNat, Nat.mul_assoc, Nat.mul_mod_right]
theorem u_shl1 (k : Int) : shl .u32 1 k = ((1#32 <<< k.toNat).toNat : Int) := u_shl 1#32 k
theorem u_shr (x : U) (k : Int) : shr .u32 x.toNat k = ((x >>> k.toNat).toNat : Int) := by
  unfold shr
  rw [fdiv_pow, BitVec.toNat_ushiftRight]
  have : ((x.toNat : Int) >>> min k.toNat IntKind.u32.bits) = ((x.toNat >>> min k.toNat 32 : Nat) : Int) := rfl
  rw [this]
  congr 1
  by_cases h : k.toNat ≤ 32
  · rw [Nat.min_eq_left h]
  · rw [Nat.min_eq_right (by omega), Nat.shiftRight_eq_div_pow, Nat.shiftRight_eq_div_pow, Nat.div_eq_of_lt x.isLt, Nat.div_eq_of_lt (Nat.lt_of_lt_of_le x.isLt (Nat.pow_le_pow_right (by omega) (by omega)))]
theorem u_and1 (x : U) : Go.bits .and .u32 x.toNat 1 = ((x &&& 1#32).toNat : Int) := u_and x 1#32
/-- A bit is asked for. -/
theorem u_bit (x : U) (k : Int) : (Go.bits .and .u32 (shr .u32 x.toNat k) 1 == 1) = x.getLsbD k.toNat := by
  rw [u_shr, u_and1]
  have : (x >>> k.toNat) &&& 1#32 = if x.getLsbD k.toNat then 1#32 else 0#32 := by
    apply BitVec.eq_of_getLsbD_eq
    intro i hi
    rw [BitVec.getLsbD_and, BitVec.getLsbD_ushiftRight, BitVec.getLsbD_one]
    by_cases h : i = 0
    · subst h; cases x.getLsbD k.toNat <;> simp
    · have : decide (i = 0) = false := by simp [h]
      cases x.getLsbD k.toNat <;> simp [h]
  rw [this]
  cases x.getLsbD k.toNat <;> rfl
theorem u_eq (x y : U) : (((x.toNat : Int) == (y.toNat : Int)) : Bool) = (x == y) := by
  by_cases h : x = y
  · subst h; simp
  · have : x.toNat ≠ y.toNat := fun e => h (BitVec.eq_of_toNat_eq e)
    have h1 : (x == y) = false := by simp [h]
    rw [h1, beq_eq_false_iff_ne]; omega
theorem u_ne (x y : U) : (((x.toNat : Int) != (y.toNat : Int)) : Bool) = (x != y) := by rw [bne, bne, u_eq]
theorem u_of {n : Int} (h : (Lit.int .u32 n).wf = true) : ∃ x : U, n = x.toNat := by
  simp [Lit.wf, IntKind.min, IntKind.max, IntKind.signed, IntKind.bits] at h
  refine ⟨BitVec.ofInt 32 n, ?_⟩
  rw [BitVec.toNat_ofInt]
  omega
theorem u_ext {x y : U} (h : ∀ i, i < 32 → x.getLsbD i = y.getLsbD i) : x = y := BitVec.eq_of_getLsbD_eq h
theorem u_one {e i : Nat} (hi : i < 32) : (1#32 <<< e).getLsbD i = decide (i = e) := by
  rw [BitVec.getLsbD_shiftLeft, BitVec.getLsbD_one]
  by_cases h : i = e
  · subst h; simp [hi]
  · by_cases h2 : i < e
    · simp [h2, h]
    · simp [h, hi]; omega

/-! Relations: by event a set. -/
def relV (f : Nat → U) : List Value := rowOf 32 fun e => .int .u32 ((f e).toNat : Int)
theorem relV_len (f : Nat → U) : (relV f).length = 32 := rowOf_len _ _
theorem relV_get {f : Nat → U} {k : Nat} (hk : k < 32) : (relV f)[k]? = some (.int .u32 ((f k).toNat : Int)) := rowOf_get hk
theorem relV_congr {f g : Nat → U} (h : ∀ k, k < 32 → f k = g k) : relV f = relV g := rowOf_congr fun k hk => by rw [h k hk]
theorem relV_set (f : Nat → U) (k : Nat) (x : U) : (relV f).set k (.int .u32 (x.toNat : Int)) = relV (fun e => if e = k then x else f e) := by
  unfold relV; rw [rowOf_set]; apply rowOf_congr; intro i _; by_cases h : i = k <;> simp [h]
theorem relV_plain (f : Nat → U) : (relV f).all plain1 = true := rowOf_all _ fun _ _ => rfl
theorem relV_zero : List.replicate 32 (.int .u32 0) = relV (fun _ => 0#32) := rowOf_rep 32 _
theorem flat_rel (f : Nat → U) : flat (agg (relV f)) = true := by
  have := relV_plain f
  simp [flat, plain, agg] at this ⊢; exact this
theorem relV_inj {f g : Nat → U} (h : relV f = relV g) {k : Nat} (hk : k < 32) : f k = g k := by
  have := rowOf_inj h hk
  simp only [Value.int.injEq, true_and] at this
  exact BitVec.eq_of_toNat_eq (by omega)

/-- Those before k by A, the others by B. -/
def mix {α : Type} (k : Nat) (A B : Nat → α) (e : Nat) : α := if e < k then A e else B e
theorem mix_zero {α : Type} (A B : Nat → α) : mix 0 A B = B := by funext e; simp [mix]
theorem mix_at {α : Type} (k : Nat) (A B : Nat → α) : mix k A B k = B k := by simp [mix]
theorem mix_lt {α : Type} {k e : Nat} (A B : Nat → α) (h : e < k) : mix k A B e = A e := by simp [mix, h]
theorem mix_ge {α : Type} {k e : Nat} (A B : Nat → α) (h : ¬ e < k) : mix k A B e = B e := by simp [mix, h]
theorem rowOf_mixset {α : Type} {n : Nat} (k : Nat) (A B : Nat → α) : (rowOf n (mix k A B)).set k (A k) = rowOf n (mix (k + 1) A B) := by
  rw [rowOf_set]
  apply rowOf_congr
  intro i _
  by_cases h : i = k
  · subst h; simp [mix]
  · rw [if_neg h]
    by_cases h2 : i < k
    · rw [mix_lt _ _ h2, mix_lt _ _ (by omega)]
    · rw [mix_ge _ _ h2, mix_ge _ _ (by omega)]
theorem rowOf_mixskip {α : Type} {n k : Nat} {A B : Nat → α} (h : A k = B k) : rowOf n (mix k A B) = rowOf n (mix (k + 1) A B) := by
  apply rowOf_congr
  intro i _
  by_cases h1 : i = k
  · subst h1; simp [mix, h]
  · by_cases h2 : i < k
    · rw [mix_lt _ _ h2, mix_lt _ _ (by omega)]
    · rw [mix_ge _ _ h2, mix_ge _ _ (by omega)]
theorem rowOf_mixall {α : Type} (n : Nat) (A B : Nat → α) : rowOf n (mix n A B) = rowOf n A := rowOf_congr fun k hk => mix_lt _ _ hk
theorem relV_mixset (k : Nat) (A B : Nat → U) : (relV (mix k A B)).set k (.int .u32 ((A k).toNat : Int)) = relV (mix (k + 1) A B) := by
  rw [relV_set]
  apply relV_congr
  intro i _
  by_cases h : i = k
  · subst h; simp [mix]
  · rw [if_neg h]
    by_cases h2 : i < k
    · rw [mix_lt _ _ h2, mix_lt _ _ (by omega)]
    · rw [mix_ge _ _ h2, mix_ge _ _ (by omega)]
theorem relV_mixput {k : Nat} {A B : Nat → U} {x : U} (hx : A k = x) : (relV (mix k A B)).set k (.int .u32 (x.toNat : Int)) = relV (mix (k + 1) A B) := by rw [← hx, relV_mixset]
theorem relV_mixskip {k : Nat} {A B : Nat → U} (h : A k = B k) : relV (mix k A B) = relV (mix (k + 1) A B) := by
  apply relV_congr
  intro i _
  by_cases h1 : i = k
  · subst h1; simp [mix, h]
  · by_cases h2 : i < k
    · rw [mix_lt _ _ h2, mix_lt _ _ (by omega)]
    · rw [mix_ge _ _ h2, mix_ge _ _ (by omega)]
theorem relV_mixall (A B : Nat → U) : relV (mix 32 A B) = relV A := relV_congr fun k hk => mix_lt _ _ hk
theorem arr_nat (h : Heap) {len size b o : Nat} {s : Option Nat} {kk : IntKind} {k : Nat} (h1 : k < len) : arrO h len size (.pointer (some ⟨b, o, s⟩)) (.int kk (k : Int)) = some (.pointer (some ⟨b, o + k * size, s⟩), h) := by
  rw [arr_some h (by omega) (by omega), Int.toNat_natCast]
theorem row_nat (h : Heap) {size : Nat} {p : Addr} {n : Nat} {kk : IntKind} {k : Nat} (h1 : k < n) : rowO h size (.slice (some p) n size) (.int kk (k : Int)) = some (.pointer (some ⟨p.block, p.off + k * size, p.spot⟩), h) := by
  rw [row_some h (by omega) (by omega), Int.toNat_natCast]
theorem laid_agg (l : List Value) : laid (agg l) = some l := by simp [laid, agg]
theorem box_some (h : Heap) {n : Nat} {l : List Value} (hl : l.length = n) : boxO h n (some l) = some (.pointer (some ⟨h.length, 0, some 0⟩), h ++ [.cells l 0 false]) := by simp [boxO, hl]
theorem wrap_nat {k : Nat} (h : k < 9223372036854775807) : IntKind.i64.wrap ((k : Int) + 1) = ((k + 1 : Nat) : Int) := by rw [wrap_in (by unfold W; omega)]; omega
theorem junkA {l : List Value} {h : Heap} {f : (Nat → Value) → List Value} {C : Prop} (e : f (fun i => l.getD i undef) = l) (c : C) : ∃ j, St.mk l h = ⟨f j, h⟩ ∧ C := ⟨_, by rw [e], c⟩
theorem junkh {l : List Value} {h h' : Heap} {f : (Nat → Value) → List Value} (e : f (fun i => l.getD i undef) = l) (eh : h = h') : ∃ j, St.mk l h = ⟨f j, h'⟩ := ⟨_, by rw [e, eh]⟩
open Classical in
/-- Read again, as it was. -/
noncomputable def againO (h : Heap) (n : Nat) : Value → Value → Option (Value × Heap)
  | .pointer (some p), v => if (h.read p n).map agg = some v ∧ isTup v = false then some (undef, h) else none
  | _, _ => none
open Classical in
theorem O_again {call : Caller} (t : List Value) (h' h : Heap) (n : Nat) (a : Operand) (i : Nat) : evOp call (St.eval ⟨t, h'⟩) h (.again n a i) = againO h n (St.eval ⟨t, h'⟩ a) (t.getD i undef) := by
  simp only [evOp]
  show (match St.eval ⟨t, h'⟩ a with | .pointer (some p) => if (h.read p n).map agg = some (t.getD i undef) ∧ isTup (t.getD i undef) = false then some (undef, h) else none | _ => none) = _
  generalize St.eval ⟨t, h'⟩ a = x
  cases x with
  | pointer p => cases p <;> rfl
  | _ => rfl
theorem again_agg {h : Heap} {n : Nat} {p : Addr} {l : List Value} (hr : h.read p n = some l) : againO h n (.pointer (some p)) (agg l) = some (undef, h) := by
  simp only [againO, hr, Option.map_some, true_and]; rfl
open Classical in
noncomputable def again1O (h : Heap) : Value → Value → Option (Value × Heap)
  | .pointer (some p), v => if h.read1 p = some v ∧ isTup v = false then some (undef, h) else none
  | _, _ => none
open Classical in
theorem O_again1 {call : Caller} (t : List Value) (h' h : Heap) (a : Operand) (i : Nat) : evOp call (St.eval ⟨t, h'⟩) h (.again1 a i) = again1O h (St.eval ⟨t, h'⟩ a) (t.getD i undef) := by
  simp only [evOp]
  show (match St.eval ⟨t, h'⟩ a with | .pointer (some p) => if h.read1 p = some (t.getD i undef) ∧ isTup (t.getD i undef) = false then some (undef, h) else none | _ => none) = _
  generalize St.eval ⟨t, h'⟩ a = x
  cases x with
  | pointer p => cases p <;> rfl
  | _ => rfl
def eqAggO (h : Heap) (neg : Bool) (ks : List EqK) : Value → Value → Option (Value × Heap)
  | .agg a, .agg b => if a.size = ks.length ∧ b.size = ks.length then (rowEq ks a.toList b.toList).map fun b => (.bool (b != neg), h) else none
  | _, _ => none
theorem O_eqAgg {call : Caller} (ρ : Operand → Value) (h : Heap) (neg : Bool) (ks : List EqK) (x y : Operand) : evOp call ρ h (.eqAgg neg ks x y) = eqAggO h neg ks (ρ x) (ρ y) := by
  simp only [evOp]; generalize ρ x = x; generalize ρ y = y; cases x <;> cases y <;> rfl
theorem eqAgg_some (h : Heap) {neg : Bool} {ks : List EqK} {a b : List Value} {r : Bool} (ha : a.length = ks.length) (hb : b.length = ks.length) (hr : rowEq ks a b = some r) : eqAggO h neg ks (agg a) (agg b) = some (.bool (r != neg), h) := by
  simp [eqAggO, agg, ha, hb, hr]
theorem rowEq_u32 (a b : List U) (hl : a.length = b.length) : rowEq (List.replicate a.length .int) (a.map fun x => .int .u32 (x.toNat : Int)) (b.map fun x => .int .u32 (x.toNat : Int)) = some (a == b) := by
  induction a generalizing b with
  | nil => cases b with
    | nil => rfl
    | cons y b => simp at hl
  | cons x a ih => cases b with
    | nil => simp at hl
    | cons y b =>
      simp only [List.length_cons, List.replicate_succ, List.map_cons, rowEq, leafEq, if_true]
      rw [u_eq]
      by_cases h : x = y
      · subst h
        simp only [beq_self_eq_true]
        rw [ih b (by simpa using hl)]
        simp
      · have : (x == y) = false := by simp [h]
        rw [this]; simp [h]
/-- The two are the same relation. -/
def sameR (f g : Nat → U) : Bool := rowOf 32 f == rowOf 32 g
theorem eq_rel (h : Heap) (neg : Bool) (f g : Nat → U) : eqAggO h neg (List.replicate 32 .int) (agg (relV f)) (agg (relV g)) = some (.bool (sameR f g != neg), h) := by
  refine eqAgg_some h (by rw [relV_len]; simp) (by rw [relV_len]; simp) ?_
  have := rowEq_u32 (rowOf 32 f) (rowOf 32 g) (by rw [rowOf_len, rowOf_len])
  rw [rowOf_len] at this
  have e : ∀ f : Nat → U, (rowOf 32 f).map (fun x => Value.int .u32 (x.toNat : Int)) = relV f := fun f => by unfold relV rowOf; rw [List.map_map]; rfl
  rw [e, e] at this
  exact this
theorem sameR_iff {f g : Nat → U} : sameR f g = true ↔ ∀ k, k < 32 → f k = g k := by
  unfold sameR
  rw [beq_iff_eq]
  exact ⟨fun h k hk => rowOf_inj h hk, fun h => rowOf_congr h⟩
theorem sameR_self (f : Nat → U) : sameR f f = true := sameR_iff.2 fun _ _ => rfl

/-- The end of a function that answers a row of cells. -/
noncomputable def cellsE (h H : Heap) (n : Nat) : Value → Option (Value × Heap)
  | .pointer (some p) => match H.read p n with
    | some l => some (agg l, finish h (agg l) H)
    | none => none
  | _ => none
noncomputable def outE (h H : Heap) : Option (List Value) → Option (Value × Heap)
  | some l => some (agg l, finish h (agg l) H)
  | none => none
theorem Q_cellsE (h H : Heap) (i n : Nat) (t : List Value) (r : Option (Value × Heap)) : retQ h [.cells i n] r .ret ⟨t, H⟩ = (cellsE h H n (t.getD i undef) = r) := by
  simp only [retQ, endF, aResults, aRes]
  congr 1
  generalize t.getD i undef = x
  cases x with
  | pointer p =>
    cases p with
    | none => rfl
    | some p => simp only [cellsE]; cases H.read p n <;> rfl
  | _ => rfl
theorem cellsE_ptr (h H : Heap) (n : Nat) (p : Addr) : cellsE h H n (.pointer (some p)) = outE h H (H.read p n) := by
  simp only [cellsE]; cases H.read p n <;> rfl
theorem outE_rel (h L : Heap) (f : Nat → U) : outE h (h ++ L) (some (relV f)) = some (agg (relV f), h) := by
  simp only [outE]; rw [finish_flat h L (flat_rel f)]
theorem outE_plain (h L : Heap) {l : List Value} (hl : l.all plain1 = true) : outE h (h ++ L) (some l) = some (agg l, h) := by
  simp only [outE]; rw [finish_flat]; simp [flat, plain, agg, hl]
end Go.Proofs.YtfbldlgjlgcpoaaDoor.AM

namespace Go.Proofs.YtfbldlgjlgcpoaaDoor.AM
open Go.RowKit
set_option linter.unusedSimpArgs false
set_option linter.unusedVariables false

/-- A slice of elements of c cells each: nil, or somewhere. -/
def Sl (h : Heap) (s : Value) (c : Nat) (rows : List (List Value)) : Prop :=
  ((s = nils ∧ rows = []) ∨ ∃ b o v, s = .slice (some ⟨b, o, some v⟩) rows.length c ∧ h.read ⟨b, o, some v⟩ (rows.length * c) = some rows.flatten) ∧ ∀ r ∈ rows, r.length = c
section
variable {h : Heap} {s : Value} {c : Nat} {rows : List (List Value)}
theorem Sl.len (e : Sl h s c rows) (H : Heap) : lenO H s = some (.int .i64 rows.length, H) := by
  rcases e with ⟨⟨rfl, rfl⟩ | ⟨b, o, v, rfl, _⟩, _⟩ <;> rfl
theorem Sl.more (e : Sl h s c rows) (L : Heap) : Sl (h ++ L) s c rows := by
  rcases e with ⟨⟨rfl, rfl⟩ | ⟨b, o, v, rfl, hr⟩, hc⟩
  · exact ⟨.inl ⟨rfl, rfl⟩, hc⟩
  · exact ⟨.inr ⟨b, o, v, rfl, read_more h L hr⟩, hc⟩
theorem flatten_cut : ∀ (rows : List (List Value)) (c : Nat), (∀ r ∈ rows, r.length = c) → ∀ (k : Nat) (hk : k < rows.length), (rows.flatten.drop (k * c)).take c = rows[k]
  | [], c, hc, k, hk => by simp at hk
  | r :: rows, c, hc, 0, hk => by
    have := hc r (by simp)
    simp [this]
  | r :: rows, c, hc, k + 1, hk => by
    have h1 := hc r (by simp)
    have h2 := flatten_cut rows c (fun q hq => hc q (by simp [hq])) k (by simpa using hk)
    have h3 : (r ++ rows.flatten).drop ((k + 1) * c) = rows.flatten.drop (k * c) := by
      rw [Nat.succ_mul, Nat.add_comm, ← List.drop_drop, ← h1, List.drop_left]
    rw [List.flatten_cons, h3]
    simpa using h2
theorem flatten_length (rows : List (List Value)) (c : Nat) (hc : ∀ r ∈ rows, r.length = c) : rows.flatten.length = rows.length * c := by
  induction rows with
  | nil => simp
  | cons r rows ih =>
    rw [List.flatten_cons, List.length_append, hc r (by simp), ih fun q hq => hc q (by simp [hq]), List.length_cons, Nat.succ_mul, Nat.add_comm]
theorem read_cut {b o n : Nat} {v : Option Nat} {l : List Value} (e : h.read ⟨b, o, v⟩ n = some l) {i m : Nat} (hm : i + m ≤ n) : h.read ⟨b, o + i, v⟩ m = some ((l.drop i).take m) := by
  unfold Heap.read at e ⊢
  simp only at e ⊢
  split at e
  · rename_i vals ver ro hb
    split at e
    · rename_i hc
      rw [if_pos ⟨hc.1, by omega⟩]
      cases e
      rw [List.drop_take, List.drop_drop, List.take_take, Nat.min_eq_left (by omega)]
    · cases e
  · cases e
/-- An element of it. -/
theorem Sl.at (e : Sl h s c rows) {k : Nat} (hk : k < rows.length) : ∃ b o v, (∀ H, rowO H c s (.int .i64 (k : Int)) = some (.pointer (some ⟨b, o, some v⟩), H)) ∧ ∀ L, Heap.read (h ++ L) ⟨b, o, some v⟩ c = some rows[k] := by
  rcases e with ⟨⟨rfl, rfl⟩ | ⟨b, o, v, rfl, hr⟩, hc⟩
  · simp at hk
  · refine ⟨b, o + k * c, v, fun H => row_nat H hk, fun L => ?_⟩
    have h1 : k * c + c ≤ rows.length * c := by rw [← Nat.succ_mul]; exact Nat.mul_le_mul_right c hk
    rw [read_cut (read_more h L hr) h1, flatten_cut rows c hc k hk]
theorem read1_of {b o n : Nat} {v : Option Nat} {l : List Value} (e : h.read ⟨b, o, v⟩ n = some l) {i : Nat} {x : Value} (hx : l[i]? = some x) : h.read1 ⟨b, o + i, v⟩ = some x := read_get h e hx
theorem read1_of0 {b o n : Nat} {v : Option Nat} {l : List Value} (e : h.read ⟨b, o, v⟩ n = some l) {x : Value} (hx : l[0]? = some x) : h.read1 ⟨b, o, v⟩ = some x := read_get h e hx
/-- The elements' cells, one behind the other. -/
theorem Sl.src (e : Sl h s c rows) (L : Heap) : srcOf (h ++ L) c s = some (rows.flatten, rows.length) := by
  rcases e with ⟨⟨rfl, rfl⟩ | ⟨b, o, v, rfl, hr⟩, hc⟩
  · rfl
  · exact src_some _ (read_more h L hr)
theorem Sl.src0 (e : Sl h s c rows) : srcOf h c s = some (rows.flatten, rows.length) := by
  have := e.src []
  rwa [List.append_nil] at this
/-- Just laid. -/
theorem Sl.last (h : Heap) {c n : Nat} {rows : List (List Value)} {l : List Value} (hl : l = rows.flatten) (hn : n = rows.length) (hc : ∀ r ∈ rows, r.length = c) (ver : Nat) (ro : Bool) : Sl (h ++ [.cells l ver ro]) (.slice (some ⟨h.length, 0, some ver⟩) n c) c rows := by
  subst hl hn
  refine ⟨.inr ⟨_, _, ver, rfl, ?_⟩, hc⟩
  rw [read_skip0, read_there _ _ _ _ (flatten_length rows c hc)]
end

/-! Rows made of whole parts. -/
theorem zeros_len (z : List Value) (n : Nat) : (zeros z n).length = n * z.length := by
  induction n with
  | zero => simp [zeros]
  | succ n ih => rw [zeros, List.length_append, ih, Nat.succ_mul, Nat.add_comm]
theorem splice_mid {a b x y : List Value} (hx : x.length = y.length) : splice (a ++ x ++ b) a.length y = a ++ y ++ b := by
  unfold splice
  rw [List.append_assoc a x b, List.take_left, ← List.drop_drop, List.drop_left, ← hx, List.drop_left]
theorem fill_whole {c : Nat} {l : List Value} {i : Nat} {a z b : List Value} {r : List (Nat × Nat × Value)} (hl : l.length = c) (hi : a.length = i) (hz : z.length = c) : fillRow (a ++ z ++ b) ((i, c, agg l) :: r) = fillRow (a ++ l ++ b) r := by
  rw [fillRow, laid_agg]
  simp only
  rw [if_pos ⟨hl, by simp [hi, hz]⟩, ← hi, splice_mid (by omega)]
theorem fill_whole1 {c : Nat} {z l : List Value} (hz : z.length = c) (hl : l.length = c) : fillRow (zeros z 1) [(0, c, agg l)] = some l := by
  have e : zeros z 1 = [] ++ z ++ [] := by simp [zeros]
  rw [e, fill_whole (i := 0) hl rfl hz, fill_nil]; simp
theorem fill_whole2 {c : Nat} {z l m : List Value} (hz : z.length = c) (hl : l.length = c) (hm : m.length = c) : fillRow (zeros z 2) [(0, c, agg l), (c, c, agg m)] = some (l ++ m) := by
  have e : zeros z 2 = [] ++ z ++ z := by simp [zeros]
  rw [e, fill_whole (i := 0) hl rfl hz]
  have e2 : [] ++ l ++ z = l ++ z ++ [] := by simp
  rw [e2, fill_whole hm hl hz, fill_nil]; simp
theorem fill_whole3 {c : Nat} {z l m n : List Value} (hz : z.length = c) (hl : l.length = c) (hm : m.length = c) (hn : n.length = c) : fillRow (zeros z 3) [(0, c, agg l), (c, c, agg m), (2 * c, c, agg n)] = some (l ++ m ++ n) := by
  have e : zeros z 3 = [] ++ z ++ (z ++ z) := by simp [zeros]
  rw [e, fill_whole (i := 0) hl rfl hz]
  have e2 : [] ++ l ++ (z ++ z) = l ++ z ++ z := by simp
  rw [e2, fill_whole hm hl hz]
  have e3 : l ++ m ++ z = (l ++ m) ++ z ++ [] := by simp
  rw [e3, fill_whole hn (by simp; omega) hz, fill_nil]; simp
theorem fill_rel1 (f : Nat → U) : fillRow (relV fun _ => 0#32) [(0, 32, agg (relV f))] = some (relV f) := by
  have := fill_whole1 (relV_len fun _ => 0#32) (relV_len f)
  simpa [zeros] using this
theorem fill_rel2 (f g : Nat → U) : fillRow ((relV fun _ => 0#32) ++ relV fun _ => 0#32) [(0, 32, agg (relV f)), (32, 32, agg (relV g))] = some (relV f ++ relV g) := by
  have := fill_whole2 (relV_len fun _ => 0#32) (relV_len f) (relV_len g)
  simpa [zeros] using this
theorem fill_rel3 (f g k : Nat → U) : fillRow ((relV fun _ => 0#32) ++ ((relV fun _ => 0#32) ++ relV fun _ => 0#32)) [(0, 32, agg (relV f)), (32, 32, agg (relV g)), (64, 32, agg (relV k))] = some (relV f ++ (relV g ++ relV k)) := by
  have := fill_whole3 (relV_len fun _ => 0#32) (relV_len f) (relV_len g) (relV_len k)
  simpa [zeros] using this
/-- A slice of relations. -/
def Rels (h : Heap) (s : Value) (rs : List (Nat → U)) : Prop := Sl h s 32 (rs.map relV)
end Go.Proofs.YtfbldlgjlgcpoaaDoor.AM

namespace Go.Proofs.YtfbldlgjlgcpoaaDoor.AM
open Go.RowKit
set_option linter.unusedSimpArgs false
set_option linter.unusedVariables false

/-- The object that a slice leads to. -/
def blk : Value → Option Nat
  | .slice (some p) _ _ => some p.block
  | _ => none
/-- A slice that lies in memory laid behind h, alone in its object. -/
def Own (h H : Heap) (s : Value) (c : Nat) (rows : List (List Value)) : Prop :=
  ((s = nils ∧ rows = []) ∨ ∃ b ver, h.length ≤ b ∧ s = .slice (some ⟨b, 0, some ver⟩) rows.length c ∧ H[b]? = some (.cells rows.flatten ver false)) ∧ ∀ r ∈ rows, r.length = c
section
variable {h H H' : Heap} {s : Value} {c : Nat} {rows : List (List Value)}
theorem Own.nil (h H : Heap) (c : Nat) : Own h H (.slice none 0 0) c [] := ⟨.inl ⟨rfl, rfl⟩, by simp⟩
theorem Own.sl (e : Own h H s c rows) : Sl H s c rows := by
  rcases e with ⟨⟨rfl, rfl⟩ | ⟨b, ver, hb, rfl, ho⟩, hc⟩
  · exact ⟨.inl ⟨rfl, rfl⟩, hc⟩
  · refine ⟨.inr ⟨b, 0, ver, rfl, ?_⟩, hc⟩
    unfold Heap.read
    simp only [ho]
    rw [if_pos ⟨trivial, by rw [flatten_length rows c hc]; omega⟩, List.drop_zero, List.take_of_length_le (by rw [flatten_length rows c hc]; exact Nat.le_refl _)]
theorem Own.keep (e : Own h H s c rows) (hk : ∀ i, blk s = some i → ∀ o, H[i]? = some o → H'[i]? = some o) : Own h H' s c rows := by
  rcases e with ⟨⟨rfl, rfl⟩ | ⟨b, ver, hb, rfl, ho⟩, hc⟩
  · exact ⟨.inl ⟨rfl, rfl⟩, hc⟩
  · exact ⟨.inr ⟨b, ver, hb, rfl, hk b rfl _ ho⟩, hc⟩
theorem Own.lt (e : Own h H s c rows) {i : Nat} (hi : blk s = some i) : h.length ≤ i ∧ i < H.length := by
  rcases e with ⟨⟨rfl, rfl⟩ | ⟨b, ver, hb, rfl, ho⟩, hc⟩
  · cases hi
  · cases hi; exact ⟨hb, (List.getElem?_eq_some_iff.1 ho).1⟩
theorem Own.more (e : Own h H s c rows) (L : Heap) : Own h (H ++ L) s c rows := e.keep fun i hi o ho => by rw [List.getElem?_append_left (e.lt hi).2]; exact ho
theorem Own.weak {h0 : Heap} (e : Own h H s c rows) (hl : h0.length ≤ h.length) : Own h0 H s c rows := by
  rcases e with ⟨⟨rfl, rfl⟩ | ⟨b, ver, hb, rfl, ho⟩, hc⟩
  · exact ⟨.inl ⟨rfl, rfl⟩, hc⟩
  · exact ⟨.inr ⟨b, ver, Nat.le_trans hl hb, rfl, ho⟩, hc⟩
theorem Own.len (e : Own h H s c rows) (H' : Heap) : lenO H' s = some (.int .i64 rows.length, H') := by
  rcases e with ⟨⟨rfl, rfl⟩ | ⟨b, ver, hb, rfl, ho⟩, hc⟩ <;> rfl
theorem Sl.keep (e : Sl H s c rows) (hk : ∀ i, blk s = some i → ∀ o, H[i]? = some o → H'[i]? = some o) : Sl H' s c rows := by
  rcases e with ⟨⟨rfl, rfl⟩ | ⟨b, o, v, rfl, hr⟩, hc⟩
  · exact ⟨.inl ⟨rfl, rfl⟩, hc⟩
  · refine ⟨.inr ⟨b, o, v, rfl, ?_⟩, hc⟩
    unfold Heap.read at hr ⊢
    simp only at hr ⊢
    split at hr
    · rename_i vals ver ro hb
      rw [hk b rfl _ hb]; exact hr
    · cases hr
theorem Sl.lt (e : Sl H s c rows) {i : Nat} (hi : blk s = some i) : i < H.length := by
  rcases e with ⟨⟨rfl, rfl⟩ | ⟨b, o, v, rfl, hr⟩, hc⟩
  · cases hi
  · cases hi
    unfold Heap.read at hr
    simp only at hr
    split at hr
    · rename_i vals ver ro hb; exact (List.getElem?_eq_some_iff.1 hb).1
    · cases hr
/-- What was there, not to be written any more. -/
def Pre (h H : Heap) : Prop := ∃ L, H = h ++ L
theorem Pre.refl (h : Heap) : Pre h h := ⟨[], by simp⟩
theorem Pre.more (e : Pre h H) (L : Heap) : Pre h (H ++ L) := by obtain ⟨K, rfl⟩ := e; exact ⟨K ++ L, by simp⟩
theorem Pre.trans {h0 : Heap} (e : Pre h0 h) (e' : Pre h H) : Pre h0 H := by obtain ⟨K, rfl⟩ := e; obtain ⟨M, rfl⟩ := e'; exact ⟨K ++ M, by simp⟩
theorem Pre.le (e : Pre h H) : h.length ≤ H.length := by obtain ⟨K, rfl⟩ := e; simp
theorem Pre.get (e : Pre h H) {i : Nat} (hi : i < h.length) : H[i]? = h[i]? := by obtain ⟨K, rfl⟩ := e; exact List.getElem?_append_left hi
theorem Pre.set (e : Pre h H) {i : Nat} (hi : h.length ≤ i) (o : AObj) : Pre h (H.set i o) := by
  obtain ⟨K, rfl⟩ := e; exact ⟨K.set (i - h.length) o, by rw [List.set_append_right _ _ hi]⟩
theorem Sl.pre (e : Sl h s c rows) (p : Pre h H) : Sl H s c rows := by obtain ⟨K, rfl⟩ := p; exact e.more K
theorem Sl.atH (e : Sl H s c rows) {k : Nat} (hk : k < rows.length) : ∃ b o v, (∀ H', rowO H' c s (.int .i64 (k : Int)) = some (.pointer (some ⟨b, o, some v⟩), H')) ∧ Heap.read H ⟨b, o, some v⟩ c = some rows[k] := by
  obtain ⟨b, o, v, h1, h2⟩ := e.at hk
  exact ⟨b, o, v, h1, by have := h2 []; rwa [List.append_nil] at this⟩

/-- Appending rows that lie elsewhere. -/
theorem Own.append (e : Own h H s c rows) (p : Pre h H) {ys : List Value} {rows' : List (List Value)} {bytes : Nat} (hy : ys = rows'.flatten) (hc' : ∀ r ∈ rows', r.length = c) (hroom : (rows.length + rows'.length) * bytes ≤ roomFor) :
    ∃ s' H', appendTo H c bytes s (some (ys, rows'.length)) = some (s', H') ∧ Own h H' s' c (rows ++ rows') ∧ Pre h H' ∧ H.length ≤ H'.length ∧
      (∀ i o, H[i]? = some o → blk s ≠ some i → H'[i]? = some o) ∧ (blk s' = blk s ∨ ∃ i, blk s' = some i ∧ H.length ≤ i) := by
  subst hy
  rcases e with ⟨⟨rfl, rfl⟩ | ⟨b, ver, hb, rfl, ho⟩, hc⟩
  · by_cases h0 : rows'.length = 0
    · have : rows' = [] := List.eq_nil_of_length_eq_zero h0
      subst this
      exact ⟨nils, H, rfl, ⟨.inl ⟨rfl, rfl⟩, by simp⟩, p, Nat.le_refl _, fun i o hi _ => hi, .inl rfl⟩
    · refine ⟨slc H.length 0 0 rows'.length c, H ++ [.cells rows'.flatten 0 false], ?_, ⟨.inr ⟨H.length, 0, p.le, rfl, by simp⟩, by simpa using hc'⟩, p.more _, by simp, fun i o hi _ => ?_, .inr ⟨_, rfl, Nat.le_refl _⟩⟩
      · simp only [appendTo, nils]
        rw [if_neg h0, if_pos (by simpa using hroom)]
      · rw [List.getElem?_append_left (List.getElem?_eq_some_iff.1 hi).1]; exact hi
  · have hlt := (List.getElem?_eq_some_iff.1 ho).1
    refine ⟨slc b 0 (ver + 1) (rows.length + rows'.length) c, H.set b (.cells (rows.flatten ++ rows'.flatten) (ver + 1) false), ?_, ⟨.inr ⟨b, ver + 1, hb, by rw [List.length_append]; rfl, ?_⟩, ?_⟩, p.set hb _, by simp, fun i o hi hne => ?_, .inl rfl⟩
    · simp only [appendTo, ho]
      rw [if_pos ⟨trivial, trivial, trivial, by rw [flatten_length rows c hc]; exact Nat.le_refl _, hroom⟩, List.take_of_length_le (by rw [flatten_length rows c hc]; exact Nat.le_refl _)]
    · rw [List.getElem?_set_self hlt, List.flatten_append]
    · intro r hr
      rcases List.mem_append.1 hr with hr | hr
      · exact hc r hr
      · exact hc' r hr
    · rw [List.getElem?_set_ne (by intro hbi; exact hne (by rw [hbi]; rfl))]; exact hi
/-- One element, just laid. -/
theorem Own.push (e : Own h H s c rows) (p : Pre h H) {row : List Value} {bytes : Nat} (hrow : row.length = c) (hroom : (rows.length + 1) * bytes ≤ roomFor) :
    ∃ s' H', appendTo (H ++ [.cells row 0 false]) c bytes s (srcOf (H ++ [.cells row 0 false]) c (.slice (some ⟨H.length, 0, some 0⟩) 1 c)) = some (s', H') ∧ Own h H' s' c (rows ++ [row]) ∧ Pre h H' ∧ H.length ≤ H'.length ∧
      (∀ i o, H[i]? = some o → blk s ≠ some i → H'[i]? = some o) ∧ (blk s' = blk s ∨ ∃ i, blk s' = some i ∧ H.length ≤ i) := by
  rw [src_there (L := []) H (by rw [hrow]; omega)]
  obtain ⟨s', H', h1, h2, h3, h4, h5, h6⟩ := Own.append (e.more [.cells row 0 false]) (p.more _) (ys := row) (rows' := [row]) (bytes := bytes) (by simp) (by simpa using hrow) (by simpa using hroom)
  refine ⟨s', H', h1, h2, h3, by simp at h4; omega, fun i o hi hne => h5 i o (by rw [List.getElem?_append_left (List.getElem?_eq_some_iff.1 hi).1]; exact hi) hne, ?_⟩
  rcases h6 with h6 | ⟨i, h6, h7⟩
  · exact .inl h6
  · exact .inr ⟨i, h6, by simp at h7; omega⟩
/-- At a function's end. -/
theorem Own.finish (e : Own h H s c rows) (p : Pre h H) : Own h (finish h s H) s c rows ∧ Pre h (finish h s H) := by
  obtain ⟨L, rfl⟩ := p
  rcases finish_any h L s with hf | ⟨hf, hfl⟩
  · rw [hf]; exact ⟨e, L, rfl⟩
  · rw [hf]
    rcases e with ⟨⟨rfl, rfl⟩ | ⟨b, ver, hb, rfl, ho⟩, hc⟩
    · exact ⟨⟨.inl ⟨rfl, rfl⟩, hc⟩, Pre.refl h⟩
    · cases hfl
end
theorem Q_retE (h H : Heap) (i : Nat) (t : List Value) (R : Value → Heap → Prop) : retE h [.tmp i] R .ret ⟨t, H⟩ = R (t.getD i undef) (finish h (t.getD i undef) H) := by
  unfold retE; rw [end_one]
  exact propext ⟨fun ⟨v, h', e, r⟩ => by cases e; exact r, fun r => ⟨_, _, rfl, r⟩⟩
theorem Q_retE2 (h H : Heap) (i j : Nat) (t : List Value) (R : Value → Heap → Prop) : retE h [.tmp i, .tmp j] R .ret ⟨t, H⟩ = R (tup [t.getD i undef, t.getD j undef]) (finish h (tup [t.getD i undef, t.getD j undef]) H) := by
  unfold retE; rw [end_two]
  exact propext ⟨fun ⟨v, h', e, r⟩ => by cases e; exact r, fun r => ⟨_, _, rfl, r⟩⟩
theorem Q_retE3 (h H : Heap) (i j k : Nat) (t : List Value) (R : Value → Heap → Prop) : retE h [.tmp i, .tmp j, .tmp k] R .ret ⟨t, H⟩ = R (tup [t.getD i undef, t.getD j undef, t.getD k undef]) (finish h (tup [t.getD i undef, t.getD j undef, t.getD k undef]) H) := by
  unfold retE; rw [end_three]
  exact propext ⟨fun ⟨v, h', e, r⟩ => by cases e; exact r, fun r => ⟨_, _, rfl, r⟩⟩

/-- How many of the first n. -/
def pop (f : Nat → Bool) : Nat → Nat
  | 0 => 0
  | n + 1 => pop f n + if f n then 1 else 0
theorem pop_le (f : Nat → Bool) (n : Nat) : pop f n ≤ n := by
  induction n with
  | zero => exact Nat.le_refl _
  | succ n ih => unfold pop; split <;> omega
theorem pop_congr {f g : Nat → Bool} {n : Nat} (h : ∀ k, k < n → f k = g k) : pop f n = pop g n := by
  induction n with
  | zero => rfl
  | succ n ih => unfold pop; rw [ih fun k hk => h k (by omega), h n (by omega)]
theorem pop_add (f : Nat → Bool) (n m : Nat) : pop f (n + m) = pop f n + pop (fun k => f (n + k)) m := by
  induction m with
  | zero => rfl
  | succ m ih =>
    show pop f (n + m) + (if f (n + m) then 1 else 0) = pop f n + (pop (fun k => f (n + k)) m + if f (n + m) then 1 else 0)
    rw [ih, Nat.add_assoc]
def idxO (h : Heap) : Value → Value → Option (Value × Heap)
  | .string s, .int _ k => if 0 ≤ k then (s.data.toList[k.toNat]?).map fun b => (.int .u8 b.toNat, h) else none
  | _, _ => none
theorem O_idxStr {call : Caller} (ρ : Operand → Value) (h : Heap) (x i : Operand) : evOp call ρ h (.idxStr x i) = idxO h (ρ x) (ρ i) := by
  simp only [evOp]; generalize ρ x = x; generalize ρ i = y
  cases x with
  | string s => cases y <;> rfl
  | _ => rfl
theorem idx_some {h : Heap} {s : ByteArray} {kk : IntKind} {k : Int} {b : UInt8} (h0 : 0 ≤ k) (hb : s.data.toList[k.toNat]? = some b) : idxO h (.string s) (.int kk k) = some (.int .u8 b.toNat, h) := by
  simp only [idxO]; rw [if_pos h0, hb]; rfl
def idxArrO (h : Heap) (len size : Nat) : Value → Value → Option (Value × Heap)
  | .agg cs, .int _ k => if 0 ≤ k ∧ k < len then pairO h cs.toList[k.toNat * size]? else none
  | _, _ => none
theorem O_idxArr {call : Caller} (ρ : Operand → Value) (h : Heap) (len size : Nat) (x i : Operand) : evOp call ρ h (.idxArr len size x i) = idxArrO h len size (ρ x) (ρ i) := by
  simp only [evOp]; generalize ρ x = x; generalize ρ i = y
  cases x with
  | agg cs =>
    cases y with
    | int kk k => simp only [idxArrO]; split
                  · cases cs.toList[k.toNat * size]? <;> rfl
                  · rfl
    | _ => rfl
  | _ => rfl
theorem idxArr_nat {h : Heap} {len size k : Nat} {kk : IntKind} {l : List Value} (hk : k < len) : idxArrO h len size (agg l) (.int kk (k : Int)) = pairO h l[k * size]? := by
  simp [idxArrO, agg, hk]
def maxO (h : Heap) : Value → Value → Option (Value × Heap)
  | .int k a, .int _ b => some (.int k (if a < b then b else a), h)
  | _, _ => none
theorem O_max2 {call : Caller} (ρ : Operand → Value) (h : Heap) (x i : Operand) : evOp call ρ h (.max2 x i) = maxO h (ρ x) (ρ i) := by
  simp only [evOp]; generalize ρ x = x; generalize ρ i = y
  cases x <;> cases y <;> rfl
theorem max_int (h : Heap) (k kk : IntKind) (a b : Int) : maxO h (.int k a) (.int kk b) = some (.int k (if a < b then b else a), h) := rfl
def minO (h : Heap) : Value → Value → Option (Value × Heap)
  | .int k a, .int _ b => some (.int k (if b < a then b else a), h)
  | _, _ => none
theorem O_min2 {call : Caller} (ρ : Operand → Value) (h : Heap) (x i : Operand) : evOp call ρ h (.min2 x i) = minO h (ρ x) (ρ i) := by
  simp only [evOp]; generalize ρ x = x; generalize ρ i = y
  cases x <;> cases y <;> rfl
theorem min_int (h : Heap) (k kk : IntKind) (a b : Int) : minO h (.int k a) (.int kk b) = some (.int k (if b < a then b else a), h) := rfl
def eqvO (h : Heap) : Option Bool → Bool → Option (Value × Heap)
  | some b, neg => some (.bool (b != neg), h)
  | none, _ => none
theorem O_eqv {call : Caller} (ρ : Operand → Value) (h : Heap) (neg : Bool) (k : EqK) (x y : Operand) : evOp call ρ h (.eqv neg k x y) = eqvO h (leafEq k (ρ x) (ρ y)) neg := by
  simp only [evOp]; cases leafEq k (ρ x) (ρ y) <;> rfl
theorem eqv_some (h : Heap) (b neg : Bool) : eqvO h (some b) neg = some (.bool (b != neg), h) := rfl
theorem eqv_bool (h : Heap) (x y neg : Bool) : eqvO h (leafEq .bool (.bool x) (.bool y)) neg = some (.bool ((x == y) != neg), h) := rfl
theorem Q_pre {h H : Heap} (p : Pre h H) (i : Nat) (t : List Value) (r : Option (Value × Heap)) (hf : flat (t.getD i undef) = true) : retQ h [.tmp i] r .ret ⟨t, H⟩ = (some (t.getD i undef, h) = r) := by
  obtain ⟨L, rfl⟩ := p; exact Q_more h L i t r hf
/-! Both ways. -/
theorem guard_split {call : Caller} {d : Nat} {op : AOp} {l : List AOper} {t : List Value} {h : Heap} {c : Bool} {Q : AEx → St → Prop} (h1 : c = true → WPD (normalD (nextO call (some d) l ⟨t, h⟩ (evOp call (St.eval ⟨t, h⟩) h op))) Q) (h2 : c = false → WPD (normalD (evOps call l ⟨t.set d undef, h⟩)) Q) :
    WPD (normalD (guardO call (some d) op l ⟨t, h⟩ true (.bool c))) Q := by
  cases c with
  | true => exact h1 rfl
  | false => exact h2 rfl
theorem guard_splitF {call : Caller} {d : Nat} {op : AOp} {l : List AOper} {t : List Value} {h : Heap} {c : Bool} {Q : AEx → St → Prop} (h1 : c = true → WPD (normalD (evOps call l ⟨t.set d undef, h⟩)) Q) (h2 : c = false → WPD (normalD (nextO call (some d) l ⟨t, h⟩ (evOp call (St.eval ⟨t, h⟩) h op))) Q) :
    WPD (normalD (guardO call (some d) op l ⟨t, h⟩ false (.bool c))) Q := by
  cases c with
  | true => exact h1 rfl
  | false => exact h2 rfl
theorem cond_split {F : Funcs} {a b : ACode} {s : St} {c : Bool} {Q : AEx → St → Prop} (h1 : c = true → WPD (D F a s) Q) (h2 : c = false → WPD (D F b s) Q) : WPD (condD F a b s (.bool c)) Q := by
  cases c with
  | true => exact h1 rfl
  | false => exact h2 rfl
theorem again1_some {h : Heap} {p : Addr} {v : Value} (hr : h.read1 p = some v) (ht : isTup v = false) : again1O h (.pointer (some p)) v = some (undef, h) := by simp [again1O, hr, ht]
theorem again1_int {h : Heap} {p : Addr} {k : IntKind} {n : Int} (hr : h.read1 p = some (.int k n)) : again1O h (.pointer (some p)) (.int k n) = some (undef, h) := again1_some hr rfl
theorem again1_bool {h : Heap} {p : Addr} {b : Bool} (hr : h.read1 p = some (.bool b)) : again1O h (.pointer (some p)) (.bool b) = some (undef, h) := again1_some hr rfl
theorem again1_string {h : Heap} {p : Addr} {s : ByteArray} (hr : h.read1 p = some (.string s)) : again1O h (.pointer (some p)) (.string s) = some (undef, h) := again1_some hr rfl
theorem again1_slice {h : Heap} {p : Addr} {a : Option Addr} {n c : Nat} (hr : h.read1 p = some (.slice a n c)) : again1O h (.pointer (some p)) (.slice a n c) = some (undef, h) := again1_some hr rfl
/-- The end of a function that answers a row of cells and one more. -/
def outTE (R : Value → Heap → Prop) (h H : Heap) (x : Value) : Option (List Value) → Prop
  | some l => R (tup [agg l, x]) (finish h (tup [agg l, x]) H)
  | none => False
def cellsTE (R : Value → Heap → Prop) (h H : Heap) (n : Nat) (x : Value) : Value → Prop
  | .pointer (some p) => outTE R h H x (H.read p n)
  | _ => False
theorem Q_retEct (h H : Heap) (i n j : Nat) (t : List Value) (R : Value → Heap → Prop) : retE h [.cells i n, .tmp j] R .ret ⟨t, H⟩ = cellsTE R h H n (t.getD j undef) (t.getD i undef) := by
  unfold retE
  apply propext
  simp only [endF, aResults, aRes, List.mapM_cons, List.mapM_nil]
  generalize t.getD i undef = x
  generalize t.getD j undef = y
  cases x with
  | pointer p =>
    cases p with
    | none => simp [cellsTE]
    | some p =>
      simp only [cellsTE]
      cases hr : H.read p n with
      | none => simp [outTE]
      | some l =>
        simp only [outTE]
        constructor
        · rintro ⟨v, h', e, r⟩
          simp at e
          obtain ⟨rfl, rfl⟩ := e
          exact r
        · intro r
          exact ⟨_, _, by simp, r⟩
  | _ => simp [cellsTE]
theorem cellsTE_ptr (R : Value → Heap → Prop) (h H : Heap) (n : Nat) (x : Value) (p : Addr) : cellsTE R h H n x (.pointer (some p)) = outTE R h H x (H.read p n) := rfl
theorem outTE_some (R : Value → Heap → Prop) (h H : Heap) (x : Value) (l : List Value) : outTE R h H x (some l) = R (tup [agg l, x]) (finish h (tup [agg l, x]) H) := rfl
theorem Q_ret2Q (h H : Heap) (i j : Nat) (t : List Value) (r : Option (Value × Heap)) : retQ h [.tmp i, .tmp j] r .ret ⟨t, H⟩ = (some (tup [t.getD i undef, t.getD j undef], AM.finish h (tup [t.getD i undef, t.getD j undef]) H) = r) := by unfold retQ; rw [end_two]
theorem Q_ret3Q (h H : Heap) (i j k : Nat) (t : List Value) (r : Option (Value × Heap)) : retQ h [.tmp i, .tmp j, .tmp k] r .ret ⟨t, H⟩ = (some (tup [t.getD i undef, t.getD j undef, t.getD k undef], AM.finish h (tup [t.getD i undef, t.getD j undef, t.getD k undef]) H) = r) := by unfold retQ; rw [end_three]
theorem fin_int3 (h L : Heap) (k k' k'' : IntKind) (a b c : Int) : AM.finish h (tup [.int k a, .int k' b, .int k'' c]) (h ++ L) = h := finish_flat h L rfl
theorem fin_ib (h L : Heap) (k : IntKind) (a : Int) (b : Bool) : AM.finish h (tup [.int k a, .bool b]) (h ++ L) = h := finish_flat h L rfl
end Go.Proofs.YtfbldlgjlgcpoaaDoor.AM

namespace Go.Proofs.YtfbldlgjlgcpoaaDoor.AM
open Go.RowKit
set_option linter.unusedSimpArgs false
set_option linter.unusedVariables false

def tabV (t : Nat → Nat → Bool) : List Value := rowOf 1024 fun i => .bool (t (i / 32) (i % 32))
theorem tabV_len (t : Nat → Nat → Bool) : (tabV t).length = 1024 := rowOf_len _ _
theorem tabV_get {t : Nat → Nat → Bool} {a b : Nat} (ha : a < 32) (hb : b < 32) : (tabV t)[a * 32 + b]? = some (.bool (t a b)) := by
  unfold tabV
  rw [rowOf_get (by omega), show (a * 32 + b) / 32 = a by omega, show (a * 32 + b) % 32 = b by omega]
theorem tabV_congr {t u : Nat → Nat → Bool} (h : ∀ a b, a < 32 → b < 32 → t a b = u a b) : tabV t = tabV u := by
  apply rowOf_congr
  intro k hk
  rw [h _ _ (by omega) (by omega)]
theorem tabV_put {t u : Nat → Nat → Bool} {a b : Nat} {x : Bool} (hb : b < 32) (h : ∀ y z, y < 32 → z < 32 → u y z = if y = a ∧ z = b then x else t y z) : (tabV t).set (a * 32 + b) (.bool x) = tabV u := by
  unfold tabV
  rw [rowOf_set]
  apply rowOf_congr
  intro i hi
  rw [h _ _ (by omega) (by omega)]
  by_cases e : i = a * 32 + b
  · rw [if_pos e, if_pos ⟨by omega, by omega⟩]
  · rw [if_neg e, if_neg (by omega)]
theorem tabV_zero : List.replicate 1024 (.bool false) = tabV (fun _ _ => false) := rowOf_rep 1024 _
theorem tabV_plain (t : Nat → Nat → Bool) : (tabV t).all plain1 = true := rowOf_all _ fun _ _ => rfl
theorem outE_tab (h L : Heap) (t : Nat → Nat → Bool) : outE h (h ++ L) (some (tabV t)) = some (agg (tabV t), h) := outE_plain h L (tabV_plain t)
/-- Those ahead of (a, b) by A, the others by B. -/
def mix2 (a b : Nat) (A B : Nat → Nat → Bool) (y z : Nat) : Bool := if y < a ∨ (y = a ∧ z < b) then A y z else B y z
theorem mix2_at (a b : Nat) (A B : Nat → Nat → Bool) : mix2 a b A B a b = B a b := by simp [mix2]
theorem mix2_zero (A B : Nat → Nat → Bool) : mix2 0 0 A B = B := by funext y z; simp [mix2]
theorem mix2_put {a b : Nat} {A B : Nat → Nat → Bool} {x : Bool} (hb : b < 32) (h : A a b = x) : (tabV (mix2 a b A B)).set (a * 32 + b) (.bool x) = tabV (mix2 a (b + 1) A B) := by
  refine tabV_put hb fun y z _ _ => ?_
  unfold mix2
  by_cases e : y = a ∧ z = b
  · obtain ⟨rfl, rfl⟩ := e
    rw [if_pos (.inr ⟨rfl, by omega⟩), if_pos ⟨rfl, rfl⟩, h]
  · rw [if_neg e]
    by_cases e2 : y < a ∨ (y = a ∧ z < b)
    · rw [if_pos e2, if_pos (by omega)]
    · rw [if_neg e2, if_neg (by omega)]
theorem mix2_row (a : Nat) (A B : Nat → Nat → Bool) : tabV (mix2 a 32 A B) = tabV (mix2 (a + 1) 0 A B) := by
  refine tabV_congr fun y z _ _ => ?_
  unfold mix2
  by_cases e : y < a ∨ (y = a ∧ z < 32)
  · rw [if_pos e, if_pos (by omega)]
  · rw [if_neg e, if_neg (by omega)]
theorem mix2_all (A B : Nat → Nat → Bool) : tabV (mix2 32 0 A B) = tabV A := tabV_congr fun y z h _ => by unfold mix2; rw [if_pos (by omega)]

/-- One place anew. -/
def put {α : Type} (f : Nat → α) (k : Nat) (x : α) (i : Nat) : α := if i = k then x else f i
theorem put_at {α : Type} (f : Nat → α) (k : Nat) (x : α) : put f k x k = x := if_pos rfl
theorem put_ne {α : Type} (f : Nat → α) {k i : Nat} (x : α) (h : i ≠ k) : put f k x i = f i := if_neg h
theorem put_put {α : Type} (f : Nat → α) (k : Nat) (x y : α) : put (put f k x) k y = put f k y := by
  funext i; unfold put; by_cases h : i = k <;> simp [h]
theorem put_self {α : Type} (f : Nat → α) (k : Nat) : put f k (f k) = f := by
  funext i; unfold put; by_cases h : i = k <;> simp [h]
theorem relV_put (f : Nat → U) (k : Nat) (x : U) : (relV f).set k (.int .u32 (x.toNat : Int)) = relV (put f k x) := relV_set f k x
theorem put_mix {k : Nat} {A B : Nat → U} {x : U} (hx : A k = x) : relV (put (mix k A B) k x) = relV (mix (k + 1) A B) := by
  rw [← relV_put, relV_mixput hx]
/-- A set by its bits, the first b. -/
def rowB (t : Nat → Bool) : Nat → U
  | 0 => 0#32
  | b + 1 => if t b then rowB t b ||| (1#32 <<< b) else rowB t b
theorem rowB_bit (t : Nat → Bool) (b : Nat) {i : Nat} (hi : i < 32) : (rowB t b).getLsbD i = (decide (i < b) && t i) := by
  induction b with
  | zero => simp [rowB]
  | succ b ih =>
    rw [rowB]
    by_cases hb : i = b
    · subst hb
      cases ht : t i
      · simp [ih]
      · simp only [if_true, BitVec.getLsbD_or, ih, u_one hi]; simp
    · have : decide (i < b + 1) = decide (i < b) := by
        by_cases h : i < b <;> simp [h] <;> omega
      rw [this]
      split
      · rw [BitVec.getLsbD_or, ih, u_one hi]; simp [hb]
      · exact ih
def ofTab (t : Nat → Nat → Bool) : Nat → U := fun a => rowB (t a) 32
theorem ofTab_bit (t : Nat → Nat → Bool) (a : Nat) {b : Nat} (hb : b < 32) : (ofTab t a).getLsbD b = t a b := by
  unfold ofTab; rw [rowB_bit _ _ hb]; simp [hb]
theorem relV_bits {f g : Nat → U} (h : ∀ a b, a < 32 → b < 32 → (f a).getLsbD b = (g a).getLsbD b) : relV f = relV g := relV_congr fun k hk => u_ext fun i hi => h k i hk hi
theorem ofTab_eq {t : Nat → Nat → Bool} {f : Nat → U} (h : ∀ a b, a < 32 → b < 32 → t a b = (f a).getLsbD b) : relV (ofTab t) = relV f := relV_bits fun a b ha hb => by rw [ofTab_bit t a hb, h a b ha hb]
end Go.Proofs.YtfbldlgjlgcpoaaDoor.AM
