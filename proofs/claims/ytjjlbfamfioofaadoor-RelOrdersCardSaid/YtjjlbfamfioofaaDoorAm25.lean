/-
  AM, part 25: counted loops; sets of 32 as numbers without a sign; rows of them.
  Conditions: none.
-/
import Derived.Test.YtjjlbfamfioofaaDoorAm2f
import Derived.Test.YtjjlbfamfioofaaDoorBv
namespace Go.Proofs.YtjjlbfamfioofaaDoor.AM
open Go.RowKit
set_option linter.unusedSimpArgs false
set_option linter.unusedVariables false

section
variable {F : Funcs}
/-- What is asked of one round. -/
def forQ (J : St → Prop) (Q : AEx → St → Prop) : AEx → St → Prop
  | .normal, s => J s
  | x, s => Q x s
theorem Q_for_normal (J : St → Prop) (Q : AEx → St → Prop) (s : St) : forQ J Q .normal s = J s := rfl
theorem Q_for_exit (J : St → Prop) (Q : AEx → St → Prop) (i : Nat) (s : St) : forQ J Q (.exit i) s = Q (.exit i) s := rfl
theorem Q_for_ret (J : St → Prop) (Q : AEx → St → Prop) (s : St) : forQ J Q .ret s = Q .ret s := rfl
theorem for_wp {b : ACode} {Q : AEx → St → Prop} (n : Nat) (I : Nat → St → Prop) (step : ∀ k s, k < n → I k s → WPD (D F b s) (forQ (I (k + 1)) Q)) (last : ∀ s, I n s → WPD (D F b s) (forQ (fun _ => False) Q)) (s : St) (h0 : I 0 s) : WPD (D F (.loop b) s) Q := by
  refine loop_wp (fun m s => ∃ k, m + k = n + 1 ∧ ((k ≤ n ∧ I k s) ∨ (n < k ∧ False))) ?_ (n + 1) s ⟨0, by omega, .inl ⟨Nat.zero_le _, h0⟩⟩
  rintro m s ⟨k, hm, ⟨hk, hI⟩ | ⟨_, hf⟩⟩
  · by_cases hlt : k < n
    · refine (step k s hlt hI).mono fun x s' hq => ?_
      cases x with
      | normal => exact ⟨m - 1, by omega, k + 1, by omega, .inl ⟨by omega, hq⟩⟩
      | exit i => exact hq
      | ret => exact hq
    · have : k = n := by omega
      subst this
      refine (last s hI).mono fun x s' hq => ?_
      cases x with
      | normal => exact hq.elim
      | exit i => exact hq
      | ret => exact hq
  · exact hf.elim
/-- It leaves by that exit, and so. -/
def outQ (id : Nat) (P : St → Prop) : AEx → St → Prop := fun x s => x = .exit id ∧ P s
theorem Q_out (id : Nat) (P : St → Prop) (s : St) : outQ id P (.exit id) s = P s := by unfold outQ; simp
theorem for_out {b : ACode} {Q : AEx → St → Prop} (id n : Nat) (I : Nat → St → Prop) (P : St → Prop) (step : ∀ k s, k < n → I k s → WPD (D F b s) (forQ (I (k + 1)) (outQ id P))) (last : ∀ s, I n s → WPD (D F b s) (forQ (fun _ => False) (outQ id P))) (s : St) (h0 : I 0 s) (hq : ∀ s, P s → Q (.exit id) s) : WPD (D F (.loop b) s) Q :=
  (for_wp n I step last s h0).mono fun x s ⟨hx, hp⟩ => by subst hx; exact hq s hp
/-- A step down. -/
theorem W_forQ {o : Option (AEx × St)} {J : St → Prop} {Q : AEx → St → Prop} (h : WPD o Q) (hn : ∀ s, ¬ Q .normal s) : WPD o (forQ J Q) := h.mono fun x s q => by
  cases x with
  | normal => exact (hn s q).elim
  | _ => exact q
end

theorem wrapS {n : Int} (h : -9223372036854775808 ≤ n ∧ n ≤ 9223372036854775807) : IntKind.i64.wrap n = n := wrap_in (by unfold W; exact h)
abbrev U := BitVec 32
theorem wrap_u32 (x : U) : IntKind.u32.wrap (x.toNat : Int) = x.toNat := by
  have := x.isLt
  simp [IntKind.wrap, IntKind.signed, IntKind.bits]; omega
theorem ofInt_u (x : U) : BitVec.ofInt 32 (x.toNat : Int) = x := by
  rw [BitVec.ofInt_natCast]; simp
theorem u_or (x y : U) : Go.bits .or .u32 x.toNat y.toNat = ((x ||| y).toNat : Int) := by
  unfold Go.bits; simp only [IntKind.bits, ofInt_u]; exact wrap_u32 _
theorem u_and (x y : U) : Go.bits .and .u32 x.toNat y.toNat = ((x &&& y).toNat : Int) := by
  unfold Go.bits; simp only [IntKind.bits, ofInt_u]; exact wrap_u32 _
theorem u_andNot (x y : U) : Go.bits .andNot .u32 x.toNat y.toNat = ((x &&& ~~~ y).toNat : Int) := by
  unfold Go.bits; simp only [IntKind.bits, ofInt_u]; exact wrap_u32 _
theorem u_shl (x : U) (k : Int) : shl .u32 x.toNat k = ((x <<< k.toNat).toNat : Int) := by
  unfold shl
  have e : IntKind.u32.wrap ((x.toNat : Int) * 2 ^ min k.toNat IntKind.u32.bits) = ((x.toNat * 2 ^ min k.toNat 32 % 2 ^ 32 : Nat) : Int) := by
    simp [IntKind.wrap, IntKind.signed, IntKind.bits]
  rw [e, BitVec.toNat_shiftLeft, Nat.shiftLeft_eq]
  congr 1
  by_cases h : k.toNat ≤ 32
  · rw [Nat.min_eq_left h]
  · rw [Nat.min_eq_right (by omega)]
    have h1 : k.toNat = 32 + (k.toNat - 32) := by omega
    rw [h1, Nat.pow_add]
    rw [Nat.mul_mod_left, ← Nat.mul_assoc, Nat.mul_comm x.toNat, Nat.mul_assoc, Nat.mul_mod_right]
theorem u_shl1 (k : Int) : shl .u32 1 k = ((1#32 <<< k.toNat).toNat : Int) := u_shl 1#32 k
theorem u_shr (x : U) (k : Int) : shr .u32 x.toNat k = ((x >>> k.toNat).toNat : Int) := by
  unfold shr
  rw [fdiv_pow, BitVec.toNat_ushiftRight]
  have : ((x.toNat : Int) >>> min k.toNat IntKind.u32.bits) = ((x.toNat >>> min k.toNat 32 : Nat) : Int) := rfl
  rw [this]
  congr 1
  by_cases h : k.toNat ≤ 32
  · rw [Nat.min_eq_left h]
  · rw [Nat.min_eq_right (by omega), Nat.shiftRight_eq_div_pow, Nat.shiftRight_eq_div_pow, Nat.div_eq_of_lt x.isLt, Nat.div_eq_of_lt (Nat.lt_of_lt_of_le x.isLt (Nat.pow_le_pow_right (by omega) (by omega)))]
theorem u_and1 (x : U) : Go.bits .and .u32 x.toNat 1 = ((x &&& 1#32).toNat : Int) := u_and x 1#32
/-- A bit is asked for. -/
theorem u_bit (x : U) (k : Int) : (Go.bits .and .u32 (shr .u32 x.toNat k) 1 == 1) = x.getLsbD k.toNat := by
  rw [u_shr, u_and1]
  have : (x >>> k.toNat) &&& 1#32 = if x.getLsbD k.toNat then 1#32 else 0#32 := by
    apply BitVec.eq_of_getLsbD_eq
    intro i hi
    rw [BitVec.getLsbD_and, BitVec.getLsbD_ushiftRight, BitVec.getLsbD_one]
    by_cases h : i = 0
    · subst h; cases x.getLsbD k.toNat <;> simp
    · have : decide (i = 0) = false := by simp [h]
      cases x.getLsbD k.toNat <;> simp [h]
  rw [this]
  cases x.getLsbD k.toNat <;> rfl
theorem u_eq (x y : U) : (((x.toNat : Int) == (y.toNat : Int)) : Bool) = (x == y) := by
  by_cases h : x = y
  · subst h; simp
  · have : x.toNat ≠ y.toNat := fun e => h (BitVec.eq_of_toNat_eq e)
    have h1 : (x == y) = false := by simp [h]
    rw [h1, beq_eq_false_iff_ne]; omega
theorem u_ne (x y : U) : (((x.toNat : Int) != (y.toNat : Int)) : Bool) = (x != y) := by rw [bne, bne, u_eq]
theorem u_of {n : Int} (h : (Lit.int .u32 n).wf = true) : ∃ x : U, n = x.toNat := by
  simp [Lit.wf, IntKind.min, IntKind.max, IntKind.signed, IntKind.bits] at h
  refine ⟨BitVec.ofInt 32 n, ?_⟩
  rw [BitVec.toNat_ofInt]
  omega
theorem u_ext {x y : U} (h : ∀ i, i < 32 → x.getLsbD i = y.getLsbD i) : x = y := BitVec.eq_of_getLsbD_eq h
theorem u_one {e i : Nat} (hi : i < 32) : (1#32 <<< e).getLsbD i = decide (i = e) := by
  rw [BitVec.getLsbD_shiftLeft, BitVec.getLsbD_one]
  by_cases h : i = e
  · subst h; simp [hi]
  · by_cases h2 : i < e
    · simp [h2, h]
    · simp [h, hi]; omega

/-! Relations: by event a set. -/
def relV (f : Nat → U) : List Value := rowOf 32 fun e => .int .u32 ((f e).toNat : Int)
theorem relV_len (f : Nat → U) : (relV f).length = 32 := rowOf_len _ _
theorem relV_get {f : Nat → U} {k : Nat} (hk : k < 32) : (relV f)[k]? = some (.int .u32 ((f k).toNat : Int)) := rowOf_get hk
theorem relV_congr {f g : Nat → U} (h : ∀ k, k < 32 → f k = g k) : relV f = relV g := rowOf_congr fun k hk => by rw [h k hk]
theorem relV_set (f : Nat → U) (k : Nat) (x : U) : (relV f).set k (.int .u32 (x.toNat : Int)) = relV (fun e => if e = k then x else f e) := by
  unfold relV; rw [rowOf_set]; apply rowOf_congr; intro i _; by_cases h : i = k <;> simp [h]
theorem relV_plain (f : Nat → U) : (relV f).all plain1 = true := rowOf_all _ fun _ _ => rfl
theorem relV_zero : List.replicate 32 (.int .u32 0) = relV (fun _ => 0#32) := rowOf_rep 32 _
theorem flat_rel (f : Nat → U) : flat (agg (relV f)) = true := by
  have := relV_plain f
  simp [flat, plain, agg] at this ⊢; exact this
theorem relV_inj {f g : Nat → U} (h : relV f = relV g) {k : Nat} (hk : k < 32) : f k = g k := by
  have := rowOf_inj h hk
  simp only [Value.int.injEq, true_and] at this
  exact BitVec.eq_of_toNat_eq (by omega)

/-- Those before k by A, the others by B. -/
def mix {α : Type} (k : Nat) (A B : Nat → α) (e : Nat) : α := if e < k then A e else B e
theorem mix_zero {α : Type} (A B : Nat → α) : mix 0 A B = B := by funext e; simp [mix]
theorem mix_at {α : Type} (k : Nat) (A B : Nat → α) : mix k A B k = B k := by simp [mix]
theorem mix_lt {α : Type} {k e : Nat} (A B : Nat → α) (h : e < k) : mix k A B e = A e := by simp [mix, h]
theorem mix_ge {α : Type} {k e : Nat} (A B : Nat → α) (h : ¬ e < k) : mix k A B e = B e := by simp [mix, h]
theorem rowOf_mixset {α : Type} {n : Nat} (k : Nat) (A B : Nat → α) : (rowOf n (mix k A B)).set k (A k) = rowOf n (mix (k + 1) A B) := by
  rw [rowOf_set]
  apply rowOf_congr
  intro i _
  by_cases h : i = k
  · subst h; simp [mix]
  · rw [if_neg h]
    by_cases h2 : i < k
    · rw [mix_lt _ _ h2, mix_lt _ _ (by omega)]
    · rw [mix_ge _ _ h2, mix_ge _ _ (by omega)]
theorem rowOf_mixskip {α : Type} {n k : Nat} {A B : Nat → α} (h : A k = B k) : rowOf n (mix k A B) = rowOf n (mix (k + 1) A B) := by
  apply rowOf_congr
  intro i _
  by_cases h1 : i = k
  · subst h1; simp [mix, h]
  · by_cases h2 : i < k
    · rw [mix_lt _ _ h2, mix_lt _ _ (by omega)]
    · rw [mix_ge _ _ h2, mix_ge _ _ (by omega)]
theorem rowOf_mixall {α : Type} (n : Nat) (A B : Nat → α) : rowOf n (mix n A B) = rowOf n A := rowOf_congr fun k hk => mix_lt _ _ hk
theorem relV_mixset (k : Nat) (A B : Nat → U) : (relV (mix k A B)).set k (.int .u32 ((A k).toNat : Int)) = relV (mix (k + 1) A B) := by
  rw [relV_set]
  apply relV_congr
  intro i _
  by_cases h : i = k
  · subst h; simp [mix]
  · rw [if_neg h]
    by_cases h2 : i < k
    · rw [mix_lt _ _ h2, mix_lt _ _ (by omega)]
    · rw [mix_ge _ _ h2, mix_ge _ _ (by omega)]
theorem relV_mixput {k : Nat} {A B : Nat → U} {x : U} (hx : A k = x) : (relV (mix k A B)).set k (.int .u32 (x.toNat : Int)) = relV (mix (k + 1) A B) := by rw [← hx, relV_mixset]
theorem relV_mixskip {k : Nat} {A B : Nat → U} (h : A k = B k) : relV (mix k A B) = relV (mix (k + 1) A B) := by
  apply relV_congr
  intro i _
  by_cases h1 : i = k
  · subst h1; simp [mix, h]
  · by_cases h2 : i < k
    · rw [mix_lt _ _ h2, mix_lt _ _ (by omega)]
    · rw [mix_ge _ _ h2, mix_ge _ _ (by omega)]
theorem relV_mixall (A B : Nat → U) : relV (mix 32 A B) = relV A := relV_congr fun k hk => mix_lt _ _ hk
theorem arr_nat (h : Heap) {len size b o : Nat} {s : Option Nat} {kk : IntKind} {k : Nat} (h1 : k < len) : arrO h len size (.pointer (some ⟨b, o, s⟩)) (.int kk (k : Int)) = some (.pointer (some ⟨b, o + k * size, s⟩), h) := by
  rw [arr_some h (by omega) (by omega), Int.toNat_natCast]
theorem row_nat (h : Heap) {size : Nat} {p : Addr} {n : Nat} {kk : IntKind} {k : Nat} (h1 : k < n) : rowO h size (.slice (some p) n size) (.int kk (k : Int)) = some (.pointer (some ⟨p.block, p.off + k * size, p.spot⟩), h) := by
  rw [row_some h (by omega) (by omega), Int.toNat_natCast]
theorem laid_agg (l : List Value) : laid (agg l) = some l := by simp [laid, agg]
theorem box_some (h : Heap) {n : Nat} {l : List Value} (hl : l.length = n) : boxO h n (some l) = some (.pointer (some ⟨h.length, 0, some 0⟩), h ++ [.cells l 0 false]) := by simp [boxO, hl]
theorem wrap_nat {k : Nat} (h : k < 9223372036854775807) : IntKind.i64.wrap ((k : Int) + 1) = ((k + 1 : Nat) : Int) := by rw [wrap_in (by unfold W; omega)]; omega
theorem junkA {l : List Value} {h : Heap} {f : (Nat → Value) → List Value} {C : Prop} (e : f (fun i => l.getD i undef) = l) (c : C) : ∃ j, St.mk l h = ⟨f j, h⟩ ∧ C := ⟨_, by rw [e], c⟩
theorem junkh {l : List Value} {h h' : Heap} {f : (Nat → Value) → List Value} (e : f (fun i => l.getD i undef) = l) (eh : h = h') : ∃ j, St.mk l h = ⟨f j, h'⟩ := ⟨_, by rw [e, eh]⟩
open Classical in
/-- Read again, as it was. -/
noncomputable def againO (h : Heap) (n : Nat) : Value → Value → Option (Value × Heap)
  | .pointer (some p), v => if (h.read p n).map agg = some v ∧ isTup v = false then some (undef, h) else none
  | _, _ => none
open Classical in
theorem O_again {call : Caller} (t : List Value) (h' h : Heap) (n : Nat) (a : Operand) (i : Nat) : evOp call (St.eval ⟨t, h'⟩) h (.again n a i) = againO h n (St.eval ⟨t, h'⟩ a) (t.getD i undef) := by
  simp only [evOp]
  show (match St.eval ⟨t, h'⟩ a with | .pointer (some p) => if (h.read p n).map agg = some (t.getD i undef) ∧ isTup (t.getD i undef) = false then some (undef, h) else none | _ => none) = _
  generalize St.eval ⟨t, h'⟩ a = x
  cases x with
  | pointer p => cases p <;> rfl
  | _ => rfl
theorem again_agg {h : Heap} {n : Nat} {p : Addr} {l : List Value} (hr : h.read p n = some l) : againO h n (.pointer (some p)) (agg l) = some (undef, h) := by
  simp only [againO, hr, Option.map_some, true_and]; rfl
open Classical in
noncomputable def again1O (h : Heap) : Value → Value → Option (Value × Heap)
  | .pointer (some p), v => if h.read1 p = some v ∧ isTup v = false then some (undef, h) else none
  | _, _ => none
open Classical in
theorem O_again1 {call : Caller} (t : List Value) (h' h : Heap) (a : Operand) (i : Nat) : evOp call (St.eval ⟨t, h'⟩) h (.again1 a i) = again1O h (St.eval ⟨t, h'⟩ a) (t.getD i undef) := by
  simp only [evOp]
  show (match St.eval ⟨t, h'⟩ a with | .pointer (some p) => if h.read1 p = some (t.getD i undef) ∧ isTup (t.getD i undef) = false then some (undef, h) else none | _ => none) = _
  generalize St.eval ⟨t, h'⟩ a = x
  cases x with
  | pointer p => cases p <;> rfl
  | _ => rfl
def eqAggO (h : Heap) (neg : Bool) (ks : List EqK) : Value → Value → Option (Value × Heap)
  | .agg a, .agg b => if a.size = ks.length ∧ b.size = ks.length then (rowEq ks a.toList b.toList).map fun b => (.bool (b != neg), h) else none
  | _, _ => none
theorem O_eqAgg {call : Caller} (ρ : Operand → Value) (h : Heap) (neg : Bool) (ks : List EqK) (x y : Operand) : evOp call ρ h (.eqAgg neg ks x y) = eqAggO h neg ks (ρ x) (ρ y) := by
  simp only [evOp]; generalize ρ x = x; generalize ρ y = y; cases x <;> cases y <;> rfl
theorem eqAgg_some (h : Heap) {neg : Bool} {ks : List EqK} {a b : List Value} {r : Bool} (ha : a.length = ks.length) (hb : b.length = ks.length) (hr : rowEq ks a b = some r) : eqAggO h neg ks (agg a) (agg b) = some (.bool (r != neg), h) := by
  simp [eqAggO, agg, ha, hb, hr]
theorem rowEq_u32 (a b : List U) (hl : a.length = b.length) : rowEq (List.replicate a.length .int) (a.map fun x => .int .u32 (x.toNat : Int)) (b.map fun x => .int .u32 (x.toNat : Int)) = some (a == b) := by
  induction a generalizing b with
  | nil => cases b with
    | nil => rfl
    | cons y b => simp at hl
  | cons x a ih => cases b with
    | nil => simp at hl
    | cons y b =>
      simp only [List.length_cons, List.replicate_succ, List.map_cons, rowEq, leafEq, if_true]
      rw [u_eq]
      by_cases h : x = y
      · subst h
        simp only [beq_self_eq_true]
        rw [ih b (by simpa using hl)]
        simp
      · have : (x == y) = false := by simp [h]
        rw [this]; simp [h]
/-- The two are the same relation. -/
def sameR (f g : Nat → U) : Bool := rowOf 32 f == rowOf 32 g
theorem eq_rel (h : Heap) (neg : Bool) (f g : Nat → U) : eqAggO h neg (List.replicate 32 .int) (agg (relV f)) (agg (relV g)) = some (.bool (sameR f g != neg), h) := by
  refine eqAgg_some h (by rw [relV_len]; simp) (by rw [relV_len]; simp) ?_
  have := rowEq_u32 (rowOf 32 f) (rowOf 32 g) (by rw [rowOf_len, rowOf_len])
  rw [rowOf_len] at this
  have e : ∀ f : Nat → U, (rowOf 32 f).map (fun x => Value.int .u32 (x.toNat : Int)) = relV f := fun f => by unfold relV rowOf; rw [List.map_map]; rfl
  rw [e, e] at this
  exact this
theorem sameR_iff {f g : Nat → U} : sameR f g = true ↔ ∀ k, k < 32 → f k = g k := by
  unfold sameR
  rw [beq_iff_eq]
  exact ⟨fun h k hk => rowOf_inj h hk, fun h => rowOf_congr h⟩
theorem sameR_self (f : Nat → U) : sameR f f = true := sameR_iff.2 fun _ _ => rfl

/-- The end of a function that answers a row of cells. -/
noncomputable def cellsE (h H : Heap) (n : Nat) : Value → Option (Value × Heap)
  | .pointer (some p) => match H.read p n with
    | some l => some (agg l, finish h (agg l) H)
    | none => none
  | _ => none
noncomputable def outE (h H : Heap) : Option (List Value) → Option (Value × Heap)
  | some l => some (agg l, finish h (agg l) H)
  | none => none
theorem Q_cellsE (h H : Heap) (i n : Nat) (t : List Value) (r : Option (Value × Heap)) : retQ h [.cells i n] r .ret ⟨t, H⟩ = (cellsE h H n (t.getD i undef) = r) := by
  simp only [retQ, endF, aResults, aRes]
  congr 1
  generalize t.getD i undef = x
  cases x with
  | pointer p =>
    cases p with
    | none => rfl
    | some p => simp only [cellsE]; cases H.read p n <;> rfl
  | _ => rfl
theorem cellsE_ptr (h H : Heap) (n : Nat) (p : Addr) : cellsE h H n (.pointer (some p)) = outE h H (H.read p n) := by
  simp only [cellsE]; cases H.read p n <;> rfl
theorem outE_rel (h L : Heap) (f : Nat → U) : outE h (h ++ L) (some (relV f)) = some (agg (relV f), h) := by
  simp only [outE]; rw [finish_flat h L (flat_rel f)]
theorem outE_plain (h L : Heap) {l : List Value} (hl : l.all plain1 = true) : outE h (h ++ L) (some l) = some (agg l, h) := by
  simp only [outE]; rw [finish_flat]; simp [flat, plain, agg, hl]
end Go.Proofs.YtjjlbfamfioofaaDoor.AM
