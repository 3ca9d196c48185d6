/-
  Part 3.
  Conditions: as each says.
-/
import Derived.Test.YtljdbheclfaloaaGreatDoorKr2
import Derived.OpenShut
import Derived.ChangeOld
import Derived.ChangeArms
import Derived.Carry
import Derived.Shelf.Small.Strs
import Derived.Shelf.Small.Wraps
import Derived.Shelf.LaysM
import Derived.Shelf.Strconv.Clone
import Derived.Shelf.Strconv.SyntaxError
import Derived.Shelf.LaysC
import Derived.Shelf.Strconv.ToError
import Derived.Shelf.Strconv.Lower
import Derived.Shelf.Strconv.RangeError
import Derived.Shelf.Strconv.ToErrorRange
import Derived.Shelf.Strconv.ParseUintEmpty
import Derived.Shelf.Strconv.ParseUint10b64
import Derived.Ground.MpProg
import Derived.Shelf.Pu.ParseUintPublic10
import Derived.Shelf.Strings.Search1
import Derived.Shelf.Strings.Search2
import Derived.Shelf.Strings.Search3
import Derived.Shelf.Strings.Shaped
import Derived.Shelf.Strings.Prefix
import Derived.Test.YtljdbheclfaloaaGreatDoorProg
import Derived.KernelRfl
import Derived.Lib.Strings
import Derived.Lib.Walk
import Derived.Lib.ConvBytes
import Derived.Lib.AtoiAllMem
import Derived.Lib.Hide
import Derived.Laws.Strings3
import Derived.Laws.Closers25
import Derived.Laws.Closers25b
import Derived.WalkKit
import Derived.BigCall
import Derived.BigGuard
namespace Go.Proofs.YtljdbheclfaloaaGreatDoor.AM
open Go.RowKit
set_option linter.unusedSimpArgs false
set_option linter.unusedVariables false
section
variable {F : Funcs}
def forQ (J : St → Prop) (Q : AEx → St → Prop) : AEx → St → Prop
  | .normal, s => J s
  | x, s => Q x s
theorem yp (J : St → Prop) (Q : AEx → St → Prop) (s : St) : forQ J Q .normal s = J s := rfl
theorem xj (J : St → Prop) (Q : AEx → St → Prop) (i : Nat) (s : St) : forQ J Q (.exit i) s = Q (.exit i) s := rfl
theorem za2 (J : St → Prop) (Q : AEx → St → Prop) (s : St) : forQ J Q .ret s = Q .ret s := rfl
theorem pq {b : pv} {Q : AEx → St → Prop} (n : Nat) (I : Nat → St → Prop) (step : ∀ k s, k < n → I k s → WPD (D F b s) (forQ (I (k + 1)) Q)) (last : ∀ s, I n s → WPD (D F b s) (forQ (fun _ => False) Q)) (s : St) (h0 : I 0 s) : WPD (D F (.loop b) s) Q := by
  refine zi6 (fun m s => ∃ k, m + k = n + 1 ∧ ((k ≤ n ∧ I k s) ∨ (n < k ∧ False))) ?_ (n + 1) s ⟨0, by omega, .inl ⟨Nat.zero_le _, h0⟩⟩
  rintro m s ⟨k, hm, ⟨hk, hI⟩ | ⟨_, hf⟩⟩
  · by_cases hlt : k < n
    · refine (step k s hlt hI).mono fun x s' hq => ?_
      cases x with
      | normal => exact ⟨m - 1, by omega, k + 1, by omega, .inl ⟨by omega, hq⟩⟩
      | exit i => exact hq
      | ret => exact hq
    · have : k = n := by omega
      subst this
      refine (last s hI).mono fun x s' hq => ?_
      cases x with
      | normal => exact hq.elim
      | exit i => exact hq
      | ret => exact hq
  · exact hf.elim
def outQ (id : Nat) (P : St → Prop) : AEx → St → Prop := fun x s => x = .exit id ∧ P s
theorem gj (id : Nat) (P : St → Prop) (s : St) : outQ id P (.exit id) s = P s := by unfold outQ; simp
theorem bk {b : pv} {Q : AEx → St → Prop} (id n : Nat) (I : Nat → St → Prop) (P : St → Prop) (step : ∀ k s, k < n → I k s → WPD (D F b s) (forQ (I (k + 1)) (outQ id P))) (last : ∀ s, I n s → WPD (D F b s) (forQ (fun _ => False) (outQ id P))) (s : St) (h0 : I 0 s) (hq : ∀ s, P s → Q (.exit id) s) : WPD (D F (.loop b) s) Q :=
  (pq n I step last s h0).mono fun x s ⟨hx, hp⟩ => by subst hx; exact hq s hp
end
theorem yax {n : Int} (h : -9223372036854775808 ≤ n ∧ n ≤ 9223372036854775807) : IntKind.i64.wrap n = n := zga (by unfold W; exact h)
abbrev U := BitVec 32
theorem zoe (x : U) : IntKind.u32.wrap (x.toNat : Int) = x.toNat := by
  have := x.isLt
  simp [IntKind.wrap, IntKind.signed, IntKind.bits]; omega
theorem ztw (x : U) : BitVec.ofInt 32 (x.toNat : Int) = x := by
  rw [BitVec.ofInt_natCast]; simp
theorem u_or (x y : U) : Go.bits .or .u32 x.toNat y.toNat = ((x ||| y).toNat : Int) := by
  unfold Go.bits; simp only [IntKind.bits, ztw]; exact zoe _
theorem ya4 (x y : U) : Go.bits .and .u32 x.toNat y.toNat = ((x &&& y).toNat : Int) := by
  unfold Go.bits; simp only [IntKind.bits, ztw]; exact zoe _
theorem zve (x y : U) : Go.bits .andNot .u32 x.toNat y.toNat = ((x &&& ~~~ y).toNat : Int) := by
  unfold Go.bits; simp only [IntKind.bits, ztw]; exact zoe _
theorem yg5 (x : U) (k : Int) : shl .u32 x.toNat k = ((x <<< k.toNat).toNat : Int) := by
  unfold shl
  have e : IntKind.u32.wrap ((x.toNat : Int) * 2 ^ min k.toNat IntKind.u32.bits) = ((x.toNat * 2 ^ min k.toNat 32 % 2 ^ 32 : Nat) : Int) := by
    simp [IntKind.wrap, IntKind.signed, IntKind.bits]
  rw [e, BitVec.toNat_shiftLeft, Nat.shiftLeft_eq]
  congr 1
  by_cases h : k.toNat ≤ 32
  · rw [Nat.min_eq_left h]
  · rw [Nat.min_eq_right (by omega)]
    have h1 : k.toNat = 32 + (k.toNat - 32) := by omega
    rw [h1, Nat.pow_add]
    rw [Nat.mul_mod_left, ← Nat.mul_assoc, Nat.mul_comm x.toNat, Nat.mul_assoc, Nat.mul_mod_right]
theorem ydk (k : Int) : shl .u32 1 k = ((1#32 <<< k.toNat).toNat : Int) := yg5 1#32 k
theorem yhf (x : U) (k : Int) : shr .u32 x.toNat k = ((x >>> k.toNat).toNat : Int) := by
  unfold shr
  rw [ybv, BitVec.toNat_ushiftRight]
  have : ((x.toNat : Int) >>> min k.toNat IntKind.u32.bits) = ((x.toNat >>> min k.toNat 32 : Nat) : Int) := rfl
  rw [this]
  congr 1
  by_cases h : k.toNat ≤ 32
  · rw [Nat.min_eq_left h]
  · rw [Nat.min_eq_right (by omega), Nat.shiftRight_eq_div_pow, Nat.shiftRight_eq_div_pow, Nat.div_eq_of_lt x.isLt, Nat.div_eq_of_lt (Nat.lt_of_lt_of_le x.isLt (Nat.pow_le_pow_right (by omega) (by omega)))]
theorem yga (x : U) : Go.bits .and .u32 x.toNat 1 = ((x &&& 1#32).toNat : Int) := ya4 x 1#32
theorem yhe (x : U) (k : Int) : (Go.bits .and .u32 (shr .u32 x.toNat k) 1 == 1) = x.getLsbD k.toNat := by
  rw [yhf, yga]
  have : (x >>> k.toNat) &&& 1#32 = if x.getLsbD k.toNat then 1#32 else 0#32 := by
    apply BitVec.eq_of_getLsbD_eq
    intro i hi
    rw [BitVec.getLsbD_and, BitVec.getLsbD_ushiftRight, BitVec.getLsbD_one]
    by_cases h : i = 0
    · subst h; cases x.getLsbD k.toNat <;> simp
    · have : decide (i = 0) = false := by simp [h]
      cases x.getLsbD k.toNat <;> simp [h]
  rw [this]
  cases x.getLsbD k.toNat <;> rfl
theorem u_eq (x y : U) : (((x.toNat : Int) == (y.toNat : Int)) : Bool) = (x == y) := by
  by_cases h : x = y
  · subst h; simp
  · have : x.toNat ≠ y.toNat := fun e => h (BitVec.eq_of_toNat_eq e)
    have h1 : (x == y) = false := by simp [h]
    rw [h1, beq_eq_false_iff_ne]; omega
theorem u_of {n : Int} (h : (Lit.int .u32 n).wf = true) : ∃ x : U, n = x.toNat := by
  simp [Lit.wf, IntKind.min, IntKind.max, IntKind.signed, IntKind.bits] at h
  refine ⟨BitVec.ofInt 32 n, ?_⟩
  rw [BitVec.toNat_ofInt]
  omega
theorem yee {x y : U} (h : ∀ i, i < 32 → x.getLsbD i = y.getLsbD i) : x = y := BitVec.eq_of_getLsbD_eq h
theorem ygo {e i : Nat} (hi : i < 32) : (1#32 <<< e).getLsbD i = decide (i = e) := by
  rw [BitVec.getLsbD_shiftLeft, BitVec.getLsbD_one]
  by_cases h : i = e
  · subst h; simp [hi]
  · by_cases h2 : i < e
    · simp [h2, h]
    · simp [h, hi]; omega
def relV (f : Nat → U) : List Value := zby 32 fun e => .int .u32 ((f e).toNat : Int)
theorem x9 (f : Nat → U) : (relV f).length = 32 := f9 _ _
theorem zbl {f : Nat → U} {k : Nat} (hk : k < 32) : (relV f)[k]? = some (.int .u32 ((f k).toNat : Int)) := zf6 hk
theorem zjn {f g : Nat → U} (h : ∀ k, k < 32 → f k = g k) : relV f = relV g := zhe fun k hk => by rw [h k hk]
theorem ya5 (f : Nat → U) (k : Nat) (x : U) : (relV f).set k (.int .u32 (x.toNat : Int)) = relV (fun e => if e = k then x else f e) := by
  unfold relV; rw [zxe]; apply zhe; intro i _; by_cases h : i = k <;> simp [h]
theorem znc (f : Nat → U) : (relV f).all plain1 = true := zxg _ fun _ _ => rfl
theorem qz : List.replicate 32 (.int .u32 0) = relV (fun _ => 0#32) := yal 32 _
theorem ycc (f : Nat → U) : flat (agg (relV f)) = true := by
  have := znc f
  simp [flat, plain, agg] at this ⊢; exact this
def mix {α : Type} (k : Nat) (A B : Nat → α) (e : Nat) : α := if e < k then A e else B e
theorem zdq {α : Type} (A B : Nat → α) : mix 0 A B = B := by funext e; simp [mix]
theorem zlt {α : Type} (k : Nat) (A B : Nat → α) : mix k A B k = B k := by simp [mix]
theorem zqr {α : Type} {k e : Nat} (A B : Nat → α) (h : e < k) : mix k A B e = A e := by simp [mix, h]
theorem zuh {α : Type} {k e : Nat} (A B : Nat → α) (h : ¬ e < k) : mix k A B e = B e := by simp [mix, h]
theorem zta (k : Nat) (A B : Nat → U) : (relV (mix k A B)).set k (.int .u32 ((A k).toNat : Int)) = relV (mix (k + 1) A B) := by
  rw [ya5]
  apply zjn
  intro i _
  by_cases h : i = k
  · subst h; simp [mix]
  · rw [if_neg h]
    by_cases h2 : i < k
    · rw [zqr _ _ h2, zqr _ _ (by omega)]
    · rw [zuh _ _ h2, zuh _ _ (by omega)]
theorem b9 {k : Nat} {A B : Nat → U} {x : U} (hx : A k = x) : (relV (mix k A B)).set k (.int .u32 (x.toNat : Int)) = relV (mix (k + 1) A B) := by rw [← hx, zta]
theorem zf0 {k : Nat} {A B : Nat → U} (h : A k = B k) : relV (mix k A B) = relV (mix (k + 1) A B) := by
  apply zjn
  intro i _
  by_cases h1 : i = k
  · subst h1; simp [mix, h]
  · by_cases h2 : i < k
    · rw [zqr _ _ h2, zqr _ _ (by omega)]
    · rw [zuh _ _ h2, zuh _ _ (by omega)]
theorem b8 (A B : Nat → U) : relV (mix 32 A B) = relV A := zjn fun k hk => zqr _ _ hk
theorem zc4 (h : Heap) {len size b o : Nat} {s : Option Nat} {kk : IntKind} {k : Nat} (h1 : k < len) : arrO h len size (.pointer (some ⟨b, o, s⟩)) (.int kk (k : Int)) = some (.pointer (some ⟨b, o + k * size, s⟩), h) := by
  rw [yc4 h (by omega) (by omega), Int.toNat_natCast]
theorem yfg (h : Heap) {size : Nat} {p : Addr} {n : Nat} {kk : IntKind} {k : Nat} (h1 : k < n) : rowO h size (.slice (some p) n size) (.int kk (k : Int)) = some (.pointer (some ⟨p.block, p.off + k * size, p.spot⟩), h) := by
  rw [yb0 h (by omega) (by omega), Int.toNat_natCast]
theorem yh (l : List Value) : laid (agg l) = some l := by simp [laid, agg]
theorem zt (h : Heap) {n : Nat} {l : List Value} (hl : l.length = n) : boxO h n (some l) = some (.pointer (some ⟨h.length, 0, some 0⟩), h ++ [.cells l 0 false]) := by simp [boxO, hl]
theorem xm {k : Nat} (h : k < 9223372036854775807) : IntKind.i64.wrap ((k : Int) + 1) = ((k + 1 : Nat) : Int) := by rw [zga (by unfold W; omega)]; omega
open Classical in
noncomputable def yak (h : Heap) (n : Nat) : Value → Value → Option (Value × Heap)
  | .pointer (some p), v => if (h.read p n).map agg = some v ∧ zmr v = false then some (undef, h) else none
  | _, _ => none
open Classical in
theorem zy8 {call : qd} (t : List Value) (h' h : Heap) (n : Nat) (a : Operand) (i : Nat) : evOp call (St.eval ⟨t, h'⟩) h (.again n a i) = yak h n (St.eval ⟨t, h'⟩ a) (t.getD i undef) := by
  simp only [evOp]
  show (match St.eval ⟨t, h'⟩ a with | .pointer (some p) => if (h.read p n).map agg = some (t.getD i undef) ∧ zmr (t.getD i undef) = false then some (undef, h) else none | _ => none) = _
  generalize St.eval ⟨t, h'⟩ a = x
  cases x with
  | pointer p => cases p <;> rfl
  | _ => rfl
theorem zri {h : Heap} {n : Nat} {p : Addr} {l : List Value} (hr : h.read p n = some l) : yak h n (.pointer (some p)) (agg l) = some (undef, h) := by
  simp only [yak, hr, Option.map_some, true_and]; rfl
open Classical in
noncomputable def zb2 (h : Heap) : Value → Value → Option (Value × Heap)
  | .pointer (some p), v => if h.read1 p = some v ∧ zmr v = false then some (undef, h) else none
  | _, _ => none
open Classical in
theorem zdb {call : qd} (t : List Value) (h' h : Heap) (a : Operand) (i : Nat) : evOp call (St.eval ⟨t, h'⟩) h (.again1 a i) = zb2 h (St.eval ⟨t, h'⟩ a) (t.getD i undef) := by
  simp only [evOp]
  show (match St.eval ⟨t, h'⟩ a with | .pointer (some p) => if h.read1 p = some (t.getD i undef) ∧ zmr (t.getD i undef) = false then some (undef, h) else none | _ => none) = _
  generalize St.eval ⟨t, h'⟩ a = x
  cases x with
  | pointer p => cases p <;> rfl
  | _ => rfl
def zng (h : Heap) (neg : Bool) (ks : List EqK) : Value → Value → Option (Value × Heap)
  | .agg a, .agg b => if a.size = ks.length ∧ b.size = ks.length then (zbh ks a.toList b.toList).map fun b => (.bool (b != neg), h) else none
  | _, _ => none
theorem zss {call : qd} (ρ : Operand → Value) (h : Heap) (neg : Bool) (ks : List EqK) (x y : Operand) : evOp call ρ h (.eqAgg neg ks x y) = zng h neg ks (ρ x) (ρ y) := by
  simp only [evOp]; generalize ρ x = x; generalize ρ y = y; cases x <;> cases y <;> rfl
theorem znl (h : Heap) {neg : Bool} {ks : List EqK} {a b : List Value} {r : Bool} (ha : a.length = ks.length) (hb : b.length = ks.length) (hr : zbh ks a b = some r) : zng h neg ks (agg a) (agg b) = some (.bool (r != neg), h) := by
  simp [zng, agg, ha, hb, hr]
theorem zp6 (a b : List U) (hl : a.length = b.length) : zbh (List.replicate a.length .int) (a.map fun x => .int .u32 (x.toNat : Int)) (b.map fun x => .int .u32 (x.toNat : Int)) = some (a == b) := by
  induction a generalizing b with
  | nil => cases b with
    | nil => rfl
    | cons y b => simp at hl
  | cons x a ih => cases b with
    | nil => simp at hl
    | cons y b =>
      simp only [List.length_cons, List.replicate_succ, List.map_cons, zbh, qw, if_true]
      rw [u_eq]
      by_cases h : x = y
      · subst h
        simp only [beq_self_eq_true]
        rw [ih b (by simpa using hl)]
        simp
      · have : (x == y) = false := by simp [h]
        rw [this]; simp [h]
def zpm (f g : Nat → U) : Bool := zby 32 f == zby 32 g
theorem yfu (h : Heap) (neg : Bool) (f g : Nat → U) : zng h neg (List.replicate 32 .int) (agg (relV f)) (agg (relV g)) = some (.bool (zpm f g != neg), h) := by
  refine znl h (by rw [x9]; simp) (by rw [x9]; simp) ?_
  have := zp6 (zby 32 f) (zby 32 g) (by rw [f9, f9])
  rw [f9] at this
  have e : ∀ f : Nat → U, (zby 32 f).map (fun x => Value.int .u32 (x.toNat : Int)) = relV f := fun f => by unfold relV zby; rw [List.map_map]; rfl
  rw [e, e] at this
  exact this
theorem sameR_iff {f g : Nat → U} : zpm f g = true ↔ ∀ k, k < 32 → f k = g k := by
  unfold zpm
  rw [beq_iff_eq]
  exact ⟨fun h k hk => zxy h hk, fun h => zhe h⟩
noncomputable def zvd (h H : Heap) (n : Nat) : Value → Option (Value × Heap)
  | .pointer (some p) => match H.read p n with
    | some l => some (agg l, finish h (agg l) H)
    | none => none
  | _ => none
noncomputable def outE (h H : Heap) : Option (List Value) → Option (Value × Heap)
  | some l => some (agg l, finish h (agg l) H)
  | none => none
theorem gg (h H : Heap) (i n : Nat) (t : List Value) (r : Option (Value × Heap)) : retQ h [.cells i n] r .ret ⟨t, H⟩ = (zvd h H n (t.getD i undef) = r) := by
  simp only [retQ, endF, f8, aRes]
  congr 1
  generalize t.getD i undef = x
  cases x with
  | pointer p =>
    cases p with
    | none => rfl
    | some p => simp only [zvd]; cases H.read p n <;> rfl
  | _ => rfl
theorem qj (h H : Heap) (n : Nat) (p : Addr) : zvd h H n (.pointer (some p)) = outE h H (H.read p n) := by
  simp only [zvd]; cases H.read p n <;> rfl
theorem zbk (h L : Heap) (f : Nat → U) : outE h (h ++ L) (some (relV f)) = some (agg (relV f), h) := by
  simp only [outE]; rw [fv h L (ycc f)]
theorem znm (h L : Heap) {l : List Value} (hl : l.all plain1 = true) : outE h (h ++ L) (some l) = some (agg l, h) := by
  simp only [outE]; rw [fv]; simp [flat, plain, agg, hl]
end Go.Proofs.YtljdbheclfaloaaGreatDoor.AM
namespace Go.Proofs.YtljdbheclfaloaaGreatDoor.AM
open Go.RowKit
set_option linter.unusedSimpArgs false
set_option linter.unusedVariables false
def Sl (h : Heap) (s : Value) (c : Nat) (rows : List (List Value)) : Prop :=
  ((s = nils ∧ rows = []) ∨ ∃ b o v, s = .slice (some ⟨b, o, some v⟩) rows.length c ∧ h.read ⟨b, o, some v⟩ (rows.length * c) = some rows.flatten) ∧ ∀ r ∈ rows, r.length = c
section
variable {h : Heap} {s : Value} {c : Nat} {rows : List (List Value)}
theorem Sl.len (e : Sl h s c rows) (H : Heap) : lenO H s = some (.int .i64 rows.length, H) := by
  rcases e with ⟨⟨rfl, rfl⟩ | ⟨b, o, v, rfl, _⟩, _⟩ <;> rfl
theorem Sl.more (e : Sl h s c rows) (L : Heap) : Sl (h ++ L) s c rows := by
  rcases e with ⟨⟨rfl, rfl⟩ | ⟨b, o, v, rfl, hr⟩, hc⟩
  · exact ⟨.inl ⟨rfl, rfl⟩, hc⟩
  · exact ⟨.inr ⟨b, o, v, rfl, zh8 h L hr⟩, hc⟩
theorem zkw : ∀ (rows : List (List Value)) (c : Nat), (∀ r ∈ rows, r.length = c) → ∀ (k : Nat) (hk : k < rows.length), (rows.flatten.drop (k * c)).take c = rows[k]
  | [], c, hc, k, hk => by simp at hk
  | r :: rows, c, hc, 0, hk => by
    have := hc r (by simp)
    simp [this]
  | r :: rows, c, hc, k + 1, hk => by
    have h1 := hc r (by simp)
    have h2 := zkw rows c (fun q hq => hc q (by simp [hq])) k (by simpa using hk)
    have h3 : (r ++ rows.flatten).drop ((k + 1) * c) = rows.flatten.drop (k * c) := by
      rw [Nat.succ_mul, Nat.add_comm, ← List.drop_drop, ← h1, List.drop_left]
    rw [List.flatten_cons, h3]
    simpa using h2
theorem bh (rows : List (List Value)) (c : Nat) (hc : ∀ r ∈ rows, r.length = c) : rows.flatten.length = rows.length * c := by
  induction rows with
  | nil => simp
  | cons r rows ih =>
    rw [List.flatten_cons, List.length_append, hc r (by simp), ih fun q hq => hc q (by simp [hq]), List.length_cons, Nat.succ_mul, Nat.add_comm]
theorem yc3 {b o n : Nat} {v : Option Nat} {l : List Value} (e : h.read ⟨b, o, v⟩ n = some l) {i m : Nat} (hm : i + m ≤ n) : h.read ⟨b, o + i, v⟩ m = some ((l.drop i).take m) := by
  unfold Heap.read at e ⊢
  simp only at e ⊢
  split at e
  · rename_i vals ver ro hb
    split at e
    · rename_i hc
      rw [if_pos ⟨hc.1, by omega⟩]
      cases e
      rw [List.drop_take, List.drop_drop, List.take_take, Nat.min_eq_left (by omega)]
    · cases e
  · cases e
theorem Sl.at (e : Sl h s c rows) {k : Nat} (hk : k < rows.length) : ∃ b o v, (∀ H, rowO H c s (.int .i64 (k : Int)) = some (.pointer (some ⟨b, o, some v⟩), H)) ∧ ∀ L, Heap.read (h ++ L) ⟨b, o, some v⟩ c = some rows[k] := by
  rcases e with ⟨⟨rfl, rfl⟩ | ⟨b, o, v, rfl, hr⟩, hc⟩
  · simp at hk
  · refine ⟨b, o + k * c, v, fun H => yfg H hk, fun L => ?_⟩
    have h1 : k * c + c ≤ rows.length * c := by rw [← Nat.succ_mul]; exact Nat.mul_le_mul_right c hk
    rw [yc3 (zh8 h L hr) h1, zkw rows c hc k hk]
theorem yby {b o n : Nat} {v : Option Nat} {l : List Value} (e : h.read ⟨b, o, v⟩ n = some l) {i : Nat} {x : Value} (hx : l[i]? = some x) : h.read1 ⟨b, o + i, v⟩ = some x := zt9 h e hx
theorem zfr {b o n : Nat} {v : Option Nat} {l : List Value} (e : h.read ⟨b, o, v⟩ n = some l) {x : Value} (hx : l[0]? = some x) : h.read1 ⟨b, o, v⟩ = some x := zt9 h e hx
theorem Sl.src (e : Sl h s c rows) (L : Heap) : zc9 (h ++ L) c s = some (rows.flatten, rows.length) := by
  rcases e with ⟨⟨rfl, rfl⟩ | ⟨b, o, v, rfl, hr⟩, hc⟩
  · rfl
  · exact zoh _ (zh8 h L hr)
theorem Sl.last (h : Heap) {c n : Nat} {rows : List (List Value)} {l : List Value} (hl : l = rows.flatten) (hn : n = rows.length) (hc : ∀ r ∈ rows, r.length = c) (ver : Nat) (ro : Bool) : Sl (h ++ [.cells l ver ro]) (.slice (some ⟨h.length, 0, some ver⟩) n c) c rows := by
  subst hl hn
  refine ⟨.inr ⟨_, _, ver, rfl, ?_⟩, hc⟩
  rw [xr, xh _ _ _ _ (bh rows c hc)]
end
theorem zv9 {a b x y : List Value} (hx : x.length = y.length) : splice (a ++ x ++ b) a.length y = a ++ y ++ b := by
  unfold splice
  rw [List.append_assoc a x b, List.take_left, ← List.drop_drop, List.drop_left, ← hx, List.drop_left]
theorem zgt {c : Nat} {l : List Value} {i : Nat} {a z b : List Value} {r : List (Nat × Nat × Value)} (hl : l.length = c) (hi : a.length = i) (hz : z.length = c) : w4 (a ++ z ++ b) ((i, c, agg l) :: r) = w4 (a ++ l ++ b) r := by
  rw [w4, yh]
  simp only
  rw [if_pos ⟨hl, by simp [hi, hz]⟩, ← hi, zv9 (by omega)]
theorem zlc {c : Nat} {z l : List Value} (hz : z.length = c) (hl : l.length = c) : w4 (bw z 1) [(0, c, agg l)] = some l := by
  have e : bw z 1 = [] ++ z ++ [] := by simp [bw]
  rw [e, zgt (i := 0) hl rfl hz, yz]; simp
theorem zsm {c : Nat} {z l m : List Value} (hz : z.length = c) (hl : l.length = c) (hm : m.length = c) : w4 (bw z 2) [(0, c, agg l), (c, c, agg m)] = some (l ++ m) := by
  have e : bw z 2 = [] ++ z ++ z := by simp [bw]
  rw [e, zgt (i := 0) hl rfl hz]
  have e2 : [] ++ l ++ z = l ++ z ++ [] := by simp
  rw [e2, zgt hm hl hz, yz]; simp
theorem zih (f g : Nat → U) : w4 ((relV fun _ => 0#32) ++ relV fun _ => 0#32) [(0, 32, agg (relV f)), (32, 32, agg (relV g))] = some (relV f ++ relV g) := by
  have := zsm (x9 fun _ => 0#32) (x9 f) (x9 g)
  simpa [bw] using this
def Rels (h : Heap) (s : Value) (rs : List (Nat → U)) : Prop := Sl h s 32 (rs.map relV)
end Go.Proofs.YtljdbheclfaloaaGreatDoor.AM
namespace Go.Proofs.YtljdbheclfaloaaGreatDoor.AM
open Go.RowKit
set_option linter.unusedSimpArgs false
set_option linter.unusedVariables false
def blk : Value → Option Nat
  | .slice (some p) _ _ => some p.block
  | _ => none
def Own (h H : Heap) (s : Value) (c : Nat) (rows : List (List Value)) : Prop :=
  ((s = nils ∧ rows = []) ∨ ∃ b ver, h.length ≤ b ∧ s = .slice (some ⟨b, 0, some ver⟩) rows.length c ∧ H[b]? = some (.cells rows.flatten ver false)) ∧ ∀ r ∈ rows, r.length = c
section
variable {h H H' : Heap} {s : Value} {c : Nat} {rows : List (List Value)}
theorem Own.nil (h H : Heap) (c : Nat) : Own h H (.slice none 0 0) c [] := ⟨.inl ⟨rfl, rfl⟩, by simp⟩
theorem Own.sl (e : Own h H s c rows) : Sl H s c rows := by
  rcases e with ⟨⟨rfl, rfl⟩ | ⟨b, ver, hb, rfl, ho⟩, hc⟩
  · exact ⟨.inl ⟨rfl, rfl⟩, hc⟩
  · refine ⟨.inr ⟨b, 0, ver, rfl, ?_⟩, hc⟩
    unfold Heap.read
    simp only [ho]
    rw [if_pos ⟨trivial, by rw [bh rows c hc]; omega⟩, List.drop_zero, List.take_of_length_le (by rw [bh rows c hc]; exact Nat.le_refl _)]
theorem Own.keep (e : Own h H s c rows) (hk : ∀ i, blk s = some i → ∀ o, H[i]? = some o → H'[i]? = some o) : Own h H' s c rows := by
  rcases e with ⟨⟨rfl, rfl⟩ | ⟨b, ver, hb, rfl, ho⟩, hc⟩
  · exact ⟨.inl ⟨rfl, rfl⟩, hc⟩
  · exact ⟨.inr ⟨b, ver, hb, rfl, hk b rfl _ ho⟩, hc⟩
theorem Own.lt (e : Own h H s c rows) {i : Nat} (hi : blk s = some i) : h.length ≤ i ∧ i < H.length := by
  rcases e with ⟨⟨rfl, rfl⟩ | ⟨b, ver, hb, rfl, ho⟩, hc⟩
  · cases hi
  · cases hi; exact ⟨hb, (List.getElem?_eq_some_iff.1 ho).1⟩
theorem Own.more (e : Own h H s c rows) (L : Heap) : Own h (H ++ L) s c rows := e.keep fun i hi o ho => by rw [List.getElem?_append_left (e.lt hi).2]; exact ho
theorem Own.len (e : Own h H s c rows) (H' : Heap) : lenO H' s = some (.int .i64 rows.length, H') := by
  rcases e with ⟨⟨rfl, rfl⟩ | ⟨b, ver, hb, rfl, ho⟩, hc⟩ <;> rfl
theorem Sl.keep (e : Sl H s c rows) (hk : ∀ i, blk s = some i → ∀ o, H[i]? = some o → H'[i]? = some o) : Sl H' s c rows := by
  rcases e with ⟨⟨rfl, rfl⟩ | ⟨b, o, v, rfl, hr⟩, hc⟩
  · exact ⟨.inl ⟨rfl, rfl⟩, hc⟩
  · refine ⟨.inr ⟨b, o, v, rfl, ?_⟩, hc⟩
    unfold Heap.read at hr ⊢
    simp only at hr ⊢
    split at hr
    · rename_i vals ver ro hb
      rw [hk b rfl _ hb]; exact hr
    · cases hr
theorem Sl.lt (e : Sl H s c rows) {i : Nat} (hi : blk s = some i) : i < H.length := by
  rcases e with ⟨⟨rfl, rfl⟩ | ⟨b, o, v, rfl, hr⟩, hc⟩
  · cases hi
  · cases hi
    unfold Heap.read at hr
    simp only at hr
    split at hr
    · rename_i vals ver ro hb; exact (List.getElem?_eq_some_iff.1 hb).1
    · cases hr
def Pre (h H : Heap) : Prop := ∃ L, H = h ++ L
theorem Pre.refl (h : Heap) : Pre h h := ⟨[], by simp⟩
theorem Pre.more (e : Pre h H) (L : Heap) : Pre h (H ++ L) := by obtain ⟨K, rfl⟩ := e; exact ⟨K ++ L, by simp⟩
theorem Pre.trans {h0 : Heap} (e : Pre h0 h) (e' : Pre h H) : Pre h0 H := by obtain ⟨K, rfl⟩ := e; obtain ⟨M, rfl⟩ := e'; exact ⟨K ++ M, by simp⟩
theorem Pre.le (e : Pre h H) : h.length ≤ H.length := by obtain ⟨K, rfl⟩ := e; simp
theorem Pre.get (e : Pre h H) {i : Nat} (hi : i < h.length) : H[i]? = h[i]? := by obtain ⟨K, rfl⟩ := e; exact List.getElem?_append_left hi
theorem Pre.set (e : Pre h H) {i : Nat} (hi : h.length ≤ i) (o : AObj) : Pre h (H.set i o) := by
  obtain ⟨K, rfl⟩ := e; exact ⟨K.set (i - h.length) o, by rw [List.set_append_right _ _ hi]⟩
theorem Sl.pre (e : Sl h s c rows) (p : Pre h H) : Sl H s c rows := by obtain ⟨K, rfl⟩ := p; exact e.more K
theorem Sl.atH (e : Sl H s c rows) {k : Nat} (hk : k < rows.length) : ∃ b o v, (∀ H', rowO H' c s (.int .i64 (k : Int)) = some (.pointer (some ⟨b, o, some v⟩), H')) ∧ Heap.read H ⟨b, o, some v⟩ c = some rows[k] := by
  obtain ⟨b, o, v, h1, h2⟩ := e.at hk
  exact ⟨b, o, v, h1, by have := h2 []; rwa [List.append_nil] at this⟩
theorem Own.append (e : Own h H s c rows) (p : Pre h H) {ys : List Value} {rows' : List (List Value)} {bytes : Nat} (hy : ys = rows'.flatten) (hc' : ∀ r ∈ rows', r.length = c) (hroom : (rows.length + rows'.length) * bytes ≤ k8) :
    ∃ s' H', kh H c bytes s (some (ys, rows'.length)) = some (s', H') ∧ Own h H' s' c (rows ++ rows') ∧ Pre h H' ∧ H.length ≤ H'.length ∧
      (∀ i o, H[i]? = some o → blk s ≠ some i → H'[i]? = some o) ∧ (blk s' = blk s ∨ ∃ i, blk s' = some i ∧ H.length ≤ i) := by
  subst hy
  rcases e with ⟨⟨rfl, rfl⟩ | ⟨b, ver, hb, rfl, ho⟩, hc⟩
  · by_cases h0 : rows'.length = 0
    · have : rows' = [] := List.eq_nil_of_length_eq_zero h0
      subst this
      exact ⟨nils, H, rfl, ⟨.inl ⟨rfl, rfl⟩, by simp⟩, p, Nat.le_refl _, fun i o hi _ => hi, .inl rfl⟩
    · refine ⟨slc H.length 0 0 rows'.length c, H ++ [.cells rows'.flatten 0 false], ?_, ⟨.inr ⟨H.length, 0, p.le, rfl, by simp⟩, by simpa using hc'⟩, p.more _, by simp, fun i o hi _ => ?_, .inr ⟨_, rfl, Nat.le_refl _⟩⟩
      · simp only [kh, nils]
        rw [if_neg h0, if_pos (by simpa using hroom)]
      · rw [List.getElem?_append_left (List.getElem?_eq_some_iff.1 hi).1]; exact hi
  · have hlt := (List.getElem?_eq_some_iff.1 ho).1
    refine ⟨slc b 0 (ver + 1) (rows.length + rows'.length) c, H.set b (.cells (rows.flatten ++ rows'.flatten) (ver + 1) false), ?_, ⟨.inr ⟨b, ver + 1, hb, by rw [List.length_append]; rfl, ?_⟩, ?_⟩, p.set hb _, by simp, fun i o hi hne => ?_, .inl rfl⟩
    · simp only [kh, ho]
      rw [if_pos ⟨trivial, trivial, trivial, by rw [bh rows c hc]; exact Nat.le_refl _, hroom⟩, List.take_of_length_le (by rw [bh rows c hc]; exact Nat.le_refl _)]
    · rw [List.getElem?_set_self hlt, List.flatten_append]
    · intro r hr
      rcases List.mem_append.1 hr with hr | hr
      · exact hc r hr
      · exact hc' r hr
    · rw [List.getElem?_set_ne (by intro hbi; exact hne (by rw [hbi]; rfl))]; exact hi
theorem Own.push (e : Own h H s c rows) (p : Pre h H) {row : List Value} {bytes : Nat} (hrow : row.length = c) (hroom : (rows.length + 1) * bytes ≤ k8) :
    ∃ s' H', kh (H ++ [.cells row 0 false]) c bytes s (zc9 (H ++ [.cells row 0 false]) c (.slice (some ⟨H.length, 0, some 0⟩) 1 c)) = some (s', H') ∧ Own h H' s' c (rows ++ [row]) ∧ Pre h H' ∧ H.length ≤ H'.length ∧
      (∀ i o, H[i]? = some o → blk s ≠ some i → H'[i]? = some o) ∧ (blk s' = blk s ∨ ∃ i, blk s' = some i ∧ H.length ≤ i) := by
  rw [zye (L := []) H (by rw [hrow]; omega)]
  obtain ⟨s', H', h1, h2, h3, h4, h5, h6⟩ := Own.append (e.more [.cells row 0 false]) (p.more _) (ys := row) (rows' := [row]) (bytes := bytes) (by simp) (by simpa using hrow) (by simpa using hroom)
  refine ⟨s', H', h1, h2, h3, by simp at h4; omega, fun i o hi hne => h5 i o (by rw [List.getElem?_append_left (List.getElem?_eq_some_iff.1 hi).1]; exact hi) hne, ?_⟩
  rcases h6 with h6 | ⟨i, h6, h7⟩
  · exact .inl h6
  · exact .inr ⟨i, h6, by simp at h7; omega⟩
theorem Own.finish (e : Own h H s c rows) (p : Pre h H) : Own h (finish h s H) s c rows ∧ Pre h (finish h s H) := by
  obtain ⟨L, rfl⟩ := p
  rcases zm8 h L s with hf | ⟨hf, hfl⟩
  · rw [hf]; exact ⟨e, L, rfl⟩
  · rw [hf]
    rcases e with ⟨⟨rfl, rfl⟩ | ⟨b, ver, hb, rfl, ho⟩, hc⟩
    · exact ⟨⟨.inl ⟨rfl, rfl⟩, hc⟩, Pre.refl h⟩
    · cases hfl
end
theorem xt (h H : Heap) (i : Nat) (t : List Value) (R : Value → Heap → Prop) : retE h [.tmp i] R .ret ⟨t, H⟩ = R (t.getD i undef) (finish h (t.getD i undef) H) := by
  unfold retE; rw [yef]
  exact propext ⟨fun ⟨v, h', e, r⟩ => by cases e; exact r, fun r => ⟨_, _, rfl, r⟩⟩
theorem zfq (h H : Heap) (i j : Nat) (t : List Value) (R : Value → Heap → Prop) : retE h [.tmp i, .tmp j] R .ret ⟨t, H⟩ = R (tup [t.getD i undef, t.getD j undef]) (finish h (tup [t.getD i undef, t.getD j undef]) H) := by
  unfold retE; rw [zz6]
  exact propext ⟨fun ⟨v, h', e, r⟩ => by cases e; exact r, fun r => ⟨_, _, rfl, r⟩⟩
theorem zaw (h H : Heap) (i j k : Nat) (t : List Value) (R : Value → Heap → Prop) : retE h [.tmp i, .tmp j, .tmp k] R .ret ⟨t, H⟩ = R (tup [t.getD i undef, t.getD j undef, t.getD k undef]) (finish h (tup [t.getD i undef, t.getD j undef, t.getD k undef]) H) := by
  unfold retE; rw [zz3]
  exact propext ⟨fun ⟨v, h', e, r⟩ => by cases e; exact r, fun r => ⟨_, _, rfl, r⟩⟩
def idxO (h : Heap) : Value → Value → Option (Value × Heap)
  | .string s, .int _ k => if 0 ≤ k then (s.data.toList[k.toNat]?).map fun b => (.int .u8 b.toNat, h) else none
  | _, _ => none
theorem j4 {call : qd} (ρ : Operand → Value) (h : Heap) (x i : Operand) : evOp call ρ h (.idxStr x i) = idxO h (ρ x) (ρ i) := by
  simp only [evOp]; generalize ρ x = x; generalize ρ i = y
  cases x with
  | string s => cases y <;> rfl
  | _ => rfl
theorem yc1 {h : Heap} {s : ByteArray} {kk : IntKind} {k : Int} {b : UInt8} (h0 : 0 ≤ k) (hb : s.data.toList[k.toNat]? = some b) : idxO h (.string s) (.int kk k) = some (.int .u8 b.toNat, h) := by
  simp only [idxO]; rw [if_pos h0, hb]; rfl
def eqvO (h : Heap) : Option Bool → Bool → Option (Value × Heap)
  | some b, neg => some (.bool (b != neg), h)
  | none, _ => none
theorem jq {call : qd} (ρ : Operand → Value) (h : Heap) (neg : Bool) (k : EqK) (x y : Operand) : evOp call ρ h (.eqv neg k x y) = eqvO h (qw k (ρ x) (ρ y)) neg := by
  simp only [evOp]; cases qw k (ρ x) (ρ y) <;> rfl
theorem xq (h : Heap) (b neg : Bool) : eqvO h (some b) neg = some (.bool (b != neg), h) := rfl
theorem zik (h : Heap) (x y neg : Bool) : eqvO h (qw .bool (.bool x) (.bool y)) neg = some (.bool ((x == y) != neg), h) := rfl
theorem zkj {h H : Heap} (p : Pre h H) (i : Nat) (t : List Value) (r : Option (Value × Heap)) (hf : flat (t.getD i undef) = true) : retQ h [.tmp i] r .ret ⟨t, H⟩ = (some (t.getD i undef, h) = r) := by
  obtain ⟨L, rfl⟩ := p; exact zf4 h L i t r hf
theorem b6 {h : Heap} {p : Addr} {v : Value} (hr : h.read1 p = some v) (ht : zmr v = false) : zb2 h (.pointer (some p)) v = some (undef, h) := by simp [zb2, hr, ht]
theorem zwo {h : Heap} {p : Addr} {k : IntKind} {n : Int} (hr : h.read1 p = some (.int k n)) : zb2 h (.pointer (some p)) (.int k n) = some (undef, h) := b6 hr rfl
def zy2 (R : Value → Heap → Prop) (h H : Heap) (x : Value) : Option (List Value) → Prop
  | some l => R (tup [agg l, x]) (finish h (tup [agg l, x]) H)
  | none => False
def zi0 (R : Value → Heap → Prop) (h H : Heap) (n : Nat) (x : Value) : Value → Prop
  | .pointer (some p) => zy2 R h H x (H.read p n)
  | _ => False
theorem zog (h H : Heap) (i n j : Nat) (t : List Value) (R : Value → Heap → Prop) : retE h [.cells i n, .tmp j] R .ret ⟨t, H⟩ = zi0 R h H n (t.getD j undef) (t.getD i undef) := by
  unfold retE
  apply propext
  simp only [endF, f8, aRes, List.mapM_cons, List.mapM_nil]
  generalize t.getD i undef = x
  generalize t.getD j undef = y
  cases x with
  | pointer p =>
    cases p with
    | none => simp [zi0]
    | some p =>
      simp only [zi0]
      cases hr : H.read p n with
      | none => simp [zy2]
      | some l =>
        simp only [zy2]
        constructor
        · rintro ⟨v, h', e, r⟩
          simp at e
          obtain ⟨rfl, rfl⟩ := e
          exact r
        · intro r
          exact ⟨_, _, by simp, r⟩
  | _ => simp [zi0]
theorem zbj (R : Value → Heap → Prop) (h H : Heap) (n : Nat) (x : Value) (p : Addr) : zi0 R h H n x (.pointer (some p)) = zy2 R h H x (H.read p n) := rfl
theorem zcf (R : Value → Heap → Prop) (h H : Heap) (x : Value) (l : List Value) : zy2 R h H x (some l) = R (tup [agg l, x]) (finish h (tup [agg l, x]) H) := rfl
theorem zbi (h H : Heap) (i j : Nat) (t : List Value) (r : Option (Value × Heap)) : retQ h [.tmp i, .tmp j] r .ret ⟨t, H⟩ = (some (tup [t.getD i undef, t.getD j undef], AM.finish h (tup [t.getD i undef, t.getD j undef]) H) = r) := by unfold retQ; rw [zz6]
end Go.Proofs.YtljdbheclfaloaaGreatDoor.AM
namespace Go.Proofs.YtljdbheclfaloaaGreatDoor.AM
open Go.RowKit
set_option linter.unusedSimpArgs false
set_option linter.unusedVariables false
end Go.Proofs.YtljdbheclfaloaaGreatDoor.AM
namespace Go.Proofs.YtljdbheclfaloaaGreatDoor.AM
open Go.RowKit
set_option linter.unusedSimpArgs false
set_option linter.unusedVariables false
inductive Sh where
  | bool
  | int (k : IntKind)
  | str
  | slice (bytes : Nat) (e : List Sh)
def zq6 (P : Program) (r : TypeId → Option (List Sh)) : List Field → Nat → Option (List Sh)
  | [], _ => some []
  | f :: fs, off => match r f.type, zq6 P r fs (off + P.cellsOf f.type) with
    | some l, some l' => if f.offset = off ∧ l.length = P.cellsOf f.type then some (l ++ l') else none
    | _, _ => none
def zi1 (P : Program) : Nat → TypeId → Option (List Sh)
  | 0, _ => none
  | d + 1, t => match P.underlying t with
    | some .bool => some [.bool]
    | some (.int k) => some [.int k]
    | some .string => some [.str]
    | some (.slice e) => match zi1 P d e with
      | some l => if l.length = P.cellsOf e ∧ 0 < P.cellsOf e then some [.slice (P.bytesOf e) l] else none
      | none => none
    | some (.struct fs) => match zq6 P (zi1 P d) fs.toList 0 with
      | some l => if l.length = P.cellsOf t then some l else none
      | none => none
    | some (.array n e) => match zi1 P d e with
      | some l => if l.length = P.cellsOf e ∧ P.cellsOf t = n * P.cellsOf e then some (List.replicate n l).flatten else none
      | none => none
    | _ => none
inductive Typed (h : Heap) : Sh → Value → Prop
  | bool (b : Bool) : Typed h .bool (.bool b)
  | int (k : IntKind) (n : Int) (hw : (Lit.int k n).wf = true) : Typed h (.int k) (.int k n)
  | str (s : ByteArray) (hs : s.size ≤ reachBytes) : Typed h .str (.string s)
  | nil (b : Nat) (e : List Sh) : Typed h (.slice b e) (.slice none 0 0)
  | slice (b : Nat) (e : List Sh) (i n : Nat) (l : List Value) (hi : h[i]? = some (.cells l 0 true)) (hl : l.length = n * e.length) (hb : n * b ≤ reachBytes)
      (ht : ∀ (j : Nat) s u, e[j % e.length]? = some s → l[j]? = some u → Typed h s u) : Typed h (.slice b e) (.slice (some ⟨i, 0, some 0⟩) n e.length)
def TypedL (h : Heap) (ss : List Sh) (us : List Value) : Prop := ss.length = us.length ∧ ∀ (i : Nat) s u, ss[i]? = some s → us[i]? = some u → Typed h s u
theorem Typed.more {h : Heap} (more : Heap) {s : Sh} {u : Value} (ht : Typed h s u) : Typed (h ++ more) s u := by
  induction ht with
  | bool b => exact .bool b
  | int k n hw => exact .int k n hw
  | str s hs => exact .str s hs
  | nil b e => exact .nil b e
  | slice b e i n l hi hl hb ht ih => exact .slice b e i n l (by rw [List.getElem?_append_left (List.getElem?_eq_some_iff.1 hi).1]; exact hi) hl hb ih
theorem TypedL.more {h : Heap} (more : Heap) {ss : List Sh} {us : List Value} (ht : TypedL h ss us) : TypedL (h ++ more) ss us := ⟨ht.1, fun i s u hs hu => (ht.2 i s u hs hu).more more⟩
theorem TypedL.nil (h : Heap) : TypedL h [] [] := ⟨rfl, fun i s u hs _ => by simp at hs⟩
theorem TypedL.one {h : Heap} {s : Sh} {u : Value} (ht : Typed h s u) : TypedL h [s] [u] := ⟨rfl, fun i s' u' hs hu => by
  cases i with
  | zero => simp at hs hu; subst hs hu; exact ht
  | succ i => simp at hs⟩
theorem TypedL.append {h : Heap} {ss ss' : List Sh} {us us' : List Value} (ht : TypedL h ss us) (ht' : TypedL h ss' us') : TypedL h (ss ++ ss') (us ++ us') := by
  refine ⟨by simp [ht.1, ht'.1], fun i s u hs hu => ?_⟩
  by_cases hi : i < ss.length
  · rw [List.getElem?_append_left hi] at hs
    rw [List.getElem?_append_left (by have := ht.1; omega)] at hu
    exact ht.2 i s u hs hu
  · rw [List.getElem?_append_right (by omega)] at hs
    rw [List.getElem?_append_right (by have := ht.1; omega)] at hu
    have := ht.1
    exact ht'.2 _ s u hs (by rw [this]; exact hu)
section
variable {P : Program} {W : World}
def Laid (W : World) (h : Heap) (σ : Emb) : Prop := ∀ i o, h[i]? = some o → owns o = false ∧ ObjR W.heap.size σ (fun j => h[j]?) W (σ i) o
structure Grow (W : World) (h h' : Heap) (σ σ' : Emb) : Prop where
  pre : ∃ more, h' = h ++ more
  same : ∀ i, i < h.length → σ' i = σ i
  laid : Laid W h' σ'
theorem Grow.ext {h h' : Heap} {σ σ' : Emb} (g : Grow W h h' σ σ') : Ext σ (fun j => h[j]?) σ' (fun j => h'[j]?) := by
  obtain ⟨⟨more, rfl⟩, hs, _⟩ := g
  constructor
  · intro i vals ver ro hi
    have hlt := (List.getElem?_eq_some_iff.1 hi).1
    exact ⟨vals, ver, by rw [List.getElem?_append_left hlt]; exact hi, Nat.le_refl _, fun _ => hs i hlt⟩
  · intro i es hi
    have hlt := (List.getElem?_eq_some_iff.1 hi).1
    exact ⟨es, by rw [List.getElem?_append_left hlt]; exact hi, hs i hlt⟩
theorem Grow.trans {h h' h'' : Heap} {σ σ' σ'' : Emb} (g : Grow W h h' σ σ') (g' : Grow W h' h'' σ' σ'') : Grow W h h'' σ σ'' := by
  obtain ⟨⟨m, rfl⟩, hs, _⟩ := g
  obtain ⟨⟨m', rfl⟩, hs', hl⟩ := g'
  exact ⟨⟨m ++ m', by simp⟩, fun i hi => by rw [hs' i (by simp; omega), hs i hi], hl⟩
theorem Grow.refl {h : Heap} {σ : Emb} (hl : Laid W h σ) : Grow W h h σ σ := ⟨⟨[], by simp⟩, fun _ _ => rfl, hl⟩
def Opened (W : World) (h : Heap) (σ : Emb) (ss : List Sh) (cs : List Value) : Prop :=
  ∃ h' σ' us, Grow W h h' σ σ' ∧ VRs σ' (fun j => h'[j]?) us cs ∧ TypedL h' ss us ∧ ∀ u ∈ us, single u = true
theorem Opened.done {h : Heap} {σ : Emb} (hl : Laid W h σ) {s : Sh} {u : Value} (hv : plain1 u = true) (ht : Typed h s u) : Opened W h σ [s] [u] :=
  ⟨h, σ, [u], .refl hl, .cons _ _ _ _ (.plain1 hv) .nil, .one ht, fun x hx => by simp at hx; subst hx; exact kv hv⟩
theorem Opened.none {h : Heap} {σ : Emb} (hl : Laid W h σ) : Opened W h σ [] [] := ⟨h, σ, [], .refl hl, .nil, .nil h, fun x hx => by simp at hx⟩
theorem Opened.append {h : Heap} {σ : Emb} {ss ss' : List Sh} {cs cs' : List Value} (o : Opened W h σ ss cs) (o' : ∀ h σ, Laid W h σ → Opened W h σ ss' cs') : Opened W h σ (ss ++ ss') (cs ++ cs') := by
  obtain ⟨h1, σ1, us, g, hv, ht, hs⟩ := o
  obtain ⟨h2, σ2, us', g', hv', ht', hs'⟩ := o' h1 σ1 g.laid
  refine ⟨h2, σ2, us ++ us', g.trans g', (hv.ext g'.ext).append hv', ?_, fun x hx => ?_⟩
  · obtain ⟨more, rfl⟩ := g'.pre
    exact (ht.more more).append ht'
  · rcases List.mem_append.1 hx with hx | hx
    · exact hs x hx
    · exact hs' x hx
variable {H : Type} {enc : TypeId × Value → H}
theorem ze7 {l : List Sh} : ∀ (ps : List (List Value)), (∀ p ∈ ps, ∀ h σ, Laid W h σ → Opened W h σ l p) → ∀ h σ, Laid W h σ → Opened W h σ (List.replicate ps.length l).flatten ps.flatten
  | [], _, h, σ, hl => .none hl
  | p :: ps, hp, h, σ, hl => by
    simp only [List.length_cons, List.replicate_succ, List.flatten_cons]
    exact .append (hp p (by simp) h σ hl) (ze7 ps fun q hq => hp q (by simp [hq]))
def zd7 (cs : List Value) (c : Nat) : Nat → List (List Value)
  | 0 => []
  | n + 1 => zd7 cs c n ++ [(cs.drop (n * c)).take c]
theorem zd6 (cs : List Value) (c n : Nat) : (zd7 cs c n).length = n := by
  induction n with
  | zero => rfl
  | succ n ih => simp [zd7, ih]
theorem zhc (cs : List Value) (c n : Nat) (h : n * c ≤ cs.length) : (zd7 cs c n).flatten = cs.take (n * c) := by
  induction n with
  | zero => simp [zd7]
  | succ n ih =>
    rw [Nat.succ_mul] at h
    rw [zd7, List.flatten_append, ih (by omega)]
    simp only [List.flatten_cons, List.flatten_nil, List.append_nil]
    rw [Nat.succ_mul, List.take_add]
theorem zgu {cs : List Value} {c n : Nat} {p : List Value} (h : p ∈ zd7 cs c n) : ∃ i, i < n ∧ p = (cs.drop (i * c)).take c := by
  induction n with
  | zero => simp [zd7] at h
  | succ n ih =>
    rw [zd7, List.mem_append] at h
    rcases h with h | h
    · obtain ⟨i, hi, e⟩ := ih h; exact ⟨i, by omega, e⟩
    · simp at h; exact ⟨n, by omega, h⟩
theorem zll {r : TypeId → Option (List Sh)} : ∀ (fs : List Field) (off : Nat) (cs : List Value) (l : List Sh), zq6 P r fs off = some l → off + l.length = cs.length →
    (∀ f ∈ fs, ∀ l', r f.type = some l' → ∀ h σ, Laid W h σ → Opened W h σ l' ((cs.drop f.offset).take (P.cellsOf f.type))) → ∀ h σ, Laid W h σ → Opened W h σ l (cs.drop off)
  | [], off, cs, l, hl, hlen, _, h, σ, hL => by
    simp [zq6] at hl; subst hl
    simp at hlen
    rw [List.drop_eq_nil_of_le (by omega)]
    exact .none hL
  | f :: fs, off, cs, l, hl, hlen, hf, h, σ, hL => by
    simp only [zq6] at hl
    split at hl
    · rename_i l1 l2 h1 h2
      split at hl
      · rename_i hc
        cases hl
        have e : cs.drop off = (cs.drop f.offset).take (P.cellsOf f.type) ++ cs.drop (off + P.cellsOf f.type) := by
          rw [hc.1, ← List.drop_drop, List.take_append_drop]
        rw [e]
        refine .append (hf f (by simp) l1 h1 h σ hL) (zll fs _ cs l2 h2 (by simp at hlen; omega) fun g hg => hf g (by simp [hg]))
      · cases hl
    · cases hl
theorem zj5 {ts : List TypeId} {ds : List (DataW H)} {i : Nat} {t : TypeId} {d : DataW H} (ht : ts[i]? = some t) (hd : ds[i]? = some d) : ∀ x ∈ d.weights P t, x ∈ DataW.weightsEach P ts ds := by
  induction ts generalizing ds i with
  | nil => simp at ht
  | cons a ts ih =>
    cases ds with
    | nil => simp at hd
    | cons b ds =>
      intro x hx
      rw [DataW.weightsEach]
      cases i with
      | zero => simp at ht hd; subst ht hd; exact List.mem_append_left _ hx
      | succ i => exact List.mem_append_right _ (ih (by simpa using ht) (by simpa using hd) x hx)
theorem zhp {e : TypeId} {ds : List (DataW H)} {d : DataW H} (hd : d ∈ ds) : ∀ x ∈ d.weights P e, x ∈ DataW.weightsAll P e ds := by
  induction ds with
  | nil => simp at hd
  | cons b ds ih =>
    intro x hx
    rw [DataW.weightsAll]
    rcases List.mem_cons.1 hd with rfl | hd
    · exact List.mem_append_left _ hx
    · exact List.mem_append_right _ (ih hd x hx)
theorem zze {a : Addr} (hs : a.spot = none) (n : Nat) : a.add n = ⟨a.block, a.off + n, none⟩ := by
  obtain ⟨b, o, s⟩ := a
  simp only at hs
  subst hs
  unfold Addr.add
  split
  · subst n; rfl
  · rfl
theorem cell_spot {a : Addr} {v : Value} (h : W.cell? a = some v) : a.spot = none ∧ a.block < W.heap.size := by
  unfold World.cell? at h
  split at h
  · rename_i c x y hb
    refine ⟨?_, (Array.getElem?_eq_some_iff.1 hb).1⟩
    cases hs : a.spot with
    | none => rfl
    | some s => rw [hs] at h; simp at h
  · cases h
theorem ygd (hN : 0 < W.heap.size) : ∀ (fuel : Nat) (t : TypeId) (cs : List Value) (x : DataW H × List MemPlace), DataW.trod enc P W 0 (fun _ => true) true fuel t cs = some x → (∀ w ∈ x.1.weights P t, w ≤ reachBytes) →
    ∀ (d : Nat) (l : List Sh), zi1 P d t = some l → ∀ h σ, Laid W h σ → Opened W h σ l cs := by
  intro fuel
  induction fuel with
  | zero => intro t cs x h; simp [DataW.trod] at h
  | succ fuel ih =>
    intro t cs x hx hw d l hl h σ hL
    cases d with
    | zero => simp [zi1] at hl
    | succ d =>
      rw [zi1] at hl
      split at hl
      · rename_i ht
        cases hl
        obtain ⟨b, rfl, rfl⟩ := DataW.trod_bool ht hx
        exact .done hL rfl (.bool b)
      · rename_i k ht
        cases hl
        obtain ⟨n, rfl, rfl, hwf⟩ := DataW.trod_int ht hx
        exact .done hL rfl (.int k n hwf)
      · rename_i ht
        cases hl
        obtain ⟨s, rfl, rfl, hs⟩ := DataW.trod_string ht hx
        refine .done hL rfl (.str s ?_)
        have := hw s.data.toList.length (by simp [DataW.weights])
        simpa using this
      · rename_i e ht
        split at hl
        · rename_i le hle
          split at hl
          · rename_i hc
            cases hl
            rcases DataW.trod_slice ht hx with ⟨rfl, rfl⟩ | ⟨a, len, cap, elems, rest, n, hn, rfl, rfl, _, hlc, hcm, hel, he, hr, _⟩
            · exact .done hL rfl (.nil _ _)
            · cases hn
              obtain ⟨hrl, hr⟩ := hr rfl
              have hwd : ∀ y ∈ elems, ∀ w ∈ y.1.weights P e, w ≤ reachBytes := fun y hy w hyw => hw w (by
                simp only [DataW.weights, ht, List.mem_cons, List.mem_append]
                exact .inr (.inl (zhp (List.mem_map_of_mem hy) w hyw)))
              have hbig : len * P.bytesOf e ≤ reachBytes := by
                have := hw ((elems.map (·.1)).length * P.bytesOf e + (rest.map (·.1)).length * P.bytesOf e) (by simp [DataW.weights, ht, Nat.add_mul])
                simp only [List.length_map, hel] at this
                omega
              have each : ∀ i, i < len → ∃ ci, W.cells? 0 (a.add (i * P.cellsOf e)) (P.cellsOf e) = some ci ∧ ∀ h σ, Laid W h σ → Opened W h σ le ci := by
                intro i hi
                have h1 := he i hi
                have hi' : i < elems.length := by omega
                rw [List.getElem?_eq_getElem hi'] at h1
                obtain ⟨ci, hci, htr⟩ := Option.bind_eq_some_iff.1 h1
                exact ⟨ci, hci, ih e ci _ htr (hwd _ (List.getElem_mem hi')) d le hle⟩
              have alive : ∀ i, i < cap → (a.add (i * P.cellsOf e)).spot = none ∧ a.block < W.heap.size ∧ a.spot = none := by
                intro i hi
                have hcell : ∃ ci, W.cells? 0 (a.add (i * P.cellsOf e)) (P.cellsOf e) = some ci := by
                  by_cases h1 : i < len
                  · obtain ⟨ci, h2, _⟩ := each i h1; exact ⟨ci, h2⟩
                  · have h2 := hr (i - len) (by omega)
                    rw [show len + (i - len) = i by omega, List.getElem?_eq_getElem (by omega)] at h2
                    obtain ⟨ci, hci, _⟩ := Option.bind_eq_some_iff.1 h2
                    exact ⟨ci, hci⟩
                obtain ⟨ci, hci⟩ := hcell
                obtain ⟨_, hl1, hg⟩ := World.cells?_some hci
                have h3 := hg 0 hc.2
                rw [List.getElem?_eq_getElem (by omega)] at h3
                have h4 := cell_spot h3
                rw [show (a.add (i * P.cellsOf e)).add 0 = a.add (i * P.cellsOf e) by simp [Addr.add]] at h4
                refine ⟨h4.1, by have := h4.2; rwa [Go.ChangeShapes.block_add] at this, ?_⟩
                have hcell0 : ∃ c0, W.cells? 0 (a.add (0 * P.cellsOf e)) (P.cellsOf e) = some c0 := by
                  by_cases h1 : 0 < len
                  · obtain ⟨ci, h2, _⟩ := each 0 h1; exact ⟨ci, h2⟩
                  · have h2 := hr 0 (by omega)
                    rw [show len + 0 = 0 by omega, List.getElem?_eq_getElem (by omega)] at h2
                    obtain ⟨ci, hci, _⟩ := Option.bind_eq_some_iff.1 h2
                    exact ⟨ci, hci⟩
                obtain ⟨c0, hc0⟩ := hcell0
                obtain ⟨_, hl0, hg0⟩ := World.cells?_some hc0
                have h5 := hg0 0 hc.2
                rw [List.getElem?_eq_getElem (by omega)] at h5
                have h6 := (cell_spot h5).1
                simpa [Addr.add] using h6
              have all : ∀ k, k ≤ len → ∀ h σ, Laid W h σ → ∃ (h' : Heap) (σ' : Emb) (us : List Value), Grow W h h' σ σ' ∧ us.length = k * P.cellsOf e ∧
                  (∀ (j : Nat) u, us[j]? = some u → ∃ c, W.cell? ⟨a.block, a.off + j, none⟩ = some c ∧ VR σ' (fun j => h'[j]?) u c) ∧
                  (∀ (j : Nat) s u, le[j % le.length]? = some s → us[j]? = some u → Typed h' s u) ∧ ∀ u ∈ us, single u = true := by
                intro k
                induction k with
                | zero => intro _ h σ hL; exact ⟨h, σ, [], .refl hL, by simp, fun j u hu => by simp at hu, fun j s u _ hu => by simp at hu, fun u hu => by simp at hu⟩
                | succ k ihk =>
                  intro hk h σ hL
                  obtain ⟨h1, σ1, us, g1, hlen1, hv1, ht1, hs1⟩ := ihk (by omega) h σ hL
                  obtain ⟨ci, hci, hop⟩ := each k (by omega)
                  obtain ⟨_, hcl, hcg⟩ := World.cells?_some hci
                  have hsp := (alive k (by omega)).2.2
                  obtain ⟨h2, σ2, us2, g2, hv2, ht2, hs2⟩ := hop h1 σ1 g1.laid
                  have hul : us2.length = P.cellsOf e := by rw [hv2.length, hcl]
                  refine ⟨h2, σ2, us ++ us2, g1.trans g2, by rw [List.length_append, hlen1, hul, Nat.succ_mul], ?_, ?_, ?_⟩
                  · intro j u hu
                    by_cases hj : j < us.length
                    · rw [List.getElem?_append_left hj] at hu
                      obtain ⟨c, hcc, hvv⟩ := hv1 j u hu
                      exact ⟨c, hcc, hvv.ext g2.ext⟩
                    · rw [List.getElem?_append_right (by omega)] at hu
                      obtain ⟨c, hcc, hvv⟩ := hv2.get hu
                      refine ⟨c, ?_, hvv⟩
                      have hjl : j - us.length < P.cellsOf e := by rw [← hul]; exact (List.getElem?_eq_some_iff.1 hu).1
                      have := hcg (j - us.length) hjl
                      rw [hcc, zze hsp, zze rfl] at this
                      rw [← this]
                      have : a.off + j = a.off + k * P.cellsOf e + (j - us.length) := by omega
                      rw [this]
                  · intro j s u hs hu
                    by_cases hj : j < us.length
                    · rw [List.getElem?_append_left hj] at hu
                      obtain ⟨more, rfl⟩ := g2.pre
                      exact (ht1 j s u hs hu).more more
                    · rw [List.getElem?_append_right (by omega)] at hu
                      refine ht2.2 (j - us.length) s u ?_ hu
                      have hjl : j - us.length < P.cellsOf e := by rw [← hul]; exact (List.getElem?_eq_some_iff.1 hu).1
                      rw [← hs, hlen1, hc.1]
                      rw [hlen1] at hjl hj
                      have e1 : j % P.cellsOf e = j - k * P.cellsOf e := by
                        conv => lhs; rw [show j = (j - k * P.cellsOf e) + P.cellsOf e * k by rw [Nat.mul_comm (P.cellsOf e) k]; omega]
                        rw [Nat.add_mul_mod_self_left, Nat.mod_eq_of_lt hjl]
                      rw [e1]
                  · intro u hu
                    rcases List.mem_append.1 hu with hu | hu
                    · exact hs1 u hu
                    · exact hs2 u hu
              obtain ⟨h1, σ1, us, g1, hlen1, hv1, ht1, hs1⟩ := all len (Nat.le_refl _) h σ hL
              let σ2 : Emb := fun i => if i = h1.length then (if 0 < cap then ⟨a.block, a.off, 0⟩ else ⟨0, 0, 0⟩) else σ1 i
              have hlast : (h1 ++ [AObj.cells us 0 true])[h1.length]? = some (.cells us 0 true) := by simp
              have hext : Ext σ1 (fun j => h1[j]?) σ2 (fun j => (h1 ++ [AObj.cells us 0 true])[j]?) := by
                constructor
                · intro i vals ver ro hi
                  have hlt := (List.getElem?_eq_some_iff.1 hi).1
                  exact ⟨vals, ver, by rw [List.getElem?_append_left hlt]; exact hi, Nat.le_refl _, fun _ => if_neg (by omega)⟩
                · intro i es hi
                  have hlt := (List.getElem?_eq_some_iff.1 hi).1
                  exact ⟨es, by rw [List.getElem?_append_left hlt]; exact hi, if_neg (by omega)⟩
              have hobj : ObjR W.heap.size σ2 (fun j => (h1 ++ [AObj.cells us 0 true])[j]?) W (σ2 h1.length) (.cells us 0 true) := by
                show ObjR _ _ _ _ (if h1.length = h1.length then _ else _) _
                rw [if_pos rfl]
                by_cases hcap : 0 < cap
                · rw [if_pos hcap]
                  refine .ro us (alive 0 hcap).2.1 (fun i u hu => ?_) hs1
                  obtain ⟨c, hcc, hvv⟩ := hv1 i u hu
                  exact ⟨c, hcc, hvv.ext hext⟩
                · rw [if_neg hcap]
                  refine .ro us hN (fun i u hu => ?_) hs1
                  have : us.length = 0 := by rw [hlen1, show len = 0 by omega]; simp
                  rw [List.length_eq_zero_iff.1 this] at hu
                  simp at hu
              have hL2 : Laid W (h1 ++ [AObj.cells us 0 true]) σ2 := by
                intro i o hi
                by_cases hlt : i < h1.length
                · rw [List.getElem?_append_left hlt] at hi
                  obtain ⟨ho, hr'⟩ := g1.laid i o hi
                  refine ⟨ho, ?_⟩
                  have : σ2 i = σ1 i := if_neg (by omega)
                  rw [this]
                  exact hr'.step hext rfl
                · have hi2 := (List.getElem?_eq_some_iff.1 hi).1
                  simp at hi2
                  have : i = h1.length := by omega
                  subst this
                  rw [hlast] at hi
                  cases hi
                  exact ⟨rfl, hobj⟩
              have g2 : Grow W h1 (h1 ++ [AObj.cells us 0 true]) σ1 σ2 := ⟨⟨_, rfl⟩, fun i hi => if_neg (by omega), hL2⟩
              refine ⟨_, σ2, [.slice (some ⟨h1.length, 0, some 0⟩) len le.length], g1.trans g2, .cons _ _ _ _ ?_ .nil, .one ?_, fun u hu => by simp at hu; subst hu; rfl⟩
              · refine .slice _ a len le.length cap 0 us 0 true rfl hlast (Nat.le_refl _) hlc fun _ => ?_
                by_cases hcap : 0 < cap
                · left
                  refine ⟨?_, fun h => by cases h⟩
                  have hs2 : σ2 h1.length = ⟨a.block, a.off, 0⟩ := by show (if h1.length = h1.length then _ else _) = _; rw [if_pos rfl, if_pos hcap]
                  rw [hs2]
                  have := (alive 0 hcap).2.2
                  obtain ⟨b, o, s⟩ := a
                  simp only at this
                  subst this
                  rfl
                · right; omega
              · refine .slice _ le h1.length len us hlast (by rw [hlen1, hc.1]) hbig fun j s u hs hu => (ht1 j s u hs hu).more _
          · cases hl
        · cases hl
      · rename_i fs ht
        split at hl
        · rename_i l' hl'
          split at hl
          · rename_i hlen
            cases hl
            obtain ⟨xs, n, hn, rfl, hcl, hxl, hf⟩ := DataW.trod_struct ht hx
            cases hn
            have hwd : ∀ i (f : Field), fs[i]? = some f → ∀ (y : DataW H × List MemPlace), xs[i]? = some y → ∀ w ∈ y.1.weights P f.type, w ≤ reachBytes := fun i f hfi y hy w hyw => hw w (by
              simp only [DataW.weights, ht]
              exact zj5 (i := i) (t := f.type) (d := y.1) (by rw [List.getElem?_map, show fs.toList[i]? = some f by simpa using hfi]; rfl) (by rw [List.getElem?_map, hy]; rfl) w hyw)
            have := zll (P := P) (W := W) fs.toList 0 cs l hl' (by omega) (fun f hfm l2 hl2 h σ hL => by
              obtain ⟨i, hi, hfi⟩ := List.getElem_of_mem hfm
              have hfi' : fs[i]? = some f := by
                rw [Array.getElem?_eq_some_iff]; exact ⟨by simpa using hi, by simpa using hfi⟩
              have h1 := hf i f hfi'
              have hi' : i < xs.length := by rw [hxl]; simpa using hi
              rw [List.getElem?_eq_getElem hi'] at h1
              exact ih f.type _ _ h1 (hwd i f hfi' _ (List.getElem?_eq_getElem hi')) d l2 hl2 h σ hL) h σ hL
            simpa using this
          · cases hl
        · cases hl
      · rename_i n e ht
        split at hl
        · rename_i le hle
          split at hl
          · rename_i hc
            cases hl
            obtain ⟨xs, hxl, hcl, hxx, hf⟩ : ∃ xs : List (DataW H × List MemPlace), xs.length = n ∧ cs.length = P.cellsOf t ∧ x = (.agg (xs.map (·.1)), xs.flatMap (·.2)) ∧ ∀ i, i < n → DataW.trod enc P W 0 (fun _ => true) true fuel e ((cs.drop (i * P.cellsOf e)).take (P.cellsOf e)) = xs[i]? := by
              unfold DataW.trod at hx
              rw [ht] at hx
              simp only at hx
              split at hx
              · rename_i hcl
                obtain ⟨xs, hxs, rfl⟩ := Option.map_eq_some_iff.1 hx
                exact ⟨xs, by simpa using mapM_some_length hxs, hcl, rfl, fun i hi => mapM_some_get hxs i i (by simp [hi])⟩
              · cases hx
            subst hxx
            have hwd : ∀ y ∈ xs, ∀ w ∈ y.1.weights P e, w ≤ reachBytes := fun y hy w hyw => hw w (by
              simp only [DataW.weights, ht]
              exact zhp (List.mem_map_of_mem hy) w hyw)
            have hp := ze7 (W := W) (l := le) (zd7 cs (P.cellsOf e) n) (fun p hp h σ hL => by
              obtain ⟨i, hi, rfl⟩ := zgu hp
              have h1 := hf i hi
              rw [List.getElem?_eq_getElem (by omega)] at h1
              exact ih e _ _ h1 (hwd _ (List.getElem_mem _)) d le hle h σ hL) h σ hL
            rw [zd6, zhc _ _ _ (by rw [hcl, hc.2]; exact Nat.le_refl _)] at hp
            rw [List.take_of_length_le (by rw [hcl, hc.2]; exact Nat.le_refl _)] at hp
            exact hp
          · cases hl
        · cases hl
      · cases hl
def leafA (P : Program) (d : Nat) (t : TypeId) : Option (Bool × List Sh) :=
  (zi1 P d t).map fun l => (match P.underlying t with | some (.struct _) => true | some (.array _ _) => true | _ => false, l)
def zm6 (h : Heap) : Bool × List Sh → Value → Prop
  | (true, ss), u => ∃ l, u = agg l ∧ TypedL h ss l
  | (false, ss), u => TypedL h ss [u]
def zon (h : Heap) : List (Bool × List Sh) → List Value → Prop
  | [], [] => True
  | s :: ss, u :: us => zm6 h s u ∧ zon h ss us
  | _, _ => False
theorem zq4 : ∀ (fuel : Nat) (t : TypeId) (cs : List Value) (x : DataW H × List MemPlace), DataW.trod enc P W 0 (fun _ => true) true fuel t cs = some x → (∀ w ∈ x.1.weights P t, w ≤ reachBytes) →
    (∀ c ∈ cs, ∀ a n k, c ≠ .slice (some a) n k) →
    ∀ (d : Nat) (l : List Sh), zi1 P d t = some l → ∀ h σ, Laid W h σ → Opened W h σ l cs := by
  intro fuel
  induction fuel with
  | zero => intro t cs x h; simp [DataW.trod] at h
  | succ fuel ih =>
    intro t cs x hx hw hns d l hl h σ hL
    cases d with
    | zero => simp [zi1] at hl
    | succ d =>
      rw [zi1] at hl
      split at hl
      · rename_i ht
        cases hl
        obtain ⟨b, rfl, rfl⟩ := DataW.trod_bool ht hx
        exact .done hL rfl (.bool b)
      · rename_i k ht
        cases hl
        obtain ⟨n, rfl, rfl, hwf⟩ := DataW.trod_int ht hx
        exact .done hL rfl (.int k n hwf)
      · rename_i ht
        cases hl
        obtain ⟨s, rfl, rfl, hs⟩ := DataW.trod_string ht hx
        refine .done hL rfl (.str s ?_)
        have := hw s.data.toList.length (by simp [DataW.weights])
        simpa using this
      · rename_i e ht
        split at hl
        · rename_i le hle
          split at hl
          · rename_i hc
            cases hl
            rcases DataW.trod_slice ht hx with ⟨rfl, rfl⟩ | ⟨a, len, cap, elems, rest, n, hn, rfl, rfl, _, hlc, hcm, hel, he, hr, _⟩
            · exact .done hL rfl (.nil _ _)
            · exact absurd rfl (hns _ (by simp) a len cap)
          · cases hl
        · cases hl
      · rename_i fs ht
        split at hl
        · rename_i l' hl'
          split at hl
          · rename_i hlen
            cases hl
            obtain ⟨xs, n, hn, rfl, hcl, hxl, hf⟩ := DataW.trod_struct ht hx
            cases hn
            have hwd : ∀ i (f : Field), fs[i]? = some f → ∀ (y : DataW H × List MemPlace), xs[i]? = some y → ∀ w ∈ y.1.weights P f.type, w ≤ reachBytes := fun i f hfi y hy w hyw => hw w (by
              simp only [DataW.weights, ht]
              exact zj5 (i := i) (t := f.type) (d := y.1) (by rw [List.getElem?_map, show fs.toList[i]? = some f by simpa using hfi]; rfl) (by rw [List.getElem?_map, hy]; rfl) w hyw)
            have := zll (P := P) (W := W) fs.toList 0 cs l hl' (by omega) (fun f hfm l2 hl2 h σ hL => by
              obtain ⟨i, hi, hfi⟩ := List.getElem_of_mem hfm
              have hfi' : fs[i]? = some f := by
                rw [Array.getElem?_eq_some_iff]; exact ⟨by simpa using hi, by simpa using hfi⟩
              have h1 := hf i f hfi'
              have hi' : i < xs.length := by rw [hxl]; simpa using hi
              rw [List.getElem?_eq_getElem hi'] at h1
              exact ih f.type _ _ h1 (hwd i f hfi' _ (List.getElem?_eq_getElem hi')) (fun c hc => hns c (List.mem_of_mem_drop (List.mem_of_mem_take hc))) d l2 hl2 h σ hL) h σ hL
            simpa using this
          · cases hl
        · cases hl
      · rename_i n e ht
        split at hl
        · rename_i le hle
          split at hl
          · rename_i hc
            cases hl
            obtain ⟨xs, hxl, hcl, hxx, hf⟩ : ∃ xs : List (DataW H × List MemPlace), xs.length = n ∧ cs.length = P.cellsOf t ∧ x = (.agg (xs.map (·.1)), xs.flatMap (·.2)) ∧ ∀ i, i < n → DataW.trod enc P W 0 (fun _ => true) true fuel e ((cs.drop (i * P.cellsOf e)).take (P.cellsOf e)) = xs[i]? := by
              unfold DataW.trod at hx
              rw [ht] at hx
              simp only at hx
              split at hx
              · rename_i hcl
                obtain ⟨xs, hxs, rfl⟩ := Option.map_eq_some_iff.1 hx
                exact ⟨xs, by simpa using mapM_some_length hxs, hcl, rfl, fun i hi => mapM_some_get hxs i i (by simp [hi])⟩
              · cases hx
            subst hxx
            have hwd : ∀ y ∈ xs, ∀ w ∈ y.1.weights P e, w ≤ reachBytes := fun y hy w hyw => hw w (by
              simp only [DataW.weights, ht]
              exact zhp (List.mem_map_of_mem hy) w hyw)
            have hp := ze7 (W := W) (l := le) (zd7 cs (P.cellsOf e) n) (fun p hp h σ hL => by
              obtain ⟨i, hi, rfl⟩ := zgu hp
              have h1 := hf i hi
              rw [List.getElem?_eq_getElem (by omega)] at h1
              exact ih e _ _ h1 (hwd _ (List.getElem_mem _)) (fun c hc => hns c (List.mem_of_mem_drop (List.mem_of_mem_take hc))) d le hle h σ hL) h σ hL
            rw [zd6, zhc _ _ _ (by rw [hcl, hc.2]; exact Nat.le_refl _)] at hp
            rw [List.take_of_length_le (by rw [hcl, hc.2]; exact Nat.le_refl _)] at hp
            exact hp
          · cases hl
        · cases hl
      · cases hl
theorem yaw (hN : W.heap.size = 0) {b0 : Nat} {t : TypeId} {v : Value} (hv : Value.okWide P W .any b0 t v) : ∀ c ∈ v.cells.toList, ∀ a n k, c ≠ .slice (some a) n k := by
  have cell : ∀ t v, Cell.okWide P W .any b0 t v → ∀ a n k, v ≠ .slice (some a) n k := by
    rintro t v hv a n k rfl
    unfold Cell.okWide at hv
    split at hv <;> rename_i h1 <;> try cases h1
    all_goals try (rename_i h2; cases h2)
    unfold Cell.ok at hv
    split at hv <;> rename_i h1 <;> try (cases h1; done)
    all_goals try (rename_i h2; cases h2)
    all_goals try exact hv
    · obtain ⟨_, _, _, _, row, cells, hs, _⟩ := hv
      unfold World.shape? at hs
      split at hs
      · rename_i hb
        have := (Array.getElem?_eq_some_iff.1 hb).1
        omega
      · cases hs
  intro c hc a n k
  unfold Value.okWide at hv
  split at hv
  · obtain ⟨cs, rfl, _, ts, _, _, hrow⟩ := hv
    obtain ⟨i, hi⟩ := List.getElem?_of_mem hc
    obtain ⟨u, _, hu⟩ := hrow i c (by rw [Array.getElem?_toList] at hi; exact hi)
    exact cell u c hu a n k
  · obtain ⟨cs, rfl, _, ts, _, _, hrow⟩ := hv
    obtain ⟨i, hi⟩ := List.getElem?_of_mem hc
    obtain ⟨u, _, hu⟩ := hrow i c (by rw [Array.getElem?_toList] at hi; exact hi)
    exact cell u c hu a n k
  · have hnot : ∀ cs, v ≠ .agg cs := by
      rintro cs rfl
      unfold Cell.okWide at hv
      split at hv <;> rename_i h1 <;> try cases h1
      all_goals try (rename_i h2; cases h2)
      unfold Cell.ok at hv
      split at hv <;> rename_i h1 <;> try (cases h1; done)
      all_goals try (rename_i h2; cases h2)
      all_goals exact hv
    have : v.cells.toList = [v] := by
      cases v <;> first | rfl | exact absurd rfl (hnot _)
    rw [this] at hc
    simp at hc
    subst hc
    exact cell t c hv a n k
theorem zqt {d : Nat} {t : TypeId} {l : List Sh} (hl : zi1 P d t = some l) (h : (match P.underlying t with | some (.struct _) => true | some (.array _ _) => true | _ => false) = false) : l.length = 1 := by
  cases d with
  | zero => simp [zi1] at hl
  | succ d =>
    rw [zi1] at hl
    split at hl
    · cases hl; rfl
    · cases hl; rfl
    · cases hl; rfl
    · split at hl
      · split at hl
        · cases hl; rfl
        · cases hl
      · cases hl
    · rename_i ht; rw [ht] at h; cases h
    · rename_i ht; rw [ht] at h; cases h
    · cases hl
theorem zk3 {b0 : Nat} (d : Nat) : ∀ (ts : List TypeId) (vs : List Value) (ds : List (DataW H)) (ps : List MemPlace) (ss : List (Bool × List Sh)), DataW.TrodAll enc P W 0 (fun _ => true) true ts vs ds ps →
    (∀ (j : Nat) t v, ts[j]? = some t → vs[j]? = some v → Value.okWide P W .any b0 t v) → (∀ w ∈ DataW.weightsEach P ts ds, w ≤ reachBytes) → ts.mapM (leafA P d) = some ss →
    ∀ h σ, Laid W h σ → ∃ (h' : Heap) (σ' : Emb) (us : List Value), Grow W h h' σ σ' ∧ VRs σ' (fun j => h'[j]?) us vs ∧ zon h' ss us
  | [], vs, ds, ps, ss, hA, hv, hw, hs, h, σ, hL => by
    obtain ⟨rfl, rfl, rfl⟩ := Go.ChangeShapes.trodAll_nil hA
    simp at hs; subst hs
    exact ⟨h, σ, [], .refl hL, .nil, trivial⟩
  | t :: ts, vs, ds, ps, ss, hA, hv, hw, hs, h, σ, hL => by
    obtain ⟨v, vs', d1, ds', p, q, rfl, rfl, rfl, ⟨fuel, h1⟩, hA'⟩ := Go.ChangeShapes.trodAll_cons hA
    rw [List.mapM_cons] at hs
    obtain ⟨s, hs1, hs⟩ := Option.bind_eq_some_iff.1 hs
    obtain ⟨ss', hs2, hs⟩ := Option.bind_eq_some_iff.1 hs
    cases hs
    obtain ⟨l, hl, rfl⟩ := Option.map_eq_some_iff.1 hs1
    have hw1 : ∀ w ∈ d1.weights P t, w ≤ reachBytes := fun w hx => hw w (by rw [DataW.weightsEach]; exact List.mem_append_left _ hx)
    have hok := hv 0 t v rfl rfl
    have hop : Opened W h σ l v.cells.toList := by
      by_cases hN : 0 < W.heap.size
      · exact ygd hN fuel t _ _ h1 hw1 d l hl h σ hL
      · exact zq4 fuel t _ _ h1 hw1 (yaw (by omega) hok) d l hl h σ hL
    obtain ⟨h2, σ2, us, g, hvr, hty, hsi⟩ := hop
    obtain ⟨h3, σ3, us', g', hvr', hty'⟩ := zk3 d ts vs' ds' q ss' hA' (fun j t v a b => hv (j + 1) t v (by simpa using a) (by simpa using b)) (fun w hx => hw w (by rw [DataW.weightsEach]; exact List.mem_append_right _ hx)) hs2 h2 σ2 g.laid
    obtain ⟨more, hmore⟩ := g'.pre
    cases hb : (match P.underlying t with | some (.struct _) => true | some (.array _ _) => true | _ => false) with
    | true =>
      have : ∃ cs, v = .agg cs := by
        unfold Value.okWide at hok
        split at hok
        · obtain ⟨cs, e, _⟩ := hok; exact ⟨cs, e⟩
        · obtain ⟨cs, e, _⟩ := hok; exact ⟨cs, e⟩
        · rename_i h1 h2; split at hb
          · exact absurd ‹_› (h1 _)
          · exact absurd ‹_› (h2 _ _)
          · cases hb
      obtain ⟨cs, rfl⟩ := this
      obtain ⟨cl⟩ := cs
      refine ⟨h3, σ3, agg us :: us', g.trans g', .cons _ _ _ _ ?_ hvr', ⟨⟨us, rfl, by rw [hmore]; exact hty.more more⟩, hty'⟩⟩
      exact (VR.agg us cl hvr hsi).ext g'.ext
    | false =>
      have h1l := zqt hl hb
      have hul : us.length = 1 := by rw [← hty.1, h1l]
      obtain ⟨u, rfl⟩ := List.length_eq_one_iff.1 hul
      have hcl : v.cells.toList.length = 1 := by rw [← hvr.length]; rfl
      have hv1 : VR σ2 (fun j => h2[j]?) u v := by
        cases v <;> simp [Value.cells] at hcl hvr <;> (try (cases hvr; assumption))
        unfold Value.okWide at hok
        split at hok
        · rename_i ht; rw [ht] at hb; cases hb
        · rename_i ht; rw [ht] at hb; cases hb
        · unfold Cell.okWide at hok
          split at hok <;> rename_i h1 <;> try cases h1
          all_goals try (rename_i h2; cases h2)
          unfold Cell.ok at hok
          split at hok <;> rename_i h1 <;> try (cases h1; done)
          all_goals try (rename_i h2; cases h2)
          all_goals cases hok
      refine ⟨h3, σ3, u :: us', g.trans g', .cons _ _ _ _ (hv1.ext g'.ext) hvr', ⟨?_, hty'⟩⟩
      show TypedL h3 l [u]
      rw [hmore]; exact hty.more more
theorem args_again (hl : laidOutB P = true) {W' : World} (hb : Go.RowKit.Below W.heap.size W W') : ∀ (ts : List TypeId) (vs : List Value) (ds : List (DataW H)) (ps : List MemPlace), (∀ t ∈ ts, P.readableRec t = true ∧ t < P.types.size) →
    DataW.TrodAll enc P W 0 (fun _ => true) true ts vs ds ps → DataW.TrodAll enc P W' 0 (fun b => decide (b < W.heap.size)) true ts vs ds ps
  | [], vs, ds, ps, _, hA => by
    obtain ⟨rfl, rfl, rfl⟩ := Go.ChangeShapes.trodAll_nil hA
    exact Go.ChangeShapes.trodAll_mk0
  | t :: ts, vs, ds, ps, hr, hA => by
    have hlt := DataW.TrodAll.lt hA
    obtain ⟨v, vs', d1, ds', p, q, rfl, rfl, rfl, h1, hA'⟩ := Go.ChangeShapes.trodAll_cons hA
    exact trodAll_cons_mk (Go.RowKit.Below.trod hl (hr t (by simp)).1 (hr t (by simp)).2 h1 hb fun x hx => hlt x (List.mem_append_left _ hx)) (args_again hl hb ts vs' ds' q (fun t ht => hr t (by simp [ht])) hA')
theorem args_len : ∀ {ts : List TypeId} {vs : List Value} {ds : List (DataW H)} {ps : List MemPlace}, DataW.TrodAll enc P W 0 (fun _ => true) true ts vs ds ps → ds.length = ts.length
  | [], vs, ds, ps, hA => by
    obtain ⟨rfl, rfl, rfl⟩ := Go.ChangeShapes.trodAll_nil hA; rfl
  | t :: ts, vs, ds, ps, hA => by
    obtain ⟨v, vs', d1, ds', p, q, rfl, rfl, rfl, h1, hA'⟩ := Go.ChangeShapes.trodAll_cons hA
    simp [args_len hA']
end
end Go.Proofs.YtljdbheclfaloaaGreatDoor.AM
namespace Go.Proofs.YtljdbheclfaloaaGreatDoor.AM
open Go.RowKit
theorem zw7 {h : Heap} {k : IntKind} {u : Value} (ht : zm6 h (false, [.int k]) u) : ∃ n, u = .int k n ∧ (Lit.int k n).wf = true := by
  have := ht.2 0 _ _ rfl rfl
  cases this; exact ⟨_, rfl, ‹_›⟩
end Go.Proofs.YtljdbheclfaloaaGreatDoor.AM
namespace Go.Proofs.YtljdbheclfaloaaGreatDoor.AM
open Go.RowKit
set_option linter.unusedSimpArgs false
set_option linter.unusedVariables false
theorem zrn {h : Heap} {b : Nat} {e : List Sh} {u : Value} (he : 0 < e.length) (ht : Typed h (.slice b e) u) :
    ∃ rows : List (List Value), Sl h u e.length rows ∧ (∀ r ∈ rows, TypedL h e r) ∧ rows.length * b ≤ reachBytes := by
  cases ht with
  | nil => exact ⟨[], ⟨.inl ⟨rfl, rfl⟩, by simp⟩, by simp, by simp⟩
  | slice b e i n l hi hl hb ht =>
    have hpl : ∀ r ∈ zd7 l e.length n, r.length = e.length := by
      intro r hr
      obtain ⟨k, hk, rfl⟩ := zgu hr
      rw [List.length_take, List.length_drop, hl]
      have : k * e.length + e.length ≤ n * e.length := by rw [← Nat.succ_mul]; exact Nat.mul_le_mul_right _ hk
      omega
    refine ⟨zd7 l e.length n, ⟨.inr ⟨i, 0, 0, by rw [zd6], ?_⟩, hpl⟩, ?_, by rw [zd6]; exact hb⟩
    · rw [zd6, zhc _ _ _ (by omega)]
      unfold Heap.read
      simp only [hi]
      rw [if_pos ⟨trivial, by omega⟩]; simp
    · intro r hr
      refine ⟨(hpl r hr).symm, ?_⟩
      obtain ⟨k, hk, rfl⟩ := zgu hr
      intro j s u hs hu
      have hj : j < e.length := (List.getElem?_eq_some_iff.1 hs).1
      refine ht (k * e.length + j) s u ?_ ?_
      · rw [Nat.mul_comm, Nat.mul_add_mod, Nat.mod_eq_of_lt hj]; exact hs
      · rw [List.getElem?_take, if_pos hj, List.getElem?_drop] at hu; exact hu
theorem zk0 {h : Heap} {b : Nat} {e : List Sh} {u : Value} (he : 0 < e.length) (ht : zm6 h (false, [.slice b e]) u) :
    ∃ rows : List (List Value), Sl h u e.length rows ∧ (∀ r ∈ rows, TypedL h e r) ∧ rows.length * b ≤ reachBytes := zrn he (ht.2 0 _ _ rfl rfl)
theorem zsx {α : Type} {p : α → Prop} {f : α → List Value} : ∀ (rows : List (List Value)), (∀ r ∈ rows, ∃ a, r = f a ∧ p a) → ∃ l : List α, rows = l.map f ∧ ∀ a ∈ l, p a
  | [], _ => ⟨[], rfl, by simp⟩
  | r :: rows, h => by
    obtain ⟨l, rfl, hl⟩ := zsx rows fun q hq => h q (by simp [hq])
    obtain ⟨a, rfl, ha⟩ := h r (by simp)
    exact ⟨a :: l, rfl, fun b hb => by
      rcases List.mem_cons.1 hb with rfl | hb
      · exact ha
      · exact hl b hb⟩
theorem zcg {h : Heap} {ss : List Sh} {us : List Value} (ht : TypedL h ss us) {i : Nat} {s : Sh} (hs : ss[i]? = some s) : ∃ u, us[i]? = some u ∧ Typed h s u := by
  have hi := (List.getElem?_eq_some_iff.1 hs).1
  have hu : i < us.length := by rw [← ht.1]; exact hi
  exact ⟨us[i], List.getElem?_eq_getElem hu, ht.2 i s _ hs (List.getElem?_eq_getElem hu)⟩
theorem zvu {h : Heap} {l : List Value} (ht : TypedL h (List.replicate 32 (.int .u32)) l) : ∃ f, l = relV f := by
  have key : ∀ k, k < 32 → ∃ x : U, l[k]? = some (.int .u32 (x.toNat : Int)) := by
    intro k hk
    obtain ⟨u, hu, ht⟩ := zcg ht (i := k) (s := .int .u32) (by rw [List.getElem?_replicate, if_pos hk])
    cases ht with
    | int k n hw => obtain ⟨x, rfl⟩ := u_of hw; exact ⟨x, hu⟩
  refine ⟨fun k => if h : k < 32 then (key k h).choose else 0#32, ?_⟩
  apply List.ext_getElem?
  intro k
  by_cases hk : k < 32
  · rw [zbl hk, dif_pos hk]; exact (key k hk).choose_spec
  · rw [List.getElem?_eq_none (by have := ht.1; simp at this; omega), List.getElem?_eq_none (by rw [x9]; omega)]
theorem zxh {h : Heap} {u : Value} (ht : zm6 h (false, [.int .u32]) u) : ∃ x : U, u = .int .u32 (x.toNat : Int) := by
  obtain ⟨n, rfl, hw⟩ := zw7 ht
  obtain ⟨x, rfl⟩ := u_of hw
  exact ⟨x, rfl⟩
end Go.Proofs.YtljdbheclfaloaaGreatDoor.AM
namespace Go.Proofs.YtljdbheclfaloaaGreatDoor.AM
open Go.RowKit
set_option linter.unusedSimpArgs false
set_option linter.unusedVariables false
section
variable {H : Type} {enc : TypeId × Value → H} {P : Program} {W : World} {base : Nat} {sp : Nat → Bool} {held : Bool}
end
section
variable {H : Type} {enc : TypeId × Value → H} {P : Program} {W : World}
def zpn (gl : List (List Value)) : Heap := gl.map fun l => AObj.cells l 0 true
theorem law_callsV {b0 : Nat} {F : Funcs} (gl : List (List Value)) (hm : P.follows .mixedOrders = true) (hr : yb9 P gl.length F) {f : FuncId} {ts : List TypeId} {args : List Value} {ds : List (DataW H)} {ps : List MemPlace} (d : Nat) {ss : List (Bool × List Sh)}
    (hg : ∀ (i : Nat) l, gl[i]? = some l → i < W.heap.size ∧ ∀ (j : Nat) v, l[j]? = some v → ∃ c, W.cell? ⟨i, j, none⟩ = some c ∧ (∀ σ g, VR σ g v c) ∧ single v = true)
    (hA : DataW.TrodAll enc P W 0 (fun _ => true) true ts args ds ps) (hv : ∀ (j : Nat) t v, ts[j]? = some t → args[j]? = some v → Value.okWide P W .any b0 t v) (hw : ∀ w ∈ DataW.weightsEach P ts ds, w ≤ reachBytes) (hs : ts.mapM (leafA P d) = some ss)
    (hd : ∀ (h : Heap) (us : List Value), (∀ (i : Nat) (l : List Value), gl[i]? = some l → h[i]? = some (AObj.cells l 0 true)) → zon h ss us → ∃ h', DF F f us h = some (.bool true, h')) :
    Calls P f ⟨args⟩ W fun e W' => e = .returned (.bool true) ∧ Go.RowKit.Below W.heap.size W W' := by
  let σ0 : Emb := fun i => ⟨i, 0, 0⟩
  have hget : ∀ (i : Nat) o, (zpn gl)[i]? = some o → ∃ l, gl[i]? = some l ∧ o = AObj.cells l 0 true := by
    intro i o hi
    unfold zpn at hi
    rw [List.getElem?_map] at hi
    obtain ⟨l, hl, e⟩ := Option.map_eq_some_iff.1 hi
    exact ⟨l, hl, e.symm⟩
  have hL0 : Laid W (zpn gl) σ0 := by
    intro i o hi
    obtain ⟨l, hl, rfl⟩ := hget i o hi
    obtain ⟨h1, h2⟩ := hg i l hl
    refine ⟨rfl, .ro l h1 (fun j u hu => ?_) fun u hu => ?_⟩
    · obtain ⟨c, h3, h4, _⟩ := h2 j u hu
      exact ⟨c, by simpa [σ0] using h3, h4 _ _⟩
    · obtain ⟨j, hj⟩ := List.getElem?_of_mem hu
      obtain ⟨c, _, _, h5⟩ := h2 j u hj
      exact h5
  obtain ⟨h, σ, us, g, hvr, hty⟩ := zk3 d ts args ds ps ss hA hv hw hs (zpn gl) σ0 hL0
  have hold : ∀ (i : Nat) (l : List Value), gl[i]? = some l → h[i]? = some (AObj.cells l 0 true) := by
    intro i l hl
    obtain ⟨more, rfl⟩ := g.pre
    have : i < (zpn gl).length := by unfold zpn; rw [List.length_map]; exact (List.getElem?_eq_some_iff.1 hl).1
    rw [List.getElem?_append_left this]
    unfold zpn
    rw [List.getElem?_map, hl]; rfl
  obtain ⟨h', hd⟩ := hd h us hold hty
  refine yg7 (G := gl.length) hm hr hd rfl σ W ⟨fun i o hi => (g.laid i o hi).2, fun i j o p hi hj ho => ?_, fun i hi => ?_, Nat.le_refl _⟩ hvr fun o ho => ?_
  · rw [(g.laid i o hi).1] at ho; cases ho
  · refine ⟨gl[i], hold i _ (List.getElem?_eq_getElem hi), ?_⟩
    have : σ i = σ0 i := g.same i (by unfold zpn; rw [List.length_map]; exact hi)
    rw [this]; exact ⟨rfl, rfl⟩
  · obtain ⟨i, hi, he⟩ := List.getElem_of_mem ho
    exact (g.laid i o (by rw [List.getElem?_eq_getElem hi, he])).1
end
end Go.Proofs.YtljdbheclfaloaaGreatDoor.AM
namespace Go.Proofs
set_option linter.unusedSimpArgs false
open Go.Shelf
def Tryz.lays287_ren : Go.Shelf.Ren := ⟨fun | 287 => 127 | 321 => 136 | 322 => 137 | n => n, fun | 9 => 9 | 3 => 3 | 53 => 171 | 75 => 173 | 4 => 4 | 167 => 192 | 5 => 5 | 46 => 186 | 37 => 194 | 0 => 0 | 21 => 21 | 80 => 160 | n => n, fun | n => n⟩
theorem Tryz.lays287 : Go.Proofs.Lays.n287 Tryz.prog Tryz.lays287_ren := {
  mixed := by kernel_rfl
  f287 := Tryz.func127.trans (congrArg some (by kernel_rfl))
  f321 := Tryz.func136.trans (congrArg some (by kernel_rfl))
  f322 := Tryz.func137.trans (congrArg some (by kernel_rfl))
  t0 := Tryz.underlying0
  a0 := Tryz.isAgg0
  z0 := Tryz.sizeOf0
  v0 := Tryz.zeroValue0
  t3 := Tryz.underlying3
  a3 := Tryz.isAgg3
  z3 := Tryz.sizeOf3
  v3 := Tryz.zeroValue3
  t4 := Tryz.underlying4
  a4 := Tryz.isAgg4
  z4 := Tryz.sizeOf4
  v4 := Tryz.zeroValue4
  t5 := Tryz.underlying5
  a5 := Tryz.isAgg5
  z5 := Tryz.sizeOf5
  v5 := Tryz.zeroValue5
  t9 := Tryz.underlying9
  a9 := Tryz.isAgg9
  z9 := Tryz.sizeOf9
  v9 := Tryz.zeroValue9
  t21 := Tryz.underlying21
  a21 := Tryz.isAgg21
  z21 := Tryz.sizeOf21
  v21 := Tryz.zeroValue21
  t37 := Tryz.underlying194
  a37 := Tryz.isAgg194
  z37 := Tryz.sizeOf194
  v37 := Tryz.zeroValue194
  t46 := Tryz.underlying186
  a46 := Tryz.isAgg186
  z46 := Tryz.sizeOf186
  v46 := Tryz.zeroValue186
  t53 := Tryz.underlying171
  a53 := Tryz.isAgg171
  z53 := Tryz.sizeOf171
  v53 := Tryz.zeroValue171
  t75 := Tryz.underlying173
  a75 := Tryz.isAgg173
  z75 := Tryz.sizeOf173
  v75 := Tryz.zeroValue173
  t167 := Tryz.underlying192
  a167 := Tryz.isAgg192
  z167 := Tryz.sizeOf192
  v167 := Tryz.zeroValue192 }
open Go.RowKit in
theorem Tryz.internal_strconv_ParseUint_empty (base bits : Int) (w : World) :
    Calls Tryz.prog 127 #[.string ⟨#[]⟩, .int .i64 base, .int .i64 bits] w fun e w' => e = .returned (.tuple #[.int .u64 0, .iface 192 (.int .i64 2)]) ∧ w' = w := Any.internal_strconv_ParseUint_empty Tryz.lays287 base bits w
def Tryz.laysPu14_ren : Go.Shelf.Ren := ⟨fun | 14 => 104 | 16 => 127 | 17 => 128 | 19 => 136 | 20 => 137 | 21 => 138 | 22 => 139 | 23 => 140 | 24 => 141 | 25 => 145 | 27 => 147 | 26 => 146 | 28 => 152 | 29 => 157 | 30 => 158 | 31 => 159 | 32 => 160 | 33 => 161 | 35 => 163 | 34 => 162 | 36 => 164 | 37 => 165 | 38 => 166 | 39 => 167 | 40 => 168 | n => n, fun | 9 => 9 | 3 => 3 | 22 => 171 | 24 => 173 | 25 => 174 | 4 => 4 | 34 => 192 | 5 => 5 | 36 => 186 | 37 => 194 | 0 => 0 | 39 => 195 | 21 => 21 | 44 => 201 | 47 => 204 | 50 => 207 | 48 => 205 | 2 => 2 | 52 => 211 | 55 => 214 | 59 => 217 | 60 => 46 | 20 => 20 | 61 => 218 | 65 => 222 | 66 => 223 | 67 => 160 | n => n, fun | 0 => 1 | 1 => 2 | 2 => 3 | 3 => 4 | 4 => 5 | n => n⟩
theorem Tryz.laysPu14 : Go.Proofs.LaysPu.n14 Tryz.prog Tryz.laysPu14_ren := {
  mixed := by kernel_rfl
  f14 := Tryz.func104.trans (congrArg some (by kernel_rfl))
  f16 := Tryz.func127.trans (congrArg some (by kernel_rfl))
  f17 := Tryz.func128.trans (congrArg some (by kernel_rfl))
  f19 := Tryz.func136.trans (congrArg some (by kernel_rfl))
  f20 := Tryz.func137.trans (congrArg some (by kernel_rfl))
  f21 := Tryz.func138.trans (congrArg some (by kernel_rfl))
  f22 := Tryz.func139.trans (congrArg some (by kernel_rfl))
  f23 := Tryz.func140.trans (congrArg some (by kernel_rfl))
  f24 := Tryz.func141.trans (congrArg some (by kernel_rfl))
  f25 := Tryz.func145.trans (congrArg some (by kernel_rfl))
  f26 := Tryz.func146.trans (congrArg some (by kernel_rfl))
  f27 := Tryz.func147.trans (congrArg some (by kernel_rfl))
  f28 := Tryz.func152.trans (congrArg some (by kernel_rfl))
  f29 := Tryz.func157.trans (congrArg some (by kernel_rfl))
  f30 := Tryz.func158.trans (congrArg some (by kernel_rfl))
  f31 := Tryz.func159.trans (congrArg some (by kernel_rfl))
  f32 := Tryz.func160.trans (congrArg some (by kernel_rfl))
  f33 := Tryz.func161.trans (congrArg some (by kernel_rfl))
  f34 := Tryz.func162.trans (congrArg some (by kernel_rfl))
  f35 := Tryz.func163.trans (congrArg some (by kernel_rfl))
  f36 := Tryz.func164.trans (congrArg some (by kernel_rfl))
  f37 := Tryz.func165.trans (congrArg some (by kernel_rfl))
  f38 := Tryz.func166.trans (congrArg some (by kernel_rfl))
  f39 := Tryz.func167.trans (congrArg some (by kernel_rfl))
  f40 := Tryz.func168.trans (congrArg some (by kernel_rfl))
  t0 := Tryz.underlying0
  a0 := Tryz.isAgg0
  z0 := Tryz.sizeOf0
  v0 := Tryz.zeroValue0
  i0 := by kernel_rfl
  t2 := Tryz.underlying2
  a2 := Tryz.isAgg2
  z2 := Tryz.sizeOf2
  v2 := Tryz.zeroValue2
  i2 := by kernel_rfl
  t3 := Tryz.underlying3
  a3 := Tryz.isAgg3
  z3 := Tryz.sizeOf3
  v3 := Tryz.zeroValue3
  i3 := by kernel_rfl
  t4 := Tryz.underlying4
  a4 := Tryz.isAgg4
  z4 := Tryz.sizeOf4
  v4 := Tryz.zeroValue4
  i4 := by kernel_rfl
  t5 := Tryz.underlying5
  a5 := Tryz.isAgg5
  z5 := Tryz.sizeOf5
  v5 := Tryz.zeroValue5
  i5 := by kernel_rfl
  t9 := Tryz.underlying9
  a9 := Tryz.isAgg9
  z9 := Tryz.sizeOf9
  v9 := Tryz.zeroValue9
  i9 := by kernel_rfl
  t20 := Tryz.underlying20
  a20 := Tryz.isAgg20
  z20 := Tryz.sizeOf20
  v20 := Tryz.zeroValue20
  i20 := by kernel_rfl
  t21 := Tryz.underlying21
  a21 := Tryz.isAgg21
  z21 := Tryz.sizeOf21
  v21 := Tryz.zeroValue21
  i21 := by kernel_rfl
  t22 := Tryz.underlying171
  a22 := Tryz.isAgg171
  z22 := Tryz.sizeOf171
  v22 := Tryz.zeroValue171
  i22 := by kernel_rfl
  t24 := Tryz.underlying173
  a24 := Tryz.isAgg173
  z24 := Tryz.sizeOf173
  v24 := Tryz.zeroValue173
  i24 := by kernel_rfl
  t25 := Tryz.underlying174
  a25 := Tryz.isAgg174
  z25 := Tryz.sizeOf174
  v25 := Tryz.zeroValue174
  i25 := by kernel_rfl
  t34 := Tryz.underlying192
  a34 := Tryz.isAgg192
  z34 := Tryz.sizeOf192
  v34 := Tryz.zeroValue192
  i34 := by kernel_rfl
  c34 := by kernel_rfl
  t36 := Tryz.underlying186
  a36 := Tryz.isAgg186
  z36 := Tryz.sizeOf186
  v36 := Tryz.zeroValue186
  i36 := by kernel_rfl
  t37 := Tryz.underlying194
  a37 := Tryz.isAgg194
  z37 := Tryz.sizeOf194
  v37 := Tryz.zeroValue194
  i37 := by kernel_rfl
  t39 := Tryz.underlying195
  a39 := Tryz.isAgg195
  z39 := Tryz.sizeOf195
  v39 := Tryz.zeroValue195
  i39 := by kernel_rfl
  t44 := Tryz.underlying201
  a44 := Tryz.isAgg201
  z44 := Tryz.sizeOf201
  v44 := Tryz.zeroValue201
  i44 := by kernel_rfl
  t47 := Tryz.underlying204
  a47 := Tryz.isAgg204
  z47 := Tryz.sizeOf204
  v47 := Tryz.zeroValue204
  i47 := by kernel_rfl
  t48 := Tryz.underlying205
  a48 := Tryz.isAgg205
  z48 := Tryz.sizeOf205
  v48 := Tryz.zeroValue205
  i48 := by kernel_rfl
  t50 := Tryz.underlying207
  a50 := Tryz.isAgg207
  z50 := Tryz.sizeOf207
  v50 := Tryz.zeroValue207
  i50 := by kernel_rfl
  t52 := Tryz.underlying211
  a52 := Tryz.isAgg211
  z52 := Tryz.sizeOf211
  v52 := Tryz.zeroValue211
  i52 := by kernel_rfl
  t55 := Tryz.underlying214
  a55 := Tryz.isAgg214
  z55 := Tryz.sizeOf214
  v55 := Tryz.zeroValue214
  i55 := by kernel_rfl
  t59 := Tryz.underlying217
  a59 := Tryz.isAgg217
  z59 := Tryz.sizeOf217
  v59 := Tryz.zeroValue217
  i59 := by kernel_rfl
  t60 := Tryz.underlying46
  a60 := Tryz.isAgg46
  z60 := Tryz.sizeOf46
  v60 := Tryz.zeroValue46
  i60 := by kernel_rfl
  t61 := Tryz.underlying218
  a61 := Tryz.isAgg218
  z61 := Tryz.sizeOf218
  t65 := Tryz.underlying222
  a65 := Tryz.isAgg222
  z65 := Tryz.sizeOf222
  v65 := Tryz.zeroValue222
  i65 := by kernel_rfl
  t66 := Tryz.underlying223
  a66 := Tryz.isAgg223
  z66 := Tryz.sizeOf223
  v66 := Tryz.zeroValue223
  i66 := by kernel_rfl
  t67 := Tryz.underlying160
  a67 := Tryz.isAgg160
  z67 := Tryz.sizeOf160
  v67 := Tryz.zeroValue160
  i67 := by kernel_rfl
  g0 := by kernel_rfl
  m0 := by kernel_rfl
  g1 := by kernel_rfl
  m1 := by kernel_rfl
  g2 := by kernel_rfl
  m2 := by kernel_rfl
  g3 := by kernel_rfl
  m3 := by kernel_rfl
  g4 := by kernel_rfl
  m4 := by kernel_rfl }
open Go.RowKit in
theorem Tryz.strconv_ParseUint_10_at64_ok (s : ByteArray) (hmax : s.size ≤ 9223372036854775806) (u : Nat) (h : Lib.parseUintB 64 s.data.toList = .ok u) (w : World) :
    Calls Tryz.prog 104 #[.string s, .int .i64 10, .int .i64 64] w fun e w' => e = .returned (.tuple #[.int .u64 u, .nilIface]) ∧ (w' = w ∨ w' = Lib.bytesWorld w 5 s) := Any.strconv_ParseUint_10_at64_ok Tryz.laysPu14 s hmax u h w
open Go.RowKit in
theorem Tryz.strconv_ParseUint_10_at64_syntax (s : ByteArray) (hlim : s.size ≤ 281474976710656) (h : Lib.parseUintB 64 s.data.toList = .«syntax») (ev : Value) (w : World) (hv : w.cell? ⟨1, 0, none⟩ = some ev) (hev : ev = .nilIface ∨ ∃ te pe, ev = .iface te pe) :
    Calls Tryz.prog 104 #[.string s, .int .i64 10, .int .i64 64] w fun e w' => ∃ N, e = .returned (.tuple #[.int .u64 0, .iface 195 (.pointer (some ⟨N, 0, none⟩))]) ∧ w.heap.size ≤ N ∧ w'.heap[N]? = some (.cells #[.string ⟨#[80, 97, 114, 115, 101, 85, 105, 110, 116]⟩, .string s, ev] 201 (0, 0)) ∧ Below w.heap.size w w' := Any.strconv_ParseUint_10_at64_syntax Tryz.laysPu14 s hlim h ev w hv hev
def Tryz.lays217_ren : Go.Shelf.Ren := ⟨fun | 217 => 105 | 266 => 129 | n => n, fun | 9 => 9 | 5 => 5 | 3 => 3 | n => n, fun | n => n⟩
theorem Tryz.lays217 : Go.Proofs.Lays.n217 Tryz.prog Tryz.lays217_ren := {
  mixed := by kernel_rfl
  f217 := Tryz.func105.trans (congrArg some (by kernel_rfl))
  f266 := Tryz.func129.trans (congrArg some (by kernel_rfl))
  t3 := Tryz.underlying3
  a3 := Tryz.isAgg3
  z3 := Tryz.sizeOf3
  v3 := Tryz.zeroValue3
  t5 := Tryz.underlying5
  a5 := Tryz.isAgg5
  z5 := Tryz.sizeOf5
  v5 := Tryz.zeroValue5
  t9 := Tryz.underlying9
  a9 := Tryz.isAgg9
  z9 := Tryz.sizeOf9
  v9 := Tryz.zeroValue9 }
open Go.RowKit Go.Lib in
theorem Tryz.stringslite_IndexByte (s : ByteArray) (c : Int) (w : World) :
    Calls Tryz.prog 105 #[.string s, .int .u8 c] w fun e w' => e = .returned (.int .i64 (Lib.indexByte s.data.toList c.toNat.toUInt8)) ∧ w' = w := Any.stringslite_IndexByte Tryz.lays217 s c w
def Tryz.lays219_ren : Go.Shelf.Ren := ⟨fun | 219 => 101 | 217 => 105 | 225 => 123 | 224 => 124 | 267 => 125 | 266 => 129 | 314 => 135 | n => n, fun | 9 => 9 | 3 => 3 | 4 => 4 | 5 => 5 | 46 => 186 | 146 => 190 | 51 => 46 | n => n, fun | 1 => 0 | n => n⟩
theorem Tryz.lays219 : Go.Proofs.Lays.n219 Tryz.prog Tryz.lays219_ren := {
  mixed := by kernel_rfl
  f217 := Tryz.func105.trans (congrArg some (by kernel_rfl))
  f219 := Tryz.func101.trans (congrArg some (by kernel_rfl))
  f224 := Tryz.func124.trans (congrArg some (by kernel_rfl))
  f225 := Tryz.func123.trans (congrArg some (by kernel_rfl))
  f266 := Tryz.func129.trans (congrArg some (by kernel_rfl))
  f267 := Tryz.func125.trans (congrArg some (by kernel_rfl))
  f314 := Tryz.func135.trans (congrArg some (by kernel_rfl))
  t3 := Tryz.underlying3
  a3 := Tryz.isAgg3
  z3 := Tryz.sizeOf3
  v3 := Tryz.zeroValue3
  t4 := Tryz.underlying4
  a4 := Tryz.isAgg4
  z4 := Tryz.sizeOf4
  v4 := Tryz.zeroValue4
  t5 := Tryz.underlying5
  a5 := Tryz.isAgg5
  z5 := Tryz.sizeOf5
  v5 := Tryz.zeroValue5
  t9 := Tryz.underlying9
  a9 := Tryz.isAgg9
  z9 := Tryz.sizeOf9
  v9 := Tryz.zeroValue9
  t46 := Tryz.underlying186
  a46 := Tryz.isAgg186
  z46 := Tryz.sizeOf186
  v46 := Tryz.zeroValue186
  t51 := Tryz.underlying46
  a51 := Tryz.isAgg46
  z51 := Tryz.sizeOf46
  v51 := Tryz.zeroValue46
  t146 := Tryz.underlying190
  a146 := Tryz.isAgg190
  z146 := Tryz.sizeOf190
  v146 := Tryz.zeroValue190
  g1 := by kernel_rfl }
open Go.RowKit Go.Lib in
theorem Tryz.stringslite_Index (s sub : ByteArray) (m : Int) (w : World) (hs : s.size < 4294967281) (hm : w.cell? ⟨0, 0, none⟩ = some (.int .i64 m)) :
    Calls Tryz.prog 101 #[.string s, .string sub] w fun e w' => e = .returned (.int .i64 (Lib.index s.data.toList sub.data.toList)) ∧ w' = w := Any.stringslite_Index Tryz.lays219 s sub m w hs hm
end Go.Proofs
namespace Go.Proofs.YtljdbheclfaloaaGreatDoor.AM
open Go.RowKit
set_option linter.unusedSimpArgs false
set_option linter.unusedVariables false
set_option maxRecDepth 20000
def zpi (args : List Value) (h : Heap) : Option (Value × Heap) :=
  match args, h[0]? with
  | [.string s, .string t], some (AObj.cells [.int .i64 _] 0 true) => if s.size < 4294967281 then some (.int .i64 (Lib.index s.data.toList t.data.toList), h) else none
  | _, _ => none
def ztm (args : List Value) (h : Heap) : Option (Value × Heap) :=
  match args with
  | [.string s, .int .u8 c] => some (.int .i64 (Lib.indexByte s.data.toList c.toNat.toUInt8), h)
  | _ => none
def zrf : qd := fun f args h => if f = 101 then zpi args h else if f = 105 then ztm args h else none
theorem VRs.two {σ : Emb} {g : Mem} {a b : Value} {cs : List Value} (h : VRs σ g [a, b] cs) : ∃ x y, cs = [x, y] ∧ VR σ g a x ∧ VR σ g b y := by
  cases h with
  | cons _ x _ cs ha hs =>
    cases hs with
    | cons _ y _ cs hb hs => cases hs; exact ⟨x, y, rfl, ha, hb⟩
theorem zzj {G : Nat} (hG : 0 < G) (N : Nat) : zcq Tryz.prog G N zrf := by
  intro f args h v h' he σ g w cargs hs hm hv
  unfold zrf at he
  by_cases h1 : f = 101
  · subst h1
    rw [if_pos rfl] at he
    unfold zpi at he
    split at he
    · rename_i s t m hg
      split at he
      · rename_i hlen
        obtain ⟨rfl, rfl⟩ := Prod.mk.inj (Option.some.inj he)
        obtain ⟨x, y, rfl, hx, hy⟩ := hv.two
        obtain rfl := hx.string_inv
        obtain rfl := hy.string_inv
        obtain ⟨vals, g0, gb, ga⟩ := hm.glob 0 hG
        have hg0 := hs _ _ g0
        rw [hg] at hg0
        cases hg0
        have ho := hm.obj _ _ g0
        have hcell : w.cell? ⟨0, 0, none⟩ = some (.int .i64 m) := by
          cases ho with
          | ro _ hb hv h1 =>
            obtain ⟨c, hc, hr⟩ := hv 0 _ rfl
            rw [gb, ga] at hc
            obtain rfl := hr.int_inv
            exact hc
        refine ⟨by kernel_rfl, (Tryz.stringslite_Index s t m w hlen hcell).mono ?_⟩
        rintro e w' ⟨rfl, rfl⟩
        exact ⟨_, rfl, Done.same hm hs (.int _ _)⟩
      · cases he
    · cases he
  · rw [if_neg h1] at he
    by_cases h2 : f = 105
    · subst h2
      rw [if_pos rfl] at he
      unfold ztm at he
      split at he
      · rename_i s c
        obtain ⟨rfl, rfl⟩ := Prod.mk.inj (Option.some.inj he)
        obtain ⟨x, y, rfl, hx, hy⟩ := hv.two
        obtain rfl := hx.string_inv
        obtain rfl := hy.int_inv
        refine ⟨by kernel_rfl, (Tryz.stringslite_IndexByte s c w).mono ?_⟩
        rintro e w' ⟨rfl, rfl⟩
        exact ⟨_, rfl, Done.same hm hs (.int _ _)⟩
      · cases he
    · rw [if_neg h2] at he; cases he
section
open Go.Proofs Go.Shelf Go.RowKit
def lowB (c : UInt8) : Int := Go.bits .or .u8 (c.toNat : Int) 32
def hexD (c : UInt8) : Option Nat := if 48 ≤ c.toNat ∧ c.toNat ≤ 57 then some (c.toNat - 48) else if 97 ≤ lowB c ∧ lowB c ≤ 102 then some (lowB c - 87).toNat else none
def hexN (acc : Nat) : List UInt8 → Lib.NumEnd Nat
  | [] => .ok acc
  | c :: r => match hexD c with
    | some d => hexN (acc * 16 + d) r
    | none => .syntax
set_option maxHeartbeats 32000000 in
set_option maxRecDepth 100000 in
theorem ye9 {P : Program} {ρ : Ren} (L : Lays.n287 P ρ) (t : ByteArray) (hne : t.size ≠ 0) (hmax : t.size ≤ 16) (w : World) :
    Calls P (ρ.f 287) #[.string t, .int .i64 16, .int .i64 64] w fun e w' => e = .returned (Lib.uintTuple (ρ.t 167) (hexN 0 t.data.toList)) ∧ w' = Lib.bytesWorld w (ρ.t 5) t := by
  have mixed := L.mixed
  have t9 := L.t9; have a9 := L.a9; have z9 := L.z9; have v9 := L.v9
  have t3 := L.t3; have a3 := L.a3; have z3 := L.z3; have v3 := L.v3
  have t53 := L.t53; have a53 := L.a53; have z53 := L.z53; have v53 := L.v53
  have t75 := L.t75; have a75 := L.a75; have z75 := L.z75; have v75 := L.v75
  have t4 := L.t4; have a4 := L.a4; have z4 := L.z4; have v4 := L.v4
  have t167 := L.t167; have a167 := L.a167; have z167 := L.z167; have v167 := L.v167
  have t5 := L.t5; have a5 := L.a5; have z5 := L.z5; have v5 := L.v5
  have t46 := L.t46; have a46 := L.a46; have z46 := L.z46; have v46 := L.v46
  have t37 := L.t37; have a37 := L.a37; have z37 := L.z37; have v37 := L.v37
  have t0 := L.t0; have a0 := L.a0; have z0 := L.z0; have v0 := L.v0
  have e321 : ∀ args w, (callFunc (ρ.f 321) args).run P w = .ok (.enter (ρ.f 321) args) w := enters_of L.f321 (by kernel_rfl) rfl
  have hemp : t.toList.isEmpty = false := by
    rw [← decide_eq_emptyBytes]
    exact decide_eq_false (fun h => hne (by rw [h]; rfl))
  have hcv := Lib.run_convert_string_bytes (P := P) w (ρ.t 9) (ρ.t 37) (ρ.t 5) t (u := .string) L.t9 L.t37 L.t5
  have hB : ∀ j, j < t.size → (Lib.bytesWorld w (ρ.t 5) t).cell? ⟨w.heap.size, j, none⟩ = some (.int .u8 (t.data.toList.getD j 0).toNat) := fun j hj => Lib.bytesWorld_cell w (ρ.t 5) t j hj
  obtain ⟨W1, hW1⟩ : ∃ W1, W1 = Lib.bytesWorld w (ρ.t 5) t := ⟨_, rfl⟩
  rw [← hW1] at hcv hB ⊢
  clear hW1
  obtain ⟨bs, hL⟩ : ∃ bs, bs = t.data.toList := ⟨_, rfl⟩
  have hLn : bs.length = t.size := by rw [hL, Lib.size_eq]
  rw [← hL] at hB ⊢
  clear hL
  have hmv : IntKind.u64.wrap (IntKind.u64.wrap 18446744073709551616 - 1) = 18446744073709551615 := by
    rw [IntKind.wrap_u64, IntKind.wrap_u64]
    decide
  have pw : ∀ k, k ≤ 16 → (16 : Nat) ^ k ≤ 18446744073709551616 := fun k hk => Nat.le_trans (Nat.pow_le_pow_right (by omega) hk) (by decide)
  have pw1 : ∀ k, k < 16 → (16 : Nat) ^ k ≤ 1152921504606846976 := fun k hk => Nat.le_trans (Nat.pow_le_pow_right (by omega) (show k ≤ 15 by omega)) (by decide)
  go_enter L.f287, Body.n287_ntmps ρ
  go_wp2
  go_loop [12, 13, 101] (fun vu vn vi => ∃ (k acc : Nat) (a : Int), vu = .bool false ∧ vn = .int .u64 a ∧ vi = .int .i64 k ∧ k ≤ t.size ∧ Hid (a = (acc : Int) ∧ acc < 16 ^ k ∧ hexN 0 bs = hexN acc (bs.drop k)))
    (fun _ _ vi => t.size - (intOf vi).toNat)
  case atStart => exact ⟨0, 0, 0, rfl, rfl, rfl, by omega, rfl, by decide, rfl⟩
  case round =>
    obtain ⟨k, acc, a, rfl, rfl, rfl, hk, hh⟩ := hrel
    obtain ⟨ha, hacc, hdec⟩ := hh.out
    clear hh
    by_cases hkn : k < t.size
    · have hc := hB k hkn
      have hdrop : bs.drop k = bs[k]'(by omega) :: bs.drop (k + 1) := List.drop_eq_getElem_cons (by omega)
      have hget : bs.getD k 0 = bs[k]'(by omega) := by simp [List.getD, List.getElem?_eq_getElem (show k < bs.length by omega)]
      rw [hdrop] at hdec
      rw [hget] at hc
      generalize bs[k]'(by omega) = c at hc hdec
      have hc256 : c.toNat < 256 := c.toNat_lt
      have hcut := pw1 k (by omega)
      have hps : (16 : Nat) ^ (k + 1) = 16 ^ k * 16 := Nat.pow_succ ..
      have hp1 := pw (k + 1) (by omega)
      have a0 : 0 ≤ a := by omega
      have a1 : a < 1152921504606846976 := by omega
      clear hB hdrop hget pw pw1
      by_cases hdig : 48 ≤ c.toNat ∧ c.toNat ≤ 57
      · obtain ⟨hd0, hd1⟩ := hdig
        have hF : hexN acc (c :: bs.drop (k + 1)) = hexN (acc * 16 + (c.toNat - 48)) (bs.drop (k + 1)) := by simp [hexN, hexD, hd0, hd1]
        have HN : Hid (a * 16 + ((c.toNat : Int) - 48) = ((acc * 16 + (c.toNat - 48) : Nat) : Int) ∧ acc * 16 + (c.toNat - 48) < 16 ^ (k + 1) ∧ hexN 0 bs = hexN (acc * 16 + (c.toNat - 48)) (bs.drop (k + 1))) := Lib.hid ⟨by omega, by omega, hdec.trans hF⟩
        have iov : a * 16 + ((c.toNat : Int) - 48) < 18446744073709551616 := by omega
        clear hacc hF hdec ha hps hcut hp1
        go_wp2
        refine ⟨⟨k + 1, acc * 16 + (c.toNat - 48), a * 16 + ((c.toNat : Int) - 48), rfl, (by first | rfl | (congr 1; omega)), (by first | rfl | (congr 1; omega)), by omega, HN⟩, by simp [intOf]; omega⟩
      · obtain ⟨l, hl⟩ : ∃ l, l = lowB c := ⟨_, rfl⟩
        have hl' : Go.bits .or .u8 (c.toNat : Int) 32 = l := by rw [hl]; rfl
        have l0 : 0 ≤ l := by rw [← hl']; exact bits_lo_u8 .or (c.toNat : Int) 32
        have l1 : l ≤ 255 := by rw [← hl']; exact bits_hi_u8 .or (c.toNat : Int) 32
        by_cases hx : 97 ≤ l ∧ l ≤ 102
        · obtain ⟨hx0, hx1⟩ := hx
          have hF : hexN acc (c :: bs.drop (k + 1)) = hexN (acc * 16 + (l - 87).toNat) (bs.drop (k + 1)) := by simp [hexN, hexD, hdig, ← hl, hx0, hx1]
          have HN : Hid (a * 16 + (l - 87) = ((acc * 16 + (l - 87).toNat : Nat) : Int) ∧ acc * 16 + (l - 87).toNat < 16 ^ (k + 1) ∧ hexN 0 bs = hexN (acc * 16 + (l - 87).toNat) (bs.drop (k + 1))) := Lib.hid ⟨by omega, by omega, hdec.trans hF⟩
          have iov : a * 16 + (l - 87) < 18446744073709551616 := by omega
          have HX : Hid (97 ≤ l ∧ l ≤ 102 ∧ Go.bits .or .u8 (c.toNat : Int) 32 = l) := Lib.hid ⟨hx0, hx1, hl'⟩
          clear hacc hF hdec ha hps hcut hp1 hl
          go_wp2_with (go_at_fn (ρ.f 321); refine (Any.internal_strconv_lower { L with } _ _).mono ?_; rintro e w' ⟨rfl, rfl⟩; try rw [hl'])
          all_goals first
            | exact ⟨⟨k + 1, acc * 16 + (l - 87).toNat, a * 16 + (l - 87), rfl, (by first | rfl | (congr 1; omega)), (by first | rfl | (congr 1; omega)), by omega, HN⟩, by simp [intOf]; omega⟩
            | (exfalso; obtain ⟨p1, p2, p3⟩ := HX.out; omega)
            | (exfalso; obtain ⟨p1, p2, p3⟩ := HX.out; have h127 : Go.bits .or .u8 95 32 = 127 := by decide
               first | (rw [h127] at p3; omega) | (simp_all; omega))
        · have hF : hexN acc (c :: bs.drop (k + 1)) = .syntax := by simp [hexN, hexD, hdig, ← hl, hx]
          rw [hF] at hdec
          clear hacc hF ha hps hcut hp1 hl
          go_wp2_with (go_at_fn (ρ.f 321); refine (Any.internal_strconv_lower { L with } _ _).mono ?_; rintro e w' ⟨rfl, rfl⟩; try rw [hl'])
          all_goals go_ret2
          all_goals first | exact ⟨rfl, rfl⟩ | exact ⟨by rw [hdec]; rfl, rfl⟩
    · have hkk : k = t.size := by omega
      subst hkk
      have hF : hexN acc (bs.drop t.size) = .ok acc := by rw [List.drop_eq_nil_of_le (by omega)]; rfl
      rw [hF] at hdec
      subst ha
      have h1 := pw t.size hmax
      clear pw pw1 hB
      go_wp2
      go_ret2
      exact ⟨rfl, rfl⟩
end
section
open Go.Proofs Go.Shelf Go.RowKit
set_option linter.unusedVariables false
set_option linter.unusedSimpArgs false
section
variable {P : Program} {ρ : Ren}
set_option maxHeartbeats 4000000 in
set_option maxRecDepth 100000 in
theorem yg4 (L : LaysPu.n14 P ρ) (s : ByteArray) (base : Int) (u : Nat) (w : World)
    (hI : Calls P (ρ.f 16) #[.string s, .int .i64 base, .int .i64 64] w fun e w' => e = .returned (.tuple #[.int .u64 u, .nilIface]) ∧ Go.RowKit.Below w.heap.size w w') :
    Calls P (ρ.f 14) #[.string s, .int .i64 base, .int .i64 64] w fun e w' => e = .returned (.tuple #[.int .u64 u, .nilIface]) ∧ Go.RowKit.Below w.heap.size w w' := by
  have mixed := L.mixed
  have t9 := L.t9; have a9 := L.a9; have z9 := L.z9; have v9 := L.v9
  have t3 := L.t3; have a3 := L.a3; have z3 := L.z3; have v3 := L.v3
  have t22 := L.t22; have a22 := L.a22; have z22 := L.z22; have v22 := L.v22
  have t24 := L.t24; have a24 := L.a24; have z24 := L.z24; have v24 := L.v24
  have t25 := L.t25; have a25 := L.a25; have z25 := L.z25; have v25 := L.v25
  have t4 := L.t4; have a4 := L.a4; have z4 := L.z4; have v4 := L.v4
  have e16 : ∀ args w, (callFunc (ρ.f 16) args).run P w = .ok (.enter (ρ.f 16) args) w := enters_of L.f16 (by kernel_rfl) rfl
  go_enter L.f14, BodyPu.n14_ntmps ρ
  go_wp2_with (go_at_fn (ρ.f 16); refine hI.mono ?_; rintro e W1 ⟨rfl, hW⟩)
  go_wp2
  go_ret2
  exact ⟨rfl, hW⟩
set_option maxHeartbeats 4000000 in
set_option maxRecDepth 100000 in
theorem zv6 (L : LaysPu.n14 P ρ) (s : ByteArray) (base : Int) (hlim : s.size ≤ 281474976710656) (ev : Value) (w : World) (hv : w.cell? ⟨(ρ.g 0), 0, none⟩ = some ev) (hev : ev = .nilIface ∨ ∃ te pe, ev = .iface te pe)
    (hI : Calls P (ρ.f 16) #[.string s, .int .i64 base, .int .i64 64] w fun e w' => e = .returned (.tuple #[.int .u64 0, .iface (ρ.t 34) (.int .i64 2)]) ∧ Go.RowKit.Below w.heap.size w w') :
    Calls P (ρ.f 14) #[.string s, .int .i64 base, .int .i64 64] w fun e w' => ∃ N, e = .returned (.tuple #[.int .u64 0, .iface (ρ.t 39) (.pointer (some ⟨N, 0, none⟩))]) ∧ Go.RowKit.Below w.heap.size w w' := by
  have mixed := L.mixed
  have t9 := L.t9; have a9 := L.a9; have z9 := L.z9; have v9 := L.v9
  have t3 := L.t3; have a3 := L.a3; have z3 := L.z3; have v3 := L.v3
  have t22 := L.t22; have a22 := L.a22; have z22 := L.z22; have v22 := L.v22
  have t24 := L.t24; have a24 := L.a24; have z24 := L.z24; have v24 := L.v24
  have t25 := L.t25; have a25 := L.a25; have z25 := L.z25; have v25 := L.v25
  have t4 := L.t4; have a4 := L.a4; have z4 := L.z4; have v4 := L.v4
  have e16 : ∀ args w, (callFunc (ρ.f 16) args).run P w = .ok (.enter (ρ.f 16) args) w := enters_of L.f16 (by kernel_rfl) rfl
  have e17 : ∀ args w, (callFunc (ρ.f 17) args).run P w = .ok (.enter (ρ.f 17) args) w := enters_of L.f17 (by kernel_rfl) rfl
  have hG : (ρ.g 0) < w.heap.size := Lib.lt_of_cell hv
  go_enter L.f14, BodyPu.n14_ntmps ρ
  go_wp2_with (go_at_fn (ρ.f 16); refine hI.mono ?_)
  rintro e W1 ⟨rfl, hb1⟩
  have hv1 : W1.cell? ⟨(ρ.g 0), 0, none⟩ = some ev := (hb1.cell (show (⟨(ρ.g 0), 0, none⟩ : Addr).block < w.heap.size from hG)).trans hv
  go_wp2_with (go_at_fn (ρ.f 17); refine (AnyPu.strconv_toError_syntax { L with } ⟨#[80, 97, 114, 115, 101, 85, 105, 110, 116]⟩ s base 64 ev _ hlim ?_ hev).mono ?_)
  · exact hv1
  rintro e W2 ⟨N, rfl, h1, h2, h3⟩
  go_wp2
  go_ret2
  exact ⟨N, rfl, hb1.trans (h3.mono hb1.size)⟩
end
theorem MR.below {G N : Nat} {σ : Emb} {g : Mem} {w w' : World} (hm : MR G N σ g w) (hb : Go.RowKit.Below w.heap.size w w') : MR G N σ g w' := by
  have same : ∀ (b : Nat) o, w.heap[b]? = some o → w'.heap[b]? = some o := fun b o ho => by
    have hlt : b < w.heap.size := (Array.getElem?_eq_some_iff.1 ho).1
    rw [hb.block b hlt]; exact ho
  refine ⟨fun i o hi => ?_, hm.inj, hm.glob, Nat.le_trans hm.size hb.size⟩
  cases hm.obj i o hi with
  | own vals cs ver el h1 h2 hw h3 h4 h5 h6 => exact .own vals cs ver el h1 h2 (same _ _ hw) h3 h4 h5 h6
  | ro vals h1 h2 h3 =>
    refine .ro vals h1 (fun j u hu => ?_) h3
    obtain ⟨c, hc, hr⟩ := h2 j u hu
    exact ⟨c, by rw [hb.cell (Lib.lt_of_cell hc)]; exact hc, hr⟩
  | map es ms clock h1 hw h2 => exact .map es ms clock h1 (same _ _ hw) h2
theorem Done.below {G N : Nat} {σ : Emb} {g : Mem} {w w' : World} {h : Heap} (hm : MR G N σ g w) (hs : Sub g h) (hb : Go.RowKit.Below w.heap.size w w') {v cv : Value} (hv : VR σ g v cv) : Done G N σ g w h v h cv w' := by
  refine ⟨σ, ?_, ?_, ?_, .refl _ _⟩ <;> rw [zdv hs]
  · exact ⟨.refl _ _, hb.size, hb.os, hb.tape, hb.output, fun b hlt _ => hb.block b hlt, fun b h => .inl h⟩
  · exact hm.below hb
  · exact hv
def zyn : Value := .iface 195 (.chan (some 0))
def ycw : Value → Bool
  | .iface _ (.chan (some _)) => true
  | _ => false
theorem zzw {σ : Emb} {g : Mem} {v c : Value} (h : ycw v = true) (hr : VR σ g v c) : ∃ te pe, c = .iface te pe := by
  unfold ycw at h
  split at h
  · cases hr; exact ⟨_, _, rfl⟩
  · cases h
def zdr (b : Int) (s : ByteArray) : Option (Option Nat) :=
  if b = 10 then match Lib.parseUintB 64 s.data.toList with
    | .ok u => some (some u)
    | .syntax => some none
    | .range => none
  else if b = 16 ∧ s.size ≤ 16 then if s.size = 0 then some none else match hexN 0 s.data.toList with
    | .ok u => some (some u)
    | .syntax => some none
    | .range => none
  else none
def zo7 (args : List Value) (h : Heap) : Option (Value × Heap) :=
  match args, h[1]? with
  | [.string s, .int .i64 b, .int .i64 64], some (AObj.cells [E] 0 true) => if ycw E = true ∧ s.size < 4294967281 then match zdr b s with
      | some (some u) => some (.tuple ⟨[.int .u64 u, .nilIface]⟩, h)
      | some none => some (.tuple ⟨[.int .u64 0, zyn]⟩, h)
      | none => none
    else none
  | _, _ => none
def zls : FuncId → Bool := fun f => f == 104
def known : qd := fun f args h => if f = 104 then zo7 args h else zrf f args h
theorem VRs.three {σ : Emb} {g : Mem} {a b d : Value} {cs : List Value} (h : VRs σ g [a, b, d] cs) : ∃ x y z, cs = [x, y, z] ∧ VR σ g a x ∧ VR σ g b y ∧ VR σ g d z := by
  cases h with
  | cons _ x _ cs ha hs =>
    obtain ⟨y, z, rfl, hy, hz⟩ := hs.two
    exact ⟨x, y, z, rfl, ha, hy, hz⟩
theorem zqs (s : ByteArray) : zdr 10 s = match Lib.parseUintB 64 s.data.toList with | .ok u => some (some u) | .syntax => some none | .range => none := by unfold zdr; rw [if_pos rfl]
theorem zt6 (s : ByteArray) (h0 : s.size = 0) : zdr 16 s = some none := by
  unfold zdr
  rw [if_neg (by decide), if_pos ⟨rfl, by omega⟩, if_pos h0]
theorem zpq (s : ByteArray) (h0 : s.size ≠ 0) (h16 : s.size ≤ 16) : zdr 16 s = match hexN 0 s.data.toList with | .ok u => some (some u) | .syntax => some none | .range => none := by
  unfold zdr
  rw [if_neg (by decide), if_pos ⟨rfl, h16⟩, if_neg h0]
theorem zwm {b : Int} {s : ByteArray} {r : Option Nat} (h : zdr b s = some r) : b = 10 ∨ (b = 16 ∧ s.size ≤ 16) := by
  unfold zdr at h
  by_cases hb : b = 10
  · exact .inl hb
  · rw [if_neg hb] at h
    by_cases hc : b = 16 ∧ s.size ≤ 16
    · exact .inr hc
    · rw [if_neg hc] at h; cases h
theorem zx1 (b : Int) (s : ByteArray) (hlen : s.size < 4294967281) (w : World) (ev : Value) (hv : w.cell? ⟨1, 0, none⟩ = some ev) (hev : ∃ te pe, ev = .iface te pe) {r : Option Nat} (hr : zdr b s = some r) :
    Calls Tryz.prog 104 #[.string s, .int .i64 b, .int .i64 64] w fun e w' => (match r with | some u => e = .returned (.tuple #[.int .u64 u, .nilIface]) | none => ∃ N, e = .returned (.tuple #[.int .u64 0, .iface 195 (.pointer (some ⟨N, 0, none⟩))])) ∧ Go.RowKit.Below w.heap.size w w' := by
  have hbw : Go.RowKit.Below w.heap.size w (Lib.bytesWorld w 5 s) := Lib.bytesWorld_below _ _ _
  rcases zwm hr with rfl | ⟨rfl, h16⟩
  · rw [zqs] at hr
    cases hp : Lib.parseUintB 64 s.data.toList with
    | ok u =>
      rw [hp] at hr; cases hr
      refine (Tryz.strconv_ParseUint_10_at64_ok s (by omega) u hp w).mono ?_
      rintro e w' ⟨rfl, rfl | rfl⟩
      · exact ⟨rfl, Go.RowKit.Below.refl _ _⟩
      · exact ⟨rfl, hbw⟩
    | «syntax» =>
      rw [hp] at hr; cases hr
      refine (Tryz.strconv_ParseUint_10_at64_syntax s (by omega) hp ev w hv (.inr hev)).mono ?_
      rintro e w' ⟨N, rfl, h1, h2, h3⟩
      exact ⟨⟨N, rfl⟩, h3⟩
    | range => rw [hp] at hr; cases hr
  ·
      have syn : (Calls Tryz.prog 127 #[.string s, .int .i64 16, .int .i64 64] w fun e w' => e = .returned (.tuple #[.int .u64 0, .iface 192 (.int .i64 2)]) ∧ Go.RowKit.Below w.heap.size w w') →
          Calls Tryz.prog 104 #[.string s, .int .i64 16, .int .i64 64] w fun e w' => (∃ N, e = .returned (.tuple #[.int .u64 0, .iface 195 (.pointer (some ⟨N, 0, none⟩))])) ∧ Go.RowKit.Below w.heap.size w w' := by
        intro hI
        refine (zv6 Tryz.laysPu14 s 16 (by omega) ev w hv (.inr hev) hI).mono ?_
        rintro e w' ⟨N, rfl, h⟩
        exact ⟨⟨N, rfl⟩, h⟩
      by_cases h0 : s.size = 0
      · rw [zt6 s h0] at hr
        cases hr
        refine syn ?_
        have hs : s = ⟨#[]⟩ := by
          have h1 : s.data.size = 0 := h0
          cases s with
          | mk d => simp at h1; simp [h1]
        rw [hs]
        refine (Tryz.internal_strconv_ParseUint_empty 16 64 w).mono ?_
        rintro e w' ⟨rfl, rfl⟩
        exact ⟨rfl, Go.RowKit.Below.refl _ _⟩
      · rw [zpq s h0 h16] at hr
        have hp := ye9 Tryz.lays287 s h0 h16 w
        cases hx : hexN 0 s.data.toList with
        | ok u =>
          rw [hx] at hr hp; cases hr
          refine yg4 Tryz.laysPu14 s 16 u w (hp.mono ?_)
          rintro e w' ⟨rfl, rfl⟩
          exact ⟨rfl, hbw⟩
        | «syntax» =>
          rw [hx] at hr hp; cases hr
          refine syn (hp.mono ?_)
          rintro e w' ⟨rfl, rfl⟩
          exact ⟨rfl, hbw⟩
        | range => rw [hx] at hr; cases hr
theorem yci {G : Nat} (hG : 1 < G) (N : Nat) : zcq Tryz.prog G N known := by
  intro f args h v h' he σ g w cargs hs hm hv
  unfold known at he
  by_cases h1 : f = 104
  · subst h1
    rw [if_pos rfl] at he
    unfold zo7 at he
    split at he
    · rename_i s b E hg
      split at he
      · rename_i hc
        obtain ⟨hE, hlen⟩ := hc
        obtain ⟨x, y, z, rfl, hx, hy, hz⟩ := hv.three
        obtain rfl := hx.string_inv
        obtain rfl := hy.int_inv
        obtain rfl := hz.int_inv
        obtain ⟨vals, g0, gb, ga⟩ := hm.glob 1 hG
        have hg0 := hs _ _ g0
        rw [hg] at hg0
        cases hg0
        have ho := hm.obj _ _ g0
        obtain ⟨ev, hcell, hev⟩ : ∃ ev, w.cell? ⟨1, 0, none⟩ = some ev ∧ ∃ te pe, ev = .iface te pe := by
          cases ho with
          | ro _ hb hv h1 =>
            obtain ⟨c, hc, hr⟩ := hv 0 _ rfl
            rw [gb, ga] at hc
            exact ⟨c, hc, zzw hE hr⟩
        refine ⟨by kernel_rfl, ?_⟩
        cases hp : zdr b s with
        | none => rw [hp] at he; cases he
        | some r =>
          rw [hp] at he
          refine (zx1 b s hlen w ev hcell hev hp).mono ?_
          cases r with
          | some u =>
            cases he
            rintro e w' ⟨rfl, hb⟩
            exact ⟨_, rfl, Done.below hm hs hb (.tuple _ _ (.cons _ _ _ _ (.int _ _) (.cons _ _ _ _ .nilIface .nil)))⟩
          | none =>
            cases he
            rintro e w' ⟨⟨N, rfl⟩, hb⟩
            exact ⟨_, rfl, Done.below hm hs hb (.tuple _ _ (.cons _ _ _ _ (.int _ _) (.cons _ _ _ _ (.iface _ _ _ (.any _ _)) .nil)))⟩
      · cases he
    · cases he
  · rw [if_neg h1] at he
    exact zzj (by omega) N f args h v h' he σ g w cargs hs hm hv
end
end Go.Proofs.YtljdbheclfaloaaGreatDoor.AM
