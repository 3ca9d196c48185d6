/-
  AM, part 28: slices of one's own, grown element by element; bytes of a string; bits counted.
  Conditions: none.
-/
import Derived.Test.YtjjlbfamfioofaaDoorAm26
namespace Go.Proofs.YtjjlbfamfioofaaDoor.AM
open Go.RowKit
set_option linter.unusedSimpArgs false
set_option linter.unusedVariables false

/-- The object that a slice leads to. -/
def blk : Value → Option Nat
  | .slice (some p) _ _ => some p.block
  | _ => none
/-- A slice that lies in memory laid behind h, alone in its object. -/
def Own (h H : Heap) (s : Value) (c : Nat) (rows : List (List Value)) : Prop :=
  ((s = nils ∧ rows = []) ∨ ∃ b ver, h.length ≤ b ∧ s = .slice (some ⟨b, 0, some ver⟩) rows.length c ∧ H[b]? = some (.cells rows.flatten ver false)) ∧ ∀ r ∈ rows, r.length = c
section
variable {h H H' : Heap} {s : Value} {c : Nat} {rows : List (List Value)}
theorem Own.nil (h H : Heap) (c : Nat) : Own h H (.slice none 0 0) c [] := ⟨.inl ⟨rfl, rfl⟩, by simp⟩
theorem Own.sl (e : Own h H s c rows) : Sl H s c rows := by
  rcases e with ⟨⟨rfl, rfl⟩ | ⟨b, ver, hb, rfl, ho⟩, hc⟩
  · exact ⟨.inl ⟨rfl, rfl⟩, hc⟩
  · refine ⟨.inr ⟨b, 0, ver, rfl, ?_⟩, hc⟩
    unfold Heap.read
    simp only [ho]
    rw [if_pos ⟨trivial, by rw [flatten_length rows c hc]; omega⟩, List.drop_zero, List.take_of_length_le (by rw [flatten_length rows c hc]; exact Nat.le_refl _)]
theorem Own.keep (e : Own h H s c rows) (hk : ∀ i, blk s = some i → ∀ o, H[i]? = some o → H'[i]? = some o) : Own h H' s c rows := by
  rcases e with ⟨⟨rfl, rfl⟩ | ⟨b, ver, hb, rfl, ho⟩, hc⟩
  · exact ⟨.inl ⟨rfl, rfl⟩, hc⟩
  · exact ⟨.inr ⟨b, ver, hb, rfl, hk b rfl _ ho⟩, hc⟩
theorem Own.lt (e : Own h H s c rows) {i : Nat} (hi : blk s = some i) : h.length ≤ i ∧ i < H.length := by
  rcases e with ⟨⟨rfl, rfl⟩ | ⟨b, ver, hb, rfl, ho⟩, hc⟩
  · cases hi
  · cases hi; exact ⟨hb, (List.getElem?_eq_some_iff.1 ho).1⟩
theorem Own.more (e : Own h H s c rows) (L : Heap) : Own h (H ++ L) s c rows := e.keep fun i hi o ho => by rw [List.getElem?_append_left (e.lt hi).2]; exact ho
theorem Own.weak {h0 : Heap} (e : Own h H s c rows) (hl : h0.length ≤ h.length) : Own h0 H s c rows := by
  rcases e with ⟨⟨rfl, rfl⟩ | ⟨b, ver, hb, rfl, ho⟩, hc⟩
  · exact ⟨.inl ⟨rfl, rfl⟩, hc⟩
  · exact ⟨.inr ⟨b, ver, Nat.le_trans hl hb, rfl, ho⟩, hc⟩
theorem Own.len (e : Own h H s c rows) (H' : Heap) : lenO H' s = some (.int .i64 rows.length, H') := by
  rcases e with ⟨⟨rfl, rfl⟩ | ⟨b, ver, hb, rfl, ho⟩, hc⟩ <;> rfl
theorem Sl.keep (e : Sl H s c rows) (hk : ∀ i, blk s = some i → ∀ o, H[i]? = some o → H'[i]? = some o) : Sl H' s c rows := by
  rcases e with ⟨⟨rfl, rfl⟩ | ⟨b, o, v, rfl, hr⟩, hc⟩
  · exact ⟨.inl ⟨rfl, rfl⟩, hc⟩
  · refine ⟨.inr ⟨b, o, v, rfl, ?_⟩, hc⟩
    unfold Heap.read at hr ⊢
    simp only at hr ⊢
    split at hr
    · rename_i vals ver ro hb
      rw [hk b rfl _ hb]; exact hr
    · cases hr
theorem Sl.lt (e : Sl H s c rows) {i : Nat} (hi : blk s = some i) : i < H.length := by
  rcases e with ⟨⟨rfl, rfl⟩ | ⟨b, o, v, rfl, hr⟩, hc⟩
  · cases hi
  · cases hi
    unfold Heap.read at hr
    simp only at hr
    split at hr
    · rename_i vals ver ro hb; exact (List.getElem?_eq_some_iff.1 hb).1
    · cases hr
/-- What was there, not to be written any more. -/
def Pre (h H : Heap) : Prop := ∃ L, H = h ++ L
theorem Pre.refl (h : Heap) : Pre h h := ⟨[], by simp⟩
theorem Pre.more (e : Pre h H) (L : Heap) : Pre h (H ++ L) := by obtain ⟨K, rfl⟩ := e; exact ⟨K ++ L, by simp⟩
theorem Pre.trans {h0 : Heap} (e : Pre h0 h) (e' : Pre h H) : Pre h0 H := by obtain ⟨K, rfl⟩ := e; obtain ⟨M, rfl⟩ := e'; exact ⟨K ++ M, by simp⟩
theorem Pre.le (e : Pre h H) : h.length ≤ H.length := by obtain ⟨K, rfl⟩ := e; simp
theorem Pre.get (e : Pre h H) {i : Nat} (hi : i < h.length) : H[i]? = h[i]? := by obtain ⟨K, rfl⟩ := e; exact List.getElem?_append_left hi
theorem Pre.set (e : Pre h H) {i : Nat} (hi : h.length ≤ i) (o : AObj) : Pre h (H.set i o) := by
  obtain ⟨K, rfl⟩ := e; exact ⟨K.set (i - h.length) o, by rw [List.set_append_right _ _ hi]⟩
theorem Sl.pre (e : Sl h s c rows) (p : Pre h H) : Sl H s c rows := by obtain ⟨K, rfl⟩ := p; exact e.more K
theorem Sl.atH (e : Sl H s c rows) {k : Nat} (hk : k < rows.length) : ∃ b o v, (∀ H', rowO H' c s (.int .i64 (k : Int)) = some (.pointer (some ⟨b, o, some v⟩), H')) ∧ Heap.read H ⟨b, o, some v⟩ c = some rows[k] := by
  obtain ⟨b, o, v, h1, h2⟩ := e.at hk
  exact ⟨b, o, v, h1, by have := h2 []; rwa [List.append_nil] at this⟩

/-- Appending rows that lie elsewhere. -/
theorem Own.append (e : Own h H s c rows) (p : Pre h H) {ys : List Value} {rows' : List (List Value)} {bytes : Nat} (hy : ys = rows'.flatten) (hc' : ∀ r ∈ rows', r.length = c) (hroom : (rows.length + rows'.length) * bytes ≤ roomFor) :
    ∃ s' H', appendTo H c bytes s (some (ys, rows'.length)) = some (s', H') ∧ Own h H' s' c (rows ++ rows') ∧ Pre h H' ∧ H.length ≤ H'.length ∧
      (∀ i o, H[i]? = some o → blk s ≠ some i → H'[i]? = some o) ∧ (blk s' = blk s ∨ ∃ i, blk s' = some i ∧ H.length ≤ i) := by
  subst hy
  rcases e with ⟨⟨rfl, rfl⟩ | ⟨b, ver, hb, rfl, ho⟩, hc⟩
  · by_cases h0 : rows'.length = 0
    · have : rows' = [] := List.eq_nil_of_length_eq_zero h0
      subst this
      exact ⟨nils, H, rfl, ⟨.inl ⟨rfl, rfl⟩, by simp⟩, p, Nat.le_refl _, fun i o hi _ => hi, .inl rfl⟩
    · refine ⟨slc H.length 0 0 rows'.length c, H ++ [.cells rows'.flatten 0 false], ?_, ⟨.inr ⟨H.length, 0, p.le, rfl, by simp⟩, by simpa using hc'⟩, p.more _, by simp, fun i o hi _ => ?_, .inr ⟨_, rfl, Nat.le_refl _⟩⟩
      · simp only [appendTo, nils]
        rw [if_neg h0, if_pos (by simpa using hroom)]
      · rw [List.getElem?_append_left (List.getElem?_eq_some_iff.1 hi).1]; exact hi
  · have hlt := (List.getElem?_eq_some_iff.1 ho).1
    refine ⟨slc b 0 (ver + 1) (rows.length + rows'.length) c, H.set b (.cells (rows.flatten ++ rows'.flatten) (ver + 1) false), ?_, ⟨.inr ⟨b, ver + 1, hb, by rw [List.length_append]; rfl, ?_⟩, ?_⟩, p.set hb _, by simp, fun i o hi hne => ?_, .inl rfl⟩
    · simp only [appendTo, ho]
      rw [if_pos ⟨trivial, trivial, trivial, by rw [flatten_length rows c hc]; exact Nat.le_refl _, hroom⟩, List.take_of_length_le (by rw [flatten_length rows c hc]; exact Nat.le_refl _)]
    · rw [List.getElem?_set_self hlt, List.flatten_append]
    · intro r hr
      rcases List.mem_append.1 hr with hr | hr
      · exact hc r hr
      · exact hc' r hr
    · rw [List.getElem?_set_ne (by intro hbi; exact hne (by rw [hbi]; rfl))]; exact hi
/-- One element, just laid. -/
theorem Own.push (e : Own h H s c rows) (p : Pre h H) {row : List Value} {bytes : Nat} (hrow : row.length = c) (hroom : (rows.length + 1) * bytes ≤ roomFor) :
    ∃ s' H', appendTo (H ++ [.cells row 0 false]) c bytes s (srcOf (H ++ [.cells row 0 false]) c (.slice (some ⟨H.length, 0, some 0⟩) 1 c)) = some (s', H') ∧ Own h H' s' c (rows ++ [row]) ∧ Pre h H' ∧ H.length ≤ H'.length ∧
      (∀ i o, H[i]? = some o → blk s ≠ some i → H'[i]? = some o) ∧ (blk s' = blk s ∨ ∃ i, blk s' = some i ∧ H.length ≤ i) := by
  rw [src_there (L := []) H (by rw [hrow]; omega)]
  obtain ⟨s', H', h1, h2, h3, h4, h5, h6⟩ := Own.append (e.more [.cells row 0 false]) (p.more _) (ys := row) (rows' := [row]) (bytes := bytes) (by simp) (by simpa using hrow) (by simpa using hroom)
  refine ⟨s', H', h1, h2, h3, by simp at h4; omega, fun i o hi hne => h5 i o (by rw [List.getElem?_append_left (List.getElem?_eq_some_iff.1 hi).1]; exact hi) hne, ?_⟩
  rcases h6 with h6 | ⟨i, h6, h7⟩
  · exact .inl h6
  · exact .inr ⟨i, h6, by simp at h7; omega⟩
/-- At a function's end. -/
theorem Own.finish (e : Own h H s c rows) (p : Pre h H) : Own h (finish h s H) s c rows ∧ Pre h (finish h s H) := by
  obtain ⟨L, rfl⟩ := p
  rcases finish_any h L s with hf | ⟨hf, hfl⟩
  · rw [hf]; exact ⟨e, L, rfl⟩
  · rw [hf]
    rcases e with ⟨⟨rfl, rfl⟩ | ⟨b, ver, hb, rfl, ho⟩, hc⟩
    · exact ⟨⟨.inl ⟨rfl, rfl⟩, hc⟩, Pre.refl h⟩
    · cases hfl
end
theorem Q_retE (h H : Heap) (i : Nat) (t : List Value) (R : Value → Heap → Prop) : retE h [.tmp i] R .ret ⟨t, H⟩ = R (t.getD i undef) (finish h (t.getD i undef) H) := by
  unfold retE; rw [end_one]
  exact propext ⟨fun ⟨v, h', e, r⟩ => by cases e; exact r, fun r => ⟨_, _, rfl, r⟩⟩
theorem Q_retE2 (h H : Heap) (i j : Nat) (t : List Value) (R : Value → Heap → Prop) : retE h [.tmp i, .tmp j] R .ret ⟨t, H⟩ = R (tup [t.getD i undef, t.getD j undef]) (finish h (tup [t.getD i undef, t.getD j undef]) H) := by
  unfold retE; rw [end_two]
  exact propext ⟨fun ⟨v, h', e, r⟩ => by cases e; exact r, fun r => ⟨_, _, rfl, r⟩⟩
theorem Q_retE3 (h H : Heap) (i j k : Nat) (t : List Value) (R : Value → Heap → Prop) : retE h [.tmp i, .tmp j, .tmp k] R .ret ⟨t, H⟩ = R (tup [t.getD i undef, t.getD j undef, t.getD k undef]) (finish h (tup [t.getD i undef, t.getD j undef, t.getD k undef]) H) := by
  unfold retE; rw [end_three]
  exact propext ⟨fun ⟨v, h', e, r⟩ => by cases e; exact r, fun r => ⟨_, _, rfl, r⟩⟩

/-- How many of the first n. -/
def pop (f : Nat → Bool) : Nat → Nat
  | 0 => 0
  | n + 1 => pop f n + if f n then 1 else 0
theorem pop_le (f : Nat → Bool) (n : Nat) : pop f n ≤ n := by
  induction n with
  | zero => exact Nat.le_refl _
  | succ n ih => unfold pop; split <;> omega
theorem pop_congr {f g : Nat → Bool} {n : Nat} (h : ∀ k, k < n → f k = g k) : pop f n = pop g n := by
  induction n with
  | zero => rfl
  | succ n ih => unfold pop; rw [ih fun k hk => h k (by omega), h n (by omega)]
theorem pop_add (f : Nat → Bool) (n m : Nat) : pop f (n + m) = pop f n + pop (fun k => f (n + k)) m := by
  induction m with
  | zero => rfl
  | succ m ih =>
    show pop f (n + m) + (if f (n + m) then 1 else 0) = pop f n + (pop (fun k => f (n + k)) m + if f (n + m) then 1 else 0)
    rw [ih, Nat.add_assoc]
def idxO (h : Heap) : Value → Value → Option (Value × Heap)
  | .string s, .int _ k => if 0 ≤ k then (s.data.toList[k.toNat]?).map fun b => (.int .u8 b.toNat, h) else none
  | _, _ => none
theorem O_idxStr {call : Caller} (ρ : Operand → Value) (h : Heap) (x i : Operand) : evOp call ρ h (.idxStr x i) = idxO h (ρ x) (ρ i) := by
  simp only [evOp]; generalize ρ x = x; generalize ρ i = y
  cases x with
  | string s => cases y <;> rfl
  | _ => rfl
theorem idx_some {h : Heap} {s : ByteArray} {kk : IntKind} {k : Int} {b : UInt8} (h0 : 0 ≤ k) (hb : s.data.toList[k.toNat]? = some b) : idxO h (.string s) (.int kk k) = some (.int .u8 b.toNat, h) := by
  simp only [idxO]; rw [if_pos h0, hb]; rfl
def idxArrO (h : Heap) (len size : Nat) : Value → Value → Option (Value × Heap)
  | .agg cs, .int _ k => if 0 ≤ k ∧ k < len then pairO h cs.toList[k.toNat * size]? else none
  | _, _ => none
theorem O_idxArr {call : Caller} (ρ : Operand → Value) (h : Heap) (len size : Nat) (x i : Operand) : evOp call ρ h (.idxArr len size x i) = idxArrO h len size (ρ x) (ρ i) := by
  simp only [evOp]; generalize ρ x = x; generalize ρ i = y
  cases x with
  | agg cs =>
    cases y with
    | int kk k => simp only [idxArrO]; split
                  · cases cs.toList[k.toNat * size]? <;> rfl
                  · rfl
    | _ => rfl
  | _ => rfl
theorem idxArr_nat {h : Heap} {len size k : Nat} {kk : IntKind} {l : List Value} (hk : k < len) : idxArrO h len size (agg l) (.int kk (k : Int)) = pairO h l[k * size]? := by
  simp [idxArrO, agg, hk]
def maxO (h : Heap) : Value → Value → Option (Value × Heap)
  | .int k a, .int _ b => some (.int k (if a < b then b else a), h)
  | _, _ => none
theorem O_max2 {call : Caller} (ρ : Operand → Value) (h : Heap) (x i : Operand) : evOp call ρ h (.max2 x i) = maxO h (ρ x) (ρ i) := by
  simp only [evOp]; generalize ρ x = x; generalize ρ i = y
  cases x <;> cases y <;> rfl
theorem max_int (h : Heap) (k kk : IntKind) (a b : Int) : maxO h (.int k a) (.int kk b) = some (.int k (if a < b then b else a), h) := rfl
def minO (h : Heap) : Value → Value → Option (Value × Heap)
  | .int k a, .int _ b => some (.int k (if b < a then b else a), h)
  | _, _ => none
theorem O_min2 {call : Caller} (ρ : Operand → Value) (h : Heap) (x i : Operand) : evOp call ρ h (.min2 x i) = minO h (ρ x) (ρ i) := by
  simp only [evOp]; generalize ρ x = x; generalize ρ i = y
  cases x <;> cases y <;> rfl
theorem min_int (h : Heap) (k kk : IntKind) (a b : Int) : minO h (.int k a) (.int kk b) = some (.int k (if b < a then b else a), h) := rfl
def eqvO (h : Heap) : Option Bool → Bool → Option (Value × Heap)
  | some b, neg => some (.bool (b != neg), h)
  | none, _ => none
theorem O_eqv {call : Caller} (ρ : Operand → Value) (h : Heap) (neg : Bool) (k : EqK) (x y : Operand) : evOp call ρ h (.eqv neg k x y) = eqvO h (leafEq k (ρ x) (ρ y)) neg := by
  simp only [evOp]; cases leafEq k (ρ x) (ρ y) <;> rfl
theorem eqv_some (h : Heap) (b neg : Bool) : eqvO h (some b) neg = some (.bool (b != neg), h) := rfl
theorem eqv_bool (h : Heap) (x y neg : Bool) : eqvO h (leafEq .bool (.bool x) (.bool y)) neg = some (.bool ((x == y) != neg), h) := rfl
theorem Q_pre {h H : Heap} (p : Pre h H) (i : Nat) (t : List Value) (r : Option (Value × Heap)) (hf : flat (t.getD i undef) = true) : retQ h [.tmp i] r .ret ⟨t, H⟩ = (some (t.getD i undef, h) = r) := by
  obtain ⟨L, rfl⟩ := p; exact Q_more h L i t r hf
end Go.Proofs.YtjjlbfamfioofaaDoor.AM
