/-
  AM, part 2f: evaluation over a memory of which the first part is as it was: what is laid, stored, read behind it; rows by places; slices of one's own.
  Conditions: none.
-/
import Derived.Test.YtjjlbfamfioofaaDoorAm2e
namespace Go.Proofs.YtjjlbfamfioofaaDoor.AM
open Go.RowKit

/-- Places of which nothing was told. -/
def fillU : Nat → List Value
  | 0 => []
  | n + 1 => undef :: fillU n
theorem fillU_zero : fillU 0 = [] := rfl
theorem fillU_succ (n : Nat) : fillU (n + 1) = undef :: fillU n := rfl
theorem fillU_eq (n : Nat) : List.replicate n undef = fillU n := by
  induction n with
  | zero => rfl
  | succ n ih => rw [List.replicate_succ, ih]; rfl
theorem fun_wpU {F : Funcs} {f : FuncId} {fn : AFunc} (hf : F f = some fn) {args : List Value} {h : Heap} {r : Option (Value × Heap)} (hb : WPD (D F fn.body ⟨args ++ fillU (fn.ntmps - args.length), h⟩) (retQ h fn.res r)) : DF F f args h = r := by
  refine fun_wp hf ?_
  rw [fillU_eq]; exact hb
/-- The same, of what is only told in part. -/
def retE (h : Heap) (res : List ARes) (R : Value → Heap → Prop) : AEx → St → Prop := fun x s => ∃ v h', endF h res (some (x, s)) = some (v, h') ∧ R v h'
theorem fun_wpE {F : Funcs} {f : FuncId} {fn : AFunc} (hf : F f = some fn) {args : List Value} {h : Heap} {R : Value → Heap → Prop} (hb : WPD (D F fn.body ⟨args ++ fillU (fn.ntmps - args.length), h⟩) (retE h fn.res R)) : ∃ v h', DF F f args h = some (v, h') ∧ R v h' := by
  rw [DF_eq hf]
  obtain ⟨x, s, hd, v, h', he, hr⟩ := hb
  rw [fillU_eq, hd]
  exact ⟨v, h', he, hr⟩

section
variable {call : Caller} (ρ : Operand → Value) (h L : Heap) (a : AObj) (i o : Nat) (v : Option Nat)
theorem O_alloc (z : List Value) : evOp call ρ h (.alloc z) = some (.pointer (some ⟨h.length, 0, some 0⟩), h ++ [.cells z 0 false]) := rfl
def boxO (h : Heap) (n : Nat) : Option (List Value) → Option (Value × Heap)
  | some l => if l.length = n then some (.pointer (some ⟨h.length, 0, some 0⟩), h ++ [.cells l 0 false]) else none
  | none => none
theorem O_box (n : Nat) (x : Operand) : evOp call ρ h (.box n x) = boxO h n (laid (ρ x)) := by
  simp only [evOp]; cases laid (ρ x) <;> rfl
def arrO (h : Heap) (len size : Nat) : Value → Value → Option (Value × Heap)
  | .pointer (some p), .int _ k => if 0 ≤ k ∧ k < len then some (.pointer (some { p with off := p.off + k.toNat * size }), h) else none
  | _, _ => none
theorem O_atArr (len size : Nat) (x i : Operand) : evOp call ρ h (.atArr len size x i) = arrO h len size (ρ x) (ρ i) := by
  simp only [evOp]; generalize ρ x = x; generalize ρ i = y
  cases x with
  | pointer p => cases p <;> cases y <;> rfl
  | _ => rfl
theorem arr_some {len size : Nat} {b o : Nat} {s : Option Nat} {kk : IntKind} {k : Int} (h0 : 0 ≤ k) (h1 : k < len) : arrO h len size (.pointer (some ⟨b, o, s⟩)) (.int kk k) = some (.pointer (some ⟨b, o + k.toNat * size, s⟩), h) := by
  simp only [arrO]; rw [if_pos ⟨h0, h1⟩]
def offO (h : Heap) (n : Nat) : Value → Option (Value × Heap)
  | .pointer (some p) => some (.pointer (some { p with off := p.off + n }), h)
  | _ => none
theorem O_off (n : Nat) (x : Operand) : evOp call ρ h (.off n x) = offO h n (ρ x) := by
  simp only [evOp]; generalize ρ x = x
  cases x with
  | pointer p => cases p <;> rfl
  | _ => rfl
theorem off_ptr (n b o : Nat) (s : Option Nat) : offO h n (.pointer (some ⟨b, o, s⟩)) = some (.pointer (some ⟨b, o + n, s⟩), h) := rfl
def fieldO (h : Heap) (n i : Nat) : Value → Option (Value × Heap)
  | .agg cs => if i + n ≤ cs.size then some (agg ((cs.toList.drop i).take n), h) else none
  | _ => none
theorem O_field (n i : Nat) (x : Operand) : evOp call ρ h (.field n i x) = fieldO h n i (ρ x) := by
  simp only [evOp]; generalize ρ x = x; cases x <;> rfl
theorem field_agg {n i : Nat} {l : List Value} (hl : i + n ≤ l.length) : fieldO h n i (agg l) = some (agg ((l.drop i).take n), h) := by
  simp [fieldO, agg, hl]
def field1O (h : Heap) (i : Nat) : Value → Option (Value × Heap)
  | .agg cs => pairO h cs.toList[i]?
  | _ => none
theorem O_field1 (i : Nat) (x : Operand) : evOp call ρ h (.field1 i x) = field1O h i (ρ x) := by
  simp only [evOp]; generalize ρ x = x
  cases x with
  | agg cs => simp only [field1O]; cases cs.toList[i]? <;> rfl
  | _ => rfl
theorem field1_agg (i : Nat) (l : List Value) : field1O h i (agg l) = pairO h l[i]? := by simp [field1O, agg]
theorem pair_some (x : Value) : pairO h (some x) = some (x, h) := rfl
def extractO (h : Heap) (i : Nat) : Value → Option (Value × Heap)
  | .tuple cs => pairO h cs.toList[i]?
  | _ => none
theorem O_extract (i : Nat) (x : Operand) : evOp call ρ h (.extract x i) = extractO h i (ρ x) := by
  simp only [evOp]; generalize ρ x = x
  cases x with
  | tuple cs => simp only [extractO]; cases cs.toList[i]? <;> rfl
  | _ => rfl
theorem extract_tup (i : Nat) (l : List Value) : extractO h i (tup l) = pairO h l[i]? := by simp [extractO, tup]
def wroteO : Option Heap → Option (Value × Heap)
  | some h' => some (undef, h')
  | none => none
theorem wrote_some (h' : Heap) : wroteO (some h') = some (undef, h') := rfl
def store1O (h : Heap) : Value → Value → Option (Value × Heap)
  | .pointer (some p), v => match v with
    | .agg _ => none
    | .tuple _ => none
    | v => wroteO (h.write1 p v)
  | _, _ => none
theorem O_store1 (a x : Operand) : evOp call ρ h (.store1 a x) = store1O h (ρ a) (ρ x) := by
  simp only [evOp]; generalize ρ a = a; generalize ρ x = x
  cases a with
  | pointer p =>
    cases p with
    | none => rfl
    | some p => cases x <;> first | rfl | (simp only [store1O]; cases Heap.write1 h p _ <;> rfl)
  | _ => rfl
theorem store1_int (p : Addr) (k : IntKind) (n : Int) : store1O h (.pointer (some p)) (.int k n) = wroteO (h.write1 p (.int k n)) := rfl
theorem store1_bool (p : Addr) (b : Bool) : store1O h (.pointer (some p)) (.bool b) = wroteO (h.write1 p (.bool b)) := rfl
theorem store1_string (p : Addr) (s : ByteArray) : store1O h (.pointer (some p)) (.string s) = wroteO (h.write1 p (.string s)) := rfl
theorem store1_slice (p : Addr) (q : Option Addr) (n c : Nat) : store1O h (.pointer (some p)) (.slice q n c) = wroteO (h.write1 p (.slice q n c)) := rfl
theorem store1_ptr (p : Addr) (q : Option Addr) : store1O h (.pointer (some p)) (.pointer q) = wroteO (h.write1 p (.pointer q)) := rfl
theorem store1_func (p : Addr) (f : Fn) (x y : Array Value) : store1O h (.pointer (some p)) (.func f x y) = wroteO (h.write1 p (.func f x y)) := rfl
theorem store1_nilFunc (p : Addr) : store1O h (.pointer (some p)) .nilFunc = wroteO (h.write1 p .nilFunc) := rfl
theorem store1_map (p : Addr) (m : Option Nat) : store1O h (.pointer (some p)) (.map m) = wroteO (h.write1 p (.map m)) := rfl
def storeO (h : Heap) (n : Nat) : Value → Value → Option (Value × Heap)
  | .pointer (some p), .agg cs => if cs.size = n then wroteO (h.write p cs.toList) else none
  | _, _ => none
theorem O_store (n : Nat) (a x : Operand) : evOp call ρ h (.store n a x) = storeO h n (ρ a) (ρ x) := by
  simp only [evOp]; generalize ρ a = a; generalize ρ x = x
  cases a with
  | pointer p =>
    cases p with
    | none => cases x <;> rfl
    | some p =>
      cases x with
      | agg cs =>
        simp only [storeO]
        split
        · cases Heap.write h p cs.toList <;> rfl
        · rfl
      | _ => rfl
  | _ => rfl
theorem store_agg {n : Nat} {p : Addr} {l : List Value} (hl : l.length = n) : storeO h n (.pointer (some p)) (agg l) = wroteO (h.write p l) := by
  simp [storeO, agg, hl]
def nilCheckO (h : Heap) : Value → Option (Value × Heap)
  | .pointer (some p) => some (.pointer (some p), h)
  | .func (.func f) a b => some (.func (.func f) a b, h)
  | _ => none
theorem O_nilCheck (x : Operand) : evOp call ρ h (.nilCheck x) = nilCheckO h (ρ x) := by
  simp only [evOp]; generalize ρ x = x
  cases x with
  | pointer p => cases p <;> rfl
  | func f a b => cases f <;> rfl
  | _ => rfl
theorem nilCheck_ptr (p : Addr) : nilCheckO h (.pointer (some p)) = some (.pointer (some p), h) := rfl
theorem nilCheck_func (f : FuncId) (x y : Array Value) : nilCheckO h (.func (.func f) x y) = some (.func (.func f) x y, h) := rfl

/-! Where something lies. -/
theorem read1_skip : Heap.read1 (h ++ L) ⟨h.length + i, o, v⟩ = Heap.read1 L ⟨i, o, v⟩ := by
  unfold Heap.read1; simp only; rw [List.getElem?_append_right (by omega), Nat.add_sub_cancel_left]
theorem read1_skip0 : Heap.read1 (h ++ L) ⟨h.length, o, v⟩ = Heap.read1 L ⟨0, o, v⟩ := read1_skip h L 0 o v
theorem read1_next : Heap.read1 (a :: L) ⟨i + 1, o, v⟩ = Heap.read1 L ⟨i, o, v⟩ := rfl
theorem read1_there (l : List Value) (n : Nat) (ro : Bool) : Heap.read1 (.cells l n ro :: L) ⟨0, o, some n⟩ = l[o]? := by simp [Heap.read1]
theorem read_skip (n : Nat) : Heap.read (h ++ L) ⟨h.length + i, o, v⟩ n = Heap.read L ⟨i, o, v⟩ n := by
  unfold Heap.read; simp only; rw [List.getElem?_append_right (by omega), Nat.add_sub_cancel_left]
theorem read_skip0 (n : Nat) : Heap.read (h ++ L) ⟨h.length, o, v⟩ n = Heap.read L ⟨0, o, v⟩ n := read_skip h L 0 o v n
theorem read_next (n : Nat) : Heap.read (a :: L) ⟨i + 1, o, v⟩ n = Heap.read L ⟨i, o, v⟩ n := rfl
theorem read_there {l : List Value} (n m : Nat) (ro : Bool) (hl : l.length = m) : Heap.read (.cells l n ro :: L) ⟨0, 0, some n⟩ m = some l := by
  simp [Heap.read, hl]; rw [← hl]; simp
def preO (h : Heap) : Option Heap → Option Heap
  | some L => some (h ++ L)
  | none => none
theorem pre_some : preO h (some L) = some (h ++ L) := rfl
def consO (a : AObj) : Option Heap → Option Heap
  | some L => some (a :: L)
  | none => none
theorem cons_some : consO a (some L) = some (a :: L) := rfl
theorem set_skip (x : AObj) : (h ++ L).set (h.length + i) x = h ++ L.set i x := by
  rw [List.set_append_right _ _ (by omega), Nat.add_sub_cancel_left]
theorem write1_skip (y : Value) : Heap.write1 (h ++ L) ⟨h.length + i, o, v⟩ y = preO h (Heap.write1 L ⟨i, o, v⟩ y) := by
  unfold Heap.write1; simp only; rw [List.getElem?_append_right (by omega), Nat.add_sub_cancel_left]
  cases L[i]? with
  | none => rfl
  | some ob =>
    cases ob with
    | cells vals ver ro =>
      cases ro with
      | true => rfl
      | false =>
        simp only
        split
        · rw [set_skip]; rfl
        · rfl
    | _ => rfl
theorem write1_skip0 (y : Value) : Heap.write1 (h ++ L) ⟨h.length, o, v⟩ y = preO h (Heap.write1 L ⟨0, o, v⟩ y) := write1_skip h L 0 o v y
theorem write1_next (y : Value) : Heap.write1 (a :: L) ⟨i + 1, o, v⟩ y = consO a (Heap.write1 L ⟨i, o, v⟩ y) := by
  unfold Heap.write1; simp only [List.getElem?_cons_succ, List.set_cons_succ]
  cases L[i]? with
  | none => rfl
  | some ob =>
    cases ob with
    | cells vals ver ro =>
      cases ro with
      | true => rfl
      | false => simp only; split <;> rfl
    | _ => rfl
theorem write1_there {l : List Value} (n : Nat) (y : Value) {o : Nat} (ho : o < l.length) : Heap.write1 (.cells l n false :: L) ⟨0, o, some n⟩ y = some (.cells (l.set o y) n false :: L) := by
  simp [Heap.write1, ho]
theorem write_skip (ys : List Value) : Heap.write (h ++ L) ⟨h.length + i, o, v⟩ ys = preO h (Heap.write L ⟨i, o, v⟩ ys) := by
  unfold Heap.write; simp only; rw [List.getElem?_append_right (by omega), Nat.add_sub_cancel_left]
  cases L[i]? with
  | none => rfl
  | some ob =>
    cases ob with
    | cells vals ver ro =>
      cases ro with
      | true => rfl
      | false =>
        simp only
        split
        · rw [set_skip]; rfl
        · rfl
    | _ => rfl
theorem write_skip0 (ys : List Value) : Heap.write (h ++ L) ⟨h.length, o, v⟩ ys = preO h (Heap.write L ⟨0, o, v⟩ ys) := write_skip h L 0 o v ys
theorem write_next (ys : List Value) : Heap.write (a :: L) ⟨i + 1, o, v⟩ ys = consO a (Heap.write L ⟨i, o, v⟩ ys) := by
  unfold Heap.write; simp only [List.getElem?_cons_succ, List.set_cons_succ]
  cases L[i]? with
  | none => rfl
  | some ob =>
    cases ob with
    | cells vals ver ro =>
      cases ro with
      | true => rfl
      | false => simp only; split <;> rfl
    | _ => rfl
theorem write_there {l : List Value} (n : Nat) {ys : List Value} (hl : l.length = ys.length) : Heap.write (.cells l n false :: L) ⟨0, 0, some n⟩ ys = some (.cells ys n false :: L) := by
  simp [Heap.write, hl, splice]
/-- What was read is read with more behind. -/
theorem read1_more {h : Heap} {p : Addr} {x : Value} (e : h.read1 p = some x) (more : Heap) : Heap.read1 (h ++ more) p = some x := by
  unfold Heap.read1 at e ⊢
  split at e
  · rename_i vals ver ro hb
    rw [List.getElem?_append_left (List.getElem?_eq_some_iff.1 hb).1, hb]; exact e
  · cases e
/-! Ends. -/
theorem end_two (h h' : Heap) (i j : Nat) (t : List Value) : endF h [.tmp i, .tmp j] (some (.ret, ⟨t, h'⟩)) = some (tup [t.getD i undef, t.getD j undef], finish h (tup [t.getD i undef, t.getD j undef]) h') := rfl
theorem end_three (h h' : Heap) (i j k : Nat) (t : List Value) : endF h [.tmp i, .tmp j, .tmp k] (some (.ret, ⟨t, h'⟩)) = some (tup [t.getD i undef, t.getD j undef, t.getD k undef], finish h (tup [t.getD i undef, t.getD j undef, t.getD k undef]) h') := rfl
theorem end_one (h h' : Heap) (i : Nat) (t : List Value) : endF h [.tmp i] (some (.ret, ⟨t, h'⟩)) = some (t.getD i undef, finish h (t.getD i undef) h') := rfl
theorem finish_same (v : Value) : finish h v h = h := by unfold finish; split <;> rfl
theorem finish_flat {v : Value} (hf : flat v = true) : finish h v (h ++ L) = h := by unfold finish; simp [hf]
theorem finish_not {v : Value} (hf : flat v = false) (h' : Heap) : finish h v h' = h' := by unfold finish; simp [hf]
/-- Of whatever answer. -/
theorem finish_any (v : Value) : finish h v (h ++ L) = h ++ L ∨ (finish h v (h ++ L) = h ∧ flat v = true) := by
  cases hf : flat v
  · exact .inl (finish_not h hf _)
  · exact .inr ⟨finish_flat h L hf, rfl⟩
theorem Q_cells {h L : Heap} {i n : Nat} {t : List Value} {r : Option (Value × Heap)} {p : Addr} {l : List Value} (hp : t.getD i undef = .pointer (some p)) (hr : Heap.read (h ++ L) p n = some l) (hf : l.all plain1 = true) :
    retQ h [.cells i n] r .ret ⟨t, h ++ L⟩ = (some (agg l, h) = r) := by
  simp only [retQ, endF, aResults, aRes, hp, hr, Option.map_some]
  rw [finish_flat]
  simp [flat, plain, agg, hf]
theorem E_cells {h L : Heap} {i n : Nat} {t : List Value} {p : Addr} {l : List Value} (hp : t.getD i undef = .pointer (some p)) (hr : Heap.read (h ++ L) p n = some l) (hf : l.all plain1 = true) :
    endF h [.cells i n] (some (.ret, ⟨t, h ++ L⟩)) = some (agg l, h) := by
  simp only [endF, aResults, aRes, hp, hr, Option.map_some]
  rw [finish_flat]
  simp [flat, plain, agg, hf]
end

/-- A row by its places. -/
def rowOf {α : Type} (n : Nat) (f : Nat → α) : List α := (List.range n).map f
section
variable {α : Type} {n : Nat} {f g : Nat → α}
theorem rowOf_len (n : Nat) (f : Nat → α) : (rowOf n f).length = n := by rw [rowOf, List.length_map, List.length_range]
theorem rowOf_get {k : Nat} (hk : k < n) : (rowOf n f)[k]? = some (f k) := by rw [rowOf, List.getElem?_map, List.getElem?_range hk]; rfl
theorem rowOf_congr (h : ∀ k, k < n → f k = g k) : rowOf n f = rowOf n g := by
  unfold rowOf; apply List.map_congr_left; intro k hk; exact h k (by simpa using hk)
theorem rowOf_set {k : Nat} (v : α) : (rowOf n f).set k v = rowOf n (fun i => if i = k then v else f i) := by
  apply List.ext_getElem?
  intro i
  rw [List.getElem?_set]
  by_cases hi : i < n
  · rw [rowOf_get (f := f) hi, rowOf_get hi]
    by_cases h : k = i
    · subst h; rw [if_pos rfl, if_pos (by rw [rowOf_len]; exact hi), if_pos rfl]
    · rw [if_neg h, if_neg (fun e => h e.symm)]
  · rw [List.getElem?_eq_none (by rw [rowOf_len]; omega), List.getElem?_eq_none (by rw [rowOf_len]; omega)]
    by_cases h : k = i
    · rw [if_pos h, if_neg (by rw [rowOf_len]; omega)]
    · rw [if_neg h]
theorem rowOf_rep (n : Nat) (v : α) : List.replicate n v = rowOf n (fun _ => v) := by
  apply List.ext_getElem?
  intro i
  by_cases hi : i < n
  · rw [rowOf_get hi, List.getElem?_replicate, if_pos hi]
  · rw [List.getElem?_eq_none (by rw [List.length_replicate]; omega), List.getElem?_eq_none (by rw [rowOf_len]; omega)]
theorem rowOf_inj (h : rowOf n f = rowOf n g) {k : Nat} (hk : k < n) : f k = g k := by
  have := congrArg (·[k]?) h
  simp only [rowOf_get hk] at this
  exact Option.some.inj this
theorem rowOf_all (p : α → Bool) (h : ∀ k, k < n → p (f k) = true) : (rowOf n f).all p = true := by
  rw [List.all_eq_true]; intro x hx
  simp [rowOf] at hx
  obtain ⟨k, hk, rfl⟩ := hx
  exact h k hk
end

section
variable (h : Heap)
/-- Appending to a row that lies just behind what was there. -/
theorem append_there {L : Heap} {size bytes m n ver : Nat} {vals ys : List Value} (hl : vals.length = m * size) (hr : (m + n) * bytes ≤ roomFor) :
    appendTo (h ++ AObj.cells vals ver false :: L) size bytes (.slice (some ⟨h.length, 0, some ver⟩) m size) (some (ys, n)) = some (.slice (some ⟨h.length, 0, some (ver + 1)⟩) (m + n) size, h ++ AObj.cells (vals ++ ys) (ver + 1) false :: L) := by
  unfold appendTo
  simp only
  rw [List.getElem?_append_right (Nat.le_refl _), Nat.sub_self]
  simp only [List.getElem?_cons_zero]
  rw [if_pos ⟨trivial, trivial, trivial, by omega, hr⟩, List.take_of_length_le (by omega)]
  have e := set_skip h (AObj.cells vals ver false :: L) 0 (AObj.cells (vals ++ ys) (ver + 1) false)
  rw [Nat.add_zero] at e
  rw [e]; rfl
theorem src_there {L : Heap} {size n ver : Nat} {l : List Value} {ro : Bool} (hl : l.length = n * size) : srcOf (h ++ AObj.cells l ver ro :: L) size (.slice (some ⟨h.length, 0, some ver⟩) n size) = some (l, n) := by
  rw [src_some]; rw [read_skip0, read_there _ _ _ _ hl]
theorem src_there1 {a : AObj} {L : Heap} {size n ver : Nat} {l : List Value} {ro : Bool} (hl : l.length = n * size) : srcOf (h ++ a :: AObj.cells l ver ro :: L) size (.slice (some ⟨h.length + 1, 0, some ver⟩) n size) = some (l, n) := by
  rw [src_some]; rw [read_skip]; exact read_there L ver _ ro hl
end

section
variable (h : Heap)
theorem bound_none (d : Nat) : bound none d = some d := rfl
theorem bound_int {k : IntKind} {n : Int} (h0 : 0 ≤ n) (d : Nat) : bound (some (.int k n)) d = some n.toNat := by simp [bound, h0]
theorem bound_nat (k : IntKind) (n : Nat) (d : Nat) : bound (some (.int k (n : Int))) d = some n := by simp [bound]
theorem cut_some {size b o n l k : Nat} {s : Option Nat} {lo hi : Option Value} (hl : bound lo 0 = some l) (hk : bound hi n = some k) (h1 : l ≤ k) (h2 : k ≤ n) :
    cutO h size lo hi (.slice (some ⟨b, o, s⟩) n size) = some (.slice (some ⟨b, o + l * size, s⟩) (k - l) size, h) := by
  simp only [cutO, hl, hk]
  rw [if_pos ⟨trivial, h1, h2⟩]
theorem cut_to {size b o n k : Nat} {s : Option Nat} (kk : IntKind) (h1 : k ≤ n) : cutO h size none (some (.int kk (k : Int))) (.slice (some ⟨b, o, s⟩) n size) = some (.slice (some ⟨b, o, s⟩) k size, h) := by
  rw [cut_some h (bound_none 0) (bound_nat kk k n) (Nat.zero_le _) h1]; simp
theorem cut_from {size b o n l : Nat} {s : Option Nat} (kk : IntKind) (h1 : l ≤ n) : cutO h size (some (.int kk (l : Int))) none (.slice (some ⟨b, o, s⟩) n size) = some (.slice (some ⟨b, o + l * size, s⟩) (n - l) size, h) :=
  cut_some h (bound_nat kk l 0) (bound_none n) h1 (Nat.le_refl _)
theorem cut_mid {size b o n l k : Nat} {s : Option Nat} (kk kj : IntKind) (h1 : l ≤ k) (h2 : k ≤ n) : cutO h size (some (.int kk (l : Int))) (some (.int kj (k : Int))) (.slice (some ⟨b, o, s⟩) n size) = some (.slice (some ⟨b, o + l * size, s⟩) (k - l) size, h) :=
  cut_some h (bound_nat kk l 0) (bound_nat kj k n) h1 h2
theorem cut_all {size b o n : Nat} {s : Option Nat} : cutO h size none none (.slice (some ⟨b, o, s⟩) n size) = some (.slice (some ⟨b, o, s⟩) n size, h) := by
  rw [cut_some h (bound_none 0) (bound_none n) (Nat.zero_le _) (Nat.le_refl _)]; simp
end
end Go.Proofs.YtjjlbfamfioofaaDoor.AM
