/-
  AM, part 4: how the abstract machine's memory stands to the model's: which value reads as which, and how both go on together.
  Conditions: none.
-/
import Derived.Test.YtjjlbfamfioofaaDoorAm3
namespace Go.Proofs.YtjjlbfamfioofaaDoor.AM
open Go.RowKit

/-- Where an object lies: block, first place, cells of the block. -/
structure Seat where
  blk : Nat
  base : Nat
  size : Nat
abbrev Emb := Nat → Seat
/-- A memory that may have holes. -/
abbrev Mem := Nat → Option AObj

/-- What lies in one cell. -/
def single : Value → Bool
  | .agg _ | .tuple _ => false
  | _ => true

mutual
/-- The abstract value u reads as the model's value c. -/
inductive VR (σ : Emb) (g : Mem) : Value → Value → Prop
  | bool (b : Bool) : VR σ g (.bool b) (.bool b)
  | int (k : IntKind) (n : Int) : VR σ g (.int k n) (.int k n)
  | float (k : FloatKind) (n : Nat) : VR σ g (.float k n) (.float k n)
  | complex (k : FloatKind) (n m : Nat) : VR σ g (.complex k n m) (.complex k n m)
  | string (s : ByteArray) : VR σ g (.string s) (.string s)
  | nilPtr : VR σ g (.pointer none) (.pointer none)
  | ptr (p q : Addr) (v : Nat) (vals : List Value) (ver : Nat) (ro : Bool) (hv : p.spot = some v) (hg : g p.block = some (.cells vals ver ro)) (hle : v ≤ ver)
      (hq : v = ver → q = ⟨(σ p.block).blk, (σ p.block).base + p.off, none⟩) : VR σ g (.pointer (some p)) (.pointer (some q))
  | nilSlice : VR σ g (.slice none 0 0) (.slice none 0 0)
  | slice (p q : Addr) (n c cap : Nat) (v : Nat) (vals : List Value) (ver : Nat) (ro : Bool) (hv : p.spot = some v) (hg : g p.block = some (.cells vals ver ro)) (hle : v ≤ ver) (hn : n ≤ cap)
      (hq : v = ver → (q = ⟨(σ p.block).blk, (σ p.block).base + p.off, none⟩ ∧ (ro = false → (σ p.block).base + p.off + cap * c ≤ (σ p.block).size)) ∨ (n = 0 ∧ cap = 0)) :
      VR σ g (.slice (some p) n c) (.slice (some q) n cap)
  | nilMap : VR σ g (.map none) (.map none)
  | map (r s : Nat) (es : List (Value × Value)) (hg : g r = some (.map es)) (hs : s = (σ r).blk) : VR σ g (.map (some r)) (.map (some s))
  | nilChan : VR σ g (.chan none) (.chan none)
  | func (fn : Fn) (xs ys us vs : List Value) (h : VRs σ g xs ys) (h' : VRs σ g us vs) : VR σ g (.func fn ⟨xs⟩ ⟨us⟩) (.func fn ⟨ys⟩ ⟨vs⟩)
  | nilFunc : VR σ g .nilFunc .nilFunc
  | iface (t : TypeId) (u c : Value) (h : VR σ g u c) : VR σ g (.iface t u) (.iface t c)
  | nilIface : VR σ g .nilIface .nilIface
  | agg (xs ys : List Value) (h : VRs σ g xs ys) (h1 : ∀ x ∈ xs, single x = true) : VR σ g (.agg ⟨xs⟩) (.agg ⟨ys⟩)
  | tuple (xs ys : List Value) (h : VRs σ g xs ys) : VR σ g (.tuple ⟨xs⟩) (.tuple ⟨ys⟩)
inductive VRs (σ : Emb) (g : Mem) : List Value → List Value → Prop
  | nil : VRs σ g [] []
  | cons (u c : Value) (us cs : List Value) (h : VR σ g u c) (hs : VRs σ g us cs) : VRs σ g (u :: us) (c :: cs)
end

variable {σ σ' : Emb} {g g' : Mem}

theorem VRs.length {us cs : List Value} : VRs σ g us cs → us.length = cs.length
  | .nil => rfl
  | .cons _ _ _ _ _ hs => by simp [VRs.length hs]
theorem VRs.get {us cs : List Value} : VRs σ g us cs → ∀ {i : Nat} {u : Value}, us[i]? = some u → ∃ c, cs[i]? = some c ∧ VR σ g u c
  | .nil, _, _, h => by simp at h
  | .cons u c us cs h hs, i, x, hi => by
    cases i with
    | zero => simp at hi; subst hi; exact ⟨c, by simp, h⟩
    | succ i => simp only [List.getElem?_cons_succ] at hi ⊢; exact VRs.get hs hi
theorem VRs.get' {us cs : List Value} : VRs σ g us cs → ∀ {i : Nat} {c : Value}, cs[i]? = some c → ∃ u, us[i]? = some u ∧ VR σ g u c
  | .nil, _, _, h => by simp at h
  | .cons u c us cs h hs, i, x, hi => by
    cases i with
    | zero => simp at hi; subst hi; exact ⟨u, by simp, h⟩
    | succ i => simp only [List.getElem?_cons_succ] at hi ⊢; exact VRs.get' hs hi
theorem VRs.of_get : ∀ {us cs : List Value}, us.length = cs.length → (∀ (i : Nat) (u c : Value), us[i]? = some u → cs[i]? = some c → VR σ g u c) → VRs σ g us cs
  | [], [], _, _ => .nil
  | u :: us, c :: cs, hl, h => .cons _ _ _ _ (h 0 u c (by simp) (by simp)) (VRs.of_get (by simpa using hl) fun i x y hx hy => h (i + 1) x y (by simpa using hx) (by simpa using hy))
  | [], c :: cs, hl, _ => by simp at hl
  | u :: us, [], hl, _ => by simp at hl
theorem VRs.append {us cs us' cs' : List Value} : VRs σ g us cs → VRs σ g us' cs' → VRs σ g (us ++ us') (cs ++ cs')
  | .nil, h => h
  | .cons _ _ _ _ h hs, h' => .cons _ _ _ _ h (hs.append h')
theorem VRs.drop {us cs : List Value} (h : VRs σ g us cs) (n : Nat) : VRs σ g (us.drop n) (cs.drop n) :=
  .of_get (by simp [h.length]) fun i u c hu hc => by
    rw [List.getElem?_drop] at hu hc
    obtain ⟨c', hc', hv⟩ := h.get hu
    rw [hc] at hc'; cases hc'; exact hv
theorem VRs.take {us cs : List Value} (h : VRs σ g us cs) (n : Nat) : VRs σ g (us.take n) (cs.take n) :=
  .of_get (by simp [h.length]) fun i u c hu hc => by
    rw [List.getElem?_take] at hu hc
    split at hu
    · rename_i hi
      rw [if_pos hi] at hc
      obtain ⟨c', hc', hv⟩ := h.get hu
      rw [hc] at hc'; cases hc'; exact hv
    · cases hu
theorem VRs.set {us cs : List Value} (h : VRs σ g us cs) (i : Nat) {u c : Value} (hv : VR σ g u c) : VRs σ g (us.set i u) (cs.set i c) :=
  .of_get (by simp [h.length]) fun j x y hx hy => by
    rw [List.getElem?_set] at hx hy
    by_cases hij : i = j
    · subst hij
      have hl := h.length
      by_cases hlt : i < us.length
      · rw [if_pos rfl, if_pos hlt] at hx; rw [if_pos rfl, if_pos (by omega)] at hy
        cases hx; cases hy; exact hv
      · rw [if_pos rfl, if_neg hlt] at hx; cases hx
    · rw [if_neg hij] at hx hy
      obtain ⟨c', hc', hv⟩ := h.get hx
      rw [hy] at hc'; cases hc'; exact hv
theorem VRs.getD {us cs : List Value} (h : VRs σ g us cs) (i : Nat) : VR σ g (us.getD i undef) (cs.getD i undef) := by
  cases hu : us[i]? with
  | none =>
    have : cs[i]? = none := by
      rw [List.getElem?_eq_none_iff] at hu ⊢; rw [← h.length]; exact hu
    rw [List.getD_eq_getElem?_getD, List.getD_eq_getElem?_getD, hu, this]
    exact .tuple [] [] .nil
  | some u =>
    obtain ⟨c, hc, hv⟩ := h.get hu
    rw [List.getD_eq_getElem?_getD, List.getD_eq_getElem?_getD, hu, hc]; exact hv
theorem VRs.replicate {u c : Value} (h : VR σ g u c) : ∀ n : Nat, VRs σ g (List.replicate n u) (List.replicate n c)
  | 0 => .nil
  | n + 1 => .cons _ _ _ _ h (VRs.replicate h n)
theorem VRs.map {α : Type} {f f' : α → Value} : ∀ (l : List α), (∀ x ∈ l, VR σ g (f x) (f' x)) → VRs σ g (l.map f) (l.map f')
  | [], _ => .nil
  | x :: l, h => .cons _ _ _ _ (h x (by simp)) (VRs.map l fun y hy => h y (by simp [hy]))

theorem VR.single {u c : Value} (h : VR σ g u c) : single c = single u := by cases h <;> rfl
theorem VR.plain1 {u : Value} (h : plain1 u = true) : VR σ g u u := by
  unfold AM.plain1 at h
  split at h <;> first | (constructor; done) | cases h
theorem single_of_plain1 {u : Value} (h : AM.plain1 u = true) : AM.single u = true := by
  unfold AM.plain1 at h
  split at h <;> first | rfl | cases h
theorem VRs.plain1 : ∀ {us : List Value}, us.all AM.plain1 = true → VRs σ g us us
  | [], _ => .nil
  | u :: us, h => by
    simp only [List.all_cons, Bool.and_eq_true] at h
    exact .cons _ _ _ _ (.plain1 h.1) (VRs.plain1 h.2)
theorem VR.plain {u : Value} (h : plain u = true) : VR σ g u u := by
  unfold AM.plain at h
  split at h
  · rename_i cs
    obtain ⟨l⟩ := cs
    refine .agg l l (.plain1 h) fun x hx => single_of_plain1 (List.all_eq_true.1 h x hx)
  · exact .plain1 h
theorem VRs.plain : ∀ {us : List Value}, us.all AM.plain = true → VRs σ g us us
  | [], _ => .nil
  | u :: us, h => by
    simp only [List.all_cons, Bool.and_eq_true] at h
    exact .cons _ _ _ _ (.plain h.1) (VRs.plain h.2)
theorem VR.flat {u : Value} (h : flat u = true) : VR σ g u u := by
  unfold AM.flat at h
  split at h
  · rename_i cs
    obtain ⟨l⟩ := cs
    exact .tuple l l (.plain h)
  · exact .plain h

/-- What was there goes on: no object is lost; one that was not moved lies where it lay. -/
structure Ext (σ : Emb) (g : Mem) (σ' : Emb) (g' : Mem) : Prop where
  cells : ∀ i vals ver ro, g i = some (.cells vals ver ro) → ∃ vals' ver', g' i = some (.cells vals' ver' ro) ∧ ver ≤ ver' ∧ (ver = ver' → σ' i = σ i)
  map : ∀ i es, g i = some (.map es) → ∃ es', g' i = some (.map es') ∧ σ' i = σ i
theorem Ext.refl (σ : Emb) (g : Mem) : Ext σ g σ g := ⟨fun _ vals ver _ h => ⟨vals, ver, h, Nat.le_refl _, fun _ => rfl⟩, fun _ es h => ⟨es, h, rfl⟩⟩
theorem Ext.trans {σ₁ σ₂ σ₃ : Emb} {g₁ g₂ g₃ : Mem} (h : Ext σ₁ g₁ σ₂ g₂) (h' : Ext σ₂ g₂ σ₃ g₃) : Ext σ₁ g₁ σ₃ g₃ := by
  constructor
  · intro i vals ver ro hi
    obtain ⟨vals', ver', h1, h2, h3⟩ := h.cells i vals ver ro hi
    obtain ⟨vals'', ver'', h1', h2', h3'⟩ := h'.cells i vals' ver' ro h1
    exact ⟨vals'', ver'', h1', Nat.le_trans h2 h2', fun e => by rw [h3' (by omega), h3 (by omega)]⟩
  · intro i es hi
    obtain ⟨es', h1, h2⟩ := h.map i es hi
    obtain ⟨es'', h1', h2'⟩ := h'.map i es' h1
    exact ⟨es'', h1', by rw [h2', h2]⟩

mutual
theorem VR.ext (he : Ext σ g σ' g') {u c : Value} : VR σ g u c → VR σ' g' u c
  | .bool b => .bool b
  | .int k n => .int k n
  | .float k n => .float k n
  | .complex k n m => .complex k n m
  | .string s => .string s
  | .nilPtr => .nilPtr
  | .ptr p q v vals ver ro hv hg hle hq => by
    obtain ⟨vals', ver', h1, h2, h3⟩ := he.cells _ _ _ _ hg
    refine .ptr p q v vals' ver' ro hv h1 (Nat.le_trans hle h2) fun e => ?_
    rw [h3 (by omega)]; exact hq (by omega)
  | .nilSlice => .nilSlice
  | .slice p q n c cap v vals ver ro hv hg hle hn hq => by
    obtain ⟨vals', ver', h1, h2, h3⟩ := he.cells _ _ _ _ hg
    refine .slice p q n c cap v vals' ver' ro hv h1 (Nat.le_trans hle h2) hn fun e => ?_
    rw [h3 (by omega)]; exact hq (by omega)
  | .nilMap => .nilMap
  | .map r s es hg hs => by
    obtain ⟨es', h1, h2⟩ := he.map _ _ hg
    exact .map r s es' h1 (by rw [h2]; exact hs)
  | .nilChan => .nilChan
  | .func fn xs ys us vs h h' => .func fn xs ys us vs (VRs.ext he h) (VRs.ext he h')
  | .nilFunc => .nilFunc
  | .iface t u c h => .iface t u c (VR.ext he h)
  | .nilIface => .nilIface
  | .agg xs ys h h1 => .agg xs ys (VRs.ext he h) h1
  | .tuple xs ys h => .tuple xs ys (VRs.ext he h)
theorem VRs.ext (he : Ext σ g σ' g') {us cs : List Value} : VRs σ g us cs → VRs σ' g' us cs
  | .nil => .nil
  | .cons u c us cs h hs => .cons u c us cs (VR.ext he h) (VRs.ext he hs)
end

/-- A key of a map, and what it stands for. -/
structure EntryR (σ : Emb) (g : Mem) (e : Value × Value) (m : MapEntry) : Prop where
  key : m.key = e.1
  plain : plain1 e.1 = true
  val : VR σ g e.2 m.val
inductive EntriesR (σ : Emb) (g : Mem) : List (Value × Value) → List MapEntry → Prop
  | nil : EntriesR σ g [] []
  | cons (e : Value × Value) (m : MapEntry) (es : List (Value × Value)) (ms : List MapEntry) (h : EntryR σ g e m) (hs : EntriesR σ g es ms) : EntriesR σ g (e :: es) (m :: ms)
theorem EntriesR.ext (he : Ext σ g σ' g') {es : List (Value × Value)} {ms : List MapEntry} (h : EntriesR σ g es ms) : EntriesR σ' g' es ms := by
  induction h with
  | nil => exact .nil
  | cons e m es ms h _ ih => exact .cons _ _ _ _ ⟨h.key, h.plain, h.val.ext he⟩ ih

/-- One object, and where it lies. N: the blocks from there on are the run's own. -/
inductive ObjR (N : Nat) (σ : Emb) (g : Mem) (w : World) (s : Seat) : AObj → Prop
  | own (vals cs : List Value) (ver : Nat) (el : TypeId) (hb : N ≤ s.blk) (h0 : s.base = 0) (hw : w.heap[s.blk]? = some (.cells ⟨cs⟩ el (0, 0))) (hs : s.size = cs.length)
      (hv : VRs σ g vals (cs.take vals.length)) (hl : vals.length ≤ cs.length) (h1 : ∀ x ∈ vals, single x = true) : ObjR N σ g w s (.cells vals ver false)
  | ro (vals : List Value) (hb : s.blk < N)
      (hv : ∀ i u, vals[i]? = some u → ∃ c, w.cell? ⟨s.blk, s.base + i, none⟩ = some c ∧ VR σ g u c) (h1 : ∀ x ∈ vals, single x = true) : ObjR N σ g w s (.cells vals 0 true)
  | map (es : List (Value × Value)) (ms : List MapEntry) (clock : Nat) (hb : N ≤ s.blk) (hw : w.heap[s.blk]? = some (.map ⟨ms⟩ clock)) (he : EntriesR σ g es ms) : ObjR N σ g w s (.map es)

def owns : AObj → Bool
  | .cells _ _ ro => !ro
  | .map _ => true
  | .gone => false
/-- The block is one of the memory's own. -/
def Owned (σ : Emb) (g : Mem) (b : Nat) : Prop := ∃ i o, g i = some o ∧ owns o = true ∧ (σ i).blk = b
/-- The abstract memory g and the model's world, below G the package's variables. -/
structure MR (G N : Nat) (σ : Emb) (g : Mem) (w : World) : Prop where
  obj : ∀ i o, g i = some o → ObjR N σ g w (σ i) o
  inj : ∀ i j o p, g i = some o → g j = some p → owns o = true → owns p = true → (σ i).blk = (σ j).blk → i = j
  glob : ∀ i, i < G → ∃ vals, g i = some (.cells vals 0 true) ∧ (σ i).blk = i ∧ (σ i).base = 0
  size : N ≤ w.heap.size
/-- A step of both: what was there goes on, what isn't owned is as it was. -/
structure Go (N : Nat) (σ : Emb) (g : Mem) (w : World) (σ' : Emb) (g' : Mem) (w' : World) : Prop where
  ext : Ext σ g σ' g'
  size : w.heap.size ≤ w'.heap.size
  os : w'.os = w.os
  tape : w'.tape = w.tape
  output : w'.output = w.output
  rest : ∀ b, b < w.heap.size → ¬ Owned σ g b → w'.heap[b]? = w.heap[b]?
  own : ∀ b, Owned σ' g' b → Owned σ g b ∨ w.heap.size ≤ b
theorem Go.refl (N : Nat) (σ : Emb) (g : Mem) (w : World) : Go N σ g w σ g w := ⟨.refl _ _, Nat.le_refl _, rfl, rfl, rfl, fun _ _ _ => rfl, fun _ h => .inl h⟩
theorem Go.trans {N : Nat} {σ₁ σ₂ σ₃ : Emb} {g₁ g₂ g₃ : Mem} {w₁ w₂ w₃ : World} (h : Go N σ₁ g₁ w₁ σ₂ g₂ w₂) (h' : Go N σ₂ g₂ w₂ σ₃ g₃ w₃) : Go N σ₁ g₁ w₁ σ₃ g₃ w₃ := by
  refine ⟨h.ext.trans h'.ext, Nat.le_trans h.size h'.size, h'.os.trans h.os, h'.tape.trans h.tape, h'.output.trans h.output, fun b hb hn => ?_, fun b hb => ?_⟩
  · rw [h'.rest b (Nat.lt_of_lt_of_le hb h.size) (fun ho => (h.own b ho).elim hn (fun hge => by omega)), h.rest b hb hn]
  · rcases h'.own b hb with ho | hge
    · exact h.own b ho
    · exact .inr (Nat.le_trans h.size hge)
end Go.Proofs.YtjjlbfamfioofaaDoor.AM
