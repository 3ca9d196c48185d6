/-
  Part 5.
  Conditions: as each says.
-/
import Derived.Test.YtljdbheclfaloaaGreatDoorKr4
namespace Go.Proofs.YtljdbheclfaloaaGreatDoor.AM
open Go.RowKit
set_option linter.unusedSimpArgs false
set_option linter.unusedVariables false
set_option maxRecDepth 20000
abbrev Bys := List UInt8
inductive Op1 | plus | star | maybe | inv
  deriving DecidableEq
inductive Op2 | or | and | minus | seq | cross
  deriving DecidableEq
inductive Ex
  | name (s : Bool) (a : Nat) (w : Bys)
  | zero (a : Nat)
  | par (s : Bool) (a : Nat) (e : Ex)
  | box (a : Nat) (e : Ex)
  | un (o : Op1) (e : Ex)
  | bin (s : Bool) (o : Op2) (l r : Ex)
def Ex.pl : Ex → Nat
  | .name _ a _ => a
  | .zero a => a
  | .par _ a _ => a
  | .box a _ => a
  | .un _ e => e.pl
  | .bin _ _ l _ => l.pl
def Ex.set : Ex → Bool
  | .name s _ _ => s
  | .par s _ _ => s
  | .bin s _ _ _ => s
  | _ => false
def keyT (t : Tok) : Bys := if t.kind = 2 then [] else t.text
def wLet : Bys := [108, 101, 116]
def wRec : Bys := [114, 101, 99]
def wAnd : Bys := [97, 110, 100]
def p8 : Bys := [97, 99, 121, 99, 108, 105, 99]
def wIrr : Bys := [105, 114, 114, 101, 102, 108, 101, 120, 105, 118, 101]
def zdw : Bys := [101, 109, 112, 116, 121]
def wAs : Bys := [97, 115]
def kwL : List Bys := [wLet, wRec, wAnd, p8, wIrr, zdw, wAs]
def za9 (t : Tok) : Bool := t.kind == 1 && !kwL.contains t.text
def zbz : List Tok → Bool
  | [] => false
  | t :: _ => t.kind == 2 || (za9 t || (keyT t == [40] || keyT t == [91]))
inductive PR (α : Type)
  | ok (x : α) (r : List Tok)
  | bad (c a : Nat)
def orM (k : Bys) : Option Op2 := if k == [124] then some .or else none
def andM (k : Bys) : Option Op2 := if k == [38] then some .and else if k == [92] then some .minus else none
def seqM (k : Bys) : Option Op2 := if k == [59] then some .seq else none
def binL (part : List Tok → PR Ex) (m : Bys → Option Op2) : Nat → Ex → List Tok → PR Ex
  | 0, n, ts => .ok n ts
  | _ + 1, n, [] => .ok n []
  | k + 1, n, t :: r => match m (keyT t) with
    | none => .ok n (t :: r)
    | some o => match part r with
      | .ok x r' => binL part m k (.bin false o n x) r'
      | .bad c a => .bad c a
def zbx (part : List Tok → PR Ex) (m : Bys → Option Op2) (ts : List Tok) : PR Ex := match part ts with
  | .ok n r => binL part m r.length n r
  | .bad c a => .bad c a
def inv3 (e : Nat) (f : List Tok → PR Ex) : List Tok → PR Ex
  | [] => .bad 24 e
  | t :: r => if t.kind == 2 && t.n == 1 then f r else .bad 22 t.at_
def inv2 (e : Nat) (f : List Tok → PR Ex) : List Tok → PR Ex
  | [] => .bad 24 e
  | t :: r => if keyT t == [45] then inv3 e f r else .bad 22 t.at_
def pu (e : Nat) : Nat → Ex → List Tok → PR Ex
  | 0, n, ts => .ok n ts
  | _ + 1, n, [] => .ok n []
  | k + 1, n, t :: r => if keyT t == [43] then pu e k (.un .plus n) r
    else if keyT t == [63] then pu e k (.un .maybe n) r
    else if keyT t == [42] && !zbz r then pu e k (.un .star n) r
    else if keyT t == [94] then inv2 e (fun r3 => pu e k (.un .inv n) r3) r
    else .ok n (t :: r)
def zpa (e : Nat) (prim : List Tok → PR Ex) (ts : List Tok) : PR Ex := match prim ts with
  | .ok n r => pu e r.length n r
  | .bad c a => .bad c a
def zmg (post : List Tok → PR Ex) (ts : List Tok) : PR Ex := match post ts with
  | .ok n [] => .ok n []
  | .ok n (t :: r) => if keyT t == [42] then match post r with
      | .ok m r2 => .ok (.bin false .cross n m) r2
      | .bad c a => .bad c a
    else .ok n (t :: r)
  | .bad c a => .bad c a
def zlu (e : Nat) (cl : Bys) (n : Ex) : List Tok → PR Ex
  | [] => .bad 24 e
  | t :: r => if keyT t == cl then .ok n r else .bad 22 t.at_
def brP (e : Nat) (cl : Bys) (mk : Ex → Ex) : PR Ex → PR Ex
  | .bad c a => .bad c a
  | .ok n r => zlu e cl (mk n) r
def brkP (e : Nat) (t : Tok) (r : List Tok) : Option (List Tok → PR Ex) → PR Ex
  | none => .bad 2 t.at_
  | some f => if keyT t == [40] then brP e [41] (.par false t.at_) (f r) else brP e [93] (.box t.at_) (f r)
def zkc (e : Nat) (inner : Option (List Tok → PR Ex)) : List Tok → PR Ex
  | [] => .bad 24 e
  | t :: r => if keyT t == [40] || keyT t == [91] then brkP e t r inner
    else if t.kind == 2 && t.n == 0 then .ok (.zero t.at_) r
    else if za9 t then .ok (.name false t.at_ t.text) r
    else .bad 22 t.at_
def zvk (e : Nat) (prim : List Tok → PR Ex) : List Tok → PR Ex := zbx (zbx (zbx (zmg (zpa e prim)) seqM) andM) orM
def zfm (e : Nat) : Nat → List Tok → PR Ex
  | 0 => zvk e (zkc e none)
  | d + 1 => zvk e (zkc e (some (zfm e d)))
def zfd (e : Nat) : List Tok → PR (Bys × Nat)
  | [] => .bad 24 e
  | t :: r => if za9 t then .ok (t.text, t.at_) r else .bad 22 t.at_
def eatP (e : Nat) (m : Bys) : List Tok → PR Unit
  | [] => .bad 24 e
  | t :: r => if keyT t == m then .ok () r else .bad 22 t.at_
structure Gv where
  name : Bys
  at_ : Nat
  e : Ex
inductive Ck | acyclic | irr | empty
  deriving DecidableEq
inductive Stm
  | lets (rc : Bool) (gs : List Gv)
  | chk (k : Ck) (x : Ex) (as_ : Bys)
def zg9 (e : Nat) (ts : List Tok) : PR Gv := match zfd e ts with
  | .bad c a => .bad c a
  | .ok w r => match eatP e [61] r with
    | .bad c a => .bad c a
    | .ok _ r1 => match zfm e 32 r1 with
      | .bad c a => .bad c a
      | .ok x r2 => .ok ⟨w.1, w.2, x⟩ r2
def fm (e : Nat) : Nat → List Tok → PR (List Gv)
  | 0, ts => .ok [] ts
  | k + 1, ts => match zg9 e ts with
    | .bad c a => .bad c a
    | .ok g [] => .ok [g] []
    | .ok g (t :: r) => if keyT t == wAnd then match fm e k r with
        | .bad c a => .bad c a
        | .ok gs r2 => .ok (g :: gs) r2
      else .ok [g] (t :: r)
def zii (e : Nat) (rc : Bool) (ts : List Tok) : PR Stm := match fm e (ts.length + 1) ts with
  | .bad c a => .bad c a
  | .ok gs r => .ok (.lets rc gs) r
def zco (e : Nat) (k : Ck) (ts : List Tok) : PR Stm := match zfm e 32 ts with
  | .bad c a => .bad c a
  | .ok x [] => .ok (.chk k x []) []
  | .ok x (t :: r) => if keyT t == wAs then match zfd e r with
      | .bad c a => .bad c a
      | .ok w r2 => .ok (.chk k x w.1) r2
    else .ok (.chk k x []) (t :: r)
def letP (e : Nat) : List Tok → PR Stm
  | [] => zii e false []
  | t :: r => if keyT t == wRec then zii e true r else zii e false (t :: r)
def ze1 (e : Nat) : List Tok → PR Stm
  | [] => .bad 24 e
  | t :: r => if keyT t == wLet then letP e r
    else if keyT t == p8 then zco e .acyclic r
    else if keyT t == wIrr then zco e .irr r
    else if keyT t == zdw then zco e .empty r
    else .bad 22 t.at_
def kf (e : Nat) : Nat → List Tok → PR (List Stm)
  | 0, ts => .ok [] ts
  | _ + 1, [] => .ok [] []
  | k + 1, t :: r => match ze1 e (t :: r) with
    | .bad c a => .bad c a
    | .ok s r => match kf e k r with
      | .bad c a => .bad c a
      | .ok l r2 => .ok (s :: l) r2
def znx (e : Nat) (ts : List Tok) : PR (List Stm) := kf e ts.length ts
abbrev Kn := List (Bys × Bool)
def ji (kn : Kn) (w : Bys) : Option Bool := match kn with
  | [] => none
  | (v, s) :: r => if w == v then some s else ji r w
inductive CR (α : Type)
  | ok (x : α)
  | bad (c a : Nat)
def chkE (kn : Kn) (rc : List Bys) : Bool → Ex → CR Ex
  | rt, .name _ a w => match ji kn w with
    | none => .bad 40 a
    | some s => if rt && rc.contains w then .bad 43 a else .ok (.name s a w)
  | _, .zero a => .ok (.zero a)
  | rt, .par _ a e => match chkE kn rc rt e with
    | .bad c p => .bad c p
    | .ok e' => .ok (.par e'.set a e')
  | rt, .box a e => match chkE kn rc rt e with
    | .bad c p => .bad c p
    | .ok e' => if e'.set then .ok (.box a e') else .bad 41 e.pl
  | rt, .un o e => match chkE kn rc rt e with
    | .bad c p => .bad c p
    | .ok e' => if e'.set then .bad 41 e.pl else .ok (.un o e')
  | rt, .bin s o l r => match chkE kn rc rt l with
    | .bad c p => .bad c p
    | .ok l' => match chkE kn rc (rt || o == .minus) r with
      | .bad c p => .bad c p
      | .ok r' => match o with
        | .seq => if l'.set then .bad 41 l.pl else if r'.set then .bad 41 r.pl else .ok (.bin s o l' r')
        | .cross => if !l'.set then .bad 41 l.pl else if !r'.set then .bad 41 r.pl else .ok (.bin s o l' r')
        | _ => if r'.set != l'.set then .bad 41 r.pl else .ok (.bin l'.set o l' r')
def py (kn : Kn) : Nat → List Bys → List Gv → CR Unit
  | _, _, [] => .ok ()
  | n, here, g :: gs => if (ji kn g.name).isSome || here.contains g.name then .bad 42 g.at_
    else if 64 ≤ n then .bad 2 g.at_
    else py kn (n + 1) (here ++ [g.name]) gs
def zda (kn : Kn) (rc : List Bys) (rec_ : Bool) : List Gv → CR (List Gv)
  | [] => .ok []
  | g :: gs => match chkE kn rc false g.e with
    | .bad c a => .bad c a
    | .ok x => if rec_ && x.set then .bad 41 g.e.pl else match zda kn rc rec_ gs with
      | .bad c a => .bad c a
      | .ok l => .ok (⟨g.name, g.at_, x⟩ :: l)
def j8 (gs : List Gv) : Kn := gs.map fun g => (g.name, g.e.set)
def chkS (kn : Kn) (n : Nat) : Stm → CR Stm
  | .lets rec_ gs => match py kn n [] gs with
    | .bad c a => .bad c a
    | .ok _ => match zda (if rec_ then kn ++ gs.map fun g => (g.name, false) else kn) (if rec_ then gs.map (·.name) else []) rec_ gs with
      | .bad c a => .bad c a
      | .ok l => .ok (.lets rec_ l)
  | .chk k x as_ => match chkE kn [] false x with
    | .bad c a => .bad c a
    | .ok x' => if k != .empty && x'.set then .bad 41 x.pl else .ok (.chk k x' as_)
def Stm.given : Stm → Kn
  | .lets _ gs => j8 gs
  | .chk _ _ _ => []
def chkM (kn : Kn) (n : Nat) : List Stm → CR (List Stm)
  | [] => .ok []
  | s :: l => match chkS kn n s with
    | .bad c a => .bad c a
    | .ok s' => match chkM (kn ++ s'.given) (n + s'.given.length) l with
      | .bad c a => .bad c a
      | .ok l' => .ok (s' :: l')
def b7 (kn : Kn) : Kn → Kn
  | [] => kn
  | d :: r => b7 (if (ji kn d.1).isSome then kn else kn ++ [d]) r
structure Md where
  known : Kn
  l : List Stm
def zaj (text : Bys) (names : Kn) : CR Md := if 4096 < text.length then .bad 2 0 else match fi text 0 with
  | .bad c a => .bad c a
  | .ok ts => match znx text.length ts with
    | .bad c a => .bad c a
    | .ok l _ => match chkM (b7 [] names) 0 l with
      | .bad c a => .bad c a
      | .ok l' => .ok ⟨b7 [] names, l'⟩
/-- Nothing is lost. -/
def Kept (H H' : Heap) : Prop := ∀ (i : Nat) (o : AObj), H[i]? = some o → H'[i]? = some o
theorem Kept.more (H L : Heap) : Kept H (H ++ L) := fun i o h => by rw [List.getElem?_append_left (List.getElem?_eq_some_iff.1 h).1]; exact h
theorem Pre.kept {h H : Heap} (p : Pre h H) : Kept h H := by obtain ⟨L, rfl⟩ := p; exact Kept.more h L
section
variable {K : Heap} {b c j : Nat} {l : List Value} {o : AObj} {v : Option Nat}
theorem yb4 (h : (b = c) = False) : Heap.read1 (K.set b o) ⟨c, j, v⟩ = Heap.read1 K ⟨c, j, v⟩ := by
  unfold Heap.read1; simp only; rw [List.getElem?_set_ne (by rw [ne_eq, h]; exact not_false)]
theorem f5 {n : Nat} (hb : b < K.length) (hl : l.length = n) : Heap.read (K.set b (.cells l 0 false)) ⟨b, 0, some 0⟩ n = some l := by
  subst hl; simp [Heap.read, hb]
theorem zhk {x : Value} (hb : b < K.length) (hj : j < l.length) : Heap.write1 (K.set b (.cells l 0 false)) ⟨b, j, some 0⟩ x = some (K.set b (.cells (l.set j x) 0 false)) := by
  simp [Heap.write1, hb, hj]
theorem ph {x : Value} (e : K[b]? = some (.cells l 0 false)) (hj : j < l.length) : Heap.write1 K ⟨b, j, some 0⟩ x = some (K.set b (.cells (l.set j x) 0 false)) := by
  simp [Heap.write1, e, hj]
theorem zdi {xs : List Value} (e : K[b]? = some (.cells l 0 false)) (hl : l.length = xs.length) : Heap.write K ⟨b, 0, some 0⟩ xs = some (K.set b (.cells xs 0 false)) := by
  simp [Heap.write, e, hl, splice, List.drop_eq_nil_of_le (Nat.le_of_eq hl)]
theorem we (e : K[b]? = some (.cells l 0 false)) : Heap.read1 K ⟨b, j, some 0⟩ = l[j]? := by simp [Heap.read1, e]
theorem zj8 {n : Nat} (e : K[b]? = some (.cells l 0 false)) (hl : l.length = n) : Heap.read K ⟨b, 0, some 0⟩ n = some l := by
  subst hl; simp [Heap.read, e]
theorem ya0 (e : K[b]? = some o) : K.set b o = K := by
  apply List.ext_getElem?
  intro i
  by_cases h : b = i
  · subst h; rw [List.getElem?_set_self (List.getElem?_eq_some_iff.1 e).1, e]
  · rw [List.getElem?_set_ne h]
end
theorem zey (h H : Heap) (t : List Value) (R : Value → Heap → Prop) : retE h [] R .ret ⟨t, H⟩ = R (tup []) (AM.finish h (tup []) H) := by
  unfold retE
  apply propext
  constructor
  · rintro ⟨v, h', e, r⟩
    simp [endF, f8] at e
    obtain ⟨rfl, rfl⟩ := e; exact r
  · intro r; exact ⟨_, _, by simp [endF, f8], r⟩
theorem wn (h H : Heap) (t : List Value) (R : Value → Heap → Prop) : retE h [] R .normal ⟨t, H⟩ = R (tup []) (AM.finish h (tup []) H) := by
  unfold retE
  apply propext
  constructor
  · rintro ⟨v, h', e, r⟩
    simp [endF, f8] at e
    obtain ⟨rfl, rfl⟩ := e; exact r
  · intro r; exact ⟨_, _, by simp [endF, f8], r⟩
theorem ygi (h L : Heap) : AM.finish h (tup []) (h ++ L) = h := fv h L rfl
def zzm (R : Value → Heap → Prop) (h H : Heap) : Option (List Value) → Prop
  | some l => R (agg l) (finish h (agg l) H)
  | none => False
def zmb (R : Value → Heap → Prop) (h H : Heap) (n : Nat) : Value → Prop
  | .pointer (some p) => zzm R h H (H.read p n)
  | _ => False
theorem zav (h H : Heap) (i n : Nat) (t : List Value) (R : Value → Heap → Prop) : retE h [.cells i n] R .ret ⟨t, H⟩ = zmb R h H n (t.getD i undef) := by
  unfold retE
  apply propext
  simp only [endF, f8, aRes]
  generalize t.getD i undef = x
  cases x with
  | pointer p =>
    cases p with
    | none => simp [zmb]
    | some p =>
      simp only [zmb]
      cases hr : H.read p n with
      | none => simp [zzm]
      | some l =>
        simp only [zzm]
        constructor
        · rintro ⟨v, h', e, r⟩
          simp at e
          obtain ⟨rfl, rfl⟩ := e
          exact r
        · intro r
          exact ⟨_, _, by simp, r⟩
  | _ => simp [zmb]
theorem jo (R : Value → Heap → Prop) (h H : Heap) (n : Nat) (p : Addr) : zmb R h H n (.pointer (some p)) = zzm R h H (H.read p n) := rfl
theorem ko (R : Value → Heap → Prop) (h H : Heap) (l : List Value) : zzm R h H (some l) = R (agg l) (finish h (agg l) H) := rfl
theorem wo {l : List Value} {i : Nat} {s : List UInt8} (r : List (Nat × Nat × Value)) (hi : i < l.length) : w4 l ((i, 1, str s) :: r) = w4 (l.set i (str s)) r := zgw r hi rfl
theorem f6 {l : List Value} {i : Nat} {p : Option Addr} (r : List (Nat × Nat × Value)) (hi : i < l.length) : w4 l ((i, 1, .pointer p) :: r) = w4 (l.set i (.pointer p)) r := zgw r hi rfl
theorem zuf {l : List Value} {i : Nat} {p : Option Nat} (r : List (Nat × Nat × Value)) (hi : i < l.length) : w4 l ((i, 1, .map p) :: r) = w4 (l.set i (.map p)) r := zgw r hi rfl
abbrev pt (b : Nat) : Value := .pointer (some ⟨b, 0, some 0⟩)
def zrm (t : Tok) : Prop := (t.kind = 1 ∧ ∃ c l, t.text = c :: l ∧ (letV (c.toNat : Int) || (c.toNat : Int) == 95) = true) ∨ t.kind = 2 ∨ (t.kind = 3 ∧ ∃ c l, t.text = c :: l ∧ ybr c = true)
structure RP where
  r : Nat
  c : Nat
  en : Nat
  ws : Value
  cs : Value
  L : List Tok
  ne : r ≠ c
  wr : blk ws ≠ some r
  wc : blk ws ≠ some c
  cr : blk cs ≠ some r
  cc : blk cs ≠ some c
  ok : ∀ t ∈ L, zrm t
  len : L.length ≤ 8192
structure Rd (P : RP) (h : Heap) (i d x a : Nat) : Prop where
  hr : h[P.r]? = some (.cells [pt P.c, P.ws, .int .i64 (P.en : Int), .int .i64 (d : Int), .int .i64 (x : Int), .int .i64 (a : Int)] 0 false)
  hc : h[P.c]? = some (.cells [P.cs, .int .i64 (i : Int)] 0 false)
  sw : Sl h P.ws 4 (P.L.map vo)
  sc : Sl h P.cs 4 (P.L.map vo)
  le : i ≤ P.L.length
structure Mv (P : RP) (h h' : Heap) : Prop where
  keep : ∀ (b : Nat) (o : AObj), h[b]? = some o → b ≠ P.r → b ≠ P.c → h'[b]? = some o
  le : h.length ≤ h'.length
theorem Mv.refl (P : RP) (h : Heap) : Mv P h h := ⟨fun _ _ e _ _ => e, Nat.le_refl _⟩
theorem Mv.trans {P : RP} {h h' h'' : Heap} (a : Mv P h h') (b : Mv P h' h'') : Mv P h h'' := ⟨fun x o e n1 n2 => b.keep x o (a.keep x o e n1 n2) n1 n2, Nat.le_trans a.le b.le⟩
theorem Mv.more {P : RP} {h h' : Heap} (a : Mv P h h') (L : Heap) : Mv P h (h' ++ L) := a.trans ⟨fun x o e _ _ => Kept.more _ _ x o e, by simp⟩
theorem Mv.add (P : RP) (h L : Heap) : Mv P h (h ++ L) := (Mv.refl P h).more L
theorem xa {h : Heap} {b : Nat} {o : AObj} (L : Heap) (e : h[b]? = some o) : (h ++ L)[b]? = some o := Kept.more h L b o e
section
variable {P : RP} {h : Heap} {i d x a : Nat}
theorem Rd.more (e : Rd P h i d x a) (L : Heap) : Rd P (h ++ L) i d x a := ⟨xa L e.hr, xa L e.hc, e.sw.more L, e.sc.more L, e.le⟩
theorem Rd.r1 (e : Rd P h i d x a) (L : Heap) (j : Nat) : Heap.read1 (h ++ L) ⟨P.r, j, some 0⟩ = ([pt P.c, P.ws, .int .i64 (P.en : Int), .int .i64 (d : Int), .int .i64 (x : Int), .int .i64 (a : Int)] : List Value)[j]? := we (xa L e.hr)
theorem Rd.r0 (e : Rd P h i d x a) (j : Nat) : Heap.read1 h ⟨P.r, j, some 0⟩ = ([pt P.c, P.ws, .int .i64 (P.en : Int), .int .i64 (d : Int), .int .i64 (x : Int), .int .i64 (a : Int)] : List Value)[j]? := we e.hr
theorem Rd.c1 (e : Rd P h i d x a) (L : Heap) (j : Nat) : Heap.read1 (h ++ L) ⟨P.c, j, some 0⟩ = ([P.cs, .int .i64 (i : Int)] : List Value)[j]? := we (xa L e.hc)
theorem Rd.c0 (e : Rd P h i d x a) (j : Nat) : Heap.read1 h ⟨P.c, j, some 0⟩ = ([P.cs, .int .i64 (i : Int)] : List Value)[j]? := we e.hc
theorem Rd.cl (e : Rd P h i d x a) (K : Heap) : lenO K P.cs = some (.int .i64 (P.L.length : Int), K) := by rw [e.sc.len, List.length_map]
theorem Rd.wl (e : Rd P h i d x a) (K : Heap) : lenO K P.ws = some (.int .i64 (P.L.length : Int), K) := by rw [e.sw.len, List.length_map]
theorem Rd.lr (e : Rd P h i d x a) : P.r < h.length := (List.getElem?_eq_some_iff.1 e.hr).1
theorem Rd.lc (e : Rd P h i d x a) : P.c < h.length := (List.getElem?_eq_some_iff.1 e.hc).1
theorem Rd.move {h' : Heap} {i' d' x' a' : Nat} (e : Rd P h i d x a) (m : Mv P h h')
    (hr : h'[P.r]? = some (.cells [pt P.c, P.ws, .int .i64 (P.en : Int), .int .i64 (d' : Int), .int .i64 (x' : Int), .int .i64 (a' : Int)] 0 false)) (hc : h'[P.c]? = some (.cells [P.cs, .int .i64 (i' : Int)] 0 false)) (hl : i' ≤ P.L.length) : Rd P h' i' d' x' a' :=
  ⟨hr, hc, e.sw.keep fun b hb o ho => m.keep b o ho (by rintro rfl; exact P.wr hb) (by rintro rfl; exact P.wc hb), e.sc.keep fun b hb o ho => m.keep b o ho (by rintro rfl; exact P.cr hb) (by rintro rfl; exact P.cc hb), hl⟩
theorem Rd.setC (e : Rd P h i d x a) {i' : Nat} (hl : i' ≤ P.L.length) : Rd P (h.set P.c (.cells [P.cs, .int .i64 (i' : Int)] 0 false)) i' d x a ∧ Mv P h (h.set P.c (.cells [P.cs, .int .i64 (i' : Int)] 0 false)) := by
  have m : Mv P h (h.set P.c (.cells [P.cs, .int .i64 (i' : Int)] 0 false)) := ⟨fun b o ho n1 n2 => by rw [List.getElem?_set_ne (Ne.symm n2)]; exact ho, by simp⟩
  exact ⟨e.move m (by rw [List.getElem?_set_ne (Ne.symm P.ne)]; exact e.hr) (by rw [List.getElem?_set_self e.lc]) hl, m⟩
theorem Rd.setR (e : Rd P h i d x a) (d' x' a' : Nat) : Rd P (h.set P.r (.cells [pt P.c, P.ws, .int .i64 (P.en : Int), .int .i64 (d' : Int), .int .i64 (x' : Int), .int .i64 (a' : Int)] 0 false)) i d' x' a' ∧ Mv P h (h.set P.r (.cells [pt P.c, P.ws, .int .i64 (P.en : Int), .int .i64 (d' : Int), .int .i64 (x' : Int), .int .i64 (a' : Int)] 0 false)) := by
  have m : Mv P h (h.set P.r (.cells [pt P.c, P.ws, .int .i64 (P.en : Int), .int .i64 (d' : Int), .int .i64 (x' : Int), .int .i64 (a' : Int)] 0 false)) := ⟨fun b o ho n1 n2 => by rw [List.getElem?_set_ne (Ne.symm n1)]; exact ho, by simp⟩
  exact ⟨e.move m (by rw [List.getElem?_set_self e.lr]) (by rw [List.getElem?_set_ne P.ne]; exact e.hc) e.le, m⟩
end
def zmj : Tok := ⟨0, [], 0, 0⟩
def y6 (P : RP) (i : Nat) : Tok := (P.L[i]?).getD zmj
theorem yfb {m n : Nat} (h : n ≤ m) (hm : m < 9223372036854775807) : IntKind.i64.wrap ((m : Int) - (n : Int)) = ((m - n : Nat) : Int) := by
  rw [zga (by unfold W; omega)]; omega
theorem ye5 {m n : Nat} (hm : m + n < 9223372036854775807) : IntKind.i64.wrap ((m : Int) + (n : Int)) = ((m + n : Nat) : Int) := by
  rw [zga (by unfold W; omega)]; omega
theorem xk (t : Tok) : (vo t).length = 4 := by simp [vo]
theorem vz (t : Tok) : (vo t)[0]? = some (.int .i64 (t.kind : Int)) := rfl
theorem jh (t : Tok) : (vo t)[1]? = some (str t.text) := rfl
theorem zej (t : Tok) : (vo t)[2]? = some (.int .i64 t.n) := rfl
theorem ztz (t : Tok) : (vo t)[3]? = some (.int .i64 (t.at_ : Int)) := rfl
theorem zrc (t : Tok) : (vo t).all plain1 = true := rfl
theorem zvf (h L : Heap) (t : Tok) : outE h (h ++ L) (some (vo t)) = some (agg (vo t), h) := znm h L (zrc t)
section
variable {P : RP} {h : Heap} {i d x a : Nat}
theorem zg3 (e : Rd P h i d x a) : DF FF jp [pt P.c] h = some (.int .i64 ((P.L.length - i : Nat) : Int), h) := by
  refine wh zif ?_
  have hl := P.len; have hi := e.le
  simp only [zdg, z7, xe, zb, z8, zn, zc, zo, zf, ze, zd, List.set_cons_succ, List.set_cons_zero, O_mv, yu, yg, j7, zz, zk, zr7, List.cons_append, List.nil_append, List.length_cons, List.length_nil, Nat.reduceSub, Nat.zero_add, zm, yb, za, zbt, xc, z6, zq, zj, zh, zg, Nat.add_zero, List.getElem?_cons_zero, List.getElem?_cons_succ, eq_self, e.c0, e.cl, yfb e.le (show P.L.length < 9223372036854775807 by omega)]
theorem Rd.tok (e : Rd P h i d x a) {k : Nat} (hk : k < P.L.length) : ∃ b o v, (∀ H', rowO H' 4 P.ws (.int .i64 (k : Int)) = some (.pointer (some ⟨b, o, some v⟩), H')) ∧ ∀ L, Heap.read (h ++ L) ⟨b, o, some v⟩ 4 = some (vo (y6 P k)) := by
  obtain ⟨b, o, v, h1, h2⟩ := e.sw.at (k := k) (by simpa using hk)
  refine ⟨b, o, v, h1, fun L => ?_⟩
  rw [h2 L]; simp [y6, List.getElem?_eq_getElem hk]
theorem Rd.tokc (e : Rd P h i d x a) {k : Nat} (hk : k < P.L.length) : ∃ b o v, (∀ H', rowO H' 4 P.cs (.int .i64 (k : Int)) = some (.pointer (some ⟨b, o, some v⟩), H')) ∧ ∀ L, Heap.read (h ++ L) ⟨b, o, some v⟩ 4 = some (vo (y6 P k)) := by
  obtain ⟨b, o, v, h1, h2⟩ := e.sc.at (k := k) (by simpa using hk)
  refine ⟨b, o, v, h1, fun L => ?_⟩
  rw [h2 L]; simp [y6, List.getElem?_eq_getElem hk]
theorem j3 {k : Nat} (hk : ¬ k < P.L.length) : y6 P k = zmj := by unfold y6; rw [List.getElem?_eq_none (by omega)]; rfl
theorem zjy (e : Rd P h i d x a) (k : Nat) (hk : k < 4) : DF FF qo [pt P.r, .int .i64 (k : Int)] h = some (agg (vo (y6 P (i + k))), h) := by
  refine wh zjt ?_
  have hl := P.len; have hi := e.le
  by_cases hlt : i + k < P.L.length
  · have c1 : (((P.L.length - i : Nat) : Int) ≤ (k : Int)) = False := by simp; omega
    obtain ⟨b, o, v, q1, q2⟩ := e.tok hlt
    have w2 : IntKind.i64.wrap ((P.L.length : Int) - ((P.L.length - i : Nat) : Int)) = (i : Int) := by rw [zga (by unfold W; omega)]; omega
    have w3 := ye5 (m := i) (n := k) (by omega)
    have ht : zmr P.ws = false := by rcases e.sw with ⟨⟨hn, _⟩ | ⟨_, _, _, hn, _⟩, _⟩ <;> rw [hn] <;> rfl
    have a1 : ∀ L, zb2 (h ++ L) (.pointer (some ⟨P.r, 1, some 0⟩)) P.ws = some (undef, h ++ L) := fun L => b6 (e.r1 L 1) ht
    simp only [zbf, z7, zr, xe, yl, zb, zu, z8, zn, zc, zp, zo, ze, zd, List.set_cons_succ, List.set_cons_zero, O_mv, yu, yg, yf, List.map_cons, List.map_nil, j7, vh, zz, zk, x7, y8, vj, zr7, zbb, List.cons_append, List.nil_append, List.length_cons, List.length_nil, Nat.reduceAdd, Nat.reduceSub, Nat.zero_add, zm, yb, za, y0, xc, z6, zl, y4, ya, zq, zj, xr, xh, yk, zy, zs, zh, zg, Nat.add_zero, Option.map_some, List.getElem?_cons_zero, List.getElem?_cons_succ, eq_self, zdb, yi, Option.map_some, gg, qj, zvf, decide_false, xk, e.r1, zg3 (e.more _), c1, decide_false, e.wl, w2, w3, q1, q2, a1]
  · have c1 : (((P.L.length - i : Nat) : Int) ≤ (k : Int)) = True := by simp; omega
    rw [j3 hlt]
    simp only [zbf, z7, zr, xe, zb, zw, z8, zn, zc, zp, zo, ze, zd, List.set_cons_succ, List.set_cons_zero, O_mv, yu, yg, yf, List.map_cons, List.map_nil, zz, zk, wg, y9, yc, yz, zbb, List.cons_append, List.nil_append, List.length_cons, List.length_nil, Nat.reduceAdd, Nat.reduceSub, Nat.zero_add, zm, yb, za, y5, y0, xc, z6, zl, y4, ya, zq, zj, xr, xh, yk, zy, zs, zh, zg, Nat.add_zero, List.getElem?_cons_zero, eq_self, yi, gg, qj, decide_true, e.r1, zg3 (e.more _), c1, decide_true]
    exact zvf h _ zmj
end
/-! Words are used up. -/
def Shr (f : List Tok → PR Ex) : Prop := ∀ ts x r, f ts = .ok x r → r.length < ts.length
theorem zuj {part : List Tok → PR Ex} {m : Bys → Option Op2} (hp : Shr part) : ∀ k n ts x r, binL part m k n ts = .ok x r → r.length ≤ ts.length
  | 0, n, ts, x, r, h => by rw [binL] at h; cases h; exact Nat.le_refl _
  | k + 1, n, [], x, r, h => by rw [binL] at h; cases h; exact Nat.le_refl _
  | k + 1, n, t :: ts, x, r, h => by
    rw [binL] at h
    split at h
    · cases h; exact Nat.le_refl _
    · split at h
      · rename_i x' r' hq
        have h1 := hp _ _ _ hq
        have h2 := zuj hp k _ _ _ _ h
        simp only [List.length_cons]; omega
      · cases h
theorem zlf {part : List Tok → PR Ex} {m : Bys → Option Op2} (hp : Shr part) : ∀ k k' n ts, ts.length ≤ k → ts.length ≤ k' → binL part m k n ts = binL part m k' n ts
  | 0, k', n, ts, h, h' => by
    have : ts = [] := List.eq_nil_of_length_eq_zero (by omega)
    subst this
    cases k' <;> rfl
  | k + 1, 0, n, ts, h, h' => by
    have : ts = [] := List.eq_nil_of_length_eq_zero (by omega)
    subst this; rfl
  | k + 1, k' + 1, n, [], h, h' => rfl
  | k + 1, k' + 1, n, t :: ts, h, h' => by
    rw [binL, binL]
    cases m (keyT t) with
    | none => rfl
    | some o =>
      cases hq : part ts with
      | ok x r =>
        have := hp _ _ _ hq
        simp only [List.length_cons] at h h'
        exact zlf hp k k' _ _ (by omega) (by omega)
      | bad c a => rfl
theorem fo {part : List Tok → PR Ex} {m : Bys → Option Op2} (hp : Shr part) : Shr (zbx part m) := by
  intro ts x r h
  unfold zbx at h
  split at h
  · rename_i n r1 hq
    have h1 := hp _ _ _ hq
    have h2 := zuj hp _ _ _ _ _ h
    omega
  · cases h
theorem yct {e : Nat} {f : List Tok → PR Ex} {ts r : List Tok} {x : Ex} (h : inv3 e f ts = .ok x r) : ∃ ts', ts'.length < ts.length ∧ f ts' = .ok x r := by
  cases ts with
  | nil => cases h
  | cons t ts =>
    rw [inv3] at h
    split at h
    · exact ⟨ts, by simp, h⟩
    · cases h
theorem ybl {e : Nat} {f : List Tok → PR Ex} {ts r : List Tok} {x : Ex} (h : inv2 e f ts = .ok x r) : ∃ ts', ts'.length < ts.length ∧ f ts' = .ok x r := by
  cases ts with
  | nil => cases h
  | cons t ts =>
    rw [inv2] at h
    split at h
    · obtain ⟨ts', h1, h2⟩ := yct h; exact ⟨ts', by simp; omega, h2⟩
    · cases h
theorem zv5 {e : Nat} {f g : List Tok → PR Ex} {ts : List Tok} (h : ∀ r, r.length < ts.length → f r = g r) : inv3 e f ts = inv3 e g ts := by
  cases ts with
  | nil => rfl
  | cons t ts => rw [inv3, inv3, h ts (by simp)]
theorem znf {e : Nat} {f g : List Tok → PR Ex} {ts : List Tok} (h : ∀ r, r.length < ts.length → f r = g r) : inv2 e f ts = inv2 e g ts := by
  cases ts with
  | nil => rfl
  | cons t ts => rw [inv2, inv2, zv5 fun r hr => h r (by simp; omega)]
theorem zgc (e : Nat) : ∀ k n ts x r, pu e k n ts = .ok x r → r.length ≤ ts.length
  | 0, n, ts, x, r, h => by rw [pu] at h; cases h; exact Nat.le_refl _
  | k + 1, n, [], x, r, h => by rw [pu] at h; cases h; exact Nat.le_refl _
  | k + 1, n, t :: ts, x, r, h => by
    rw [pu] at h
    split at h
    · have := zgc e k _ _ _ _ h; simp only [List.length_cons]; omega
    split at h
    · have := zgc e k _ _ _ _ h; simp only [List.length_cons]; omega
    split at h
    · have := zgc e k _ _ _ _ h; simp only [List.length_cons]; omega
    split at h
    · obtain ⟨ts', h1, h2⟩ := ybl h
      have := zgc e k _ _ _ _ h2; simp only [List.length_cons]; omega
    · cases h; exact Nat.le_refl _
theorem zck (e : Nat) : ∀ k k' n ts, ts.length ≤ k → ts.length ≤ k' → pu e k n ts = pu e k' n ts
  | 0, k', n, ts, h, h' => by
    have : ts = [] := List.eq_nil_of_length_eq_zero (by omega)
    subst this
    cases k' <;> rfl
  | k + 1, 0, n, ts, h, h' => by
    have : ts = [] := List.eq_nil_of_length_eq_zero (by omega)
    subst this; rfl
  | k + 1, k' + 1, n, [], h, h' => rfl
  | k + 1, k' + 1, n, t :: ts, h, h' => by
    simp only [List.length_cons] at h h'
    rw [pu, pu]
    rw [zck e k k' (.un .plus n) ts (by omega) (by omega), zck e k k' (.un .maybe n) ts (by omega) (by omega), zck e k k' (.un .star n) ts (by omega) (by omega), znf fun r hr => zck e k k' (.un .inv n) r (by omega) (by omega)]
theorem zbu {e : Nat} {prim : List Tok → PR Ex} (hp : Shr prim) : Shr (zpa e prim) := by
  intro ts x r h
  unfold zpa at h
  split at h
  · rename_i n r1 hq
    have h1 := hp _ _ _ hq
    have h2 := zgc e _ _ _ _ _ h
    omega
  · cases h
theorem zbs {post : List Tok → PR Ex} (hp : Shr post) : Shr (zmg post) := by
  intro ts x r h
  unfold zmg at h
  split at h
  · rename_i n hq
    cases h; exact hp _ _ _ hq
  · rename_i n t r1 hq
    have h1 := hp _ _ _ hq
    split at h
    · split at h
      · rename_i m r2 hq2
        have h2 := hp _ _ _ hq2
        cases h
        simp only [List.length_cons] at h1; omega
      · cases h
    · cases h; exact h1
  · cases h
theorem zyh {e : Nat} {cl : Bys} {mk : Ex → Ex} {R : PR Ex} {x : Ex} {r : List Tok} (h : brP e cl mk R = .ok x r) : ∃ n t, R = .ok n (t :: r) ∧ x = mk n ∧ keyT t == cl := by
  cases R with
  | bad c a => cases h
  | ok n r' =>
    rw [brP] at h
    cases r' with
    | nil => cases h
    | cons t r' =>
      rw [zlu] at h
      split at h
      · rename_i hk; cases h; exact ⟨n, t, rfl, rfl, hk⟩
      · cases h
theorem zc3 {e : Nat} {inner : Option (List Tok → PR Ex)} (hp : ∀ f, inner = some f → Shr f) : Shr (zkc e inner) := by
  intro ts x r h
  cases ts with
  | nil => cases h
  | cons t ts =>
    rw [zkc] at h
    split at h
    · cases inner with
      | none => cases h
      | some f =>
        have hf := hp f rfl
        rw [brkP] at h
        split at h
        · obtain ⟨n, t2, hq, _, _⟩ := zyh h
          have := hf _ _ _ hq
          simp only [List.length_cons] at this ⊢; omega
        · obtain ⟨n, t2, hq, _, _⟩ := zyh h
          have := hf _ _ _ hq
          simp only [List.length_cons] at this ⊢; omega
    split at h
    · cases h; simp
    split at h
    · cases h; simp
    · cases h
theorem zqg {e : Nat} {prim : List Tok → PR Ex} (hp : Shr prim) : Shr (zvk e prim) := fo (fo (fo (zbs (zbu hp))))
theorem zc6 (e : Nat) : ∀ d, Shr (zfm e d)
  | 0 => zqg (zc3 fun f h => by cases h)
  | d + 1 => zqg (zc3 fun f h => by cases h; exact zc6 e d)
abbrev nilP : Value := .pointer none
def zfv : Bys := [110, 97, 109, 101]
def vd (op w : Bys) (a : Nat) (l r : Value) (s : Bool) : List Value := [str op, str w, .int .i64 (a : Int), l, r, .bool s]
def op1S : Op1 → Bys
  | .plus => [43]
  | .star => [42]
  | .maybe => [63]
  | .inv => [94]
def op2S : Op2 → Bys
  | .or => [124]
  | .and => [38]
  | .minus => [92]
  | .seq => [59]
  | .cross => [120]
def TreeP (h : Heap) : (Nat → Prop) → Value → Ex → Prop
  | S, v, .name s a w => ∃ b, v = pt b ∧ S b ∧ h[b]? = some (.cells (vd zfv w a nilP nilP s) 0 false)
  | S, v, .zero a => ∃ b, v = pt b ∧ S b ∧ h[b]? = some (.cells (vd [48] [] a nilP nilP false) 0 false)
  | S, v, .par s a e => ∃ b S' x, v = pt b ∧ S b ∧ h[b]? = some (.cells (vd [40] [] a x nilP s) 0 false) ∧ TreeP h S' x e ∧ ∀ y, S' y → S y ∧ y ≠ b
  | S, v, .box a e => ∃ b S' x, v = pt b ∧ S b ∧ h[b]? = some (.cells (vd [91] [] a x nilP false) 0 false) ∧ TreeP h S' x e ∧ ∀ y, S' y → S y ∧ y ≠ b
  | S, v, .un o e => ∃ b S' x, v = pt b ∧ S b ∧ h[b]? = some (.cells (vd (op1S o) [] e.pl x nilP false) 0 false) ∧ TreeP h S' x e ∧ ∀ y, S' y → S y ∧ y ≠ b
  | S, v, .bin s o l r => ∃ b S1 S2 x y, v = pt b ∧ S b ∧ h[b]? = some (.cells (vd (op2S o) [] l.pl x y s) 0 false) ∧ TreeP h S1 x l ∧ TreeP h S2 y r ∧ (∀ z, S1 z → S z ∧ z ≠ b ∧ ¬ S2 z) ∧ ∀ z, S2 z → S z ∧ z ≠ b
theorem TreeP.keep {h h' : Heap} : ∀ {S : Nat → Prop} {v : Value} {e : Ex}, TreeP h S v e → (∀ b o, S b → h[b]? = some o → h'[b]? = some o) → TreeP h' S v e
  | S, v, .name s a w, t, k => by obtain ⟨b, hv, hb, ho⟩ := t; exact ⟨b, hv, hb, k b _ hb ho⟩
  | S, v, .zero a, t, k => by obtain ⟨b, hv, hb, ho⟩ := t; exact ⟨b, hv, hb, k b _ hb ho⟩
  | S, v, .par s a e, t, k => by obtain ⟨b, S', x, hv, hb, ho, t', hs⟩ := t; exact ⟨b, S', x, hv, hb, k b _ hb ho, t'.keep (fun c o hc => k c o (hs c hc).1), hs⟩
  | S, v, .box a e, t, k => by obtain ⟨b, S', x, hv, hb, ho, t', hs⟩ := t; exact ⟨b, S', x, hv, hb, k b _ hb ho, t'.keep (fun c o hc => k c o (hs c hc).1), hs⟩
  | S, v, .un o' e, t, k => by obtain ⟨b, S', x, hv, hb, ho, t', hs⟩ := t; exact ⟨b, S', x, hv, hb, k b _ hb ho, t'.keep (fun c o hc => k c o (hs c hc).1), hs⟩
  | S, v, .bin s o' l r, t, k => by
    obtain ⟨b, S1, S2, x, y, hv, hb, ho, t1, t2, hs1, hs2⟩ := t
    exact ⟨b, S1, S2, x, y, hv, hb, k b _ hb ho, t1.keep (fun c o hc => k c o (hs1 c hc).1), t2.keep (fun c o hc => k c o (hs2 c hc).1), hs1, hs2⟩
theorem TreeP.weak {h : Heap} {S S' : Nat → Prop} (hs : ∀ b, S b → S' b) : ∀ {v : Value} {e : Ex}, TreeP h S v e → TreeP h S' v e
  | v, .name s a w, t => by obtain ⟨b, hv, hb, ho⟩ := t; exact ⟨b, hv, hs b hb, ho⟩
  | v, .zero a, t => by obtain ⟨b, hv, hb, ho⟩ := t; exact ⟨b, hv, hs b hb, ho⟩
  | v, .par s a e, t => by obtain ⟨b, T, x, hv, hb, ho, t', h'⟩ := t; exact ⟨b, T, x, hv, hs b hb, ho, t', fun y hy => ⟨hs y (h' y hy).1, (h' y hy).2⟩⟩
  | v, .box a e, t => by obtain ⟨b, T, x, hv, hb, ho, t', h'⟩ := t; exact ⟨b, T, x, hv, hs b hb, ho, t', fun y hy => ⟨hs y (h' y hy).1, (h' y hy).2⟩⟩
  | v, .un o e, t => by obtain ⟨b, T, x, hv, hb, ho, t', h'⟩ := t; exact ⟨b, T, x, hv, hs b hb, ho, t', fun y hy => ⟨hs y (h' y hy).1, (h' y hy).2⟩⟩
  | v, .bin s o l r, t => by
    obtain ⟨b, S1, S2, x, y, hv, hb, ho, t1, t2, hs1, hs2⟩ := t
    exact ⟨b, S1, S2, x, y, hv, hs b hb, ho, t1, t2, fun z hz => ⟨hs z (hs1 z hz).1, (hs1 z hz).2⟩, fun z hz => ⟨hs z (hs2 z hz).1, (hs2 z hz).2⟩⟩
theorem TreeP.root {h : Heap} {S : Nat → Prop} {v : Value} {e : Ex} (t : TreeP h S v e) : ∃ b op w l r, v = pt b ∧ S b ∧ h[b]? = some (.cells (vd op w e.pl l r e.set) 0 false) := by
  cases e with
  | name s a w => obtain ⟨b, hv, hb, ho⟩ := t; exact ⟨b, _, _, _, _, hv, hb, ho⟩
  | zero a => obtain ⟨b, hv, hb, ho⟩ := t; exact ⟨b, _, _, _, _, hv, hb, ho⟩
  | par s a e => obtain ⟨b, T, x, hv, hb, ho, t', h'⟩ := t; exact ⟨b, _, _, _, _, hv, hb, ho⟩
  | box a e => obtain ⟨b, T, x, hv, hb, ho, t', h'⟩ := t; exact ⟨b, _, _, _, _, hv, hb, ho⟩
  | un o e => obtain ⟨b, T, x, hv, hb, ho, t', h'⟩ := t; exact ⟨b, _, _, _, _, hv, hb, ho⟩
  | bin s o l r => obtain ⟨b, S1, S2, x, y, hv, hb, ho, _⟩ := t; exact ⟨b, _, _, _, _, hv, hb, ho⟩
def Iv (lo hi : Nat) : Nat → Prop := fun b => lo ≤ b ∧ b < hi
theorem zqz : str [123, 125, 40, 41, 91, 93, 59, 124, 44, 58, 61, 43, 45, 35, 36, 126, 42, 47, 92, 38, 63, 94] = str marksL := rfl
section
variable {F : Funcs} {s : St} {Q : AEx → St → Prop}
end
theorem ycx {l : List UInt8} {a : Nat} (ha : a < l.length) : zcd (l.drop a) = if blkB (l[a].toNat : Int) then .go 1 else if [40, 42].isPrefixOf (l.drop a) then (if remK (l.drop (a + 2)) + 1 < l.length - (a + 2) then .go (remK (l.drop (a + 2)) + 4) else .err) else .no := by
  rw [zqa ha, zcd]
  simp only [List.drop_drop, List.length_drop]
theorem ycv {l : List UInt8} {a k : Nat} (ha : a < l.length) (h : zcd (l.drop a) = .go k) : fi (l.drop a) a = fi (l.drop (a + k)) (a + k) := by
  rw [zar (by intro e; have := congrArg List.length e; simp at this; omega), h]
  simp only [List.drop_drop]
theorem zya {l : List UInt8} {a : Nat} (ha : a < l.length) (h : zcd (l.drop a) = .err) : fi (l.drop a) a = .bad 24 a := by
  rw [zar (by intro e; have := congrArg List.length e; simp at this; omega), h]
theorem i40 (c : UInt8) : ((c.toNat : Int) != 40) = !(c.toNat == 40) := by
  rw [Bool.eq_iff_iff]; simp; omega
def zjg (l : List UInt8) : Res := if 8192 < l.length then .bad 2 0 else fi l 0
def TokR (h H : Heap) (v : Value) : Res → Prop
  | .ok m => ∃ s, v = tup [s, .int .i64 0, .int .i64 0] ∧ Own h H s 4 (m.map vo)
  | .bad c a => v = tup [.slice none 0 0, .int .i64 (c : Int), .int .i64 (a : Int)]
theorem ych {l : List UInt8} {a : Nat} (ha : a < l.length) : zcv (l.drop a) = if digV (l[a].toNat : Int) then (match numV ((l.drop a).take (rowN numB (l.drop a))) with
      | some n => .word 2 (rowN numB (l.drop a)) (IntKind.i64.wrap n)
      | none => .bad 23)
    else if letV (l[a].toNat : Int) || (l[a].toNat : Int) == 95 then .word 1 (rowN namB (l.drop a)) 0
    else if [47, 92].isPrefixOf (l.drop a) || [92, 47].isPrefixOf (l.drop a) then .word 3 2 0
    else if ybr l[a] then .word 3 1 0
    else .bad 20 := by
  have hd := zqa ha
  rw [hd]; rfl
theorem yad {l : List UInt8} {a : Nat} (ha : a < l.length) : l.drop a ≠ [] := by intro e; have := congrArg List.length e; simp at this; omega
theorem zv7 {l : List UInt8} {a : Nat} (ha : a < l.length) (hs : zcd (l.drop a) = .no) {kd k : Nat} {n : Int} (hw : zcv (l.drop a) = .word kd k n) : fi (l.drop a) a = (fi (l.drop (a + k)) (a + k)).pre [⟨kd, (l.drop a).take k, n, a⟩] := by
  rw [zar (yad ha), hs]
  simp only [hw, List.drop_drop]
theorem zxk {l : List UInt8} {a : Nat} (ha : a < l.length) (hs : zcd (l.drop a) = .no) {c : Nat} (hw : zcv (l.drop a) = .bad c) : fi (l.drop a) a = .bad c a := by
  rw [zar (yad ha), hs]
  simp only [hw]
theorem zks {h H : Heap} {s : Value} {acc : List Tok} (e : Own h H s 4 (acc.map vo)) (p : Pre h H) (kd : Nat) (ki : Int) (hk : ki = kd) (w : List UInt8) (n : Int) (a : Nat) (hr : acc.length ≤ 8192) :
    ∃ s' H', kh (H ++ [.cells [.int .i64 ki, str w, .int .i64 n, .int .i64 (a : Int)] 0 false, .cells [.int .i64 ki, str w, .int .i64 n, .int .i64 (a : Int)] 0 false]) 4 40 s (zc9 (H ++ [.cells [.int .i64 ki, str w, .int .i64 n, .int .i64 (a : Int)] 0 false, .cells [.int .i64 ki, str w, .int .i64 n, .int .i64 (a : Int)] 0 false]) 4 (.slice (some ⟨H.length + 1, 0, some 0⟩) 1 4)) = some (s', H') ∧
      Own h H' s' 4 ((acc ++ [Tok.mk kd w n a]).map vo) ∧ Pre h H' ∧ Heap.read1 H' ⟨H.length, 1, some 0⟩ = some (str w) := by
  subst hk
  obtain ⟨s', H', h1, h2, h3, h4, h5, h6⟩ := (e.more [.cells [.int .i64 (kd : Int), str w, .int .i64 n, .int .i64 (a : Int)] 0 false]).push (p.more _) (row := [.int .i64 (kd : Int), str w, .int .i64 n, .int .i64 (a : Int)]) (bytes := 40) rfl (by rw [List.length_map]; unfold k8; omega)
  simp only [List.append_assoc, List.cons_append, List.nil_append, List.length_append, List.length_cons, List.length_nil] at h1
  refine ⟨s', H', h1, ?_, h3, ?_⟩
  · rw [List.map_append]; exact h2
  · have := h5 H.length (.cells [.int .i64 (kd : Int), str w, .int .i64 n, .int .i64 (a : Int)] 0 false) (by simp) (by intro hb; have := (e.lt hb).2; omega)
    unfold Heap.read1
    simp only [this]; rfl
theorem Own.fin {h H : Heap} {s v : Value} {c : Nat} {rows : List (List Value)} (e : Own h H s c rows) (p : Pre h H) (hv : flat v = true → plain s = true) : Own h (AM.finish h v H) s c rows ∧ Pre h (AM.finish h v H) := by
  obtain ⟨L, rfl⟩ := p
  rcases zm8 h L v with hf | ⟨hf, hfl⟩
  · rw [hf]; exact ⟨e, L, rfl⟩
  · rw [hf]
    have hp := hv hfl
    rcases e with ⟨⟨rfl, rfl⟩ | ⟨b, ver, hb, rfl, ho⟩, hc⟩
    · exact ⟨⟨.inl ⟨rfl, rfl⟩, hc⟩, Pre.refl h⟩
    · cases hp
theorem yhc {s a b : Value} (h : flat (tup [s, a, b]) = true) : plain s = true := by
  have : (plain s && (plain a && (plain b && true))) = true := h
  simp at this; exact this.1
theorem zfb (z0 z1 z2 z3 a b c d : Value) : w4 [z0, z1, z2, z3] [(0, 4, agg [a, b, c, d])] = some [a, b, c, d] := by
  rw [w4, yh]; simp [splice, w4]
theorem idx0 {l : List UInt8} {a : Nat} (ha : a < l.length) (h : Heap) : idxO h (str (l.drop a)) (.int .i64 0) = some (.int .u8 (l[a].toNat : Int), h) := by
  have := zet h (l := l.drop a) (k := 0) (by simp; omega) .i64
  rw [Int.cast_ofNat_Int] at this
  rw [this]; simp
theorem zf7 : ∀ (m : List UInt8) (c : UInt8), decide (0 ≤ Lib.indexByte m c) = m.contains c
  | [], c => rfl
  | b :: m, c => by
    rw [Lib.indexByte, List.contains_cons, ← zf7 m c]
    have hg := Lib.indexByte_ge m c
    by_cases hb : b = c
    · subst hb; simp
    · have : (b == c) = false := by simpa using hb
      have h2 : (c == b) = false := by simpa using fun e => hb e.symm
      rw [this, h2, Bool.false_or]
      by_cases h1 : Lib.indexByte m c = -1
      · rw [h1]; rfl
      · have h3 : (Lib.indexByte m c == -1) = false := by simpa using h1
        rw [h3]
        simp only [Bool.false_eq_true, if_false]
        rw [decide_eq_decide]; omega
theorem yd2 (c : UInt8) : c.toNat.toUInt8 = c := by simp
theorem zu2 (l : List UInt8) (p : Int → Bool) : (l.take (rowN p l)).length = rowN p l := by
  have := zja p l; simp; omega
set_option maxHeartbeats 8000000 in
set_option maxRecDepth 10000 in
theorem zo8 (l : List UInt8) {h : Heap} (g : Gl h) : ∃ v H', DF FF zez [str l] h = some (v, H') ∧ (TokR h H' v (zjg l) ∧ Pre h H') := by
  refine wz zoy ?_
  by_cases hl : 8192 < l.length
  · have c1 : ((8192 : Int) < (l.length : Int)) = True := by simp; omega
    simp only [ze4, z7, zr, xe, zb, zw, z8, zn, zc, zo, zf, ze, zd, List.set_cons_succ, List.set_cons_zero, O_mv, yu, yg, zab, List.cons_append, List.nil_append, List.length_cons, List.length_nil, Nat.reduceSub, Nat.zero_add, zm, yb, za, y5, zh, zg, wt, zaw, yi, xp, ym, c1, decide_true]
    unfold zjg; rw [if_pos hl]
    exact ⟨rfl, Pre.refl h⟩
  have c1 : ((8192 : Int) < (l.length : Int)) = False := by simp; omega
  have htv : zjg l = fi l 0 := by unfold zjg; rw [if_neg hl]
  rw [htv]
  simp only [ze4, z7, zr, yl, zb, zu, z8, zn, zc, zo, zf, ze, zd, List.set_cons_succ, List.set_cons_zero, O_mv, yu, yg, zab, List.cons_append, List.nil_append, List.length_cons, List.length_nil, Nat.reduceSub, Nat.zero_add, zm, yb, zx, za, zh, zg, yi, xp, ym, c1, decide_false]
  have stop : ∀ (a : Nat) (acc : List Tok) (H : Heap) (s : Value), a = l.length → Own h H s 4 (acc.map vo) → Pre h H → (fi (l.drop a) a).pre acc = fi l 0 → TokR h (finish h (tup [s, .int .i64 0, .int .i64 0]) H) (tup [s, .int .i64 0, .int .i64 0]) (fi l 0) ∧ Pre h (finish h (tup [s, .int .i64 0, .int .i64 0]) H) := by
    intro a acc H s ha ho hp hs
    subst ha
    rw [List.drop_length, zf2] at hs
    rw [← hs]
    obtain ⟨f1, f2⟩ := ho.fin hp (v := tup [s, .int .i64 0, .int .i64 0]) yhc
    exact ⟨⟨s, rfl, by rw [List.append_nil]; exact f1⟩, f2⟩
  refine pq l.length (fun k st => ∃ (a : Nat) (acc : List Tok) (H : Heap) (s : Value) (j : Nat → Value), k ≤ a ∧ a ≤ l.length ∧ acc.length ≤ a ∧ Own h H s 4 (acc.map vo) ∧ Pre h H ∧ (fi (l.drop a) a).pre acc = fi l 0 ∧ st = ⟨[str l, j 1, .slice none 0 0, .int .i64 0, .int .i64 0, s, .int .i64 (a : Int), j 7, j 8, j 9, j 10, j 11, j 12, j 13, j 14, j 15, j 16, j 17, j 18, j 19, j 20, j 21, j 22, j 23, j 24, j 25, j 26, j 27, j 28, j 29, j 30, j 31, j 32, j 33, j 34, j 35, j 36, j 37, j 38, j 39, j 40, j 41, j 42, j 43, j 44, j 45, j 46, j 47, j 48, j 49, j 50, j 51, j 52, j 53, j 54, j 55, j 56, j 57, j 58, j 59, j 60, j 61, j 62, j 63, j 64, j 65, j 66, j 67, j 68, j 69, j 70, j 71, j 72, j 73, j 74, j 75, j 76, j 77, j 78, j 79, j 80, j 81, j 82, j 83, j 84, j 85, j 86, j 87, j 88, j 89, j 90, j 91, j 92, j 93, j 94, j 95, j 96, j 97, j 98, j 99, j 100, j 101, j 102, j 103, j 104, j 105, j 106, j 107, j 108, j 109, j 110, j 111, j 112, j 113, j 114, j 115], H⟩) ?_ ?_ _ ?_
  · rintro k st hk ⟨a, acc, H, s, j, h1, h2, h3, ho, hp, hs, rfl⟩
    by_cases hal : a < l.length
    · have d1 : ((a : Int) < (l.length : Int)) = True := by simp; omega
      have hsk := ycx hal
      have wa : IntKind.i64.wrap ((a : Int) + 1) = ((a + 1 : Nat) : Int) := xm (k := a) (by omega)
      have cf := zk8 H (l := l) (k := a) (by omega) .i64
      have zls : ∀ (m : Nat), zcd (l.drop a) = .go m → 1 ≤ m ∧ a + m ≤ l.length ∧ (fi (l.drop (a + m)) (a + m)).pre acc = fi l 0 := fun m hm => by
        have := zfz hm
        simp only [List.length_drop] at this
        exact ⟨this.1, by omega, by rw [← ycv hal hm]; exact hs⟩
      by_cases hb : blkB (l[a].toNat : Int) = true
      · rw [if_pos hb] at hsk
        obtain ⟨_, q2, q3⟩ := zls 1 hsk
        unfold blkB at hb
        have e : ∀ L : Heap, (Own h (H ++ L) s 4 (acc.map vo)) ∧ Pre h (H ++ L) := fun L => ⟨ho.more L, hp.more L⟩
        cases f1 : ((l[a].toNat : Int) == 32)
        · cases f2 : ((l[a].toNat : Int) == 9)
          · cases f3 : ((l[a].toNat : Int) == 10)
            · rw [f1, f2, f3] at hb; simp at hb
            · simp only [z7, zr, w6, yl, zb, zw, z8, zn, ye, zc, zp, yr, zo, zf, ze, zd, List.set_cons_succ, List.set_cons_zero, O_mv, yw, xf, yu, yg, wg, y9, yc, yd, yz, wu, Nat.lt_add_one, vj, jy, xy, List.length_cons, List.length_nil, Nat.reduceAdd, Nat.zero_add, zm, yb, zx, za, Option.map_none, y0, zl, y4, ya, yk, zy, zs, Option.map_some, eq_self, xp, ym, j4, j1, Option.map_none, Option.map_some, d1, decide_true, cf, idx0 hal, f1, f2, f3, wa]
              exact ⟨a + 1, acc, _, s, (junk rfl).elim fun j hj => ⟨j, by omega, by omega, by omega, (e _).1, (e _).2, q3, hj⟩⟩
          · simp only [z7, zr, w6, yl, zb, zw, z8, zn, ye, zc, zp, yr, wi, zo, zf, ze, zd, List.set_cons_succ, List.set_cons_zero, O_mv, yw, xf, yu, yg, wg, y9, yc, yd, yz, wu, Nat.lt_add_one, vj, jy, xy, List.length_cons, List.length_nil, Nat.reduceAdd, Nat.zero_add, zm, yb, zx, za, Option.map_none, y0, zl, y4, ya, yk, zy, zs, Option.map_some, eq_self, xp, ym, j4, j1, Option.map_none, Option.map_some, d1, decide_true, cf, idx0 hal, f1, f2, wa]
            exact ⟨a + 1, acc, _, s, (junk rfl).elim fun j hj => ⟨j, by omega, by omega, by omega, (e _).1, (e _).2, q3, hj⟩⟩
        · simp only [z7, zr, w6, yl, zb, zw, z8, zn, ye, zc, zp, wi, zo, zf, ze, zd, List.set_cons_succ, List.set_cons_zero, O_mv, yw, xf, yu, yg, wg, y9, yc, yd, yz, wu, Nat.lt_add_one, vj, jy, xy, List.length_cons, List.length_nil, Nat.reduceAdd, Nat.zero_add, zm, yb, zx, za, Option.map_none, y0, zl, y4, ya, yk, zy, zs, Option.map_some, eq_self, xp, ym, j4, j1, Option.map_none, Option.map_some, d1, decide_true, cf, idx0 hal, f1, wa]
          exact ⟨a + 1, acc, _, s, (junk rfl).elim fun j hj => ⟨j, by omega, by omega, by omega, (e _).1, (e _).2, q3, hj⟩⟩
      · rw [if_neg hb] at hsk
        have hb' := Bool.not_eq_true _ |>.mp hb
        unfold blkB at hb'
        rw [Bool.or_eq_false_iff, Bool.or_eq_false_iff] at hb'
        obtain ⟨⟨f1, f2⟩, f3⟩ := hb'
        cases hpre : [40, 42].isPrefixOf (l.drop a)
        · rw [hpre] at hsk
          have hsk : zcd (l.drop a) = .no := hsk
          have hw := ych hal
          have worded : ∀ (kd k : Nat) (n : Int), zcv (l.drop a) = .word kd k n → 1 ≤ k ∧ a + k ≤ l.length ∧ (fi (l.drop (a + k)) (a + k)).pre (acc ++ [⟨kd, (l.drop a).take k, n, a⟩]) = fi l 0 := fun kd k n hk => by
            have := zef hk
            simp only [List.length_drop] at this
            exact ⟨this.1, by omega, by rw [zv7 hal hsk hk, Res.pre_pre] at hs; exact hs⟩
          have refused : ∀ c : Nat, zcv (l.drop a) = .bad c → ∀ K : Heap, Pre h K → TokR h (AM.finish h (tup [.slice none 0 0, .int .i64 (c : Int), .int .i64 (a : Int)]) K) (tup [.slice none 0 0, .int .i64 (c : Int), .int .i64 (a : Int)]) (fi l 0) ∧ Pre h (AM.finish h (tup [.slice none 0 0, .int .i64 (c : Int), .int .i64 (a : Int)]) K) := fun c hc K pK => by
            rw [zxk hal hsk hc] at hs
            rw [← hs]
            exact ⟨rfl, ((Own.nil h K 4).fin pK fun _ => rfl).2⟩
          have tlen : ∀ p : Int → Bool, rowN p (l.drop a) ≤ (l.drop a).length := fun p => zja p _
          have wsum : ∀ k : Nat, a + k ≤ l.length → IntKind.i64.wrap ((a : Int) + (k : Int)) = ((a + k : Nat) : Int) := fun k hk => by rw [yax (by omega)]; omega
          have cw : ∀ (k : Nat) (K : Heap), k ≤ l.length - a → cutS K none (some (.int .i64 (k : Int))) (str (l.drop a)) = some (str ((l.drop a).take k), K) := fun k K hk => yaf K (by simp; omega) .i64
          cases g1 : digV (l[a].toNat : Int)
          · rw [g1] at hw
            simp only [Bool.false_eq_true, if_false] at hw
            cases g2 : (letV (l[a].toNat : Int) || (l[a].toNat : Int) == 95)
            · rw [g2] at hw
              simp only [Bool.false_eq_true, if_false] at hw
              rw [Bool.or_eq_false_iff] at g2
              cases g3 : ([47, 92].isPrefixOf (l.drop a) || [92, 47].isPrefixOf (l.drop a))
              · rw [g3] at hw
                simp only [Bool.false_eq_true, if_false] at hw
                rw [Bool.or_eq_false_iff] at g3
                cases g4 : ybr l[a]
                · rw [g4] at hw
                  have g5 : decide (0 ≤ Lib.indexByte marksL l[a]) = false := by rw [zf7]; exact g4
                  simp only [z7, zr, xe, yl, zb, zw, zu, z8, zn, ye, zc, zp, yr, zo, zf, ze, zd, List.set_cons_succ, List.set_cons_zero, O_mv, yw, xf, yu, yg, yf, List.map_cons, List.map_nil, wg, y9, yc, yd, yz, wu, Nat.lt_add_one, jy, xy, zbb, List.length_cons, List.length_nil, Nat.reduceAdd, Nat.zero_add, zm, yb, zx, za, y5, xx, Option.map_none, y0, zl, y4, ya, yk, zy, zs, Int.toNat_natCast, Option.map_some, zaw, eq_self, za2, xp, ym, j4, j1, Option.map_none, Option.map_some, d1, decide_true, cf, idx0 hal, f1, f2, f3, vk, hpre, gh, g1, gy, g2.1, g2.2, g3.1, g3.2, zqz, zcw, yd2, g5]
                  exact refused 20 hw _ (hp.more _)
                · rw [g4] at hw
                  have g5 : decide (0 ≤ Lib.indexByte marksL l[a]) = true := by rw [zf7]; exact g4
                  obtain ⟨q1, q2, q3⟩ := worded _ _ _ hw
                  obtain ⟨s', H', p1, p2, p3, p4⟩ := zks ho hp 3 3 rfl ((l.drop a).take 1) 0 a (by omega)
                  have hlen : (((l.drop a).take 1).length : Int) = ((1 : Nat) : Int) := by simp; omega
                  have cw1 := fun K => cw 1 K (by omega)
                  rw [Int.cast_ofNat_Int] at cw1
                  simp only [z7, zr, yl, zb, zw, zu, z8, zn, ye, zc, zp, yr, zo, zf, ze, zd, List.set_cons_succ, List.set_cons_zero, O_mv, yw, xf, yu, yg, yf, List.map_cons, List.map_nil, zz, zk, x7, y8, ww, wg, wd, y9, yc, yd, xb, xi, yz, wu, Nat.lt_add_one, Nat.zero_lt_succ, Nat.reduceLT, vj, jy, xy, zbb, List.cons_append, List.nil_append, List.length_cons, List.length_nil, Nat.reduceAdd, Nat.zero_add, zm, yb, zx, za, zi, slc, qv, Option.map_none, y0, xc, z6, zl, xd, x5, y4, ya, xr, xh, yk, j6, vg, zy, zs, List.append_assoc, List.length_append, List.append_nil, Int.toNat_natCast, Nat.add_zero, Option.map_some, eq_self, yp, wk, xp, ym, j4, j1, Option.map_none, Option.map_some, d1, decide_true, cf, idx0 hal, f1, f2, f3, vk, hpre, gh, g1, gy, g2.1, g2.2, g3.1, g3.2, zqz, zcw, yd2, g5, zfb, cw1, p1, p4, hlen, wsum 1 q2]
                  exact ⟨a + 1, _, H', s', (junk rfl).elim fun j hj => ⟨j, by omega, by omega, by simp; omega, p2, p3, q3, hj⟩⟩
              · rw [g3] at hw
                obtain ⟨q1, q2, q3⟩ := worded _ _ _ hw
                obtain ⟨s', H', p1, p2, p3, p4⟩ := zks ho hp 3 3 rfl ((l.drop a).take 2) 0 a (by omega)
                have hlen : (((l.drop a).take 2).length : Int) = ((2 : Nat) : Int) := by simp; omega
                have cw1 := fun K => cw 2 K (by omega)
                rw [Int.cast_ofNat_Int] at cw1
                cases g4 : [47, 92].isPrefixOf (l.drop a)
                · rw [g4, Bool.false_or] at g3
                  simp only [z7, zr, yl, zb, zw, zu, z8, zn, ye, zc, zp, yr, zo, zf, ze, zd, List.set_cons_succ, List.set_cons_zero, O_mv, yw, xf, yu, yg, yf, List.map_cons, List.map_nil, zz, zk, x7, y8, ww, wg, wd, y9, yc, yd, xb, xi, yz, wu, Nat.lt_add_one, Nat.zero_lt_succ, Nat.reduceLT, vj, jy, xy, List.cons_append, List.nil_append, List.length_cons, List.length_nil, Nat.reduceAdd, Nat.zero_add, zm, yb, zx, za, zi, slc, qv, Option.map_none, y0, xc, z6, zl, xd, x5, y4, ya, xr, xh, yk, j6, vg, zy, zs, List.append_assoc, List.length_append, List.append_nil, Nat.add_zero, Option.map_some, eq_self, yp, wk, xp, ym, j4, j1, Option.map_none, Option.map_some, d1, decide_true, cf, idx0 hal, f1, f2, f3, vk, hpre, gh, g1, gy, g2.1, g2.2, g4, g3, zfb, cw1, p1, p4, hlen, wsum 2 q2]
                  exact ⟨a + 2, _, H', s', (junk rfl).elim fun j hj => ⟨j, by omega, by omega, by simp; omega, p2, p3, q3, hj⟩⟩
                · simp only [z7, zr, yl, zb, zw, zu, z8, zn, ye, zc, zp, yr, wi, zo, zf, ze, zd, List.set_cons_succ, List.set_cons_zero, O_mv, yw, xf, yu, yg, yf, List.map_cons, List.map_nil, zz, zk, x7, y8, ww, wg, wd, y9, yc, yd, xb, xi, yz, wu, Nat.lt_add_one, Nat.zero_lt_succ, Nat.reduceLT, vj, jy, xy, List.cons_append, List.nil_append, List.length_cons, List.length_nil, Nat.reduceAdd, Nat.zero_add, zm, yb, zx, za, zi, slc, qv, Option.map_none, y0, xc, z6, zl, xd, x5, y4, ya, xr, xh, yk, j6, vg, zy, zs, List.append_assoc, List.length_append, List.append_nil, Nat.add_zero, Option.map_some, eq_self, yp, wk, xp, ym, j4, j1, Option.map_none, Option.map_some, d1, decide_true, cf, idx0 hal, f1, f2, f3, vk, hpre, gh, g1, gy, g2.1, g2.2, g4, zfb, cw1, p1, p4, hlen, wsum 2 q2]
                  exact ⟨a + 2, _, H', s', (junk rfl).elim fun j hj => ⟨j, by omega, by omega, by simp; omega, p2, p3, q3, hj⟩⟩
            · rw [g2] at hw
              simp only [if_true] at hw
              obtain ⟨q1, q2, q3⟩ := worded _ _ _ hw
              have hrow := fun K => zm4 (F := zax) ycq (l.drop a) (by simp; omega) K
              obtain ⟨s', H', p1, p2, p3, p4⟩ := zks ho hp 1 1 rfl ((l.drop a).take (rowN namB (l.drop a))) 0 a (by omega)
              have hlen := congrArg (Nat.cast : Nat → Int) (zu2 (l.drop a) namB)
              have cw1 := fun K => cw (rowN namB (l.drop a)) K (by omega)
              have hws := wsum _ q2
              generalize rowN namB (l.drop a) = n at hrow p1 p2 p4 hlen cw1 hws q1 q2 q3
              cases g3 : letV (l[a].toNat : Int)
              · rw [g3, Bool.false_or] at g2
                simp only [z7, zr, yl, zb, zw, zu, z8, zn, ye, zc, zp, yr, zo, zf, zoq, ze, zd, List.set_cons_succ, List.set_cons_zero, O_mv, yw, xf, yu, yg, yf, List.map_cons, List.map_nil, zz, zk, x7, y8, ww, wg, wd, y9, yc, yd, xb, xi, yz, wu, Nat.lt_add_one, Nat.zero_lt_succ, Nat.reduceLT, vj, jy, xy, List.cons_append, List.nil_append, List.length_cons, List.length_nil, Nat.reduceAdd, Nat.zero_add, zm, yb, zx, za, zi, slc, qv, Option.map_none, y0, xc, z6, zl, xd, x5, y4, ya, xr, xh, yk, j6, vg, zy, zs, List.append_assoc, List.length_append, List.append_nil, Nat.add_zero, Option.map_some, eq_self, yp, wk, xp, ym, j4, j1, Option.map_none, Option.map_some, d1, decide_true, cf, idx0 hal, f1, f2, f3, vk, hpre, gh, g1, gy, g3, g2, hrow, zfb, cw1, p1, p4, hlen, hws]
                exact ⟨a + n, _, H', s', (junk rfl).elim fun j hj => ⟨j, by omega, by omega, by simp; omega, p2, p3, q3, hj⟩⟩
              · simp only [z7, zr, yl, zb, zw, zu, z8, zn, ye, zc, zp, yr, wi, zo, zf, zoq, ze, zd, List.set_cons_succ, List.set_cons_zero, O_mv, yw, xf, yu, yg, yf, List.map_cons, List.map_nil, zz, zk, x7, y8, ww, wg, wd, y9, yc, yd, xb, xi, yz, wu, Nat.lt_add_one, Nat.zero_lt_succ, Nat.reduceLT, vj, jy, xy, List.cons_append, List.nil_append, List.length_cons, List.length_nil, Nat.reduceAdd, Nat.zero_add, zm, yb, zx, za, zi, slc, qv, Option.map_none, y0, xc, z6, zl, xd, x5, y4, ya, xr, xh, yk, j6, vg, zy, zs, List.append_assoc, List.length_append, List.append_nil, Nat.add_zero, Option.map_some, eq_self, yp, wk, xp, ym, j4, j1, Option.map_none, Option.map_some, d1, decide_true, cf, idx0 hal, f1, f2, f3, vk, hpre, gh, g1, gy, g3, hrow, zfb, cw1, p1, p4, hlen, hws]
                exact ⟨a + n, _, H', s', (junk rfl).elim fun j hj => ⟨j, by omega, by omega, by simp; omega, p2, p3, q3, hj⟩⟩
          · rw [g1] at hw
            simp only [if_true] at hw
            have hrow := fun K => zm4 (F := zau) ycz (l.drop a) (by simp; omega) K
            have cw1 := fun K => cw (rowN numB (l.drop a)) K (by have := tlen numB; simp at this; omega)
            have hlen := congrArg (Nat.cast : Nat → Int) (zu2 (l.drop a) numB)
            have hnum := fun L => zow ((l.drop a).take (rowN numB (l.drop a))) ((g.pre hp).more L) (by simp; omega)
            obtain ⟨v, hn1, m, rfl, hn2⟩ := hnum [.cells [.int .i64 2, str ((l.drop a).take (rowN numB (l.drop a))), .int .i64 0, .int .i64 (a : Int)] 0 false]
            cases g2 : numV ((l.drop a).take (rowN numB (l.drop a))) with
            | none =>
              rw [g2] at hw hn1
              simp only [z7, zr, xe, yl, zb, zw, zu, z8, zn, ye, zc, zp, yr, zo, zf, zoq, ze, zd, List.set_cons_succ, List.set_cons_zero, O_mv, yw, xf, yu, yg, O_un, yf, List.map_cons, List.map_nil, zz, zk, wg, y9, yc, yd, yz, wu, Nat.lt_add_one, Nat.zero_lt_succ, Nat.reduceLT, jy, xy, vp, List.length_cons, List.length_nil, Nat.reduceAdd, Nat.zero_add, Bool.not_false, zm, yb, zx, za, y5, xx, Option.map_none, y0, xc, z6, xg, y7, zl, xd, x5, y4, ya, yy, yq, yk, j6, vg, zy, zs, Nat.add_zero, Option.map_some, List.getElem?_cons_zero, List.getElem?_cons_succ, zaw, eq_self, za2, wk, xp, ym, j4, j1, Option.map_none, Option.map_some, d1, decide_true, cf, idx0 hal, f1, f2, f3, vk, hpre, gh, g1, hrow, cw1, hn1, Option.isSome_none]
              exact refused 23 hw _ (hp.more _)
            | some u =>
              rw [g2] at hw hn1
              have hm := hn2 u g2
              subst hm
              obtain ⟨q1, q2, q3⟩ := worded _ _ _ hw
              obtain ⟨s', H', p1, p2, p3, p4⟩ := zks ho hp 2 2 rfl ((l.drop a).take (rowN numB (l.drop a))) (IntKind.i64.wrap u) a (by omega)
              have hws := wsum _ q2
              simp only [z7, zr, yl, zb, zw, zu, z8, zn, ye, zc, zp, yr, zo, zf, zoq, ze, zd, List.set_cons_succ, List.set_cons_zero, O_mv, yw, xf, yu, yg, O_un, yf, List.map_cons, List.map_nil, zz, zk, x7, y8, ww, wg, wd, y9, yc, yd, xb, xi, yz, wu, Nat.lt_add_one, Nat.zero_lt_succ, Nat.reduceLT, vj, jy, xy, vp, List.cons_append, List.nil_append, List.length_cons, List.length_nil, Nat.reduceAdd, Nat.zero_add, Bool.not_true, zm, yb, zx, za, zi, slc, qv, Option.map_none, y0, xc, z6, xg, y7, zl, xd, x5, y4, ya, yy, yq, xr, xh, yk, j6, vg, zy, zs, List.append_assoc, List.length_append, List.append_nil, Nat.add_zero, Option.map_some, List.getElem?_cons_zero, List.getElem?_cons_succ, eq_self, yp, wk, xp, ym, j4, j1, Option.map_none, Option.map_some, d1, decide_true, cf, idx0 hal, f1, f2, f3, vk, hpre, gh, g1, hrow, cw1, hn1, Option.isSome_some, zfb, p1, p4, hlen, hws]
              exact ⟨a + rowN numB (l.drop a), _, H', s', (junk rfl).elim fun j hj => ⟨j, by omega, by omega, by simp; omega, p2, p3, q3, hj⟩⟩
        · rw [hpre, if_pos rfl] at hsk
          have c2 := fun K => zk8 K (l := l.drop a) (k := 2) (by have := zpl hpre; simpa using this) .i64
          have hidx := fun L => zf8 ((l.drop a).drop 2) [42, 41] ((g.pre hp).more L) (by simp; omega)
          have hix := zq5 ((l.drop a).drop 2)
          simp only [List.drop_drop, List.length_drop] at hix hidx c2
          simp only [Int.cast_ofNat_Int] at c2
          have hrl := zz0 (l.drop (a + 2))
          simp only [List.length_drop] at hrl
          by_cases hr : remK (l.drop (a + 2)) + 1 < l.length - (a + 2)
          · rw [if_pos hr] at hix hsk
            obtain ⟨q1, q2, q3⟩ := zls _ hsk
            have e1 : ((remK (l.drop (a + 2)) : Int) < 0) = False := by simp
            have w1 : IntKind.i64.wrap ((remK (l.drop (a + 2)) : Int) + 4) = ((remK (l.drop (a + 2)) + 4 : Nat) : Int) := by rw [yax (by omega)]; omega
            have w2 : IntKind.i64.wrap ((a : Int) + ((remK (l.drop (a + 2)) + 4 : Nat) : Int)) = ((a + (remK (l.drop (a + 2)) + 4) : Nat) : Int) := by rw [yax (by omega)]; omega
            simp only [z7, zr, w6, yl, zb, zw, zu, z8, zn, ye, zc, zp, yr, zo, zf, ze, zd, List.set_cons_succ, List.set_cons_zero, O_mv, yw, xf, yu, yg, yf, List.map_cons, List.map_nil, wg, y9, yc, yd, yz, wu, Nat.lt_add_one, vj, jy, xy, List.length_cons, List.length_nil, Nat.reduceAdd, Nat.zero_add, zm, yb, zx, za, Option.map_none, y0, zl, y4, ya, yk, zy, zs, Option.map_some, eq_self, xp, ym, j4, j1, Option.map_none, Option.map_some, d1, decide_true, decide_false, cf, idx0 hal, f1, f2, f3, vk, hpre, c2, hidx, hix, e1, w1, w2]
            exact ⟨a + (remK (l.drop (a + 2)) + 4), acc, _, s, (junk rfl).elim fun j hj => ⟨j, by omega, by omega, by omega, ho.more _, hp.more _, q3, hj⟩⟩
          · rw [if_neg hr] at hix hsk
            rw [zya hal hsk] at hs
            rw [← hs]
            simp only [z7, zr, xe, yl, zb, zw, zu, z8, zn, ye, zc, zp, yr, zo, zf, ze, zd, List.set_cons_succ, List.set_cons_zero, O_mv, yw, xf, yu, yg, yf, List.map_cons, List.map_nil, wg, y9, yc, yd, yz, wu, Nat.lt_add_one, jy, xy, List.length_cons, List.length_nil, Nat.reduceAdd, Nat.zero_add, zm, yb, zx, za, y5, xx, Option.map_none, y0, zl, y4, ya, yk, zy, zs, Option.map_some, zaw, Int.reduceLT, eq_self, za2, xp, ym, j4, j1, Option.map_none, Option.map_some, d1, decide_true, cf, idx0 hal, f1, f2, f3, vk, hpre, c2, hidx, hix]
            exact ⟨rfl, ((Own.nil h _ 4).fin (hp.more _) fun _ => rfl).2⟩
    · have d1 : ((a : Int) < (l.length : Int)) = False := by simp; omega
      simp only [z7, zr, w6, xe, zb, zu, z8, zn, zc, zo, zf, ze, zd, List.set_cons_succ, List.set_cons_zero, O_mv, yu, yg, xy, zm, yb, za, yx, yj, zaw, xj, xp, ym, d1, decide_false]
      exact stop a acc H s (by omega) ho hp hs
  · rintro st ⟨a, acc, H, s, j, h1, h2, h3, ho, hp, hs, rfl⟩
    have d1 : ((a : Int) < (l.length : Int)) = False := by simp; omega
    simp only [z7, zr, w6, xe, zb, zu, z8, zn, zc, zo, zf, ze, zd, List.set_cons_succ, List.set_cons_zero, O_mv, yu, yg, xy, zm, yb, za, yx, yj, zaw, xj, xp, ym, d1, decide_false]
    exact stop a acc H s (by omega) ho hp hs
  · exact ⟨0, [], h, _, (junk rfl).elim fun j hj => ⟨j, by omega, by omega, by simp, Own.nil h h 4, Pre.refl h, by rw [List.drop_zero]; cases fi l 0 <;> rfl, hj⟩⟩
/-- A word that was cut from some text. -/
def yg9 (t : Tok) : Prop := ∃ (r : List UInt8) (k : Nat), zcd r = .no ∧ zcv r = .word t.kind k t.n ∧ t.text = r.take k
def sumT : List Tok → Nat
  | [] => 0
  | t :: m => t.text.length + sumT m
theorem zuu {r : Res} {a m : List Tok} (h : r.pre a = .ok m) : ∃ m', r = .ok m' ∧ m = a ++ m' := by
  cases r with
  | ok m' => cases h; exact ⟨m', rfl, rfl⟩
  | bad c x => cases h
theorem zly : ∀ (n : Nat) (s : List UInt8) (a : Nat) (m : List Tok), s.length ≤ n → fi s a = .ok m → (∀ t ∈ m, yg9 t ∧ 1 ≤ t.text.length) ∧ sumT m ≤ s.length
  | 0, s, a, m, hn, h => by
    have : s = [] := List.eq_nil_of_length_eq_zero (by omega)
    subst this
    rw [zf2] at h; cases h
    exact ⟨fun t ht => (List.not_mem_nil ht).elim, by simp [sumT]⟩
  | n + 1, s, a, m, hn, h => by
    by_cases hs : s = []
    · subst hs; rw [zf2] at h; cases h
      exact ⟨fun t ht => (List.not_mem_nil ht).elim, by simp [sumT]⟩
    · rw [zar hs] at h
      cases hk : zcd s with
      | go k =>
        rw [hk] at h
        have hp := zfz hk
        obtain ⟨h1, h2⟩ := zly n _ _ m (by simp; omega) h
        simp only [List.length_drop] at h2
        exact ⟨h1, by omega⟩
      | err => rw [hk] at h; cases h
      | no =>
        rw [hk] at h
        cases hw : zcv s with
        | bad c => rw [hw] at h; cases h
        | word kd k x =>
          rw [hw] at h
          have hp := zef hw
          obtain ⟨m', h1, rfl⟩ := zuu h
          obtain ⟨h2, h3⟩ := zly n _ _ m' (by simp; omega) h1
          simp only [List.length_drop] at h3
          refine ⟨fun t ht => ?_, ?_⟩
          · rcases List.mem_append.1 ht with ht | ht
            · simp at ht; subst ht
              exact ⟨⟨s, k, hk, hw, rfl⟩, by simp; omega⟩
            · exact h2 t ht
          · simp [sumT]; omega
theorem zl1 : ∀ m : List Tok, (∀ t ∈ m, 1 ≤ t.text.length) → m.length ≤ sumT m
  | [], _ => by simp
  | t :: m, h => by
    have := zl1 m fun x hx => h x (by simp [hx])
    have := h t (by simp)
    simp [sumT]; omega
def zxf (X : List UInt8) : Prop := X = [] ∨ ∃ Y, X = 32 :: Y
def sameT (a b : Tok) : Prop := a.kind = b.kind ∧ a.text = b.text ∧ a.n = b.n
/-- An expression without its places. -/
def Ex.er : Ex → Ex
  | .name s _ w => .name s 0 w
  | .zero _ => .zero 0
  | .par s _ e => .par s 0 e.er
  | .box _ e => .box 0 e.er
  | .un o e => .un o e.er
  | .bin s o l r => .bin s o l.er r.er
def bo (R : List Tok) : List Tok → List Tok → Prop
  | [], l => l = R
  | a :: l, b :: m => sameT a b ∧ bo R l m
  | _ :: _, [] => False
theorem sameT.key {a b : Tok} (h : sameT a b) : keyT b = keyT a := by
  obtain ⟨h1, h2, h3⟩ := h
  unfold keyT; rw [h1, h2]
theorem sameT.nam {a b : Tok} (h : sameT a b) : za9 b = za9 a := by
  obtain ⟨h1, h2, h3⟩ := h
  unfold za9; rw [h1, h2]
section
variable {R : List Tok}
end
end Go.Proofs.YtljdbheclfaloaaGreatDoor.AM
namespace Go.Proofs.YtljdbheclfaloaaGreatDoor.AM
open Go.RowKit
set_option linter.unusedSimpArgs false
set_option linter.unusedVariables false
theorem zzb (s : U) (e : Int) (he : 0 ≤ e) (h : Heap) : DF FF zc8 [.int .u32 s.toNat, .int .i64 e] h = some (.bool (s.getLsbD e.toNat), h) := by
  refine wh yah ?_
  simp only [zre, z7, xe, zb, z8, zn, zc, zo, zf, ze, zd, List.set_cons_succ, List.set_cons_zero, O_mv, yu, yg, zvc, jy, yf9, List.cons_append, List.nil_append, List.length_cons, List.length_nil, Nat.reduceAdd, Nat.reduceSub, Nat.zero_add, zm, yb, za, zbt, zh, zg, he, yhe]
theorem zde (s : U) (e : Nat) (h : Heap) : DF FF zc8 [.int .u32 s.toNat, .int .i64 e] h = some (.bool (s.getLsbD e), h) := zzb s e (by omega) h
theorem lt32 {k : Nat} (hk : k < 32) : (k : Int) < 32 := by omega
theorem zlv : ¬ ((32 : Nat) : Int) < 32 := by omega
theorem nat0 (k : Nat) : (0 : Int) ≤ (k : Int) := by omega
def idR (s : U) : Nat → U := fun e => s &&& (1#32 <<< e)
theorem zic (s : U) (h : Heap) : DF FF zca [.int .u32 s.toNat] h = some (agg (relV (idR s)), h) := by
  refine wh yba ?_
  simp only [zud, z7, zb, z8, zn, zc, zf, List.set_cons_succ, List.set_cons_zero, O_mv, List.cons_append, List.nil_append, List.length_cons, List.length_nil, Nat.reduceSub, Nat.zero_add, zm, yb, zx, za, y0, zh, zg, List.append_assoc, List.length_append, List.set_cons_zero, qz]
  refine pq 32 (fun k st => ∃ j : Nat → Value, st = ⟨[.int .u32 s.toNat, j 1, .pointer (some ⟨h.length, 0, some 0⟩), .pointer (some ⟨h.length + 1, 0, some 0⟩), j 4, .int .i64 k, j 6, j 7, j 8, j 9, j 10, j 11, j 12, j 13, j 14, j 15],
      h ++ [.cells (relV fun _ => 0#32) 0 false, .cells (relV (mix k (fun e => s &&& (1#32 <<< e)) fun _ => 0#32)) 0 false]⟩) ?_ ?_ _ ?_
  · rintro k st hk ⟨j, rfl⟩
    simp only [z7, zr, yl, zb, zw, z8, zn, zc, zp, zo, zf, ze, zd, List.set_cons_succ, List.set_cons_zero, O_mv, yu, yg, vj, zvc, xy, ydu, Nat.zero_add, zm, yb, zx, za, zi, zc5, zl, xd, x5, yk, va, fx, b4, vg, Int.toNat_natCast, Nat.mul_one, List.set_cons_zero, eq_self, zc4, x9, b9, yp, ya4, ydk, lt32 hk, nat0, hk, decide_true, xm (k := k) (by omega)]
    exact junk rfl
  · rintro st ⟨j, rfl⟩
    simp only [z7, zr, w6, xe, zb, zu, z8, zn, zc, zp, zo, zf, ze, zd, List.set_cons_succ, List.set_cons_zero, yu, yg, x7, y8, xy, zm, yb, za, yx, yj, zl, y4, ya, qq, xr, qx, xh, yk, zy, zs, Option.map_some, List.set_cons_zero, gg, qj, zbk, eq_self, x9, b8, xj, zlv, decide_false]
    rfl
  · simp only [zdq]
    exact junk rfl
def zlx (a b : U) : Nat → U := fun e => if a.getLsbD e then b else 0#32
theorem zl7 (a b : U) (h : Heap) : DF FF zcx [.int .u32 a.toNat, .int .u32 b.toNat] h = some (agg (relV (zlx a b)), h) := by
  refine wh zs6 ?_
  simp only [zl3, z7, zb, z8, zn, zc, zf, List.set_cons_succ, List.set_cons_zero, O_mv, List.cons_append, List.nil_append, List.length_cons, List.length_nil, Nat.reduceAdd, Nat.reduceSub, Nat.zero_add, zm, yb, zx, za, y0, zh, zg, List.append_assoc, List.length_append, List.set_cons_zero, qz]
  refine pq 32 (fun k st => ∃ j : Nat → Value, st = ⟨[.int .u32 a.toNat, .int .u32 b.toNat, j 2, j 3, .pointer (some ⟨h.length, 0, some 0⟩), .pointer (some ⟨h.length + 1, 0, some 0⟩), j 6, .int .i64 k, j 8, j 9, j 10, j 11, j 12, j 13, j 14, j 15, j 16, j 17],
      h ++ [.cells (relV fun _ => 0#32) 0 false, .cells (relV (mix k (fun e => if a.getLsbD e then b else 0#32) fun _ => 0#32)) 0 false]⟩) ?_ ?_ _ ?_
  · rintro k st hk ⟨j, rfl⟩
    cases hb : a.getLsbD k
    · simp only [z7, zr, yl, zb, zw, zu, z8, zn, zc, zo, zf, ze, zd, List.set_cons_succ, List.set_cons_zero, O_mv, yu, yg, yf, List.map_cons, List.map_nil, vj, xy, zm, yb, zx, za, zi, List.set_cons_zero, yp, lt32 hk, decide_true, xm (k := k) (by omega), zde, hb]
      rw [zf0 (by simp [hb])]
      exact junk rfl
    · simp only [z7, zr, yl, zb, zw, z8, zn, zc, zp, zo, zf, ze, zd, List.set_cons_succ, List.set_cons_zero, O_mv, yu, yg, yf, List.map_cons, List.map_nil, vj, xy, Nat.zero_add, zm, yb, zx, za, zi, zc5, zl, xd, x5, yk, va, fx, b4, vg, Nat.mul_one, List.set_cons_zero, eq_self, zc4, x9, b9, yp, lt32 hk, nat0, hk, decide_true, xm (k := k) (by omega), zde, hb, if_true]
      exact junk rfl
  · rintro st ⟨j, rfl⟩
    simp only [z7, zr, w6, xe, zb, zu, z8, zn, zc, zp, zo, zf, ze, zd, List.set_cons_succ, List.set_cons_zero, yu, yg, x7, y8, xy, zm, yb, za, yx, yj, zl, y4, ya, qq, xr, qx, xh, yk, zy, zs, Option.map_some, List.set_cons_zero, gg, qj, zbk, eq_self, x9, b8, xj, zlv, decide_false]
    rfl
  · simp only [zdq]
    exact junk rfl
def znn (a b : Nat → U) : Nat → U := fun e => a e &&& ~~~ b e
theorem zr2 (a b : Nat → U) (h : Heap) : DF FF zha [agg (relV a), agg (relV b)] h = some (agg (relV (znn a b)), h) := by
  refine wh zsw ?_
  simp only [zme, z7, zb, z8, zn, zc, zo, zf, ze, zd, List.set_cons_succ, List.set_cons_zero, O_mv, List.cons_append, List.nil_append, List.length_cons, List.length_nil, Nat.reduceAdd, Nat.reduceSub, Nat.zero_add, zm, yb, zx, za, y0, w8, zh, zg, List.append_assoc, List.length_append, List.set_cons_zero, eq_self, yh, zt, x9, qz]
  refine pq 32 (fun k st => ∃ j : Nat → Value, st = ⟨[j 0, j 1, .pointer (some ⟨h.length, 0, some 0⟩), .pointer (some ⟨h.length + 1, 0, some 0⟩), .pointer (some ⟨h.length + 2, 0, some 0⟩), j 5, .int .i64 k, j 7, j 8, j 9, j 10, j 11, j 12, j 13, j 14, j 15, j 16, j 17, j 18],
      h ++ [.cells (relV (mix k (fun e => a e &&& ~~~ b e) a)) 0 false, .cells (relV b) 0 false, .cells (relV fun _ => 0#32) 0 false]⟩) ?_ ?_ _ ?_
  · rintro k st hk ⟨j, rfl⟩
    simp only [z7, zr, yl, zb, zw, z8, zn, zc, zp, zo, zf, ze, zd, List.set_cons_succ, List.set_cons_zero, O_mv, yu, yg, zz, zk, vj, zq8, xy, Nat.zero_add, zm, yb, zx, za, zi, zc5, zl, xd, x5, fp, yy, bg, yq, yk, j6, vg, Nat.mul_one, List.set_cons_zero, eq_self, zc4, x9, zbl, b9, zlt, yp, zve, lt32 hk, nat0, hk, decide_true, xm (k := k) (by omega)]
    exact junk rfl
  · rintro st ⟨j, rfl⟩
    simp only [z7, zr, w6, xe, zb, zu, z8, zn, zc, zp, zo, zf, ze, zd, List.set_cons_succ, List.set_cons_zero, yu, yg, x7, y8, xy, zm, yb, za, yx, yj, zl, y4, ya, qq, xr, qx, xh, yk, va, ve, vm, zs, Option.map_some, List.set_cons_zero, gg, qj, zbk, eq_self, x9, b8, xj, zlv, decide_false]
    rfl
  · simp only [zdq]
    exact junk rfl
def zjh (s : U) (r : Nat → U) : Nat → U
  | 0 => 0#32
  | k + 1 => if s.getLsbD k then zjh s r k ||| r k else zjh s r k
def zwy (s : U) (r : Nat → U) : U := zjh s r 32
theorem zvo (s : U) (r : Nat → U) (h : Heap) : DF FF zjs [.int .u32 s.toNat, agg (relV r)] h = some (.int .u32 (zwy s r).toNat, h) := by
  refine wh zwb ?_
  simp only [zn3, z7, zb, z8, zn, zc, zo, zf, ze, zd, List.set_cons_succ, List.set_cons_zero, O_mv, List.cons_append, List.nil_append, List.length_cons, List.length_nil, Nat.reduceAdd, Nat.reduceSub, Nat.zero_add, zm, yb, zx, za, w8, zh, zg, List.set_cons_zero, eq_self, yh, zt, x9]
  refine pq 32 (fun k st => ∃ j : Nat → Value, st = ⟨[.int .u32 s.toNat, j 1, j 2, .pointer (some ⟨h.length, 0, some 0⟩), j 4, .int .u32 (zjh s r k).toNat, j 6, .int .i64 k, j 8, j 9, j 10, j 11, j 12, j 13, j 14, j 15, j 16, j 17, j 18, j 19],
      h ++ [.cells (relV r) 0 false]⟩) ?_ ?_ _ ?_
  · rintro k st hk ⟨j, rfl⟩
    cases hb : s.getLsbD k
    · simp only [z7, zr, yl, zb, zw, zu, z8, zn, zc, zo, zf, ze, zd, List.set_cons_succ, List.set_cons_zero, O_mv, yu, yg, yf, List.map_cons, List.map_nil, vj, xy, zm, yb, zx, za, zi, List.set_cons_zero, yp, lt32 hk, decide_true, xm (k := k) (by omega), zde, hb]
      have : zjh s r (k + 1) = zjh s r k := by rw [zjh, hb]; rfl
      rw [this]
      exact junk rfl
    · simp only [z7, zr, yl, zb, zw, z8, zn, zc, zo, zf, ze, zd, List.set_cons_succ, List.set_cons_zero, O_mv, yu, yg, yf, List.map_cons, List.map_nil, zz, zk, vj, yam, xy, Nat.zero_add, zm, yb, zx, za, zi, zc5, yy, yq, Nat.mul_one, List.set_cons_zero, zc4, zbl, yp, u_or, lt32 hk, nat0, hk, decide_true, xm (k := k) (by omega), zde, hb]
      have : zjh s r (k + 1) = zjh s r k ||| r k := by rw [zjh, hb]; rfl
      rw [this]
      exact junk rfl
  · rintro st ⟨j, rfl⟩
    simp only [z7, zr, w6, xe, zb, zu, z8, zn, zc, zo, zf, ze, zd, List.set_cons_succ, List.set_cons_zero, O_mv, yu, yg, xy, zm, yb, za, yx, yj, List.set_cons_zero, xj, zlv, decide_false]
    rw [zf4 _ _ _ _ _ rfl]
    rfl
  · exact junk rfl
def invK (r : Nat → U) : Nat → Nat → U
  | 0 => fun _ => 0#32
  | a + 1 => fun b => if (r a).getLsbD b then invK r a b ||| (1#32 <<< a) else invK r a b
def invR (r : Nat → U) : Nat → U := invK r 32
theorem zoo (r : Nat → U) (h : Heap) : DF FF zex [agg (relV r)] h = some (agg (relV (invR r)), h) := by
  refine wh zpb ?_
  simp only [zis, z7, zb, z8, zn, zc, zo, zf, zd, List.set_cons_succ, List.set_cons_zero, O_mv, List.cons_append, List.nil_append, List.length_cons, List.length_nil, Nat.reduceAdd, Nat.reduceSub, Nat.zero_add, zm, yb, zx, za, y0, w8, zh, zg, List.append_assoc, List.length_append, List.set_cons_zero, eq_self, yh, zt, x9, qz]
  refine pq 32 (fun a st => ∃ j : Nat → Value, st = ⟨[j 0, .pointer (some ⟨h.length, 0, some 0⟩), .pointer (some ⟨h.length + 1, 0, some 0⟩), .pointer (some ⟨h.length + 2, 0, some 0⟩), j 4, j 5, .int .i64 a, j 7, j 8, j 9, j 10, j 11, j 12, j 13, j 14, j 15, j 16, j 17, j 18, j 19, j 20, j 21, j 22, j 23, j 24, j 25, j 26],
      h ++ [.cells (relV r) 0 false, .cells (relV fun _ => 0#32) 0 false, .cells (relV (invK r a)) 0 false]⟩) ?_ ?_ _ ?_
  · rintro a st ha ⟨j, rfl⟩
    simp only [z7, zr, yl, zb, zw, z8, zn, zc, zo, zf, ze, zd, List.set_cons_succ, List.set_cons_zero, O_mv, yu, yg, xy, zm, yb, zx, za, List.set_cons_zero, lt32 ha, decide_true]
    refine pq 32 (fun b st => ∃ j : Nat → Value, st = ⟨[j 0, .pointer (some ⟨h.length, 0, some 0⟩), .pointer (some ⟨h.length + 1, 0, some 0⟩), .pointer (some ⟨h.length + 2, 0, some 0⟩), .int .i64 a, j 5, .int .i64 a, j 7, j 8, .int .i64 b, j 10, j 11, j 12, j 13, j 14, j 15, j 16, j 17, j 18, j 19, j 20, j 21, j 22, j 23, j 24, j 25, j 26],
      h ++ [.cells (relV r) 0 false, .cells (relV fun _ => 0#32) 0 false, .cells (relV (mix b (fun b => if (r a).getLsbD b then invK r a b ||| (1#32 <<< a) else invK r a b) (invK r a))) 0 false]⟩) ?_ ?_ _ ?_
    · rintro b st hb ⟨j, rfl⟩
      cases hc : (r a).getLsbD b
      · simp only [z7, zr, yl, zb, zw, zu, z8, zn, zc, zo, zf, ze, zd, List.set_cons_succ, List.set_cons_zero, O_mv, yu, yg, yf, List.map_cons, List.map_nil, zz, zk, vj, xy, Nat.zero_add, zm, yb, zx, za, zi, zc5, yy, yq, Nat.mul_one, List.set_cons_zero, zc4, zbl, yp, lt32 hb, nat0, ha, decide_true, xm (k := b) (by omega), zde, hc]
        rw [zf0 (by simp [hc])]
        exact junk rfl
      · simp only [z7, zr, yl, zb, zw, z8, zn, zc, zp, zo, zf, ze, zd, List.set_cons_succ, List.set_cons_zero, O_mv, yu, yg, yf, List.map_cons, List.map_nil, zz, zk, vj, yam, xy, ydu, Nat.zero_add, zm, yb, zx, za, zi, zc5, zl, xd, x5, fp, yy, bg, yq, yk, va, fx, b4, vg, Int.toNat_natCast, Nat.mul_one, List.set_cons_zero, eq_self, zc4, x9, zbl, b9, zlt, yp, u_or, ydk, lt32 hb, nat0, ha, hb, decide_true, xm (k := b) (by omega), zde, hc, if_true]
        exact junk rfl
    · rintro st ⟨j, rfl⟩
      simp only [z7, zr, w6, zb, zu, z8, zn, zc, zo, zf, ze, zd, List.set_cons_succ, List.set_cons_zero, O_mv, yu, yg, vj, xy, zm, yb, za, yx, zi, yj, List.set_cons_zero, b8, yp, xj, zlv, decide_false, xm (k := a) (by omega)]
      exact junk rfl
    · simp only [zdq]
      exact junk rfl
  · rintro st ⟨j, rfl⟩
    simp only [z7, zr, w6, xe, zb, zu, z8, zn, zc, zp, zo, zf, ze, zd, List.set_cons_succ, List.set_cons_zero, yu, yg, x7, y8, xy, zm, yb, za, yx, yj, zl, y4, ya, qq, qx, xh, yk, va, ve, vm, zs, Option.map_some, List.set_cons_zero, gg, qj, zbk, eq_self, x9, xj, zlv, decide_false]
    rfl
  · exact junk rfl
def zei (r : Nat → U) : Nat → Nat → U
  | 0 => r
  | b + 1 => fun a => if (zei r b a).getLsbD b then zei r b a ||| zei r b b else zei r b a
def zgz (r : Nat → U) : Nat → U := zei r 32
theorem ziy (r : Nat → U) (h : Heap) : DF FF zec [agg (relV r)] h = some (agg (relV (zgz r)), h) := by
  refine wh zvs ?_
  simp only [zm2, z7, zb, z8, zn, zc, zo, zf, zd, List.set_cons_succ, List.set_cons_zero, O_mv, List.cons_append, List.nil_append, List.length_cons, List.length_nil, Nat.reduceSub, Nat.zero_add, zm, yb, zx, za, y0, w8, zh, zg, List.append_assoc, List.length_append, List.set_cons_zero, eq_self, yh, zt, x9, qz]
  refine pq 32 (fun b st => ∃ j : Nat → Value, st = ⟨[j 0, .pointer (some ⟨h.length, 0, some 0⟩), .pointer (some ⟨h.length + 1, 0, some 0⟩), j 3, j 4, .int .i64 b, j 6, j 7, j 8, j 9, j 10, j 11, j 12, j 13, j 14, j 15, j 16, j 17, j 18, j 19, j 20, j 21, j 22, j 23, j 24, j 25, j 26],
      h ++ [.cells (relV (zei r b)) 0 false, .cells (relV fun _ => 0#32) 0 false]⟩) ?_ ?_ _ ?_
  · rintro b st hb ⟨j, rfl⟩
    simp only [z7, zr, yl, zb, zw, z8, zn, zc, zo, zf, ze, zd, List.set_cons_succ, List.set_cons_zero, O_mv, yu, yg, xy, zm, yb, zx, za, List.set_cons_zero, lt32 hb, decide_true]
    refine pq 32 (fun a st => ∃ j : Nat → Value, st = ⟨[j 0, .pointer (some ⟨h.length, 0, some 0⟩), .pointer (some ⟨h.length + 1, 0, some 0⟩), .int .i64 b, j 4, .int .i64 b, j 6, j 7, .int .i64 a, j 9, j 10, j 11, j 12, j 13, j 14, j 15, j 16, j 17, j 18, j 19, j 20, j 21, j 22, j 23, j 24, j 25, j 26],
      h ++ [.cells (relV (mix a (fun a => if (zei r b a).getLsbD b then zei r b a ||| zei r b b else zei r b a) (zei r b))) 0 false, .cells (relV fun _ => 0#32) 0 false]⟩) ?_ ?_ _ ?_
    · rintro a st ha ⟨j, rfl⟩
      have hmid : mix a (fun a => if (zei r b a).getLsbD b then zei r b a ||| zei r b b else zei r b a) (zei r b) b = zei r b b := by
        unfold mix
        by_cases hq : b < a
        · simp only [if_pos hq, BitVec.or_self, ite_self]
        · rw [if_neg hq]
      cases hc : (zei r b a).getLsbD b
      · simp only [z7, zr, yl, zb, zw, zu, z8, zn, zc, zo, zf, ze, zd, List.set_cons_succ, List.set_cons_zero, O_mv, yu, yg, yf, List.map_cons, List.map_nil, zz, zk, vj, xy, Nat.zero_add, zm, yb, zx, za, zi, zc5, yy, yq, Nat.mul_one, List.set_cons_zero, zc4, zbl, zlt, yp, lt32 ha, nat0, ha, decide_true, xm (k := a) (by omega), zde, hc]
        rw [zf0 (by simp [hc])]
        exact junk rfl
      · simp only [z7, zr, yl, zb, zw, z8, zn, zc, zp, zo, zf, ze, zd, List.set_cons_succ, List.set_cons_zero, O_mv, yu, yg, yf, List.map_cons, List.map_nil, zz, zk, vj, yam, xy, Nat.zero_add, zm, yb, zx, za, zi, zc5, zl, xd, x5, yy, yq, yk, j6, vg, Nat.mul_one, List.set_cons_zero, eq_self, zc4, x9, zbl, b9, zlt, yp, u_or, lt32 ha, nat0, ha, hb, decide_true, xm (k := a) (by omega), zde, hc, if_true, hmid]
        exact junk rfl
    · rintro st ⟨j, rfl⟩
      simp only [z7, zr, w6, zb, zu, z8, zn, zc, zo, zf, ze, zd, List.set_cons_succ, List.set_cons_zero, O_mv, yu, yg, vj, xy, zm, yb, za, yx, zi, yj, List.set_cons_zero, b8, yp, xj, zlv, decide_false, xm (k := b) (by omega)]
      exact junk rfl
    · simp only [zdq]
      exact junk rfl
  · rintro st ⟨j, rfl⟩
    simp only [z7, zr, w6, xe, zb, zu, z8, zn, zc, zp, zo, zf, ze, zd, List.set_cons_succ, List.set_cons_zero, yu, yg, x7, y8, xy, zm, yb, za, yx, yj, zl, y4, ya, qq, xr, qx, xh, yk, va, ve, vm, zs, Option.map_some, List.set_cons_zero, gg, qj, zbk, eq_self, x9, xj, zlv, decide_false]
    rfl
  · exact junk rfl
def zua (r : Nat → U) : Bool := zpm r fun _ => 0#32
theorem zk2 (r : Nat → U) (h : Heap) : DF FF zfc [agg (relV r)] h = some (.bool (zua r), h) := by
  refine wh zse ?_
  simp only [zmd, z7, xe, zb, z8, zn, zc, zo, zf, ze, zd, List.set_cons_succ, List.set_cons_zero, O_mv, yg, x7, y8, wg, y9, yc, yz, List.cons_append, List.nil_append, List.length_cons, List.length_nil, Nat.reduceSub, Nat.zero_add, zm, yb, za, w8, xr, xh, zh, zg, Option.map_some, List.set_cons_zero, Bool.bne_false, eq_self, yh, zt, zss, yfu, x9, qz]
  rw [zf4 _ _ _ _ _ rfl]
  simp [zua]
end Go.Proofs.YtljdbheclfaloaaGreatDoor.AM
namespace Go.Proofs.YtljdbheclfaloaaGreatDoor.AM
open Go.RowKit
set_option linter.unusedSimpArgs false
set_option linter.unusedVariables false
theorem Rels.len {h : Heap} {s : Value} {rs : List (Nat → U)} (e : Rels h s rs) (H : Heap) : lenO H s = some (.int .i64 rs.length, H) := by
  have := Sl.len e H
  rwa [List.length_map] at this
theorem Rels.at {h : Heap} {s : Value} {rs : List (Nat → U)} (e : Rels h s rs) {k : Nat} (hk : k < rs.length) : ∃ b o v, (∀ H, rowO H 32 s (.int .i64 (k : Int)) = some (.pointer (some ⟨b, o, some v⟩), H)) ∧ ∀ L, Heap.read (h ++ L) ⟨b, o, some v⟩ 32 = some (relV rs[k]) := by
  obtain ⟨b, o, v, h1, h2⟩ := Sl.at e (k := k) (by rw [List.length_map]; exact hk)
  exact ⟨b, o, v, h1, fun L => by rw [h2, List.getElem_map]⟩
def zbc (rs : List (Nat → U)) : Nat → U := fun e => rs.foldl (fun acc r => acc ||| r e) 0#32
theorem zti (rs : List (Nat → U)) {k : Nat} (hk : k < rs.length) : zbc (rs.take (k + 1)) = fun e => zbc (rs.take k) e ||| rs[k] e := by
  funext e; unfold zbc; rw [List.take_succ_eq_append_getElem hk, List.foldl_append]; rfl
theorem zlq (rs : List (Nat → U)) (s : Value) (h : Heap) (hs : Rels h s rs) (hl : rs.length < 4611686018427387904) : DF FF zai [s] h = some (agg (relV (zbc rs)), h) := by
  refine wh zth ?_
  simp only [zlo, z7, zb, z8, zn, zc, zo, zf, ze, zd, List.set_cons_succ, List.set_cons_zero, O_mv, j7, List.cons_append, List.nil_append, List.length_cons, List.length_nil, Nat.reduceSub, Nat.zero_add, zm, yb, zx, za, y0, zh, zg, List.append_assoc, List.length_append, List.set_cons_zero, qz, hs.len]
  refine pq rs.length (fun k st => ∃ (J : Heap) (j : Nat → Value), st = ⟨[j 0, j 1, .pointer (some ⟨h.length, 0, some 0⟩), .pointer (some ⟨h.length + 1, 0, some 0⟩), j 4, j 5, j 6, s, .int .i64 rs.length, .int .i64 k, j 10, j 11, j 12, j 13, j 14, j 15, j 16, j 17, j 18, j 19, j 20, j 21, j 22, j 23, j 24, j 25, j 26],
      h ++ (.cells (relV fun _ => 0#32) 0 false :: .cells (relV (zbc (rs.take k))) 0 false :: J)⟩) ?_ ?_ _ ?_
  · rintro k st hk ⟨J, j, rfl⟩
    obtain ⟨b, o, v, hp1, hp2⟩ := hs.at hk
    have h1 : (k : Int) < rs.length := by omega
    simp only [z7, zr, yl, zb, zw, z8, zn, zc, zp, zo, zf, ze, zd, List.set_cons_succ, List.set_cons_zero, O_mv, yu, yg, vh, x7, y8, xy, List.cons_append, List.length_cons, zm, yb, zx, za, y0, zl, y4, ya, yk, va, ve, zy, vm, zs, List.append_assoc, List.length_append, Option.map_some, List.set_cons_zero, eq_self, x9, h1, decide_true, hp1, hp2]
    refine pq 32 (fun e st => ∃ j : Nat → Value, st = ⟨[j 0, j 1, .pointer (some ⟨h.length, 0, some 0⟩), .pointer (some ⟨h.length + 1, 0, some 0⟩), j 4, .pointer (some ⟨h.length + (J.length + 1 + 1), 0, some 0⟩), j 6, s, .int .i64 rs.length, .int .i64 k, j 10, j 11, j 12, .int .i64 e, j 14, j 15, j 16, j 17, j 18, j 19, j 20, j 21, j 22, j 23, j 24, j 25, j 26],
      h ++ (.cells (relV fun _ => 0#32) 0 false :: .cells (relV (mix e (fun e => zbc (rs.take k) e ||| rs[k] e) (zbc (rs.take k)))) 0 false :: (J ++ [.cells (relV rs[k]) 0 false]))⟩) ?_ ?_ _ ?_
    · rintro e st he ⟨j, rfl⟩
      simp only [z7, zr, yl, zb, zw, z8, zn, zc, zp, zo, zf, ze, zd, List.set_cons_succ, List.set_cons_zero, O_mv, yu, yg, zz, zk, vj, yam, xy, Nat.zero_add, zm, yb, zx, za, zi, zc5, zl, xd, x5, fp, yy, bg, yq, yk, va, fx, b4, vg, Nat.mul_one, List.set_cons_zero, eq_self, zc4, x9, zbl, b9, zlt, yp, u_or, lt32 he, nat0, he, decide_true, xm (k := e) (by omega)]
      exact junk rfl
    · rintro st ⟨j, rfl⟩
      simp only [z7, zr, w6, zb, zu, z8, zn, zc, zo, zf, ze, zd, List.set_cons_succ, List.set_cons_zero, O_mv, yu, yg, vj, xy, zm, yb, za, yx, zi, yj, List.set_cons_zero, b8, yp, xj, zlv, decide_false, xm (k := k) (by omega), zti rs hk]
      exact ⟨_, junk rfl⟩
    · simp only [zdq]
      exact junk rfl
  · rintro st ⟨J, j, rfl⟩
    have h1 : ¬ ((rs.length : Nat) : Int) < rs.length := by omega
    simp only [z7, zr, w6, xe, zb, zu, z8, zn, zc, zp, zo, ze, zd, List.set_cons_succ, List.set_cons_zero, yu, yg, x7, y8, xy, zm, yb, za, yx, yj, zl, y4, ya, qq, xr, qx, xh, yk, zy, zs, Option.map_some, List.set_cons_zero, gg, qj, zbk, eq_self, x9, xj, h1, decide_false, List.take_length]
  · exact ⟨[], junk rfl⟩
def zhu (rs : List (Nat → U)) : Nat → U := fun e => rs.foldl (fun acc r => acc &&& r e) (zlx (BitVec.allOnes 32) (BitVec.allOnes 32) e)
theorem zvx (rs : List (Nat → U)) {k : Nat} (hk : k < rs.length) : zhu (rs.take (k + 1)) = fun e => zhu (rs.take k) e &&& rs[k] e := by
  funext e; unfold zhu; rw [List.take_succ_eq_append_getElem hk, List.foldl_append]; rfl
theorem zmz (rs : List (Nat → U)) (s : Value) (h : Heap) (hs : Rels h s rs) (hl : rs.length < 4611686018427387904) : DF FF zci [s] h = some (agg (relV (zhu rs)), h) := by
  have key : ∀ H, DF FF zcx [.int .u32 4294967295, .int .u32 4294967295] H = some (agg (relV (zlx (BitVec.allOnes 32) (BitVec.allOnes 32))), H) := fun H => zl7 (BitVec.allOnes 32) (BitVec.allOnes 32) H
  refine wh zv4 ?_
  simp only [znb, z7, zb, z8, zn, zc, zp, zo, zf, ze, zd, List.set_cons_succ, List.set_cons_zero, O_mv, yf, List.map_cons, List.map_nil, j7, List.cons_append, List.nil_append, List.length_cons, List.length_nil, Nat.reduceSub, Nat.zero_add, zm, yb, zx, za, y0, zl, y4, ya, yk, va, ve, vm, zs, zh, zg, List.append_assoc, List.length_append, List.set_cons_zero, eq_self, x9, qz, hs.len, key]
  refine pq rs.length (fun k st => ∃ (J : Heap) (j : Nat → Value), st = ⟨[j 0, j 1, .pointer (some ⟨h.length, 0, some 0⟩), .pointer (some ⟨h.length + 1, 0, some 0⟩), j 4, j 5, j 6, j 7, s, .int .i64 rs.length, .int .i64 k, j 11, j 12, j 13, j 14, j 15, j 16, j 17, j 18, j 19, j 20, j 21, j 22, j 23, j 24, j 25, j 26, j 27],
      h ++ (.cells (relV fun _ => 0#32) 0 false :: .cells (relV (zhu (rs.take k))) 0 false :: J)⟩) ?_ ?_ _ ?_
  · rintro k st hk ⟨J, j, rfl⟩
    obtain ⟨b, o, v, hp1, hp2⟩ := hs.at hk
    have h1 : (k : Int) < rs.length := by omega
    simp only [z7, zr, yl, zb, zw, z8, zn, zc, zp, zo, zf, ze, zd, List.set_cons_succ, List.set_cons_zero, O_mv, yu, yg, vh, x7, y8, xy, List.cons_append, List.length_cons, zm, yb, zx, za, y0, zl, y4, ya, yk, va, ve, zy, vm, zs, List.append_assoc, List.length_append, Option.map_some, List.set_cons_zero, eq_self, x9, h1, decide_true, hp1, hp2]
    refine pq 32 (fun e st => ∃ j : Nat → Value, st = ⟨[j 0, j 1, .pointer (some ⟨h.length, 0, some 0⟩), .pointer (some ⟨h.length + 1, 0, some 0⟩), j 4, .pointer (some ⟨h.length + (J.length + 1 + 1), 0, some 0⟩), j 6, j 7, s, .int .i64 rs.length, .int .i64 k, j 11, j 12, j 13, .int .i64 e, j 15, j 16, j 17, j 18, j 19, j 20, j 21, j 22, j 23, j 24, j 25, j 26, j 27],
      h ++ (.cells (relV fun _ => 0#32) 0 false :: .cells (relV (mix e (fun e => zhu (rs.take k) e &&& rs[k] e) (zhu (rs.take k)))) 0 false :: (J ++ [.cells (relV rs[k]) 0 false]))⟩) ?_ ?_ _ ?_
    · rintro e st he ⟨j, rfl⟩
      simp only [z7, zr, yl, zb, zw, z8, zn, zc, zp, zo, zf, ze, zd, List.set_cons_succ, List.set_cons_zero, O_mv, yu, yg, zz, zk, vj, zvc, xy, Nat.zero_add, zm, yb, zx, za, zi, zc5, zl, xd, x5, fp, yy, bg, yq, yk, va, fx, b4, vg, Nat.mul_one, List.set_cons_zero, eq_self, zc4, x9, zbl, b9, zlt, yp, ya4, lt32 he, nat0, he, decide_true, xm (k := e) (by omega)]
      exact junk rfl
    · rintro st ⟨j, rfl⟩
      simp only [z7, zr, w6, zb, zu, z8, zn, zc, zo, zf, ze, zd, List.set_cons_succ, List.set_cons_zero, O_mv, yu, yg, vj, xy, zm, yb, za, yx, zi, yj, List.set_cons_zero, b8, yp, xj, zlv, decide_false, xm (k := k) (by omega), zvx rs hk]
      exact ⟨_, junk rfl⟩
    · simp only [zdq]
      exact junk rfl
  · rintro st ⟨J, j, rfl⟩
    have h1 : ¬ ((rs.length : Nat) : Int) < rs.length := by omega
    simp only [z7, zr, w6, xe, zb, zu, z8, zn, zc, zp, zo, ze, zd, List.set_cons_succ, List.set_cons_zero, yu, yg, x7, y8, xy, zm, yb, za, yx, yj, zl, y4, ya, qq, xr, qx, xh, yk, zy, zs, Option.map_some, List.set_cons_zero, gg, qj, zbk, eq_self, x9, xj, h1, decide_false, List.take_length]
  · exact ⟨[], junk rfl⟩
def twoR (a b : Nat → U) : Nat → U := fun e => zwy (a e) b
def seqK (rs : List (Nat → U)) : Nat → U := rs.foldl twoR (idR (BitVec.allOnes 32))
theorem zx4 (rs : List (Nat → U)) {k : Nat} (hk : k < rs.length) : seqK (rs.take (k + 1)) = fun e => zwy (seqK (rs.take k) e) rs[k] := by
  unfold seqK; rw [List.take_succ_eq_append_getElem hk, List.foldl_append]; rfl
theorem zxw (rs : List (Nat → U)) (s : Value) (h : Heap) (hs : Rels h s rs) (hl : rs.length < 4611686018427387904) : DF FF ziw [s] h = some (agg (relV (seqK rs)), h) := by
  have key : ∀ H, DF FF zca [.int .u32 4294967295] H = some (agg (relV (idR (BitVec.allOnes 32))), H) := fun H => zic (BitVec.allOnes 32) H
  refine wh zw8 ?_
  simp only [zrd, z7, zb, z8, zn, zc, zp, zo, zf, ze, zd, List.set_cons_succ, List.set_cons_zero, O_mv, yf, List.map_cons, List.map_nil, j7, List.cons_append, List.nil_append, List.length_cons, List.length_nil, Nat.reduceSub, Nat.zero_add, zm, yb, zx, za, y0, zl, y4, ya, yk, va, ve, vm, zs, zh, zg, List.append_assoc, List.length_append, List.set_cons_zero, eq_self, x9, qz, hs.len, key]
  refine pq rs.length (fun k st => ∃ (J : Heap) (j : Nat → Value), st = ⟨[j 0, j 1, .pointer (some ⟨h.length, 0, some 0⟩), .pointer (some ⟨h.length + 1, 0, some 0⟩), j 4, j 5, j 6, j 7, s, .int .i64 rs.length, .int .i64 k, j 11, j 12, j 13, j 14, j 15, j 16, j 17, j 18, j 19, j 20, j 21, j 22, j 23, j 24, j 25, j 26],
      h ++ (.cells (relV fun _ => 0#32) 0 false :: .cells (relV (seqK (rs.take k))) 0 false :: J)⟩) ?_ ?_ _ ?_
  · rintro k st hk ⟨J, j, rfl⟩
    obtain ⟨b, o, v, hp1, hp2⟩ := hs.at hk
    have h1 : (k : Int) < rs.length := by omega
    simp only [z7, zr, yl, zb, zw, z8, zn, zc, zp, zo, zf, ze, zd, List.set_cons_succ, List.set_cons_zero, O_mv, yu, yg, vh, x7, y8, xy, List.cons_append, List.length_cons, zm, yb, zx, za, y0, zl, y4, ya, yk, va, ve, zy, vm, zs, List.append_assoc, List.length_append, Option.map_some, List.set_cons_zero, eq_self, x9, h1, decide_true, hp1, hp2]
    refine pq 32 (fun e st => ∃ j : Nat → Value, st = ⟨[j 0, j 1, .pointer (some ⟨h.length, 0, some 0⟩), .pointer (some ⟨h.length + 1, 0, some 0⟩), j 4, .pointer (some ⟨h.length + (J.length + 1 + 1), 0, some 0⟩), j 6, j 7, s, .int .i64 rs.length, .int .i64 k, j 11, j 12, j 13, .int .i64 e, j 15, j 16, j 17, j 18, j 19, j 20, j 21, j 22, j 23, j 24, j 25, j 26],
      h ++ (.cells (relV fun _ => 0#32) 0 false :: .cells (relV (mix e (fun e => zwy (seqK (rs.take k) e) rs[k]) (seqK (rs.take k)))) 0 false :: (J ++ [.cells (relV rs[k]) 0 false]))⟩) ?_ ?_ _ ?_
    · rintro e st he ⟨j, rfl⟩
      simp only [z7, zr, yl, zb, zw, z8, zn, zc, zp, zo, zf, ze, zd, List.set_cons_succ, List.set_cons_zero, O_mv, yu, yg, yf, List.map_cons, List.map_nil, zz, zk, x7, y8, vj, xy, Nat.zero_add, zm, yb, zx, za, zi, zc5, zl, xd, x5, fp, bg, yq, qq, xr, qx, xh, yk, va, fx, b4, vg, Nat.mul_one, Option.map_some, List.set_cons_zero, eq_self, zc4, x9, zbl, b9, zlt, yp, lt32 he, nat0, he, decide_true, xm (k := e) (by omega), zvo]
      exact junk rfl
    · rintro st ⟨j, rfl⟩
      simp only [z7, zr, w6, zb, zu, z8, zn, zc, zo, zf, ze, zd, List.set_cons_succ, List.set_cons_zero, O_mv, yu, yg, vj, xy, zm, yb, za, yx, zi, yj, List.set_cons_zero, b8, yp, xj, zlv, decide_false, xm (k := k) (by omega), zx4 rs hk]
      exact ⟨_, junk rfl⟩
    · simp only [zdq]
      exact junk rfl
  · rintro st ⟨J, j, rfl⟩
    have h1 : ¬ ((rs.length : Nat) : Int) < rs.length := by omega
    simp only [z7, zr, w6, xe, zb, zu, z8, zn, zc, zp, zo, ze, zd, List.set_cons_succ, List.set_cons_zero, yu, yg, x7, y8, xy, zm, yb, za, yx, yj, zl, y4, ya, qq, xr, qx, xh, yk, zy, zs, Option.map_some, List.set_cons_zero, gg, qj, zbk, eq_self, x9, xj, h1, decide_false, List.take_length]
  · exact ⟨[], junk rfl⟩
theorem Rels.last2 (h : Heap) (f g : Nat → U) : Rels (h ++ [.cells (relV f ++ relV g) 0 false]) (.slice (some ⟨h.length, 0, some 0⟩) 2 32) [f, g] :=
  Sl.last (rows := [relV f, relV g]) h (by simp) rfl (by simp [x9]) 0 false
theorem yeg (h : Heap) (a0 : AObj) (L : Heap) (f g : Nat → U) : DF FF zci [.slice (some ⟨h.length + 1, 0, some 0⟩) 2 32] (h ++ (a0 :: AObj.cells (relV f ++ relV g) 0 false :: L)) = some (agg (relV (zhu [f, g])), h ++ (a0 :: AObj.cells (relV f ++ relV g) 0 false :: L)) := by
  have := zmz [f, g] _ _ ((Rels.last2 (h ++ [a0]) f g).more L) (by simp)
  simpa using this
theorem zvi (h : Heap) (a0 a1 : AObj) (L : Heap) (f g : Nat → U) : DF FF zai [.slice (some ⟨h.length + 2, 0, some 0⟩) 2 32] (h ++ (a0 :: a1 :: AObj.cells (relV f ++ relV g) 0 false :: L)) = some (agg (relV (zbc [f, g])), h ++ (a0 :: a1 :: AObj.cells (relV f ++ relV g) 0 false :: L)) := by
  have := zlq [f, g] _ _ ((Rels.last2 (h ++ [a0, a1]) f g).more L) (by simp)
  simpa using this
theorem yaz (h : Heap) (a0 a1 a2 a3 : AObj) (L : Heap) (f g : Nat → U) : DF FF zai [.slice (some ⟨h.length + 4, 0, some 0⟩) 2 32] (h ++ (a0 :: a1 :: a2 :: a3 :: AObj.cells (relV f ++ relV g) 0 false :: L)) = some (agg (relV (zbc [f, g])), h ++ (a0 :: a1 :: a2 :: a3 :: AObj.cells (relV f ++ relV g) 0 false :: L)) := by
  have := zlq [f, g] _ _ ((Rels.last2 (h ++ [a0, a1, a2, a3]) f g).more L) (by simp)
  simpa using this
theorem yed (h : Heap) (a0 a1 a2 a3 : AObj) (L : Heap) (f g : Nat → U) : DF FF zci [.slice (some ⟨h.length + 4, 0, some 0⟩) 2 32] (h ++ (a0 :: a1 :: a2 :: a3 :: AObj.cells (relV f ++ relV g) 0 false :: L)) = some (agg (relV (zhu [f, g])), h ++ (a0 :: a1 :: a2 :: a3 :: AObj.cells (relV f ++ relV g) 0 false :: L)) := by
  have := zmz [f, g] _ _ ((Rels.last2 (h ++ [a0, a1, a2, a3]) f g).more L) (by simp)
  simpa using this
theorem yf8 (h : Heap) (a0 a1 a2 a3 : AObj) (L : Heap) (f g : Nat → U) : DF FF ziw [.slice (some ⟨h.length + 4, 0, some 0⟩) 2 32] (h ++ (a0 :: a1 :: a2 :: a3 :: AObj.cells (relV f ++ relV g) 0 false :: L)) = some (agg (relV (seqK [f, g])), h ++ (a0 :: a1 :: a2 :: a3 :: AObj.cells (relV f ++ relV g) 0 false :: L)) := by
  have := zxw [f, g] _ _ ((Rels.last2 (h ++ [a0, a1, a2, a3]) f g).more L) (by simp)
  simpa using this
end Go.Proofs.YtljdbheclfaloaaGreatDoor.AM
namespace Go.Proofs.YtljdbheclfaloaaGreatDoor.AM
open Go.RowKit
set_option linter.unusedSimpArgs false
set_option linter.unusedVariables false
def yhh (r : Nat → U) : Nat → Nat → Bool := fun a b => (r a).getLsbD b
def zhm (t : Nat → Nat → Bool) : Nat → Nat → Nat → Bool
  | 0 => t
  | k + 1 => fun a b => zhm t k a b || (zhm t k a k && zhm t k k b)
end Go.Proofs.YtljdbheclfaloaaGreatDoor.AM
namespace Go.Proofs.YtljdbheclfaloaaGreatDoor.AM
open Go.RowKit
set_option linter.unusedSimpArgs false
set_option linter.unusedVariables false
theorem zwk (u : U) (r : Nat → U) (h : Heap) : DF FF zix [.int .u32 u.toNat, agg (relV r)] h = some (agg (relV (zbc [zgz r, idR u])), h) := by
  refine wh zv2 ?_
  simp only [zmu, z7, xe, zb, z8, zn, zc, zp, zo, ze, zd, List.set_cons_succ, List.set_cons_zero, O_mv, yg, yf, List.map_cons, List.map_nil, x7, y8, ww, wd, yc, yd, xb, xi, List.cons_append, List.nil_append, List.length_cons, List.length_nil, Nat.reduceAdd, Nat.reduceSub, Nat.zero_add, zm, yb, za, slc, y0, w8, zl, y4, ya, qq, xr, qx, xh, yk, va, ve, vm, zs, zh, zg, List.append_assoc, List.length_append, List.append_nil, Option.map_some, List.set_cons_zero, zih, gg, qj, zbk, eq_self, yh, zt, x9, qz, ziy, zic, zvi]
theorem zto (u : U) (r : Nat → U) (h : Heap) : DF FF zhj [.int .u32 u.toNat, agg (relV r)] h = some (agg (relV (zbc [r, idR u])), h) := by
  refine wh zrq ?_
  simp only [zlz, z7, xe, zb, z8, zn, zc, zp, zo, ze, zd, List.set_cons_succ, List.set_cons_zero, O_mv, yg, yf, List.map_cons, List.map_nil, x7, y8, ww, wd, yc, yd, xb, xi, List.cons_append, List.nil_append, List.length_cons, List.length_nil, Nat.reduceAdd, Nat.reduceSub, Nat.zero_add, zm, yb, za, slc, y0, w8, zl, y4, ya, qq, xr, qx, xh, yk, va, ve, vm, zs, zh, zg, List.append_assoc, List.length_append, List.append_nil, Option.map_some, List.set_cons_zero, zih, gg, qj, zbk, eq_self, yh, zt, zy8, zri, x9, qz, zic, zvi]
def ztr (r : Nat → U) : Bool := zua (zhu [r, idR (BitVec.allOnes 32)])
theorem zd4 (r : Nat → U) (h : Heap) : DF FF pd [agg (relV r)] h = some (.bool (ztr r), h) := by
  have key : ∀ H, DF FF zca [.int .u32 4294967295] H = some (agg (relV (idR (BitVec.allOnes 32))), H) := fun H => zic (BitVec.allOnes 32) H
  refine wh zi5 ?_
  simp only [zd2, z7, xe, zb, z8, zn, zc, zp, zo, zf, ze, zd, List.set_cons_succ, List.set_cons_zero, O_mv, yg, yf, List.map_cons, List.map_nil, x7, y8, ww, wd, yc, yd, xb, xi, List.cons_append, List.nil_append, List.length_cons, List.length_nil, Nat.reduceSub, Nat.zero_add, zm, yb, za, slc, w8, xr, xh, zh, zg, List.append_assoc, List.length_append, List.append_nil, Option.map_some, List.set_cons_zero, zih, eq_self, yh, zt, zy8, zri, x9, qz, key, yeg, zk2]
  rw [zf4 _ _ _ _ _ rfl]
  rfl
def zup (r : Nat → U) : Bool := ztr (zgz r)
theorem zpd (r : Nat → U) (h : Heap) : DF FF zev [agg (relV r)] h = some (.bool (zup r), h) := by
  refine wh zoc ?_
  simp only [zim, z7, xe, zb, z8, zn, zc, zo, zf, ze, zd, List.set_cons_succ, List.set_cons_zero, O_mv, yg, yf, List.map_cons, List.map_nil, x7, y8, List.cons_append, List.nil_append, List.length_cons, List.length_nil, Nat.reduceSub, Nat.zero_add, zm, yb, za, w8, xr, xh, zh, zg, Option.map_some, List.set_cons_zero, eq_self, yh, zt, x9, ziy, zd4]
  rw [zf4 _ _ _ _ _ rfl]
  rfl
end Go.Proofs.YtljdbheclfaloaaGreatDoor.AM
namespace Go.Proofs.YtljdbheclfaloaaGreatDoor.AM
open Go.RowKit
set_option linter.unusedSimpArgs false
set_option linter.unusedVariables false
end Go.Proofs.YtljdbheclfaloaaGreatDoor.AM
namespace Go.Proofs.YtljdbheclfaloaaGreatDoor.AM
open Go.RowKit
set_option linter.unusedSimpArgs false
set_option linter.unusedVariables false
abbrev Bt (r : Nat → U) (a b : Nat) : Prop := (r a).getLsbD b = true
theorem bool_iff {x y : Bool} : x = y ↔ (x = true ↔ y = true) := by cases x <;> cases y <;> simp
theorem yet {f g : Nat → U} (h : ∀ a b, a < 32 → b < 32 → (Bt f a b ↔ Bt g a b)) : zpm f g = true :=
  sameR_iff.2 fun k hk => yee fun i hi => bool_iff.2 (h k i hk hi)
theorem zhf {i : Nat} (hi : i < 32) : (BitVec.allOnes 32).getLsbD i = true := by rw [BitVec.getLsbD_allOnes]; simp [hi]
theorem ydv (s : U) (a : Nat) {b : Nat} (hb : b < 32) : Bt (idR s) a b ↔ s.getLsbD b = true ∧ b = a := by
  unfold Bt idR; rw [BitVec.getLsbD_and, ygo hb, Bool.and_eq_true, decide_eq_true_eq]
theorem yan (s t : U) (a b : Nat) : Bt (zlx s t) a b ↔ s.getLsbD a = true ∧ t.getLsbD b = true := by
  unfold Bt zlx; cases h : s.getLsbD a <;> simp
theorem zy5 (f g : Nat → U) (a : Nat) {b : Nat} (hb : b < 32) : Bt (znn f g) a b ↔ Bt f a b ∧ ¬ Bt g a b := by
  unfold Bt znn; rw [BitVec.getLsbD_and, BitVec.getLsbD_not]; simp [hb]
theorem ybt (rs : List (Nat → U)) (e : Nat) (x : U) (b : Nat) : ((rs.foldl (fun acc r => acc ||| r e) x).getLsbD b = true) ↔ (x.getLsbD b = true ∨ ∃ r ∈ rs, Bt r e b) := by
  induction rs generalizing x with
  | nil => simp
  | cons r rs ih =>
    rw [List.foldl_cons, ih, BitVec.getLsbD_or, Bool.or_eq_true]
    simp only [List.mem_cons, exists_eq_or_imp, or_assoc]
theorem zzd (rs : List (Nat → U)) (a b : Nat) : Bt (zbc rs) a b ↔ ∃ r ∈ rs, Bt r a b := by
  unfold Bt zbc; rw [ybt]; simp
theorem zzu (rs : List (Nat → U)) (e : Nat) (x : U) (b : Nat) : ((rs.foldl (fun acc r => acc &&& r e) x).getLsbD b = true) ↔ (x.getLsbD b = true ∧ ∀ r ∈ rs, Bt r e b) := by
  induction rs generalizing x with
  | nil => simp
  | cons r rs ih =>
    rw [List.foldl_cons, ih, BitVec.getLsbD_and, Bool.and_eq_true]
    simp only [List.forall_mem_cons, and_assoc]
theorem ybd (rs : List (Nat → U)) {a b : Nat} (ha : a < 32) (hb : b < 32) : Bt (zhu rs) a b ↔ ∀ r ∈ rs, Bt r a b := by
  unfold Bt zhu; rw [zzu]
  have : Bt (zlx (BitVec.allOnes 32) (BitVec.allOnes 32)) a b := (yan _ _ a b).2 ⟨zhf ha, zhf hb⟩
  exact ⟨fun h => h.2, fun h => ⟨this, h⟩⟩
theorem zyy (s : U) (r : Nat → U) (k b : Nat) : (zjh s r k).getLsbD b = true ↔ ∃ e, e < k ∧ s.getLsbD e = true ∧ Bt r e b := by
  induction k with
  | zero => simp [zjh]
  | succ k ih =>
    rw [zjh]
    constructor
    · intro h
      split at h
      · rename_i hs
        rw [BitVec.getLsbD_or, Bool.or_eq_true, ih] at h
        rcases h with ⟨e, he, h1, h2⟩ | h
        · exact ⟨e, by omega, h1, h2⟩
        · exact ⟨k, by omega, hs, h⟩
      · obtain ⟨e, he, h1, h2⟩ := ih.1 h
        exact ⟨e, by omega, h1, h2⟩
    · rintro ⟨e, he, h1, h2⟩
      by_cases hk : e = k
      · subst hk; rw [if_pos h1, BitVec.getLsbD_or, Bool.or_eq_true]; exact .inr h2
      · have := ih.2 ⟨e, by omega, h1, h2⟩
        split
        · rw [BitVec.getLsbD_or, this]; rfl
        · exact this
theorem ybw (s : U) (r : Nat → U) (b : Nat) : (zwy s r).getLsbD b = true ↔ ∃ e, e < 32 ∧ s.getLsbD e = true ∧ Bt r e b := zyy s r 32 b
theorem zol (f g : Nat → U) (a b : Nat) : Bt (twoR f g) a b ↔ ∃ e, e < 32 ∧ Bt f a e ∧ Bt g e b := ybw _ _ _
theorem yfw (f : Nat → U) {a : Nat} (ha : a < 32) : twoR (idR (BitVec.allOnes 32)) f a = f a := by
  refine yee fun i hi => bool_iff.2 ?_
  rw [show ((twoR (idR (BitVec.allOnes 32)) f a).getLsbD i = true) = Bt (twoR (idR (BitVec.allOnes 32)) f) a i from rfl, zol]
  constructor
  · rintro ⟨e, he, h1, h2⟩
    rw [ydv _ _ he] at h1
    rw [← h1.2]; exact h2
  · intro h
    exact ⟨a, ha, (ydv _ _ ha).2 ⟨zhf ha, rfl⟩, h⟩
theorem zzp {f f' g g' : Nat → U} {a : Nat} (ha : f a = f' a) (hg : ∀ e, e < 32 → g e = g' e) : twoR f g a = twoR f' g' a := by
  refine yee fun i hi => bool_iff.2 ?_
  rw [show ((twoR f g a).getLsbD i = true) = Bt (twoR f g) a i from rfl, show ((twoR f' g' a).getLsbD i = true) = Bt (twoR f' g') a i from rfl, zol, zol]
  unfold Bt
  rw [ha]
  exact ⟨fun ⟨e, he, h1, h2⟩ => ⟨e, he, h1, by rw [← hg e he]; exact h2⟩, fun ⟨e, he, h1, h2⟩ => ⟨e, he, h1, by rw [hg e he]; exact h2⟩⟩
theorem ybb (f g : Nat → U) {a : Nat} (ha : a < 32) (b : Nat) : Bt (seqK [f, g]) a b ↔ ∃ e, e < 32 ∧ Bt f a e ∧ Bt g e b := by
  have : seqK [f, g] a = twoR f g a := zzp (yfw f ha) fun _ _ => rfl
  unfold Bt; rw [this]; exact zol f g a b
theorem yck (r : Nat → U) (k : Nat) (hk : k ≤ 32) (b : Nat) {a : Nat} (ha : a < 32) : Bt (invK r k) b a ↔ a < k ∧ Bt r a b := by
  induction k with
  | zero => simp [invK, Bt]
  | succ k ih =>
    have ih := ih (by omega)
    unfold Bt at ih ⊢
    rw [invK]
    simp only
    by_cases hc : (r k).getLsbD b = true
    · rw [if_pos hc, BitVec.getLsbD_or, Bool.or_eq_true, ih, ygo ha, decide_eq_true_eq]
      constructor
      · rintro (⟨h1, h2⟩ | h)
        · exact ⟨by omega, h2⟩
        · subst h; exact ⟨by omega, hc⟩
      · rintro ⟨h1, h2⟩
        by_cases h : a = k
        · exact .inr h
        · exact .inl ⟨by omega, h2⟩
    · rw [if_neg hc, ih]
      constructor
      · rintro ⟨h1, h2⟩; exact ⟨by omega, h2⟩
      · rintro ⟨h1, h2⟩
        have : a ≠ k := by rintro rfl; exact hc h2
        exact ⟨by omega, h2⟩
theorem ye2 (r : Nat → U) (b : Nat) {a : Nat} (ha : a < 32) : Bt (invR r) b a ↔ Bt r a b := by
  unfold invR; rw [yck r 32 (Nat.le_refl _) b ha]; simp [ha]
theorem zoa (r : Nat → U) (k : Nat) (hk : k ≤ 32) (a b : Nat) : (zei r k a).getLsbD b = zhm (yhh r) k a b := by
  induction k generalizing a b with
  | zero => rfl
  | succ k ih =>
    have ih := ih (by omega)
    rw [zei, zhm]
    simp only
    rw [← ih a b, ← ih a k, ← ih k b]
    split
    · rename_i h; rw [h, BitVec.getLsbD_or]; rfl
    · rename_i h; simp at h; rw [h]; simp
theorem yb7 (t : Nat → Nat → Bool) (k : Nat) {a b : Nat} (h : t a b = true) : zhm t k a b = true := by
  induction k with
  | zero => exact h
  | succ k ih => rw [zhm]; simp only; rw [ih]; rfl
theorem ztn (t : Nat → Nat → Bool) (k : Nat) : ∀ a m b, m < k → zhm t k a m = true → zhm t k m b = true → zhm t k a b = true := by
  induction k with
  | zero => intro a m b h; omega
  | succ k ih =>
    intro a m b hm h1 h2
    rw [zhm] at h1 h2 ⊢
    simp only [Bool.or_eq_true, Bool.and_eq_true] at h1 h2 ⊢
    by_cases e : m = k
    · subst e
      have g1 : zhm t m a m = true := by
          rcases h1 with h | h
          · exact h
          · exact h.1
      have g2 : zhm t m m b = true := by
          rcases h2 with h | h
          · exact h
          · exact h.2
      exact .inr ⟨g1, g2⟩
    · have hmk : m < k := by omega
      rcases h1 with h1 | ⟨h1, h1'⟩
      · rcases h2 with h2 | ⟨h2, h2'⟩
        · exact .inl (ih a m b hmk h1 h2)
        · exact .inr ⟨ih a m k hmk h1 h2, h2'⟩
      · rcases h2 with h2 | ⟨h2, h2'⟩
        · exact .inr ⟨h1, ih k m b hmk h1' h2⟩
        · exact .inr ⟨h1, h2'⟩
theorem zts (t : Nat → Nat → Bool) (S : Nat → Nat → Prop) (hs : ∀ a b, t a b = true → S a b) (k : Nat) (ht : ∀ a m b, m < k → S a m → S m b → S a b) : ∀ a b, zhm t k a b = true → S a b := by
  induction k with
  | zero => exact hs
  | succ k ih =>
    intro a b h
    have ih := ih fun a m b hm => ht a m b (by omega)
    rw [zhm] at h
    simp only [Bool.or_eq_true, Bool.and_eq_true] at h
    rcases h with h | ⟨h1, h2⟩
    · exact ih a b h
    · exact ht a k b (by omega) (ih a k h1) (ih k b h2)
theorem yfn (r : Nat → U) {a b : Nat} (h : Bt r a b) : Bt (zgz r) a b := by
  unfold Bt zgz; rw [zoa r 32 (Nat.le_refl _)]; exact yb7 _ _ h
theorem zwh (r : Nat → U) {a m b : Nat} (hm : m < 32) (h1 : Bt (zgz r) a m) (h2 : Bt (zgz r) m b) : Bt (zgz r) a b := by
  unfold Bt zgz at *; rw [zoa r 32 (Nat.le_refl _)] at *; exact ztn _ _ a m b hm h1 h2
theorem zwn (r : Nat → U) (S : Nat → Nat → Prop) (hs : ∀ a b, Bt r a b → S a b) (ht : ∀ a m b, m < 32 → S a m → S m b → S a b) {a b : Nat} (h : Bt (zgz r) a b) : S a b := by
  unfold Bt zgz at h; rw [zoa r 32 (Nat.le_refl _)] at h
  exact zts _ S hs 32 ht a b h
theorem ygn (x : U) : (((x.toNat : Int) == 0) : Bool) = (x == 0#32) := u_eq x 0#32
end Go.Proofs.YtljdbheclfaloaaGreatDoor.AM
namespace Go.Proofs.YtljdbheclfaloaaGreatDoor.AM
open Go.RowKit
set_option linter.unusedSimpArgs false
set_option linter.unusedVariables false
set_option maxRecDepth 20000
/-- What a name or a part stands for: a set, a relation. -/
structure Vv where
  s : U
  r : Nat → U
def v0 : Vv := ⟨0#32, fun _ => 0#32⟩
abbrev En := List (Bys × Bool × Vv)
def bv (w : Bys) : En → Option (Bool × Vv)
  | [] => none
  | (k, b, v) :: r => if w == k then some (b, v) else bv w r
def evU (u : U) (o : Op1) (v : Vv) : Vv := match o with
  | .plus => ⟨0#32, zgz v.r⟩
  | .star => ⟨0#32, zbc [zgz v.r, idR u]⟩
  | .maybe => ⟨0#32, zbc [v.r, idR u]⟩
  | .inv => ⟨0#32, invR v.r⟩
def evB (o : Op2) (a b : Vv) : Vv := match o with
  | .or => ⟨a.s ||| b.s, zbc [a.r, b.r]⟩
  | .and => ⟨a.s &&& b.s, zhu [a.r, b.r]⟩
  | .minus => ⟨a.s &&& ~~~ b.s, znn a.r b.r⟩
  | .seq => ⟨0#32, seqK [a.r, b.r]⟩
  | .cross => ⟨0#32, zlx a.s b.s⟩
def evE (u : U) (env : En) : Ex → Vv
  | .name _ _ w => ((bv w env).map (·.2)).getD v0
  | .zero _ => v0
  | .par _ _ e => evE u env e
  | .box _ e => ⟨0#32, idR (evE u env e).s⟩
  | .un o e => evU u o (evE u env e)
  | .bin _ o l r => evB o (evE u env l) (evE u env r)
def Typ (kn : Kn) : Ex → Prop
  | .name s _ w => ji kn w = some s
  | .zero _ => True
  | .par s _ e => s = e.set ∧ Typ kn e
  | .box _ e => e.set = true ∧ Typ kn e
  | .un _ e => e.set = false ∧ Typ kn e
  | .bin s o l r => Typ kn l ∧ Typ kn r ∧ (match o with | .seq => l.set = false ∧ r.set = false | .cross => l.set = true ∧ r.set = true | _ => s = l.set ∧ r.set = l.set)
theorem zes {kn : Kn} {rc : List Bys} : ∀ {e e' : Ex} {rt : Bool}, chkE kn rc rt e = .ok e' → Typ kn e'
  | .name s a w, e', rt, h => by
    rw [chkE] at h
    split at h
    · cases h
    · rename_i t ht
      split at h
      · cases h
      · cases h; exact ht
  | .zero a, e', rt, h => by rw [chkE] at h; cases h; trivial
  | .par s a e, e', rt, h => by
    rw [chkE] at h
    split at h
    · cases h
    · rename_i x hx
      cases h; exact ⟨rfl, zes hx⟩
  | .box a e, e', rt, h => by
    rw [chkE] at h
    split at h
    · cases h
    · rename_i x hx
      split at h
      · rename_i hs; cases h; exact ⟨hs, zes hx⟩
      · cases h
  | .un o e, e', rt, h => by
    rw [chkE] at h
    split at h
    · cases h
    · rename_i x hx
      split at h
      · cases h
      · rename_i hs; cases h; exact ⟨by simpa using hs, zes hx⟩
  | .bin s o l r, e', rt, h => by
    rw [chkE] at h
    cases hl : chkE kn rc rt l with
    | bad c a => rw [hl] at h; cases h
    | ok l' =>
      rw [hl] at h
      simp only at h
      cases hr : chkE kn rc (rt || o == .minus) r with
      | bad c a => rw [hr] at h; cases h
      | ok r' =>
        rw [hr] at h
        have tl := zes hl
        have tr := zes hr
        cases o
        case seq =>
          simp only at h
          split at h
          · cases h
          · split at h
            · cases h
            · rename_i h1 h2; cases h; exact ⟨tl, tr, by simpa using h1, by simpa using h2⟩
        case cross =>
          simp only at h
          split at h
          · cases h
          · split at h
            · cases h
            · rename_i h1 h2; cases h; exact ⟨tl, tr, by simpa using h1, by simpa using h2⟩
        all_goals
          simp only at h
          split at h
          · cases h
          · rename_i h1; cases h; exact ⟨tl, tr, rfl, by simpa using h1⟩
def vw (nm : Bys) (st : Bool) (v : Vv) : List Value := str nm :: .bool st :: .int .u32 (v.s.toNat : Int) :: relV v.r
theorem kg (nm : Bys) (st : Bool) (v : Vv) : (vw nm st v).length = 35 := by simp [vw, x9]
theorem bd_0 (nm : Bys) (st : Bool) (v : Vv) : (vw nm st v)[0]? = some (str nm) := rfl
theorem bd_1 (nm : Bys) (st : Bool) (v : Vv) : (vw nm st v)[1]? = some (.bool st) := rfl
theorem bd_2 (nm : Bys) (st : Bool) (v : Vv) : (vw nm st v)[2]? = some (.int .u32 (v.s.toNat : Int)) := rfl
theorem zxi (nm : Bys) (st : Bool) (v : Vv) : ((vw nm st v).drop 3).take 32 = relV v.r := by
  show (relV v.r).take 32 = relV v.r
  exact List.take_of_length_le (by rw [x9]; exact Nat.le_refl _)
theorem ycs (nm : Bys) (st : Bool) (v : Vv) : (vw nm st v).all plain1 = true := by
  have := znc v.r
  unfold vw
  rw [List.all_cons, List.all_cons, List.all_cons, this]; rfl
theorem j2 : (str [] :: .bool false :: List.replicate 33 (.int .u32 0) : List Value) = vw [] false v0 := by
  unfold vw
  rw [show List.replicate 33 (Value.int .u32 0) = .int .u32 0 :: List.replicate 32 (.int .u32 0) from rfl, qz]; rfl
theorem zi2 (nm nm' : Bys) (st : Bool) (v : Vv) : (vw nm st v).set 0 (str nm') = vw nm' st v := rfl
theorem zdt (nm : Bys) (st st' : Bool) (v : Vv) : (vw nm st v).set 1 (.bool st') = vw nm st' v := rfl
theorem zyx (nm : Bys) (st : Bool) (v : Vv) (x : U) : (vw nm st v).set 2 (.int .u32 (x.toNat : Int)) = vw nm st ⟨x, v.r⟩ := rfl
theorem ye4 (nm : Bys) (st : Bool) (v : Vv) (L : Heap) : Heap.read (.cells (vw nm st v) 0 false :: L) ⟨0, 3, some 0⟩ 32 = some (relV v.r) := by
  simp only [Heap.read, List.getElem?_cons_zero]
  rw [if_pos ⟨trivial, by rw [kg]; decide⟩, zxi]
theorem ya3 (nm : Bys) (st : Bool) (v : Vv) (r : Nat → U) (L : Heap) : Heap.write (.cells (vw nm st v) 0 false :: L) ⟨0, 3, some 0⟩ (relV r) = some (.cells (vw nm st ⟨v.s, r⟩) 0 false :: L) := by
  simp only [Heap.write, List.getElem?_cons_zero, List.set_cons_zero]
  rw [if_pos ⟨trivial, by rw [kg, x9]; decide⟩]
  have : splice (vw nm st v) 3 (relV r) = vw nm st ⟨v.s, r⟩ := by
    unfold splice
    rw [x9]
    show (str nm :: .bool st :: .int .u32 (v.s.toNat : Int) :: ([] ++ relV r ++ (relV v.r).drop 32)) = _
    rw [List.drop_eq_nil_of_le (by rw [x9]; exact Nat.le_refl _)]
    simp [vw]
  rw [this]
theorem zhx (h L : Heap) (nm : Bys) (st : Bool) (v : Vv) : outE h (h ++ L) (some (vw nm st v)) = some (agg (vw nm st v), h) := znm h L (ycs nm st v)
theorem zz8 (f g : Nat → U) : zbh (List.replicate 32 .int) (relV f) (relV g) = some (zpm f g) := by
  have := zp6 (zby 32 f) (zby 32 g) (by rw [f9, f9])
  rw [f9] at this
  have e : ∀ f : Nat → U, (zby 32 f).map (fun x => Value.int .u32 (x.toNat : Int)) = relV f := fun f => by unfold relV zby; rw [List.map_map]; rfl
  rw [e, e] at this
  exact this
def zyf (a b : Vv) : Bool := a.s == b.s && zpm a.r b.r
theorem ybz (a b : Bys) : qw .str (str a) (str b) = some (a == b) := by
  show some ((⟨a.toArray⟩ : ByteArray) == ⟨b.toArray⟩) = _
  rw [zlm]
theorem yg6 (h : Heap) (neg : Bool) (n1 n2 : Bys) (s1 s2 : Bool) (v1 v2 : Vv) : zng h neg (.str :: .bool :: .int :: List.replicate 32 .int) (agg (vw n1 s1 v1)) (agg (vw n2 s2 v2)) = some (.bool ((n1 == n2 && (s1 == s2 && zyf v1 v2)) != neg), h) := by
  refine znl h (by rw [kg]; simp) (by rw [kg]; simp) ?_
  unfold vw zyf
  rw [zbh, ybz]
  cases h1 : n1 == n2
  · simp
  · simp only [Bool.true_and]
    rw [zbh]
    simp only [qw]
    cases h2 : s1 == s2
    · simp
    · simp only [Bool.true_and]
      rw [zbh]
      simp only [qw, if_true]
      rw [u_eq]
      cases h3 : v1.s == v2.s
      · simp
      · simp only [Bool.true_and]
        exact zz8 _ _
theorem zu0 : ∀ (x X : List UInt8), remK x + 1 < x.length → remK (x ++ X) = remK x
  | [], X, h => by simp [remK] at h
  | [c], X, h => by simp [remK] at h
  | c :: d :: l, X, h => by
    rw [List.cons_append, List.cons_append, remK, remK]
    rw [remK] at h
    split
    · rfl
    · rename_i hc
      rw [if_neg hc] at h
      have := zu0 (d :: l) X (by simp at h ⊢; omega)
      rw [List.cons_append] at this
      rw [this]
theorem zty {x y : UInt8} (hy : y ≠ 32) {X : List UInt8} (hX : zxf X) (c : UInt8) (s : List UInt8) : [x, y].isPrefixOf (c :: s ++ X) = [x, y].isPrefixOf (c :: s) := by
  cases s with
  | nil =>
    rcases hX with rfl | ⟨Y, rfl⟩
    · rfl
    · simp [List.isPrefixOf]; intro _; exact hy
  | cons d s => simp [List.isPrefixOf]
theorem zs9 {p : Int → Bool} (hp : p 32 = false) {X : List UInt8} (hX : zxf X) : ∀ s : List UInt8, rowN p (s ++ X) = rowN p s
  | [] => by
    rcases hX with rfl | ⟨Y, rfl⟩
    · rfl
    · simp [rowN, hp]
  | c :: s => by rw [List.cons_append, rowN, rowN, zs9 hp hX s]
theorem ydq (p : Int → Bool) : ∀ s : List UInt8, rowN p s ≤ s.length
  | [] => by simp [rowN]
  | c :: s => by have := ydq p s; rw [rowN]; split <;> simp <;> omega
theorem zpt {s : List UInt8} (hs : s ≠ []) {X : List UInt8} (hX : zxf X) (h : zcd s ≠ .err) : zcd (s ++ X) = zcd s := by
  cases s with
  | nil => exact absurd rfl hs
  | cons c s =>
    rw [List.cons_append, zcd, zcd]
    rw [zcd] at h
    split
    · rfl
    · rename_i hb
      rw [if_neg hb] at h
      have := zty (x := 40) (y := 42) (by decide) hX c s
      rw [List.cons_append] at this
      rw [this]
      split
      · rename_i h2
        rw [if_pos h2] at h
        have h3 : remK (s.drop 1) + 1 < (s.drop 1).length := by
          apply Classical.byContradiction; intro h3; rw [if_neg h3] at h; exact h rfl
        cases s with
        | nil => simp at h3
        | cons d s =>
          simp only [List.cons_append, List.drop_succ_cons, List.drop_zero] at h3 ⊢
          rw [zu0 s X h3, if_pos h3, if_pos (by simp; omega)]
      · rfl
theorem yao {s : List UInt8} (hs : s ≠ []) {X : List UInt8} (hX : zxf X) : zcv (s ++ X) = zcv s := by
  cases s with
  | nil => exact absurd rfl hs
  | cons c s =>
    have e1 := zty (x := 47) (y := 92) (by decide) hX c s
    have e2 := zty (x := 92) (y := 47) (by decide) hX c s
    have e3 := zs9 (p := numB) (by decide) hX (c :: s)
    have e4 := zs9 (p := namB) (by decide) hX (c :: s)
    have e5 : ((c :: s) ++ X).take (rowN numB (c :: s)) = (c :: s).take (rowN numB (c :: s)) := List.take_append_of_le_length (ydq _ _)
    rw [List.cons_append] at e1 e2 e3 e4 e5 ⊢
    rw [zcv, zcv, e1, e2, e3, e4, e5]
theorem zo4 {X : List UInt8} (hX : zxf X) : ∀ (n : Nat) (s : List UInt8) (a : Nat) (m : List Tok), s.length ≤ n → fi s a = .ok m → fi (s ++ X) a = (fi X (a + s.length)).pre m
  | 0, s, a, m, hn, h => by
    have : s = [] := List.eq_nil_of_length_eq_zero (by omega)
    subst this
    rw [zf2] at h; cases h
    simp only [List.nil_append, List.length_nil, Nat.add_zero]
    cases fi X a <;> rfl
  | n + 1, s, a, m, hn, h => by
    by_cases hs : s = []
    · subst hs
      rw [zf2] at h; cases h
      simp only [List.nil_append, List.length_nil, Nat.add_zero]
      cases fi X a <;> rfl
    · have hs' : s ++ X ≠ [] := by simp [hs]
      rw [zar hs] at h
      cases hk : zcd s with
      | err => rw [hk] at h; cases h
      | go k =>
        rw [hk] at h
        have hp := zfz hk
        rw [zar hs', zpt hs hX (by rw [hk]; simp), hk]
        simp only
        rw [List.drop_append_of_le_length hp.2, zo4 hX n _ _ m (by simp; omega) h]
        congr 2; simp; omega
      | no =>
        rw [hk] at h
        rw [zar hs', zpt hs hX (by rw [hk]; simp), hk, yao hs hX]
        cases hw : zcv s with
        | bad c => rw [hw] at h; cases h
        | word kd k x =>
          rw [hw] at h
          have hp := zef hw
          obtain ⟨m', h1, rfl⟩ := zuu h
          simp only
          rw [List.drop_append_of_le_length hp.2, List.take_append_of_le_length hp.2, zo4 hX n _ _ m' (by simp; omega) h1, Res.pre_pre]
          congr 2; simp; omega
theorem zm9 (R : List Tok) : ∀ m : List Tok, bo R m (m ++ R)
  | [] => rfl
  | t :: m => ⟨⟨rfl, rfl, rfl⟩, zm9 R m⟩
theorem zvy (s : List UInt8) (a : Nat) : fi (32 :: s) a = fi s (a + 1) := by rw [zar (by simp)]; rfl
theorem Ex.er_set (e : Ex) : e.er.set = e.set := by cases e <;> rfl
theorem zlw (u : U) (env : En) : ∀ e : Ex, evE u env e.er = evE u env e
  | .name _ _ _ => rfl
  | .zero _ => rfl
  | .par _ _ e => zlw u env e
  | .box _ e => by simp only [Ex.er, evE, zlw u env e]
  | .un _ e => by simp only [Ex.er, evE, zlw u env e]
  | .bin _ _ l r => by simp only [Ex.er, evE, zlw u env l, zlw u env r]
theorem zjd {u : U} {env : En} {x x' : Ex} (h : x'.er = x.er) : evE u env x' = evE u env x ∧ x'.set = x.set := by
  rw [← zlw, ← zlw u env x, ← Ex.er_set, ← Ex.er_set x, h]; exact ⟨rfl, rfl⟩
theorem ze0 {kn : Kn} {rc : List Bys} : ∀ {x x' y : Ex} {rt : Bool}, x'.er = x.er → chkE kn rc rt x = .ok y → ∃ y', chkE kn rc rt x' = .ok y' ∧ y'.er = y.er
  | .name s a w, x', y, rt, h, hy => by
    cases x' <;> simp only [Ex.er, Ex.name.injEq, reduceCtorEq] at h
    obtain ⟨rfl, _, rfl⟩ := h
    rw [chkE] at hy ⊢
    split at hy
    · cases hy
    · rename_i t ht
      split at hy
      · cases hy
      · rename_i hc
        cases hy; rw [if_neg hc]; exact ⟨_, rfl, rfl⟩
  | .zero a, x', y, rt, h, hy => by
    cases x' <;> simp only [Ex.er, reduceCtorEq] at h
    rw [chkE] at hy ⊢; cases hy; exact ⟨_, rfl, rfl⟩
  | .par s a e, x', y, rt, h, hy => by
    cases x' <;> simp only [Ex.er, Ex.par.injEq, reduceCtorEq] at h
    obtain ⟨rfl, _, h⟩ := h
    rw [chkE] at hy ⊢
    split at hy
    · cases hy
    · rename_i z hz
      obtain ⟨z', h1, h2⟩ := ze0 h hz
      cases hy; rw [h1]
      exact ⟨_, rfl, by simp only [Ex.er, h2]; rw [← Ex.er_set, h2, Ex.er_set]⟩
  | .box a e, x', y, rt, h, hy => by
    cases x' <;> simp only [Ex.er, Ex.box.injEq, reduceCtorEq] at h
    obtain ⟨_, h⟩ := h
    rw [chkE] at hy ⊢
    split at hy
    · cases hy
    · rename_i z hz
      obtain ⟨z', h1, h2⟩ := ze0 h hz
      have hs : z'.set = z.set := by rw [← Ex.er_set, h2, Ex.er_set]
      rw [h1]; simp only [hs]
      split at hy
      · rename_i hc
        cases hy; rw [if_pos hc]; exact ⟨_, rfl, by simp only [Ex.er, h2]⟩
      · cases hy
  | .un o e, x', y, rt, h, hy => by
    cases x' <;> simp only [Ex.er, Ex.un.injEq, reduceCtorEq] at h
    obtain ⟨rfl, h⟩ := h
    rw [chkE] at hy ⊢
    split at hy
    · cases hy
    · rename_i z hz
      obtain ⟨z', h1, h2⟩ := ze0 h hz
      have hs : z'.set = z.set := by rw [← Ex.er_set, h2, Ex.er_set]
      rw [h1]; simp only [hs]
      split at hy
      · cases hy
      · rename_i hc
        cases hy; rw [if_neg hc]; exact ⟨_, rfl, by simp only [Ex.er, h2]⟩
  | .bin s o l r, x', y, rt, h, hy => by
    cases x' <;> simp only [Ex.er, Ex.bin.injEq, reduceCtorEq] at h
    obtain ⟨e1, e2, hl, hr⟩ := h
    rw [e1, e2]
    rw [chkE] at hy ⊢
    cases hL : chkE kn rc rt l with
    | bad c a => rw [hL] at hy; cases hy
    | ok l1 =>
      rw [hL] at hy
      simp only at hy
      cases hR : chkE kn rc (rt || o == .minus) r with
      | bad c a => rw [hR] at hy; cases hy
      | ok r1 =>
        rw [hR] at hy
        obtain ⟨l2, h1, h2⟩ := ze0 hl hL
        obtain ⟨r2, h3, h4⟩ := ze0 hr hR
        have hs1 : l2.set = l1.set := by rw [← Ex.er_set, h2, Ex.er_set]
        have hs2 : r2.set = r1.set := by rw [← Ex.er_set, h4, Ex.er_set]
        rw [h1]; simp only [h3, hs1, hs2]
        cases o <;> simp only at hy ⊢ <;> split at hy <;> rename_i hc <;> first | (cases hy; done) | skip
        all_goals first
          | (cases hy; rw [if_neg hc]; exact ⟨_, rfl, by simp only [Ex.er, h2, h4]⟩)
          | (split at hy <;> rename_i hc2 <;> first | (cases hy; done) | (cases hy; rw [if_neg hc, if_neg hc2]; exact ⟨_, rfl, by simp only [Ex.er, h2, h4]⟩))
/-- It can't be in order, where the other is. -/
def Clash (x x' : Ex) : Prop := ∀ kn rc rt y y', chkE kn rc rt x = .ok y → chkE kn rc rt x' ≠ .ok y'
theorem zln {kn : Kn} {rc : List Bys} {rt s : Bool} {o : Op2} {l r y : Ex} (h : chkE kn rc rt (.bin s o l r) = .ok y) : (∃ l', chkE kn rc rt l = .ok l') ∧ ∃ r', chkE kn rc (rt || o == .minus) r = .ok r' := by
  rw [chkE] at h
  cases hl : chkE kn rc rt l with
  | bad c a => rw [hl] at h; cases h
  | ok l' =>
    rw [hl] at h
    simp only at h
    cases hr : chkE kn rc (rt || o == .minus) r with
    | bad c a => rw [hr] at h; cases h
    | ok r' => exact ⟨⟨l', rfl⟩, r', rfl⟩
theorem Clash.left {x x' : Ex} (h : Clash x x') (s : Bool) (o : Op2) (w : Ex) : Clash x (.bin s o x' w) := by
  intro kn rc rt y y' hy hy'
  obtain ⟨⟨l', hl⟩, _⟩ := zln hy'
  exact h kn rc rt y l' hy hl
theorem Clash.right {y y' : Ex} (h : Clash y y') (s s' : Bool) (o : Op2) (x x' : Ex) : Clash (.bin s o x y) (.bin s' o x' y') := by
  intro kn rc rt z z' hz hz'
  obtain ⟨_, r, hr⟩ := zln hz
  obtain ⟨_, r', hr'⟩ := zln hz'
  exact h kn rc _ r r' hr hr'
theorem zv3 {x x' : Ex} (h : x'.er = x.er) (s : Bool) (w : Ex) : Clash (.un .star x) (.bin s .cross x' w) := by
  intro kn rc rt y y' hy hy'
  rw [chkE] at hy
  cases hx : chkE kn rc rt x with
  | bad c a => rw [hx] at hy; cases hy
  | ok z =>
    rw [hx] at hy
    simp only at hy
    split at hy
    · cases hy
    · rename_i hs
      obtain ⟨z', h1, h2⟩ := ze0 h hx
      have e : z'.set = z.set := by rw [← Ex.er_set, h2, Ex.er_set]
      rw [chkE, h1] at hy'
      simp only at hy'
      split at hy'
      · cases hy'
      · rename_i r' hr'
        have hz : z'.set = false := by rw [e]; simpa using hs
        rw [hz] at hy'
        simp at hy'
structure zid (R : List Tok) : Prop where
  ne : R ≠ []
  no : ∀ t r, R = t :: r → orM (keyT t) = none ∧ andM (keyT t) = none ∧ seqM (keyT t) = none ∧ (keyT t == [43]) = false ∧ (keyT t == [63]) = false ∧ (keyT t == [42]) = false ∧ (keyT t == [94]) = false
def zu6 (t : Tok) : Prop := keyT t = [42]
def RelO (R : List Tok) : PR Ex → PR Ex → Prop
  | .bad _ _, _ => True
  | .ok _ _, .bad _ _ => True
  | .ok x [], .ok x' r' => (x'.er = x.er ∧ r' = R) ∨ ∃ z t, x = .un .star z ∧ x'.er = z.er ∧ zu6 t ∧ r' = t :: R
  | .ok x (t :: r), .ok x' r' => x'.er = x.er ∧ bo R (t :: r) r'
def RelX (R : List Tok) : PR Ex → PR Ex → Prop
  | .bad _ _, _ => True
  | .ok _ _, .bad _ _ => True
  | .ok x [], .ok x' r' => (x'.er = x.er ∧ r' = R) ∨ (∃ t, zu6 t ∧ r' = t :: R) ∨ Clash x x'
  | .ok x (t :: r), .ok x' r' => x'.er = x.er ∧ bo R (t :: r) r'
def RelP (R : List Tok) : PR Ex → PR Ex → Prop
  | .bad _ _, _ => True
  | .ok _ _, .bad _ _ => True
  | .ok x r, .ok x' r' => x'.er = x.er ∧ bo R r r'
def RelF (D : PR Ex → PR Ex → Prop) (R : List Tok) (f g : List Tok → PR Ex) : Prop := ∀ ts ts', bo R ts ts' → D (f ts) (g ts')
theorem RelO.bad (R : List Tok) (p : PR Ex) (c a : Nat) : RelO R p (.bad c a) := by
  cases p with
  | bad _ _ => trivial
  | ok x r => cases r <;> trivial
theorem RelX.bad (R : List Tok) (p : PR Ex) (c a : Nat) : RelX R p (.bad c a) := by
  cases p with
  | bad _ _ => trivial
  | ok x r => cases r <;> trivial
theorem RelP.bad (R : List Tok) (p : PR Ex) (c a : Nat) : RelP R p (.bad c a) := by
  cases p <;> trivial
section
variable {R : List Tok}
theorem zwg (s : zid R) (e e' : Nat) : ∀ (k k' : Nat) (x x' : Ex) (ts ts' : List Tok), bo R ts ts' → x'.er = x.er → ts.length ≤ k → ts'.length ≤ k' → RelO R (pu e k x ts) (pu e' k' x' ts') := by
  have base0 : ∀ (k : Nat) (x : Ex), pu e k x [] = .ok x [] := fun k x => by cases k <;> rfl
  have base : ∀ (k k' : Nat) (x x' : Ex) (ts' : List Tok), bo R [] ts' → x'.er = x.er → ts'.length ≤ k' → RelO R (pu e k x []) (pu e' k' x' ts') := by
    intro k k' x x' ts' h hx hk
    cases h
    have e2 : pu e' k' x' R = .ok x' R := by
      cases hR : R with
      | nil => exact absurd hR s.ne
      | cons t r =>
        obtain ⟨_, _, _, n1, n2, n3, n4⟩ := s.no t r hR
        cases k' with
        | zero => rw [hR] at hk; simp at hk
        | succ k' => rw [pu, n1, n2, n3, n4]; rfl
    rw [base0, e2]
    exact .inl ⟨hx, rfl⟩
  intro k
  induction k with
  | zero =>
    intro k' x x' ts ts' h hx hk hk'
    have : ts = [] := List.eq_nil_of_length_eq_zero (by omega)
    subst this
    exact base _ _ _ _ _ h hx hk'
  | succ k ih =>
    intro k' x x' ts ts' h hx hk hk'
    cases ts with
    | nil => exact base _ _ _ _ _ h hx hk'
    | cons a l =>
      cases ts' with
      | nil => exact h.elim
      | cons b l' =>
        cases k' with
        | zero => simp at hk'
        | succ k' =>
          simp at hk hk'
          have hbg : l ≠ [] → zbz l' = zbz l := fun hl => by
            cases l with
            | nil => exact absurd rfl hl
            | cons c m =>
              cases l' with
              | nil => exact h.2.elim
              | cons d m' =>
                have k := h.2.1.key
                have n := h.2.1.nam
                have hk : d.kind = c.kind := h.2.1.1.symm
                simp only [zbz, k, n, hk]
          rw [pu, pu, h.1.key]
          split
          · exact ih k' _ _ _ _ h.2 (by simp only [Ex.er, hx]) (by omega) (by omega)
          split
          · exact ih k' _ _ _ _ h.2 (by simp only [Ex.er, hx]) (by omega) (by omega)
          by_cases hl : l = []
          · subst hl
            have hR : l' = R := h.2
            subst hR
            by_cases h42 : (keyT a == [42]) = true
            · have e1 : (keyT a == [42] && !zbz []) = true := by rw [h42]; rfl
              rw [if_pos e1, base0]
              by_cases hb : zbz l' = true
              · have e2 : (keyT a == [42] && !zbz l') = false := by rw [hb]; simp
                have e3 : (keyT a == [94]) = false := by rw [eq_of_beq h42]; rfl
                rw [if_neg (by rw [e2]; decide), if_neg (by rw [e3]; decide)]
                refine .inr ⟨x, b, rfl, hx, ?_, rfl⟩
                unfold zu6; rw [h.1.key]; exact eq_of_beq h42
              · have e2 : (keyT a == [42] && !zbz l') = true := by rw [h42]; simpa using hb
                rw [if_pos e2]
                have := base k k' (.un .star x) (.un .star x') l' rfl (by simp only [Ex.er, hx]) (by omega)
                rwa [base0] at this
            · have h42' : (keyT a == [42]) = false := by simpa using h42
              rw [h42']
              simp only [Bool.false_and, Bool.false_eq_true, if_false]
              split
              · unfold inv2; trivial
              · exact ⟨hx, h⟩
          · rw [hbg hl]
            split
            · exact ih k' _ _ _ _ h.2 (by simp only [Ex.er, hx]) (by omega) (by omega)
            split
            · cases l with
              | nil => exact absurd rfl hl
              | cons c m =>
                cases l' with
                | nil => exact h.2.elim
                | cons d m' =>
                  rw [inv2, inv2, h.2.1.key]
                  split
                  · cases m with
                    | nil => trivial
                    | cons f m =>
                      cases m' with
                      | nil => exact h.2.2.elim
                      | cons f' m' =>
                        have hk1 : f'.kind = f.kind := h.2.2.1.1.symm
                        have hn : f'.n = f.n := h.2.2.1.2.2.symm
                        rw [inv3, inv3, hk1, hn]
                        split
                        · exact ih k' _ _ _ _ h.2.2.2 (by simp only [Ex.er, hx]) (by simp at hk; omega) (by simp at hk'; omega)
                        · trivial
                  · trivial
            · exact ⟨hx, h⟩
theorem zwz (s : zid R) {e e' : Nat} {prim prim' : List Tok → PR Ex} (hp : RelF (RelP R) R prim prim') : RelF (RelO R) R (zpa e prim) (zpa e' prim') := by
  intro ts ts' h
  have hs := hp ts ts' h
  unfold zpa
  cases hq : prim ts with
  | bad c a => trivial
  | ok y r =>
    cases hq' : prim' ts' with
    | bad c a => exact RelO.bad _ _ _ _
    | ok y' r' =>
      rw [hq, hq'] at hs
      exact zwg s e e' _ _ _ _ _ _ hs.2 hs.1 (Nat.le_refl _) (Nat.le_refl _)
theorem zw0 (s : zid R) {post post' : List Tok → PR Ex} (hp : RelF (RelO R) R post post') : RelF (RelX R) R (zmg post) (zmg post') := by
  intro ts ts' h
  have hs := hp ts ts' h
  unfold zmg
  cases hq : post ts with
  | bad c a => trivial
  | ok y r =>
    cases hq' : post' ts' with
    | bad c a => exact RelX.bad _ _ _ _
    | ok y' r' =>
      rw [hq, hq'] at hs
      cases r with
      | nil =>
        rcases hs with ⟨hx, hr⟩ | ⟨z, t, hz, hx, ht, hr⟩
        · subst hr
          simp only
          cases hR : r' with
          | nil => exact absurd hR s.ne
          | cons t l =>
            obtain ⟨_, _, _, n1, n2, n3, n4⟩ := s.no t l hR
            simp only [n3, Bool.false_eq_true, if_false]
            exact .inl ⟨hx, rfl⟩
        · subst hr hz
          have h42 : (keyT t == [42]) = true := by rw [show keyT t = [42] from ht]; rfl
          simp only [h42, if_true]
          cases post' R with
          | bad c a => trivial
          | ok w u => exact .inr (.inr (zv3 hx _ _))
      | cons t r =>
        cases r' with
        | nil => exact hs.2.elim
        | cons t' r' =>
          obtain ⟨hx, hr⟩ := hs
          simp only [hr.1.key]
          split
          · have h2 := hp r r' hr.2
            cases hq2 : post r with
            | bad c a => trivial
            | ok z u =>
              cases hq2' : post' r' with
              | bad c a => exact RelX.bad _ _ _ _
              | ok z' u' =>
                rw [hq2, hq2'] at h2
                cases u with
                | nil =>
                  rcases h2 with ⟨hz, hu⟩ | ⟨w, t2, hw, hz, ht, hu⟩
                  · exact .inl ⟨by simp only [Ex.er, hx, hz], hu⟩
                  · exact .inr (.inl ⟨t2, ht, hu⟩)
                | cons _ _ => exact ⟨by simp only [Ex.er, hx, h2.1], h2.2⟩
          · exact ⟨hx, hr⟩
theorem zjk {part : List Tok → PR Ex} {m : Bys → Option Op2} : ∀ (k : Nat) (z' : Ex) (ts : List Tok) (w : Ex) (r : List Tok), binL part m k z' ts = .ok w r → ∀ z, Clash z z' → Clash z w
  | 0, z', ts, w, r, h, z, hc => by rw [binL] at h; cases h; exact hc
  | k + 1, z', [], w, r, h, z, hc => by rw [binL] at h; cases h; exact hc
  | k + 1, z', t :: ts, w, r, h, z, hc => by
    rw [binL] at h
    split at h
    · cases h; exact hc
    · split at h
      · exact zjk k _ _ _ _ h z (hc.left _ _ _)
      · cases h
theorem zh7 {part : List Tok → PR Ex} {m : Bys → Option Op2} {t : Tok} (hm : m (keyT t) = none) (k : Nat) (x : Ex) (r : List Tok) : binL part m k x (t :: r) = .ok x (t :: r) := by
  cases k with
  | zero => rfl
  | succ k => rw [binL, hm]
theorem ybc (s : zid R) {part part' : List Tok → PR Ex} {m : Bys → Option Op2} (hm : ∀ t r, R = t :: r → m (keyT t) = none) (h42 : m [42] = none) (hp : RelF (RelX R) R part part') (h1 : Shr part) (h2 : Shr part') :
    ∀ (k k' : Nat) (x x' : Ex) (ts ts' : List Tok), bo R ts ts' → x'.er = x.er → ts.length ≤ k → ts'.length ≤ k' → RelX R (binL part m k x ts) (binL part' m k' x' ts') := by
  have base0 : ∀ (k : Nat) (x : Ex), binL part m k x [] = .ok x [] := fun k x => by cases k <;> rfl
  have stopR : ∀ (k' : Nat) (x' : Ex), binL part' m k' x' R = .ok x' R := fun k' x' => by
    cases hR : R with
    | nil => exact absurd hR s.ne
    | cons t r => exact zh7 (hm t r hR) _ _ _
  have base : ∀ (k k' : Nat) (x x' : Ex) (ts' : List Tok), bo R [] ts' → x'.er = x.er → RelX R (binL part m k x []) (binL part' m k' x' ts') := by
    intro k k' x x' ts' h hx
    cases h
    rw [base0, stopR]
    exact .inl ⟨hx, rfl⟩
  intro k
  induction k with
  | zero =>
    intro k' x x' ts ts' h hx hk hk'
    have : ts = [] := List.eq_nil_of_length_eq_zero (by omega)
    subst this
    exact base _ _ _ _ _ h hx
  | succ k ih =>
    intro k' x x' ts ts' h hx hk hk'
    cases ts with
    | nil => exact base _ _ _ _ _ h hx
    | cons a l =>
      cases ts' with
      | nil => exact h.elim
      | cons b l' =>
        cases k' with
        | zero => simp at hk'
        | succ k' =>
          rw [binL, binL, h.1.key]
          cases m (keyT a) with
          | none => exact ⟨hx, h⟩
          | some o =>
            have hs := hp l l' h.2
            simp only
            cases hq : part l with
            | bad c a => trivial
            | ok y r =>
              have q1 := h1 _ _ _ hq
              cases hq' : part' l' with
              | bad c a => exact RelX.bad _ _ _ _
              | ok y' r' =>
                rw [hq, hq'] at hs
                have q2 := h2 _ _ _ hq'
                simp at hk hk'
                cases r with
                | nil =>
                  simp only [base0]
                  rcases hs with ⟨hy, hr⟩ | ⟨t, ht, hr⟩ | hc
                  · subst hr
                    rw [stopR]
                    exact .inl ⟨by simp only [Ex.er, hx, hy], rfl⟩
                  · subst hr
                    rw [zh7 (by rw [show keyT t = [42] from ht]; exact h42)]
                    exact .inr (.inl ⟨t, ht, rfl⟩)
                  · cases hb : binL part' m k' (.bin false o x' y') r' with
                    | bad c a => exact RelX.bad _ _ _ _
                    | ok w r2 => exact .inr (.inr (zjk _ _ _ _ _ hb _ (hc.right _ _ _ _ _)))
                | cons t r => exact ih k' _ _ _ _ hs.2 (by simp only [Ex.er, hx, hs.1]) (by omega) (by omega)
theorem zjm (s : zid R) {part part' : List Tok → PR Ex} {m : Bys → Option Op2} (hm : ∀ t r, R = t :: r → m (keyT t) = none) (h42 : m [42] = none) (hp : RelF (RelX R) R part part') (h1 : Shr part) (h2 : Shr part') : RelF (RelX R) R (zbx part m) (zbx part' m) := by
  intro ts ts' h
  have hs := hp ts ts' h
  unfold zbx
  cases hq : part ts with
  | bad c a => trivial
  | ok y r =>
    cases hq' : part' ts' with
    | bad c a => exact RelX.bad _ _ _ _
    | ok y' r' =>
      rw [hq, hq'] at hs
      cases r with
      | nil =>
        have e0 : binL part m ([] : List Tok).length y [] = .ok y [] := rfl
        simp only [e0]
        rcases hs with ⟨hy, hr⟩ | ⟨t, ht, hr⟩ | hc
        · subst hr
          cases hR : r' with
          | nil => exact absurd hR s.ne
          | cons t r => rw [zh7 (hm t r hR), ← hR]; exact .inl ⟨hy, rfl⟩
        · subst hr
          rw [zh7 (by rw [show keyT t = [42] from ht]; exact h42)]
          exact .inr (.inl ⟨t, ht, rfl⟩)
        · cases hb : binL part' m r'.length y' r' with
          | bad c a => exact RelX.bad _ _ _ _
          | ok w r2 => exact .inr (.inr (zjk _ _ _ _ _ hb _ hc))
      | cons t r => exact ybc s hm h42 hp h1 h2 _ _ _ _ _ _ hs.2 hs.1 (Nat.le_refl _) (Nat.le_refl _)
theorem zq1 {e e' : Nat} {inner inner' : Option (List Tok → PR Ex)} (hi : ∀ f f', inner = some f → inner' = some f' → RelF (RelX R) R f f') : RelF (RelP R) R (zkc e inner) (zkc e' inner') := by
  intro ts ts' h
  cases ts with
  | nil => trivial
  | cons a l =>
    cases ts' with
    | nil => exact h.elim
    | cons b l' =>
      have hk : b.kind = a.kind := h.1.1.symm
      have hn : b.n = a.n := h.1.2.2.symm
      have ht : b.text = a.text := h.1.2.1.symm
      rw [zkc, zkc, h.1.key, h.1.nam, hk, hn]
      have br : ∀ {cl : Bys} {mk mk' : Ex → Ex} {p q : PR Ex}, (∀ x x', x'.er = x.er → (mk' x').er = (mk x).er) → RelX R p q → RelP R (brP e cl mk p) (brP e' cl mk' q) := by
        intro cl mk mk' p q hm h
        cases p with
        | bad c a => trivial
        | ok x r =>
          cases q with
          | bad c a => exact RelP.bad _ _ _ _
          | ok x' r' =>
            cases r with
            | nil => trivial
            | cons t r =>
              cases r' with
              | nil => exact h.2.elim
              | cons t' r' =>
                rw [brP, brP, zlu, zlu, h.2.1.key]
                split
                · exact ⟨hm _ _ h.1, h.2.2⟩
                · trivial
      split
      · cases inner with
        | none => trivial
        | some f =>
          cases inner' with
          | none => exact RelP.bad _ _ _ _
          | some f' =>
            have hs := hi f f' rfl rfl l l' h.2
            unfold brkP
            simp only [h.1.key]
            split
            · exact br (fun x x' hx => by simp only [Ex.er, hx]) hs
            · exact br (fun x x' hx => by simp only [Ex.er, hx]) hs
      split
      · exact ⟨rfl, h.2⟩
      split
      · exact ⟨by simp only [Ex.er, ht], h.2⟩
      · trivial
theorem zqx (s : zid R) {e e' : Nat} {prim prim' : List Tok → PR Ex} (hp : RelF (RelP R) R prim prim') (h1 : Shr prim) (h2 : Shr prim') : RelF (RelX R) R (zvk e prim) (zvk e' prim') :=
  zjm s (fun t r h => (s.no t r h).1) rfl (zjm s (fun t r h => (s.no t r h).2.1) rfl (zjm s (fun t r h => (s.no t r h).2.2.1) rfl (zw0 s (zwz s hp))
    (zbs (zbu h1)) (zbs (zbu h2))) (fo (zbs (zbu h1))) (fo (zbs (zbu h2)))) (fo (fo (zbs (zbu h1)))) (fo (fo (zbs (zbu h2))))
theorem zlk (s : zid R) (e e' : Nat) : ∀ d, RelF (RelX R) R (zfm e d) (zfm e' d)
  | 0 => zqx s (zq1 fun _ _ h => by cases h) (zc3 fun _ h => by cases h) (zc3 fun _ h => by cases h)
  | d + 1 => zqx s (zq1 fun f f' h h' => by cases h; cases h'; exact zlk s e e' d) (zc3 fun f h => by cases h; exact zc6 e d) (zc3 fun f h => by cases h; exact zc6 e' d)
end
/-! Lists of strings. -/
def zfj (s : Bys) : List Value := [str s]
theorem yfj (l : List Bys) (w : Bys) : ∀ k, k < l.idxOf w → (hk : k < l.length) → (w == l[k]) = false := by
  induction l with
  | nil => intro k h; simp at h
  | cons a l ih =>
    intro k h hk
    rw [List.idxOf_cons] at h
    by_cases ha : (a == w) = true
    · rw [ha] at h; simp at h
    · have ha := Bool.not_eq_true _ |>.mp ha
      rw [ha] at h
      cases k with
      | zero => rw [List.getElem_cons_zero]; rw [Bool.eq_false_iff] at *; intro h'; exact ha (by simpa using (by simpa using h' : w = a).symm)
      | succ k => rw [List.getElem_cons_succ]; exact ih k (by simpa using h) (by simpa using hk)
theorem zou (l : List Bys) (w : Bys) {h : Heap} {s : Value} (e : Sl h s 1 (l.map zfj)) (hl : l.length < 4611686018427387904) : DF FF gf [s, str w] h = some (.int .i64 (if l.contains w then (l.idxOf w : Nat) else -1), h) := by
  refine wh zcc ?_
  have ln : ∀ K, lenO K s = some (.int .i64 (l.length : Int), K) := fun K => by rw [e.len, List.length_map]
  have hle : l.idxOf w ≤ l.length := List.idxOf_le_length
  simp only [bu, z7, zb, z8, zn, zc, zo, zf, ze, zd, List.set_cons_succ, List.set_cons_zero, O_mv, j7, List.cons_append, List.nil_append, List.length_cons, List.length_nil, Nat.reduceAdd, Nat.reduceSub, Nat.zero_add, zm, yb, zx, za, zh, zg, ln]
  refine pq (l.idxOf w) (fun k st => ∃ (j : Nat → Value), st = ⟨[s, str w, j 2, j 3, j 4, j 5, j 6, .int .i64 (l.length : Int), .int .i64 (k : Int), j 9, j 10, j 11, j 12, j 13, j 14, j 15, j 16, j 17, j 18], h⟩) ?_ ?_ _ ?_
  · rintro k st hk ⟨j, rfl⟩
    have h1 : ((k : Int) < (l.length : Int)) = True := by simp; omega
    have hkl : k < l.length := by omega
    obtain ⟨b, o, v, a1, a2⟩ := e.atH (k := k) (by simpa using hkl)
    have a2 := zfr a2 (x := str l[k]) (by simp [zfj])
    have hne := yfj l w k hk hkl
    simp only [z7, zr, yl, zb, zw, zu, z8, zn, zc, zo, zf, ze, zd, List.set_cons_succ, List.set_cons_zero, O_mv, yu, yg, vh, zz, zk, vj, xy, zm, yb, zx, za, zi, yp, w9, decide_true, h1, decide_true, a1, a2, hne, xm (k := k) (by omega)]
    exact junk rfl
  · rintro st ⟨j, rfl⟩
    by_cases hm : w ∈ l
    · have hlt : l.idxOf w < l.length := List.idxOf_lt_length_of_mem hm
      have hc : l.contains w = true := by simpa using hm
      have h1 : (((l.idxOf w : Nat) : Int) < (l.length : Int)) = True := by simp; omega
      obtain ⟨b, o, v, a1, a2⟩ := e.atH (k := l.idxOf w) (by simpa using hlt)
      have a2 := zfr a2 (x := str w) (by simp [zfj, List.getElem_idxOf])
      simp only [z7, zr, xe, yl, zb, zw, z8, zn, zc, zo, ze, zd, List.set_cons_succ, List.set_cons_zero, O_mv, yu, yg, vh, zz, zk, xy, zm, yb, zx, za, y5, xx, zbt, beq_self_eq_true, eq_self, za2, w9, decide_true, h1, decide_true, a1, a2, hc, if_true]
    · have hc : l.contains w = false := by simpa using hm
      have hlt : l.idxOf w = l.length := List.idxOf_eq_length hm
      have h1 : (((l.idxOf w : Nat) : Int) < (l.length : Int)) = False := by simp; omega
      simp only [z7, zr, w6, xe, zb, zu, z8, zn, zc, zo, zf, ze, zd, List.set_cons_succ, List.set_cons_zero, O_mv, yu, yg, xy, zm, yb, za, yx, yj, zbt, eq_self, xj, decide_false, h1, decide_false, hc, Bool.false_eq_true, if_false]
  · exact junk rfl
theorem znv (l : List Bys) (w : Bys) {h : Heap} {s : Value} (e : Sl h s 1 (l.map zfj)) (hl : l.length < 4611686018427387904) : DF FF qp [s, str w] h = some (.bool (l.contains w), h) := by
  refine wh zbe ?_
  have := zou l w e hl
  cases hc : l.contains w
  · rw [hc] at this
    simp only [j0, z7, xe, zb, z8, zn, zc, zo, zf, ze, zd, List.set_cons_succ, List.set_cons_zero, O_mv, yu, yg, yf, List.map_cons, List.map_nil, zbb, List.cons_append, List.nil_append, List.length_cons, List.length_nil, Nat.reduceAdd, Nat.reduceSub, Nat.zero_add, zm, yb, za, zbt, zh, zg, Int.reduceLE, eq_self, decide_false, this, Bool.false_eq_true, if_false]; all_goals rfl
  · rw [hc] at this
    simp only [j0, z7, xe, zb, z8, zn, zc, zo, zf, ze, zd, List.set_cons_succ, List.set_cons_zero, O_mv, yu, yg, yf, List.map_cons, List.map_nil, zbb, List.cons_append, List.nil_append, List.length_cons, List.length_nil, Nat.reduceAdd, Nat.reduceSub, Nat.zero_add, zm, yb, za, zbt, zh, zg, eq_self, decide_true, this, if_true, show (0 : Int) ≤ ((l.idxOf w : Nat) : Int) from Int.natCast_nonneg _, decide_true]
theorem zcl (w : Bys) (h : Heap) : DF FF pz [str w] h = some (.bool (kwL.contains w), h) := by
  refine wh zml ?_
  have e : Sl (h ++ [.cells [str wLet, str wRec, str wAnd, str p8, str wIrr, str zdw, str wAs] 0 false]) (.slice (some ⟨h.length, 0, some 0⟩) 7 1) 1 (kwL.map zfj) := Sl.last h (by rfl) (by rfl) (by intro r hr; simp [kwL, zfj] at hr; rcases hr with rfl | rfl | rfl | rfl | rfl | rfl | rfl <;> rfl) 0 false
  have c := znv kwL w e (by decide)
  unfold wLet wRec wAnd p8 wIrr zdw wAs at c
  simp only [zg4, z7, xe, zb, z8, zn, zc, zo, zf, ze, zd, List.set_cons_succ, List.set_cons_zero, O_mv, yf, List.map_cons, List.map_nil, ww, wd, yc, yd, xb, xi, yz, Nat.lt_add_one, Nat.zero_lt_succ, Nat.reduceLT, List.cons_append, List.nil_append, List.length_cons, List.length_nil, Nat.reduceAdd, Nat.reduceSub, Nat.zero_add, zm, yb, za, slc, zh, zg, List.append_nil, yi, wo, c]
  rw [zkj ((Pre.refl h).more _) _ _ _ rfl]; rfl
theorem zvg (h H : Heap) (i n j : Nat) (t : List Value) (q : Value × Heap) : retQ h [.cells i n, .tmp j] (some q) .ret ⟨t, H⟩ = zi0 (fun v h' => some (v, h') = some q) h H n (t.getD j undef) (t.getD i undef) := by
  rw [← zog]
  unfold retQ retE
  apply propext
  constructor
  · intro e; exact ⟨q.1, q.2, e, rfl⟩
  · rintro ⟨v, h', e, r⟩; rw [e]; exact r
theorem zaf (h H : Heap) (v : Value) : AM.finish h v H = H ∨ (AM.finish h v H = h ∧ H.take h.length = h) := by
  unfold AM.finish; split
  · rename_i hc; exact .inr ⟨rfl, hc.2⟩
  · exact .inl rfl
theorem zuz (h L : Heap) (t : Tok) (b : Bool) : AM.finish h (tup [agg (vo t), .bool b]) (h ++ L) = h := fv h L rfl
section
variable {P : RP} {h : Heap} {i d x a : Nat}
theorem zt3 (e : Rd P h i d x a) : DF FF bq [pt P.c] h = some (tup [agg (vo (y6 P i)), .bool (decide (i < P.L.length))], h) := by
  refine wh ziq ?_
  have hi := e.le
  by_cases hlt : i < P.L.length
  · have c1 : ((i : Int) == (P.L.length : Int)) = false := by simp; omega
    obtain ⟨b, o, v, q1, q2⟩ := e.tokc hlt
    simp only [zaz, z7, zr, xe, yl, zb, zu, z8, zn, zc, zp, zo, zf, ze, zd, List.set_cons_succ, List.set_cons_zero, O_mv, yu, yg, j7, vh, zz, zk, x7, y8, jy, List.cons_append, List.nil_append, List.length_cons, List.length_nil, Nat.reduceAdd, Nat.reduceSub, Nat.zero_add, zm, yb, za, y0, xc, z6, zl, y4, ya, zq, zj, xr, xh, yk, zy, zs, zh, zg, Nat.add_zero, Option.map_some, List.getElem?_cons_zero, List.getElem?_cons_succ, zbj, zcf, eq_self, yi, Option.map_some, decide_true, xk, e.c1, e.cl, c1, q1, q2, zvg, zbj, zcf, zuz, hlt, decide_true]
  · have c1 : ((i : Int) == (P.L.length : Int)) = true := by simp; omega
    rw [j3 hlt]
    simp only [zaz, z7, zr, xe, zb, zw, z8, zn, zc, zp, zo, zf, ze, zd, List.set_cons_succ, List.set_cons_zero, O_mv, yu, yg, j7, zz, zk, wg, y9, yc, yz, jy, List.cons_append, List.nil_append, List.length_cons, List.length_nil, Nat.reduceAdd, Nat.reduceSub, Nat.zero_add, zm, yb, za, y5, y0, xc, z6, zl, y4, ya, zq, zj, xr, xh, yk, zy, zs, zh, zg, Nat.add_zero, List.getElem?_cons_zero, List.getElem?_cons_succ, zbj, zcf, eq_self, yi, decide_false, e.c1, e.cl, c1, zvg, zbj, zcf, hlt, decide_false]
    have := zuz h [.cells (vo zmj) 0 false] zmj false
    unfold zmj vo at this
    simp only [Int.cast_ofNat_Int] at this
    unfold zmj vo
    rw [Int.cast_ofNat_Int, this]
def atV (P : RP) (i : Nat) : Int := if i < P.L.length then ((y6 P i).at_ : Int) else if P.L.length = 0 then 0 else IntKind.i64.wrap (((y6 P (P.L.length - 1)).at_ : Int) + ((y6 P (P.L.length - 1)).text.length : Int))
theorem at_c (e : Rd P h i d x a) : DF FF bf [pt P.c] h = some (.int .i64 (atV P i), h) := by
  refine wh zkd ?_
  have hp := P.len
  unfold atV
  by_cases hlt : i < P.L.length
  · rw [if_pos hlt]
    simp only [zaa, z7, zr, xe, zb, zw, z8, zn, zc, zp, zo, zf, ze, zd, List.set_cons_succ, List.set_cons_zero, O_mv, yg, yf, List.map_cons, List.map_nil, zz, zk, List.cons_append, List.nil_append, List.length_cons, List.length_nil, Nat.reduceAdd, Nat.reduceSub, Nat.zero_add, zm, yb, za, y5, y0, xc, z6, xg, y7, zl, y4, ya, yy, yq, yk, zy, zs, zh, zg, List.getElem?_cons_zero, List.getElem?_cons_succ, eq_self, yi, decide_true, xk, ztz, zt3 e, hlt, decide_true]
    rw [zkj ((Pre.refl h).more _) _ _ _ rfl]; simp only [ze, zd, eq_self]
  · rw [if_neg hlt]
    by_cases h0 : P.L.length = 0
    · rw [if_pos h0]
      have c1 : (((P.L.length : Nat) : Int) == 0) = true := beq_iff_eq.2 (by omega)
      simp only [zaa, z7, zr, xe, yl, zb, zw, zu, z8, zn, zc, zp, zo, zf, ze, zd, List.set_cons_succ, List.set_cons_zero, O_mv, yu, yg, yf, List.map_cons, List.map_nil, j7, zz, zk, jy, List.cons_append, List.nil_append, List.length_cons, List.length_nil, Nat.reduceAdd, Nat.reduceSub, Nat.zero_add, zm, yb, za, y5, y0, xc, z6, xg, y7, zl, y4, ya, zq, zj, yk, zy, zs, zh, zg, Nat.add_zero, List.getElem?_cons_zero, List.getElem?_cons_succ, eq_self, yi, decide_false, xk, zt3 e, hlt, decide_false, e.c1, e.cl, c1]
      rw [zkj ((Pre.refl h).more _) _ _ _ rfl]; simp only [ze, zd, eq_self]
    · rw [if_neg h0]
      have c1 : (((P.L.length : Nat) : Int) == 0) = false := beq_eq_false_iff_ne.2 (by omega)
      have w1 : IntKind.i64.wrap ((P.L.length : Int) - 1) = ((P.L.length - 1 : Nat) : Int) := by rw [zga (by unfold W; omega)]; omega
      obtain ⟨b, o, v, q1, q2⟩ := e.tokc (k := P.L.length - 1) (by omega)
      simp only [zaa, z7, zr, xe, yl, zb, zu, z8, zn, zc, zp, zo, zf, ze, zd, List.set_cons_succ, List.set_cons_zero, O_mv, yu, yg, yf, List.map_cons, List.map_nil, j7, vh, zz, zk, x7, y8, vj, zr7, jy, List.cons_append, List.nil_append, List.length_cons, List.length_nil, Nat.reduceAdd, Nat.reduceSub, Nat.zero_add, zm, yb, za, y0, xc, z6, xg, y7, zl, y4, ya, zq, zj, fp, bg, yq, yk, va, ve, zy, vm, zs, zh, zg, List.append_assoc, List.length_append, Nat.add_zero, Option.map_some, List.getElem?_cons_zero, List.getElem?_cons_succ, eq_self, yi, xp, ym, Option.map_some, decide_false, xk, jh, ztz, zt3 e, hlt, decide_false, e.c1, e.cl, c1, w1, q1, q2, ym]
      rw [zkj ((Pre.refl h).more _) _ _ _ rfl]; simp only [ze, zd, eq_self]
theorem zir (e : Rd P h i d x a) (hlt : i < P.L.length) : ∃ h', DF FF wy [pt P.c] h = some (tup [agg (vo (y6 P i)), .bool true], h') ∧ Rd P h' (i + 1) d x a ∧ Mv P h h' := by
  have hp := P.len
  have : ∃ v h', DF FF wy [pt P.c] h = some (v, h') ∧ (v = tup [agg (vo (y6 P i)), .bool true] ∧ Rd P h' (i + 1) d x a ∧ Mv P h h') := by
    refine wz zh4 ?_
    obtain ⟨e2, m2⟩ := e.setC (i' := i + 1) hlt
    have w1 : ∀ L y, Heap.write1 (h ++ L) ⟨P.c, 1, some 0⟩ y = some ((h.set P.c (.cells [P.cs, y] 0 false)) ++ L) := fun L y => by
      rw [ph (xa L e.hc) (by simp), List.set_append_left _ _ e.lc]; rfl
    have rl : ∀ L j v, Heap.read1 (h.set P.c (.cells [P.cs, .int .i64 ((i + 1 : Nat) : Int)] 0 false) ++ L) ⟨h.length, j, v⟩ = Heap.read1 L ⟨0, j, v⟩ := fun L j v => by
      have := yy (h.set P.c (.cells [P.cs, .int .i64 ((i + 1 : Nat) : Int)] 0 false)) L j v
      rwa [List.length_set] at this
    have rl2 : ∀ L k j v n, Heap.read (h.set P.c (.cells [P.cs, .int .i64 ((i + 1 : Nat) : Int)] 0 false) ++ L) ⟨h.length + k, j, v⟩ n = Heap.read L ⟨k, j, v⟩ n := fun L k j v n => by
      have := qq (h.set P.c (.cells [P.cs, .int .i64 ((i + 1 : Nat) : Int)] 0 false)) L k j v n
      rwa [List.length_set] at this
    have wl : ∀ L j v xs, Heap.write (h.set P.c (.cells [P.cs, .int .i64 ((i + 1 : Nat) : Int)] 0 false) ++ L) ⟨h.length, j, v⟩ xs = preO (h.set P.c (.cells [P.cs, .int .i64 ((i + 1 : Nat) : Int)] 0 false)) (Heap.write L ⟨0, j, v⟩ xs) := fun L j v xs => by
      have := zy (h.set P.c (.cells [P.cs, .int .i64 ((i + 1 : Nat) : Int)] 0 false)) L j v xs
      rwa [List.length_set] at this
    have rl3 : ∀ L j v n, Heap.read (h.set P.c (.cells [P.cs, .int .i64 ((i + 1 : Nat) : Int)] 0 false) ++ L) ⟨h.length, j, v⟩ n = Heap.read L ⟨0, j, v⟩ n := fun L j v n => rl2 L 0 j v n
    simp only [zdj, z7, zr, xe, zb, zw, z8, zn, zc, zp, zo, zf, ze, zd, List.set_cons_succ, List.set_cons_zero, O_mv, yu, yg, yf, List.map_cons, List.map_nil, zz, zk, x7, y8, vj, List.cons_append, List.nil_append, List.length_cons, List.length_nil, Nat.reduceAdd, Nat.reduceSub, Nat.zero_add, zm, yb, za, y0, xc, z6, xg, y7, zl, xd, x5, y4, ya, zq, zj, qx, xh, yk, va, ve, vm, zs, zh, zg, List.append_assoc, List.length_append, Option.map_some, List.getElem?_cons_zero, List.getElem?_cons_succ, zog, zbj, zcf, eq_self, yi, Option.map_some, decide_true, xk, zt3 (e.more _), hlt, decide_true, e.c1, xm (k := i) (by omega), w1, rl2, rl3, wl, zog, zbj, zcf]
    refine ⟨trivial, ?_⟩
    rcases zaf h (h.set P.c (.cells [P.cs, .int .i64 ((i + 1 : Nat) : Int)] 0 false) ++ [.cells (vo (y6 P i)) 0 false, .cells (vo (y6 P i)) 0 false]) (tup [agg (vo (y6 P i)), .bool true]) with hf | ⟨hf, hk⟩
    · rw [hf]; exact ⟨e2.more _, m2.more _⟩
    · exfalso
      have h1 := e.hc
      rw [← hk, List.take_append_of_le_length (by simp), List.take_of_length_le (by simp), e2.hc] at h1
      simp at h1; omega
  obtain ⟨v, h', q, rfl, r⟩ := this
  exact ⟨h', q, r⟩
end
theorem zfe {F : Funcs} (b : pv) (s : St) (Q : AEx → St → Prop) : WPD (D F (.loop b) s) Q = WPD (D F b s) (yas F (.loop b) Q) := by
  rw [yd0]; unfold WPD; apply propext
  constructor
  · rintro ⟨x, s', h, q⟩
    cases ha : D F b s with
    | none => rw [ha] at h; cases h
    | some p =>
      obtain ⟨y, u⟩ := p
      rw [ha] at h
      refine ⟨y, u, rfl, ?_⟩
      cases y with
      | normal => exact ⟨x, s', h, q⟩
      | exit j => cases h; exact q
      | ret => cases h; exact q
  · rintro ⟨y, u, ha, q⟩
    rw [ha]
    cases y with
    | normal => exact q
    | exit j => exact ⟨_, _, rfl, q⟩
    | ret => exact ⟨_, _, rfl, q⟩
theorem Rd.fin {P : RP} {h H : Heap} {i d x a i' d' x' a' : Nat} (e : Rd P h i d x a) (e' : Rd P H i' d' x' a') (m : Mv P h H) (v : Value) (hne : i ≠ i' ∨ d ≠ d' ∨ x ≠ x' ∨ a ≠ a') : AM.finish h v H = H := by
  rcases zaf h H v with hf | ⟨hf, hk⟩
  · exact hf
  · exfalso
    have hg : ∀ b o, h[b]? = some o → H[b]? = some o := fun b o hb => by
      rw [← hk] at hb
      have hlt := (List.getElem?_eq_some_iff.1 hb).1
      rw [List.getElem?_take] at hb
      split at hb
      · exact hb
      · cases hb
    have h1 := hg _ _ e.hr
    have h2 := hg _ _ e.hc
    rw [e'.hr] at h1
    rw [e'.hc] at h2
    simp at h1 h2
    omega
section
variable {P : RP} {h : Heap} {i d x a : Nat}
theorem zer : keyT zmj = [] := rfl
theorem zh6 (e : Rd P h i d x a) {s : Value} {m : Bys} (hm : m ≠ []) (hs : Sl h s 1 [[str m]]) : ∃ h', DF FF w7 [pt P.c, s] h = some (.bool (keyT (y6 P i) == m), h') ∧ Rd P h' (if keyT (y6 P i) == m then i + 1 else i) d x a ∧ Mv P h h' := by
  have hp := P.len
  have hi := e.le
  have ln : ∀ K, lenO K s = some (.int .i64 1, K) := fun K => hs.len K
  have hge : ∀ k : Nat, ((1 : Int) > ((P.L.length - k : Nat) : Int)) = (P.L.length ≤ k) := fun k => by apply propext; omega
  by_cases hlt : i < P.L.length
  · obtain ⟨b, o, v, q1, q2⟩ := e.tokc hlt
    obtain ⟨b', o', v', p1, p2⟩ := hs.at (k := 0) (by simp)
    have p2' : ∀ L, Heap.read1 (h ++ L) ⟨b', o', some v'⟩ = some (str m) := fun L => zfr (p2 L) rfl
    have p0 : Heap.read1 h ⟨b', o', some v'⟩ = some (str m) := by have := p2' []; rwa [List.append_nil] at this
    have q0 : Heap.read h ⟨b, o, some v⟩ 4 = some (vo (y6 P i)) := by have := q2 []; rwa [List.append_nil] at this
    have c1 : (((P.L.length - i : Nat) : Int) < 1) = False := by simp; omega
    simp only [Int.cast_ofNat_Int] at p1
    have w0 : IntKind.i64.wrap ((i : Int) + 0) = (i : Int) := by rw [zga (by unfold W; omega)]; omega
    have w1 : IntKind.i64.wrap ((i : Int) + 1) = ((i + 1 : Nat) : Int) := xm (by omega)
    obtain ⟨e2, m2⟩ := e.setC (i' := i + 1) hlt
    have wc : ∀ L y, Heap.write1 (h ++ L) ⟨P.c, 1, some 0⟩ y = some ((h.set P.c (.cells [P.cs, y] 0 false)) ++ L) := fun L y => by
      rw [ph (xa L e.hc) (by simp), List.set_append_left _ _ e.lc]; rfl
    cases hk : keyT (y6 P i) == m
    · have hkk : ((y6 P i).text != m) = true ∨ ((y6 P i).text != m) = false ∧ (((y6 P i).kind : Int) == 2) = true := by
        unfold keyT at hk
        by_cases h2 : (y6 P i).kind = 2
        · cases ht : (y6 P i).text != m
          · exact .inr ⟨rfl, beq_iff_eq.2 (by omega)⟩
          · exact .inl rfl
        · rw [if_neg h2] at hk; left; rw [bne, hk]; rfl
      refine ⟨h, ?_, by rw [if_neg Bool.false_ne_true]; exact e, Mv.refl P h⟩
      refine wh za1 ?_
      rcases hkk with hkk | ⟨hkk, h2⟩
      · simp only [g8, z7, zr, xe, yl, zb, zw, zu, z8, zn, ye, zc, zp, wi, zo, zf, ze, zd, List.set_cons_succ, List.set_cons_zero, O_mv, yw, xf, yu, yg, yf, List.map_cons, List.map_nil, j7, vh, zz, zk, x7, y8, vj, xy, zab, List.cons_append, List.nil_append, List.length_cons, List.length_nil, Nat.reduceAdd, Nat.reduceSub, Nat.zero_add, zm, yb, zx, za, y5, xx, y0, xc, z6, zl, y4, ya, zq, zj, yy, yq, yk, zy, zs, zh, zg, Nat.add_zero, Option.map_some, List.getElem?_cons_zero, List.getElem?_cons_succ, Int.reduceLT, eq_self, yi, zhz, Option.map_some, decide_true, decide_false, xk, jh, ln, zg3 e, c1, decide_false, decide_true, zfe, p1, p0, e.c0, w0, q1, q0, hkk]
        rw [zkj ((Pre.refl h).more _) _ _ _ rfl]; simp only [ze, zd, eq_self]
      · simp only [g8, z7, zr, xe, yl, zb, zw, zu, z8, zn, ye, zc, zp, yr, zo, zf, ze, zd, List.set_cons_succ, List.set_cons_zero, O_mv, yw, xf, yu, yg, yf, List.map_cons, List.map_nil, j7, vh, zz, zk, x7, y8, vj, jy, xy, zab, List.cons_append, List.nil_append, List.length_cons, List.length_nil, Nat.reduceAdd, Nat.reduceSub, Nat.zero_add, zm, yb, zx, za, y5, xx, y0, xc, z6, zl, y4, ya, zq, zj, yy, yq, yk, zy, zs, zh, zg, Nat.add_zero, Option.map_some, List.getElem?_cons_zero, List.getElem?_cons_succ, Int.reduceLT, eq_self, yi, zhz, Option.map_some, decide_true, decide_false, xk, vz, jh, ln, zg3 e, c1, decide_false, decide_true, zfe, p1, p0, e.c0, w0, q1, q0, hkk, h2]
        rw [zkj ((Pre.refl h).more _) _ _ _ rfl]; simp only [ze, zd, eq_self]
    · have h2n : (y6 P i).kind ≠ 2 := by
        intro h2; unfold keyT at hk; rw [if_pos h2] at hk; exact hm (by simpa using hk)
      have h2 : (((y6 P i).kind : Int) == 2) = false := beq_eq_false_iff_ne.2 (by omega)
      have hkk : ((y6 P i).text != m) = false := by unfold keyT at hk; rw [if_neg h2n] at hk; rw [bne, hk]; rfl
      have : ∃ v h', DF FF w7 [pt P.c, s] h = some (v, h') ∧ (v = .bool true ∧ Rd P h' (i + 1) d x a ∧ Mv P h h') := by
        refine wz za1 ?_
        simp only [g8, z7, zr, w6, xe, yl, zb, zw, zu, z8, zn, ye, zc, zp, yr, zo, zf, ze, zd, List.set_cons_succ, List.set_cons_zero, O_mv, yw, xf, yu, yg, yf, List.map_cons, List.map_nil, j7, vh, zz, zk, x7, y8, vj, jy, xy, zab, List.cons_append, List.nil_append, List.length_cons, List.length_nil, Nat.reduceAdd, Nat.reduceSub, Nat.zero_add, zm, yb, zx, za, yx, zi, yj, y0, xc, z6, zl, xd, x5, y4, ya, zq, zj, yy, yq, yk, zy, zs, zh, zg, Nat.add_zero, Option.map_some, List.getElem?_cons_zero, List.getElem?_cons_succ, xt, Int.reduceLT, eq_self, yi, zhz, Option.map_some, decide_true, decide_false, xk, vz, jh, ln, zg3 e, c1, decide_false, decide_true, zfe, p1, p0, e.c0, e.c1, w0, w1, q1, q0, hkk, h2, wc, Int.reduceAdd, Int.reduceLT, IntKind.wrap_i64, Int.reduceMod, Int.reduceSub]
        have f := e.fin (e2.more [.cells (vo (y6 P i)) 0 false]) (m2.more _) (.bool true) (.inl (by omega))
        rw [f]
        exact ⟨trivial, e2.more _, m2.more _⟩
      obtain ⟨v, h', q, rfl, r⟩ := this
      exact ⟨h', q, by rw [if_pos rfl]; exact r⟩
  · have c1 : (((P.L.length - i : Nat) : Int) < 1) = True := by simp; omega
    have hk : (keyT (y6 P i) == m) = false := by rw [j3 hlt, zer]; simpa using hm
    refine ⟨h, ?_, by rw [hk, if_neg Bool.false_ne_true]; exact e, Mv.refl P h⟩
    refine wh za1 ?_
    simp only [g8, z7, zr, xe, zb, zw, z8, zn, zc, zo, zf, ze, zd, List.set_cons_succ, List.set_cons_zero, O_mv, yu, yg, yf, List.map_cons, List.map_nil, j7, zab, List.cons_append, List.nil_append, List.length_cons, List.length_nil, Nat.reduceAdd, Nat.reduceSub, Nat.zero_add, zm, yb, za, y5, zbt, zh, zg, eq_self, yi, decide_true, ln, zg3 e, c1, decide_true, hk]
end
section
variable {P : RP} {h : Heap} {i d x a : Nat}
theorem ok_c (e : Rd P h i d x a) : DF FF xw [pt P.r] h = some (.bool (((x : Int) == 0)), h) := by
  refine wh zl4 ?_
  simp only [zfy, z7, xe, zb, z8, zn, zc, zo, zf, ze, zd, List.set_cons_succ, List.set_cons_zero, O_mv, yu, yg, zz, zk, jy, List.cons_append, List.nil_append, List.length_cons, List.length_nil, Nat.reduceSub, Nat.zero_add, zm, yb, za, zbt, xc, z6, zq, zj, zh, zg, List.getElem?_cons_zero, List.getElem?_cons_succ, eq_self, e.r0]
theorem ok_0 (e : Rd P h i d 0 a) : DF FF xw [pt P.r] h = some (.bool true, h) := ok_c e
theorem fh (e : Rd P h i d x a) (hx : x ≠ 0) : DF FF xw [pt P.r] h = some (.bool false, h) := by
  rw [ok_c e, beq_eq_false_iff_ne.2 (by omega)]
theorem Rd.wr0 (e : Rd P h i d x a) (j : Nat) (hj : j < 6) (y : Value) : Heap.write1 h ⟨P.r, j, some 0⟩ y = some (h.set P.r (.cells (([pt P.c, P.ws, .int .i64 (P.en : Int), .int .i64 (d : Int), .int .i64 (x : Int), .int .i64 (a : Int)] : List Value).set j y) 0 false)) := ph e.hr (by simpa using hj)
theorem zjx (e : Rd P h i d 0 a) (c p : Nat) (hc : c ≠ 0) : ∃ h', DF FF x8 [pt P.r, .int .i64 (c : Int), .int .i64 (p : Int)] h = some (tup [], h') ∧ Rd P h' i d c p ∧ Mv P h h' := by
  have : ∃ v h', DF FF x8 [pt P.r, .int .i64 (c : Int), .int .i64 (p : Int)] h = some (v, h') ∧ (v = tup [] ∧ Rd P h' i d c p ∧ Mv P h h') := by
    refine wz zd0 ?_
    obtain ⟨e2, m2⟩ := e.setR d c a
    obtain ⟨e3, m3⟩ := e2.setR d c p
    simp only [zbg, z7, zr, zb, zw, z8, zn, zc, zp, zo, zf, ze, zd, List.set_cons_succ, List.set_cons_zero, O_mv, yu, yg, zz, zk, jy, List.cons_append, List.nil_append, List.length_cons, List.length_nil, Nat.reduceAdd, Nat.reduceSub, Nat.zero_add, zm, yb, za, xc, z6, zl, xd, x5, zq, zj, zh, zg, List.getElem?_cons_zero, List.getElem?_cons_succ, beq_self_eq_true, eq_self, e.r0, e.wr0 4 (by omega), beq_self_eq_true, e2.wr0 5 (by omega), wn, Int.cast_ofNat_Int]
    have f := e.fin e3 (m2.trans m3) (tup []) (.inr (.inr (.inl (Ne.symm hc))))
    rw [f]
    exact ⟨trivial, e3, m2.trans m3⟩
  obtain ⟨v, h', q, rfl, r⟩ := this
  exact ⟨h', q, r⟩
theorem zk5 (e : Rd P h i d x a) (hx : x ≠ 0) (c p : Value) : DF FF x8 [pt P.r, c, p] h = some (tup [], h) := by
  have c1 : ((x : Int) == 0) = false := beq_eq_false_iff_ne.2 (by omega)
  have : ∃ v h', DF FF x8 [pt P.r, c, p] h = some (v, h') ∧ (v = tup [] ∧ h' = h) := by
    refine wz zd0 ?_
    simp only [zbg, z7, zr, yl, zb, zu, z8, zn, zc, zo, zf, ze, zd, List.set_cons_succ, List.set_cons_zero, O_mv, yu, yg, zz, zk, jy, List.cons_append, List.nil_append, List.length_cons, List.length_nil, Nat.reduceAdd, Nat.reduceSub, Nat.zero_add, zm, yb, za, xc, z6, zq, zj, zh, zg, List.getElem?_cons_zero, List.getElem?_cons_succ, wt, eq_self, e.r0, c1, wn, wt]
    exact ⟨trivial, trivial⟩
  obtain ⟨v, h', q, rfl, rfl⟩ := this
  exact q
def zap (P : RP) (i : Nat) : Nat := if i < P.L.length then 22 else 24
def za7 (P : RP) (i : Nat) : Nat := if i < P.L.length then (y6 P i).at_ else P.en
theorem fk (P : RP) (i : Nat) : zap P i ≠ 0 := by unfold zap; split <;> omega
theorem zfu (e : Rd P h i d 0 a) : ∃ h', DF FF vy [pt P.r] h = some (tup [], h') ∧ Rd P h' i d (zap P i) (za7 P i) ∧ Mv P h h' := by
  have : ∃ v h', DF FF vy [pt P.r] h = some (v, h') ∧ (v = tup [] ∧ Rd P h' i d (zap P i) (za7 P i) ∧ Mv P h h') := by
    refine wz zgx ?_
    have hi := e.le
    unfold zap za7
    by_cases hlt : i < P.L.length
    · rw [if_pos hlt, if_pos hlt]
      have c1 : (((P.L.length - i : Nat) : Int) == 0) = false := beq_eq_false_iff_ne.2 (by omega)
      have ha : atV P i = ((y6 P i).at_ : Int) := by unfold atV; rw [if_pos hlt]
      obtain ⟨h', q, r, m⟩ := zjx e 22 (y6 P i).at_ (by omega)
      simp only [Int.cast_ofNat_Int] at q
      simp only [pk, z7, zr, zb, zu, z8, zn, zc, zo, zf, ze, zd, List.set_cons_succ, List.set_cons_zero, O_mv, yu, yg, yf, List.map_cons, List.map_nil, zz, zk, jy, List.cons_append, List.nil_append, List.length_cons, List.length_nil, Nat.reduceSub, Nat.zero_add, zm, yb, za, xc, z6, zq, zj, zh, zg, Nat.add_zero, List.getElem?_cons_zero, eq_self, e.r0, zg3 e, c1, at_c e, ha, q, wn]
      have f := e.fin r m (tup []) (.inr (.inr (.inl (by omega))))
      rw [f]
      exact ⟨trivial, r, m⟩
    · rw [if_neg hlt, if_neg hlt]
      have c1 : (((P.L.length - i : Nat) : Int) == 0) = true := beq_iff_eq.2 (by omega)
      obtain ⟨h', q, r, m⟩ := zjx e 24 P.en (by omega)
      simp only [Int.cast_ofNat_Int] at q
      simp only [pk, z7, zr, zb, zw, z8, zn, zc, zo, zf, ze, zd, List.set_cons_succ, List.set_cons_zero, O_mv, yu, yg, yf, List.map_cons, List.map_nil, zz, zk, jy, List.cons_append, List.nil_append, List.length_cons, List.length_nil, Nat.reduceSub, Nat.zero_add, zm, yb, za, xc, z6, zq, zj, zh, zg, Nat.add_zero, List.getElem?_cons_zero, List.getElem?_cons_succ, eq_self, e.r0, zg3 e, c1, q, wn]
      have f := e.fin r m (tup []) (.inr (.inr (.inl (by omega))))
      rw [f]
      exact ⟨trivial, r, m⟩
  obtain ⟨v, h', q, rfl, r⟩ := this
  exact ⟨h', q, r⟩
theorem ygc (P : RP) (i : Nat) {m : UInt8} (hm : (letV (m.toNat : Int) || (m.toNat : Int) == 95) = false) : (((y6 P i).kind : Int) == 3 && (y6 P i).text == [m]) = (keyT (y6 P i) == [m]) := by
  have hk : (((y6 P i).kind : Int) == 3) = decide ((y6 P i).kind = 3) := by rw [Bool.eq_iff_iff]; simp; omega
  rw [hk]
  unfold y6
  cases hg : P.L[i]? with
  | none => rfl
  | some t =>
    have hmem : t ∈ P.L := List.mem_of_getElem? hg
    simp only [Option.getD_some]
    unfold keyT
    rcases P.ok t hmem with ⟨h1, c, l, h2, h3⟩ | h1 | ⟨h1, c, l, h2, h3⟩
    · have hne : ((c :: l : Bys) == [m]) = false := by
        rw [beq_eq_false_iff_ne]; intro he; cases he; rw [hm] at h3; cases h3
      rw [h2]
      simp only [h1, hne, Nat.reduceEqDiff, decide_false, Bool.false_and, if_false]
    · simp [h1]
    · simp [h1]
theorem is_c (e : Rd P h i d x a) {m : UInt8} (hm : (letV (m.toNat : Int) || (m.toNat : Int) == 95) = false) : DF FF jm [pt P.r, str [m]] h = some (.bool (keyT (y6 P i) == [m]), h) := by
  refine wh zk7 ?_
  have hw := zjy e 0 (by omega)
  rw [Nat.add_zero, Int.cast_ofNat_Int] at hw
  rw [← ygc P i hm]
  cases hk : (((y6 P i).kind : Int) == 3)
  · simp only [zcn, z7, xe, zb, z8, zn, ye, zc, zp, w5, zo, zf, ze, zd, List.set_cons_succ, List.set_cons_zero, O_mv, yw, xf, yu, yg, yf, List.map_cons, List.map_nil, zz, zk, jy, List.cons_append, List.nil_append, List.length_cons, List.length_nil, Nat.reduceAdd, Nat.reduceSub, Nat.zero_add, Bool.false_and, zm, yb, za, y0, xc, z6, zl, y4, ya, yy, yq, yk, zy, zs, zh, zg, Nat.add_zero, eq_self, yi, xk, vz, hw, hk]
    rw [zkj ((Pre.refl h).more _) _ _ _ rfl]; simp only [ze, zd, eq_self]
  · simp only [zcn, z7, xe, zb, z8, zn, ye, zc, zp, xl, zo, zf, ze, zd, List.set_cons_succ, List.set_cons_zero, O_mv, yw, xf, yu, yg, yf, List.map_cons, List.map_nil, zz, zk, jy, List.cons_append, List.nil_append, List.length_cons, List.length_nil, Nat.reduceAdd, Nat.reduceSub, Nat.zero_add, Bool.true_and, zm, yb, za, y0, xc, z6, zl, y4, ya, yy, yq, yk, zy, zs, zh, zg, Nat.add_zero, eq_self, yi, w9, xk, vz, jh, hw, hk]
    rw [zkj ((Pre.refl h).more _) _ _ _ rfl]; simp only [ze, zd, eq_self]
theorem zlb (h : Heap) (m : Bys) : Sl (h ++ [.cells [str m] 0 false]) (.slice (some ⟨h.length, 0, some 0⟩) 1 1) 1 [[str m]] := Sl.last h (by rfl) (by rfl) (by simp) 0 false
theorem zun (e : Rd P h i d 0 a) {m : Bys} (hm : m ≠ []) : ∃ h', DF FF vx [pt P.r, str m] h = some (tup [], h') ∧ (if keyT (y6 P i) == m then Rd P h' (i + 1) d 0 a else Rd P h' i d (zap P i) (za7 P i)) ∧ Mv P h h' := by
  have : ∃ v h', DF FF vx [pt P.r, str m] h = some (v, h') ∧ (v = tup [] ∧ (if keyT (y6 P i) == m then Rd P h' (i + 1) d 0 a else Rd P h' i d (zap P i) (za7 P i)) ∧ Mv P h h') := by
    refine wz zdy ?_
    obtain ⟨h1, q, r, m1⟩ := zh6 (e.more [.cells [str m] 0 false]) hm (zlb h m)
    have m1' : Mv P h h1 := (Mv.add P h [.cells [str m] 0 false]).trans m1
    cases hk : keyT (y6 P i) == m
    · rw [hk] at q r
      rw [if_neg Bool.false_ne_true] at r
      obtain ⟨h2, q2, r2, m2⟩ := zfu r
      simp only [pi, z7, zr, zb, zw, z8, zn, ye, zc, xl, zo, ze, zd, List.set_cons_succ, List.set_cons_zero, O_mv, yw, xf, yg, O_un, yf, List.map_cons, List.map_nil, zz, zk, ww, wd, yc, yd, xb, xi, yz, Nat.lt_add_one, vp, List.cons_append, List.nil_append, List.length_cons, List.length_nil, Nat.reduceAdd, Nat.reduceSub, Nat.zero_add, Bool.not_false, zm, yb, za, slc, xc, z6, zq, zj, zh, zg, List.append_nil, Nat.add_zero, List.getElem?_cons_zero, eq_self, yi, wo, e.r0, ok_0 e, q, q2, wn]
      have f := e.fin r2 (m1'.trans m2) (tup []) (.inr (.inr (.inl (Ne.symm (fk P i)))))
      rw [f]
      exact ⟨trivial, by rw [if_neg Bool.false_ne_true]; exact r2, m1'.trans m2⟩
    · rw [hk] at q r
      rw [if_pos rfl] at r
      simp only [pi, z7, zr, yl, zb, zu, z8, zn, ye, zc, xl, zo, ze, zd, List.set_cons_succ, List.set_cons_zero, O_mv, yw, xf, yg, O_un, yf, List.map_cons, List.map_nil, zz, zk, ww, wd, yc, yd, xb, xi, yz, Nat.lt_add_one, vp, List.cons_append, List.nil_append, List.length_cons, List.length_nil, Nat.reduceAdd, Nat.reduceSub, Nat.zero_add, Bool.not_true, zm, yb, za, slc, xc, z6, zq, zj, zh, zg, List.append_nil, Nat.add_zero, List.getElem?_cons_zero, eq_self, yi, wo, e.r0, ok_0 e, q, wn]
      have f := e.fin r m1' (tup []) (.inl (by omega))
      rw [f]
      exact ⟨trivial, by rw [if_pos trivial]; exact r, m1'⟩
  obtain ⟨v, h', q, rfl, r⟩ := this
  exact ⟨h', q, r⟩
theorem zr5 (e : Rd P h i d x a) (hx : x ≠ 0) (m : Bys) : DF FF vx [pt P.r, str m] h = some (tup [], h) := by
  have : ∃ v h', DF FF vx [pt P.r, str m] h = some (v, h') ∧ (v = tup [] ∧ h' = h) := by
    refine wz zdy ?_
    simp only [pi, z7, zr, yl, zb, zu, z8, zn, ye, zc, w5, zo, zf, ze, zd, List.set_cons_succ, List.set_cons_zero, O_mv, yw, xf, yf, List.map_cons, List.map_nil, List.cons_append, List.nil_append, List.length_cons, List.length_nil, Nat.reduceAdd, Nat.reduceSub, Nat.zero_add, zm, yb, za, zh, zg, wt, eq_self, yi, fh e hx, wn, wt]
    exact ⟨trivial, trivial⟩
  obtain ⟨v, h', q, rfl, rfl⟩ := this
  exact q
theorem zui (P : RP) (i : Nat) : za9 (y6 P i) = true → i < P.L.length := fun hn => by
  by_cases hlt : i < P.L.length
  · exact hlt
  · rw [j3 hlt] at hn; cases hn
theorem zxd (e : Rd P h i d 0 a) : ∃ w p h', DF FF jl [pt P.r] h = some (tup [str w, .int .i64 p], h') ∧ (if za9 (y6 P i) then w = (y6 P i).text ∧ p = ((y6 P i).at_ : Int) ∧ Rd P h' (i + 1) d 0 a else Rd P h' i d (zap P i) (za7 P i)) ∧ Mv P h h' := by
  have : ∃ v h', DF FF jl [pt P.r] h = some (v, h') ∧ ∃ w p, (v = tup [str w, .int .i64 p] ∧ (if za9 (y6 P i) then w = (y6 P i).text ∧ p = ((y6 P i).at_ : Int) ∧ Rd P h' (i + 1) d 0 a else Rd P h' i d (zap P i) (za7 P i)) ∧ Mv P h h') := by
    refine wz zio ?_
    have hw := zjy e 0 (by omega)
    rw [Nat.add_zero, Int.cast_ofNat_Int] at hw
    cases hn : za9 (y6 P i)
    · obtain ⟨h1, q, r, m1⟩ := zfu (e.more [.cells (vo (y6 P i)) 0 false])
      have m1' : Mv P h h1 := (Mv.add P h _).trans m1
      have f := fun v => e.fin r m1' v (.inr (.inr (.inl (Ne.symm (fk P i)))))
      unfold za9 at hn
      cases hk : (((y6 P i).kind : Int) != 1)
      · have hk1 : ((y6 P i).kind == 1) = true := by rw [beq_iff_eq]; have := bne_eq_false_iff_eq.1 hk; omega
        rw [hk1, Bool.true_and, Bool.not_eq_false'] at hn
        simp only [bp, z7, zr, xe, zb, zw, z8, zn, ye, zc, zp, yr, zo, zf, ze, zd, List.set_cons_succ, List.set_cons_zero, O_mv, yw, xf, yu, yg, O_un, yf, List.map_cons, List.map_nil, zz, zk, zit, vp, List.cons_append, List.nil_append, List.length_cons, List.length_nil, Nat.reduceAdd, Nat.reduceSub, Nat.zero_add, Bool.not_true, zm, yb, za, y5, y0, xc, z6, zl, y4, ya, zq, zj, yy, yq, yk, zy, zs, zh, zg, Nat.add_zero, List.getElem?_cons_zero, zfq, eq_self, yi, xk, vz, jh, e.r0, at_c e, hw, ok_0 (e.more _), hk, zcl, hn, q, zfq, f]
        exact ⟨_, _, rfl, by rw [if_neg Bool.false_ne_true]; exact r, m1'⟩
      · simp only [bp, z7, zr, xe, zb, zw, z8, zn, ye, zc, zp, yr, wi, zo, zf, ze, zd, List.set_cons_succ, List.set_cons_zero, O_mv, yw, xf, yu, yg, O_un, yf, List.map_cons, List.map_nil, zz, zk, zit, vp, List.cons_append, List.nil_append, List.length_cons, List.length_nil, Nat.reduceAdd, Nat.reduceSub, Nat.zero_add, Bool.not_true, zm, yb, za, y5, y0, xc, z6, zl, y4, ya, zq, zj, yy, yq, yk, zy, zs, zh, zg, Nat.add_zero, List.getElem?_cons_zero, zfq, eq_self, yi, xk, vz, e.r0, at_c e, hw, ok_0 (e.more _), hk, q, zfq, f]
        exact ⟨_, _, rfl, by rw [if_neg Bool.false_ne_true]; exact r, m1'⟩
    · have hlt := zui P i hn
      obtain ⟨h1, q, r, m1⟩ := zir (e.more [.cells (vo (y6 P i)) 0 false]) hlt
      have m1' : Mv P h h1 := (Mv.add P h _).trans m1
      have f := fun v => e.fin r m1' v (.inl (by omega))
      have hr : Heap.read1 h1 ⟨h.length, 1, some 0⟩ = some (str (y6 P i).text) := by
        have hb : (h ++ [AObj.cells (vo (y6 P i)) 0 false])[h.length]? = some (AObj.cells (vo (y6 P i)) 0 false) := by simp
        have := we (j := 1) (m1.keep h.length _ hb (by have := e.lr; omega) (by have := e.lc; omega))
        rw [this]; rfl
      unfold za9 at hn
      rw [Bool.and_eq_true, beq_iff_eq, Bool.not_eq_true'] at hn
      have hk : (((y6 P i).kind : Int) != 1) = false := by rw [hn.1]; rfl
      have ha : atV P i = ((y6 P i).at_ : Int) := by unfold atV; rw [if_pos hlt]
      simp only [bp, z7, zr, xe, yl, zb, zu, z8, zn, ye, zc, zp, yr, zo, zf, ze, zd, List.set_cons_succ, List.set_cons_zero, O_mv, yw, xf, yu, yg, O_un, yf, List.map_cons, List.map_nil, zz, zk, zit, vp, List.cons_append, List.nil_append, List.length_cons, List.length_nil, Nat.reduceAdd, Nat.reduceSub, Nat.zero_add, Bool.not_true, zm, yb, za, y0, xc, z6, zl, y4, ya, zq, zj, yy, yq, yk, zy, zs, zh, zg, Nat.add_zero, List.getElem?_cons_zero, zfq, eq_self, yi, xk, vz, jh, e.r0, e.r1, at_c e, hw, ok_0 (e.more _), hk, zcl, hn.2, q, hr, zfq, f, ha]
      exact ⟨_, _, rfl, by rw [if_pos trivial]; exact ⟨rfl, rfl, r⟩, m1'⟩
  obtain ⟨v, h', q, w, p, rfl, r⟩ := this
  exact ⟨w, p, h', q, r⟩
end
theorem ybj (t : Tok) (ht : t = zmj ∨ zrm t) (h : Heap) : DF FF zft [agg (vo t)] h = some (.bool (t.kind == 2 || (za9 t || (keyT t == [40] || keyT t == [91]))), h) := by
  refine wh zqp ?_
  have k0 : ∀ n : Nat, ((t.kind : Int) == (n : Int)) = (t.kind == n) := fun n => by rw [Bool.eq_iff_iff]; simp; omega
  have k1 := k0 1; have k2 := k0 2; have k3 := k0 3
  simp only [Int.cast_ofNat_Int] at k1 k2 k3
  have fl : ∀ (b : Bool) (L : Heap), AM.finish h (.bool b) (h ++ L) = h := fun b L => fv h L rfl
  by_cases h1 : t.kind = 1
  · have e1 : (t.kind == 1) = true := by simp [h1]
    have e2 : (t.kind == 2) = false := by simp [h1]
    have e3 : (keyT t == [40] || keyT t == [91]) = false := by
      rcases ht with rfl | ⟨_, c, l, h2, h3⟩ | h2 | ⟨h2, _⟩
      · cases h1
      · unfold keyT; rw [if_neg (by omega), h2]
        cases hc : ((c :: l == [40]) || (c :: l == [91])) with
        | false => rfl
        | true =>
          rcases Bool.or_eq_true_iff.1 hc with hc | hc <;> (have := eq_of_beq hc; cases this; cases h3)
      · omega
      · omega
    simp only [zbo, z7, zr, xe, zb, zw, z8, zn, zc, zo, zf, ze, zd, List.set_cons_succ, List.set_cons_zero, O_mv, yu, yg, O_un, yf, List.map_cons, List.map_nil, zz, zk, jy, vp, List.cons_append, List.nil_append, List.length_cons, List.length_nil, Nat.reduceSub, Nat.zero_add, zm, yb, zx, za, y5, xx, w8, xc, z6, yy, yq, zh, zg, Nat.add_zero, eq_self, yh, zt, yi, xk, vz, jh, yh, zt, k1, e1, zcl]
    rw [zkj ((Pre.refl h).more _) _ _ _ rfl]
    simp only [ze, zd, Bool.false_or, Bool.or_false, Bool.true_and, eq_self, za9, e1, e2, e3]
  · have e1 : (t.kind == 1) = false := by simp [h1]
    by_cases h3 : t.kind = 3
    · have e3 : (t.kind == 3) = true := by simp [h3]
      have e2 : (t.kind == 2) = false := by simp [h3]
      cases hx : (t.text == [40])
      · simp only [zbo, z7, zr, xe, zb, zw, zu, z8, zn, ye, zc, yr, zo, zf, ze, zd, List.set_cons_succ, List.set_cons_zero, O_mv, yw, xf, yu, yg, zz, zk, jy, List.cons_append, List.nil_append, List.length_cons, List.length_nil, Nat.reduceSub, Nat.zero_add, zm, yb, zx, za, y5, xx, w8, xc, z6, yy, yq, zh, zg, Nat.add_zero, eq_self, yh, zt, yi, w9, xk, vz, jh, yh, zt, k1, k3, e1, e3, hx]
        rw [zkj ((Pre.refl h).more _) _ _ _ rfl]
        simp only [ze, zd, Bool.false_or, Bool.false_and, eq_self, za9, keyT, h3, hx, if_neg (show ¬ (3 : Nat) = 2 by omega), Nat.reduceBEq]
      · simp only [zbo, z7, zr, xe, zb, zw, zu, z8, zn, ye, zc, wi, zo, zf, ze, zd, List.set_cons_succ, List.set_cons_zero, O_mv, yw, xf, yu, yg, zz, zk, jy, List.cons_append, List.nil_append, List.length_cons, List.length_nil, Nat.reduceSub, Nat.zero_add, zm, yb, zx, za, y5, xx, w8, xc, z6, yy, yq, zh, zg, Nat.add_zero, eq_self, yh, zt, yi, w9, xk, vz, jh, yh, zt, k1, k3, e1, e3, hx]
        rw [zkj ((Pre.refl h).more _) _ _ _ rfl]
        simp only [ze, zd, Bool.true_or, Bool.or_true, Bool.false_and, eq_self, za9, keyT, h3, hx, if_neg (show ¬ (3 : Nat) = 2 by omega), Nat.reduceBEq]
    · have e3 : (t.kind == 3) = false := by simp [h3]
      have e4 : (keyT t == [40] || keyT t == [91]) = false := by
        rcases ht with rfl | ⟨h2, _⟩ | h2 | ⟨h2, _⟩
        · rfl
        · omega
        · unfold keyT; rw [if_pos h2]; rfl
        · omega
      simp only [zbo, z7, zr, xe, yl, zb, zu, z8, zn, zc, zo, zf, ze, zd, List.set_cons_succ, List.set_cons_zero, O_mv, yu, yg, zz, zk, jy, List.cons_append, List.nil_append, List.length_cons, List.length_nil, Nat.reduceSub, Nat.zero_add, zm, yb, zx, za, zi, w8, xc, z6, yy, yq, zh, zg, Nat.add_zero, eq_self, yh, zt, yi, xk, vz, yh, zt, k1, k2, k3, e1, e3]
      rw [zkj ((Pre.refl h).more _) _ _ _ rfl]
      simp only [ze, zd, Bool.or_false, Bool.false_and, eq_self, za9, e1, e4]
/-- What a function that reads an expression comes to. -/
def ExR (P : RP) (h : Heap) (d : Nat) (v : Value) (h' : Heap) : PR Ex → Prop
  | .ok n r => ∃ i, r = P.L.drop i ∧ Rd P h' i d 0 0 ∧ TreeP h' (Iv h.length h'.length) v n ∧ Mv P h h'
  | .bad c p => c ≠ 0 ∧ (∃ i, Rd P h' i d c p) ∧ Mv P h h' ∧ ∃ b, v = pt b
def zcy (P : RP) (F : FuncId) (d : Nat) (f : List Tok → PR Ex) : Prop := ∀ h i, Rd P h i d 0 0 → ∃ v h', DF FF F [pt P.r] h = some (v, h') ∧ ExR P h d v h' (f (P.L.drop i))
def zsu (P : RP) (F : FuncId) : Prop := ∀ h i d c p, Rd P h i d c p → c ≠ 0 → ∃ b h', DF FF F [pt P.r] h = some (pt b, h') ∧ Rd P h' i d c p ∧ Mv P h h'
theorem ExR.ptr {P : RP} {h h' : Heap} {d : Nat} {v : Value} {R : PR Ex} (e : ExR P h d v h' R) : ∃ b, v = pt b := by
  cases R with
  | ok n r => obtain ⟨i, _, _, t, _⟩ := e; obtain ⟨b, _, _, _, _, hv, _⟩ := t.root; exact ⟨b, hv⟩
  | bad c p => exact e.2.2.2
theorem gc (h H : Heap) (b : Nat) : AM.finish h (pt b) H = H := zgq h rfl H
theorem gz {P : RP} {k : Nat} (hk : k < P.L.length) : P.L.drop k = y6 P k :: P.L.drop (k + 1) := by
  rw [List.drop_eq_getElem_cons hk]; unfold y6; rw [List.getElem?_eq_getElem hk]; rfl
theorem zuq (P : RP) (k : Nat) : y6 P k = zmj ∨ zrm (y6 P k) := by
  by_cases hk : k < P.L.length
  · right; unfold y6; rw [List.getElem?_eq_getElem hk]; exact P.ok _ (List.getElem_mem hk)
  · left; exact j3 hk
def MarksOk (mks : List Bys) (mo : Bys → Option Op2) : Prop := mo [] = none ∧ mks.length < 10 ∧ ∀ t : Tok, zrm t → (((t.kind : Int) == 3) && mks.contains t.text) = (mo (keyT t)).isSome ∧ ∀ o, mo (keyT t) = some o → op2S o = t.text
theorem MarksOk.at {mks : List Bys} {mo : Bys → Option Op2} (m : MarksOk mks mo) (P : RP) (k : Nat) : (((((y6 P k).kind : Int) == 3) && mks.contains (y6 P k).text) = (mo (keyT (y6 P k))).isSome) ∧ ∀ o, mo (keyT (y6 P k)) = some o → op2S o = (y6 P k).text ∧ k < P.L.length := by
  by_cases hk : k < P.L.length
  · rcases zuq P k with h | h
    · rw [h]
      rw [zer, m.1]
      exact ⟨rfl, fun o ho => by cases ho⟩
    · exact ⟨(m.2.2 _ h).1, fun o ho => ⟨(m.2.2 _ h).2 o ho, hk⟩⟩
  · rw [j3 hk, zer, m.1]
    exact ⟨rfl, fun o ho => by cases ho⟩
set_option maxHeartbeats 1000000 in
theorem zl9 {P : RP} {F : FuncId} {d : Nat} {part : List Tok → PR Ex} {mks : List Bys} {mo : Bys → Option Op2} (hF : zcy P F d part) (hs : Shr part) (hm : MarksOk mks mo) {h : Heap} {i : Nat} (e : Rd P h i d 0 0) {ms : Value} (hms : Sl h ms 1 (mks.map zfj)) (br : blk ms ≠ some P.r) (bc : blk ms ≠ some P.c) :
    ∃ v h', DF FF qr [pt P.r, .func (.func F) [pt P.r].toArray [].toArray, ms] h = some (v, h') ∧ ExR P h d v h' (zbx part mo (P.L.drop i)) := by
  refine wz zb7 ?_
  obtain ⟨v0, h0, q0, x0⟩ := hF h i e
  simp only [pm, z7, zb, z8, zn, zc, zo, zf, ze, zd, List.set_cons_succ, List.set_cons_zero, O_mv, List.map_nil, List.cons_append, List.nil_append, List.length_cons, List.length_nil, Nat.reduceAdd, Nat.reduceSub, Nat.zero_add, zm, yb, zx, za, zh, zg, List.append_nil, yi, bj, jf, q0]
  obtain ⟨R, hR⟩ : ∃ R, R = zbx part mo (P.L.drop i) := ⟨_, rfl⟩
  rw [← hR]
  refine zi6 (fun m st => (∃ (K : Heap) (k : Nat) (n : Ex) (v : Value) (j : Nat → Value), m = P.L.length - k + 1 ∧ Rd P K k d 0 0 ∧ TreeP K (Iv h.length K.length) v n ∧ Mv P h K ∧ binL part mo P.L.length n (P.L.drop k) = R ∧ st = ⟨[pt P.r, .func (.func F) [pt P.r].toArray [].toArray, ms, j 3, j 4, j 5, j 6, v, j 8, j 9, j 10, j 11, j 12, j 13, j 14, j 15, j 16, j 17, j 18, j 19, j 20, j 21, j 22, j 23, j 24, j 25, j 26, j 27, j 28, j 29, j 30, j 31, j 32, j 33, j 34, j 35, j 36, j 37, j 38, j 39, j 40, j 41, j 42, j 43, j 44, j 45, j 46], K⟩) ∨
    (∃ (K : Heap) (k c p b : Nat) (j : Nat → Value), m = 0 ∧ R = .bad c p ∧ c ≠ 0 ∧ Rd P K k d c p ∧ Mv P h K ∧ st = ⟨[pt P.r, .func (.func F) [pt P.r].toArray [].toArray, ms, j 3, j 4, j 5, j 6, pt b, j 8, j 9, j 10, j 11, j 12, j 13, j 14, j 15, j 16, j 17, j 18, j 19, j 20, j 21, j 22, j 23, j 24, j 25, j 26, j 27, j 28, j 29, j 30, j 31, j 32, j 33, j 34, j 35, j 36, j 37, j 38, j 39, j 40, j 41, j 42, j 43, j 44, j 45, j 46], K⟩)) ?_ (match part (P.L.drop i) with | .ok n r => r.length + 1 | .bad c p => 0) _ ?_
  · rintro m st (⟨K, k, n, v, j, rfl, eK, tK, mK, hb, rfl⟩ | ⟨K, k, c, p, b, j, rfl, hb, hc, eK, mK, rfl⟩)
    · have hw := zjy eK 0 (by omega)
      rw [Nat.add_zero, Int.cast_ofNat_Int] at hw
      have hmsK : Sl K ms 1 (mks.map zfj) := hms.keep fun b hb o ho => mK.keep b o ho (by rintro rfl; exact br hb) (by rintro rfl; exact bc hb)
      have hct := znv mks (y6 P k).text hmsK (by have := hm.2.1; omega)
      obtain ⟨hm1, hm2⟩ := hm.at P k
      have lr := e.lr; have lc := e.lc
      cases ho : mo (keyT (y6 P k)) with
      | none =>
        rw [ho, Option.isSome_none] at hm1
        have hend : R = .ok n (P.L.drop k) := by
          rw [← hb]
          by_cases hk : k < P.L.length
          · rw [gz hk]
            obtain ⟨q, hq⟩ : ∃ q, P.L.length = q + 1 := ⟨P.L.length - 1, by omega⟩
            rw [hq, binL, ho]
          · rw [List.drop_eq_nil_of_le (by omega)]; cases P.L.length <;> rfl
        have hv := tK.root
        obtain ⟨b, _, _, _, _, rfl, _⟩ := hv
        cases hk3 : (((y6 P k).kind : Int) == 3)
        · simp only [z7, zr, w6, xe, zb, zu, z8, zn, ye, zc, xl, w5, zo, zf, ze, zd, List.set_cons_succ, List.set_cons_zero, O_mv, yw, xf, yu, yg, yf, List.map_cons, List.map_nil, jy, zm, yb, za, yx, yj, zag, zgr, zcj, xt, vz, ok_0 eK, hw, hk3, xt, gc, vz, zcj, zgr]
          rw [hend]
          exact ⟨k, rfl, eK, tK, mK⟩
        · rw [hk3, Bool.true_and] at hm1
          simp only [z7, zr, w6, xe, zb, zu, z8, zn, ye, zc, xl, zo, zf, ze, zd, List.set_cons_succ, List.set_cons_zero, O_mv, yw, xf, yu, yg, yf, List.map_cons, List.map_nil, jy, zm, yb, za, yx, yj, zag, zgr, zcj, xt, vz, jh, ok_0 eK, hw, hk3, hct, hm1, xt, gc, vz, jh, zcj, zgr]
          rw [hend]
          exact ⟨k, rfl, eK, tK, mK⟩
      | some o =>
        obtain ⟨ho2, hk⟩ := hm2 o ho
        rw [ho, Option.isSome_some, Bool.and_eq_true] at hm1
        obtain ⟨hk3, hk4⟩ := hm1
        obtain ⟨K1, q1, e1, m1⟩ := zir eK hk
        obtain ⟨v2, K2, q2, x2⟩ := hF (K1 ++ [.cells (vo (y6 P k)) 0 false]) (k + 1) (e1.more _)
        obtain ⟨b, op, w, l, r, rfl, hbS, hbo⟩ := tK.root
        have hstep : R = match part (P.L.drop (k + 1)) with
            | .ok x r' => binL part mo P.L.length (.bin false o n x) r'
            | .bad c a => .bad c a := by
          rw [← hb, gz hk]
          obtain ⟨q, hq⟩ : ∃ q, P.L.length = q + 1 := ⟨P.L.length - 1, by omega⟩
          rw [hq, binL, ho]
          simp only
          cases hp : part (P.L.drop (k + 1)) with
          | bad c a => rfl
          | ok x r' =>
            have := hs _ _ _ hp
            simp only [List.length_drop] at this
            exact zlf hs _ _ _ _ (by omega) (by omega)
        obtain ⟨b2, rfl⟩ := x2.ptr
        have m12 : Mv P K K2 := (m1.more _).trans (by
          cases hp : part (P.L.drop (k + 1)) with
          | ok x r' => rw [hp] at x2; obtain ⟨_, _, _, _, m⟩ := x2; exact m
          | bad c a => rw [hp] at x2; exact x2.2.2.1)
        have mx : Mv P (K1 ++ [.cells (vo (y6 P k)) 0 false]) K2 := by
          cases hp : part (P.L.drop (k + 1)) with
          | ok x r' => rw [hp] at x2; obtain ⟨_, _, _, _, m⟩ := x2; exact m
          | bad c a => rw [hp] at x2; exact x2.2.2.1
        have hn1 : (K1 ++ [.cells (vo (y6 P k)) 0 false])[b]? = some (.cells (vd op w n.pl l r n.set) 0 false) := xa _ (m1.keep b _ hbo (by have := hbS.1; omega) (by have := hbS.1; omega))
        have hn2 : K2[b]? = some (.cells (vd op w n.pl l r n.set) 0 false) := m12.keep b _ hbo (by have := hbS.1; omega) (by have := hbS.1; omega)
        have ht2 : K2[K1.length]? = some (.cells (vo (y6 P k)) 0 false) := mx.keep _ _ (by simp) (by have := e1.lr; omega) (by have := e1.lc; omega)
        have r1 : ∀ j, Heap.read1 (K1 ++ [.cells (vo (y6 P k)) 0 false]) ⟨b, j, some 0⟩ = (vd op w n.pl l r n.set)[j]? := fun j => we hn1
        have r2 : Heap.read1 K2 ⟨b, 2, some 0⟩ = some (.int .i64 (n.pl : Int)) := we hn2
        have r3 : Heap.read1 K2 ⟨K1.length, 1, some 0⟩ = some (str (y6 P k).text) := we ht2
        have a1 : zb2 K2 (.pointer (some ⟨K1.length, 1, some 0⟩)) (str (y6 P k).text) = some (undef, K2) := b6 r3 rfl
        have a2 : zb2 K2 (.pointer (some ⟨b, 2, some 0⟩)) (.int .i64 (n.pl : Int)) = some (undef, K2) := b6 r2 rfl
        have r1' : (vd op w n.pl l r n.set)[2]? = some (.int .i64 (n.pl : Int)) := rfl
        simp only [z7, zr, yl, zb, zw, z8, zn, ye, zc, zp, xl, zo, zf, ze, zd, List.set_cons_succ, List.set_cons_zero, O_mv, yw, xf, yu, yg, yf, List.map_cons, List.map_nil, zz, zk, wg, y9, yc, yd, yz, wu, Nat.zero_lt_succ, Nat.reduceLT, jy, List.length_cons, List.length_nil, Nat.reduceAdd, Nat.zero_add, zm, yb, zx, za, zi, vq, y0, w8, xc, z6, zgr, zcj, xg, y7, zl, y4, ya, zq, zj, yy, yq, yk, zy, zs, List.append_nil, Nat.add_zero, List.getElem?_cons_zero, List.getElem?_cons_succ, eq_self, yh, zt, zdb, wo, f6, xk, vz, jh, ok_0 eK, hw, hk3, hct, hk4, vz, jh, zcj, zgr, eK.r0, q1, bj, jf, q2, r1, r1', a1, a2, yh, zt]
        cases hp : part (P.L.drop (k + 1)) with
        | ok x r' =>
          rw [hp] at x2 hstep
          obtain ⟨k', rfl, e2, t2, _⟩ := x2
          have hlt := hs _ _ _ hp
          simp only [List.length_drop] at hlt
          refine ⟨P.L.length - k' + 1, by have := e2.le; omega, .inl ⟨_, k', .bin false o n x, _, (junk rfl).elim fun j hj => ⟨j, rfl, e2.more _, ?_, (mK.trans m12).more _, hstep.symm, hj⟩⟩⟩
          have l1 := m12.le; have l0 := mK.le; have lm := m1.le
          have lx : K1.length + 1 ≤ K2.length := by have := mx.le; simpa using this
          refine ⟨K2.length, Iv h.length K.length, Iv (K1.length + 1) K2.length, pt b, pt b2, rfl, ⟨by omega, by simp⟩, ?_, ?_, ?_, ?_, ?_⟩
          · rw [ho2]; simp [vd]
          · exact (tK.keep fun c o hc ho => m12.keep c o ho (by have := hc.1; omega) (by have := hc.1; omega)).keep fun c o hc ho => xa _ ho
          · have : (K1 ++ [AObj.cells (vo (y6 P k)) 0 false]).length = K1.length + 1 := by simp
            rw [this] at t2
            exact t2.keep fun c o hc ho => xa _ ho
          · intro z hz
            have := hz.1; have := hz.2
            exact ⟨⟨by omega, by simp; omega⟩, by omega, fun h3 => by have := h3.1; omega⟩
          · intro z hz
            have := hz.1; have := hz.2
            exact ⟨⟨by omega, by simp; omega⟩, by omega⟩
        | bad c a =>
          rw [hp] at x2 hstep
          obtain ⟨hc, ⟨k', e2⟩, _, _⟩ := x2
          exact ⟨0, by omega, .inr ⟨_, k', c, a, _, (junk rfl).elim fun j hj => ⟨j, rfl, hstep, hc, e2.more _, (mK.trans m12).more _, hj⟩⟩⟩
    · simp only [z7, zr, w6, xe, zb, zu, z8, zn, ye, zc, w5, zo, zf, ze, zd, List.set_cons_succ, List.set_cons_zero, O_mv, yw, xf, yf, List.map_cons, List.map_nil, zm, yb, za, yx, yj, zag, xt, fh eK hc, xt, gc]
      rw [hb]
      exact ⟨hc, ⟨k, eK⟩, mK, _, rfl⟩
  · unfold zbx at hR
    cases hp : part (P.L.drop i) with
    | ok n r =>
      rw [hp] at x0 hR
      obtain ⟨k, rfl, e0, t0, m0⟩ := x0
      have hlt := hs _ _ _ hp
      simp only [List.length_drop] at hlt
      left
      refine ⟨h0, k, n, v0, (junk rfl).elim fun j hj => ⟨j, by simp, e0, t0, m0, ?_, hj⟩⟩
      rw [hR]
      exact zlf hs _ _ _ _ (by simp) (Nat.le_refl _)
    | bad c p =>
      rw [hp] at x0 hR
      obtain ⟨hc, ⟨k, e0⟩, m0, b, rfl⟩ := x0
      right
      exact ⟨h0, k, c, p, b, (junk rfl).elim fun j hj => ⟨j, rfl, hR, hc, e0, m0, hj⟩⟩
end Go.Proofs.YtljdbheclfaloaaGreatDoor.AM
