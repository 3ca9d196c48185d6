/-
  The machine, the functions, what they come to: part 5.
  Conditions: as each says.
-/
import Derived.Test.YtljdbheclfaloaaGreatDoorKb4
namespace Go.Proofs.YtljdbheclfaloaaGreatDoor.AM
set_option linter.unusedSimpArgs false
open Go.RowKit
set_option linter.unusedVariables false

abbrev Bys := List UInt8
inductive Op1 | plus | star | maybe | inv
  deriving DecidableEq
inductive Op2 | or | and | minus | seq | cross
  deriving DecidableEq
inductive Ex
  | name (s : Bool) (a : Nat) (w : Bys)
  | zero (a : Nat)
  | par (s : Bool) (a : Nat) (e : Ex)
  | box (a : Nat) (e : Ex)
  | un (o : Op1) (e : Ex)
  | bin (s : Bool) (o : Op2) (l r : Ex)
def Ex.pl : Ex → Nat
  | .name _ a _ => a
  | .zero a => a
  | .par _ a _ => a
  | .box a _ => a
  | .un _ e => e.pl
  | .bin _ _ l _ => l.pl
def Ex.set : Ex → Bool
  | .name s _ _ => s
  | .par s _ _ => s
  | .bin s _ _ _ => s
  | _ => false
def keyT (t : Tok) : Bys := if t.kind = 2 then [] else t.text
def wLet : Bys := [108, 101, 116]
def wRec : Bys := [114, 101, 99]
def wAnd : Bys := [97, 110, 100]
def zab : Bys := [97, 99, 121, 99, 108, 105, 99]
def wIrr : Bys := [105, 114, 114, 101, 102, 108, 101, 120, 105, 118, 101]
def zd9 : Bys := [101, 109, 112, 116, 121]
def wAs : Bys := [97, 115]
def kwL : List Bys := [wLet, wRec, wAnd, zab, wIrr, zd9, wAs]
def zbc (t : Tok) : Bool := t.kind == 1 && !kwL.contains t.text
def zew : List Tok → Bool
  | [] => false
  | t :: _ => t.kind == 2 || (zbc t || (keyT t == [40] || keyT t == [91]))
inductive PR (α : Type)
  | ok (x : α) (r : List Tok)
  | bad (c a : Nat)
def orM (k : Bys) : Option Op2 := if k == [124] then some .or else none
def andM (k : Bys) : Option Op2 := if k == [38] then some .and else if k == [92] then some .minus else none
def seqM (k : Bys) : Option Op2 := if k == [59] then some .seq else none
def binL (part : List Tok → PR Ex) (m : Bys → Option Op2) : Nat → Ex → List Tok → PR Ex
  | 0, n, ts => .ok n ts
  | _ + 1, n, [] => .ok n []
  | k + 1, n, t :: r => match m (keyT t) with
    | none => .ok n (t :: r)
    | some o => match part r with
      | .ok x r' => binL part m k (.bin false o n x) r'
      | .bad c a => .bad c a
def pv (part : List Tok → PR Ex) (m : Bys → Option Op2) (ts : List Tok) : PR Ex := match part ts with
  | .ok n r => binL part m r.length n r
  | .bad c a => .bad c a
def inv3 (e : Nat) (f : List Tok → PR Ex) : List Tok → PR Ex
  | [] => .bad 24 e
  | t :: r => if t.kind == 2 && t.n == 1 then f r else .bad 22 t.at_
def inv2 (e : Nat) (f : List Tok → PR Ex) : List Tok → PR Ex
  | [] => .bad 24 e
  | t :: r => if keyT t == [45] then inv3 e f r else .bad 22 t.at_
def pq (e : Nat) : Nat → Ex → List Tok → PR Ex
  | 0, n, ts => .ok n ts
  | _ + 1, n, [] => .ok n []
  | k + 1, n, t :: r => if keyT t == [43] then pq e k (.un .plus n) r
    else if keyT t == [63] then pq e k (.un .maybe n) r
    else if keyT t == [42] && !zew r then pq e k (.un .star n) r
    else if keyT t == [94] then inv2 e (fun r3 => pq e k (.un .inv n) r3) r
    else .ok n (t :: r)
def zif (e : Nat) (prim : List Tok → PR Ex) (ts : List Tok) : PR Ex := match prim ts with
  | .ok n r => pq e r.length n r
  | .bad c a => .bad c a
def zhk (post : List Tok → PR Ex) (ts : List Tok) : PR Ex := match post ts with
  | .ok n [] => .ok n []
  | .ok n (t :: r) => if keyT t == [42] then match post r with
      | .ok m r2 => .ok (.bin false .cross n m) r2
      | .bad c a => .bad c a
    else .ok n (t :: r)
  | .bad c a => .bad c a
def zio (e : Nat) (cl : Bys) (n : Ex) : List Tok → PR Ex
  | [] => .bad 24 e
  | t :: r => if keyT t == cl then .ok n r else .bad 22 t.at_
def brP (e : Nat) (cl : Bys) (mk : Ex → Ex) : PR Ex → PR Ex
  | .bad c a => .bad c a
  | .ok n r => zio e cl (mk n) r
def brkP (e : Nat) (t : Tok) (r : List Tok) : Option (List Tok → PR Ex) → PR Ex
  | none => .bad 2 t.at_
  | some f => if keyT t == [40] then brP e [41] (.par false t.at_) (f r) else brP e [93] (.box t.at_) (f r)
def zi8 (e : Nat) (inner : Option (List Tok → PR Ex)) : List Tok → PR Ex
  | [] => .bad 24 e
  | t :: r => if keyT t == [40] || keyT t == [91] then brkP e t r inner
    else if t.kind == 2 && t.n == 0 then .ok (.zero t.at_) r
    else if zbc t then .ok (.name false t.at_ t.text) r
    else .bad 22 t.at_
def zpr (e : Nat) (prim : List Tok → PR Ex) : List Tok → PR Ex := pv (pv (pv (zhk (zif e prim)) seqM) andM) orM
def zbi (e : Nat) : Nat → List Tok → PR Ex
  | 0 => zpr e (zi8 e none)
  | d + 1 => zpr e (zi8 e (some (zbi e d)))
def zli (e : Nat) : List Tok → PR (Bys × Nat)
  | [] => .bad 24 e
  | t :: r => if zbc t then .ok (t.text, t.at_) r else .bad 22 t.at_
def eatP (e : Nat) (m : Bys) : List Tok → PR Unit
  | [] => .bad 24 e
  | t :: r => if keyT t == m then .ok () r else .bad 22 t.at_
structure Gv where
  name : Bys
  at_ : Nat
  e : Ex
inductive Ck | acyclic | irr | empty
  deriving DecidableEq
inductive Stm
  | lets (rc : Bool) (gs : List Gv)
  | chk (k : Ck) (x : Ex) (as_ : Bys)
def zj7 (e : Nat) (ts : List Tok) : PR Gv := match zli e ts with
  | .bad c a => .bad c a
  | .ok w r => match eatP e [61] r with
    | .bad c a => .bad c a
    | .ok _ r1 => match zbi e 32 r1 with
      | .bad c a => .bad c a
      | .ok x r2 => .ok ⟨w.1, w.2, x⟩ r2
def ft (e : Nat) : Nat → List Tok → PR (List Gv)
  | 0, ts => .ok [] ts
  | k + 1, ts => match zj7 e ts with
    | .bad c a => .bad c a
    | .ok g [] => .ok [g] []
    | .ok g (t :: r) => if keyT t == wAnd then match ft e k r with
        | .bad c a => .bad c a
        | .ok gs r2 => .ok (g :: gs) r2
      else .ok [g] (t :: r)
def ziw (e : Nat) (rc : Bool) (ts : List Tok) : PR Stm := match ft e (ts.length + 1) ts with
  | .bad c a => .bad c a
  | .ok gs r => .ok (.lets rc gs) r
def zdk (e : Nat) (k : Ck) (ts : List Tok) : PR Stm := match zbi e 32 ts with
  | .bad c a => .bad c a
  | .ok x [] => .ok (.chk k x []) []
  | .ok x (t :: r) => if keyT t == wAs then match zli e r with
      | .bad c a => .bad c a
      | .ok w r2 => .ok (.chk k x w.1) r2
    else .ok (.chk k x []) (t :: r)
def letP (e : Nat) : List Tok → PR Stm
  | [] => ziw e false []
  | t :: r => if keyT t == wRec then ziw e true r else ziw e false (t :: r)
def ze6 (e : Nat) : List Tok → PR Stm
  | [] => .bad 24 e
  | t :: r => if keyT t == wLet then letP e r
    else if keyT t == zab then zdk e .acyclic r
    else if keyT t == wIrr then zdk e .irr r
    else if keyT t == zd9 then zdk e .empty r
    else .bad 22 t.at_
def j5 (e : Nat) : Nat → List Tok → PR (List Stm)
  | 0, ts => .ok [] ts
  | _ + 1, [] => .ok [] []
  | k + 1, t :: r => match ze6 e (t :: r) with
    | .bad c a => .bad c a
    | .ok s r => match j5 e k r with
      | .bad c a => .bad c a
      | .ok l r2 => .ok (s :: l) r2
def zfc (e : Nat) (ts : List Tok) : PR (List Stm) := j5 e ts.length ts

/-! Names and kinds. -/
abbrev Kn := List (Bys × Bool)
def jg (kn : Kn) (w : Bys) : Option Bool := match kn with
  | [] => none
  | (v, s) :: r => if w == v then some s else jg r w
inductive CR (α : Type)
  | ok (x : α)
  | bad (c a : Nat)
def chkE (kn : Kn) (rc : List Bys) : Bool → Ex → CR Ex
  | rt, .name _ a w => match jg kn w with
    | none => .bad 40 a
    | some s => if rt && rc.contains w then .bad 43 a else .ok (.name s a w)
  | _, .zero a => .ok (.zero a)
  | rt, .par _ a e => match chkE kn rc rt e with
    | .bad c p => .bad c p
    | .ok e' => .ok (.par e'.set a e')
  | rt, .box a e => match chkE kn rc rt e with
    | .bad c p => .bad c p
    | .ok e' => if e'.set then .ok (.box a e') else .bad 41 e.pl
  | rt, .un o e => match chkE kn rc rt e with
    | .bad c p => .bad c p
    | .ok e' => if e'.set then .bad 41 e.pl else .ok (.un o e')
  | rt, .bin s o l r => match chkE kn rc rt l with
    | .bad c p => .bad c p
    | .ok l' => match chkE kn rc (rt || o == .minus) r with
      | .bad c p => .bad c p
      | .ok r' => match o with
        | .seq => if l'.set then .bad 41 l.pl else if r'.set then .bad 41 r.pl else .ok (.bin s o l' r')
        | .cross => if !l'.set then .bad 41 l.pl else if !r'.set then .bad 41 r.pl else .ok (.bin s o l' r')
        | _ => if r'.set != l'.set then .bad 41 r.pl else .ok (.bin l'.set o l' r')
def b5 (kn : Kn) : Nat → List Bys → List Gv → CR Unit
  | _, _, [] => .ok ()
  | n, here, g :: gs => if (jg kn g.name).isSome || here.contains g.name then .bad 42 g.at_
    else if 64 ≤ n then .bad 2 g.at_
    else b5 kn (n + 1) (here ++ [g.name]) gs
def zc5 (kn : Kn) (rc : List Bys) (rec_ : Bool) : List Gv → CR (List Gv)
  | [] => .ok []
  | g :: gs => match chkE kn rc false g.e with
    | .bad c a => .bad c a
    | .ok x => if rec_ && x.set then .bad 41 g.e.pl else match zc5 kn rc rec_ gs with
      | .bad c a => .bad c a
      | .ok l => .ok (⟨g.name, g.at_, x⟩ :: l)
def j9 (gs : List Gv) : Kn := gs.map fun g => (g.name, g.e.set)
def chkS (kn : Kn) (n : Nat) : Stm → CR Stm
  | .lets rec_ gs => match b5 kn n [] gs with
    | .bad c a => .bad c a
    | .ok _ => match zc5 (if rec_ then kn ++ gs.map fun g => (g.name, false) else kn) (if rec_ then gs.map (·.name) else []) rec_ gs with
      | .bad c a => .bad c a
      | .ok l => .ok (.lets rec_ l)
  | .chk k x as_ => match chkE kn [] false x with
    | .bad c a => .bad c a
    | .ok x' => if k != .empty && x'.set then .bad 41 x.pl else .ok (.chk k x' as_)
def Stm.given : Stm → Kn
  | .lets _ gs => j9 gs
  | .chk _ _ _ => []
def chkM (kn : Kn) (n : Nat) : List Stm → CR (List Stm)
  | [] => .ok []
  | s :: l => match chkS kn n s with
    | .bad c a => .bad c a
    | .ok s' => match chkM (kn ++ s'.given) (n + s'.given.length) l with
      | .bad c a => .bad c a
      | .ok l' => .ok (s' :: l')
def fi (kn : Kn) : Kn → Kn
  | [] => kn
  | d :: r => fi (if (jg kn d.1).isSome then kn else kn ++ [d]) r
structure Md where
  known : Kn
  l : List Stm
def px (text : Bys) (names : Kn) : CR Md := if 4096 < text.length then .bad 2 0 else match k9 text 0 with
  | .bad c a => .bad c a
  | .ok ts => match zfc text.length ts with
    | .bad c a => .bad c a
    | .ok l _ => match chkM (fi [] names) 0 l with
      | .bad c a => .bad c a
      | .ok l' => .ok ⟨fi [] names, l'⟩
end Go.Proofs.YtljdbheclfaloaaGreatDoor.AM
namespace Go.Proofs.YtljdbheclfaloaaGreatDoor.AM
open Go.RowKit
set_option linter.unusedSimpArgs false
set_option linter.unusedVariables false

def Kept (H H' : Heap) : Prop := ∀ (i : Nat) (o : AObj), H[i]? = some o → H'[i]? = some o
theorem Kept.more (H L : Heap) : Kept H (H ++ L) := fun i o h => by rw [List.getElem?_append_left (List.getElem?_eq_some_iff.1 h).1]; exact h
theorem Pre.kept {h H : Heap} (p : Pre h H) : Kept h H := by obtain ⟨L, rfl⟩ := p; exact Kept.more h L
section
variable {K : Heap} {b c j : Nat} {l : List Value} {o : AObj} {v : Option Nat}
theorem yb5 (h : (b = c) = False) : Heap.read1 (K.set b o) ⟨c, j, v⟩ = Heap.read1 K ⟨c, j, v⟩ := by
  unfold Heap.read1; simp only; rw [List.getElem?_set_ne (by rw [ne_eq, h]; exact not_false)]
theorem fm {n : Nat} (hb : b < K.length) (hl : l.length = n) : Heap.read (K.set b (.cells l 0 false)) ⟨b, 0, some 0⟩ n = some l := by
  subst hl; simp [Heap.read, hb]
theorem zha {x : Value} (hb : b < K.length) (hj : j < l.length) : Heap.write1 (K.set b (.cells l 0 false)) ⟨b, j, some 0⟩ x = some (K.set b (.cells (l.set j x) 0 false)) := by
  simp [Heap.write1, hb, hj]
theorem ph {x : Value} (e : K[b]? = some (.cells l 0 false)) (hj : j < l.length) : Heap.write1 K ⟨b, j, some 0⟩ x = some (K.set b (.cells (l.set j x) 0 false)) := by
  simp [Heap.write1, e, hj]
theorem zcx {xs : List Value} (e : K[b]? = some (.cells l 0 false)) (hl : l.length = xs.length) : Heap.write K ⟨b, 0, some 0⟩ xs = some (K.set b (.cells xs 0 false)) := by
  simp [Heap.write, e, hl, splice, List.drop_eq_nil_of_le (Nat.le_of_eq hl)]
theorem x5 (e : K[b]? = some (.cells l 0 false)) : Heap.read1 K ⟨b, j, some 0⟩ = l[j]? := by simp [Heap.read1, e]
theorem zj8 {n : Nat} (e : K[b]? = some (.cells l 0 false)) (hl : l.length = n) : Heap.read K ⟨b, 0, some 0⟩ n = some l := by
  subst hl; simp [Heap.read, e]
theorem ycd (e : K[b]? = some o) : K.set b o = K := by
  apply List.ext_getElem?
  intro i
  by_cases h : b = i
  · subst h; rw [List.getElem?_set_self (List.getElem?_eq_some_iff.1 e).1, e]
  · rw [List.getElem?_set_ne h]
end
theorem zeo (h H : Heap) (t : List Value) (R : Value → Heap → Prop) : retE h [] R .ret ⟨t, H⟩ = R (tup []) (AM.finish h (tup []) H) := by
  unfold retE
  apply propext
  constructor
  · rintro ⟨v, h', e, r⟩
    simp [endF, f7] at e
    obtain ⟨rfl, rfl⟩ := e; exact r
  · intro r; exact ⟨_, _, by simp [endF, f7], r⟩
theorem wn (h H : Heap) (t : List Value) (R : Value → Heap → Prop) : retE h [] R .normal ⟨t, H⟩ = R (tup []) (AM.finish h (tup []) H) := by
  unfold retE
  apply propext
  constructor
  · rintro ⟨v, h', e, r⟩
    simp [endF, f7] at e
    obtain ⟨rfl, rfl⟩ := e; exact r
  · intro r; exact ⟨_, _, by simp [endF, f7], r⟩
theorem yfs (h L : Heap) : AM.finish h (tup []) (h ++ L) = h := g9 h L rfl
def zxb (R : Value → Heap → Prop) (h H : Heap) : Option (List Value) → Prop
  | some l => R (agg l) (finish h (agg l) H)
  | none => False
def zk4 (R : Value → Heap → Prop) (h H : Heap) (n : Nat) : Value → Prop
  | .pointer (some p) => zxb R h H (H.read p n)
  | _ => False
theorem zau (h H : Heap) (i n : Nat) (t : List Value) (R : Value → Heap → Prop) : retE h [.cells i n] R .ret ⟨t, H⟩ = zk4 R h H n (t.getD i undef) := by
  unfold retE
  apply propext
  simp only [endF, f7, aRes]
  generalize t.getD i undef = x
  cases x with
  | pointer p =>
    cases p with
    | none => simp [zk4]
    | some p =>
      simp only [zk4]
      cases hr : H.read p n with
      | none => simp [zxb]
      | some l =>
        simp only [zxb]
        constructor
        · rintro ⟨v, h', e, r⟩
          simp at e
          obtain ⟨rfl, rfl⟩ := e
          exact r
        · intro r
          exact ⟨_, _, by simp, r⟩
  | _ => simp [zk4]
theorem jp (R : Value → Heap → Prop) (h H : Heap) (n : Nat) (p : Addr) : zk4 R h H n (.pointer (some p)) = zxb R h H (H.read p n) := rfl
theorem kf (R : Value → Heap → Prop) (h H : Heap) (l : List Value) : zxb R h H (some l) = R (agg l) (finish h (agg l) H) := rfl
end Go.Proofs.YtljdbheclfaloaaGreatDoor.AM
namespace Go.Proofs.YtljdbheclfaloaaGreatDoor.AM
open Go.RowKit
set_option linter.unusedSimpArgs false
set_option linter.unusedVariables false

theorem wm {l : List Value} {i : Nat} {s : List UInt8} (r : List (Nat × Nat × Value)) (hi : i < l.length) : wz l ((i, 1, str s) :: r) = wz (l.set i (str s)) r := zgi r hi rfl
theorem f8 {l : List Value} {i : Nat} {p : Option Addr} (r : List (Nat × Nat × Value)) (hi : i < l.length) : wz l ((i, 1, .pointer p) :: r) = wz (l.set i (.pointer p)) r := zgi r hi rfl
theorem zu1 {l : List Value} {i : Nat} {p : Option Nat} (r : List (Nat × Nat × Value)) (hi : i < l.length) : wz l ((i, 1, .map p) :: r) = wz (l.set i (.map p)) r := zgi r hi rfl
abbrev pt (b : Nat) : Value := .pointer (some ⟨b, 0, some 0⟩)
def zpx (t : Tok) : Prop := (t.kind = 1 ∧ ∃ c l, t.text = c :: l ∧ (letV (c.toNat : Int) || (c.toNat : Int) == 95) = true) ∨ t.kind = 2 ∨ (t.kind = 3 ∧ ∃ c l, t.text = c :: l ∧ ybw c = true)
structure RP where
  r : Nat
  c : Nat
  en : Nat
  ws : Value
  cs : Value
  L : List Tok
  ne : r ≠ c
  wr : blk ws ≠ some r
  wc : blk ws ≠ some c
  cr : blk cs ≠ some r
  cc : blk cs ≠ some c
  ok : ∀ t ∈ L, zpx t
  len : L.length ≤ 8192
structure Rd (P : RP) (h : Heap) (i d x a : Nat) : Prop where
  hr : h[P.r]? = some (.cells [pt P.c, P.ws, .int .i64 (P.en : Int), .int .i64 (d : Int), .int .i64 (x : Int), .int .i64 (a : Int)] 0 false)
  hc : h[P.c]? = some (.cells [P.cs, .int .i64 (i : Int)] 0 false)
  sw : Sl h P.ws 4 (P.L.map vp)
  sc : Sl h P.cs 4 (P.L.map vp)
  le : i ≤ P.L.length
structure Mv (P : RP) (h h' : Heap) : Prop where
  keep : ∀ (b : Nat) (o : AObj), h[b]? = some o → b ≠ P.r → b ≠ P.c → h'[b]? = some o
  le : h.length ≤ h'.length
theorem Mv.refl (P : RP) (h : Heap) : Mv P h h := ⟨fun _ _ e _ _ => e, Nat.le_refl _⟩
theorem Mv.trans {P : RP} {h h' h'' : Heap} (a : Mv P h h') (b : Mv P h' h'') : Mv P h h'' := ⟨fun x o e n1 n2 => b.keep x o (a.keep x o e n1 n2) n1 n2, Nat.le_trans a.le b.le⟩
theorem Mv.more {P : RP} {h h' : Heap} (a : Mv P h h') (L : Heap) : Mv P h (h' ++ L) := a.trans ⟨fun x o e _ _ => Kept.more _ _ x o e, by simp⟩
theorem Mv.add (P : RP) (h L : Heap) : Mv P h (h ++ L) := (Mv.refl P h).more L
theorem y8 {h : Heap} {b : Nat} {o : AObj} (L : Heap) (e : h[b]? = some o) : (h ++ L)[b]? = some o := Kept.more h L b o e
section
variable {P : RP} {h : Heap} {i d x a : Nat}
theorem Rd.more (e : Rd P h i d x a) (L : Heap) : Rd P (h ++ L) i d x a := ⟨y8 L e.hr, y8 L e.hc, e.sw.more L, e.sc.more L, e.le⟩
theorem Rd.r1 (e : Rd P h i d x a) (L : Heap) (j : Nat) : Heap.read1 (h ++ L) ⟨P.r, j, some 0⟩ = ([pt P.c, P.ws, .int .i64 (P.en : Int), .int .i64 (d : Int), .int .i64 (x : Int), .int .i64 (a : Int)] : List Value)[j]? := x5 (y8 L e.hr)
theorem Rd.r0 (e : Rd P h i d x a) (j : Nat) : Heap.read1 h ⟨P.r, j, some 0⟩ = ([pt P.c, P.ws, .int .i64 (P.en : Int), .int .i64 (d : Int), .int .i64 (x : Int), .int .i64 (a : Int)] : List Value)[j]? := x5 e.hr
theorem Rd.c1 (e : Rd P h i d x a) (L : Heap) (j : Nat) : Heap.read1 (h ++ L) ⟨P.c, j, some 0⟩ = ([P.cs, .int .i64 (i : Int)] : List Value)[j]? := x5 (y8 L e.hc)
theorem Rd.c0 (e : Rd P h i d x a) (j : Nat) : Heap.read1 h ⟨P.c, j, some 0⟩ = ([P.cs, .int .i64 (i : Int)] : List Value)[j]? := x5 e.hc
theorem Rd.cl (e : Rd P h i d x a) (K : Heap) : lenO K P.cs = some (.int .i64 (P.L.length : Int), K) := by rw [e.sc.len, List.length_map]
theorem Rd.wl (e : Rd P h i d x a) (K : Heap) : lenO K P.ws = some (.int .i64 (P.L.length : Int), K) := by rw [e.sw.len, List.length_map]
theorem Rd.lr (e : Rd P h i d x a) : P.r < h.length := (List.getElem?_eq_some_iff.1 e.hr).1
theorem Rd.lc (e : Rd P h i d x a) : P.c < h.length := (List.getElem?_eq_some_iff.1 e.hc).1
theorem Rd.move {h' : Heap} {i' d' x' a' : Nat} (e : Rd P h i d x a) (m : Mv P h h')
    (hr : h'[P.r]? = some (.cells [pt P.c, P.ws, .int .i64 (P.en : Int), .int .i64 (d' : Int), .int .i64 (x' : Int), .int .i64 (a' : Int)] 0 false)) (hc : h'[P.c]? = some (.cells [P.cs, .int .i64 (i' : Int)] 0 false)) (hl : i' ≤ P.L.length) : Rd P h' i' d' x' a' :=
  ⟨hr, hc, e.sw.keep fun b hb o ho => m.keep b o ho (by rintro rfl; exact P.wr hb) (by rintro rfl; exact P.wc hb), e.sc.keep fun b hb o ho => m.keep b o ho (by rintro rfl; exact P.cr hb) (by rintro rfl; exact P.cc hb), hl⟩
theorem Rd.setC (e : Rd P h i d x a) {i' : Nat} (hl : i' ≤ P.L.length) : Rd P (h.set P.c (.cells [P.cs, .int .i64 (i' : Int)] 0 false)) i' d x a ∧ Mv P h (h.set P.c (.cells [P.cs, .int .i64 (i' : Int)] 0 false)) := by
  have m : Mv P h (h.set P.c (.cells [P.cs, .int .i64 (i' : Int)] 0 false)) := ⟨fun b o ho n1 n2 => by rw [List.getElem?_set_ne (Ne.symm n2)]; exact ho, by simp⟩
  exact ⟨e.move m (by rw [List.getElem?_set_ne (Ne.symm P.ne)]; exact e.hr) (by rw [List.getElem?_set_self e.lc]) hl, m⟩
theorem Rd.setR (e : Rd P h i d x a) (d' x' a' : Nat) : Rd P (h.set P.r (.cells [pt P.c, P.ws, .int .i64 (P.en : Int), .int .i64 (d' : Int), .int .i64 (x' : Int), .int .i64 (a' : Int)] 0 false)) i d' x' a' ∧ Mv P h (h.set P.r (.cells [pt P.c, P.ws, .int .i64 (P.en : Int), .int .i64 (d' : Int), .int .i64 (x' : Int), .int .i64 (a' : Int)] 0 false)) := by
  have m : Mv P h (h.set P.r (.cells [pt P.c, P.ws, .int .i64 (P.en : Int), .int .i64 (d' : Int), .int .i64 (x' : Int), .int .i64 (a' : Int)] 0 false)) := ⟨fun b o ho n1 n2 => by rw [List.getElem?_set_ne (Ne.symm n1)]; exact ho, by simp⟩
  exact ⟨e.move m (by rw [List.getElem?_set_self e.lr]) (by rw [List.getElem?_set_ne P.ne]; exact e.hc) e.le, m⟩
end
def zmh : Tok := ⟨0, [], 0, 0⟩
def y4 (P : RP) (i : Nat) : Tok := (P.L[i]?).getD zmh
theorem yew {m n : Nat} (h : n ≤ m) (hm : m < 9223372036854775807) : IntKind.i64.wrap ((m : Int) - (n : Int)) = ((m - n : Nat) : Int) := by
  rw [zf9 (by unfold W; omega)]; omega
theorem ye5 {m n : Nat} (hm : m + n < 9223372036854775807) : IntKind.i64.wrap ((m : Int) + (n : Int)) = ((m + n : Nat) : Int) := by
  rw [zf9 (by unfold W; omega)]; omega
theorem xk (t : Tok) : (vp t).length = 4 := by simp [vp]
theorem v6 (t : Tok) : (vp t)[0]? = some (.int .i64 (t.kind : Int)) := rfl
theorem jf (t : Tok) : (vp t)[1]? = some (str t.text) := rfl
theorem zei (t : Tok) : (vp t)[2]? = some (.int .i64 t.n) := rfl
theorem zt6 (t : Tok) : (vp t)[3]? = some (.int .i64 (t.at_ : Int)) := rfl
theorem zp7 (t : Tok) : (vp t).all plain1 = true := rfl
theorem zuu (h L : Heap) (t : Tok) : outE h (h ++ L) (some (vp t)) = some (agg (vp t), h) := zny h L (zp7 t)
section
variable {P : RP} {h : Heap} {i d x a : Nat}
theorem zgu (e : Rd P h i d x a) : DF FF jn [pt P.c] h = some (.int .i64 ((P.L.length - i : Nat) : Int), h) := by
  refine wg zim ?_
  have hl := P.len; have hi := e.le
  simp only [zdj, ya, xe, zb, yb, zm, zc, zo, zf, ze, zd, List.set_cons_succ, List.set_cons_zero, O_mv, yx, yg, j6, zy, zk, ztl, List.cons_append, List.nil_append, List.length_cons, List.length_nil, Nat.reduceSub, Nat.zero_add, zn, yc, za, zc7, xb, z7, zq, zj, zh, zg, Nat.add_zero, List.getElem?_cons_zero, List.getElem?_cons_succ, eq_self, e.c0, e.cl, yew e.le (show P.L.length < 9223372036854775807 by omega)]
theorem Rd.tok (e : Rd P h i d x a) {k : Nat} (hk : k < P.L.length) : ∃ b o v, (∀ H', rowO H' 4 P.ws (.int .i64 (k : Int)) = some (.pointer (some ⟨b, o, some v⟩), H')) ∧ ∀ L, Heap.read (h ++ L) ⟨b, o, some v⟩ 4 = some (vp (y4 P k)) := by
  obtain ⟨b, o, v, h1, h2⟩ := e.sw.at (k := k) (by simpa using hk)
  refine ⟨b, o, v, h1, fun L => ?_⟩
  rw [h2 L]; simp [y4, List.getElem?_eq_getElem hk]
theorem Rd.tokc (e : Rd P h i d x a) {k : Nat} (hk : k < P.L.length) : ∃ b o v, (∀ H', rowO H' 4 P.cs (.int .i64 (k : Int)) = some (.pointer (some ⟨b, o, some v⟩), H')) ∧ ∀ L, Heap.read (h ++ L) ⟨b, o, some v⟩ 4 = some (vp (y4 P k)) := by
  obtain ⟨b, o, v, h1, h2⟩ := e.sc.at (k := k) (by simpa using hk)
  refine ⟨b, o, v, h1, fun L => ?_⟩
  rw [h2 L]; simp [y4, List.getElem?_eq_getElem hk]
theorem j1 {k : Nat} (hk : ¬ k < P.L.length) : y4 P k = zmh := by unfold y4; rw [List.getElem?_eq_none (by omega)]; rfl
theorem zj3 (e : Rd P h i d x a) (k : Nat) (hk : k < 4) : DF FF qp [pt P.r, .int .i64 (k : Int)] h = some (agg (vp (y4 P (i + k))), h) := by
  refine wg zjc ?_
  have hl := P.len; have hi := e.le
  by_cases hlt : i + k < P.L.length
  · have c1 : (((P.L.length - i : Nat) : Int) ≤ (k : Int)) = False := by simp; omega
    obtain ⟨b, o, v, q1, q2⟩ := e.tok hlt
    have w2 : IntKind.i64.wrap ((P.L.length : Int) - ((P.L.length - i : Nat) : Int)) = (i : Int) := by rw [zf9 (by unfold W; omega)]; omega
    have w3 := ye5 (m := i) (n := k) (by omega)
    have ht : zml P.ws = false := by rcases e.sw with ⟨⟨hn, _⟩ | ⟨_, _, _, hn, _⟩, _⟩ <;> rw [hn] <;> rfl
    have a1 : ∀ L, zbz (h ++ L) (.pointer (some ⟨P.r, 1, some 0⟩)) P.ws = some (undef, h ++ L) := fun L => b6 (e.r1 L 1) ht
    simp only [zbh, ya, zs, xe, yl, zb, zu, yb, zm, zc, zp, zo, ze, zd, List.set_cons_succ, List.set_cons_zero, O_mv, yx, yg, ye, List.map_cons, List.map_nil, j6, ve, zy, zk, xr, y5, vw, ztl, zcw, List.cons_append, List.nil_append, List.length_cons, List.length_nil, Nat.reduceAdd, Nat.reduceSub, Nat.zero_add, zn, yc, za, yq, xb, z7, zl, yu, z6, zq, zj, xl, xf, yi, zw, zr, zh, zg, Nat.add_zero, Option.map_some, List.getElem?_cons_zero, List.getElem?_cons_succ, eq_self, zdc, yj, Option.map_some, gf, qi, zuu, decide_false, xk, e.r1, zgu (e.more _), c1, decide_false, e.wl, w2, w3, q1, q2, a1]
  · have c1 : (((P.L.length - i : Nat) : Int) ≤ (k : Int)) = True := by simp; omega
    rw [j1 hlt]
    simp only [zbh, ya, zs, xe, zb, zx, yb, zm, zc, zp, zo, ze, zd, List.set_cons_succ, List.set_cons_zero, O_mv, yx, yg, ye, List.map_cons, List.map_nil, zy, zk, x8, y9, yd, yy, zcw, List.cons_append, List.nil_append, List.length_cons, List.length_nil, Nat.reduceAdd, Nat.reduceSub, Nat.zero_add, zn, yc, za, y6, yq, xb, z7, zl, yu, z6, zq, zj, xl, xf, yi, zw, zr, zh, zg, Nat.add_zero, List.getElem?_cons_zero, eq_self, yj, gf, qi, decide_true, e.r1, zgu (e.more _), c1, decide_true]
    exact zuu h _ zmh
end
end Go.Proofs.YtljdbheclfaloaaGreatDoor.AM
namespace Go.Proofs.YtljdbheclfaloaaGreatDoor.AM
open Go.RowKit
set_option linter.unusedSimpArgs false
set_option linter.unusedVariables false

/-! Words are used up. -/
def Shr (f : List Tok → PR Ex) : Prop := ∀ ts x r, f ts = .ok x r → r.length < ts.length
theorem zt3 {part : List Tok → PR Ex} {m : Bys → Option Op2} (hp : Shr part) : ∀ k n ts x r, binL part m k n ts = .ok x r → r.length ≤ ts.length
  | 0, n, ts, x, r, h => by rw [binL] at h; cases h; exact Nat.le_refl _
  | k + 1, n, [], x, r, h => by rw [binL] at h; cases h; exact Nat.le_refl _
  | k + 1, n, t :: ts, x, r, h => by
    rw [binL] at h
    split at h
    · cases h; exact Nat.le_refl _
    · split at h
      · rename_i x' r' hq
        have h1 := hp _ _ _ hq
        have h2 := zt3 hp k _ _ _ _ h
        simp only [List.length_cons]; omega
      · cases h
theorem zlh {part : List Tok → PR Ex} {m : Bys → Option Op2} (hp : Shr part) : ∀ k k' n ts, ts.length ≤ k → ts.length ≤ k' → binL part m k n ts = binL part m k' n ts
  | 0, k', n, ts, h, h' => by
    have : ts = [] := List.eq_nil_of_length_eq_zero (by omega)
    subst this
    cases k' <;> rfl
  | k + 1, 0, n, ts, h, h' => by
    have : ts = [] := List.eq_nil_of_length_eq_zero (by omega)
    subst this; rfl
  | k + 1, k' + 1, n, [], h, h' => rfl
  | k + 1, k' + 1, n, t :: ts, h, h' => by
    rw [binL, binL]
    cases m (keyT t) with
    | none => rfl
    | some o =>
      cases hq : part ts with
      | ok x r =>
        have := hp _ _ _ hq
        simp only [List.length_cons] at h h'
        exact zlh hp k k' _ _ (by omega) (by omega)
      | bad c a => rfl
theorem fh {part : List Tok → PR Ex} {m : Bys → Option Op2} (hp : Shr part) : Shr (pv part m) := by
  intro ts x r h
  unfold pv at h
  split at h
  · rename_i n r1 hq
    have h1 := hp _ _ _ hq
    have h2 := zt3 hp _ _ _ _ _ h
    omega
  · cases h
theorem yce {e : Nat} {f : List Tok → PR Ex} {ts r : List Tok} {x : Ex} (h : inv3 e f ts = .ok x r) : ∃ ts', ts'.length < ts.length ∧ f ts' = .ok x r := by
  cases ts with
  | nil => cases h
  | cons t ts =>
    rw [inv3] at h
    split at h
    · exact ⟨ts, by simp, h⟩
    · cases h
theorem yau {e : Nat} {f : List Tok → PR Ex} {ts r : List Tok} {x : Ex} (h : inv2 e f ts = .ok x r) : ∃ ts', ts'.length < ts.length ∧ f ts' = .ok x r := by
  cases ts with
  | nil => cases h
  | cons t ts =>
    rw [inv2] at h
    split at h
    · obtain ⟨ts', h1, h2⟩ := yce h; exact ⟨ts', by simp; omega, h2⟩
    · cases h
theorem zv3 {e : Nat} {f g : List Tok → PR Ex} {ts : List Tok} (h : ∀ r, r.length < ts.length → f r = g r) : inv3 e f ts = inv3 e g ts := by
  cases ts with
  | nil => rfl
  | cons t ts => rw [inv3, inv3, h ts (by simp)]
theorem znf {e : Nat} {f g : List Tok → PR Ex} {ts : List Tok} (h : ∀ r, r.length < ts.length → f r = g r) : inv2 e f ts = inv2 e g ts := by
  cases ts with
  | nil => rfl
  | cons t ts => rw [inv2, inv2, zv3 fun r hr => h r (by simp; omega)]
theorem zf0 (e : Nat) : ∀ k n ts x r, pq e k n ts = .ok x r → r.length ≤ ts.length
  | 0, n, ts, x, r, h => by rw [pq] at h; cases h; exact Nat.le_refl _
  | k + 1, n, [], x, r, h => by rw [pq] at h; cases h; exact Nat.le_refl _
  | k + 1, n, t :: ts, x, r, h => by
    rw [pq] at h
    split at h
    · have := zf0 e k _ _ _ _ h; simp only [List.length_cons]; omega
    split at h
    · have := zf0 e k _ _ _ _ h; simp only [List.length_cons]; omega
    split at h
    · have := zf0 e k _ _ _ _ h; simp only [List.length_cons]; omega
    split at h
    · obtain ⟨ts', h1, h2⟩ := yau h
      have := zf0 e k _ _ _ _ h2; simp only [List.length_cons]; omega
    · cases h; exact Nat.le_refl _
theorem zcc (e : Nat) : ∀ k k' n ts, ts.length ≤ k → ts.length ≤ k' → pq e k n ts = pq e k' n ts
  | 0, k', n, ts, h, h' => by
    have : ts = [] := List.eq_nil_of_length_eq_zero (by omega)
    subst this
    cases k' <;> rfl
  | k + 1, 0, n, ts, h, h' => by
    have : ts = [] := List.eq_nil_of_length_eq_zero (by omega)
    subst this; rfl
  | k + 1, k' + 1, n, [], h, h' => rfl
  | k + 1, k' + 1, n, t :: ts, h, h' => by
    simp only [List.length_cons] at h h'
    rw [pq, pq]
    rw [zcc e k k' (.un .plus n) ts (by omega) (by omega), zcc e k k' (.un .maybe n) ts (by omega) (by omega), zcc e k k' (.un .star n) ts (by omega) (by omega), znf fun r hr => zcc e k k' (.un .inv n) r (by omega) (by omega)]
theorem zbq {e : Nat} {prim : List Tok → PR Ex} (hp : Shr prim) : Shr (zif e prim) := by
  intro ts x r h
  unfold zif at h
  split at h
  · rename_i n r1 hq
    have h1 := hp _ _ _ hq
    have h2 := zf0 e _ _ _ _ _ h
    omega
  · cases h
theorem zbt {post : List Tok → PR Ex} (hp : Shr post) : Shr (zhk post) := by
  intro ts x r h
  unfold zhk at h
  split at h
  · rename_i n hq
    cases h; exact hp _ _ _ hq
  · rename_i n t r1 hq
    have h1 := hp _ _ _ hq
    split at h
    · split at h
      · rename_i m r2 hq2
        have h2 := hp _ _ _ hq2
        cases h
        simp only [List.length_cons] at h1; omega
      · cases h
    · cases h; exact h1
  · cases h
theorem zzi {e : Nat} {cl : Bys} {mk : Ex → Ex} {R : PR Ex} {x : Ex} {r : List Tok} (h : brP e cl mk R = .ok x r) : ∃ n t, R = .ok n (t :: r) ∧ x = mk n ∧ keyT t == cl := by
  cases R with
  | bad c a => cases h
  | ok n r' =>
    rw [brP] at h
    cases r' with
    | nil => cases h
    | cons t r' =>
      rw [zio] at h
      split at h
      · rename_i hk; cases h; exact ⟨n, t, rfl, rfl, hk⟩
      · cases h
theorem b7 {e : Nat} {inner : Option (List Tok → PR Ex)} (hp : ∀ f, inner = some f → Shr f) : Shr (zi8 e inner) := by
  intro ts x r h
  cases ts with
  | nil => cases h
  | cons t ts =>
    rw [zi8] at h
    split at h
    · cases inner with
      | none => cases h
      | some f =>
        have hf := hp f rfl
        rw [brkP] at h
        split at h
        · obtain ⟨n, t2, hq, _, _⟩ := zzi h
          have := hf _ _ _ hq
          simp only [List.length_cons] at this ⊢; omega
        · obtain ⟨n, t2, hq, _, _⟩ := zzi h
          have := hf _ _ _ hq
          simp only [List.length_cons] at this ⊢; omega
    split at h
    · cases h; simp
    split at h
    · cases h; simp
    · cases h
theorem zqv {e : Nat} {prim : List Tok → PR Ex} (hp : Shr prim) : Shr (zpr e prim) := fh (fh (fh (zbt (zbq hp))))
theorem za6 (e : Nat) : ∀ d, Shr (zbi e d)
  | 0 => zqv (b7 fun f h => by cases h)
  | d + 1 => zqv (b7 fun f h => by cases h; exact za6 e d)

/-! Trees in memory. -/
abbrev nilP : Value := .pointer none
def zf2 : Bys := [110, 97, 109, 101]
def vh (op w : Bys) (a : Nat) (l r : Value) (s : Bool) : List Value := [str op, str w, .int .i64 (a : Int), l, r, .bool s]
def op1S : Op1 → Bys
  | .plus => [43]
  | .star => [42]
  | .maybe => [63]
  | .inv => [94]
def op2S : Op2 → Bys
  | .or => [124]
  | .and => [38]
  | .minus => [92]
  | .seq => [59]
  | .cross => [120]
def TreeP (h : Heap) : (Nat → Prop) → Value → Ex → Prop
  | S, v, .name s a w => ∃ b, v = pt b ∧ S b ∧ h[b]? = some (.cells (vh zf2 w a nilP nilP s) 0 false)
  | S, v, .zero a => ∃ b, v = pt b ∧ S b ∧ h[b]? = some (.cells (vh [48] [] a nilP nilP false) 0 false)
  | S, v, .par s a e => ∃ b S' x, v = pt b ∧ S b ∧ h[b]? = some (.cells (vh [40] [] a x nilP s) 0 false) ∧ TreeP h S' x e ∧ ∀ y, S' y → S y ∧ y ≠ b
  | S, v, .box a e => ∃ b S' x, v = pt b ∧ S b ∧ h[b]? = some (.cells (vh [91] [] a x nilP false) 0 false) ∧ TreeP h S' x e ∧ ∀ y, S' y → S y ∧ y ≠ b
  | S, v, .un o e => ∃ b S' x, v = pt b ∧ S b ∧ h[b]? = some (.cells (vh (op1S o) [] e.pl x nilP false) 0 false) ∧ TreeP h S' x e ∧ ∀ y, S' y → S y ∧ y ≠ b
  | S, v, .bin s o l r => ∃ b S1 S2 x y, v = pt b ∧ S b ∧ h[b]? = some (.cells (vh (op2S o) [] l.pl x y s) 0 false) ∧ TreeP h S1 x l ∧ TreeP h S2 y r ∧ (∀ z, S1 z → S z ∧ z ≠ b ∧ ¬ S2 z) ∧ ∀ z, S2 z → S z ∧ z ≠ b
theorem TreeP.keep {h h' : Heap} : ∀ {S : Nat → Prop} {v : Value} {e : Ex}, TreeP h S v e → (∀ b o, S b → h[b]? = some o → h'[b]? = some o) → TreeP h' S v e
  | S, v, .name s a w, t, k => by obtain ⟨b, hv, hb, ho⟩ := t; exact ⟨b, hv, hb, k b _ hb ho⟩
  | S, v, .zero a, t, k => by obtain ⟨b, hv, hb, ho⟩ := t; exact ⟨b, hv, hb, k b _ hb ho⟩
  | S, v, .par s a e, t, k => by obtain ⟨b, S', x, hv, hb, ho, t', hs⟩ := t; exact ⟨b, S', x, hv, hb, k b _ hb ho, t'.keep (fun c o hc => k c o (hs c hc).1), hs⟩
  | S, v, .box a e, t, k => by obtain ⟨b, S', x, hv, hb, ho, t', hs⟩ := t; exact ⟨b, S', x, hv, hb, k b _ hb ho, t'.keep (fun c o hc => k c o (hs c hc).1), hs⟩
  | S, v, .un o' e, t, k => by obtain ⟨b, S', x, hv, hb, ho, t', hs⟩ := t; exact ⟨b, S', x, hv, hb, k b _ hb ho, t'.keep (fun c o hc => k c o (hs c hc).1), hs⟩
  | S, v, .bin s o' l r, t, k => by
    obtain ⟨b, S1, S2, x, y, hv, hb, ho, t1, t2, hs1, hs2⟩ := t
    exact ⟨b, S1, S2, x, y, hv, hb, k b _ hb ho, t1.keep (fun c o hc => k c o (hs1 c hc).1), t2.keep (fun c o hc => k c o (hs2 c hc).1), hs1, hs2⟩
theorem TreeP.weak {h : Heap} {S S' : Nat → Prop} (hs : ∀ b, S b → S' b) : ∀ {v : Value} {e : Ex}, TreeP h S v e → TreeP h S' v e
  | v, .name s a w, t => by obtain ⟨b, hv, hb, ho⟩ := t; exact ⟨b, hv, hs b hb, ho⟩
  | v, .zero a, t => by obtain ⟨b, hv, hb, ho⟩ := t; exact ⟨b, hv, hs b hb, ho⟩
  | v, .par s a e, t => by obtain ⟨b, T, x, hv, hb, ho, t', h'⟩ := t; exact ⟨b, T, x, hv, hs b hb, ho, t', fun y hy => ⟨hs y (h' y hy).1, (h' y hy).2⟩⟩
  | v, .box a e, t => by obtain ⟨b, T, x, hv, hb, ho, t', h'⟩ := t; exact ⟨b, T, x, hv, hs b hb, ho, t', fun y hy => ⟨hs y (h' y hy).1, (h' y hy).2⟩⟩
  | v, .un o e, t => by obtain ⟨b, T, x, hv, hb, ho, t', h'⟩ := t; exact ⟨b, T, x, hv, hs b hb, ho, t', fun y hy => ⟨hs y (h' y hy).1, (h' y hy).2⟩⟩
  | v, .bin s o l r, t => by
    obtain ⟨b, S1, S2, x, y, hv, hb, ho, t1, t2, hs1, hs2⟩ := t
    exact ⟨b, S1, S2, x, y, hv, hs b hb, ho, t1, t2, fun z hz => ⟨hs z (hs1 z hz).1, (hs1 z hz).2⟩, fun z hz => ⟨hs z (hs2 z hz).1, (hs2 z hz).2⟩⟩
theorem TreeP.root {h : Heap} {S : Nat → Prop} {v : Value} {e : Ex} (t : TreeP h S v e) : ∃ b op w l r, v = pt b ∧ S b ∧ h[b]? = some (.cells (vh op w e.pl l r e.set) 0 false) := by
  cases e with
  | name s a w => obtain ⟨b, hv, hb, ho⟩ := t; exact ⟨b, _, _, _, _, hv, hb, ho⟩
  | zero a => obtain ⟨b, hv, hb, ho⟩ := t; exact ⟨b, _, _, _, _, hv, hb, ho⟩
  | par s a e => obtain ⟨b, T, x, hv, hb, ho, t', h'⟩ := t; exact ⟨b, _, _, _, _, hv, hb, ho⟩
  | box a e => obtain ⟨b, T, x, hv, hb, ho, t', h'⟩ := t; exact ⟨b, _, _, _, _, hv, hb, ho⟩
  | un o e => obtain ⟨b, T, x, hv, hb, ho, t', h'⟩ := t; exact ⟨b, _, _, _, _, hv, hb, ho⟩
  | bin s o l r => obtain ⟨b, S1, S2, x, y, hv, hb, ho, _⟩ := t; exact ⟨b, _, _, _, _, hv, hb, ho⟩
def Iv (lo hi : Nat) : Nat → Prop := fun b => lo ≤ b ∧ b < hi
end Go.Proofs.YtljdbheclfaloaaGreatDoor.AM
namespace Go.Proofs.YtljdbheclfaloaaGreatDoor.AM
open Go.RowKit
set_option linter.unusedSimpArgs false
set_option linter.unusedVariables false

theorem zpj : str [123, 125, 40, 41, 91, 93, 59, 124, 44, 58, 61, 43, 45, 35, 36, 126, 42, 47, 92, 38, 63, 94] = str marksL := rfl
section
variable {F : Funcs} {s : St} {Q : AEx → St → Prop}
end
end Go.Proofs.YtljdbheclfaloaaGreatDoor.AM
namespace Go.Proofs.YtljdbheclfaloaaGreatDoor.AM
open Go.RowKit
set_option linter.unusedSimpArgs false
set_option linter.unusedVariables false

theorem ycf {l : List UInt8} {a : Nat} (ha : a < l.length) : zcb (l.drop a) = if blkB (l[a].toNat : Int) then .go 1 else if [40, 42].isPrefixOf (l.drop a) then (if remK (l.drop (a + 2)) + 1 < l.length - (a + 2) then .go (remK (l.drop (a + 2)) + 4) else .err) else .no := by
  rw [zqt ha, zcb]
  simp only [List.drop_drop, List.length_drop]
theorem ybl {l : List UInt8} {a k : Nat} (ha : a < l.length) (h : zcb (l.drop a) = .go k) : k9 (l.drop a) a = k9 (l.drop (a + k)) (a + k) := by
  rw [zad (by intro e; have := congrArg List.length e; simp at this; omega), h]
  simp only [List.drop_drop]
theorem zz0 {l : List UInt8} {a : Nat} (ha : a < l.length) (h : zcb (l.drop a) = .err) : k9 (l.drop a) a = .bad 24 a := by
  rw [zad (by intro e; have := congrArg List.length e; simp at this; omega), h]
theorem i40 (c : UInt8) : ((c.toNat : Int) != 40) = !(c.toNat == 40) := by
  rw [Bool.eq_iff_iff]; simp; omega
end Go.Proofs.YtljdbheclfaloaaGreatDoor.AM
namespace Go.Proofs.YtljdbheclfaloaaGreatDoor.AM
open Go.RowKit
set_option linter.unusedSimpArgs false
set_option linter.unusedVariables false

def ziz (l : List UInt8) : Res := if 8192 < l.length then .bad 2 0 else k9 l 0
def TokR (h H : Heap) (v : Value) : Res → Prop
  | .ok m => ∃ s, v = tup [s, .int .i64 0, .int .i64 0] ∧ Own h H s 4 (m.map vp)
  | .bad c a => v = tup [.slice none 0 0, .int .i64 (c : Int), .int .i64 (a : Int)]
theorem yb7 {l : List UInt8} {a : Nat} (ha : a < l.length) : zct (l.drop a) = if digV (l[a].toNat : Int) then (match numV ((l.drop a).take (rowN numB (l.drop a))) with
      | some n => .word 2 (rowN numB (l.drop a)) (IntKind.i64.wrap n)
      | none => .bad 23)
    else if letV (l[a].toNat : Int) || (l[a].toNat : Int) == 95 then .word 1 (rowN namB (l.drop a)) 0
    else if [47, 92].isPrefixOf (l.drop a) || [92, 47].isPrefixOf (l.drop a) then .word 3 2 0
    else if ybw l[a] then .word 3 1 0
    else .bad 20 := by
  have hd := zqt ha
  rw [hd]; rfl
theorem zzh {l : List UInt8} {a : Nat} (ha : a < l.length) : l.drop a ≠ [] := by intro e; have := congrArg List.length e; simp at this; omega
theorem zv2 {l : List UInt8} {a : Nat} (ha : a < l.length) (hs : zcb (l.drop a) = .no) {kd k : Nat} {n : Int} (hw : zct (l.drop a) = .word kd k n) : k9 (l.drop a) a = (k9 (l.drop (a + k)) (a + k)).pre [⟨kd, (l.drop a).take k, n, a⟩] := by
  rw [zad (zzh ha), hs]
  simp only [hw, List.drop_drop]
theorem zyq {l : List UInt8} {a : Nat} (ha : a < l.length) (hs : zcb (l.drop a) = .no) {c : Nat} (hw : zct (l.drop a) = .bad c) : k9 (l.drop a) a = .bad c a := by
  rw [zad (zzh ha), hs]
  simp only [hw]
theorem zkl {h H : Heap} {s : Value} {acc : List Tok} (e : Own h H s 4 (acc.map vp)) (p : Pre h H) (kd : Nat) (ki : Int) (hk : ki = kd) (w : List UInt8) (n : Int) (a : Nat) (hr : acc.length ≤ 8192) :
    ∃ s' H', j2 (H ++ [.cells [.int .i64 ki, str w, .int .i64 n, .int .i64 (a : Int)] 0 false, .cells [.int .i64 ki, str w, .int .i64 n, .int .i64 (a : Int)] 0 false]) 4 40 s (zck (H ++ [.cells [.int .i64 ki, str w, .int .i64 n, .int .i64 (a : Int)] 0 false, .cells [.int .i64 ki, str w, .int .i64 n, .int .i64 (a : Int)] 0 false]) 4 (.slice (some ⟨H.length + 1, 0, some 0⟩) 1 4)) = some (s', H') ∧
      Own h H' s' 4 ((acc ++ [Tok.mk kd w n a]).map vp) ∧ Pre h H' ∧ Heap.read1 H' ⟨H.length, 1, some 0⟩ = some (str w) := by
  subst hk
  obtain ⟨s', H', h1, h2, h3, h4, h5, h6⟩ := (e.more [.cells [.int .i64 (kd : Int), str w, .int .i64 n, .int .i64 (a : Int)] 0 false]).push (p.more _) (row := [.int .i64 (kd : Int), str w, .int .i64 n, .int .i64 (a : Int)]) (bytes := 40) rfl (by rw [List.length_map]; unfold j3; omega)
  simp only [List.append_assoc, List.cons_append, List.nil_append, List.length_append, List.length_cons, List.length_nil] at h1
  refine ⟨s', H', h1, ?_, h3, ?_⟩
  · rw [List.map_append]; exact h2
  · have := h5 H.length (.cells [.int .i64 (kd : Int), str w, .int .i64 n, .int .i64 (a : Int)] 0 false) (by simp) (by intro hb; have := (e.lt hb).2; omega)
    unfold Heap.read1
    simp only [this]; rfl
theorem Own.fin {h H : Heap} {s v : Value} {c : Nat} {rows : List (List Value)} (e : Own h H s c rows) (p : Pre h H) (hv : flat v = true → plain s = true) : Own h (AM.finish h v H) s c rows ∧ Pre h (AM.finish h v H) := by
  obtain ⟨L, rfl⟩ := p
  rcases zm9 h L v with hf | ⟨hf, hfl⟩
  · rw [hf]; exact ⟨e, L, rfl⟩
  · rw [hf]
    have hp := hv hfl
    rcases e with ⟨⟨rfl, rfl⟩ | ⟨b, ver, hb, rfl, ho⟩, hc⟩
    · exact ⟨⟨.inl ⟨rfl, rfl⟩, hc⟩, Pre.refl h⟩
    · cases hp
theorem yhd {s a b : Value} (h : flat (tup [s, a, b]) = true) : plain s = true := by
  have : (plain s && (plain a && (plain b && true))) = true := h
  simp at this; exact this.1
theorem zep (z0 z1 z2 z3 a b c d : Value) : wz [z0, z1, z2, z3] [(0, 4, agg [a, b, c, d])] = some [a, b, c, d] := by
  rw [wz, yh]; simp [splice, wz]
theorem idx0 {l : List UInt8} {a : Nat} (ha : a < l.length) (h : Heap) : idxO h (str (l.drop a)) (.int .i64 0) = some (.int .u8 (l[a].toNat : Int), h) := by
  have := zsu h (l := l.drop a) (k := 0) (by simp; omega) .i64
  rw [Int.cast_ofNat_Int] at this
  rw [this]; simp
theorem zfs : ∀ (m : List UInt8) (c : UInt8), decide (0 ≤ Lib.indexByte m c) = m.contains c
  | [], c => rfl
  | b :: m, c => by
    rw [Lib.indexByte, List.contains_cons, ← zfs m c]
    have hg := Lib.indexByte_ge m c
    by_cases hb : b = c
    · subst hb; simp
    · have : (b == c) = false := by simpa using hb
      have h2 : (c == b) = false := by simpa using fun e => hb e.symm
      rw [this, h2, Bool.false_or]
      by_cases h1 : Lib.indexByte m c = -1
      · rw [h1]; rfl
      · have h3 : (Lib.indexByte m c == -1) = false := by simpa using h1
        rw [h3]
        simp only [Bool.false_eq_true, if_false]
        rw [decide_eq_decide]; omega
theorem yds (c : UInt8) : c.toNat.toUInt8 = c := by simp
theorem zt2 (l : List UInt8) (p : Int → Bool) : (l.take (rowN p l)).length = rowN p l := by
  have := zje p l; simp; omega
set_option maxHeartbeats 8000000 in
set_option maxRecDepth 10000 in
theorem zn7 (l : List UInt8) {h : Heap} (g : Gl h) : ∃ v H', DF FF zem [str l] h = some (v, H') ∧ (TokR h H' v (ziz l) ∧ Pre h H') := by
  refine ww zpb ?_
  by_cases hl : 8192 < l.length
  · have c1 : ((8192 : Int) < (l.length : Int)) = True := by simp; omega
    simp only [zex, ya, zs, xe, zb, zx, yb, zm, zc, zo, zf, ze, zd, List.set_cons_succ, List.set_cons_zero, O_mv, yx, yg, zba, List.cons_append, List.nil_append, List.length_cons, List.length_nil, Nat.reduceSub, Nat.zero_add, zn, yc, za, y6, zh, zg, wt, za5, yj, wh, xa, c1, decide_true]
    unfold ziz; rw [if_pos hl]
    exact ⟨rfl, Pre.refl h⟩
  have c1 : ((8192 : Int) < (l.length : Int)) = False := by simp; omega
  have htv : ziz l = k9 l 0 := by unfold ziz; rw [if_neg hl]
  rw [htv]
  simp only [zex, ya, zs, yl, zb, zu, yb, zm, zc, zo, zf, ze, zd, List.set_cons_succ, List.set_cons_zero, O_mv, yx, yg, zba, List.cons_append, List.nil_append, List.length_cons, List.length_nil, Nat.reduceSub, Nat.zero_add, zn, yc, zz, za, zh, zg, yj, wh, xa, c1, decide_false]
  have stop : ∀ (a : Nat) (acc : List Tok) (H : Heap) (s : Value), a = l.length → Own h H s 4 (acc.map vp) → Pre h H → (k9 (l.drop a) a).pre acc = k9 l 0 → TokR h (finish h (tup [s, .int .i64 0, .int .i64 0]) H) (tup [s, .int .i64 0, .int .i64 0]) (k9 l 0) ∧ Pre h (finish h (tup [s, .int .i64 0, .int .i64 0]) H) := by
    intro a acc H s ha ho hp hs
    subst ha
    rw [List.drop_length, zfz] at hs
    rw [← hs]
    obtain ⟨f1, f2⟩ := ho.fin hp (v := tup [s, .int .i64 0, .int .i64 0]) yhd
    exact ⟨⟨s, rfl, by rw [List.append_nil]; exact f1⟩, f2⟩
  refine zaq l.length (fun k st => ∃ (a : Nat) (acc : List Tok) (H : Heap) (s : Value) (j : Nat → Value), k ≤ a ∧ a ≤ l.length ∧ acc.length ≤ a ∧ Own h H s 4 (acc.map vp) ∧ Pre h H ∧ (k9 (l.drop a) a).pre acc = k9 l 0 ∧ st = ⟨[str l, j 1, .slice none 0 0, .int .i64 0, .int .i64 0, s, .int .i64 (a : Int), j 7, j 8, j 9, j 10, j 11, j 12, j 13, j 14, j 15, j 16, j 17, j 18, j 19, j 20, j 21, j 22, j 23, j 24, j 25, j 26, j 27, j 28, j 29, j 30, j 31, j 32, j 33, j 34, j 35, j 36, j 37, j 38, j 39, j 40, j 41, j 42, j 43, j 44, j 45, j 46, j 47, j 48, j 49, j 50, j 51, j 52, j 53, j 54, j 55, j 56, j 57, j 58, j 59, j 60, j 61, j 62, j 63, j 64, j 65, j 66, j 67, j 68, j 69, j 70, j 71, j 72, j 73, j 74, j 75, j 76, j 77, j 78, j 79, j 80, j 81, j 82, j 83, j 84, j 85, j 86, j 87, j 88, j 89, j 90, j 91, j 92, j 93, j 94, j 95, j 96, j 97, j 98, j 99, j 100, j 101, j 102, j 103, j 104, j 105, j 106, j 107, j 108, j 109, j 110, j 111, j 112, j 113, j 114, j 115], H⟩) ?_ ?_ _ ?_
  · rintro k st hk ⟨a, acc, H, s, j, h1, h2, h3, ho, hp, hs, rfl⟩
    by_cases hal : a < l.length
    · have d1 : ((a : Int) < (l.length : Int)) = True := by simp; omega
      have hsk := ycf hal
      have wa : IntKind.i64.wrap ((a : Int) + 1) = ((a + 1 : Nat) : Int) := xo (k := a) (by omega)
      have cf := zl0 H (l := l) (k := a) (by omega) .i64
      have zlc : ∀ (m : Nat), zcb (l.drop a) = .go m → 1 ≤ m ∧ a + m ≤ l.length ∧ (k9 (l.drop (a + m)) (a + m)).pre acc = k9 l 0 := fun m hm => by
        have := zd8 hm
        simp only [List.length_drop] at this
        exact ⟨this.1, by omega, by rw [← ybl hal hm]; exact hs⟩
      by_cases hb : blkB (l[a].toNat : Int) = true
      · rw [if_pos hb] at hsk
        obtain ⟨_, q2, q3⟩ := zlc 1 hsk
        unfold blkB at hb
        have e : ∀ L : Heap, (Own h (H ++ L) s 4 (acc.map vp)) ∧ Pre h (H ++ L) := fun L => ⟨ho.more L, hp.more L⟩
        cases f1 : ((l[a].toNat : Int) == 32)
        · cases f2 : ((l[a].toNat : Int) == 9)
          · cases f3 : ((l[a].toNat : Int) == 10)
            · rw [f1, f2, f3] at hb; simp at hb
            · simp only [ya, zs, w7, yl, zb, zx, yb, zm, yf, zc, zp, y3, zo, zf, ze, zd, List.set_cons_succ, List.set_cons_zero, O_mv, y0, xg, yx, yg, x8, y9, yd, z8, yy, wu, Nat.lt_add_one, vw, ko, x9, List.length_cons, List.length_nil, Nat.reduceAdd, Nat.zero_add, zn, yc, zz, za, Option.map_none, yq, zl, yu, z6, yi, zw, zr, Option.map_some, eq_self, wh, xa, f0, jx, Option.map_none, Option.map_some, d1, decide_true, cf, idx0 hal, f1, f2, f3, wa]
              exact ⟨a + 1, acc, _, s, (junk rfl).elim fun j hj => ⟨j, by omega, by omega, by omega, (e _).1, (e _).2, q3, hj⟩⟩
          · simp only [ya, zs, w7, yl, zb, zx, yb, zm, yf, zc, zp, y3, wk, zo, zf, ze, zd, List.set_cons_succ, List.set_cons_zero, O_mv, y0, xg, yx, yg, x8, y9, yd, z8, yy, wu, Nat.lt_add_one, vw, ko, x9, List.length_cons, List.length_nil, Nat.reduceAdd, Nat.zero_add, zn, yc, zz, za, Option.map_none, yq, zl, yu, z6, yi, zw, zr, Option.map_some, eq_self, wh, xa, f0, jx, Option.map_none, Option.map_some, d1, decide_true, cf, idx0 hal, f1, f2, wa]
            exact ⟨a + 1, acc, _, s, (junk rfl).elim fun j hj => ⟨j, by omega, by omega, by omega, (e _).1, (e _).2, q3, hj⟩⟩
        · simp only [ya, zs, w7, yl, zb, zx, yb, zm, yf, zc, zp, wk, zo, zf, ze, zd, List.set_cons_succ, List.set_cons_zero, O_mv, y0, xg, yx, yg, x8, y9, yd, z8, yy, wu, Nat.lt_add_one, vw, ko, x9, List.length_cons, List.length_nil, Nat.reduceAdd, Nat.zero_add, zn, yc, zz, za, Option.map_none, yq, zl, yu, z6, yi, zw, zr, Option.map_some, eq_self, wh, xa, f0, jx, Option.map_none, Option.map_some, d1, decide_true, cf, idx0 hal, f1, wa]
          exact ⟨a + 1, acc, _, s, (junk rfl).elim fun j hj => ⟨j, by omega, by omega, by omega, (e _).1, (e _).2, q3, hj⟩⟩
      · rw [if_neg hb] at hsk
        have hb' := Bool.not_eq_true _ |>.mp hb
        unfold blkB at hb'
        rw [Bool.or_eq_false_iff, Bool.or_eq_false_iff] at hb'
        obtain ⟨⟨f1, f2⟩, f3⟩ := hb'
        cases hpre : [40, 42].isPrefixOf (l.drop a)
        · rw [hpre] at hsk
          have hsk : zcb (l.drop a) = .no := hsk
          have hw := yb7 hal
          have worded : ∀ (kd k : Nat) (n : Int), zct (l.drop a) = .word kd k n → 1 ≤ k ∧ a + k ≤ l.length ∧ (k9 (l.drop (a + k)) (a + k)).pre (acc ++ [⟨kd, (l.drop a).take k, n, a⟩]) = k9 l 0 := fun kd k n hk => by
            have := zcv hk
            simp only [List.length_drop] at this
            exact ⟨this.1, by omega, by rw [zv2 hal hsk hk, Res.pre_pre] at hs; exact hs⟩
          have refused : ∀ c : Nat, zct (l.drop a) = .bad c → ∀ K : Heap, Pre h K → TokR h (AM.finish h (tup [.slice none 0 0, .int .i64 (c : Int), .int .i64 (a : Int)]) K) (tup [.slice none 0 0, .int .i64 (c : Int), .int .i64 (a : Int)]) (k9 l 0) ∧ Pre h (AM.finish h (tup [.slice none 0 0, .int .i64 (c : Int), .int .i64 (a : Int)]) K) := fun c hc K pK => by
            rw [zyq hal hsk hc] at hs
            rw [← hs]
            exact ⟨rfl, ((Own.nil h K 4).fin pK fun _ => rfl).2⟩
          have tlen : ∀ p : Int → Bool, rowN p (l.drop a) ≤ (l.drop a).length := fun p => zje p _
          have wsum : ∀ k : Nat, a + k ≤ l.length → IntKind.i64.wrap ((a : Int) + (k : Int)) = ((a + k : Nat) : Int) := fun k hk => by rw [ya8 (by omega)]; omega
          have cw : ∀ (k : Nat) (K : Heap), k ≤ l.length - a → cutS K none (some (.int .i64 (k : Int))) (str (l.drop a)) = some (str ((l.drop a).take k), K) := fun k K hk => yaj K (by simp; omega) .i64
          cases g1 : digV (l[a].toNat : Int)
          · rw [g1] at hw
            simp only [Bool.false_eq_true, if_false] at hw
            cases g2 : (letV (l[a].toNat : Int) || (l[a].toNat : Int) == 95)
            · rw [g2] at hw
              simp only [Bool.false_eq_true, if_false] at hw
              rw [Bool.or_eq_false_iff] at g2
              cases g3 : ([47, 92].isPrefixOf (l.drop a) || [92, 47].isPrefixOf (l.drop a))
              · rw [g3] at hw
                simp only [Bool.false_eq_true, if_false] at hw
                rw [Bool.or_eq_false_iff] at g3
                cases g4 : ybw l[a]
                · rw [g4] at hw
                  have g5 : decide (0 ≤ Lib.indexByte marksL l[a]) = false := by rw [zfs]; exact g4
                  simp only [ya, zs, xe, yl, zb, zx, zu, yb, zm, yf, zc, zp, y3, zo, zf, ze, zd, List.set_cons_succ, List.set_cons_zero, O_mv, y0, xg, yx, yg, ye, List.map_cons, List.map_nil, x8, y9, yd, z8, yy, wu, Nat.lt_add_one, ko, x9, zcw, List.length_cons, List.length_nil, Nat.reduceAdd, Nat.zero_add, zn, yc, zz, za, y6, wd, Option.map_none, yq, zl, yu, z6, yi, zw, zr, Int.toNat_natCast, Option.map_some, za5, eq_self, zdt, wh, xa, f0, jx, Option.map_none, Option.map_some, d1, decide_true, cf, idx0 hal, f1, f2, f3, vl, hpre, gg, g1, gx, g2.1, g2.2, g3.1, g3.2, zpj, zcs, yds, g5]
                  exact refused 20 hw _ (hp.more _)
                · rw [g4] at hw
                  have g5 : decide (0 ≤ Lib.indexByte marksL l[a]) = true := by rw [zfs]; exact g4
                  obtain ⟨q1, q2, q3⟩ := worded _ _ _ hw
                  obtain ⟨s', H', p1, p2, p3, p4⟩ := zkl ho hp 3 3 rfl ((l.drop a).take 1) 0 a (by omega)
                  have hlen : (((l.drop a).take 1).length : Int) = ((1 : Nat) : Int) := by simp; omega
                  have cw1 := fun K => cw 1 K (by omega)
                  rw [Int.cast_ofNat_Int] at cw1
                  simp only [ya, zs, yl, zb, zx, zu, yb, zm, yf, zc, zp, y3, zo, zf, ze, zd, List.set_cons_succ, List.set_cons_zero, O_mv, y0, xg, yx, yg, ye, List.map_cons, List.map_nil, zy, zk, xr, y5, w5, x8, wo, y9, yd, z8, xd, xi, yy, wu, Nat.lt_add_one, Nat.zero_lt_succ, Nat.reduceLT, vw, ko, x9, zcw, List.cons_append, List.nil_append, List.length_cons, List.length_nil, Nat.reduceAdd, Nat.zero_add, zn, yc, zz, za, zi, slc, jj, Option.map_none, yq, xb, z7, zl, xc, xx, yu, z6, xl, xf, yi, j4, vk, zw, zr, List.append_assoc, List.length_append, List.append_nil, Int.toNat_natCast, Nat.add_zero, Option.map_some, eq_self, yp, wj, wh, xa, f0, jx, Option.map_none, Option.map_some, d1, decide_true, cf, idx0 hal, f1, f2, f3, vl, hpre, gg, g1, gx, g2.1, g2.2, g3.1, g3.2, zpj, zcs, yds, g5, zep, cw1, p1, p4, hlen, wsum 1 q2]
                  exact ⟨a + 1, _, H', s', (junk rfl).elim fun j hj => ⟨j, by omega, by omega, by simp; omega, p2, p3, q3, hj⟩⟩
              · rw [g3] at hw
                obtain ⟨q1, q2, q3⟩ := worded _ _ _ hw
                obtain ⟨s', H', p1, p2, p3, p4⟩ := zkl ho hp 3 3 rfl ((l.drop a).take 2) 0 a (by omega)
                have hlen : (((l.drop a).take 2).length : Int) = ((2 : Nat) : Int) := by simp; omega
                have cw1 := fun K => cw 2 K (by omega)
                rw [Int.cast_ofNat_Int] at cw1
                cases g4 : [47, 92].isPrefixOf (l.drop a)
                · rw [g4, Bool.false_or] at g3
                  simp only [ya, zs, yl, zb, zx, zu, yb, zm, yf, zc, zp, y3, zo, zf, ze, zd, List.set_cons_succ, List.set_cons_zero, O_mv, y0, xg, yx, yg, ye, List.map_cons, List.map_nil, zy, zk, xr, y5, w5, x8, wo, y9, yd, z8, xd, xi, yy, wu, Nat.lt_add_one, Nat.zero_lt_succ, Nat.reduceLT, vw, ko, x9, List.cons_append, List.nil_append, List.length_cons, List.length_nil, Nat.reduceAdd, Nat.zero_add, zn, yc, zz, za, zi, slc, jj, Option.map_none, yq, xb, z7, zl, xc, xx, yu, z6, xl, xf, yi, j4, vk, zw, zr, List.append_assoc, List.length_append, List.append_nil, Nat.add_zero, Option.map_some, eq_self, yp, wj, wh, xa, f0, jx, Option.map_none, Option.map_some, d1, decide_true, cf, idx0 hal, f1, f2, f3, vl, hpre, gg, g1, gx, g2.1, g2.2, g4, g3, zep, cw1, p1, p4, hlen, wsum 2 q2]
                  exact ⟨a + 2, _, H', s', (junk rfl).elim fun j hj => ⟨j, by omega, by omega, by simp; omega, p2, p3, q3, hj⟩⟩
                · simp only [ya, zs, yl, zb, zx, zu, yb, zm, yf, zc, zp, y3, wk, zo, zf, ze, zd, List.set_cons_succ, List.set_cons_zero, O_mv, y0, xg, yx, yg, ye, List.map_cons, List.map_nil, zy, zk, xr, y5, w5, x8, wo, y9, yd, z8, xd, xi, yy, wu, Nat.lt_add_one, Nat.zero_lt_succ, Nat.reduceLT, vw, ko, x9, List.cons_append, List.nil_append, List.length_cons, List.length_nil, Nat.reduceAdd, Nat.zero_add, zn, yc, zz, za, zi, slc, jj, Option.map_none, yq, xb, z7, zl, xc, xx, yu, z6, xl, xf, yi, j4, vk, zw, zr, List.append_assoc, List.length_append, List.append_nil, Nat.add_zero, Option.map_some, eq_self, yp, wj, wh, xa, f0, jx, Option.map_none, Option.map_some, d1, decide_true, cf, idx0 hal, f1, f2, f3, vl, hpre, gg, g1, gx, g2.1, g2.2, g4, zep, cw1, p1, p4, hlen, wsum 2 q2]
                  exact ⟨a + 2, _, H', s', (junk rfl).elim fun j hj => ⟨j, by omega, by omega, by simp; omega, p2, p3, q3, hj⟩⟩
            · rw [g2] at hw
              simp only [if_true] at hw
              obtain ⟨q1, q2, q3⟩ := worded _ _ _ hw
              have hrow := fun K => zm8 (F := za2) yba (l.drop a) (by simp; omega) K
              obtain ⟨s', H', p1, p2, p3, p4⟩ := zkl ho hp 1 1 rfl ((l.drop a).take (rowN namB (l.drop a))) 0 a (by omega)
              have hlen := congrArg (Nat.cast : Nat → Int) (zt2 (l.drop a) namB)
              have cw1 := fun K => cw (rowN namB (l.drop a)) K (by omega)
              have hws := wsum _ q2
              generalize rowN namB (l.drop a) = n at hrow p1 p2 p4 hlen cw1 hws q1 q2 q3
              cases g3 : letV (l[a].toNat : Int)
              · rw [g3, Bool.false_or] at g2
                simp only [ya, zs, yl, zb, zx, zu, yb, zm, yf, zc, zp, y3, zo, zf, zo1, ze, zd, List.set_cons_succ, List.set_cons_zero, O_mv, y0, xg, yx, yg, ye, List.map_cons, List.map_nil, zy, zk, xr, y5, w5, x8, wo, y9, yd, z8, xd, xi, yy, wu, Nat.lt_add_one, Nat.zero_lt_succ, Nat.reduceLT, vw, ko, x9, List.cons_append, List.nil_append, List.length_cons, List.length_nil, Nat.reduceAdd, Nat.zero_add, zn, yc, zz, za, zi, slc, jj, Option.map_none, yq, xb, z7, zl, xc, xx, yu, z6, xl, xf, yi, j4, vk, zw, zr, List.append_assoc, List.length_append, List.append_nil, Nat.add_zero, Option.map_some, eq_self, yp, wj, wh, xa, f0, jx, Option.map_none, Option.map_some, d1, decide_true, cf, idx0 hal, f1, f2, f3, vl, hpre, gg, g1, gx, g3, g2, hrow, zep, cw1, p1, p4, hlen, hws]
                exact ⟨a + n, _, H', s', (junk rfl).elim fun j hj => ⟨j, by omega, by omega, by simp; omega, p2, p3, q3, hj⟩⟩
              · simp only [ya, zs, yl, zb, zx, zu, yb, zm, yf, zc, zp, y3, wk, zo, zf, zo1, ze, zd, List.set_cons_succ, List.set_cons_zero, O_mv, y0, xg, yx, yg, ye, List.map_cons, List.map_nil, zy, zk, xr, y5, w5, x8, wo, y9, yd, z8, xd, xi, yy, wu, Nat.lt_add_one, Nat.zero_lt_succ, Nat.reduceLT, vw, ko, x9, List.cons_append, List.nil_append, List.length_cons, List.length_nil, Nat.reduceAdd, Nat.zero_add, zn, yc, zz, za, zi, slc, jj, Option.map_none, yq, xb, z7, zl, xc, xx, yu, z6, xl, xf, yi, j4, vk, zw, zr, List.append_assoc, List.length_append, List.append_nil, Nat.add_zero, Option.map_some, eq_self, yp, wj, wh, xa, f0, jx, Option.map_none, Option.map_some, d1, decide_true, cf, idx0 hal, f1, f2, f3, vl, hpre, gg, g1, gx, g3, hrow, zep, cw1, p1, p4, hlen, hws]
                exact ⟨a + n, _, H', s', (junk rfl).elim fun j hj => ⟨j, by omega, by omega, by simp; omega, p2, p3, q3, hj⟩⟩
          · rw [g1] at hw
            simp only [if_true] at hw
            have hrow := fun K => zm8 (F := za1) ya1 (l.drop a) (by simp; omega) K
            have cw1 := fun K => cw (rowN numB (l.drop a)) K (by have := tlen numB; simp at this; omega)
            have hlen := congrArg (Nat.cast : Nat → Int) (zt2 (l.drop a) numB)
            have hnum := fun L => zn5 ((l.drop a).take (rowN numB (l.drop a))) ((g.pre hp).more L) (by simp; omega)
            obtain ⟨v, hn1, m, rfl, hn2⟩ := hnum [.cells [.int .i64 2, str ((l.drop a).take (rowN numB (l.drop a))), .int .i64 0, .int .i64 (a : Int)] 0 false]
            cases g2 : numV ((l.drop a).take (rowN numB (l.drop a))) with
            | none =>
              rw [g2] at hw hn1
              simp only [ya, zs, xe, yl, zb, zx, zu, yb, zm, yf, zc, zp, y3, zo, zf, zo1, ze, zd, List.set_cons_succ, List.set_cons_zero, O_mv, y0, xg, yx, yg, O_un, ye, List.map_cons, List.map_nil, zy, zk, x8, y9, yd, z8, yy, wu, Nat.lt_add_one, Nat.zero_lt_succ, Nat.reduceLT, ko, x9, vt, List.length_cons, List.length_nil, Nat.reduceAdd, Nat.zero_add, Bool.not_false, zn, yc, zz, za, y6, wd, Option.map_none, yq, xb, z7, xh, y7, zl, xc, xx, yu, z6, yr, yo, yi, j4, vk, zw, zr, Nat.add_zero, Option.map_some, List.getElem?_cons_zero, List.getElem?_cons_succ, za5, eq_self, zdt, wj, wh, xa, f0, jx, Option.map_none, Option.map_some, d1, decide_true, cf, idx0 hal, f1, f2, f3, vl, hpre, gg, g1, hrow, cw1, hn1, Option.isSome_none]
              exact refused 23 hw _ (hp.more _)
            | some u =>
              rw [g2] at hw hn1
              have hm := hn2 u g2
              subst hm
              obtain ⟨q1, q2, q3⟩ := worded _ _ _ hw
              obtain ⟨s', H', p1, p2, p3, p4⟩ := zkl ho hp 2 2 rfl ((l.drop a).take (rowN numB (l.drop a))) (IntKind.i64.wrap u) a (by omega)
              have hws := wsum _ q2
              simp only [ya, zs, yl, zb, zx, zu, yb, zm, yf, zc, zp, y3, zo, zf, zo1, ze, zd, List.set_cons_succ, List.set_cons_zero, O_mv, y0, xg, yx, yg, O_un, ye, List.map_cons, List.map_nil, zy, zk, xr, y5, w5, x8, wo, y9, yd, z8, xd, xi, yy, wu, Nat.lt_add_one, Nat.zero_lt_succ, Nat.reduceLT, vw, ko, x9, vt, List.cons_append, List.nil_append, List.length_cons, List.length_nil, Nat.reduceAdd, Nat.zero_add, Bool.not_true, zn, yc, zz, za, zi, slc, jj, Option.map_none, yq, xb, z7, xh, y7, zl, xc, xx, yu, z6, yr, yo, xl, xf, yi, j4, vk, zw, zr, List.append_assoc, List.length_append, List.append_nil, Nat.add_zero, Option.map_some, List.getElem?_cons_zero, List.getElem?_cons_succ, eq_self, yp, wj, wh, xa, f0, jx, Option.map_none, Option.map_some, d1, decide_true, cf, idx0 hal, f1, f2, f3, vl, hpre, gg, g1, hrow, cw1, hn1, Option.isSome_some, zep, p1, p4, hlen, hws]
              exact ⟨a + rowN numB (l.drop a), _, H', s', (junk rfl).elim fun j hj => ⟨j, by omega, by omega, by simp; omega, p2, p3, q3, hj⟩⟩
        · rw [hpre, if_pos rfl] at hsk
          have c2 := fun K => zl0 K (l := l.drop a) (k := 2) (by have := zoy hpre; simpa using this) .i64
          have hidx := fun L => zfq ((l.drop a).drop 2) [42, 41] ((g.pre hp).more L) (by simp; omega)
          have hix := zqi ((l.drop a).drop 2)
          simp only [List.drop_drop, List.length_drop] at hix hidx c2
          simp only [Int.cast_ofNat_Int] at c2
          have hrl := zxw (l.drop (a + 2))
          simp only [List.length_drop] at hrl
          by_cases hr : remK (l.drop (a + 2)) + 1 < l.length - (a + 2)
          · rw [if_pos hr] at hix hsk
            obtain ⟨q1, q2, q3⟩ := zlc _ hsk
            have e1 : ((remK (l.drop (a + 2)) : Int) < 0) = False := by simp
            have w1 : IntKind.i64.wrap ((remK (l.drop (a + 2)) : Int) + 4) = ((remK (l.drop (a + 2)) + 4 : Nat) : Int) := by rw [ya8 (by omega)]; omega
            have w2 : IntKind.i64.wrap ((a : Int) + ((remK (l.drop (a + 2)) + 4 : Nat) : Int)) = ((a + (remK (l.drop (a + 2)) + 4) : Nat) : Int) := by rw [ya8 (by omega)]; omega
            simp only [ya, zs, w7, yl, zb, zx, zu, yb, zm, yf, zc, zp, y3, zo, zf, ze, zd, List.set_cons_succ, List.set_cons_zero, O_mv, y0, xg, yx, yg, ye, List.map_cons, List.map_nil, x8, y9, yd, z8, yy, wu, Nat.lt_add_one, vw, ko, x9, List.length_cons, List.length_nil, Nat.reduceAdd, Nat.zero_add, zn, yc, zz, za, Option.map_none, yq, zl, yu, z6, yi, zw, zr, Option.map_some, eq_self, wh, xa, f0, jx, Option.map_none, Option.map_some, d1, decide_true, decide_false, cf, idx0 hal, f1, f2, f3, vl, hpre, c2, hidx, hix, e1, w1, w2]
            exact ⟨a + (remK (l.drop (a + 2)) + 4), acc, _, s, (junk rfl).elim fun j hj => ⟨j, by omega, by omega, by omega, ho.more _, hp.more _, q3, hj⟩⟩
          · rw [if_neg hr] at hix hsk
            rw [zz0 hal hsk] at hs
            rw [← hs]
            simp only [ya, zs, xe, yl, zb, zx, zu, yb, zm, yf, zc, zp, y3, zo, zf, ze, zd, List.set_cons_succ, List.set_cons_zero, O_mv, y0, xg, yx, yg, ye, List.map_cons, List.map_nil, x8, y9, yd, z8, yy, wu, Nat.lt_add_one, ko, x9, List.length_cons, List.length_nil, Nat.reduceAdd, Nat.zero_add, zn, yc, zz, za, y6, wd, Option.map_none, yq, zl, yu, z6, yi, zw, zr, Option.map_some, za5, Int.reduceLT, eq_self, zdt, wh, xa, f0, jx, Option.map_none, Option.map_some, d1, decide_true, cf, idx0 hal, f1, f2, f3, vl, hpre, c2, hidx, hix]
            exact ⟨rfl, ((Own.nil h _ 4).fin (hp.more _) fun _ => rfl).2⟩
    · have d1 : ((a : Int) < (l.length : Int)) = False := by simp; omega
      simp only [ya, zs, w7, xe, zb, zu, yb, zm, zc, zo, zf, ze, zd, List.set_cons_succ, List.set_cons_zero, O_mv, yx, yg, x9, zn, yc, za, yz, yk, za5, xj, wh, xa, d1, decide_false]
      exact stop a acc H s (by omega) ho hp hs
  · rintro st ⟨a, acc, H, s, j, h1, h2, h3, ho, hp, hs, rfl⟩
    have d1 : ((a : Int) < (l.length : Int)) = False := by simp; omega
    simp only [ya, zs, w7, xe, zb, zu, yb, zm, zc, zo, zf, ze, zd, List.set_cons_succ, List.set_cons_zero, O_mv, yx, yg, x9, zn, yc, za, yz, yk, za5, xj, wh, xa, d1, decide_false]
    exact stop a acc H s (by omega) ho hp hs
  · exact ⟨0, [], h, _, (junk rfl).elim fun j hj => ⟨j, by omega, by omega, by simp, Own.nil h h 4, Pre.refl h, by rw [List.drop_zero]; cases k9 l 0 <;> rfl, hj⟩⟩
end Go.Proofs.YtljdbheclfaloaaGreatDoor.AM
namespace Go.Proofs.YtljdbheclfaloaaGreatDoor.AM
open Go.RowKit
set_option linter.unusedSimpArgs false
set_option linter.unusedVariables false

def yhe (t : Tok) : Prop := ∃ (r : List UInt8) (k : Nat), zcb r = .no ∧ zct r = .word t.kind k t.n ∧ t.text = r.take k
def sumT : List Tok → Nat
  | [] => 0
  | t :: m => t.text.length + sumT m
theorem zwn {r : Res} {a m : List Tok} (h : r.pre a = .ok m) : ∃ m', r = .ok m' ∧ m = a ++ m' := by
  cases r with
  | ok m' => cases h; exact ⟨m', rfl, rfl⟩
  | bad c x => cases h
theorem zl6 : ∀ (n : Nat) (s : List UInt8) (a : Nat) (m : List Tok), s.length ≤ n → k9 s a = .ok m → (∀ t ∈ m, yhe t ∧ 1 ≤ t.text.length) ∧ sumT m ≤ s.length
  | 0, s, a, m, hn, h => by
    have : s = [] := List.eq_nil_of_length_eq_zero (by omega)
    subst this
    rw [zfz] at h; cases h
    exact ⟨fun t ht => (List.not_mem_nil ht).elim, by simp [sumT]⟩
  | n + 1, s, a, m, hn, h => by
    by_cases hs : s = []
    · subst hs; rw [zfz] at h; cases h
      exact ⟨fun t ht => (List.not_mem_nil ht).elim, by simp [sumT]⟩
    · rw [zad hs] at h
      cases hk : zcb s with
      | go k =>
        rw [hk] at h
        have hp := zd8 hk
        obtain ⟨h1, h2⟩ := zl6 n _ _ m (by simp; omega) h
        simp only [List.length_drop] at h2
        exact ⟨h1, by omega⟩
      | err => rw [hk] at h; cases h
      | no =>
        rw [hk] at h
        cases hw : zct s with
        | bad c => rw [hw] at h; cases h
        | word kd k x =>
          rw [hw] at h
          have hp := zcv hw
          obtain ⟨m', h1, rfl⟩ := zwn h
          obtain ⟨h2, h3⟩ := zl6 n _ _ m' (by simp; omega) h1
          simp only [List.length_drop] at h3
          refine ⟨fun t ht => ?_, ?_⟩
          · rcases List.mem_append.1 ht with ht | ht
            · simp at ht; subst ht
              exact ⟨⟨s, k, hk, hw, rfl⟩, by simp; omega⟩
            · exact h2 t ht
          · simp [sumT]; omega
theorem zlt : ∀ m : List Tok, (∀ t ∈ m, 1 ≤ t.text.length) → m.length ≤ sumT m
  | [], _ => by simp
  | t :: m, h => by
    have := zlt m fun x hx => h x (by simp [hx])
    have := h t (by simp)
    simp [sumT]; omega
def zw2 (X : List UInt8) : Prop := X = [] ∨ ∃ Y, X = 32 :: Y
def sameT (a b : Tok) : Prop := a.kind = b.kind ∧ a.text = b.text ∧ a.n = b.n
/-! Where words stand. -/
end Go.Proofs.YtljdbheclfaloaaGreatDoor.AM
namespace Go.Proofs.YtljdbheclfaloaaGreatDoor.AM
open Go.RowKit
set_option linter.unusedSimpArgs false
set_option linter.unusedVariables false
set_option maxRecDepth 20000

def Ex.er : Ex → Ex
  | .name s _ w => .name s 0 w
  | .zero _ => .zero 0
  | .par s _ e => .par s 0 e.er
  | .box _ e => .box 0 e.er
  | .un o e => .un o e.er
  | .bin s o l r => .bin s o l.er r.er
def Behind (R : List Tok) : List Tok → List Tok → Prop
  | [], l => l = R
  | a :: l, b :: m => sameT a b ∧ Behind R l m
  | _ :: _, [] => False
theorem sameT.key {a b : Tok} (h : sameT a b) : keyT b = keyT a := by
  obtain ⟨h1, h2, h3⟩ := h
  unfold keyT; rw [h1, h2]
theorem sameT.nam {a b : Tok} (h : sameT a b) : zbc b = zbc a := by
  obtain ⟨h1, h2, h3⟩ := h
  unfold zbc; rw [h1, h2]
structure zoc (R : List Tok) : Prop where
  ne : R ≠ []
  no : ∀ t r, R = t :: r → orM (keyT t) = none ∧ andM (keyT t) = none ∧ seqM (keyT t) = none ∧ (keyT t == [43]) = false ∧ (keyT t == [63]) = false ∧ (keyT t == [42]) = false ∧ (keyT t == [94]) = false
  bg : zew R = false
theorem Behind.begins {R l m : List Tok} (s : zoc R) (h : Behind R l m) : zew m = zew l := by
  cases l with
  | nil => cases h; rw [s.bg]; rfl
  | cons a l =>
    cases m with
    | nil => exact h.elim
    | cons b m =>
      have k := h.1.key
      have n := h.1.nam
      have hk : b.kind = a.kind := h.1.1.symm
      simp only [zew, k, n, hk]
def Sim (R : List Tok) : PR Ex → PR Ex → Prop
  | .bad _ _, _ => True
  | .ok x r, .ok x' r' => x'.er = x.er ∧ Behind R r r'
  | .ok _ _, .bad c _ => c = 2
theorem Sim.deep {R : List Tok} (p : PR Ex) {c a : Nat} (h : c = 2) : Sim R p (.bad c a) := by
  cases p with
  | bad _ _ => trivial
  | ok _ _ => exact h
def SimF (R : List Tok) (f g : List Tok → PR Ex) : Prop := ∀ ts ts', Behind R ts ts' → Sim R (f ts) (g ts')
section
variable {R : List Tok}
theorem yb0 (s : zoc R) {part part' : List Tok → PR Ex} {m : Bys → Option Op2} (hm : ∀ t r, R = t :: r → m (keyT t) = none) (hp : SimF R part part') (h1 : Shr part) (h2 : Shr part') :
    ∀ (k k' : Nat) (x x' : Ex) (ts ts' : List Tok), Behind R ts ts' → x'.er = x.er → ts.length ≤ k → ts'.length ≤ k' → Sim R (binL part m k x ts) (binL part' m k' x' ts') := by
  have base : ∀ (k k' : Nat) (x x' : Ex) (ts' : List Tok), Behind R [] ts' → x'.er = x.er → ts'.length ≤ k' → Sim R (binL part m k x []) (binL part' m k' x' ts') := by
    intro k k' x x' ts' h hx hk
    cases h
    have e1 : binL part m k x [] = .ok x [] := by cases k <;> rfl
    have e2 : binL part' m k' x' R = .ok x' R := by
      cases hR : R with
      | nil => exact absurd hR s.ne
      | cons t r =>
        have hn := hm t r hR
        cases k' with
        | zero => rw [hR] at hk; simp at hk
        | succ k' => rw [binL, hn]
    rw [e1, e2]
    exact ⟨hx, rfl⟩
  intro k
  induction k with
  | zero =>
    intro k' x x' ts ts' h hx hk hk'
    have : ts = [] := List.eq_nil_of_length_eq_zero (by omega)
    subst this
    exact base _ _ _ _ _ h hx hk'
  | succ k ih =>
    intro k' x x' ts ts' h hx hk hk'
    cases ts with
    | nil => exact base _ _ _ _ _ h hx hk'
    | cons a l =>
      cases ts' with
      | nil => exact h.elim
      | cons b l' =>
        cases k' with
        | zero => simp at hk'
        | succ k' =>
          rw [binL, binL, h.1.key]
          cases m (keyT a) with
          | none => exact ⟨hx, h⟩
          | some o =>
            have hs := hp l l' h.2
            simp only
            cases hq : part l with
            | bad c a => trivial
            | ok y r =>
              have q1 := h1 _ _ _ hq
              cases hq' : part' l' with
              | bad c a => 
                rw [hq, hq'] at hs
                simp only
                cases hb : binL part m k (Ex.bin false o x y) r with
                | bad _ _ => trivial
                | ok _ _ => exact hs
              | ok y' r' =>
                rw [hq, hq'] at hs
                have q2 := h2 _ _ _ hq'
                simp at hk hk'
                exact ih k' _ _ _ _ hs.2 (by simp only [Ex.er, hx, hs.1]) (by omega) (by omega)
theorem zjp (s : zoc R) {part part' : List Tok → PR Ex} {m : Bys → Option Op2} (hm : ∀ t r, R = t :: r → m (keyT t) = none) (hp : SimF R part part') (h1 : Shr part) (h2 : Shr part') : SimF R (pv part m) (pv part' m) := by
  intro ts ts' h
  have hs := hp ts ts' h
  unfold pv
  cases hq : part ts with
  | bad c a => trivial
  | ok y r =>
    cases hq' : part' ts' with
    | bad c a => 
      rw [hq, hq'] at hs
      simp only
      cases binL part m r.length y r with
      | bad _ _ => trivial
      | ok _ _ => exact hs
    | ok y' r' =>
      rw [hq, hq'] at hs
      exact yb0 s hm hp h1 h2 _ _ _ _ _ _ hs.2 hs.1 (Nat.le_refl _) (Nat.le_refl _)
theorem yb8 {e e' : Nat} {f f' : List Tok → PR Ex} {ts ts' : List Tok} (h : Behind R ts ts') (hf : ∀ r r', Behind R r r' → r.length < ts.length → r'.length < ts'.length → Sim R (f r) (f' r')) : Sim R (inv2 e f ts) (inv2 e' f' ts') := by
  cases ts with
  | nil => trivial
  | cons a l =>
    cases ts' with
    | nil => exact h.elim
    | cons b l' =>
      rw [inv2, inv2, h.1.key]
      split
      · cases l with
        | nil => trivial
        | cons c l =>
          cases l' with
          | nil => exact h.2.elim
          | cons d l' =>
            have hk : d.kind = c.kind := h.2.1.1.symm
            have hn : d.n = c.n := h.2.1.2.2.symm
            rw [inv3, inv3, hk, hn]
            split
            · exact hf _ _ h.2.2 (by simp; omega) (by simp; omega)
            · trivial
      · trivial
theorem zz4 (s : zoc R) (e e' : Nat) : ∀ (k k' : Nat) (x x' : Ex) (ts ts' : List Tok), Behind R ts ts' → x'.er = x.er → ts.length ≤ k → ts'.length ≤ k' → Sim R (pq e k x ts) (pq e' k' x' ts') := by
  have base : ∀ (k k' : Nat) (x x' : Ex) (ts' : List Tok), Behind R [] ts' → x'.er = x.er → ts'.length ≤ k' → Sim R (pq e k x []) (pq e' k' x' ts') := by
    intro k k' x x' ts' h hx hk
    cases h
    have e1 : pq e k x [] = .ok x [] := by cases k <;> rfl
    have e2 : pq e' k' x' R = .ok x' R := by
      cases hR : R with
      | nil => exact absurd hR s.ne
      | cons t r =>
        obtain ⟨_, _, _, n1, n2, n3, n4⟩ := s.no t r hR
        cases k' with
        | zero => rw [hR] at hk; simp at hk
        | succ k' => rw [pq, n1, n2, n3, n4]; rfl
    rw [e1, e2]
    exact ⟨hx, rfl⟩
  intro k
  induction k with
  | zero =>
    intro k' x x' ts ts' h hx hk hk'
    have : ts = [] := List.eq_nil_of_length_eq_zero (by omega)
    subst this
    exact base _ _ _ _ _ h hx hk'
  | succ k ih =>
    intro k' x x' ts ts' h hx hk hk'
    cases ts with
    | nil => exact base _ _ _ _ _ h hx hk'
    | cons a l =>
      cases ts' with
      | nil => exact h.elim
      | cons b l' =>
        cases k' with
        | zero => simp at hk'
        | succ k' =>
          simp at hk hk'
          rw [pq, pq, h.1.key, Behind.begins s h.2]
          split
          · exact ih k' _ _ _ _ h.2 (by simp only [Ex.er, hx]) (by omega) (by omega)
          split
          · exact ih k' _ _ _ _ h.2 (by simp only [Ex.er, hx]) (by omega) (by omega)
          split
          · exact ih k' _ _ _ _ h.2 (by simp only [Ex.er, hx]) (by omega) (by omega)
          split
          · exact yb8 h.2 fun r r' hr l1 l2 => ih k' _ _ _ _ hr (by simp only [Ex.er, hx]) (by omega) (by omega)
          · exact ⟨hx, h⟩
theorem zx6 (s : zoc R) {e e' : Nat} {prim prim' : List Tok → PR Ex} (hp : SimF R prim prim') : SimF R (zif e prim) (zif e' prim') := by
  intro ts ts' h
  have hs := hp ts ts' h
  unfold zif
  cases hq : prim ts with
  | bad c a => trivial
  | ok y r =>
    cases hq' : prim' ts' with
    | bad c a =>
      rw [hq, hq'] at hs
      simp only
      cases pq e r.length y r with
      | bad _ _ => trivial
      | ok _ _ => exact hs
    | ok y' r' =>
      rw [hq, hq'] at hs
      exact zz4 s e e' _ _ _ _ _ _ hs.2 hs.1 (Nat.le_refl _) (Nat.le_refl _)
theorem zxv (s : zoc R) {post post' : List Tok → PR Ex} (hp : SimF R post post') : SimF R (zhk post) (zhk post') := by
  intro ts ts' h
  have hs := hp ts ts' h
  unfold zhk
  cases hq : post ts with
  | bad c a => trivial
  | ok y r =>
    cases hq' : post' ts' with
    | bad c a =>
      rw [hq, hq'] at hs
      exact Sim.deep _ hs
    | ok y' r' =>
      rw [hq, hq'] at hs
      cases r with
      | nil =>
        obtain ⟨hx, hr⟩ := hs
        cases hr
        cases hR : R with
        | nil => exact absurd hR s.ne
        | cons t l =>
          obtain ⟨_, _, _, n1, n2, n3, n4⟩ := s.no t l hR
          simp only [n3, Bool.false_eq_true, if_false]
          exact ⟨hx, rfl⟩
      | cons t r =>
        cases r' with
        | nil => exact hs.2.elim
        | cons t' r' =>
          obtain ⟨hx, hr⟩ := hs
          simp only [hr.1.key]
          split
          · have h2 := hp r r' hr.2
            cases hq2 : post r with
            | bad c a => trivial
            | ok z u =>
              cases hq2' : post' r' with
              | bad c a => rw [hq2, hq2'] at h2; exact h2
              | ok z' u' => rw [hq2, hq2'] at h2; exact ⟨by simp only [Ex.er, hx, h2.1], h2.2⟩
          · exact ⟨hx, hr⟩
theorem zv7 {e e' : Nat} {cl : Bys} {x x' : Ex} (hx : x'.er = x.er) {ts ts' : List Tok} (h : Behind R ts ts') : Sim R (zio e cl x ts) (zio e' cl x' ts') := by
  cases ts with
  | nil => trivial
  | cons a l =>
    cases ts' with
    | nil => exact h.elim
    | cons b l' =>
      rw [zio, zio, h.1.key]
      split
      · exact ⟨hx, h.2⟩
      · trivial
theorem zw3 {e e' : Nat} {cl : Bys} {mk mk' : Ex → Ex} (hm : ∀ x x', x'.er = x.er → (mk' x').er = (mk x).er) {p q : PR Ex} (h : Sim R p q) : Sim R (brP e cl mk p) (brP e' cl mk' q) := by
  cases p with
  | bad c a => trivial
  | ok x r =>
    cases q with
    | bad c a =>
      exact Sim.deep _ h
    | ok x' r' => exact zv7 (hm _ _ h.1) h.2
theorem ziq {e e' : Nat} {inner inner' : Option (List Tok → PR Ex)} (hi : ∀ f f', inner = some f → inner' = some f' → SimF R f f') : SimF R (zi8 e inner) (zi8 e' inner') := by
  intro ts ts' h
  cases ts with
  | nil => trivial
  | cons a l =>
    cases ts' with
    | nil => exact h.elim
    | cons b l' =>
      have hk : b.kind = a.kind := h.1.1.symm
      have hn : b.n = a.n := h.1.2.2.symm
      have ht : b.text = a.text := h.1.2.1.symm
      rw [zi8, zi8, h.1.key, h.1.nam, hk, hn]
      split
      · cases inner with
        | none => trivial
        | some f =>
          cases inner' with
          | none =>
            unfold brkP
            simp only
            split
            · cases brP e [41] (Ex.par false a.at_) (f l) with
              | bad _ _ => trivial
              | ok _ _ => exact rfl
            · cases brP e [93] (Ex.box a.at_) (f l) with
              | bad _ _ => trivial
              | ok _ _ => exact rfl
          | some f' =>
            have hs := hi f f' rfl rfl l l' h.2
            unfold brkP
            simp only [h.1.key]
            split
            · exact zw3 (fun x x' hx => by simp only [Ex.er, hx]) hs
            · exact zw3 (fun x x' hx => by simp only [Ex.er, hx]) hs
      split
      · exact ⟨rfl, h.2⟩
      split
      · exact ⟨by simp only [Ex.er, ht], h.2⟩
      · trivial
theorem zin (s : zoc R) {e e' : Nat} {prim prim' : List Tok → PR Ex} (hp : SimF R prim prim') (h1 : Shr prim) (h2 : Shr prim') : SimF R (zpr e prim) (zpr e' prim') :=
  zjp s (fun t r h => (s.no t r h).1) (zjp s (fun t r h => (s.no t r h).2.1) (zjp s (fun t r h => (s.no t r h).2.2.1) (zxv s (zx6 s hp))
    (zbt (zbq h1)) (zbt (zbq h2))) (fh (zbt (zbq h1))) (fh (zbt (zbq h2)))) (fh (fh (zbt (zbq h1)))) (fh (fh (zbt (zbq h2))))
theorem zq3 (s : zoc R) (e e' : Nat) : ∀ d d', SimF R (zbi e d) (zbi e' d')
  | 0, 0 => zin s (ziq fun _ _ h => by cases h) (b7 fun _ h => by cases h) (b7 fun _ h => by cases h)
  | 0, d' + 1 => zin s (ziq fun _ _ h => by cases h) (b7 fun _ h => by cases h) (b7 fun f h => by cases h; exact za6 e' d')
  | d + 1, 0 => zin s (ziq fun _ _ _ h => by cases h) (b7 fun f h => by cases h; exact za6 e d) (b7 fun _ h => by cases h)
  | d + 1, d' + 1 => zin s (ziq fun f f' h h' => by cases h; cases h'; exact zq3 s e e' d d') (b7 fun f h => by cases h; exact za6 e d) (b7 fun f h => by cases h; exact za6 e' d')
end
end Go.Proofs.YtljdbheclfaloaaGreatDoor.AM
namespace Go.Proofs.YtljdbheclfaloaaGreatDoor.AM
open Go.RowKit
set_option linter.unusedSimpArgs false
set_option linter.unusedVariables false

theorem zyr (s : U) (e : Int) (he : 0 ≤ e) (h : Heap) : DF FF zcu [.int .u32 s.toNat, .int .i64 e] h = some (.bool (s.getLsbD e.toNat), h) := by
  refine wg zz8 ?_
  simp only [zpu, ya, xe, zb, yb, zm, zc, zo, zf, ze, zd, List.set_cons_succ, List.set_cons_zero, O_mv, yx, yg, zt9, ko, yfr, List.cons_append, List.nil_append, List.length_cons, List.length_nil, Nat.reduceAdd, Nat.reduceSub, Nat.zero_add, zn, yc, za, zc7, zh, zg, he, yg2]
theorem zda (s : U) (e : Nat) (h : Heap) : DF FF zcu [.int .u32 s.toNat, .int .i64 e] h = some (.bool (s.getLsbD e), h) := zyr s e (by omega) h
theorem lt32 {k : Nat} (hk : k < 32) : (k : Int) < 32 := by omega
theorem zk0 : ¬ ((32 : Nat) : Int) < 32 := by omega
theorem nat0 (k : Nat) : (0 : Int) ≤ (k : Int) := by omega

def idR (s : U) : Nat → U := fun e => s &&& (1#32 <<< e)
theorem zhx (s : U) (h : Heap) : DF FF zb8 [.int .u32 s.toNat] h = some (agg (relV (idR s)), h) := by
  refine wg ycz ?_
  simp only [zuo, ya, zb, yb, zm, zc, zf, List.set_cons_succ, List.set_cons_zero, O_mv, List.cons_append, List.nil_append, List.length_cons, List.length_nil, Nat.reduceSub, Nat.zero_add, zn, yc, zz, za, yq, zh, zg, List.append_assoc, List.length_append, List.set_cons_zero, qy]
  refine zaq 32 (fun k st => ∃ j : Nat → Value, st = ⟨[.int .u32 s.toNat, j 1, .pointer (some ⟨h.length, 0, some 0⟩), .pointer (some ⟨h.length + 1, 0, some 0⟩), j 4, .int .i64 k, j 6, j 7, j 8, j 9, j 10, j 11, j 12, j 13, j 14, j 15],
      h ++ [.cells (relV fun _ => 0#32) 0 false, .cells (relV (mix k (fun e => s &&& (1#32 <<< e)) fun _ => 0#32)) 0 false]⟩) ?_ ?_ _ ?_
  · rintro k st hk ⟨j, rfl⟩
    simp only [ya, zs, yl, zb, zx, yb, zm, zc, zp, zo, zf, ze, zd, List.set_cons_succ, List.set_cons_zero, O_mv, yx, yg, vw, zt9, x9, yd3, Nat.zero_add, zn, yc, zz, za, zi, zc4, zl, xc, xx, yi, vc, ba, b4, vk, Int.toNat_natCast, Nat.mul_one, List.set_cons_zero, eq_self, zc0, x7, pg, yp, ybu, ydb, lt32 hk, nat0, hk, decide_true, xo (k := k) (by omega)]
    exact junk rfl
  · rintro st ⟨j, rfl⟩
    simp only [ya, zs, w7, xe, zb, zu, yb, zm, zc, zp, zo, zf, ze, zd, List.set_cons_succ, List.set_cons_zero, yx, yg, xr, y5, x9, zn, yc, za, yz, yk, zl, yu, z6, qq, xl, qx, xf, yi, zw, zr, Option.map_some, List.set_cons_zero, gf, qi, zbp, eq_self, x7, b9, xj, zk0, decide_false]
    rfl
  · simp only [zc9]
    exact junk rfl

def zlr (a b : U) : Nat → U := fun e => if a.getLsbD e then b else 0#32
theorem zmb (a b : U) (h : Heap) : DF FF zcq [.int .u32 a.toNat, .int .u32 b.toNat] h = some (agg (relV (zlr a b)), h) := by
  refine wg zrk ?_
  simp only [zl3, ya, zb, yb, zm, zc, zf, List.set_cons_succ, List.set_cons_zero, O_mv, List.cons_append, List.nil_append, List.length_cons, List.length_nil, Nat.reduceAdd, Nat.reduceSub, Nat.zero_add, zn, yc, zz, za, yq, zh, zg, List.append_assoc, List.length_append, List.set_cons_zero, qy]
  refine zaq 32 (fun k st => ∃ j : Nat → Value, st = ⟨[.int .u32 a.toNat, .int .u32 b.toNat, j 2, j 3, .pointer (some ⟨h.length, 0, some 0⟩), .pointer (some ⟨h.length + 1, 0, some 0⟩), j 6, .int .i64 k, j 8, j 9, j 10, j 11, j 12, j 13, j 14, j 15, j 16, j 17],
      h ++ [.cells (relV fun _ => 0#32) 0 false, .cells (relV (mix k (fun e => if a.getLsbD e then b else 0#32) fun _ => 0#32)) 0 false]⟩) ?_ ?_ _ ?_
  · rintro k st hk ⟨j, rfl⟩
    cases hb : a.getLsbD k
    · simp only [ya, zs, yl, zb, zx, zu, yb, zm, zc, zo, zf, ze, zd, List.set_cons_succ, List.set_cons_zero, O_mv, yx, yg, ye, List.map_cons, List.map_nil, vw, x9, zn, yc, zz, za, zi, List.set_cons_zero, yp, lt32 hk, decide_true, xo (k := k) (by omega), zda, hb]
      rw [zf3 (by simp [hb])]
      exact junk rfl
    · simp only [ya, zs, yl, zb, zx, yb, zm, zc, zp, zo, zf, ze, zd, List.set_cons_succ, List.set_cons_zero, O_mv, yx, yg, ye, List.map_cons, List.map_nil, vw, x9, Nat.zero_add, zn, yc, zz, za, zi, zc4, zl, xc, xx, yi, vc, ba, b4, vk, Nat.mul_one, List.set_cons_zero, eq_self, zc0, x7, pg, yp, lt32 hk, nat0, hk, decide_true, xo (k := k) (by omega), zda, hb, if_true]
      exact junk rfl
  · rintro st ⟨j, rfl⟩
    simp only [ya, zs, w7, xe, zb, zu, yb, zm, zc, zp, zo, zf, ze, zd, List.set_cons_succ, List.set_cons_zero, yx, yg, xr, y5, x9, zn, yc, za, yz, yk, zl, yu, z6, qq, xl, qx, xf, yi, zw, zr, Option.map_some, List.set_cons_zero, gf, qi, zbp, eq_self, x7, b9, xj, zk0, decide_false]
    rfl
  · simp only [zc9]
    exact junk rfl

def zmu (a b : Nat → U) : Nat → U := fun e => a e &&& ~~~ b e
theorem zs0 (a b : Nat → U) (h : Heap) : DF FF zg0 [agg (relV a), agg (relV b)] h = some (agg (relV (zmu a b)), h) := by
  refine wg ztc ?_
  simp only [zlo, ya, zb, yb, zm, zc, zo, zf, ze, zd, List.set_cons_succ, List.set_cons_zero, O_mv, List.cons_append, List.nil_append, List.length_cons, List.length_nil, Nat.reduceAdd, Nat.reduceSub, Nat.zero_add, zn, yc, zz, za, yq, w9, zh, zg, List.append_assoc, List.length_append, List.set_cons_zero, eq_self, yh, zt, x7, qy]
  refine zaq 32 (fun k st => ∃ j : Nat → Value, st = ⟨[j 0, j 1, .pointer (some ⟨h.length, 0, some 0⟩), .pointer (some ⟨h.length + 1, 0, some 0⟩), .pointer (some ⟨h.length + 2, 0, some 0⟩), j 5, .int .i64 k, j 7, j 8, j 9, j 10, j 11, j 12, j 13, j 14, j 15, j 16, j 17, j 18],
      h ++ [.cells (relV (mix k (fun e => a e &&& ~~~ b e) a)) 0 false, .cells (relV b) 0 false, .cells (relV fun _ => 0#32) 0 false]⟩) ?_ ?_ _ ?_
  · rintro k st hk ⟨j, rfl⟩
    simp only [ya, zs, yl, zb, zx, yb, zm, zc, zp, zo, zf, ze, zd, List.set_cons_succ, List.set_cons_zero, O_mv, yx, yg, zy, zk, vw, zpm, x9, Nat.zero_add, zn, yc, zz, za, zi, zc4, zl, xc, xx, fp, yr, bn, yo, yi, j4, vk, Nat.mul_one, List.set_cons_zero, eq_self, zc0, x7, zbm, pg, zky, yp, zts, lt32 hk, nat0, hk, decide_true, xo (k := k) (by omega)]
    exact junk rfl
  · rintro st ⟨j, rfl⟩
    simp only [ya, zs, w7, xe, zb, zu, yb, zm, zc, zp, zo, zf, ze, zd, List.set_cons_succ, List.set_cons_zero, yx, yg, xr, y5, x9, zn, yc, za, yz, yk, zl, yu, z6, qq, xl, qx, xf, yi, vc, vj, vo, zr, Option.map_some, List.set_cons_zero, gf, qi, zbp, eq_self, x7, b9, xj, zk0, decide_false]
    rfl
  · simp only [zc9]
    exact junk rfl

def zi6 (s : U) (r : Nat → U) : Nat → U
  | 0 => 0#32
  | k + 1 => if s.getLsbD k then zi6 s r k ||| r k else zi6 s r k
def zz7 (s : U) (r : Nat → U) : U := zi6 s r 32
theorem zwi (s : U) (r : Nat → U) (h : Heap) : DF FF zjb [.int .u32 s.toNat, agg (relV r)] h = some (.int .u32 (zz7 s r).toNat, h) := by
  refine wg zvz ?_
  simp only [zm1, ya, zb, yb, zm, zc, zo, zf, ze, zd, List.set_cons_succ, List.set_cons_zero, O_mv, List.cons_append, List.nil_append, List.length_cons, List.length_nil, Nat.reduceAdd, Nat.reduceSub, Nat.zero_add, zn, yc, zz, za, w9, zh, zg, List.set_cons_zero, eq_self, yh, zt, x7]
  refine zaq 32 (fun k st => ∃ j : Nat → Value, st = ⟨[.int .u32 s.toNat, j 1, j 2, .pointer (some ⟨h.length, 0, some 0⟩), j 4, .int .u32 (zi6 s r k).toNat, j 6, .int .i64 k, j 8, j 9, j 10, j 11, j 12, j 13, j 14, j 15, j 16, j 17, j 18, j 19],
      h ++ [.cells (relV r) 0 false]⟩) ?_ ?_ _ ?_
  · rintro k st hk ⟨j, rfl⟩
    cases hb : s.getLsbD k
    · simp only [ya, zs, yl, zb, zx, zu, yb, zm, zc, zo, zf, ze, zd, List.set_cons_succ, List.set_cons_zero, O_mv, yx, yg, ye, List.map_cons, List.map_nil, vw, x9, zn, yc, zz, za, zi, List.set_cons_zero, yp, lt32 hk, decide_true, xo (k := k) (by omega), zda, hb]
      have : zi6 s r (k + 1) = zi6 s r k := by rw [zi6, hb]; rfl
      rw [this]
      exact junk rfl
    · simp only [ya, zs, yl, zb, zx, yb, zm, zc, zo, zf, ze, zd, List.set_cons_succ, List.set_cons_zero, O_mv, yx, yg, ye, List.map_cons, List.map_nil, zy, zk, vw, zwp, x9, Nat.zero_add, zn, yc, zz, za, zi, zc4, yr, yo, Nat.mul_one, List.set_cons_zero, zc0, zbm, yp, u_or, lt32 hk, nat0, hk, decide_true, xo (k := k) (by omega), zda, hb]
      have : zi6 s r (k + 1) = zi6 s r k ||| r k := by rw [zi6, hb]; rfl
      rw [this]
      exact junk rfl
  · rintro st ⟨j, rfl⟩
    simp only [ya, zs, w7, xe, zb, zu, yb, zm, zc, zo, zf, ze, zd, List.set_cons_succ, List.set_cons_zero, O_mv, yx, yg, x9, zn, yc, za, yz, yk, List.set_cons_zero, xj, zk0, decide_false]
    rw [zfi _ _ _ _ _ rfl]
    rfl
  · exact junk rfl

def invK (r : Nat → U) : Nat → Nat → U
  | 0 => fun _ => 0#32
  | a + 1 => fun b => if (r a).getLsbD b then invK r a b ||| (1#32 <<< a) else invK r a b
def invR (r : Nat → U) : Nat → U := invK r 32
theorem zpe (r : Nat → U) (h : Heap) : DF FF zel [agg (relV r)] h = some (agg (relV (invR r)), h) := by
  refine wg zn0 ?_
  simp only [zib, ya, zb, yb, zm, zc, zo, zf, zd, List.set_cons_succ, List.set_cons_zero, O_mv, List.cons_append, List.nil_append, List.length_cons, List.length_nil, Nat.reduceAdd, Nat.reduceSub, Nat.zero_add, zn, yc, zz, za, yq, w9, zh, zg, List.append_assoc, List.length_append, List.set_cons_zero, eq_self, yh, zt, x7, qy]
  refine zaq 32 (fun a st => ∃ j : Nat → Value, st = ⟨[j 0, .pointer (some ⟨h.length, 0, some 0⟩), .pointer (some ⟨h.length + 1, 0, some 0⟩), .pointer (some ⟨h.length + 2, 0, some 0⟩), j 4, j 5, .int .i64 a, j 7, j 8, j 9, j 10, j 11, j 12, j 13, j 14, j 15, j 16, j 17, j 18, j 19, j 20, j 21, j 22, j 23, j 24, j 25, j 26],
      h ++ [.cells (relV r) 0 false, .cells (relV fun _ => 0#32) 0 false, .cells (relV (invK r a)) 0 false]⟩) ?_ ?_ _ ?_
  · rintro a st ha ⟨j, rfl⟩
    simp only [ya, zs, yl, zb, zx, yb, zm, zc, zo, zf, ze, zd, List.set_cons_succ, List.set_cons_zero, O_mv, yx, yg, x9, zn, yc, zz, za, List.set_cons_zero, lt32 ha, decide_true]
    refine zaq 32 (fun b st => ∃ j : Nat → Value, st = ⟨[j 0, .pointer (some ⟨h.length, 0, some 0⟩), .pointer (some ⟨h.length + 1, 0, some 0⟩), .pointer (some ⟨h.length + 2, 0, some 0⟩), .int .i64 a, j 5, .int .i64 a, j 7, j 8, .int .i64 b, j 10, j 11, j 12, j 13, j 14, j 15, j 16, j 17, j 18, j 19, j 20, j 21, j 22, j 23, j 24, j 25, j 26],
      h ++ [.cells (relV r) 0 false, .cells (relV fun _ => 0#32) 0 false, .cells (relV (mix b (fun b => if (r a).getLsbD b then invK r a b ||| (1#32 <<< a) else invK r a b) (invK r a))) 0 false]⟩) ?_ ?_ _ ?_
    · rintro b st hb ⟨j, rfl⟩
      cases hc : (r a).getLsbD b
      · simp only [ya, zs, yl, zb, zx, zu, yb, zm, zc, zo, zf, ze, zd, List.set_cons_succ, List.set_cons_zero, O_mv, yx, yg, ye, List.map_cons, List.map_nil, zy, zk, vw, x9, Nat.zero_add, zn, yc, zz, za, zi, zc4, yr, yo, Nat.mul_one, List.set_cons_zero, zc0, zbm, yp, lt32 hb, nat0, ha, decide_true, xo (k := b) (by omega), zda, hc]
        rw [zf3 (by simp [hc])]
        exact junk rfl
      · simp only [ya, zs, yl, zb, zx, yb, zm, zc, zp, zo, zf, ze, zd, List.set_cons_succ, List.set_cons_zero, O_mv, yx, yg, ye, List.map_cons, List.map_nil, zy, zk, vw, zwp, x9, yd3, Nat.zero_add, zn, yc, zz, za, zi, zc4, zl, xc, xx, fp, yr, bn, yo, yi, vc, ba, b4, vk, Int.toNat_natCast, Nat.mul_one, List.set_cons_zero, eq_self, zc0, x7, zbm, pg, zky, yp, u_or, ydb, lt32 hb, nat0, ha, hb, decide_true, xo (k := b) (by omega), zda, hc, if_true]
        exact junk rfl
    · rintro st ⟨j, rfl⟩
      simp only [ya, zs, w7, zb, zu, yb, zm, zc, zo, zf, ze, zd, List.set_cons_succ, List.set_cons_zero, O_mv, yx, yg, vw, x9, zn, yc, za, yz, zi, yk, List.set_cons_zero, b9, yp, xj, zk0, decide_false, xo (k := a) (by omega)]
      exact junk rfl
    · simp only [zc9]
      exact junk rfl
  · rintro st ⟨j, rfl⟩
    simp only [ya, zs, w7, xe, zb, zu, yb, zm, zc, zp, zo, zf, ze, zd, List.set_cons_succ, List.set_cons_zero, yx, yg, xr, y5, x9, zn, yc, za, yz, yk, zl, yu, z6, qq, qx, xf, yi, vc, vj, vo, zr, Option.map_some, List.set_cons_zero, gf, qi, zbp, eq_self, x7, xj, zk0, decide_false]
    rfl
  · exact junk rfl

def zed (r : Nat → U) : Nat → Nat → U
  | 0 => r
  | b + 1 => fun a => if (zed r b a).getLsbD b then zed r b a ||| zed r b b else zed r b a
def zgs (r : Nat → U) : Nat → U := zed r 32
theorem zji (r : Nat → U) (h : Heap) : DF FF zdz [agg (relV r)] h = some (agg (relV (zgs r)), h) := by
  refine wg zwl ?_
  simp only [zno, ya, zb, yb, zm, zc, zo, zf, zd, List.set_cons_succ, List.set_cons_zero, O_mv, List.cons_append, List.nil_append, List.length_cons, List.length_nil, Nat.reduceSub, Nat.zero_add, zn, yc, zz, za, yq, w9, zh, zg, List.append_assoc, List.length_append, List.set_cons_zero, eq_self, yh, zt, x7, qy]
  refine zaq 32 (fun b st => ∃ j : Nat → Value, st = ⟨[j 0, .pointer (some ⟨h.length, 0, some 0⟩), .pointer (some ⟨h.length + 1, 0, some 0⟩), j 3, j 4, .int .i64 b, j 6, j 7, j 8, j 9, j 10, j 11, j 12, j 13, j 14, j 15, j 16, j 17, j 18, j 19, j 20, j 21, j 22, j 23, j 24, j 25, j 26],
      h ++ [.cells (relV (zed r b)) 0 false, .cells (relV fun _ => 0#32) 0 false]⟩) ?_ ?_ _ ?_
  · rintro b st hb ⟨j, rfl⟩
    simp only [ya, zs, yl, zb, zx, yb, zm, zc, zo, zf, ze, zd, List.set_cons_succ, List.set_cons_zero, O_mv, yx, yg, x9, zn, yc, zz, za, List.set_cons_zero, lt32 hb, decide_true]
    refine zaq 32 (fun a st => ∃ j : Nat → Value, st = ⟨[j 0, .pointer (some ⟨h.length, 0, some 0⟩), .pointer (some ⟨h.length + 1, 0, some 0⟩), .int .i64 b, j 4, .int .i64 b, j 6, j 7, .int .i64 a, j 9, j 10, j 11, j 12, j 13, j 14, j 15, j 16, j 17, j 18, j 19, j 20, j 21, j 22, j 23, j 24, j 25, j 26],
      h ++ [.cells (relV (mix a (fun a => if (zed r b a).getLsbD b then zed r b a ||| zed r b b else zed r b a) (zed r b))) 0 false, .cells (relV fun _ => 0#32) 0 false]⟩) ?_ ?_ _ ?_
    · rintro a st ha ⟨j, rfl⟩
      have hmid : mix a (fun a => if (zed r b a).getLsbD b then zed r b a ||| zed r b b else zed r b a) (zed r b) b = zed r b b := by
        unfold mix
        by_cases hq : b < a
        · simp only [if_pos hq, BitVec.or_self, ite_self]
        · rw [if_neg hq]
      cases hc : (zed r b a).getLsbD b
      · simp only [ya, zs, yl, zb, zx, zu, yb, zm, zc, zo, zf, ze, zd, List.set_cons_succ, List.set_cons_zero, O_mv, yx, yg, ye, List.map_cons, List.map_nil, zy, zk, vw, x9, Nat.zero_add, zn, yc, zz, za, zi, zc4, yr, yo, Nat.mul_one, List.set_cons_zero, zc0, zbm, zky, yp, lt32 ha, nat0, ha, decide_true, xo (k := a) (by omega), zda, hc]
        rw [zf3 (by simp [hc])]
        exact junk rfl
      · simp only [ya, zs, yl, zb, zx, yb, zm, zc, zp, zo, zf, ze, zd, List.set_cons_succ, List.set_cons_zero, O_mv, yx, yg, ye, List.map_cons, List.map_nil, zy, zk, vw, zwp, x9, Nat.zero_add, zn, yc, zz, za, zi, zc4, zl, xc, xx, yr, yo, yi, j4, vk, Nat.mul_one, List.set_cons_zero, eq_self, zc0, x7, zbm, pg, zky, yp, u_or, lt32 ha, nat0, ha, hb, decide_true, xo (k := a) (by omega), zda, hc, if_true, hmid]
        exact junk rfl
    · rintro st ⟨j, rfl⟩
      simp only [ya, zs, w7, zb, zu, yb, zm, zc, zo, zf, ze, zd, List.set_cons_succ, List.set_cons_zero, O_mv, yx, yg, vw, x9, zn, yc, za, yz, zi, yk, List.set_cons_zero, b9, yp, xj, zk0, decide_false, xo (k := b) (by omega)]
      exact junk rfl
    · simp only [zc9]
      exact junk rfl
  · rintro st ⟨j, rfl⟩
    simp only [ya, zs, w7, xe, zb, zu, yb, zm, zc, zp, zo, zf, ze, zd, List.set_cons_succ, List.set_cons_zero, yx, yg, xr, y5, x9, zn, yc, za, yz, yk, zl, yu, z6, qq, xl, qx, xf, yi, vc, vj, vo, zr, Option.map_some, List.set_cons_zero, gf, qi, zbp, eq_self, x7, xj, zk0, decide_false]
    rfl
  · exact junk rfl
def zur (r : Nat → U) : Bool := zmf r fun _ => 0#32
theorem zk2 (r : Nat → U) (h : Heap) : DF FF ze0 [agg (relV r)] h = some (.bool (zur r), h) := by
  refine wg zrs ?_
  simp only [zle, ya, xe, zb, yb, zm, zc, zo, zf, ze, zd, List.set_cons_succ, List.set_cons_zero, O_mv, yg, xr, y5, x8, y9, yd, yy, List.cons_append, List.nil_append, List.length_cons, List.length_nil, Nat.reduceSub, Nat.zero_add, zn, yc, za, w9, xl, xf, zh, zg, Option.map_some, List.set_cons_zero, Bool.bne_false, eq_self, yh, zt, zog, yge, x7, qy]
  rw [zfi _ _ _ _ _ rfl]
  simp [zur]
end Go.Proofs.YtljdbheclfaloaaGreatDoor.AM

namespace Go.Proofs.YtljdbheclfaloaaGreatDoor.AM
open Go.RowKit
set_option linter.unusedSimpArgs false
set_option linter.unusedVariables false

theorem Rels.len {h : Heap} {s : Value} {rs : List (Nat → U)} (e : Rels h s rs) (H : Heap) : lenO H s = some (.int .i64 rs.length, H) := by
  have := Sl.len e H
  rwa [List.length_map] at this
theorem Rels.at {h : Heap} {s : Value} {rs : List (Nat → U)} (e : Rels h s rs) {k : Nat} (hk : k < rs.length) : ∃ b o v, (∀ H, rowO H 32 s (.int .i64 (k : Int)) = some (.pointer (some ⟨b, o, some v⟩), H)) ∧ ∀ L, Heap.read (h ++ L) ⟨b, o, some v⟩ 32 = some (relV rs[k]) := by
  obtain ⟨b, o, v, h1, h2⟩ := Sl.at e (k := k) (by rw [List.length_map]; exact hk)
  exact ⟨b, o, v, h1, fun L => by rw [h2, List.getElem_map]⟩

def zbe (rs : List (Nat → U)) : Nat → U := fun e => rs.foldl (fun acc r => acc ||| r e) 0#32
theorem zsm (rs : List (Nat → U)) {k : Nat} (hk : k < rs.length) : zbe (rs.take (k + 1)) = fun e => zbe (rs.take k) e ||| rs[k] e := by
  funext e; unfold zbe; rw [List.take_succ_eq_append_getElem hk, List.foldl_append]; rfl
theorem zln (rs : List (Nat → U)) (s : Value) (h : Heap) (hs : Rels h s rs) (hl : rs.length < 4611686018427387904) : DF FF zai [s] h = some (agg (relV (zbe rs)), h) := by
  refine wg zr0 ?_
  simp only [zlu, ya, zb, yb, zm, zc, zo, zf, ze, zd, List.set_cons_succ, List.set_cons_zero, O_mv, j6, List.cons_append, List.nil_append, List.length_cons, List.length_nil, Nat.reduceSub, Nat.zero_add, zn, yc, zz, za, yq, zh, zg, List.append_assoc, List.length_append, List.set_cons_zero, qy, hs.len]
  refine zaq rs.length (fun k st => ∃ (J : Heap) (j : Nat → Value), st = ⟨[j 0, j 1, .pointer (some ⟨h.length, 0, some 0⟩), .pointer (some ⟨h.length + 1, 0, some 0⟩), j 4, j 5, j 6, s, .int .i64 rs.length, .int .i64 k, j 10, j 11, j 12, j 13, j 14, j 15, j 16, j 17, j 18, j 19, j 20, j 21, j 22, j 23, j 24, j 25, j 26],
      h ++ (.cells (relV fun _ => 0#32) 0 false :: .cells (relV (zbe (rs.take k))) 0 false :: J)⟩) ?_ ?_ _ ?_
  · rintro k st hk ⟨J, j, rfl⟩
    obtain ⟨b, o, v, hp1, hp2⟩ := hs.at hk
    have h1 : (k : Int) < rs.length := by omega
    simp only [ya, zs, yl, zb, zx, yb, zm, zc, zp, zo, zf, ze, zd, List.set_cons_succ, List.set_cons_zero, O_mv, yx, yg, ve, xr, y5, x9, List.cons_append, List.length_cons, zn, yc, zz, za, yq, zl, yu, z6, yi, vc, vj, zw, vo, zr, List.append_assoc, List.length_append, Option.map_some, List.set_cons_zero, eq_self, x7, h1, decide_true, hp1, hp2]
    refine zaq 32 (fun e st => ∃ j : Nat → Value, st = ⟨[j 0, j 1, .pointer (some ⟨h.length, 0, some 0⟩), .pointer (some ⟨h.length + 1, 0, some 0⟩), j 4, .pointer (some ⟨h.length + (J.length + 1 + 1), 0, some 0⟩), j 6, s, .int .i64 rs.length, .int .i64 k, j 10, j 11, j 12, .int .i64 e, j 14, j 15, j 16, j 17, j 18, j 19, j 20, j 21, j 22, j 23, j 24, j 25, j 26],
      h ++ (.cells (relV fun _ => 0#32) 0 false :: .cells (relV (mix e (fun e => zbe (rs.take k) e ||| rs[k] e) (zbe (rs.take k)))) 0 false :: (J ++ [.cells (relV rs[k]) 0 false]))⟩) ?_ ?_ _ ?_
    · rintro e st he ⟨j, rfl⟩
      simp only [ya, zs, yl, zb, zx, yb, zm, zc, zp, zo, zf, ze, zd, List.set_cons_succ, List.set_cons_zero, O_mv, yx, yg, zy, zk, vw, zwp, x9, Nat.zero_add, zn, yc, zz, za, zi, zc4, zl, xc, xx, fp, yr, bn, yo, yi, vc, ba, b4, vk, Nat.mul_one, List.set_cons_zero, eq_self, zc0, x7, zbm, pg, zky, yp, u_or, lt32 he, nat0, he, decide_true, xo (k := e) (by omega)]
      exact junk rfl
    · rintro st ⟨j, rfl⟩
      simp only [ya, zs, w7, zb, zu, yb, zm, zc, zo, zf, ze, zd, List.set_cons_succ, List.set_cons_zero, O_mv, yx, yg, vw, x9, zn, yc, za, yz, zi, yk, List.set_cons_zero, b9, yp, xj, zk0, decide_false, xo (k := k) (by omega), zsm rs hk]
      exact ⟨_, junk rfl⟩
    · simp only [zc9]
      exact junk rfl
  · rintro st ⟨J, j, rfl⟩
    have h1 : ¬ ((rs.length : Nat) : Int) < rs.length := by omega
    simp only [ya, zs, w7, xe, zb, zu, yb, zm, zc, zp, zo, ze, zd, List.set_cons_succ, List.set_cons_zero, yx, yg, xr, y5, x9, zn, yc, za, yz, yk, zl, yu, z6, qq, xl, qx, xf, yi, zw, zr, Option.map_some, List.set_cons_zero, gf, qi, zbp, eq_self, x7, xj, h1, decide_false, List.take_length]
  · exact ⟨[], junk rfl⟩
def zhg (rs : List (Nat → U)) : Nat → U := fun e => rs.foldl (fun acc r => acc &&& r e) (zlr (BitVec.allOnes 32) (BitVec.allOnes 32) e)
theorem zvc (rs : List (Nat → U)) {k : Nat} (hk : k < rs.length) : zhg (rs.take (k + 1)) = fun e => zhg (rs.take k) e &&& rs[k] e := by
  funext e; unfold zhg; rw [List.take_succ_eq_append_getElem hk, List.foldl_append]; rfl
theorem zng (rs : List (Nat → U)) (s : Value) (h : Heap) (hs : Rels h s rs) (hl : rs.length < 4611686018427387904) : DF FF zcj [s] h = some (agg (relV (zhg rs)), h) := by
  have key : ∀ H, DF FF zcq [.int .u32 4294967295, .int .u32 4294967295] H = some (agg (relV (zlr (BitVec.allOnes 32) (BitVec.allOnes 32))), H) := fun H => zmb (BitVec.allOnes 32) (BitVec.allOnes 32) H
  refine wg zu9 ?_
  simp only [znt, ya, zb, yb, zm, zc, zp, zo, zf, ze, zd, List.set_cons_succ, List.set_cons_zero, O_mv, ye, List.map_cons, List.map_nil, j6, List.cons_append, List.nil_append, List.length_cons, List.length_nil, Nat.reduceSub, Nat.zero_add, zn, yc, zz, za, yq, zl, yu, z6, yi, vc, vj, vo, zr, zh, zg, List.append_assoc, List.length_append, List.set_cons_zero, eq_self, x7, qy, hs.len, key]
  refine zaq rs.length (fun k st => ∃ (J : Heap) (j : Nat → Value), st = ⟨[j 0, j 1, .pointer (some ⟨h.length, 0, some 0⟩), .pointer (some ⟨h.length + 1, 0, some 0⟩), j 4, j 5, j 6, j 7, s, .int .i64 rs.length, .int .i64 k, j 11, j 12, j 13, j 14, j 15, j 16, j 17, j 18, j 19, j 20, j 21, j 22, j 23, j 24, j 25, j 26, j 27],
      h ++ (.cells (relV fun _ => 0#32) 0 false :: .cells (relV (zhg (rs.take k))) 0 false :: J)⟩) ?_ ?_ _ ?_
  · rintro k st hk ⟨J, j, rfl⟩
    obtain ⟨b, o, v, hp1, hp2⟩ := hs.at hk
    have h1 : (k : Int) < rs.length := by omega
    simp only [ya, zs, yl, zb, zx, yb, zm, zc, zp, zo, zf, ze, zd, List.set_cons_succ, List.set_cons_zero, O_mv, yx, yg, ve, xr, y5, x9, List.cons_append, List.length_cons, zn, yc, zz, za, yq, zl, yu, z6, yi, vc, vj, zw, vo, zr, List.append_assoc, List.length_append, Option.map_some, List.set_cons_zero, eq_self, x7, h1, decide_true, hp1, hp2]
    refine zaq 32 (fun e st => ∃ j : Nat → Value, st = ⟨[j 0, j 1, .pointer (some ⟨h.length, 0, some 0⟩), .pointer (some ⟨h.length + 1, 0, some 0⟩), j 4, .pointer (some ⟨h.length + (J.length + 1 + 1), 0, some 0⟩), j 6, j 7, s, .int .i64 rs.length, .int .i64 k, j 11, j 12, j 13, .int .i64 e, j 15, j 16, j 17, j 18, j 19, j 20, j 21, j 22, j 23, j 24, j 25, j 26, j 27],
      h ++ (.cells (relV fun _ => 0#32) 0 false :: .cells (relV (mix e (fun e => zhg (rs.take k) e &&& rs[k] e) (zhg (rs.take k)))) 0 false :: (J ++ [.cells (relV rs[k]) 0 false]))⟩) ?_ ?_ _ ?_
    · rintro e st he ⟨j, rfl⟩
      simp only [ya, zs, yl, zb, zx, yb, zm, zc, zp, zo, zf, ze, zd, List.set_cons_succ, List.set_cons_zero, O_mv, yx, yg, zy, zk, vw, zt9, x9, Nat.zero_add, zn, yc, zz, za, zi, zc4, zl, xc, xx, fp, yr, bn, yo, yi, vc, ba, b4, vk, Nat.mul_one, List.set_cons_zero, eq_self, zc0, x7, zbm, pg, zky, yp, ybu, lt32 he, nat0, he, decide_true, xo (k := e) (by omega)]
      exact junk rfl
    · rintro st ⟨j, rfl⟩
      simp only [ya, zs, w7, zb, zu, yb, zm, zc, zo, zf, ze, zd, List.set_cons_succ, List.set_cons_zero, O_mv, yx, yg, vw, x9, zn, yc, za, yz, zi, yk, List.set_cons_zero, b9, yp, xj, zk0, decide_false, xo (k := k) (by omega), zvc rs hk]
      exact ⟨_, junk rfl⟩
    · simp only [zc9]
      exact junk rfl
  · rintro st ⟨J, j, rfl⟩
    have h1 : ¬ ((rs.length : Nat) : Int) < rs.length := by omega
    simp only [ya, zs, w7, xe, zb, zu, yb, zm, zc, zp, zo, ze, zd, List.set_cons_succ, List.set_cons_zero, yx, yg, xr, y5, x9, zn, yc, za, yz, yk, zl, yu, z6, qq, xl, qx, xf, yi, zw, zr, Option.map_some, List.set_cons_zero, gf, qi, zbp, eq_self, x7, xj, h1, decide_false, List.take_length]
  · exact ⟨[], junk rfl⟩
def twoR (a b : Nat → U) : Nat → U := fun e => zz7 (a e) b
def seqK (rs : List (Nat → U)) : Nat → U := rs.foldl twoR (idR (BitVec.allOnes 32))
theorem zy5 (rs : List (Nat → U)) {k : Nat} (hk : k < rs.length) : seqK (rs.take (k + 1)) = fun e => zz7 (seqK (rs.take k) e) rs[k] := by
  unfold seqK; rw [List.take_succ_eq_append_getElem hk, List.foldl_append]; rfl
theorem zyn (rs : List (Nat → U)) (s : Value) (h : Heap) (hs : Rels h s rs) (hl : rs.length < 4611686018427387904) : DF FF zhw [s] h = some (agg (relV (seqK rs)), h) := by
  have key : ∀ H, DF FF zb8 [.int .u32 4294967295] H = some (agg (relV (idR (BitVec.allOnes 32))), H) := fun H => zhx (BitVec.allOnes 32) H
  refine wg zzm ?_
  simp only [zpg, ya, zb, yb, zm, zc, zp, zo, zf, ze, zd, List.set_cons_succ, List.set_cons_zero, O_mv, ye, List.map_cons, List.map_nil, j6, List.cons_append, List.nil_append, List.length_cons, List.length_nil, Nat.reduceSub, Nat.zero_add, zn, yc, zz, za, yq, zl, yu, z6, yi, vc, vj, vo, zr, zh, zg, List.append_assoc, List.length_append, List.set_cons_zero, eq_self, x7, qy, hs.len, key]
  refine zaq rs.length (fun k st => ∃ (J : Heap) (j : Nat → Value), st = ⟨[j 0, j 1, .pointer (some ⟨h.length, 0, some 0⟩), .pointer (some ⟨h.length + 1, 0, some 0⟩), j 4, j 5, j 6, j 7, s, .int .i64 rs.length, .int .i64 k, j 11, j 12, j 13, j 14, j 15, j 16, j 17, j 18, j 19, j 20, j 21, j 22, j 23, j 24, j 25, j 26],
      h ++ (.cells (relV fun _ => 0#32) 0 false :: .cells (relV (seqK (rs.take k))) 0 false :: J)⟩) ?_ ?_ _ ?_
  · rintro k st hk ⟨J, j, rfl⟩
    obtain ⟨b, o, v, hp1, hp2⟩ := hs.at hk
    have h1 : (k : Int) < rs.length := by omega
    simp only [ya, zs, yl, zb, zx, yb, zm, zc, zp, zo, zf, ze, zd, List.set_cons_succ, List.set_cons_zero, O_mv, yx, yg, ve, xr, y5, x9, List.cons_append, List.length_cons, zn, yc, zz, za, yq, zl, yu, z6, yi, vc, vj, zw, vo, zr, List.append_assoc, List.length_append, Option.map_some, List.set_cons_zero, eq_self, x7, h1, decide_true, hp1, hp2]
    refine zaq 32 (fun e st => ∃ j : Nat → Value, st = ⟨[j 0, j 1, .pointer (some ⟨h.length, 0, some 0⟩), .pointer (some ⟨h.length + 1, 0, some 0⟩), j 4, .pointer (some ⟨h.length + (J.length + 1 + 1), 0, some 0⟩), j 6, j 7, s, .int .i64 rs.length, .int .i64 k, j 11, j 12, j 13, .int .i64 e, j 15, j 16, j 17, j 18, j 19, j 20, j 21, j 22, j 23, j 24, j 25, j 26],
      h ++ (.cells (relV fun _ => 0#32) 0 false :: .cells (relV (mix e (fun e => zz7 (seqK (rs.take k) e) rs[k]) (seqK (rs.take k)))) 0 false :: (J ++ [.cells (relV rs[k]) 0 false]))⟩) ?_ ?_ _ ?_
    · rintro e st he ⟨j, rfl⟩
      simp only [ya, zs, yl, zb, zx, yb, zm, zc, zp, zo, zf, ze, zd, List.set_cons_succ, List.set_cons_zero, O_mv, yx, yg, ye, List.map_cons, List.map_nil, zy, zk, xr, y5, vw, x9, Nat.zero_add, zn, yc, zz, za, zi, zc4, zl, xc, xx, fp, bn, yo, qq, xl, qx, xf, yi, vc, ba, b4, vk, Nat.mul_one, Option.map_some, List.set_cons_zero, eq_self, zc0, x7, zbm, pg, zky, yp, lt32 he, nat0, he, decide_true, xo (k := e) (by omega), zwi]
      exact junk rfl
    · rintro st ⟨j, rfl⟩
      simp only [ya, zs, w7, zb, zu, yb, zm, zc, zo, zf, ze, zd, List.set_cons_succ, List.set_cons_zero, O_mv, yx, yg, vw, x9, zn, yc, za, yz, zi, yk, List.set_cons_zero, b9, yp, xj, zk0, decide_false, xo (k := k) (by omega), zy5 rs hk]
      exact ⟨_, junk rfl⟩
    · simp only [zc9]
      exact junk rfl
  · rintro st ⟨J, j, rfl⟩
    have h1 : ¬ ((rs.length : Nat) : Int) < rs.length := by omega
    simp only [ya, zs, w7, xe, zb, zu, yb, zm, zc, zp, zo, ze, zd, List.set_cons_succ, List.set_cons_zero, yx, yg, xr, y5, x9, zn, yc, za, yz, yk, zl, yu, z6, qq, xl, qx, xf, yi, zw, zr, Option.map_some, List.set_cons_zero, gf, qi, zbp, eq_self, x7, xj, h1, decide_false, List.take_length]
  · exact ⟨[], junk rfl⟩

/-! Two, three of them, just laid. -/
theorem Rels.last2 (h : Heap) (f g : Nat → U) : Rels (h ++ [.cells (relV f ++ relV g) 0 false]) (.slice (some ⟨h.length, 0, some 0⟩) 2 32) [f, g] :=
  Sl.last (rows := [relV f, relV g]) h (by simp) rfl (by simp [x7]) 0 false
theorem yex (h : Heap) (a0 : AObj) (L : Heap) (f g : Nat → U) : DF FF zcj [.slice (some ⟨h.length + 1, 0, some 0⟩) 2 32] (h ++ (a0 :: AObj.cells (relV f ++ relV g) 0 false :: L)) = some (agg (relV (zhg [f, g])), h ++ (a0 :: AObj.cells (relV f ++ relV g) 0 false :: L)) := by
  have := zng [f, g] _ _ ((Rels.last2 (h ++ [a0]) f g).more L) (by simp)
  simpa using this
theorem zt5 (h : Heap) (a0 a1 : AObj) (L : Heap) (f g : Nat → U) : DF FF zai [.slice (some ⟨h.length + 2, 0, some 0⟩) 2 32] (h ++ (a0 :: a1 :: AObj.cells (relV f ++ relV g) 0 false :: L)) = some (agg (relV (zbe [f, g])), h ++ (a0 :: a1 :: AObj.cells (relV f ++ relV g) 0 false :: L)) := by
  have := zln [f, g] _ _ ((Rels.last2 (h ++ [a0, a1]) f g).more L) (by simp)
  simpa using this
theorem ycn (h : Heap) (a0 a1 a2 a3 : AObj) (L : Heap) (f g : Nat → U) : DF FF zai [.slice (some ⟨h.length + 4, 0, some 0⟩) 2 32] (h ++ (a0 :: a1 :: a2 :: a3 :: AObj.cells (relV f ++ relV g) 0 false :: L)) = some (agg (relV (zbe [f, g])), h ++ (a0 :: a1 :: a2 :: a3 :: AObj.cells (relV f ++ relV g) 0 false :: L)) := by
  have := zln [f, g] _ _ ((Rels.last2 (h ++ [a0, a1, a2, a3]) f g).more L) (by simp)
  simpa using this
theorem yfi (h : Heap) (a0 a1 a2 a3 : AObj) (L : Heap) (f g : Nat → U) : DF FF zcj [.slice (some ⟨h.length + 4, 0, some 0⟩) 2 32] (h ++ (a0 :: a1 :: a2 :: a3 :: AObj.cells (relV f ++ relV g) 0 false :: L)) = some (agg (relV (zhg [f, g])), h ++ (a0 :: a1 :: a2 :: a3 :: AObj.cells (relV f ++ relV g) 0 false :: L)) := by
  have := zng [f, g] _ _ ((Rels.last2 (h ++ [a0, a1, a2, a3]) f g).more L) (by simp)
  simpa using this
theorem yft (h : Heap) (a0 a1 a2 a3 : AObj) (L : Heap) (f g : Nat → U) : DF FF zhw [.slice (some ⟨h.length + 4, 0, some 0⟩) 2 32] (h ++ (a0 :: a1 :: a2 :: a3 :: AObj.cells (relV f ++ relV g) 0 false :: L)) = some (agg (relV (seqK [f, g])), h ++ (a0 :: a1 :: a2 :: a3 :: AObj.cells (relV f ++ relV g) 0 false :: L)) := by
  have := zyn [f, g] _ _ ((Rels.last2 (h ++ [a0, a1, a2, a3]) f g).more L) (by simp)
  simpa using this
end Go.Proofs.YtljdbheclfaloaaGreatDoor.AM

namespace Go.Proofs.YtljdbheclfaloaaGreatDoor.AM
open Go.RowKit
set_option linter.unusedSimpArgs false
set_option linter.unusedVariables false

def yg8 (r : Nat → U) : Nat → Nat → Bool := fun a b => (r a).getLsbD b
def zhf (t : Nat → Nat → Bool) : Nat → Nat → Nat → Bool
  | 0 => t
  | k + 1 => fun a b => zhf t k a b || (zhf t k a k && zhf t k k b)
end Go.Proofs.YtljdbheclfaloaaGreatDoor.AM

namespace Go.Proofs.YtljdbheclfaloaaGreatDoor.AM
open Go.RowKit
set_option linter.unusedSimpArgs false
set_option linter.unusedVariables false

theorem zvn (u : U) (r : Nat → U) (h : Heap) : DF FF ziu [.int .u32 u.toNat, agg (relV r)] h = some (agg (relV (zbe [zgs r, idR u])), h) := by
  refine wg zve ?_
  simp only [znv, ya, xe, zb, yb, zm, zc, zp, zo, ze, zd, List.set_cons_succ, List.set_cons_zero, O_mv, yg, ye, List.map_cons, List.map_nil, xr, y5, w5, wo, yd, z8, xd, xi, List.cons_append, List.nil_append, List.length_cons, List.length_nil, Nat.reduceAdd, Nat.reduceSub, Nat.zero_add, zn, yc, za, slc, yq, w9, zl, yu, z6, qq, xl, qx, xf, yi, vc, vj, vo, zr, zh, zg, List.append_assoc, List.length_append, List.append_nil, Option.map_some, List.set_cons_zero, zh9, gf, qi, zbp, eq_self, yh, zt, x7, qy, zji, zhx, zt5]
theorem zru (u : U) (r : Nat → U) (h : Heap) : DF FF zho [.int .u32 u.toNat, agg (relV r)] h = some (agg (relV (zbe [r, idR u])), h) := by
  refine wg zsd ?_
  simp only [zk8, ya, xe, zb, yb, zm, zc, zp, zo, ze, zd, List.set_cons_succ, List.set_cons_zero, O_mv, yg, ye, List.map_cons, List.map_nil, xr, y5, w5, wo, yd, z8, xd, xi, List.cons_append, List.nil_append, List.length_cons, List.length_nil, Nat.reduceAdd, Nat.reduceSub, Nat.zero_add, zn, yc, za, slc, yq, w9, zl, yu, z6, qq, xl, qx, xf, yi, vc, vj, vo, zr, zh, zg, List.append_assoc, List.length_append, List.append_nil, Option.map_some, List.set_cons_zero, zh9, gf, qi, zbp, eq_self, yh, zt, zxy, zqx, x7, qy, zhx, zt5]
def zs5 (r : Nat → U) : Bool := zur (zhg [r, idR (BitVec.allOnes 32)])
theorem zec (r : Nat → U) (h : Heap) : DF FF pj [agg (relV r)] h = some (.bool (zs5 r), h) := by
  have key : ∀ H, DF FF zb8 [.int .u32 4294967295] H = some (agg (relV (idR (BitVec.allOnes 32))), H) := fun H => zhx (BitVec.allOnes 32) H
  refine wg zis ?_
  simp only [zd5, ya, xe, zb, yb, zm, zc, zp, zo, zf, ze, zd, List.set_cons_succ, List.set_cons_zero, O_mv, yg, ye, List.map_cons, List.map_nil, xr, y5, w5, wo, yd, z8, xd, xi, List.cons_append, List.nil_append, List.length_cons, List.length_nil, Nat.reduceSub, Nat.zero_add, zn, yc, za, slc, w9, xl, xf, zh, zg, List.append_assoc, List.length_append, List.append_nil, Option.map_some, List.set_cons_zero, zh9, eq_self, yh, zt, zxy, zqx, x7, qy, key, yex, zk2]
  rw [zfi _ _ _ _ _ rfl]
  rfl
def zt7 (r : Nat → U) : Bool := zs5 (zgs r)
theorem zox (r : Nat → U) (h : Heap) : DF FF ze1 [agg (relV r)] h = some (.bool (zt7 r), h) := by
  refine wg zo3 ?_
  simp only [zik, ya, xe, zb, yb, zm, zc, zo, zf, ze, zd, List.set_cons_succ, List.set_cons_zero, O_mv, yg, ye, List.map_cons, List.map_nil, xr, y5, List.cons_append, List.nil_append, List.length_cons, List.length_nil, Nat.reduceSub, Nat.zero_add, zn, yc, za, w9, xl, xf, zh, zg, Option.map_some, List.set_cons_zero, eq_self, yh, zt, x7, zji, zec]
  rw [zfi _ _ _ _ _ rfl]
  rfl
/-! Bits counted. -/
end Go.Proofs.YtljdbheclfaloaaGreatDoor.AM

namespace Go.Proofs.YtljdbheclfaloaaGreatDoor.AM
open Go.RowKit
set_option linter.unusedSimpArgs false
set_option linter.unusedVariables false

/-! Sets of events. -/
/-! Pairs. -/
end Go.Proofs.YtljdbheclfaloaaGreatDoor.AM

namespace Go.Proofs.YtljdbheclfaloaaGreatDoor.AM
open Go.RowKit
set_option linter.unusedSimpArgs false
set_option linter.unusedVariables false

abbrev Bt (r : Nat → U) (a b : Nat) : Prop := (r a).getLsbD b = true
theorem bool_iff {x y : Bool} : x = y ↔ (x = true ↔ y = true) := by cases x <;> cases y <;> simp
theorem yeh {f g : Nat → U} (h : ∀ a b, a < 32 → b < 32 → (Bt f a b ↔ Bt g a b)) : zmf f g = true :=
  sameR_iff.2 fun k hk => yeb fun i hi => bool_iff.2 (h k i hk hi)
theorem zhi {i : Nat} (hi : i < 32) : (BitVec.allOnes 32).getLsbD i = true := by rw [BitVec.getLsbD_allOnes]; simp [hi]
theorem yc7 (s : U) (a : Nat) {b : Nat} (hb : b < 32) : Bt (idR s) a b ↔ s.getLsbD b = true ∧ b = a := by
  unfold Bt idR; rw [BitVec.getLsbD_and, ygj hb, Bool.and_eq_true, decide_eq_true_eq]
theorem yac (s t : U) (a b : Nat) : Bt (zlr s t) a b ↔ s.getLsbD a = true ∧ t.getLsbD b = true := by
  unfold Bt zlr; cases h : s.getLsbD a <;> simp
theorem zwr (f g : Nat → U) (a : Nat) {b : Nat} (hb : b < 32) : Bt (zmu f g) a b ↔ Bt f a b ∧ ¬ Bt g a b := by
  unfold Bt zmu; rw [BitVec.getLsbD_and, BitVec.getLsbD_not]; simp [hb]
theorem ybk (rs : List (Nat → U)) (e : Nat) (x : U) (b : Nat) : ((rs.foldl (fun acc r => acc ||| r e) x).getLsbD b = true) ↔ (x.getLsbD b = true ∨ ∃ r ∈ rs, Bt r e b) := by
  induction rs generalizing x with
  | nil => simp
  | cons r rs ih =>
    rw [List.foldl_cons, ih, BitVec.getLsbD_or, Bool.or_eq_true]
    simp only [List.mem_cons, exists_eq_or_imp, or_assoc]
theorem zzy (rs : List (Nat → U)) (a b : Nat) : Bt (zbe rs) a b ↔ ∃ r ∈ rs, Bt r a b := by
  unfold Bt zbe; rw [ybk]; simp
theorem zx8 (rs : List (Nat → U)) (e : Nat) (x : U) (b : Nat) : ((rs.foldl (fun acc r => acc &&& r e) x).getLsbD b = true) ↔ (x.getLsbD b = true ∧ ∀ r ∈ rs, Bt r e b) := by
  induction rs generalizing x with
  | nil => simp
  | cons r rs ih =>
    rw [List.foldl_cons, ih, BitVec.getLsbD_and, Bool.and_eq_true]
    simp only [List.forall_mem_cons, and_assoc]
theorem yc2 (rs : List (Nat → U)) {a b : Nat} (ha : a < 32) (hb : b < 32) : Bt (zhg rs) a b ↔ ∀ r ∈ rs, Bt r a b := by
  unfold Bt zhg; rw [zx8]
  have : Bt (zlr (BitVec.allOnes 32) (BitVec.allOnes 32)) a b := (yac _ _ a b).2 ⟨zhi ha, zhi hb⟩
  exact ⟨fun h => h.2, fun h => ⟨this, h⟩⟩
theorem zyh (s : U) (r : Nat → U) (k b : Nat) : (zi6 s r k).getLsbD b = true ↔ ∃ e, e < k ∧ s.getLsbD e = true ∧ Bt r e b := by
  induction k with
  | zero => simp [zi6]
  | succ k ih =>
    rw [zi6]
    constructor
    · intro h
      split at h
      · rename_i hs
        rw [BitVec.getLsbD_or, Bool.or_eq_true, ih] at h
        rcases h with ⟨e, he, h1, h2⟩ | h
        · exact ⟨e, by omega, h1, h2⟩
        · exact ⟨k, by omega, hs, h⟩
      · obtain ⟨e, he, h1, h2⟩ := ih.1 h
        exact ⟨e, by omega, h1, h2⟩
    · rintro ⟨e, he, h1, h2⟩
      by_cases hk : e = k
      · subst hk; rw [if_pos h1, BitVec.getLsbD_or, Bool.or_eq_true]; exact .inr h2
      · have := ih.2 ⟨e, by omega, h1, h2⟩
        split
        · rw [BitVec.getLsbD_or, this]; rfl
        · exact this
theorem ybr (s : U) (r : Nat → U) (b : Nat) : (zz7 s r).getLsbD b = true ↔ ∃ e, e < 32 ∧ s.getLsbD e = true ∧ Bt r e b := zyh s r 32 b
theorem zoq (f g : Nat → U) (a b : Nat) : Bt (twoR f g) a b ↔ ∃ e, e < 32 ∧ Bt f a e ∧ Bt g e b := ybr _ _ _
theorem yfq (f : Nat → U) {a : Nat} (ha : a < 32) : twoR (idR (BitVec.allOnes 32)) f a = f a := by
  refine yeb fun i hi => bool_iff.2 ?_
  rw [show ((twoR (idR (BitVec.allOnes 32)) f a).getLsbD i = true) = Bt (twoR (idR (BitVec.allOnes 32)) f) a i from rfl, zoq]
  constructor
  · rintro ⟨e, he, h1, h2⟩
    rw [yc7 _ _ he] at h1
    rw [← h1.2]; exact h2
  · intro h
    exact ⟨a, ha, (yc7 _ _ ha).2 ⟨zhi ha, rfl⟩, h⟩
theorem zw7 {f f' g g' : Nat → U} {a : Nat} (ha : f a = f' a) (hg : ∀ e, e < 32 → g e = g' e) : twoR f g a = twoR f' g' a := by
  refine yeb fun i hi => bool_iff.2 ?_
  rw [show ((twoR f g a).getLsbD i = true) = Bt (twoR f g) a i from rfl, show ((twoR f' g' a).getLsbD i = true) = Bt (twoR f' g') a i from rfl, zoq, zoq]
  unfold Bt
  rw [ha]
  exact ⟨fun ⟨e, he, h1, h2⟩ => ⟨e, he, h1, by rw [← hg e he]; exact h2⟩, fun ⟨e, he, h1, h2⟩ => ⟨e, he, h1, by rw [hg e he]; exact h2⟩⟩
theorem ya3 (f g : Nat → U) {a : Nat} (ha : a < 32) (b : Nat) : Bt (seqK [f, g]) a b ↔ ∃ e, e < 32 ∧ Bt f a e ∧ Bt g e b := by
  have : seqK [f, g] a = twoR f g a := zw7 (yfq f ha) fun _ _ => rfl
  unfold Bt; rw [this]; exact zoq f g a b
theorem yav (r : Nat → U) (k : Nat) (hk : k ≤ 32) (b : Nat) {a : Nat} (ha : a < 32) : Bt (invK r k) b a ↔ a < k ∧ Bt r a b := by
  induction k with
  | zero => simp [invK, Bt]
  | succ k ih =>
    have ih := ih (by omega)
    unfold Bt at ih ⊢
    rw [invK]
    simp only
    by_cases hc : (r k).getLsbD b = true
    · rw [if_pos hc, BitVec.getLsbD_or, Bool.or_eq_true, ih, ygj ha, decide_eq_true_eq]
      constructor
      · rintro (⟨h1, h2⟩ | h)
        · exact ⟨by omega, h2⟩
        · subst h; exact ⟨by omega, hc⟩
      · rintro ⟨h1, h2⟩
        by_cases h : a = k
        · exact .inr h
        · exact .inl ⟨by omega, h2⟩
    · rw [if_neg hc, ih]
      constructor
      · rintro ⟨h1, h2⟩; exact ⟨by omega, h2⟩
      · rintro ⟨h1, h2⟩
        have : a ≠ k := by rintro rfl; exact hc h2
        exact ⟨by omega, h2⟩
theorem yef (r : Nat → U) (b : Nat) {a : Nat} (ha : a < 32) : Bt (invR r) b a ↔ Bt r a b := by
  unfold invR; rw [yav r 32 (Nat.le_refl _) b ha]; simp [ha]
theorem zoi (r : Nat → U) (k : Nat) (hk : k ≤ 32) (a b : Nat) : (zed r k a).getLsbD b = zhf (yg8 r) k a b := by
  induction k generalizing a b with
  | zero => rfl
  | succ k ih =>
    have ih := ih (by omega)
    rw [zed, zhf]
    simp only
    rw [← ih a b, ← ih a k, ← ih k b]
    split
    · rename_i h; rw [h, BitVec.getLsbD_or]; rfl
    · rename_i h; simp at h; rw [h]; simp

/-! The closure. -/
theorem ybh (t : Nat → Nat → Bool) (k : Nat) {a b : Nat} (h : t a b = true) : zhf t k a b = true := by
  induction k with
  | zero => exact h
  | succ k ih => rw [zhf]; simp only; rw [ih]; rfl
theorem zsa (t : Nat → Nat → Bool) (k : Nat) : ∀ a m b, m < k → zhf t k a m = true → zhf t k m b = true → zhf t k a b = true := by
  induction k with
  | zero => intro a m b h; omega
  | succ k ih =>
    intro a m b hm h1 h2
    rw [zhf] at h1 h2 ⊢
    simp only [Bool.or_eq_true, Bool.and_eq_true] at h1 h2 ⊢
    by_cases e : m = k
    · subst e
      have g1 : zhf t m a m = true := by
          rcases h1 with h | h
          · exact h
          · exact h.1
      have g2 : zhf t m m b = true := by
          rcases h2 with h | h
          · exact h
          · exact h.2
      exact .inr ⟨g1, g2⟩
    · have hmk : m < k := by omega
      rcases h1 with h1 | ⟨h1, h1'⟩
      · rcases h2 with h2 | ⟨h2, h2'⟩
        · exact .inl (ih a m b hmk h1 h2)
        · exact .inr ⟨ih a m k hmk h1 h2, h2'⟩
      · rcases h2 with h2 | ⟨h2, h2'⟩
        · exact .inr ⟨h1, ih k m b hmk h1' h2⟩
        · exact .inr ⟨h1, h2'⟩
theorem zsg (t : Nat → Nat → Bool) (S : Nat → Nat → Prop) (hs : ∀ a b, t a b = true → S a b) (k : Nat) (ht : ∀ a m b, m < k → S a m → S m b → S a b) : ∀ a b, zhf t k a b = true → S a b := by
  induction k with
  | zero => exact hs
  | succ k ih =>
    intro a b h
    have ih := ih fun a m b hm => ht a m b (by omega)
    rw [zhf] at h
    simp only [Bool.or_eq_true, Bool.and_eq_true] at h
    rcases h with h | ⟨h1, h2⟩
    · exact ih a b h
    · exact ht a k b (by omega) (ih a k h1) (ih k b h2)
theorem yep (r : Nat → U) {a b : Nat} (h : Bt r a b) : Bt (zgs r) a b := by
  unfold Bt zgs; rw [zoi r 32 (Nat.le_refl _)]; exact ybh _ _ h
theorem zwa (r : Nat → U) {a m b : Nat} (hm : m < 32) (h1 : Bt (zgs r) a m) (h2 : Bt (zgs r) m b) : Bt (zgs r) a b := by
  unfold Bt zgs at *; rw [zoi r 32 (Nat.le_refl _)] at *; exact zsa _ _ a m b hm h1 h2
theorem zvf (r : Nat → U) (S : Nat → Nat → Prop) (hs : ∀ a b, Bt r a b → S a b) (ht : ∀ a m b, m < 32 → S a m → S m b → S a b) {a b : Nat} (h : Bt (zgs r) a b) : S a b := by
  unfold Bt zgs at h; rw [zoi r 32 (Nat.le_refl _)] at h
  exact zsg _ S hs 32 ht a b h
theorem yfu (x : U) : (((x.toNat : Int) == 0) : Bool) = (x == 0#32) := u_eq x 0#32
end Go.Proofs.YtljdbheclfaloaaGreatDoor.AM
namespace Go.Proofs.YtljdbheclfaloaaGreatDoor.AM
open Go.RowKit
set_option linter.unusedSimpArgs false
set_option linter.unusedVariables false
set_option maxRecDepth 20000

structure Vv where
  s : U
  r : Nat → U
def v0 : Vv := ⟨0#32, fun _ => 0#32⟩
abbrev En := List (Bys × Bool × Vv)
def fr (w : Bys) : En → Option (Bool × Vv)
  | [] => none
  | (k, b, v) :: r => if w == k then some (b, v) else fr w r
def evU (u : U) (o : Op1) (v : Vv) : Vv := match o with
  | .plus => ⟨0#32, zgs v.r⟩
  | .star => ⟨0#32, zbe [zgs v.r, idR u]⟩
  | .maybe => ⟨0#32, zbe [v.r, idR u]⟩
  | .inv => ⟨0#32, invR v.r⟩
def evB (o : Op2) (a b : Vv) : Vv := match o with
  | .or => ⟨a.s ||| b.s, zbe [a.r, b.r]⟩
  | .and => ⟨a.s &&& b.s, zhg [a.r, b.r]⟩
  | .minus => ⟨a.s &&& ~~~ b.s, zmu a.r b.r⟩
  | .seq => ⟨0#32, seqK [a.r, b.r]⟩
  | .cross => ⟨0#32, zlr a.s b.s⟩
def evE (u : U) (env : En) : Ex → Vv
  | .name _ _ w => ((fr w env).map (·.2)).getD v0
  | .zero _ => v0
  | .par _ _ e => evE u env e
  | .box _ e => ⟨0#32, idR (evE u env e).s⟩
  | .un o e => evU u o (evE u env e)
  | .bin _ o l r => evB o (evE u env l) (evE u env r)
def Typ (kn : Kn) : Ex → Prop
  | .name s _ w => jg kn w = some s
  | .zero _ => True
  | .par s _ e => s = e.set ∧ Typ kn e
  | .box _ e => e.set = true ∧ Typ kn e
  | .un _ e => e.set = false ∧ Typ kn e
  | .bin s o l r => Typ kn l ∧ Typ kn r ∧ (match o with | .seq => l.set = false ∧ r.set = false | .cross => l.set = true ∧ r.set = true | _ => s = l.set ∧ r.set = l.set)
theorem ze5 {kn : Kn} {rc : List Bys} : ∀ {e e' : Ex} {rt : Bool}, chkE kn rc rt e = .ok e' → Typ kn e'
  | .name s a w, e', rt, h => by
    rw [chkE] at h
    split at h
    · cases h
    · rename_i t ht
      split at h
      · cases h
      · cases h; exact ht
  | .zero a, e', rt, h => by rw [chkE] at h; cases h; trivial
  | .par s a e, e', rt, h => by
    rw [chkE] at h
    split at h
    · cases h
    · rename_i x hx
      cases h; exact ⟨rfl, ze5 hx⟩
  | .box a e, e', rt, h => by
    rw [chkE] at h
    split at h
    · cases h
    · rename_i x hx
      split at h
      · rename_i hs; cases h; exact ⟨hs, ze5 hx⟩
      · cases h
  | .un o e, e', rt, h => by
    rw [chkE] at h
    split at h
    · cases h
    · rename_i x hx
      split at h
      · cases h
      · rename_i hs; cases h; exact ⟨by simpa using hs, ze5 hx⟩
  | .bin s o l r, e', rt, h => by
    rw [chkE] at h
    cases hl : chkE kn rc rt l with
    | bad c a => rw [hl] at h; cases h
    | ok l' =>
      rw [hl] at h
      simp only at h
      cases hr : chkE kn rc (rt || o == .minus) r with
      | bad c a => rw [hr] at h; cases h
      | ok r' =>
        rw [hr] at h
        have tl := ze5 hl
        have tr := ze5 hr
        cases o
        case seq =>
          simp only at h
          split at h
          · cases h
          · split at h
            · cases h
            · rename_i h1 h2; cases h; exact ⟨tl, tr, by simpa using h1, by simpa using h2⟩
        case cross =>
          simp only at h
          split at h
          · cases h
          · split at h
            · cases h
            · rename_i h1 h2; cases h; exact ⟨tl, tr, by simpa using h1, by simpa using h2⟩
        all_goals
          simp only at h
          split at h
          · cases h
          · rename_i h1; cases h; exact ⟨tl, tr, rfl, by simpa using h1⟩

/-! Bounds in memory. -/
def w8 (nm : Bys) (st : Bool) (v : Vv) : List Value := str nm :: .bool st :: .int .u32 (v.s.toNat : Int) :: relV v.r
theorem jz (nm : Bys) (st : Bool) (v : Vv) : (w8 nm st v).length = 35 := by simp [w8, x7]
theorem bd_0 (nm : Bys) (st : Bool) (v : Vv) : (w8 nm st v)[0]? = some (str nm) := rfl
theorem bd_1 (nm : Bys) (st : Bool) (v : Vv) : (w8 nm st v)[1]? = some (.bool st) := rfl
theorem bd_2 (nm : Bys) (st : Bool) (v : Vv) : (w8 nm st v)[2]? = some (.int .u32 (v.s.toNat : Int)) := rfl
theorem zy9 (nm : Bys) (st : Bool) (v : Vv) : ((w8 nm st v).drop 3).take 32 = relV v.r := by
  show (relV v.r).take 32 = relV v.r
  exact List.take_of_length_le (by rw [x7]; exact Nat.le_refl _)
theorem zu4 (nm : Bys) (st : Bool) (v : Vv) : (w8 nm st v).all plain1 = true := by
  have := znh v.r
  unfold w8
  rw [List.all_cons, List.all_cons, List.all_cons, this]; rfl
theorem fz : (str [] :: .bool false :: List.replicate 33 (.int .u32 0) : List Value) = w8 [] false v0 := by
  unfold w8
  rw [show List.replicate 33 (Value.int .u32 0) = .int .u32 0 :: List.replicate 32 (.int .u32 0) from rfl, qy]; rfl
theorem zi3 (nm nm' : Bys) (st : Bool) (v : Vv) : (w8 nm st v).set 0 (str nm') = w8 nm' st v := rfl
theorem zds (nm : Bys) (st st' : Bool) (v : Vv) : (w8 nm st v).set 1 (.bool st') = w8 nm st' v := rfl
theorem zzj (nm : Bys) (st : Bool) (v : Vv) (x : U) : (w8 nm st v).set 2 (.int .u32 (x.toNat : Int)) = w8 nm st ⟨x, v.r⟩ := rfl
theorem ye4 (nm : Bys) (st : Bool) (v : Vv) (L : Heap) : Heap.read (.cells (w8 nm st v) 0 false :: L) ⟨0, 3, some 0⟩ 32 = some (relV v.r) := by
  simp only [Heap.read, List.getElem?_cons_zero]
  rw [if_pos ⟨trivial, by rw [jz]; decide⟩, zy9]
theorem ya0 (nm : Bys) (st : Bool) (v : Vv) (r : Nat → U) (L : Heap) : Heap.write (.cells (w8 nm st v) 0 false :: L) ⟨0, 3, some 0⟩ (relV r) = some (.cells (w8 nm st ⟨v.s, r⟩) 0 false :: L) := by
  simp only [Heap.write, List.getElem?_cons_zero, List.set_cons_zero]
  rw [if_pos ⟨trivial, by rw [jz, x7]; decide⟩]
  have : splice (w8 nm st v) 3 (relV r) = w8 nm st ⟨v.s, r⟩ := by
    unfold splice
    rw [x7]
    show (str nm :: .bool st :: .int .u32 (v.s.toNat : Int) :: ([] ++ relV r ++ (relV v.r).drop 32)) = _
    rw [List.drop_eq_nil_of_le (by rw [x7]; exact Nat.le_refl _)]
    simp [w8]
  rw [this]
theorem zgz (h L : Heap) (nm : Bys) (st : Bool) (v : Vv) : outE h (h ++ L) (some (w8 nm st v)) = some (agg (w8 nm st v), h) := zny h L (zu4 nm st v)
theorem zy7 (f g : Nat → U) : zbg (List.replicate 32 .int) (relV f) (relV g) = some (zmf f g) := by
  have := zrc (zb3 32 f) (zb3 32 g) (by rw [bj, bj])
  rw [bj] at this
  have e : ∀ f : Nat → U, (zb3 32 f).map (fun x => Value.int .u32 (x.toNat : Int)) = relV f := fun f => by unfold relV zb3; rw [List.map_map]; rfl
  rw [e, e] at this
  exact this
def zqs (a b : Vv) : Bool := a.s == b.s && zmf a.r b.r
theorem yb6 (a b : Bys) : qv .str (str a) (str b) = some (a == b) := by
  show some ((⟨a.toArray⟩ : ByteArray) == ⟨b.toArray⟩) = _
  rw [zmd]
theorem yfw (h : Heap) (neg : Bool) (n1 n2 : Bys) (s1 s2 : Bool) (v1 v2 : Vv) : zkt h neg (.str :: .bool :: .int :: List.replicate 32 .int) (agg (w8 n1 s1 v1)) (agg (w8 n2 s2 v2)) = some (.bool ((n1 == n2 && (s1 == s2 && zqs v1 v2)) != neg), h) := by
  refine znc h (by rw [jz]; simp) (by rw [jz]; simp) ?_
  unfold w8 zqs
  rw [zbg, yb6]
  cases h1 : n1 == n2
  · simp
  · simp only [Bool.true_and]
    rw [zbg]
    simp only [qv]
    cases h2 : s1 == s2
    · simp
    · simp only [Bool.true_and]
      rw [zbg]
      simp only [qv, if_true]
      rw [u_eq]
      cases h3 : v1.s == v2.s
      · simp
      · simp only [Bool.true_and]
        exact zy7 _ _
end Go.Proofs.YtljdbheclfaloaaGreatDoor.AM
namespace Go.Proofs.YtljdbheclfaloaaGreatDoor.AM
open Go.RowKit
set_option linter.unusedSimpArgs false
set_option linter.unusedVariables false
set_option maxRecDepth 20000

theorem zu7 : ∀ (x X : List UInt8), remK x + 1 < x.length → remK (x ++ X) = remK x
  | [], X, h => by simp [remK] at h
  | [c], X, h => by simp [remK] at h
  | c :: d :: l, X, h => by
    rw [List.cons_append, List.cons_append, remK, remK]
    rw [remK] at h
    split
    · rfl
    · rename_i hc
      rw [if_neg hc] at h
      have := zu7 (d :: l) X (by simp at h ⊢; omega)
      rw [List.cons_append] at this
      rw [this]
theorem zsz {x y : UInt8} (hy : y ≠ 32) {X : List UInt8} (hX : zw2 X) (c : UInt8) (s : List UInt8) : [x, y].isPrefixOf (c :: s ++ X) = [x, y].isPrefixOf (c :: s) := by
  cases s with
  | nil =>
    rcases hX with rfl | ⟨Y, rfl⟩
    · rfl
    · simp [List.isPrefixOf]; intro _; exact hy
  | cons d s => simp [List.isPrefixOf]
theorem zrx {p : Int → Bool} (hp : p 32 = false) {X : List UInt8} (hX : zw2 X) : ∀ s : List UInt8, rowN p (s ++ X) = rowN p s
  | [] => by
    rcases hX with rfl | ⟨Y, rfl⟩
    · rfl
    · simp [rowN, hp]
  | c :: s => by rw [List.cons_append, rowN, rowN, zrx hp hX s]
theorem ydd (p : Int → Bool) : ∀ s : List UInt8, rowN p s ≤ s.length
  | [] => by simp [rowN]
  | c :: s => by have := ydd p s; rw [rowN]; split <;> simp <;> omega
theorem zqm {s : List UInt8} (hs : s ≠ []) {X : List UInt8} (hX : zw2 X) (h : zcb s ≠ .err) : zcb (s ++ X) = zcb s := by
  cases s with
  | nil => exact absurd rfl hs
  | cons c s =>
    rw [List.cons_append, zcb, zcb]
    rw [zcb] at h
    split
    · rfl
    · rename_i hb
      rw [if_neg hb] at h
      have := zsz (x := 40) (y := 42) (by decide) hX c s
      rw [List.cons_append] at this
      rw [this]
      split
      · rename_i h2
        rw [if_pos h2] at h
        have h3 : remK (s.drop 1) + 1 < (s.drop 1).length := by
          apply Classical.byContradiction; intro h3; rw [if_neg h3] at h; exact h rfl
        cases s with
        | nil => simp at h3
        | cons d s =>
          simp only [List.cons_append, List.drop_succ_cons, List.drop_zero] at h3 ⊢
          rw [zu7 s X h3, if_pos h3, if_pos (by simp; omega)]
      · rfl
theorem zyc {s : List UInt8} (hs : s ≠ []) {X : List UInt8} (hX : zw2 X) : zct (s ++ X) = zct s := by
  cases s with
  | nil => exact absurd rfl hs
  | cons c s =>
    have e1 := zsz (x := 47) (y := 92) (by decide) hX c s
    have e2 := zsz (x := 92) (y := 47) (by decide) hX c s
    have e3 := zrx (p := numB) (by decide) hX (c :: s)
    have e4 := zrx (p := namB) (by decide) hX (c :: s)
    have e5 : ((c :: s) ++ X).take (rowN numB (c :: s)) = (c :: s).take (rowN numB (c :: s)) := List.take_append_of_le_length (ydd _ _)
    rw [List.cons_append] at e1 e2 e3 e4 e5 ⊢
    rw [zct, zct, e1, e2, e3, e4, e5]
theorem zih {X : List UInt8} (hX : zw2 X) : ∀ (n : Nat) (s : List UInt8) (a : Nat) (m : List Tok), s.length ≤ n → k9 s a = .ok m → k9 (s ++ X) a = (k9 X (a + s.length)).pre m
  | 0, s, a, m, hn, h => by
    have : s = [] := List.eq_nil_of_length_eq_zero (by omega)
    subst this
    rw [zfz] at h; cases h
    simp only [List.nil_append, List.length_nil, Nat.add_zero]
    cases k9 X a <;> rfl
  | n + 1, s, a, m, hn, h => by
    by_cases hs : s = []
    · subst hs
      rw [zfz] at h; cases h
      simp only [List.nil_append, List.length_nil, Nat.add_zero]
      cases k9 X a <;> rfl
    · have hs' : s ++ X ≠ [] := by simp [hs]
      rw [zad hs] at h
      cases hk : zcb s with
      | err => rw [hk] at h; cases h
      | go k =>
        rw [hk] at h
        have hp := zd8 hk
        rw [zad hs', zqm hs hX (by rw [hk]; simp), hk]
        simp only
        rw [List.drop_append_of_le_length hp.2, zih hX n _ _ m (by simp; omega) h]
        congr 2; simp; omega
      | no =>
        rw [hk] at h
        rw [zad hs', zqm hs hX (by rw [hk]; simp), hk, zyc hs hX]
        cases hw : zct s with
        | bad c => rw [hw] at h; cases h
        | word kd k x =>
          rw [hw] at h
          have hp := zcv hw
          obtain ⟨m', h1, rfl⟩ := zwn h
          simp only
          rw [List.drop_append_of_le_length hp.2, List.take_append_of_le_length hp.2, zih hX n _ _ m' (by simp; omega) h1, Res.pre_pre]
          congr 2; simp; omega
def Tok.sh (d : Nat) (t : Tok) : Tok := ⟨t.kind, t.text, t.n, t.at_ + d⟩
def Res.sh (d : Nat) : Res → Res
  | .ok m => .ok (m.map (Tok.sh d))
  | .bad c a => .bad c (a + d)
theorem Res.sh_pre (d : Nat) (l : List Tok) (r : Res) : (r.pre l).sh d = (r.sh d).pre (l.map (Tok.sh d)) := by cases r <;> simp [Res.pre, Res.sh]
theorem zta (d : Nat) : ∀ (n : Nat) (s : List UInt8) (a : Nat), s.length ≤ n → k9 s (a + d) = (k9 s a).sh d
  | 0, s, a, hn => by
    have : s = [] := List.eq_nil_of_length_eq_zero (by omega)
    subst this; rfl
  | n + 1, s, a, hn => by
    by_cases hs : s = []
    · subst hs; rfl
    · rw [zad hs, zad hs]
      cases hk : zcb s with
      | err => rfl
      | go k =>
        have hp := zd8 hk
        simp only
        rw [← zta d n _ _ (by simp; omega)]
        congr 1; omega
      | no =>
        cases hw : zct s with
        | bad c => rfl
        | word kd k x =>
          have hp := zcv hw
          simp only
          rw [Res.sh_pre, ← zta d n _ _ (by simp; omega)]
          simp only [List.map_cons, List.map_nil, Tok.sh]
          congr 2; omega
theorem zqo (d : Nat) (R : List Tok) : ∀ m : List Tok, Behind R m (m.map (Tok.sh d) ++ R)
  | [] => rfl
  | t :: m => ⟨⟨rfl, rfl, rfl⟩, zqo d R m⟩
theorem zix (s : List UInt8) (a : Nat) : k9 (32 :: s) a = k9 s (a + 1) := by rw [zad (by simp)]; rfl
/-! Names and kinds at other places. -/
theorem Ex.er_set (e : Ex) : e.er.set = e.set := by cases e <;> rfl
theorem zk1 (u : U) (env : En) : ∀ e : Ex, evE u env e.er = evE u env e
  | .name _ _ _ => rfl
  | .zero _ => rfl
  | .par _ _ e => zk1 u env e
  | .box _ e => by simp only [Ex.er, evE, zk1 u env e]
  | .un _ e => by simp only [Ex.er, evE, zk1 u env e]
  | .bin _ _ l r => by simp only [Ex.er, evE, zk1 u env l, zk1 u env r]
theorem zzn {u : U} {env : En} {x x' : Ex} (h : x'.er = x.er) : evE u env x' = evE u env x ∧ x'.set = x.set := by
  rw [← zk1, ← zk1 u env x, ← Ex.er_set, ← Ex.er_set x, h]; exact ⟨rfl, rfl⟩
theorem zi0 {kn : Kn} {rc : List Bys} : ∀ {x x' y : Ex} {rt : Bool}, x'.er = x.er → chkE kn rc rt x = .ok y → ∃ y', chkE kn rc rt x' = .ok y' ∧ y'.er = y.er
  | .name s a w, x', y, rt, h, hy => by
    cases x' <;> simp only [Ex.er, Ex.name.injEq, reduceCtorEq] at h
    obtain ⟨rfl, _, rfl⟩ := h
    rw [chkE] at hy ⊢
    split at hy
    · cases hy
    · rename_i t ht
      split at hy
      · cases hy
      · rename_i hc
        cases hy; rw [if_neg hc]; exact ⟨_, rfl, rfl⟩
  | .zero a, x', y, rt, h, hy => by
    cases x' <;> simp only [Ex.er, reduceCtorEq] at h
    rw [chkE] at hy ⊢; cases hy; exact ⟨_, rfl, rfl⟩
  | .par s a e, x', y, rt, h, hy => by
    cases x' <;> simp only [Ex.er, Ex.par.injEq, reduceCtorEq] at h
    obtain ⟨rfl, _, h⟩ := h
    rw [chkE] at hy ⊢
    split at hy
    · cases hy
    · rename_i z hz
      obtain ⟨z', h1, h2⟩ := zi0 h hz
      cases hy; rw [h1]
      exact ⟨_, rfl, by simp only [Ex.er, h2]; rw [← Ex.er_set, h2, Ex.er_set]⟩
  | .box a e, x', y, rt, h, hy => by
    cases x' <;> simp only [Ex.er, Ex.box.injEq, reduceCtorEq] at h
    obtain ⟨_, h⟩ := h
    rw [chkE] at hy ⊢
    split at hy
    · cases hy
    · rename_i z hz
      obtain ⟨z', h1, h2⟩ := zi0 h hz
      have hs : z'.set = z.set := by rw [← Ex.er_set, h2, Ex.er_set]
      rw [h1]; simp only [hs]
      split at hy
      · rename_i hc
        cases hy; rw [if_pos hc]; exact ⟨_, rfl, by simp only [Ex.er, h2]⟩
      · cases hy
  | .un o e, x', y, rt, h, hy => by
    cases x' <;> simp only [Ex.er, Ex.un.injEq, reduceCtorEq] at h
    obtain ⟨rfl, h⟩ := h
    rw [chkE] at hy ⊢
    split at hy
    · cases hy
    · rename_i z hz
      obtain ⟨z', h1, h2⟩ := zi0 h hz
      have hs : z'.set = z.set := by rw [← Ex.er_set, h2, Ex.er_set]
      rw [h1]; simp only [hs]
      split at hy
      · cases hy
      · rename_i hc
        cases hy; rw [if_neg hc]; exact ⟨_, rfl, by simp only [Ex.er, h2]⟩
  | .bin s o l r, x', y, rt, h, hy => by
    cases x' <;> simp only [Ex.er, Ex.bin.injEq, reduceCtorEq] at h
    obtain ⟨e1, e2, hl, hr⟩ := h
    rw [e1, e2]
    rw [chkE] at hy ⊢
    cases hL : chkE kn rc rt l with
    | bad c a => rw [hL] at hy; cases hy
    | ok l1 =>
      rw [hL] at hy
      simp only at hy
      cases hR : chkE kn rc (rt || o == .minus) r with
      | bad c a => rw [hR] at hy; cases hy
      | ok r1 =>
        rw [hR] at hy
        obtain ⟨l2, h1, h2⟩ := zi0 hl hL
        obtain ⟨r2, h3, h4⟩ := zi0 hr hR
        have hs1 : l2.set = l1.set := by rw [← Ex.er_set, h2, Ex.er_set]
        have hs2 : r2.set = r1.set := by rw [← Ex.er_set, h4, Ex.er_set]
        rw [h1]; simp only [h3, hs1, hs2]
        cases o <;> simp only at hy ⊢ <;> split at hy <;> rename_i hc <;> first | (cases hy; done) | skip
        all_goals first
          | (cases hy; rw [if_neg hc]; exact ⟨_, rfl, by simp only [Ex.er, h2, h4]⟩)
          | (split at hy <;> rename_i hc2 <;> first | (cases hy; done) | (cases hy; rw [if_neg hc, if_neg hc2]; exact ⟨_, rfl, by simp only [Ex.er, h2, h4]⟩))
end Go.Proofs.YtljdbheclfaloaaGreatDoor.AM
namespace Go.Proofs.YtljdbheclfaloaaGreatDoor.AM
open Go.RowKit
set_option linter.unusedSimpArgs false
set_option linter.unusedVariables false

/-! Lists of strings. -/
def zfb (s : Bys) : List Value := [str s]
theorem yed (l : List Bys) (w : Bys) : ∀ k, k < l.idxOf w → (hk : k < l.length) → (w == l[k]) = false := by
  induction l with
  | nil => intro k h; simp at h
  | cons a l ih =>
    intro k h hk
    rw [List.idxOf_cons] at h
    by_cases ha : (a == w) = true
    · rw [ha] at h; simp at h
    · have ha := Bool.not_eq_true _ |>.mp ha
      rw [ha] at h
      cases k with
      | zero => rw [List.getElem_cons_zero]; rw [Bool.eq_false_iff] at *; intro h'; exact ha (by simpa using (by simpa using h' : w = a).symm)
      | succ k => rw [List.getElem_cons_succ]; exact ih k (by simpa using h) (by simpa using hk)
theorem zoa (l : List Bys) (w : Bys) {h : Heap} {s : Value} (e : Sl h s 1 (l.map zfb)) (hl : l.length < 4611686018427387904) : DF FF ge [s, str w] h = some (.int .i64 (if l.contains w then (l.idxOf w : Nat) else -1), h) := by
  refine wg zb6 ?_
  have ln : ∀ K, lenO K s = some (.int .i64 (l.length : Int), K) := fun K => by rw [e.len, List.length_map]
  have hle : l.idxOf w ≤ l.length := List.idxOf_le_length
  simp only [bu, ya, zb, yb, zm, zc, zo, zf, ze, zd, List.set_cons_succ, List.set_cons_zero, O_mv, j6, List.cons_append, List.nil_append, List.length_cons, List.length_nil, Nat.reduceAdd, Nat.reduceSub, Nat.zero_add, zn, yc, zz, za, zh, zg, ln]
  refine zaq (l.idxOf w) (fun k st => ∃ (j : Nat → Value), st = ⟨[s, str w, j 2, j 3, j 4, j 5, j 6, .int .i64 (l.length : Int), .int .i64 (k : Int), j 9, j 10, j 11, j 12, j 13, j 14, j 15, j 16, j 17, j 18], h⟩) ?_ ?_ _ ?_
  · rintro k st hk ⟨j, rfl⟩
    have h1 : ((k : Int) < (l.length : Int)) = True := by simp; omega
    have hkl : k < l.length := by omega
    obtain ⟨b, o, v, a1, a2⟩ := e.atH (k := k) (by simpa using hkl)
    have a2 := zf1 a2 (x := str l[k]) (by simp [zfb])
    have hne := yed l w k hk hkl
    simp only [ya, zs, yl, zb, zx, zu, yb, zm, zc, zo, zf, ze, zd, List.set_cons_succ, List.set_cons_zero, O_mv, yx, yg, ve, zy, zk, vw, x9, zn, yc, zz, za, zi, yp, va, decide_true, h1, decide_true, a1, a2, hne, xo (k := k) (by omega)]
    exact junk rfl
  · rintro st ⟨j, rfl⟩
    by_cases hm : w ∈ l
    · have hlt : l.idxOf w < l.length := List.idxOf_lt_length_of_mem hm
      have hc : l.contains w = true := by simpa using hm
      have h1 : (((l.idxOf w : Nat) : Int) < (l.length : Int)) = True := by simp; omega
      obtain ⟨b, o, v, a1, a2⟩ := e.atH (k := l.idxOf w) (by simpa using hlt)
      have a2 := zf1 a2 (x := str w) (by simp [zfb, List.getElem_idxOf])
      simp only [ya, zs, xe, yl, zb, zx, yb, zm, zc, zo, ze, zd, List.set_cons_succ, List.set_cons_zero, O_mv, yx, yg, ve, zy, zk, x9, zn, yc, zz, za, y6, wd, zc7, beq_self_eq_true, eq_self, zdt, va, decide_true, h1, decide_true, a1, a2, hc, if_true]
    · have hc : l.contains w = false := by simpa using hm
      have hlt : l.idxOf w = l.length := List.idxOf_eq_length hm
      have h1 : (((l.idxOf w : Nat) : Int) < (l.length : Int)) = False := by simp; omega
      simp only [ya, zs, w7, xe, zb, zu, yb, zm, zc, zo, zf, ze, zd, List.set_cons_succ, List.set_cons_zero, O_mv, yx, yg, x9, zn, yc, za, yz, yk, zc7, eq_self, xj, decide_false, h1, decide_false, hc, Bool.false_eq_true, if_false]
  · exact junk rfl
theorem znn (l : List Bys) (w : Bys) {h : Heap} {s : Value} (e : Sl h s 1 (l.map zfb)) (hl : l.length < 4611686018427387904) : DF FF qe [s, str w] h = some (.bool (l.contains w), h) := by
  refine wg zbj ?_
  have := zoa l w e hl
  cases hc : l.contains w
  · rw [hc] at this
    simp only [jy, ya, xe, zb, yb, zm, zc, zo, zf, ze, zd, List.set_cons_succ, List.set_cons_zero, O_mv, yx, yg, ye, List.map_cons, List.map_nil, zcw, List.cons_append, List.nil_append, List.length_cons, List.length_nil, Nat.reduceAdd, Nat.reduceSub, Nat.zero_add, zn, yc, za, zc7, zh, zg, Int.reduceLE, eq_self, decide_false, this, Bool.false_eq_true, if_false]; all_goals rfl
  · rw [hc] at this
    simp only [jy, ya, xe, zb, yb, zm, zc, zo, zf, ze, zd, List.set_cons_succ, List.set_cons_zero, O_mv, yx, yg, ye, List.map_cons, List.map_nil, zcw, List.cons_append, List.nil_append, List.length_cons, List.length_nil, Nat.reduceAdd, Nat.reduceSub, Nat.zero_add, zn, yc, za, zc7, zh, zg, eq_self, decide_true, this, if_true, show (0 : Int) ≤ ((l.idxOf w : Nat) : Int) from Int.natCast_nonneg _, decide_true]
theorem zce (w : Bys) (h : Heap) : DF FF zaa [str w] h = some (.bool (kwL.contains w), h) := by
  refine wg zmm ?_
  have e : Sl (h ++ [.cells [str wLet, str wRec, str wAnd, str zab, str wIrr, str zd9, str wAs] 0 false]) (.slice (some ⟨h.length, 0, some 0⟩) 7 1) 1 (kwL.map zfb) := Sl.last h (by rfl) (by rfl) (by intro r hr; simp [kwL, zfb] at hr; rcases hr with rfl | rfl | rfl | rfl | rfl | rfl | rfl <;> rfl) 0 false
  have c := znn kwL w e (by decide)
  unfold wLet wRec wAnd zab wIrr zd9 wAs at c
  simp only [zgx, ya, xe, zb, yb, zm, zc, zo, zf, ze, zd, List.set_cons_succ, List.set_cons_zero, O_mv, ye, List.map_cons, List.map_nil, w5, wo, yd, z8, xd, xi, yy, Nat.lt_add_one, Nat.zero_lt_succ, Nat.reduceLT, List.cons_append, List.nil_append, List.length_cons, List.length_nil, Nat.reduceAdd, Nat.reduceSub, Nat.zero_add, zn, yc, za, slc, zh, zg, List.append_nil, yj, wm, c]
  rw [zj5 ((Pre.refl h).more _) _ _ _ rfl]; rfl
/-! A function that answers a row of cells and one more. -/
theorem zun (h H : Heap) (i n j : Nat) (t : List Value) (q : Value × Heap) : retQ h [.cells i n, .tmp j] (some q) .ret ⟨t, H⟩ = zi7 (fun v h' => some (v, h') = some q) h H n (t.getD j undef) (t.getD i undef) := by
  rw [← zhs]
  unfold retQ retE
  apply propext
  constructor
  · intro e; exact ⟨q.1, q.2, e, rfl⟩
  · rintro ⟨v, h', e, r⟩; rw [e]; exact r
theorem zaj (h H : Heap) (v : Value) : AM.finish h v H = H ∨ (AM.finish h v H = h ∧ H.take h.length = h) := by
  unfold AM.finish; split
  · rename_i hc; exact .inr ⟨rfl, hc.2⟩
  · exact .inl rfl
theorem zt4 (h L : Heap) (t : Tok) (b : Bool) : AM.finish h (tup [agg (vp t), .bool b]) (h ++ L) = h := g9 h L rfl
section
variable {P : RP} {h : Heap} {i d x a : Nat}
theorem ztx (e : Rd P h i d x a) : DF FF bv [pt P.c] h = some (tup [agg (vp (y4 P i)), .bool (decide (i < P.L.length))], h) := by
  refine wg zic ?_
  have hi := e.le
  by_cases hlt : i < P.L.length
  · have c1 : ((i : Int) == (P.L.length : Int)) = false := by simp; omega
    obtain ⟨b, o, v, q1, q2⟩ := e.tokc hlt
    simp only [zaz, ya, zs, xe, yl, zb, zu, yb, zm, zc, zp, zo, zf, ze, zd, List.set_cons_succ, List.set_cons_zero, O_mv, yx, yg, j6, ve, zy, zk, xr, y5, ko, List.cons_append, List.nil_append, List.length_cons, List.length_nil, Nat.reduceAdd, Nat.reduceSub, Nat.zero_add, zn, yc, za, yq, xb, z7, zl, yu, z6, zq, zj, xl, xf, yi, zw, zr, zh, zg, Nat.add_zero, Option.map_some, List.getElem?_cons_zero, List.getElem?_cons_succ, pa, zan, eq_self, yj, Option.map_some, decide_true, xk, e.c1, e.cl, c1, q1, q2, zun, pa, zan, zt4, hlt, decide_true]
  · have c1 : ((i : Int) == (P.L.length : Int)) = true := by simp; omega
    rw [j1 hlt]
    simp only [zaz, ya, zs, xe, zb, zx, yb, zm, zc, zp, zo, zf, ze, zd, List.set_cons_succ, List.set_cons_zero, O_mv, yx, yg, j6, zy, zk, x8, y9, yd, yy, ko, List.cons_append, List.nil_append, List.length_cons, List.length_nil, Nat.reduceAdd, Nat.reduceSub, Nat.zero_add, zn, yc, za, y6, yq, xb, z7, zl, yu, z6, zq, zj, xl, xf, yi, zw, zr, zh, zg, Nat.add_zero, List.getElem?_cons_zero, List.getElem?_cons_succ, pa, zan, eq_self, yj, decide_false, e.c1, e.cl, c1, zun, pa, zan, hlt, decide_false]
    have := zt4 h [.cells (vp zmh) 0 false] zmh false
    unfold zmh vp at this
    simp only [Int.cast_ofNat_Int] at this
    unfold zmh vp
    rw [Int.cast_ofNat_Int, this]
def atV (P : RP) (i : Nat) : Int := if i < P.L.length then ((y4 P i).at_ : Int) else if P.L.length = 0 then 0 else IntKind.i64.wrap (((y4 P (P.L.length - 1)).at_ : Int) + ((y4 P (P.L.length - 1)).text.length : Int))
theorem at_c (e : Rd P h i d x a) : DF FF bf [pt P.c] h = some (.int .i64 (atV P i), h) := by
  refine wg zka ?_
  have hp := P.len
  unfold atV
  by_cases hlt : i < P.L.length
  · rw [if_pos hlt]
    simp only [zae, ya, zs, xe, zb, zx, yb, zm, zc, zp, zo, zf, ze, zd, List.set_cons_succ, List.set_cons_zero, O_mv, yg, ye, List.map_cons, List.map_nil, zy, zk, List.cons_append, List.nil_append, List.length_cons, List.length_nil, Nat.reduceAdd, Nat.reduceSub, Nat.zero_add, zn, yc, za, y6, yq, xb, z7, xh, y7, zl, yu, z6, yr, yo, yi, zw, zr, zh, zg, List.getElem?_cons_zero, List.getElem?_cons_succ, eq_self, yj, decide_true, xk, zt6, ztx e, hlt, decide_true]
    rw [zj5 ((Pre.refl h).more _) _ _ _ rfl]; simp only [ze, zd, eq_self]
  · rw [if_neg hlt]
    by_cases h0 : P.L.length = 0
    · rw [if_pos h0]
      have c1 : (((P.L.length : Nat) : Int) == 0) = true := beq_iff_eq.2 (by omega)
      simp only [zae, ya, zs, xe, yl, zb, zx, zu, yb, zm, zc, zp, zo, zf, ze, zd, List.set_cons_succ, List.set_cons_zero, O_mv, yx, yg, ye, List.map_cons, List.map_nil, j6, zy, zk, ko, List.cons_append, List.nil_append, List.length_cons, List.length_nil, Nat.reduceAdd, Nat.reduceSub, Nat.zero_add, zn, yc, za, y6, yq, xb, z7, xh, y7, zl, yu, z6, zq, zj, yi, zw, zr, zh, zg, Nat.add_zero, List.getElem?_cons_zero, List.getElem?_cons_succ, eq_self, yj, decide_false, xk, ztx e, hlt, decide_false, e.c1, e.cl, c1]
      rw [zj5 ((Pre.refl h).more _) _ _ _ rfl]; simp only [ze, zd, eq_self]
    · rw [if_neg h0]
      have c1 : (((P.L.length : Nat) : Int) == 0) = false := beq_eq_false_iff_ne.2 (by omega)
      have w1 : IntKind.i64.wrap ((P.L.length : Int) - 1) = ((P.L.length - 1 : Nat) : Int) := by rw [zf9 (by unfold W; omega)]; omega
      obtain ⟨b, o, v, q1, q2⟩ := e.tokc (k := P.L.length - 1) (by omega)
      simp only [zae, ya, zs, xe, yl, zb, zu, yb, zm, zc, zp, zo, zf, ze, zd, List.set_cons_succ, List.set_cons_zero, O_mv, yx, yg, ye, List.map_cons, List.map_nil, j6, ve, zy, zk, xr, y5, vw, ztl, ko, List.cons_append, List.nil_append, List.length_cons, List.length_nil, Nat.reduceAdd, Nat.reduceSub, Nat.zero_add, zn, yc, za, yq, xb, z7, xh, y7, zl, yu, z6, zq, zj, fp, bn, yo, yi, vc, vj, zw, vo, zr, zh, zg, List.append_assoc, List.length_append, Nat.add_zero, Option.map_some, List.getElem?_cons_zero, List.getElem?_cons_succ, eq_self, yj, wh, xa, Option.map_some, decide_false, xk, jf, zt6, ztx e, hlt, decide_false, e.c1, e.cl, c1, w1, q1, q2, xa]
      rw [zj5 ((Pre.refl h).more _) _ _ _ rfl]; simp only [ze, zd, eq_self]
theorem zh7 (e : Rd P h i d x a) (hlt : i < P.L.length) : ∃ h', DF FF wx [pt P.c] h = some (tup [agg (vp (y4 P i)), .bool true], h') ∧ Rd P h' (i + 1) d x a ∧ Mv P h h' := by
  have hp := P.len
  have : ∃ v h', DF FF wx [pt P.c] h = some (v, h') ∧ (v = tup [agg (vp (y4 P i)), .bool true] ∧ Rd P h' (i + 1) d x a ∧ Mv P h h') := by
    refine ww zie ?_
    obtain ⟨e2, m2⟩ := e.setC (i' := i + 1) hlt
    have w1 : ∀ L y, Heap.write1 (h ++ L) ⟨P.c, 1, some 0⟩ y = some ((h.set P.c (.cells [P.cs, y] 0 false)) ++ L) := fun L y => by
      rw [ph (y8 L e.hc) (by simp), List.set_append_left _ _ e.lc]; rfl
    have rl : ∀ L j v, Heap.read1 (h.set P.c (.cells [P.cs, .int .i64 ((i + 1 : Nat) : Int)] 0 false) ++ L) ⟨h.length, j, v⟩ = Heap.read1 L ⟨0, j, v⟩ := fun L j v => by
      have := yr (h.set P.c (.cells [P.cs, .int .i64 ((i + 1 : Nat) : Int)] 0 false)) L j v
      rwa [List.length_set] at this
    have rl2 : ∀ L k j v n, Heap.read (h.set P.c (.cells [P.cs, .int .i64 ((i + 1 : Nat) : Int)] 0 false) ++ L) ⟨h.length + k, j, v⟩ n = Heap.read L ⟨k, j, v⟩ n := fun L k j v n => by
      have := qq (h.set P.c (.cells [P.cs, .int .i64 ((i + 1 : Nat) : Int)] 0 false)) L k j v n
      rwa [List.length_set] at this
    have wl : ∀ L j v xs, Heap.write (h.set P.c (.cells [P.cs, .int .i64 ((i + 1 : Nat) : Int)] 0 false) ++ L) ⟨h.length, j, v⟩ xs = preO (h.set P.c (.cells [P.cs, .int .i64 ((i + 1 : Nat) : Int)] 0 false)) (Heap.write L ⟨0, j, v⟩ xs) := fun L j v xs => by
      have := zw (h.set P.c (.cells [P.cs, .int .i64 ((i + 1 : Nat) : Int)] 0 false)) L j v xs
      rwa [List.length_set] at this
    have rl3 : ∀ L j v n, Heap.read (h.set P.c (.cells [P.cs, .int .i64 ((i + 1 : Nat) : Int)] 0 false) ++ L) ⟨h.length, j, v⟩ n = Heap.read L ⟨0, j, v⟩ n := fun L j v n => rl2 L 0 j v n
    simp only [zdi, ya, zs, xe, zb, zx, yb, zm, zc, zp, zo, zf, ze, zd, List.set_cons_succ, List.set_cons_zero, O_mv, yx, yg, ye, List.map_cons, List.map_nil, zy, zk, xr, y5, vw, List.cons_append, List.nil_append, List.length_cons, List.length_nil, Nat.reduceAdd, Nat.reduceSub, Nat.zero_add, zn, yc, za, yq, xb, z7, xh, y7, zl, xc, xx, yu, z6, zq, zj, qx, xf, yi, vc, vj, vo, zr, zh, zg, List.append_assoc, List.length_append, Option.map_some, List.getElem?_cons_zero, List.getElem?_cons_succ, zhs, pa, zan, eq_self, yj, Option.map_some, decide_true, xk, ztx (e.more _), hlt, decide_true, e.c1, xo (k := i) (by omega), w1, rl2, rl3, wl, zhs, pa, zan]
    refine ⟨trivial, ?_⟩
    rcases zaj h (h.set P.c (.cells [P.cs, .int .i64 ((i + 1 : Nat) : Int)] 0 false) ++ [.cells (vp (y4 P i)) 0 false, .cells (vp (y4 P i)) 0 false]) (tup [agg (vp (y4 P i)), .bool true]) with hf | ⟨hf, hk⟩
    · rw [hf]; exact ⟨e2.more _, m2.more _⟩
    · exfalso
      have h1 := e.hc
      rw [← hk, List.take_append_of_le_length (by simp), List.take_of_length_le (by simp), e2.hc] at h1
      simp at h1; omega
  obtain ⟨v, h', q, rfl, r⟩ := this
  exact ⟨h', q, r⟩
end
end Go.Proofs.YtljdbheclfaloaaGreatDoor.AM
namespace Go.Proofs.YtljdbheclfaloaaGreatDoor.AM
open Go.RowKit
set_option linter.unusedSimpArgs false
set_option linter.unusedVariables false

theorem zfa {F : Funcs} (b : pz) (s : St) (Q : AEx → St → Prop) : WPD (D F (.loop b) s) Q = WPD (D F b s) (yai F (.loop b) Q) := by
  rw [yd5]; unfold WPD; apply propext
  constructor
  · rintro ⟨x, s', h, q⟩
    cases ha : D F b s with
    | none => rw [ha] at h; cases h
    | some p =>
      obtain ⟨y, u⟩ := p
      rw [ha] at h
      refine ⟨y, u, rfl, ?_⟩
      cases y with
      | normal => exact ⟨x, s', h, q⟩
      | exit j => cases h; exact q
      | ret => cases h; exact q
  · rintro ⟨y, u, ha, q⟩
    rw [ha]
    cases y with
    | normal => exact q
    | exit j => exact ⟨_, _, rfl, q⟩
    | ret => exact ⟨_, _, rfl, q⟩
theorem Rd.fin {P : RP} {h H : Heap} {i d x a i' d' x' a' : Nat} (e : Rd P h i d x a) (e' : Rd P H i' d' x' a') (m : Mv P h H) (v : Value) (hne : i ≠ i' ∨ d ≠ d' ∨ x ≠ x' ∨ a ≠ a') : AM.finish h v H = H := by
  rcases zaj h H v with hf | ⟨hf, hk⟩
  · exact hf
  · exfalso
    have hg : ∀ b o, h[b]? = some o → H[b]? = some o := fun b o hb => by
      rw [← hk] at hb
      have hlt := (List.getElem?_eq_some_iff.1 hb).1
      rw [List.getElem?_take] at hb
      split at hb
      · exact hb
      · cases hb
    have h1 := hg _ _ e.hr
    have h2 := hg _ _ e.hc
    rw [e'.hr] at h1
    rw [e'.hc] at h2
    simp at h1 h2
    omega
section
variable {P : RP} {h : Heap} {i d x a : Nat}
theorem zeu : keyT zmh = [] := rfl
theorem zh8 (e : Rd P h i d x a) {s : Value} {m : Bys} (hm : m ≠ []) (hs : Sl h s 1 [[str m]]) : ∃ h', DF FF w6 [pt P.c, s] h = some (.bool (keyT (y4 P i) == m), h') ∧ Rd P h' (if keyT (y4 P i) == m then i + 1 else i) d x a ∧ Mv P h h' := by
  have hp := P.len
  have hi := e.le
  have ln : ∀ K, lenO K s = some (.int .i64 1, K) := fun K => hs.len K
  have hge : ∀ k : Nat, ((1 : Int) > ((P.L.length - k : Nat) : Int)) = (P.L.length ≤ k) := fun k => by apply propext; omega
  by_cases hlt : i < P.L.length
  · obtain ⟨b, o, v, q1, q2⟩ := e.tokc hlt
    obtain ⟨b', o', v', p1, p2⟩ := hs.at (k := 0) (by simp)
    have p2' : ∀ L, Heap.read1 (h ++ L) ⟨b', o', some v'⟩ = some (str m) := fun L => zf1 (p2 L) rfl
    have p0 : Heap.read1 h ⟨b', o', some v'⟩ = some (str m) := by have := p2' []; rwa [List.append_nil] at this
    have q0 : Heap.read h ⟨b, o, some v⟩ 4 = some (vp (y4 P i)) := by have := q2 []; rwa [List.append_nil] at this
    have c1 : (((P.L.length - i : Nat) : Int) < 1) = False := by simp; omega
    simp only [Int.cast_ofNat_Int] at p1
    have w0 : IntKind.i64.wrap ((i : Int) + 0) = (i : Int) := by rw [zf9 (by unfold W; omega)]; omega
    have w1 : IntKind.i64.wrap ((i : Int) + 1) = ((i + 1 : Nat) : Int) := xo (by omega)
    obtain ⟨e2, m2⟩ := e.setC (i' := i + 1) hlt
    have wc : ∀ L y, Heap.write1 (h ++ L) ⟨P.c, 1, some 0⟩ y = some ((h.set P.c (.cells [P.cs, y] 0 false)) ++ L) := fun L y => by
      rw [ph (y8 L e.hc) (by simp), List.set_append_left _ _ e.lc]; rfl
    cases hk : keyT (y4 P i) == m
    · have hkk : ((y4 P i).text != m) = true ∨ ((y4 P i).text != m) = false ∧ (((y4 P i).kind : Int) == 2) = true := by
        unfold keyT at hk
        by_cases h2 : (y4 P i).kind = 2
        · cases ht : (y4 P i).text != m
          · exact .inr ⟨rfl, beq_iff_eq.2 (by omega)⟩
          · exact .inl rfl
        · rw [if_neg h2] at hk; left; rw [bne, hk]; rfl
      refine ⟨h, ?_, by rw [if_neg Bool.false_ne_true]; exact e, Mv.refl P h⟩
      refine wg zav ?_
      rcases hkk with hkk | ⟨hkk, h2⟩
      · simp only [gv, ya, zs, xe, yl, zb, zx, zu, yb, zm, yf, zc, zp, wk, zo, zf, ze, zd, List.set_cons_succ, List.set_cons_zero, O_mv, y0, xg, yx, yg, ye, List.map_cons, List.map_nil, j6, ve, zy, zk, xr, y5, vw, x9, zba, List.cons_append, List.nil_append, List.length_cons, List.length_nil, Nat.reduceAdd, Nat.reduceSub, Nat.zero_add, zn, yc, zz, za, y6, wd, yq, xb, z7, zl, yu, z6, zq, zj, yr, yo, yi, zw, zr, zh, zg, Nat.add_zero, Option.map_some, List.getElem?_cons_zero, List.getElem?_cons_succ, Int.reduceLT, eq_self, yj, zip, Option.map_some, decide_true, decide_false, xk, jf, ln, zgu e, c1, decide_false, decide_true, zfa, p1, p0, e.c0, w0, q1, q0, hkk]
        rw [zj5 ((Pre.refl h).more _) _ _ _ rfl]; simp only [ze, zd, eq_self]
      · simp only [gv, ya, zs, xe, yl, zb, zx, zu, yb, zm, yf, zc, zp, y3, zo, zf, ze, zd, List.set_cons_succ, List.set_cons_zero, O_mv, y0, xg, yx, yg, ye, List.map_cons, List.map_nil, j6, ve, zy, zk, xr, y5, vw, ko, x9, zba, List.cons_append, List.nil_append, List.length_cons, List.length_nil, Nat.reduceAdd, Nat.reduceSub, Nat.zero_add, zn, yc, zz, za, y6, wd, yq, xb, z7, zl, yu, z6, zq, zj, yr, yo, yi, zw, zr, zh, zg, Nat.add_zero, Option.map_some, List.getElem?_cons_zero, List.getElem?_cons_succ, Int.reduceLT, eq_self, yj, zip, Option.map_some, decide_true, decide_false, xk, v6, jf, ln, zgu e, c1, decide_false, decide_true, zfa, p1, p0, e.c0, w0, q1, q0, hkk, h2]
        rw [zj5 ((Pre.refl h).more _) _ _ _ rfl]; simp only [ze, zd, eq_self]
    · have h2n : (y4 P i).kind ≠ 2 := by
        intro h2; unfold keyT at hk; rw [if_pos h2] at hk; exact hm (by simpa using hk)
      have h2 : (((y4 P i).kind : Int) == 2) = false := beq_eq_false_iff_ne.2 (by omega)
      have hkk : ((y4 P i).text != m) = false := by unfold keyT at hk; rw [if_neg h2n] at hk; rw [bne, hk]; rfl
      have : ∃ v h', DF FF w6 [pt P.c, s] h = some (v, h') ∧ (v = .bool true ∧ Rd P h' (i + 1) d x a ∧ Mv P h h') := by
        refine ww zav ?_
        simp only [gv, ya, zs, w7, xe, yl, zb, zx, zu, yb, zm, yf, zc, zp, y3, zo, zf, ze, zd, List.set_cons_succ, List.set_cons_zero, O_mv, y0, xg, yx, yg, ye, List.map_cons, List.map_nil, j6, ve, zy, zk, xr, y5, vw, ko, x9, zba, List.cons_append, List.nil_append, List.length_cons, List.length_nil, Nat.reduceAdd, Nat.reduceSub, Nat.zero_add, zn, yc, zz, za, yz, zi, yk, yq, xb, z7, zl, xc, xx, yu, z6, zq, zj, yr, yo, yi, zw, zr, zh, zg, Nat.add_zero, Option.map_some, List.getElem?_cons_zero, List.getElem?_cons_succ, xy, Int.reduceLT, eq_self, yj, zip, Option.map_some, decide_true, decide_false, xk, v6, jf, ln, zgu e, c1, decide_false, decide_true, zfa, p1, p0, e.c0, e.c1, w0, w1, q1, q0, hkk, h2, wc, Int.reduceAdd, Int.reduceLT, IntKind.wrap_i64, Int.reduceMod, Int.reduceSub]
        have f := e.fin (e2.more [.cells (vp (y4 P i)) 0 false]) (m2.more _) (.bool true) (.inl (by omega))
        rw [f]
        exact ⟨trivial, e2.more _, m2.more _⟩
      obtain ⟨v, h', q, rfl, r⟩ := this
      exact ⟨h', q, by rw [if_pos rfl]; exact r⟩
  · have c1 : (((P.L.length - i : Nat) : Int) < 1) = True := by simp; omega
    have hk : (keyT (y4 P i) == m) = false := by rw [j1 hlt, zeu]; simpa using hm
    refine ⟨h, ?_, by rw [hk, if_neg Bool.false_ne_true]; exact e, Mv.refl P h⟩
    refine wg zav ?_
    simp only [gv, ya, zs, xe, zb, zx, yb, zm, zc, zo, zf, ze, zd, List.set_cons_succ, List.set_cons_zero, O_mv, yx, yg, ye, List.map_cons, List.map_nil, j6, zba, List.cons_append, List.nil_append, List.length_cons, List.length_nil, Nat.reduceAdd, Nat.reduceSub, Nat.zero_add, zn, yc, za, y6, zc7, zh, zg, eq_self, yj, decide_true, ln, zgu e, c1, decide_true, hk]
end
end Go.Proofs.YtljdbheclfaloaaGreatDoor.AM
namespace Go.Proofs.YtljdbheclfaloaaGreatDoor.AM
open Go.RowKit
set_option linter.unusedSimpArgs false
set_option linter.unusedVariables false

section
variable {P : RP} {h : Heap} {i d x a : Nat}
theorem ok_c (e : Rd P h i d x a) : DF FF xu [pt P.r] h = some (.bool (((x : Int) == 0)), h) := by
  refine wg zla ?_
  simp only [zfm, ya, xe, zb, yb, zm, zc, zo, zf, ze, zd, List.set_cons_succ, List.set_cons_zero, O_mv, yx, yg, zy, zk, ko, List.cons_append, List.nil_append, List.length_cons, List.length_nil, Nat.reduceSub, Nat.zero_add, zn, yc, za, zc7, xb, z7, zq, zj, zh, zg, List.getElem?_cons_zero, List.getElem?_cons_succ, eq_self, e.r0]
theorem ok_0 (e : Rd P h i d 0 a) : DF FF xu [pt P.r] h = some (.bool true, h) := ok_c e
theorem fd (e : Rd P h i d x a) (hx : x ≠ 0) : DF FF xu [pt P.r] h = some (.bool false, h) := by
  rw [ok_c e, beq_eq_false_iff_ne.2 (by omega)]
theorem Rd.wr0 (e : Rd P h i d x a) (j : Nat) (hj : j < 6) (y : Value) : Heap.write1 h ⟨P.r, j, some 0⟩ y = some (h.set P.r (.cells (([pt P.c, P.ws, .int .i64 (P.en : Int), .int .i64 (d : Int), .int .i64 (x : Int), .int .i64 (a : Int)] : List Value).set j y) 0 false)) := ph e.hr (by simpa using hj)
theorem zjr (e : Rd P h i d 0 a) (c p : Nat) (hc : c ≠ 0) : ∃ h', DF FF xz [pt P.r, .int .i64 (c : Int), .int .i64 (p : Int)] h = some (tup [], h') ∧ Rd P h' i d c p ∧ Mv P h h' := by
  have : ∃ v h', DF FF xz [pt P.r, .int .i64 (c : Int), .int .i64 (p : Int)] h = some (v, h') ∧ (v = tup [] ∧ Rd P h' i d c p ∧ Mv P h h') := by
    refine ww zd6 ?_
    obtain ⟨e2, m2⟩ := e.setR d c a
    obtain ⟨e3, m3⟩ := e2.setR d c p
    simp only [zbl, ya, zs, zb, zx, yb, zm, zc, zp, zo, zf, ze, zd, List.set_cons_succ, List.set_cons_zero, O_mv, yx, yg, zy, zk, ko, List.cons_append, List.nil_append, List.length_cons, List.length_nil, Nat.reduceAdd, Nat.reduceSub, Nat.zero_add, zn, yc, za, xb, z7, zl, xc, xx, zq, zj, zh, zg, List.getElem?_cons_zero, List.getElem?_cons_succ, beq_self_eq_true, eq_self, e.r0, e.wr0 4 (by omega), beq_self_eq_true, e2.wr0 5 (by omega), wn, Int.cast_ofNat_Int]
    have f := e.fin e3 (m2.trans m3) (tup []) (.inr (.inr (.inl (Ne.symm hc))))
    rw [f]
    exact ⟨trivial, e3, m2.trans m3⟩
  obtain ⟨v, h', q, rfl, r⟩ := this
  exact ⟨h', q, r⟩
theorem zl9 (e : Rd P h i d x a) (hx : x ≠ 0) (c p : Value) : DF FF xz [pt P.r, c, p] h = some (tup [], h) := by
  have c1 : ((x : Int) == 0) = false := beq_eq_false_iff_ne.2 (by omega)
  have : ∃ v h', DF FF xz [pt P.r, c, p] h = some (v, h') ∧ (v = tup [] ∧ h' = h) := by
    refine ww zd6 ?_
    simp only [zbl, ya, zs, yl, zb, zu, yb, zm, zc, zo, zf, ze, zd, List.set_cons_succ, List.set_cons_zero, O_mv, yx, yg, zy, zk, ko, List.cons_append, List.nil_append, List.length_cons, List.length_nil, Nat.reduceAdd, Nat.reduceSub, Nat.zero_add, zn, yc, za, xb, z7, zq, zj, zh, zg, List.getElem?_cons_zero, List.getElem?_cons_succ, wt, eq_self, e.r0, c1, wn, wt]
    exact ⟨trivial, trivial⟩
  obtain ⟨v, h', q, rfl, rfl⟩ := this
  exact q
def zat (P : RP) (i : Nat) : Nat := if i < P.L.length then 22 else 24
def za9 (P : RP) (i : Nat) : Nat := if i < P.L.length then (y4 P i).at_ else P.en
theorem fg (P : RP) (i : Nat) : zat P i ≠ 0 := by unfold zat; split <;> omega
theorem zfp (e : Rd P h i d 0 a) : ∃ h', DF FF vz [pt P.r] h = some (tup [], h') ∧ Rd P h' i d (zat P i) (za9 P i) ∧ Mv P h h' := by
  have : ∃ v h', DF FF vz [pt P.r] h = some (v, h') ∧ (v = tup [] ∧ Rd P h' i d (zat P i) (za9 P i) ∧ Mv P h h') := by
    refine ww zgr ?_
    have hi := e.le
    unfold zat za9
    by_cases hlt : i < P.L.length
    · rw [if_pos hlt, if_pos hlt]
      have c1 : (((P.L.length - i : Nat) : Int) == 0) = false := beq_eq_false_iff_ne.2 (by omega)
      have ha : atV P i = ((y4 P i).at_ : Int) := by unfold atV; rw [if_pos hlt]
      obtain ⟨h', q, r, m⟩ := zjr e 22 (y4 P i).at_ (by omega)
      simp only [Int.cast_ofNat_Int] at q
      simp only [pn, ya, zs, zb, zu, yb, zm, zc, zo, zf, ze, zd, List.set_cons_succ, List.set_cons_zero, O_mv, yx, yg, ye, List.map_cons, List.map_nil, zy, zk, ko, List.cons_append, List.nil_append, List.length_cons, List.length_nil, Nat.reduceSub, Nat.zero_add, zn, yc, za, xb, z7, zq, zj, zh, zg, Nat.add_zero, List.getElem?_cons_zero, eq_self, e.r0, zgu e, c1, at_c e, ha, q, wn]
      have f := e.fin r m (tup []) (.inr (.inr (.inl (by omega))))
      rw [f]
      exact ⟨trivial, r, m⟩
    · rw [if_neg hlt, if_neg hlt]
      have c1 : (((P.L.length - i : Nat) : Int) == 0) = true := beq_iff_eq.2 (by omega)
      obtain ⟨h', q, r, m⟩ := zjr e 24 P.en (by omega)
      simp only [Int.cast_ofNat_Int] at q
      simp only [pn, ya, zs, zb, zx, yb, zm, zc, zo, zf, ze, zd, List.set_cons_succ, List.set_cons_zero, O_mv, yx, yg, ye, List.map_cons, List.map_nil, zy, zk, ko, List.cons_append, List.nil_append, List.length_cons, List.length_nil, Nat.reduceSub, Nat.zero_add, zn, yc, za, xb, z7, zq, zj, zh, zg, Nat.add_zero, List.getElem?_cons_zero, List.getElem?_cons_succ, eq_self, e.r0, zgu e, c1, q, wn]
      have f := e.fin r m (tup []) (.inr (.inr (.inl (by omega))))
      rw [f]
      exact ⟨trivial, r, m⟩
  obtain ⟨v, h', q, rfl, r⟩ := this
  exact ⟨h', q, r⟩
theorem ygn (P : RP) (i : Nat) {m : UInt8} (hm : (letV (m.toNat : Int) || (m.toNat : Int) == 95) = false) : (((y4 P i).kind : Int) == 3 && (y4 P i).text == [m]) = (keyT (y4 P i) == [m]) := by
  have hk : (((y4 P i).kind : Int) == 3) = decide ((y4 P i).kind = 3) := by rw [Bool.eq_iff_iff]; simp; omega
  rw [hk]
  unfold y4
  cases hg : P.L[i]? with
  | none => rfl
  | some t =>
    have hmem : t ∈ P.L := List.mem_of_getElem? hg
    simp only [Option.getD_some]
    unfold keyT
    rcases P.ok t hmem with ⟨h1, c, l, h2, h3⟩ | h1 | ⟨h1, c, l, h2, h3⟩
    · have hne : ((c :: l : Bys) == [m]) = false := by
        rw [beq_eq_false_iff_ne]; intro he; cases he; rw [hm] at h3; cases h3
      rw [h2]
      simp only [h1, hne, Nat.reduceEqDiff, decide_false, Bool.false_and, if_false]
    · simp [h1]
    · simp [h1]
theorem is_c (e : Rd P h i d x a) {m : UInt8} (hm : (letV (m.toNat : Int) || (m.toNat : Int) == 95) = false) : DF FF jl [pt P.r, str [m]] h = some (.bool (keyT (y4 P i) == [m]), h) := by
  refine wg zl1 ?_
  have hw := zj3 e 0 (by omega)
  rw [Nat.add_zero, Int.cast_ofNat_Int] at hw
  rw [← ygn P i hm]
  cases hk : (((y4 P i).kind : Int) == 3)
  · simp only [zcl, ya, xe, zb, yb, zm, yf, zc, zp, vd, zo, zf, ze, zd, List.set_cons_succ, List.set_cons_zero, O_mv, y0, xg, yx, yg, ye, List.map_cons, List.map_nil, zy, zk, ko, List.cons_append, List.nil_append, List.length_cons, List.length_nil, Nat.reduceAdd, Nat.reduceSub, Nat.zero_add, Bool.false_and, zn, yc, za, yq, xb, z7, zl, yu, z6, yr, yo, yi, zw, zr, zh, zg, Nat.add_zero, eq_self, yj, xk, v6, hw, hk]
    rw [zj5 ((Pre.refl h).more _) _ _ _ rfl]; simp only [ze, zd, eq_self]
  · simp only [zcl, ya, xe, zb, yb, zm, yf, zc, zp, xq, zo, zf, ze, zd, List.set_cons_succ, List.set_cons_zero, O_mv, y0, xg, yx, yg, ye, List.map_cons, List.map_nil, zy, zk, ko, List.cons_append, List.nil_append, List.length_cons, List.length_nil, Nat.reduceAdd, Nat.reduceSub, Nat.zero_add, Bool.true_and, zn, yc, za, yq, xb, z7, zl, yu, z6, yr, yo, yi, zw, zr, zh, zg, Nat.add_zero, eq_self, yj, va, xk, v6, jf, hw, hk]
    rw [zj5 ((Pre.refl h).more _) _ _ _ rfl]; simp only [ze, zd, eq_self]
theorem zl5 (h : Heap) (m : Bys) : Sl (h ++ [.cells [str m] 0 false]) (.slice (some ⟨h.length, 0, some 0⟩) 1 1) 1 [[str m]] := Sl.last h (by rfl) (by rfl) (by simp) 0 false
theorem zub (e : Rd P h i d 0 a) {m : Bys} (hm : m ≠ []) : ∃ h', DF FF vy [pt P.r, str m] h = some (tup [], h') ∧ (if keyT (y4 P i) == m then Rd P h' (i + 1) d 0 a else Rd P h' i d (zat P i) (za9 P i)) ∧ Mv P h h' := by
  have : ∃ v h', DF FF vy [pt P.r, str m] h = some (v, h') ∧ (v = tup [] ∧ (if keyT (y4 P i) == m then Rd P h' (i + 1) d 0 a else Rd P h' i d (zat P i) (za9 P i)) ∧ Mv P h h') := by
    refine ww zeg ?_
    obtain ⟨h1, q, r, m1⟩ := zh8 (e.more [.cells [str m] 0 false]) hm (zl5 h m)
    have m1' : Mv P h h1 := (Mv.add P h [.cells [str m] 0 false]).trans m1
    cases hk : keyT (y4 P i) == m
    · rw [hk] at q r
      rw [if_neg Bool.false_ne_true] at r
      obtain ⟨h2, q2, r2, m2⟩ := zfp r
      simp only [pi, ya, zs, zb, zx, yb, zm, yf, zc, xq, zo, ze, zd, List.set_cons_succ, List.set_cons_zero, O_mv, y0, xg, yg, O_un, ye, List.map_cons, List.map_nil, zy, zk, w5, wo, yd, z8, xd, xi, yy, Nat.lt_add_one, vt, List.cons_append, List.nil_append, List.length_cons, List.length_nil, Nat.reduceAdd, Nat.reduceSub, Nat.zero_add, Bool.not_false, zn, yc, za, slc, xb, z7, zq, zj, zh, zg, List.append_nil, Nat.add_zero, List.getElem?_cons_zero, eq_self, yj, wm, e.r0, ok_0 e, q, q2, wn]
      have f := e.fin r2 (m1'.trans m2) (tup []) (.inr (.inr (.inl (Ne.symm (fg P i)))))
      rw [f]
      exact ⟨trivial, by rw [if_neg Bool.false_ne_true]; exact r2, m1'.trans m2⟩
    · rw [hk] at q r
      rw [if_pos rfl] at r
      simp only [pi, ya, zs, yl, zb, zu, yb, zm, yf, zc, xq, zo, ze, zd, List.set_cons_succ, List.set_cons_zero, O_mv, y0, xg, yg, O_un, ye, List.map_cons, List.map_nil, zy, zk, w5, wo, yd, z8, xd, xi, yy, Nat.lt_add_one, vt, List.cons_append, List.nil_append, List.length_cons, List.length_nil, Nat.reduceAdd, Nat.reduceSub, Nat.zero_add, Bool.not_true, zn, yc, za, slc, xb, z7, zq, zj, zh, zg, List.append_nil, Nat.add_zero, List.getElem?_cons_zero, eq_self, yj, wm, e.r0, ok_0 e, q, wn]
      have f := e.fin r m1' (tup []) (.inl (by omega))
      rw [f]
      exact ⟨trivial, by rw [if_pos trivial]; exact r, m1'⟩
  obtain ⟨v, h', q, rfl, r⟩ := this
  exact ⟨h', q, r⟩
theorem ztm (e : Rd P h i d x a) (hx : x ≠ 0) (m : Bys) : DF FF vy [pt P.r, str m] h = some (tup [], h) := by
  have : ∃ v h', DF FF vy [pt P.r, str m] h = some (v, h') ∧ (v = tup [] ∧ h' = h) := by
    refine ww zeg ?_
    simp only [pi, ya, zs, yl, zb, zu, yb, zm, yf, zc, vd, zo, zf, ze, zd, List.set_cons_succ, List.set_cons_zero, O_mv, y0, xg, ye, List.map_cons, List.map_nil, List.cons_append, List.nil_append, List.length_cons, List.length_nil, Nat.reduceAdd, Nat.reduceSub, Nat.zero_add, zn, yc, za, zh, zg, wt, eq_self, yj, fd e hx, wn, wt]
    exact ⟨trivial, trivial⟩
  obtain ⟨v, h', q, rfl, rfl⟩ := this
  exact q
theorem zus (P : RP) (i : Nat) : zbc (y4 P i) = true → i < P.L.length := fun hn => by
  by_cases hlt : i < P.L.length
  · exact hlt
  · rw [j1 hlt] at hn; cases hn
theorem yak (e : Rd P h i d 0 a) : ∃ w p h', DF FF ji [pt P.r] h = some (tup [str w, .int .i64 p], h') ∧ (if zbc (y4 P i) then w = (y4 P i).text ∧ p = ((y4 P i).at_ : Int) ∧ Rd P h' (i + 1) d 0 a else Rd P h' i d (zat P i) (za9 P i)) ∧ Mv P h h' := by
  have : ∃ v h', DF FF ji [pt P.r] h = some (v, h') ∧ ∃ w p, (v = tup [str w, .int .i64 p] ∧ (if zbc (y4 P i) then w = (y4 P i).text ∧ p = ((y4 P i).at_ : Int) ∧ Rd P h' (i + 1) d 0 a else Rd P h' i d (zat P i) (za9 P i)) ∧ Mv P h h') := by
    refine ww zh2 ?_
    have hw := zj3 e 0 (by omega)
    rw [Nat.add_zero, Int.cast_ofNat_Int] at hw
    cases hn : zbc (y4 P i)
    · obtain ⟨h1, q, r, m1⟩ := zfp (e.more [.cells (vp (y4 P i)) 0 false])
      have m1' : Mv P h h1 := (Mv.add P h _).trans m1
      have f := fun v => e.fin r m1' v (.inr (.inr (.inl (Ne.symm (fg P i)))))
      unfold zbc at hn
      cases hk : (((y4 P i).kind : Int) != 1)
      · have hk1 : ((y4 P i).kind == 1) = true := by rw [beq_iff_eq]; have := bne_eq_false_iff_eq.1 hk; omega
        rw [hk1, Bool.true_and, Bool.not_eq_false'] at hn
        simp only [bw, ya, zs, xe, zb, zx, yb, zm, yf, zc, zp, y3, zo, zf, ze, zd, List.set_cons_succ, List.set_cons_zero, O_mv, y0, xg, yx, yg, O_un, ye, List.map_cons, List.map_nil, zy, zk, zks, vt, List.cons_append, List.nil_append, List.length_cons, List.length_nil, Nat.reduceAdd, Nat.reduceSub, Nat.zero_add, Bool.not_true, zn, yc, za, y6, yq, xb, z7, zl, yu, z6, zq, zj, yr, yo, yi, zw, zr, zh, zg, Nat.add_zero, List.getElem?_cons_zero, zfw, eq_self, yj, xk, v6, jf, e.r0, at_c e, hw, ok_0 (e.more _), hk, zce, hn, q, zfw, f]
        exact ⟨_, _, rfl, by rw [if_neg Bool.false_ne_true]; exact r, m1'⟩
      · simp only [bw, ya, zs, xe, zb, zx, yb, zm, yf, zc, zp, y3, wk, zo, zf, ze, zd, List.set_cons_succ, List.set_cons_zero, O_mv, y0, xg, yx, yg, O_un, ye, List.map_cons, List.map_nil, zy, zk, zks, vt, List.cons_append, List.nil_append, List.length_cons, List.length_nil, Nat.reduceAdd, Nat.reduceSub, Nat.zero_add, Bool.not_true, zn, yc, za, y6, yq, xb, z7, zl, yu, z6, zq, zj, yr, yo, yi, zw, zr, zh, zg, Nat.add_zero, List.getElem?_cons_zero, zfw, eq_self, yj, xk, v6, e.r0, at_c e, hw, ok_0 (e.more _), hk, q, zfw, f]
        exact ⟨_, _, rfl, by rw [if_neg Bool.false_ne_true]; exact r, m1'⟩
    · have hlt := zus P i hn
      obtain ⟨h1, q, r, m1⟩ := zh7 (e.more [.cells (vp (y4 P i)) 0 false]) hlt
      have m1' : Mv P h h1 := (Mv.add P h _).trans m1
      have f := fun v => e.fin r m1' v (.inl (by omega))
      have hr : Heap.read1 h1 ⟨h.length, 1, some 0⟩ = some (str (y4 P i).text) := by
        have hb : (h ++ [AObj.cells (vp (y4 P i)) 0 false])[h.length]? = some (AObj.cells (vp (y4 P i)) 0 false) := by simp
        have := x5 (j := 1) (m1.keep h.length _ hb (by have := e.lr; omega) (by have := e.lc; omega))
        rw [this]; rfl
      unfold zbc at hn
      rw [Bool.and_eq_true, beq_iff_eq, Bool.not_eq_true'] at hn
      have hk : (((y4 P i).kind : Int) != 1) = false := by rw [hn.1]; rfl
      have ha : atV P i = ((y4 P i).at_ : Int) := by unfold atV; rw [if_pos hlt]
      simp only [bw, ya, zs, xe, yl, zb, zu, yb, zm, yf, zc, zp, y3, zo, zf, ze, zd, List.set_cons_succ, List.set_cons_zero, O_mv, y0, xg, yx, yg, O_un, ye, List.map_cons, List.map_nil, zy, zk, zks, vt, List.cons_append, List.nil_append, List.length_cons, List.length_nil, Nat.reduceAdd, Nat.reduceSub, Nat.zero_add, Bool.not_true, zn, yc, za, yq, xb, z7, zl, yu, z6, zq, zj, yr, yo, yi, zw, zr, zh, zg, Nat.add_zero, List.getElem?_cons_zero, zfw, eq_self, yj, xk, v6, jf, e.r0, e.r1, at_c e, hw, ok_0 (e.more _), hk, zce, hn.2, q, hr, zfw, f, ha]
      exact ⟨_, _, rfl, by rw [if_pos trivial]; exact ⟨rfl, rfl, r⟩, m1'⟩
  obtain ⟨v, h', q, w, p, rfl, r⟩ := this
  exact ⟨w, p, h', q, r⟩
end
theorem ycb (t : Tok) (ht : t = zmh ∨ zpx t) (h : Heap) : DF FF zfl [agg (vp t)] h = some (.bool (t.kind == 2 || (zbc t || (keyT t == [40] || keyT t == [91]))), h) := by
  refine wg zqk ?_
  have k0 : ∀ n : Nat, ((t.kind : Int) == (n : Int)) = (t.kind == n) := fun n => by rw [Bool.eq_iff_iff]; simp; omega
  have k1 := k0 1; have k2 := k0 2; have k3 := k0 3
  simp only [Int.cast_ofNat_Int] at k1 k2 k3
  have fl : ∀ (b : Bool) (L : Heap), AM.finish h (.bool b) (h ++ L) = h := fun b L => g9 h L rfl
  by_cases h1 : t.kind = 1
  · have e1 : (t.kind == 1) = true := by simp [h1]
    have e2 : (t.kind == 2) = false := by simp [h1]
    have e3 : (keyT t == [40] || keyT t == [91]) = false := by
      rcases ht with rfl | ⟨_, c, l, h2, h3⟩ | h2 | ⟨h2, _⟩
      · cases h1
      · unfold keyT; rw [if_neg (by omega), h2]
        cases hc : ((c :: l == [40]) || (c :: l == [91])) with
        | false => rfl
        | true =>
          rcases Bool.or_eq_true_iff.1 hc with hc | hc <;> (have := eq_of_beq hc; cases this; cases h3)
      · omega
      · omega
    simp only [zbr, ya, zs, xe, zb, zx, yb, zm, zc, zo, zf, ze, zd, List.set_cons_succ, List.set_cons_zero, O_mv, yx, yg, O_un, ye, List.map_cons, List.map_nil, zy, zk, ko, vt, List.cons_append, List.nil_append, List.length_cons, List.length_nil, Nat.reduceSub, Nat.zero_add, zn, yc, zz, za, y6, wd, w9, xb, z7, yr, yo, zh, zg, Nat.add_zero, eq_self, yh, zt, yj, xk, v6, jf, yh, zt, k1, e1, zce]
    rw [zj5 ((Pre.refl h).more _) _ _ _ rfl]
    simp only [ze, zd, Bool.false_or, Bool.or_false, Bool.true_and, eq_self, zbc, e1, e2, e3]
  · have e1 : (t.kind == 1) = false := by simp [h1]
    by_cases h3 : t.kind = 3
    · have e3 : (t.kind == 3) = true := by simp [h3]
      have e2 : (t.kind == 2) = false := by simp [h3]
      cases hx : (t.text == [40])
      · simp only [zbr, ya, zs, xe, zb, zx, zu, yb, zm, yf, zc, y3, zo, zf, ze, zd, List.set_cons_succ, List.set_cons_zero, O_mv, y0, xg, yx, yg, zy, zk, ko, List.cons_append, List.nil_append, List.length_cons, List.length_nil, Nat.reduceSub, Nat.zero_add, zn, yc, zz, za, y6, wd, w9, xb, z7, yr, yo, zh, zg, Nat.add_zero, eq_self, yh, zt, yj, va, xk, v6, jf, yh, zt, k1, k3, e1, e3, hx]
        rw [zj5 ((Pre.refl h).more _) _ _ _ rfl]
        simp only [ze, zd, Bool.false_or, Bool.false_and, eq_self, zbc, keyT, h3, hx, if_neg (show ¬ (3 : Nat) = 2 by omega), Nat.reduceBEq]
      · simp only [zbr, ya, zs, xe, zb, zx, zu, yb, zm, yf, zc, wk, zo, zf, ze, zd, List.set_cons_succ, List.set_cons_zero, O_mv, y0, xg, yx, yg, zy, zk, ko, List.cons_append, List.nil_append, List.length_cons, List.length_nil, Nat.reduceSub, Nat.zero_add, zn, yc, zz, za, y6, wd, w9, xb, z7, yr, yo, zh, zg, Nat.add_zero, eq_self, yh, zt, yj, va, xk, v6, jf, yh, zt, k1, k3, e1, e3, hx]
        rw [zj5 ((Pre.refl h).more _) _ _ _ rfl]
        simp only [ze, zd, Bool.true_or, Bool.or_true, Bool.false_and, eq_self, zbc, keyT, h3, hx, if_neg (show ¬ (3 : Nat) = 2 by omega), Nat.reduceBEq]
    · have e3 : (t.kind == 3) = false := by simp [h3]
      have e4 : (keyT t == [40] || keyT t == [91]) = false := by
        rcases ht with rfl | ⟨h2, _⟩ | h2 | ⟨h2, _⟩
        · rfl
        · omega
        · unfold keyT; rw [if_pos h2]; rfl
        · omega
      simp only [zbr, ya, zs, xe, yl, zb, zu, yb, zm, zc, zo, zf, ze, zd, List.set_cons_succ, List.set_cons_zero, O_mv, yx, yg, zy, zk, ko, List.cons_append, List.nil_append, List.length_cons, List.length_nil, Nat.reduceSub, Nat.zero_add, zn, yc, zz, za, zi, w9, xb, z7, yr, yo, zh, zg, Nat.add_zero, eq_self, yh, zt, yj, xk, v6, yh, zt, k1, k2, k3, e1, e3]
      rw [zj5 ((Pre.refl h).more _) _ _ _ rfl]
      simp only [ze, zd, Bool.or_false, Bool.false_and, eq_self, zbc, e1, e4]
end Go.Proofs.YtljdbheclfaloaaGreatDoor.AM
namespace Go.Proofs.YtljdbheclfaloaaGreatDoor.AM
open Go.RowKit
set_option linter.unusedSimpArgs false
set_option linter.unusedVariables false

def ExR (P : RP) (h : Heap) (d : Nat) (v : Value) (h' : Heap) : PR Ex → Prop
  | .ok n r => ∃ i, r = P.L.drop i ∧ Rd P h' i d 0 0 ∧ TreeP h' (Iv h.length h'.length) v n ∧ Mv P h h'
  | .bad c p => c ≠ 0 ∧ (∃ i, Rd P h' i d c p) ∧ Mv P h h' ∧ ∃ b, v = pt b
def zc1 (P : RP) (F : FuncId) (d : Nat) (f : List Tok → PR Ex) : Prop := ∀ h i, Rd P h i d 0 0 → ∃ v h', DF FF F [pt P.r] h = some (v, h') ∧ ExR P h d v h' (f (P.L.drop i))
def zsv (P : RP) (F : FuncId) : Prop := ∀ h i d c p, Rd P h i d c p → c ≠ 0 → ∃ b h', DF FF F [pt P.r] h = some (pt b, h') ∧ Rd P h' i d c p ∧ Mv P h h'
theorem ExR.ptr {P : RP} {h h' : Heap} {d : Nat} {v : Value} {R : PR Ex} (e : ExR P h d v h' R) : ∃ b, v = pt b := by
  cases R with
  | ok n r => obtain ⟨i, _, _, t, _⟩ := e; obtain ⟨b, _, _, _, _, hv, _⟩ := t.root; exact ⟨b, hv⟩
  | bad c p => exact e.2.2.2
theorem kv (h H : Heap) (b : Nat) : AM.finish h (pt b) H = H := zgq h rfl H
theorem gw {P : RP} {k : Nat} (hk : k < P.L.length) : P.L.drop k = y4 P k :: P.L.drop (k + 1) := by
  rw [List.drop_eq_getElem_cons hk]; unfold y4; rw [List.getElem?_eq_getElem hk]; rfl
theorem zul (P : RP) (k : Nat) : y4 P k = zmh ∨ zpx (y4 P k) := by
  by_cases hk : k < P.L.length
  · right; unfold y4; rw [List.getElem?_eq_getElem hk]; exact P.ok _ (List.getElem_mem hk)
  · left; exact j1 hk
def MarksOk (mks : List Bys) (mo : Bys → Option Op2) : Prop := mo [] = none ∧ mks.length < 10 ∧ ∀ t : Tok, zpx t → (((t.kind : Int) == 3) && mks.contains t.text) = (mo (keyT t)).isSome ∧ ∀ o, mo (keyT t) = some o → op2S o = t.text
theorem MarksOk.at {mks : List Bys} {mo : Bys → Option Op2} (m : MarksOk mks mo) (P : RP) (k : Nat) : (((((y4 P k).kind : Int) == 3) && mks.contains (y4 P k).text) = (mo (keyT (y4 P k))).isSome) ∧ ∀ o, mo (keyT (y4 P k)) = some o → op2S o = (y4 P k).text ∧ k < P.L.length := by
  by_cases hk : k < P.L.length
  · rcases zul P k with h | h
    · rw [h]
      rw [zeu, m.1]
      exact ⟨rfl, fun o ho => by cases ho⟩
    · exact ⟨(m.2.2 _ h).1, fun o ho => ⟨(m.2.2 _ h).2 o ho, hk⟩⟩
  · rw [j1 hk, zeu, m.1]
    exact ⟨rfl, fun o ho => by cases ho⟩
set_option maxHeartbeats 1000000 in
theorem zl7 {P : RP} {F : FuncId} {d : Nat} {part : List Tok → PR Ex} {mks : List Bys} {mo : Bys → Option Op2} (hF : zc1 P F d part) (hs : Shr part) (hm : MarksOk mks mo) {h : Heap} {i : Nat} (e : Rd P h i d 0 0) {ms : Value} (hms : Sl h ms 1 (mks.map zfb)) (br : blk ms ≠ some P.r) (bc : blk ms ≠ some P.c) :
    ∃ v h', DF FF qr [pt P.r, .func (.func F) [pt P.r].toArray [].toArray, ms] h = some (v, h') ∧ ExR P h d v h' (pv part mo (P.L.drop i)) := by
  refine ww zb4 ?_
  obtain ⟨v0, h0, q0, x0⟩ := hF h i e
  simp only [pm, ya, zb, yb, zm, zc, zo, zf, ze, zd, List.set_cons_succ, List.set_cons_zero, O_mv, List.map_nil, List.cons_append, List.nil_append, List.length_cons, List.length_nil, Nat.reduceAdd, Nat.reduceSub, Nat.zero_add, zn, yc, zz, za, zh, zg, List.append_nil, yj, bp, je, q0]
  obtain ⟨R, hR⟩ : ∃ R, R = pv part mo (P.L.drop i) := ⟨_, rfl⟩
  rw [← hR]
  refine zi4 (fun m st => (∃ (K : Heap) (k : Nat) (n : Ex) (v : Value) (j : Nat → Value), m = P.L.length - k + 1 ∧ Rd P K k d 0 0 ∧ TreeP K (Iv h.length K.length) v n ∧ Mv P h K ∧ binL part mo P.L.length n (P.L.drop k) = R ∧ st = ⟨[pt P.r, .func (.func F) [pt P.r].toArray [].toArray, ms, j 3, j 4, j 5, j 6, v, j 8, j 9, j 10, j 11, j 12, j 13, j 14, j 15, j 16, j 17, j 18, j 19, j 20, j 21, j 22, j 23, j 24, j 25, j 26, j 27, j 28, j 29, j 30, j 31, j 32, j 33, j 34, j 35, j 36, j 37, j 38, j 39, j 40, j 41, j 42, j 43, j 44, j 45, j 46], K⟩) ∨
    (∃ (K : Heap) (k c p b : Nat) (j : Nat → Value), m = 0 ∧ R = .bad c p ∧ c ≠ 0 ∧ Rd P K k d c p ∧ Mv P h K ∧ st = ⟨[pt P.r, .func (.func F) [pt P.r].toArray [].toArray, ms, j 3, j 4, j 5, j 6, pt b, j 8, j 9, j 10, j 11, j 12, j 13, j 14, j 15, j 16, j 17, j 18, j 19, j 20, j 21, j 22, j 23, j 24, j 25, j 26, j 27, j 28, j 29, j 30, j 31, j 32, j 33, j 34, j 35, j 36, j 37, j 38, j 39, j 40, j 41, j 42, j 43, j 44, j 45, j 46], K⟩)) ?_ (match part (P.L.drop i) with | .ok n r => r.length + 1 | .bad c p => 0) _ ?_
  · rintro m st (⟨K, k, n, v, j, rfl, eK, tK, mK, hb, rfl⟩ | ⟨K, k, c, p, b, j, rfl, hb, hc, eK, mK, rfl⟩)
    · have hw := zj3 eK 0 (by omega)
      rw [Nat.add_zero, Int.cast_ofNat_Int] at hw
      have hmsK : Sl K ms 1 (mks.map zfb) := hms.keep fun b hb o ho => mK.keep b o ho (by rintro rfl; exact br hb) (by rintro rfl; exact bc hb)
      have hct := znn mks (y4 P k).text hmsK (by have := hm.2.1; omega)
      obtain ⟨hm1, hm2⟩ := hm.at P k
      have lr := e.lr; have lc := e.lc
      cases ho : mo (keyT (y4 P k)) with
      | none =>
        rw [ho, Option.isSome_none] at hm1
        have hend : R = .ok n (P.L.drop k) := by
          rw [← hb]
          by_cases hk : k < P.L.length
          · rw [gw hk]
            obtain ⟨q, hq⟩ : ∃ q, P.L.length = q + 1 := ⟨P.L.length - 1, by omega⟩
            rw [hq, binL, ho]
          · rw [List.drop_eq_nil_of_le (by omega)]; cases P.L.length <;> rfl
        have hv := tK.root
        obtain ⟨b, _, _, _, _, rfl, _⟩ := hv
        cases hk3 : (((y4 P k).kind : Int) == 3)
        · simp only [ya, zs, w7, xe, zb, zu, yb, zm, yf, zc, xq, vd, zo, zf, ze, zd, List.set_cons_succ, List.set_cons_zero, O_mv, y0, xg, yx, yg, ye, List.map_cons, List.map_nil, ko, zn, yc, za, yz, yk, zal, zgk, zcg, xy, v6, ok_0 eK, hw, hk3, xy, kv, v6, zcg, zgk]
          rw [hend]
          exact ⟨k, rfl, eK, tK, mK⟩
        · rw [hk3, Bool.true_and] at hm1
          simp only [ya, zs, w7, xe, zb, zu, yb, zm, yf, zc, xq, zo, zf, ze, zd, List.set_cons_succ, List.set_cons_zero, O_mv, y0, xg, yx, yg, ye, List.map_cons, List.map_nil, ko, zn, yc, za, yz, yk, zal, zgk, zcg, xy, v6, jf, ok_0 eK, hw, hk3, hct, hm1, xy, kv, v6, jf, zcg, zgk]
          rw [hend]
          exact ⟨k, rfl, eK, tK, mK⟩
      | some o =>
        obtain ⟨ho2, hk⟩ := hm2 o ho
        rw [ho, Option.isSome_some, Bool.and_eq_true] at hm1
        obtain ⟨hk3, hk4⟩ := hm1
        obtain ⟨K1, q1, e1, m1⟩ := zh7 eK hk
        obtain ⟨v2, K2, q2, x2⟩ := hF (K1 ++ [.cells (vp (y4 P k)) 0 false]) (k + 1) (e1.more _)
        obtain ⟨b, op, w, l, r, rfl, hbS, hbo⟩ := tK.root
        have hstep : R = match part (P.L.drop (k + 1)) with
            | .ok x r' => binL part mo P.L.length (.bin false o n x) r'
            | .bad c a => .bad c a := by
          rw [← hb, gw hk]
          obtain ⟨q, hq⟩ : ∃ q, P.L.length = q + 1 := ⟨P.L.length - 1, by omega⟩
          rw [hq, binL, ho]
          simp only
          cases hp : part (P.L.drop (k + 1)) with
          | bad c a => rfl
          | ok x r' =>
            have := hs _ _ _ hp
            simp only [List.length_drop] at this
            exact zlh hs _ _ _ _ (by omega) (by omega)
        obtain ⟨b2, rfl⟩ := x2.ptr
        have m12 : Mv P K K2 := (m1.more _).trans (by
          cases hp : part (P.L.drop (k + 1)) with
          | ok x r' => rw [hp] at x2; obtain ⟨_, _, _, _, m⟩ := x2; exact m
          | bad c a => rw [hp] at x2; exact x2.2.2.1)
        have mx : Mv P (K1 ++ [.cells (vp (y4 P k)) 0 false]) K2 := by
          cases hp : part (P.L.drop (k + 1)) with
          | ok x r' => rw [hp] at x2; obtain ⟨_, _, _, _, m⟩ := x2; exact m
          | bad c a => rw [hp] at x2; exact x2.2.2.1
        have hn1 : (K1 ++ [.cells (vp (y4 P k)) 0 false])[b]? = some (.cells (vh op w n.pl l r n.set) 0 false) := y8 _ (m1.keep b _ hbo (by have := hbS.1; omega) (by have := hbS.1; omega))
        have hn2 : K2[b]? = some (.cells (vh op w n.pl l r n.set) 0 false) := m12.keep b _ hbo (by have := hbS.1; omega) (by have := hbS.1; omega)
        have ht2 : K2[K1.length]? = some (.cells (vp (y4 P k)) 0 false) := mx.keep _ _ (by simp) (by have := e1.lr; omega) (by have := e1.lc; omega)
        have r1 : ∀ j, Heap.read1 (K1 ++ [.cells (vp (y4 P k)) 0 false]) ⟨b, j, some 0⟩ = (vh op w n.pl l r n.set)[j]? := fun j => x5 hn1
        have r2 : Heap.read1 K2 ⟨b, 2, some 0⟩ = some (.int .i64 (n.pl : Int)) := x5 hn2
        have r3 : Heap.read1 K2 ⟨K1.length, 1, some 0⟩ = some (str (y4 P k).text) := x5 ht2
        have a1 : zbz K2 (.pointer (some ⟨K1.length, 1, some 0⟩)) (str (y4 P k).text) = some (undef, K2) := b6 r3 rfl
        have a2 : zbz K2 (.pointer (some ⟨b, 2, some 0⟩)) (.int .i64 (n.pl : Int)) = some (undef, K2) := b6 r2 rfl
        have r1' : (vh op w n.pl l r n.set)[2]? = some (.int .i64 (n.pl : Int)) := rfl
        simp only [ya, zs, yl, zb, zx, yb, zm, yf, zc, zp, xq, zo, zf, ze, zd, List.set_cons_succ, List.set_cons_zero, O_mv, y0, xg, yx, yg, ye, List.map_cons, List.map_nil, zy, zk, x8, y9, yd, z8, yy, wu, Nat.zero_lt_succ, Nat.reduceLT, ko, List.length_cons, List.length_nil, Nat.reduceAdd, Nat.zero_add, zn, yc, zz, za, zi, vq, yq, w9, xb, z7, zgk, zcg, xh, y7, zl, yu, z6, zq, zj, yr, yo, yi, zw, zr, List.append_nil, Nat.add_zero, List.getElem?_cons_zero, List.getElem?_cons_succ, eq_self, yh, zt, zdc, wm, f8, xk, v6, jf, ok_0 eK, hw, hk3, hct, hk4, v6, jf, zcg, zgk, eK.r0, q1, bp, je, q2, r1, r1', a1, a2, yh, zt]
        cases hp : part (P.L.drop (k + 1)) with
        | ok x r' =>
          rw [hp] at x2 hstep
          obtain ⟨k', rfl, e2, t2, _⟩ := x2
          have hlt := hs _ _ _ hp
          simp only [List.length_drop] at hlt
          refine ⟨P.L.length - k' + 1, by have := e2.le; omega, .inl ⟨_, k', .bin false o n x, _, (junk rfl).elim fun j hj => ⟨j, rfl, e2.more _, ?_, (mK.trans m12).more _, hstep.symm, hj⟩⟩⟩
          have l1 := m12.le; have l0 := mK.le; have lm := m1.le
          have lx : K1.length + 1 ≤ K2.length := by have := mx.le; simpa using this
          refine ⟨K2.length, Iv h.length K.length, Iv (K1.length + 1) K2.length, pt b, pt b2, rfl, ⟨by omega, by simp⟩, ?_, ?_, ?_, ?_, ?_⟩
          · rw [ho2]; simp [vh]
          · exact (tK.keep fun c o hc ho => m12.keep c o ho (by have := hc.1; omega) (by have := hc.1; omega)).keep fun c o hc ho => y8 _ ho
          · have : (K1 ++ [AObj.cells (vp (y4 P k)) 0 false]).length = K1.length + 1 := by simp
            rw [this] at t2
            exact t2.keep fun c o hc ho => y8 _ ho
          · intro z hz
            have := hz.1; have := hz.2
            exact ⟨⟨by omega, by simp; omega⟩, by omega, fun h3 => by have := h3.1; omega⟩
          · intro z hz
            have := hz.1; have := hz.2
            exact ⟨⟨by omega, by simp; omega⟩, by omega⟩
        | bad c a =>
          rw [hp] at x2 hstep
          obtain ⟨hc, ⟨k', e2⟩, _, _⟩ := x2
          exact ⟨0, by omega, .inr ⟨_, k', c, a, _, (junk rfl).elim fun j hj => ⟨j, rfl, hstep, hc, e2.more _, (mK.trans m12).more _, hj⟩⟩⟩
    · simp only [ya, zs, w7, xe, zb, zu, yb, zm, yf, zc, vd, zo, zf, ze, zd, List.set_cons_succ, List.set_cons_zero, O_mv, y0, xg, ye, List.map_cons, List.map_nil, zn, yc, za, yz, yk, zal, xy, fd eK hc, xy, kv]
      rw [hb]
      exact ⟨hc, ⟨k, eK⟩, mK, _, rfl⟩
  · unfold pv at hR
    cases hp : part (P.L.drop i) with
    | ok n r =>
      rw [hp] at x0 hR
      obtain ⟨k, rfl, e0, t0, m0⟩ := x0
      have hlt := hs _ _ _ hp
      simp only [List.length_drop] at hlt
      left
      refine ⟨h0, k, n, v0, (junk rfl).elim fun j hj => ⟨j, by simp, e0, t0, m0, ?_, hj⟩⟩
      rw [hR]
      exact zlh hs _ _ _ _ (by simp) (Nat.le_refl _)
    | bad c p =>
      rw [hp] at x0 hR
      obtain ⟨hc, ⟨k, e0⟩, m0, b, rfl⟩ := x0
      right
      exact ⟨h0, k, c, p, b, (junk rfl).elim fun j hj => ⟨j, rfl, hR, hc, e0, m0, hj⟩⟩
end Go.Proofs.YtljdbheclfaloaaGreatDoor.AM
