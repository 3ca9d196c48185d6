/-
  Memory while a code runs by itself: objects written in place; what is kept.
  Conditions: none.
-/
import Derived.Test.YtjodnadlplicmaaUb1
import Derived.Test.YtjodnadlplicmaaFa9
namespace Go.Proofs.Ytjodnadlplicmaa.AM
open Go.RowKit
set_option linter.unusedSimpArgs false
set_option linter.unusedVariables false

section
variable {K : Heap} {b c j : Nat} {l : List Value} {o : AObj} {v : Option Nat}
theorem rs_same (hb : b < K.length) : Heap.read1 (K.set b (.cells l 0 false)) ⟨b, j, some 0⟩ = l[j]? := by
  simp [Heap.read1, hb]
theorem rs_ne (h : (b = c) = False) : Heap.read1 (K.set b o) ⟨c, j, v⟩ = Heap.read1 K ⟨c, j, v⟩ := by
  unfold Heap.read1; simp only; rw [List.getElem?_set_ne (by rw [ne_eq, h]; exact not_false)]
theorem rr_same {n : Nat} (hb : b < K.length) (hl : l.length = n) : Heap.read (K.set b (.cells l 0 false)) ⟨b, 0, some 0⟩ n = some l := by
  subst hl; simp [Heap.read, hb]
theorem rr_ne {n : Nat} (h : (b = c) = False) : Heap.read (K.set b o) ⟨c, j, v⟩ n = Heap.read K ⟨c, j, v⟩ n := by
  unfold Heap.read; simp only; rw [List.getElem?_set_ne (by rw [ne_eq, h]; exact not_false)]
theorem ws_same {x : Value} (hb : b < K.length) (hj : j < l.length) : Heap.write1 (K.set b (.cells l 0 false)) ⟨b, j, some 0⟩ x = some (K.set b (.cells (l.set j x) 0 false)) := by
  simp [Heap.write1, hb, hj]
theorem ww_same {xs : List Value} (hb : b < K.length) (hj : j + xs.length ≤ l.length) : Heap.write (K.set b (.cells l 0 false)) ⟨b, j, some 0⟩ xs = some (K.set b (.cells (splice l j xs) 0 false)) := by
  simp [Heap.write, hb, hj]
theorem ws_at {x : Value} (e : K[b]? = some (.cells l 0 false)) (hj : j < l.length) : Heap.write1 K ⟨b, j, some 0⟩ x = some (K.set b (.cells (l.set j x) 0 false)) := by
  simp [Heap.write1, e, hj]
theorem ww_all {xs : List Value} (e : K[b]? = some (.cells l 0 false)) (hl : l.length = xs.length) : Heap.write K ⟨b, 0, some 0⟩ xs = some (K.set b (.cells xs 0 false)) := by
  simp [Heap.write, e, hl, splice, List.drop_eq_nil_of_le (Nat.le_of_eq hl)]
theorem rs_at (e : K[b]? = some (.cells l 0 false)) : Heap.read1 K ⟨b, j, some 0⟩ = l[j]? := by simp [Heap.read1, e]
theorem rr_at {n : Nat} (e : K[b]? = some (.cells l 0 false)) (hl : l.length = n) : Heap.read K ⟨b, 0, some 0⟩ n = some l := by
  subst hl; simp [Heap.read, e]
theorem rr_mid {n : Nat} {m : List Value} (e : K[b]? = some (.cells l 0 false)) (hl : (l.drop j).take n = m) (hn : j + n ≤ l.length) : Heap.read K ⟨b, j, some 0⟩ n = some m := by
  subst hl; simp [Heap.read, e, hn]
theorem set_self (e : K[b]? = some o) : K.set b o = K := by
  apply List.ext_getElem?
  intro i
  by_cases h : b = i
  · subst h; rw [List.getElem?_set_self (List.getElem?_eq_some_iff.1 e).1, e]
  · rw [List.getElem?_set_ne h]
end
theorem splice2 (a b c d e f x y : Value) (r : List Value) : splice (a :: b :: c :: d :: e :: f :: r) 4 [x, y] = a :: b :: c :: d :: x :: y :: r := rfl
theorem regsL_set (R : List Int) (n : Nat) (x : Int) : (regsL R).set n (.int .i64 x) = regsL (R.set n x) := by
  unfold regsL; rw [List.map_set]
/-- The function answers a row of cells and three more. -/
def out4E (R : Value → Heap → Prop) (h H : Heap) (x y z : Value) : Option (List Value) → Prop
  | some l => R (tup [agg l, x, y, z]) (finish h (tup [agg l, x, y, z]) H)
  | none => False
def cells4E (R : Value → Heap → Prop) (h H : Heap) (n : Nat) (x y z : Value) : Value → Prop
  | .pointer (some p) => out4E R h H x y z (H.read p n)
  | _ => False
theorem Q_retE4 (h H : Heap) (i n j k m : Nat) (t : List Value) (R : Value → Heap → Prop) : retE h [.cells i n, .tmp j, .tmp k, .tmp m] R .ret ⟨t, H⟩ = cells4E R h H n (t.getD j undef) (t.getD k undef) (t.getD m undef) (t.getD i undef) := by
  unfold retE
  apply propext
  simp only [endF, aResults, aRes, List.mapM_cons, List.mapM_nil]
  generalize t.getD i undef = x
  generalize t.getD j undef = y
  generalize t.getD k undef = z
  generalize t.getD m undef = w
  cases x with
  | pointer p =>
    cases p with
    | none => simp [cells4E]
    | some p =>
      simp only [cells4E]
      cases hr : H.read p n with
      | none => simp [out4E]
      | some l =>
        simp only [out4E]
        constructor
        · rintro ⟨v, h', e, r⟩
          simp at e
          obtain ⟨rfl, rfl⟩ := e
          exact r
        · intro r
          exact ⟨_, _, by simp, r⟩
  | _ => simp [cells4E]
theorem cells4E_ptr (R : Value → Heap → Prop) (h H : Heap) (n : Nat) (x y z : Value) (p : Addr) : cells4E R h H n x y z (.pointer (some p)) = out4E R h H x y z (H.read p n) := rfl
theorem out4E_some (R : Value → Heap → Prop) (h H : Heap) (x y z : Value) (l : List Value) : out4E R h H x y z (some l) = R (tup [agg l, x, y, z]) (finish h (tup [agg l, x, y, z]) H) := rfl
/-- The memory of a run. -/
structure LH (h : Heap) (pb po : Nat) (s : LS) (K : Heap) (path evs : Value) : Prop where
  pre : Pre h K
  hb : h.length ≤ pb
  ho : h.length ≤ po
  ne : (pb = po) = False
  R8 : s.R.length = 8
  rg : K[pb]? = some (.cells (regsL s.R) 0 false)
  ou : K[po]? = some (.cells (List.replicate 8 (.int .i64 0)) 0 false)
  pa : Own h K path 1 (s.path.map intR)
  ev : Own h K evs 15 (s.evs.map evL)
  cpb : blk path ≠ some pb
  cpo : blk path ≠ some po
  ceb : blk evs ≠ some pb
  ceo : blk evs ≠ some po
  ap : ∀ b, blk path = some b → blk evs ≠ some b
/-- The memory behind an instruction's path, at hand: pt the instruction, pe the event. -/
structure LK (h : Heap) (pb po pt pe : Nat) (i : Ins) (s : LS) (K : Heap) (path evs : Value) : Prop where
  lh : LH h pb po s K path evs
  ins : K[pt]? = some (.cells (insL i) 0 false)
  lt : pe < K.length
  nb : (pe = pb) = False
  no : (pe = po) = False
  nt : (pe = pt) = False
  tb : (pb = pt) = False
  be : (pb = pe) = False
  low : h.length ≤ pe
  cp : blk path ≠ some pe
  ce : blk evs ≠ some pe
section
variable {h K : Heap} {pb po pt pe : Nat} {i : Ins} {s : LS} {path evs : Value}
theorem LH.setE (e : LH h pb po s K path evs) {p : Nat} (hp : h.length ≤ p) (o : AObj) (n1 : (p = pb) = False) (n2 : (p = po) = False) (n3 : blk path ≠ some p) (n4 : blk evs ≠ some p) : LH h pb po s (K.set p o) path evs :=
  have f1 : p ≠ pb := by rw [ne_eq, n1]; exact not_false
  have f2 : p ≠ po := by rw [ne_eq, n2]; exact not_false
  ⟨e.pre.set hp o, e.hb, e.ho, e.ne, e.R8, by rw [List.getElem?_set_ne f1]; exact e.rg, by rw [List.getElem?_set_ne f2]; exact e.ou,
    e.pa.keep fun b hb o' ho => by rw [List.getElem?_set_ne (by rintro rfl; exact n3 hb)]; exact ho,
    e.ev.keep fun b hb o' ho => by rw [List.getElem?_set_ne (by rintro rfl; exact n4 hb)]; exact ho, e.cpb, e.cpo, e.ceb, e.ceo, e.ap⟩
theorem LH.setR (e : LH h pb po s K path evs) {R : List Int} (hR : R.length = 8) (pc : Nat) (rd : List Int) : LH h pb po ⟨pc, R, rd, s.path, s.evs⟩ (K.set pb (.cells (regsL R) 0 false)) path evs :=
  have f2 : pb ≠ po := by rw [ne_eq, e.ne]; exact not_false
  ⟨e.pre.set e.hb _, e.hb, e.ho, e.ne, hR, by rw [List.getElem?_set_self (List.getElem?_eq_some_iff.1 e.rg).1], by rw [List.getElem?_set_ne f2]; exact e.ou,
    e.pa.keep fun b hb o' ho => by rw [List.getElem?_set_ne (by rintro rfl; exact e.cpb hb)]; exact ho,
    e.ev.keep fun b hb o' ho => by rw [List.getElem?_set_ne (by rintro rfl; exact e.ceb hb)]; exact ho, e.cpb, e.cpo, e.ceb, e.ceo, e.ap⟩
theorem LH.at (e : LH h pb po s K path evs) (pc : Nat) (rd : List Int) : LH h pb po ⟨pc, s.R, rd, s.path, s.evs⟩ K path evs :=
  ⟨e.pre, e.hb, e.ho, e.ne, e.R8, e.rg, e.ou, e.pa, e.ev, e.cpb, e.cpo, e.ceb, e.ceo, e.ap⟩
theorem LH.more (e : LH h pb po s K path evs) (L : Heap) : LH h pb po s (K ++ L) path evs :=
  ⟨e.pre.more L, e.hb, e.ho, e.ne, e.R8, (Kept.more K L) _ _ e.rg, (Kept.more K L) _ _ e.ou, e.pa.more L, e.ev.more L, e.cpb, e.cpo, e.ceb, e.ceo, e.ap⟩
theorem LH.lb (e : LH h pb po s K path evs) : pb < K.length ∧ po < K.length := ⟨(List.getElem?_eq_some_iff.1 e.rg).1, (List.getElem?_eq_some_iff.1 e.ou).1⟩
/-- One more event. -/
theorem LH.push (e : LH h pb po s K path evs) (x : Ev) (hn : s.evs.length < 1000) : ∃ evs' K', appendTo (K ++ [.cells (evL x) 0 false]) 15 96 evs (srcOf (K ++ [.cells (evL x) 0 false]) 15 (.slice (some ⟨K.length, 0, some 0⟩) 1 15)) = some (evs', K') ∧
    LH h pb po ⟨s.pc, s.R, s.rd, s.path, s.evs ++ [x]⟩ K' path evs' := by
  obtain ⟨evs', K', u1, u2, u3, u4, u5, u6⟩ := e.ev.push e.pre (row := evL x) (bytes := 96) (evL_len x) (by rw [List.length_map]; unfold roomFor; omega)
  refine ⟨evs', K', u1, ⟨u3, e.hb, e.ho, e.ne, e.R8, u5 _ _ e.rg e.ceb, u5 _ _ e.ou e.ceo, e.pa.keep fun b hb o ho => u5 _ _ ho (e.ap b hb), by rw [List.map_append]; exact u2, e.cpb, e.cpo, ?_, ?_, ?_⟩⟩
  · rcases u6 with h | ⟨j, h, h'⟩
    · rw [h]; exact e.ceb
    · rw [h]; have := e.lb.1; simp; omega
  · rcases u6 with h | ⟨j, h, h'⟩
    · rw [h]; exact e.ceo
    · rw [h]; have := e.lb.2; simp; omega
  · intro b hb
    rcases u6 with h | ⟨j, h, h'⟩
    · rw [h]; exact e.ap b hb
    · rw [h]; have := (e.pa.lt hb).2; simp; omega
/-- One more place on the path. -/
theorem LH.go (e : LH h pb po s K path evs) (i : Ins) (v : List Value) (x : Int) (hn : s.path.length < 1000) :
    ∃ path' K', appendTo (K ++ [.cells (insL i) 0 false, .cells v 0 false, .cells [.int .i64 x] 0 false]) 1 8 path (srcOf (K ++ [.cells (insL i) 0 false, .cells v 0 false, .cells [.int .i64 x] 0 false]) 1 (.slice (some ⟨K.length + 2, 0, some 0⟩) 1 1)) = some (path', K'.set (K.length + 1) (.cells v 0 false)) ∧
      LK h pb po K.length (K.length + 1) i ⟨s.pc, s.R, s.rd, s.path ++ [x], s.evs⟩ K' path' evs := by
  have e2 := e.more [.cells (insL i) 0 false, .cells v 0 false]
  obtain ⟨path', K', u1, u2, u3, u4, u5, u6⟩ := e2.pa.push e2.pre (row := [.int .i64 x]) (bytes := 8) rfl (by rw [List.length_map]; unfold roomFor; omega)
  have lb := e.lb
  have hp : ∀ b, blk path = some b → b < K.length := fun b hb => (e.pa.lt hb).2
  have he : ∀ b, blk evs = some b → b < K.length := fun b hb => (e.ev.lt hb).2
  have k0 : K'[K.length]? = some (.cells (insL i) 0 false) := u5 _ _ (by simp) (fun h => by have := hp _ h; omega)
  have k1 : K'[K.length + 1]? = some (.cells v 0 false) := u5 _ _ (by rw [List.getElem?_append_right (by omega)]; simp) (fun h => by have := hp _ h; omega)
  have hl : K.length + 2 ≤ K'.length := by simpa using u4
  have c6 : ∀ b, b < K.length + 2 → blk path ≠ some b → blk path' ≠ some b := by
    intro b hb hne
    rcases u6 with h | ⟨j, h, h'⟩
    · rw [h]; exact hne
    · rw [h]; simp at h' ⊢; omega
  refine ⟨path', K', ?_, ⟨⟨u3, e.hb, e.ho, e.ne, e.R8, u5 _ _ e2.rg e.cpb, u5 _ _ e2.ou e.cpo, by rw [List.map_append]; exact u2, e2.ev.keep fun b hb o ho => u5 _ _ ho (fun h => e.ap b h hb), c6 _ (by omega) e.cpb, c6 _ (by omega) e.cpo, e.ceb, e.ceo, fun b hb hev => ?_⟩, k0, by omega, ?_, ?_, ?_, ?_, ?_, ?_, ?_, ?_⟩⟩
  · rw [set_self k1]
    simpa [List.append_assoc] using u1
  · rcases u6 with h | ⟨j, h, h'⟩
    · exact e.ap b (h ▸ hb) hev
    · rw [h] at hb; have := he b hev; simp at hb h'; omega
  · exact eq_false (by have := lb.1; omega)
  · exact eq_false (by have := lb.2; omega)
  · exact eq_false (by omega)
  · exact eq_false (by have := lb.1; omega)
  · exact eq_false (by have := lb.1; omega)
  · have := e.pre.le; omega
  · exact c6 _ (by omega) (fun h => by have := hp _ h; omega)
  · exact fun h => by have := he _ h; omega
end
end Go.Proofs.Ytjodnadlplicmaa.AM
