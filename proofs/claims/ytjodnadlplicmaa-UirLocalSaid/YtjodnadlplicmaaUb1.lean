/-
  A code run by itself: what each instruction does.
  Conditions: none.
-/
import Derived.Test.YtjodnadlplicmaaFc0
namespace Go.Proofs.Ytjodnadlplicmaa.AM
open Go.RowKit
set_option linter.unusedSimpArgs false
set_option linter.unusedVariables false

/-- An event. -/
structure Ev where
  pos : Int
  place : Int
  op : Int
  loc : Int
  mask : Int
  reads : Bool
  writes : Bool
  old : Int
  new : Int
  acq : Bool
  weak : Bool
  rel : Bool
  pred : Int
  succ : Int
def evL (e : Ev) : List Value := [.int .i64 0, .int .i64 e.pos, .int .i64 e.place, .int .i64 e.op, .int .i64 e.loc, .int .i64 e.mask, .bool e.reads, .bool e.writes, .int .i64 e.old, .int .i64 e.new, .bool e.acq, .bool e.weak, .bool e.rel, .int .i64 e.pred, .int .i64 e.succ]
theorem evL_len (e : Ev) : (evL e).length = 15 := rfl
/-- A thread under way. -/
structure LS where
  pc : Nat
  R : List Int
  rd : List Int
  path : List Int
  evs : List Ev
/-- What a register holds. -/
def reg (R : List Int) (r : Int) : Int := R.getD r.toNat 0
def valR (R : List Int) (r none : Int) : Int := if r = -1 then none else reg R r
def isEv (i : Ins) : Bool := memV i || (i.op == 7 || i.op == 8)
def oldV (i : Ins) (rd : List Int) : Int := if readsV i then getV (rd.headD 0) 0 i.size else 0
def spanV (i : Ins) (R : List Int) : Int := maskV (placeV i.off (valR R i.index 0) i.size) i.size
def newV (i : Ins) (R : List Int) (old : Int) : Int := if i.op = 5 then getV (valR R i.a i.imm) 0 i.size else if i.op = 6 then rmwV i.fn old (reg R i.a) i.size else 0
def evV (i : Ins) (s : LS) : Ev := ⟨s.path.length, s.pc, i.op, if memV i then i.loc else 0, if memV i then spanV i s.R else 0, readsV i, writesV i, oldV i s.rd, newV i s.R (oldV i s.rd), i.acq, i.weak, i.rel, i.pred, i.succ⟩
def gotV (i : Ins) (s : LS) : Int := if i.op = 1 then i.imm else if i.op = 2 then reg s.R i.a else if i.op = 3 then aluV i.fn (reg s.R i.a) (valR s.R i.b i.imm) else oldV i s.rd
def nextV (i : Ins) (s : LS) : Nat := if i.op = 9 ∧ (reg s.R i.a == 0) = i.zero then i.to.toNat else s.pc + 1
def regsN (i : Ins) (s : LS) : List Int := if givesV i = -1 then s.R else s.R.set (givesV i).toNat (gotV i s)
def stepV (i : Ins) (s : LS) : Option LS :=
  if readsV i = true ∧ s.rd = [] then none
  else some ⟨nextV i s, regsN i s, if readsV i then s.rd.tail else s.rd, s.path ++ [(s.pc : Int)], if isEv i then s.evs ++ [evV i s] else s.evs⟩
/-- So many steps. -/
def runV (code : List Ins) : Nat → LS → Option LS
  | 0, s => some s
  | f + 1, s => match code[s.pc]? with
    | none => some s
    | some i => match stepV i s with
      | none => none
      | some t => runV code f t
/-- Branches go forward. -/
def Fwd (code : List Ins) : Prop := ∀ (k : Nat) (i : Ins), code[k]? = some i → i.op = 9 → (k : Int) < i.to ∧ i.to ≤ code.length
theorem step_fwd {code : List Ins} (hf : Fwd code) {s t : LS} {i : Ins} (hi : code[s.pc]? = some i) (h : stepV i s = some t) : s.pc < t.pc ∧ t.pc ≤ code.length := by
  have hk := (List.getElem?_eq_some_iff.1 hi).1
  unfold stepV at h
  split at h
  · cases h
  · cases h
    show s.pc < nextV i s ∧ nextV i s ≤ code.length
    unfold nextV
    split
    · rename_i h9
      have := hf _ _ hi h9.1
      omega
    · omega
theorem runV_done {code : List Ins} {s : LS} (h : code.length ≤ s.pc) : ∀ f, runV code f s = some s
  | 0 => rfl
  | f + 1 => by rw [runV, List.getElem?_eq_none h]
theorem runV_enough {code : List Ins} (hf : Fwd code) : ∀ (f g : Nat) (s : LS), code.length - s.pc ≤ f → code.length - s.pc ≤ g → runV code f s = runV code g s
  | 0, g, s, h, _ => by rw [runV_done (by omega), runV_done (by omega)]
  | f + 1, 0, s, _, h => by rw [runV_done (by omega), runV_done (by omega)]
  | f + 1, g + 1, s, h1, h2 => by
    rw [runV, runV]
    cases hi : code[s.pc]? with
    | none => rfl
    | some i =>
      cases hs : stepV i s with
      | none => simp only [hs]
      | some t =>
        have := step_fwd hf hi hs
        simp only [hs]
        exact runV_enough hf f g t (by omega) (by omega)
/-- To its end. -/
def endV (code : List Ins) (s : LS) : Option LS := runV code code.length s
theorem endV_done {code : List Ins} {s : LS} (h : code.length ≤ s.pc) : endV code s = some s := runV_done h _
theorem endV_step {code : List Ins} (hf : Fwd code) {s : LS} {i : Ins} (hi : code[s.pc]? = some i) : endV code s = (stepV i s).bind (endV code) := by
  unfold endV
  have hk := (List.getElem?_eq_some_iff.1 hi).1
  rw [runV_enough hf code.length (code.length + 1) s (by omega) (by omega), runV, hi]
  cases hs : stepV i s <;> simp only [hs, Option.bind]
def startV (R rd : List Int) : LS := ⟨0, R, rd, [], []⟩
/-- What a code comes to, run by itself. -/
def localV (code : List Ins) (R rd : List Int) : Option LS := endV code (startV R rd)
/-- A register. -/
def isReg (r : Int) : Prop := ∃ n : Nat, r = (n : Int) ∧ n < 8
theorem regV_is {r : Int} (h : regV r = true) : isReg r := by
  unfold regV at h; simp at h; exact ⟨r.toNat, by omega, by omega⟩
def isReg1 (r : Int) : Prop := r = -1 ∨ isReg r
theorem regV_is1 {r : Int} (h : (r == -1 || regV r) = true) : isReg1 r := by
  simp only [Bool.or_eq_true, beq_iff_eq] at h
  rcases h with h | h
  · exact .inl h
  · exact .inr (regV_is h)
theorem access_index {i : Ins} (h : accessV i = true) : isReg1 i.index := by
  unfold accessV accessF at h
  simp only [Bool.and_eq_true] at h
  exact regV_is1 h.2.2
/-- The kinds of instructions. -/
inductive Kind (i : Ins) : Prop
  | const (h : i.op = 1) (d : isReg i.dst)
  | move (h : i.op = 2) (d : isReg i.dst) (a : isReg i.a)
  | alu (h : i.op = 3) (d : isReg i.dst) (a : isReg i.a) (b : isReg1 i.b)
  | load (h : i.op = 4) (d : isReg i.dst) (x : isReg1 i.index)
  | store (h : i.op = 5) (a : isReg1 i.a) (x : isReg1 i.index)
  | rmw (h : i.op = 6) (d : isReg i.dst) (a : isReg i.a) (x : isReg1 i.index)
  | fence (h : i.op = 7)
  | isb (h : i.op = 8)
  | branch (h : i.op = 9) (a : isReg i.a)
theorem okI_kind {i : Ins} (h : okI i = true) : Kind i := by
  unfold okI at h
  rcases op_cases i with h1 | ⟨n1, h2 | ⟨n2, h3 | ⟨n3, h4 | ⟨n4, h5 | ⟨n5, h6 | ⟨n6, h7 | ⟨n7, h8 | ⟨n8, h9 | n9⟩⟩⟩⟩⟩⟩⟩⟩
  · rw [if_pos h1] at h; simp only [Bool.and_eq_true] at h
    exact .const (by simpa using h1) (regV_is h.1)
  · rw [n1, if_neg (by simp), if_pos h2] at h; simp only [Bool.and_eq_true] at h
    exact .move (by simpa using h2) (regV_is h.1) (regV_is h.2.1)
  · rw [n1, n2, if_neg (by simp), if_neg (by simp), if_pos h3] at h; simp only [Bool.and_eq_true] at h
    refine .alu (by simpa using h3) (regV_is h.1) (regV_is h.2.1) ?_
    have hb := h.2.2.2.2.1
    simp only [Bool.or_eq_true, Bool.and_eq_true, beq_iff_eq] at hb
    rcases hb with hb | hb
    · exact .inl hb
    · exact .inr (regV_is hb.1)
  · rw [n1, n2, n3, if_neg (by simp), if_neg (by simp), if_neg (by simp), if_pos h4] at h; simp only [Bool.and_eq_true] at h
    exact .load (by simpa using h4) (regV_is h.1) (access_index h.2.1)
  · rw [n1, n2, n3, n4, if_neg (by simp), if_neg (by simp), if_neg (by simp), if_neg (by simp), if_pos h5] at h; simp only [Bool.and_eq_true] at h
    refine .store (by simpa using h5) ?_ (access_index h.1)
    have hb := h.2.1
    simp only [Bool.or_eq_true, Bool.and_eq_true, beq_iff_eq] at hb
    rcases hb with hb | hb
    · exact .inl hb
    · exact .inr (regV_is hb.1)
  · rw [n1, n2, n3, n4, n5, if_neg (by simp), if_neg (by simp), if_neg (by simp), if_neg (by simp), if_neg (by simp), if_pos h6] at h; simp only [Bool.and_eq_true] at h
    exact .rmw (by simpa using h6) (regV_is h.1) (regV_is h.2.1) (access_index h.2.2.1)
  · exact .fence (by simpa using h7)
  · exact .isb (by simpa using h8)
  · rw [n1, n2, n3, n4, n5, n6, n7, n8, if_neg (by simp), if_neg (by simp), if_neg (by simp), if_neg (by simp), if_neg (by simp), if_neg (by simp), if_neg (by simp), if_neg (by simp), if_pos h9] at h; simp only [Bool.and_eq_true] at h
    exact .branch (by simpa using h9) (regV_is h.1)
  · rw [n1, n2, n3, n4, n5, n6, n7, n8, n9] at h; simp at h
end Go.Proofs.Ytjodnadlplicmaa.AM
