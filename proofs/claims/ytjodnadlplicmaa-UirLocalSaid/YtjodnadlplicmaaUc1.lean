/-
  A register that no instruction uses: the plain part; rows compared with themselves.
  Conditions: none.
-/
import Derived.Test.YtjodnadlplicmaaUb9
import Derived.Test.YtjodnadlplicmaaUb6
import Derived.Test.YtjodnadlplicmaaUb7
namespace Go.Proofs.Ytjodnadlplicmaa.AM
open Go.RowKit
set_option linter.unusedSimpArgs false
set_option linter.unusedVariables false

theorem eqAgg_ev_self (H : Heap) (neg : Bool) (e : Ev) : eqAggO H neg (List.replicate 6 .int ++ (List.replicate 2 .bool ++ (List.replicate 2 .int ++ (List.replicate 3 .bool ++ List.replicate 2 .int)))) (agg (evL e)) (agg (evL e)) = some (.bool (true != neg), H) := by
  refine eqAgg_some H (by simp [evL]) (by simp [evL]) ?_
  simp [evL, rowEq, leafEq, List.replicate_succ]
theorem rowEq_self : ∀ R : List Int, rowEq (List.replicate R.length .int) (regsL R) (regsL R) = some true
  | [] => rfl
  | x :: R => by
    have := rowEq_self R
    unfold regsL at this ⊢
    simp [List.replicate_succ, rowEq, leafEq, this]
theorem eqAgg_regs_self (H : Heap) (neg : Bool) {R : List Int} (hR : R.length = 8) : eqAggO H neg (List.replicate 8 .int) (agg (regsL R)) (agg (regsL R)) = some (.bool (true != neg), H) := by
  refine eqAgg_some H (by rw [regsL_len, hR]; simp) (by rw [regsL_len, hR]; simp) ?_
  have := rowEq_self R
  rw [hR] at this; exact this
theorem and_7 (x : Int) : ∃ n : Nat, Go.bits .and .i64 x 7 = (n : Int) ∧ n < 8 := by
  unfold Go.bits
  refine ⟨((BitVec.ofInt 64 x) &&& (BitVec.ofInt 64 7)).toNat, ?_, ?_⟩
  · have h : ((BitVec.ofInt 64 x) &&& (BitVec.ofInt 64 7)).toNat ≤ 7 := by rw [BitVec.toNat_and]; exact Nat.and_le_right
    exact wrapS (by show -9223372036854775808 ≤ ((((BitVec.ofInt 64 x) &&& (BitVec.ofInt 64 7)).toNat : Nat) : Int) ∧ ((((BitVec.ofInt 64 x) &&& (BitVec.ofInt 64 7)).toNat : Nat) : Int) ≤ 9223372036854775807; omega)
  · have h : ((BitVec.ofInt 64 x) &&& (BitVec.ofInt 64 7)).toNat ≤ 7 := by rw [BitVec.toNat_and]; exact Nat.and_le_right
    omega
/-- Alike but for one register. -/
structure Alike (n : Nat) (s s' : LS) : Prop where
  pc : s'.pc = s.pc
  rd : s'.rd = s.rd
  path : s'.path = s.path
  evs : s'.evs = s.evs
  l : s.R.length = 8
  l' : s'.R.length = 8
  R : s'.R.set n 0 = s.R.set n 0
theorem Alike.reg {n : Nat} {s s' : LS} (e : Alike n s s') {r : Int} (h : isReg r) (hn : r ≠ (n : Int)) : AM.reg s'.R r = AM.reg s.R r := by
  have hne : n ≠ r.toNat := by have := h.nn; omega
  have h1 : (s'.R.set n 0)[r.toNat]? = (s.R.set n 0)[r.toNat]? := by rw [e.R]
  rw [List.getElem?_set_ne hne, List.getElem?_set_ne hne] at h1
  unfold AM.reg
  rw [List.getD_eq_getElem?_getD, List.getD_eq_getElem?_getD, h1]
theorem Alike.val {n : Nat} {s s' : LS} (e : Alike n s s') {r none : Int} (h : isReg1 r) (hn : r ≠ (n : Int)) : valR s'.R r none = valR s.R r none := by
  unfold valR
  rcases h with rfl | h
  · rfl
  · have := h.nn
    rw [if_neg (by omega), if_neg (by omega), e.reg h hn]
theorem set_alike {n d : Nat} {x : Int} {A B : List Int} (h : A.set n 0 = B.set n 0) : (A.set d x).set n 0 = (B.set d x).set n 0 := by
  by_cases hd : d = n
  · subst hd; rw [List.set_set, List.set_set]; exact h
  · rw [List.set_comm _ _ hd, List.set_comm _ _ hd, h]
theorem uses_in {i : Ins} {x : Int} (h : x ∈ rawV i) (hx : x ≠ -1) : x ∈ usesV i := by
  unfold usesV; rw [List.mem_filter]; exact ⟨h, by simp [isU, hx]⟩
theorem Alike.step {n : Nat} {s s' : LS} (e : Alike n s s') {i : Ins} (kind : Kind i) (hu : ∀ x ∈ usesV i, x ≠ (n : Int)) :
    (stepV i s = none ∧ stepV i s' = none) ∨ ∃ t t', stepV i s = some t ∧ stepV i s' = some t' ∧ Alike n t t' := by
  have hrd := e.rd
  have hpc := e.pc
  have no : ∀ {x : Int}, x ∈ rawV i → isReg1 x → x ≠ (n : Int) := by
    intro x hx h
    rcases h with rfl | h
    · omega
    · have := h.nn
      exact hu x (uses_in hx (by omega))
  have hold : oldV i s'.rd = oldV i s.rd := by rw [hrd]
  have key : nextV i s' = nextV i s ∧ gotV i s' = gotV i s ∧ evV i s' = evV i s := by
    cases kind with
    | const h d => refine ⟨by simp [nextV, h, hpc], by simp [gotV, h], by simp [evV, h, hpc, e.path, hrd, newV, memV, readsV, writesV]⟩
    | move h d a =>
      have na := no (x := i.a) (by simp [rawV, h]) (.inr a)
      refine ⟨by simp [nextV, h, hpc], by simp [gotV, h, e.reg a na], by simp [evV, h, hpc, e.path, hrd, newV, memV, readsV, writesV]⟩
    | alu h d a b =>
      have na := no (x := i.a) (by simp [rawV, h]) (.inr a)
      have nb := no (x := i.b) (by simp [rawV, h]) b
      refine ⟨by simp [nextV, h, hpc], by simp [gotV, h, e.reg a na, e.val b nb], by simp [evV, h, hpc, e.path, hrd, newV, memV, readsV, writesV]⟩
    | load h d x =>
      have nx := no (x := i.index) (by simp [rawV, h]) x
      refine ⟨by simp [nextV, h, hpc], by simp [gotV, h, hrd], by simp [evV, h, hpc, e.path, hrd, newV, spanV, e.val x nx]⟩
    | store h a x =>
      have nx := no (x := i.index) (by simp [rawV, h]) x
      have na := no (x := i.a) (by simp [rawV, h]) a
      refine ⟨by simp [nextV, h, hpc], by simp [gotV, h, hrd], by simp [evV, h, hpc, e.path, hrd, newV, spanV, e.val x nx, e.val a na]⟩
    | rmw h d a x =>
      have nx := no (x := i.index) (by simp [rawV, h]) x
      have na := no (x := i.a) (by simp [rawV, h]) (.inr a)
      refine ⟨by simp [nextV, h, hpc], by simp [gotV, h, hrd], by simp [evV, h, hpc, e.path, hrd, newV, spanV, e.val x nx, e.reg a na]⟩
    | fence h => refine ⟨by simp [nextV, h, hpc], by simp [gotV, h, hrd], by simp [evV, h, hpc, e.path, hrd, newV, memV, readsV, writesV]⟩
    | isb h => refine ⟨by simp [nextV, h, hpc], by simp [gotV, h, hrd], by simp [evV, h, hpc, e.path, hrd, newV, memV, readsV, writesV]⟩
    | branch h a =>
      have na := no (x := i.a) (by simp [rawV, h]) (.inr a)
      refine ⟨by simp [nextV, h, hpc, e.reg a na], by simp [gotV, h, hrd], by simp [evV, h, hpc, e.path, hrd, newV, memV, readsV, writesV]⟩
  obtain ⟨k1, k2, k3⟩ := key
  unfold stepV
  rw [hrd]
  by_cases hc : readsV i = true ∧ s.rd = []
  · rw [if_pos hc, if_pos hc]; exact .inl ⟨rfl, rfl⟩
  · rw [if_neg hc, if_neg hc]
    refine .inr ⟨_, _, rfl, rfl, ⟨k1, rfl, by simp only [e.path, hpc], by simp only [e.evs, k3], by simp only [regsN_len]; exact e.l, by simp only [regsN_len]; exact e.l', ?_⟩⟩
    show (regsN i s').set n 0 = (regsN i s).set n 0
    unfold regsN
    split
    · exact e.R
    · rw [k2]; exact set_alike e.R
/-- Does an instruction give it? -/
def givesN (n : Nat) (code : List Ins) : Bool := code.any fun i => givesV i == (n : Int)
theorem Alike.run {code : List Ins} {n : Nat} (hf : Fwd code) (hk : ∀ i ∈ code, Kind i) (hu : ∀ i ∈ code, ∀ x ∈ usesV i, x ≠ (n : Int)) : ∀ (f : Nat) {s s' : LS}, Alike n s s' →
    (runV code f s = none ∧ runV code f s' = none) ∨ ∃ t t', runV code f s = some t ∧ runV code f s' = some t' ∧ Alike n t t' ∧ (givesN n code = false → t'.R[n]? = s'.R[n]?)
  | 0, s, s', e => .inr ⟨s, s', rfl, rfl, e, fun _ => rfl⟩
  | f + 1, s, s', e => by
    rw [runV, runV, e.pc]
    cases hi : code[s.pc]? with
    | none => exact .inr ⟨s, s', rfl, rfl, e, fun _ => rfl⟩
    | some i =>
      have hm : i ∈ code := List.mem_of_getElem? hi
      rcases e.step (hk i hm) (hu i hm) with ⟨h1, h2⟩ | ⟨t, t', h1, h2, e'⟩
      · simp only [h1, h2]; exact .inl ⟨trivial, trivial⟩
      · simp only [h1, h2]
        rcases Alike.run hf hk hu f e' with h3 | ⟨u, u', h3, h4, h5, h6⟩
        · exact .inl h3
        · refine .inr ⟨u, u', h3, h4, h5, fun hg => ?_⟩
          rw [h6 hg]
          unfold stepV at h2
          split at h2
          · cases h2
          · cases h2
            show (regsN i s')[n]? = s'.R[n]?
            unfold regsN
            split
            · rfl
            · rename_i hne
              have hgi : givesV i ≠ (n : Int) := by
                unfold givesN at hg
                rw [List.any_eq_false] at hg
                have := hg i hm
                simpa using this
              have nn : 0 ≤ givesV i := by
                cases hk i hm with
                | const h d => simp only [givesV, h]; exact d.nn
                | move h d a => simp only [givesV, h]; exact d.nn
                | alu h d a b => simp only [givesV, h]; exact d.nn
                | load h d x => simp only [givesV, h]; exact d.nn
                | rmw h d a x => simp only [givesV, h]; exact d.nn
                | store h a x => simp [givesV, h] at hne
                | fence h => simp [givesV, h] at hne
                | isb h => simp [givesV, h] at hne
                | branch h a => simp [givesV, h] at hne
              rw [List.getElem?_set_ne (by omega)]
theorem outV_quiet {code : List Ins} {R rd : List Int} (hR : R.length = 8) {n : Nat} (hn : n < 8) (v : Int) (hu : ∀ i ∈ code, ∀ x ∈ usesV i, x ≠ (n : Int)) :
    (outV code (R.set n v) rd).e = (outV code R rd).e ∧ (outV code (R.set n v) rd).evs = (outV code R rd).evs ∧ (outV code (R.set n v) rd).path = (outV code R rd).path ∧ (outV code (R.set n v) rd).R.set n 0 = (outV code R rd).R.set n 0 ∧
      (givesN n code = false → (outV code R rd).e = 0 → (outV code (R.set n v) rd).R.getD n 0 = v) := by
  by_cases hr : rightC code = true
  · have rc := rightC_rc hr
    have al : Alike n (startV R rd) (startV (R.set n v) rd) := ⟨rfl, rfl, rfl, rfl, hR, by simp [startV, hR], by simp [startV]⟩
    have hk : ∀ i ∈ code, Kind i := fun i hi => by obtain ⟨k, hk, rfl⟩ := List.mem_iff_getElem.1 hi; exact okI_kind (rightV_ok (rc.all k hk))
    unfold outV
    rw [if_pos hr, if_pos hr]
    rcases Alike.run rc.fwd hk hu code.length al with ⟨h1, h2⟩ | ⟨t, t', h1, h2, h3, h4⟩
    · have e1 : localV code R rd = none := h1
      have e2 : localV code (R.set n v) rd = none := h2
      rw [e1, e2]; exact ⟨rfl, rfl, rfl, rfl, fun _ h => by cases h⟩
    · have e1 : localV code R rd = some t := h1
      have e2 : localV code (R.set n v) rd = some t' := h2
      rw [e1, e2]
      refine ⟨rfl, h3.evs, h3.path, h3.R, fun hg _ => ?_⟩
      show t'.R.getD n 0 = v
      rw [List.getD_eq_getElem?_getD, h4 hg]
      show ((R.set n v)[n]?).getD 0 = v
      rw [List.getElem?_set_self (by omega)]; rfl
  · unfold outV
    rw [if_neg hr, if_neg hr]
    exact ⟨rfl, rfl, rfl, rfl, fun _ h => by cases h⟩
end Go.Proofs.Ytjodnadlplicmaa.AM
