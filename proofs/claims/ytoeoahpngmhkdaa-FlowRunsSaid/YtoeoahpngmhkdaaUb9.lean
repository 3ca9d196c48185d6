/-
  The law on the steps of a run.
  Conditions: none.
-/
import Derived.Test.YtoeoahpngmhkdaaUb8
namespace Go.Proofs.Ytoeoahpngmhkdaa.AM
open Go.RowKit
set_option linter.unusedSimpArgs false
set_option linter.unusedVariables false

theorem regsN_len (i : Ins) (s : LS) : (regsN i s).length = s.R.length := by unfold regsN; split <;> simp
theorem runV_len {code : List Ins} : ∀ (f : Nat) {s t : LS}, runV code f s = some t → t.R.length = s.R.length
  | 0, s, t, h => by cases h; rfl
  | f + 1, s, t, h => by
    rw [runV] at h
    cases hi : code[s.pc]? with
    | none => rw [hi] at h; cases h; rfl
    | some i =>
      rw [hi] at h
      cases hs : stepV i s with
      | none => simp only [hs] at h; cases h
      | some u =>
        simp only [hs] at h
        rw [runV_len f h]
        unfold stepV at hs
        split at hs
        · cases hs
        · cases hs; exact regsN_len i s
theorem outV_R8 {code : List Ins} {R rd : List Int} (hR : R.length = 8) : (outV code R rd).R.length = 8 := by
  unfold outV
  split
  · cases ht : localV code R rd with
    | none => rfl
    | some t =>
      have := runV_len code.length ht
      simp only; rw [this]; exact hR
  · rfl
theorem evL_len15 (e : Ev) : (evL e).length = 15 := by simp [evL]
theorem evL_1 (e : Ev) : (evL e)[1]? = some (.int .i64 e.pos) := rfl
theorem evL_2 (e : Ev) : (evL e)[2]? = some (.int .i64 e.place) := rfl
theorem evL_3 (e : Ev) : (evL e)[3]? = some (.int .i64 e.op) := rfl
theorem evL_6 (e : Ev) : (evL e)[6]? = some (.bool e.reads) := rfl
theorem evL_7 (e : Ev) : (evL e)[7]? = some (.bool e.writes) := rfl
theorem usedN_succ {l : List Ev} {k : Nat} (hk : k < l.length) : ((l.take (k + 1)).filter fun e => e.reads).length = if l[k].reads then ((l.take k).filter fun e => e.reads).length + 1 else ((l.take k).filter fun e => e.reads).length := by
  rw [List.take_succ_eq_append_getElem hk, List.filter_append]
  cases h : l[k].reads <;> simp [h]
end Go.Proofs.Ytoeoahpngmhkdaa.AM
