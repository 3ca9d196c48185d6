/-
  A code run by itself, as the laws call it.
  Conditions: the code and the reads take no more than an argument may.
-/
import Derived.Test.YtjodnadlplicmaaUb5
import Derived.Test.YtjodnadlplicmaaFb4
namespace Go.Proofs.Ytjodnadlplicmaa.AM
open Go.RowKit
set_option linter.unusedSimpArgs false
set_option linter.unusedVariables false

/-- What a run comes to. -/
structure Out where
  R : List Int
  evs : List Ev
  path : List Int
  e : Int
def zero8 : List Int := List.replicate 8 0
def outV (code : List Ins) (R rd : List Int) : Out :=
  if rightC code = true then match localV code R rd with
    | none => ⟨zero8, [], [], 24⟩
    | some t => ⟨t.R, t.evs, t.path, 0⟩
  else ⟨zero8, [], [], 1⟩
theorem uir_Local_o {code : List Ins} {c : Value} {h : Heap} (hc : InsSl h c code) (hl : code.length < 4611686018427387904) {R : List Int} (hR : R.length = 8) {rdv : Value} {rd : List Int} (hrd : IntS h rdv rd) (hrl : rd.length < 4611686018427387904) :
    ∃ evs path h', DF FF n_uir_Local [c, agg (regsL R), rdv] h = some (tup [agg (regsL (outV code R rd).R), evs, path, .int .i64 (outV code R rd).e], h') ∧ Own h h' path 1 ((outV code R rd).path.map intR) ∧ Own h h' evs 15 ((outV code R rd).evs.map evL) ∧ Pre h h' := by
  obtain ⟨v, h', h1, h2⟩ := uir_Local_c hc hl hR hrd hrl
  unfold LocalR at h2
  unfold outV
  have rz : regsL zero8 = List.replicate 8 (.int .i64 0) := rfl
  split at h2
  · rename_i hr
    rw [if_pos hr]
    cases ht : localV code R rd with
    | none =>
      rw [ht] at h2
      obtain ⟨rfl, rfl⟩ := h2
      exact ⟨nils, nils, _, h1, Own.nil _ _ _, Own.nil _ _ _, Pre.refl _⟩
    | some t =>
      rw [ht] at h2
      obtain ⟨evs, path, rfl, a, b, p⟩ := h2
      exact ⟨evs, path, _, h1, a, b, p⟩
  · rename_i hr
    rw [if_neg hr]
    obtain ⟨rfl, rfl⟩ := h2
    exact ⟨nils, nils, _, h1, Own.nil _ _ _, Own.nil _ _ _, Pre.refl _⟩
/-- A copy laid into an empty object. -/
theorem copyAt {h H0 : Heap} {a : Nat} (ha : H0[a]? = some (.cells [] 0 false)) (hl : h.length ≤ a) (p : Pre h H0) {s : Value} {c bytes : Nat} {rows : List (List Value)} (e : Sl H0 s c rows) (hr : rows.length * bytes ≤ roomFor) :
    ∃ s' H', appendTo H0 c bytes (.slice (some ⟨a, 0, some 0⟩) 0 c) (srcOf H0 c s) = some (s', H') ∧ Own h H' s' c rows ∧ Pre h H' ∧ H0.length ≤ H'.length ∧ (∀ (i : Nat) (o : AObj), H0[i]? = some o → i ≠ a → H'[i]? = some o) ∧ (blk s' = some a ∨ ∃ j, blk s' = some j ∧ H0.length ≤ j) := by
  have own0 : Own h H0 (.slice (some ⟨a, 0, some 0⟩) 0 c) c [] := ⟨.inr ⟨a, 0, hl, rfl, by simpa using ha⟩, by simp⟩
  obtain ⟨s', H', h1, h2, h3, h4, h5, h6⟩ := own0.append p (ys := rows.flatten) (rows' := rows) (bytes := bytes) rfl e.2 (by simpa using hr)
  refine ⟨s', H', ?_, by simpa using h2, h3, h4, fun i o ho hi => h5 i o ho (by simp only [blk, ne_eq, Option.some.injEq]; exact fun hh => hi hh.symm), ?_⟩
  · have := e.src []
    rw [List.append_nil] at this
    rw [this]; exact h1
  · rcases h6 with h6 | h6
    · exact .inl h6
    · exact .inr h6
/-- A run with copies of its arguments. -/
theorem run_c {H : Heap} {c s : Value} {code : List Ins} {rd : List Int} (hc : InsSl H c code) (hs : IntS H s rd) (lc : code.length ≤ 2000) (ls : rd.length ≤ 2000) {R : List Int} (hR : R.length = 8) :
    ∃ s1 K1 s2 K2 evs path H', appendTo (H ++ [.cells [] 0 false, .cells [] 0 false, .cells (List.replicate 8 (.int .i64 0)) 0 false]) 17 120 (.slice (some ⟨H.length, 0, some 0⟩) 0 17) (srcOf (H ++ [.cells [] 0 false, .cells [] 0 false, .cells (List.replicate 8 (.int .i64 0)) 0 false]) 17 c) = some (s1, K1) ∧
      appendTo K1 1 8 (.slice (some ⟨H.length + 1, 0, some 0⟩) 0 1) (srcOf K1 1 s) = some (s2, K2) ∧ Pre H K1 ∧ Pre H K2 ∧
      DF FF n_uir_Local [s1, agg (regsL R), s2] K2 = some (tup [agg (regsL (outV code R rd).R), evs, path, .int .i64 (outV code R rd).e], H') ∧
      (∀ l : List Value, l.length = 8 → ∃ H2, Heap.write H' ⟨H.length + 2, 0, some 0⟩ l = some H2 ∧ H2[H.length + 2]? = some (.cells l 0 false) ∧ Pre H H2 ∧ Own (H ++ [.cells [] 0 false]) H2 path 1 ((outV code R rd).path.map intR) ∧ Own (H ++ [.cells [] 0 false]) H2 evs 15 ((outV code R rd).evs.map evL) ∧ blk path ≠ some (H.length + 2) ∧ blk evs ≠ some (H.length + 2)) := by
  have pE : Pre H (H ++ [.cells [] 0 false, .cells [] 0 false, .cells (List.replicate 8 (.int .i64 0)) 0 false]) := (Pre.refl H).more _
  obtain ⟨s1, K1, a1, a2, a3, a4, a5, a6⟩ := copyAt (h := H) (H0 := H ++ [.cells [] 0 false, .cells [] 0 false, .cells (List.replicate 8 (.int .i64 0)) 0 false]) (a := H.length) (bytes := 120) (by simp) (Nat.le_refl _) pE (hc.pre pE) (by rw [List.length_map]; unfold roomFor; omega)
  have k1 : K1[H.length + 1]? = some (.cells [] 0 false) := a5 _ _ (by rw [List.getElem?_append_right (by omega)]; simp) (by omega)
  have k2 : K1[H.length + 2]? = some (.cells (List.replicate 8 (.int .i64 0)) 0 false) := a5 _ _ (by rw [List.getElem?_append_right (by omega)]; simp) (by omega)
  have l1 : H.length + 3 ≤ K1.length := by simpa using a4
  obtain ⟨s2, K2, b1, b2, b3, b4, b5, b6⟩ := copyAt (h := H) (H0 := K1) (a := H.length + 1) (bytes := 8) k1 (by omega) a3 (hs.pre a3) (by rw [List.length_map]; unfold roomFor; omega)
  have k3 : K2[H.length + 2]? = some (.cells (List.replicate 8 (.int .i64 0)) 0 false) := b5 _ _ k2 (by omega)
  have c1 : Own H K2 s1 17 (code.map insL) := a2.keep fun i hi o ho => b5 _ _ ho (by
    rcases a6 with h | ⟨j, h, h'⟩
    · rw [h] at hi; simp at hi; omega
    · rw [h] at hi; simp at hi h'; omega)
  obtain ⟨evs, path, H', e1, e2, e3, e4⟩ := uir_Local_o (h := K2) (c := s1) (code := code) c1.sl (by omega) hR (rdv := s2) (rd := rd) b2.sl (by omega)
  refine ⟨s1, K1, s2, K2, evs, path, H', a1, b1, a3, b3, e1, fun l hl => ?_⟩
  have k4 := e4.kept _ _ k3
  have hlt := (List.getElem?_eq_some_iff.1 k4).1
  have low : (H ++ [AObj.cells [] 0 false]).length ≤ K2.length := by simp; omega
  have np : blk path ≠ some (H.length + 2) := fun h => by have := (e2.lt h).1; omega
  have ne : blk evs ≠ some (H.length + 2) := fun h => by have := (e3.lt h).1; omega
  refine ⟨H'.set (H.length + 2) (.cells l 0 false), ww_all k4 (by rw [hl]; simp), by rw [List.getElem?_set_self hlt], (b3.trans e4).set (by omega) _, ?_, ?_, np, ne⟩
  · exact (e2.keep fun b hb o ho => by rw [List.getElem?_set_ne (by rintro rfl; exact np hb)]; exact ho).weak low
  · exact (e3.keep fun b hb o ho => by rw [List.getElem?_set_ne (by rintro rfl; exact ne hb)]; exact ho).weak low
/-- What holds of a run under way. -/
structure Good (code : List Ins) (n0 : Nat) (s : LS) : Prop where
  inc : s.path.Pairwise (· < ·)
  rng : ∀ x ∈ s.path, ∃ m : Nat, x = (m : Int) ∧ m < code.length ∧ m < s.pc
  hd : (s.path = [] ∧ s.pc = 0) ∨ s.path[0]? = some 0
  len : s.path.length ≤ s.pc
  evi : s.evs.Pairwise fun a b => a.pos < b.pos
  evr : ∀ e ∈ s.evs, ∃ p m : Nat, e.pos = (p : Int) ∧ e.place = (m : Int) ∧ s.path[p]? = some (m : Int) ∧ ∃ i, code[m]? = some i ∧ e.op = i.op ∧ e.reads = readsV i ∧ e.writes = writesV i
  used : (s.evs.filter fun e => e.reads).length + s.rd.length = n0
theorem Good.start (code : List Ins) (R rd : List Int) : Good code rd.length (startV R rd) :=
  ⟨List.Pairwise.nil, by simp [startV], .inl ⟨rfl, rfl⟩, Nat.le_refl _, List.Pairwise.nil, by simp [startV], by simp [startV]⟩
theorem Good.step {code : List Ins} {n0 : Nat} (hf : Fwd code) {s t : LS} (g : Good code n0 s) {i : Ins} (hi : code[s.pc]? = some i) (h : stepV i s = some t) : Good code n0 t := by
  have hw := step_fwd hf hi h
  have hk := (List.getElem?_eq_some_iff.1 hi).1
  unfold stepV at h
  split at h
  · cases h
  · rename_i hn
    cases h
    have hpc : s.pc < nextV i s := hw.1
    have old : ∀ e ∈ s.evs, ∃ p m : Nat, e.pos = (p : Int) ∧ e.place = (m : Int) ∧ (s.path ++ [(s.pc : Int)])[p]? = some (m : Int) ∧ ∃ i, code[m]? = some i ∧ e.op = i.op ∧ e.reads = readsV i ∧ e.writes = writesV i := by
      intro e he
      obtain ⟨p, m, h1, h2, h3, h4⟩ := g.evr e he
      refine ⟨p, m, h1, h2, ?_, h4⟩
      rw [List.getElem?_append_left (List.getElem?_eq_some_iff.1 h3).1]; exact h3
    refine ⟨?_, ?_, ?_, ?_, ?_, ?_, ?_⟩
    · refine List.pairwise_append.2 ⟨g.inc, by simp, fun a ha b hb => ?_⟩
      obtain ⟨m, rfl, _, h2⟩ := g.rng a ha
      have : b = (s.pc : Int) := by simpa using hb
      subst this; omega
    · intro x hx
      rcases List.mem_append.1 hx with hx | hx
      · obtain ⟨m, h1, h2, h3⟩ := g.rng x hx
        exact ⟨m, h1, h2, by show m < nextV i s; omega⟩
      · exact ⟨s.pc, by simpa using hx, hk, hpc⟩
    · right
      show (s.path ++ [(s.pc : Int)])[0]? = some 0
      rcases g.hd with ⟨h1, h2⟩ | h1
      · rw [h1, h2]; rfl
      · rw [List.getElem?_append_left (List.getElem?_eq_some_iff.1 h1).1]; exact h1
    · show (s.path ++ [(s.pc : Int)]).length ≤ nextV i s
      have := g.len
      simp; omega
    · show (if isEv i then s.evs ++ [evV i s] else s.evs).Pairwise _
      split
      · refine List.pairwise_append.2 ⟨g.evi, by simp, fun a ha b hb => ?_⟩
        obtain ⟨p, m, h1, h2, h3, h4⟩ := g.evr a ha
        have : b = evV i s := by simpa using hb
        subst this
        have := (List.getElem?_eq_some_iff.1 h3).1
        rw [h1]; show (p : Int) < (s.path.length : Int); omega
      · exact g.evi
    · intro e he
      have he' : e ∈ (if isEv i then s.evs ++ [evV i s] else s.evs) := he
      split at he'
      · rcases List.mem_append.1 he' with he' | he'
        · exact old e he'
        · have : e = evV i s := by simpa using he'
          subst this
          refine ⟨s.path.length, s.pc, rfl, rfl, ?_, i, hi, rfl, rfl, rfl⟩
          show (s.path ++ [(s.pc : Int)])[s.path.length]? = _
          simp
      · exact old e he'
    · show ((if isEv i then s.evs ++ [evV i s] else s.evs).filter fun e => e.reads).length + (if readsV i then s.rd.tail else s.rd).length = n0
      have hu := g.used
      cases hr : readsV i
      · simp only [Bool.false_eq_true, if_false]
        split
        · rw [List.filter_append, show [evV i s].filter (fun e => e.reads) = [] by simp [evV, hr]]
          simpa using hu
        · exact hu
      · have hev : isEv i = true := by unfold isEv memV; rw [hr]; rfl
        have hne : s.rd ≠ [] := fun h => hn ⟨hr, h⟩
        have : 0 < s.rd.length := List.length_pos_iff.2 hne
        rw [if_pos hev, if_pos rfl, List.filter_append, show [evV i s].filter (fun e => e.reads) = [evV i s] by simp [evV, hr]]
        simp; omega
theorem Good.run {code : List Ins} {n0 : Nat} (hf : Fwd code) : ∀ (f : Nat) {s t : LS}, Good code n0 s → runV code f s = some t → Good code n0 t ∧ t.pc ≤ max s.pc code.length
  | 0, s, t, g, h => by cases h; exact ⟨g, by omega⟩
  | f + 1, s, t, g, h => by
    rw [runV] at h
    cases hi : code[s.pc]? with
    | none => rw [hi] at h; cases h; exact ⟨g, by omega⟩
    | some i =>
      rw [hi] at h
      cases hs : stepV i s with
      | none => simp only [hs] at h; cases h
      | some u =>
        simp only [hs] at h
        have := step_fwd hf hi hs
        obtain ⟨a, b⟩ := Good.run hf f (g.step hf hi hs) h
        exact ⟨a, by omega⟩
/-- What holds of a run that came to its end. -/
theorem outV_good {code : List Ins} {R rd : List Int} : ((outV code R rd).e ≠ 0 ∧ (outV code R rd).path = [] ∧ (outV code R rd).evs = []) ∨
    ((outV code R rd).e = 0 ∧ RC code ∧ ∃ t, localV code R rd = some t ∧ outV code R rd = ⟨t.R, t.evs, t.path, 0⟩ ∧ Good code rd.length t ∧ t.pc ≤ code.length) := by
  by_cases hr : rightC code = true
  · cases ht : localV code R rd with
    | none =>
      have : outV code R rd = ⟨zero8, [], [], 24⟩ := by unfold outV; rw [if_pos hr, ht]
      rw [this]; exact .inl ⟨by simp, rfl, rfl⟩
    | some t =>
      have : outV code R rd = ⟨t.R, t.evs, t.path, 0⟩ := by unfold outV; rw [if_pos hr, ht]
      rw [this]
      have rc := rightC_rc hr
      obtain ⟨a, b⟩ := Good.run rc.fwd code.length (Good.start code R rd) ht
      exact .inr ⟨rfl, rc, t, rfl, rfl, a, by simpa [startV] using b⟩
  · have : outV code R rd = ⟨zero8, [], [], 1⟩ := by unfold outV; rw [if_neg hr]
    rw [this]; exact .inl ⟨by simp, rfl, rfl⟩
end Go.Proofs.Ytjodnadlplicmaa.AM
