/-
  The flow law on runs: the plain part.
  Conditions: none.
-/
import Derived.Test.YtoeoahpngmhkdaaFc1
import Derived.Test.YtoeoahpngmhkdaaFb5
import Derived.Test.YtoeoahpngmhkdaaUb9
namespace Go.Proofs.Ytoeoahpngmhkdaa.AM
open Go.RowKit
set_option linter.unusedSimpArgs false
set_option linter.unusedVariables false

/-- A run goes one of the paths. -/
theorem run_path {code : List Ins} (hf : Fwd code) : ∀ (f : Nat) {s t : LS}, code.length - s.pc < f → runV code f s = some t → ∃ l ∈ pathsN code f s.pc, t.path = s.path ++ l
  | 0, s, t, hl, h => by omega
  | f + 1, s, t, hl, h => by
    by_cases hk : s.pc < code.length
    · rw [runV, List.getElem?_eq_getElem hk] at h
      cases hs : stepV code[s.pc] s with
      | none => simp only [hs] at h; cases h
      | some u =>
        simp only [hs] at h
        have hi : code[s.pc]? = some code[s.pc] := List.getElem?_eq_getElem hk
        have hw := step_fwd hf hi hs
        obtain ⟨l, hl1, hl2⟩ := run_path hf f (by omega) h
        rw [pathsN_succ hk]
        unfold stepV at hs
        split at hs
        · cases hs
        · cases hs
          refine ⟨(s.pc : Int) :: l, ?_, by rw [hl2]; simp⟩
          rw [List.mem_append]
          by_cases hn : nextV code[s.pc] s = s.pc + 1
          · left
            simp only [hn] at hl1
            exact List.mem_map.2 ⟨l, hl1, rfl⟩
          · right
            have h9 : code[s.pc].op = 9 := by
              unfold nextV at hn
              split at hn
              · rename_i hc; exact hc.1
              · exact absurd rfl hn
            have hto := hf _ _ hi h9
            have hnx : nextV code[s.pc] s = code[s.pc].to.toNat := by
              unfold nextV at hn ⊢
              split at hn
              · rename_i hc; rw [if_pos hc]
              · exact absurd rfl hn
            have hc : (code[s.pc].op == 9 && (decide ((s.pc : Int) + 1 < code[s.pc].to) && decide (code[s.pc].to ≤ (code.length : Int)))) = true := by
              simp only [Bool.and_eq_true, decide_eq_true_eq, beq_iff_eq]
              refine ⟨h9, ?_, hto.2⟩
              rw [hnx] at hn; omega
            rw [hc, if_pos rfl]
            simp only [hnx] at hl1
            exact List.mem_map.2 ⟨l, hl1, rfl⟩
    · rw [runV_done (by omega)] at h
      cases h
      refine ⟨[], ?_, by simp⟩
      rw [pathsN, List.getElem?_eq_none (by omega)]
      simp
/-- What reads came to, by place. -/
def oldsF (l : List Ev) : List Int := l.foldl (fun o e => if e.reads then o.set e.pos.toNat e.old else o) (List.replicate 8 0)
def knF (l : List Ev) : Nat := l.foldl (fun k e => if e.reads then k ||| 2 ^ e.pos.toNat else k) 0
theorem oldsF_snoc (l : List Ev) (e : Ev) : oldsF (l ++ [e]) = if e.reads then (oldsF l).set e.pos.toNat e.old else oldsF l := by unfold oldsF; rw [List.foldl_append]; rfl
theorem knF_snoc (l : List Ev) (e : Ev) : knF (l ++ [e]) = if e.reads then knF l ||| 2 ^ e.pos.toNat else knF l := by unfold knF; rw [List.foldl_append]; rfl
theorem snoc_ind {α : Type} {P : List α → Prop} (h0 : P []) (h1 : ∀ l a, P l → P (l ++ [a])) : ∀ l, P l := by
  intro l
  have key : ∀ n, ∀ l : List α, l.length = n → P l := by
    intro n
    induction n with
    | zero => intro l hl; rw [List.eq_nil_of_length_eq_zero hl]; exact h0
    | succ n ih =>
      intro l hl
      have hne : l ≠ [] := by rintro rfl; simp at hl
      rw [← List.dropLast_concat_getLast hne]
      exact h1 _ _ (ih _ (by simp; omega))
  exact key _ l rfl
theorem oldsF_len : ∀ l : List Ev, (oldsF l).length = 8 := snoc_ind rfl fun l a ih => by rw [oldsF_snoc]; split <;> simp [ih]
theorem knF_lt (l : List Ev) : (∀ e ∈ l, e.pos.toNat < 8) → knF l < 256 := by
  revert l
  refine snoc_ind (fun _ => by decide) fun l a ih h => ?_
  rw [knF_snoc]
  have h1 := ih fun e he => h e (List.mem_append_left _ he)
  split
  · have := pow_lt8 (h a (by simp))
    exact Nat.or_lt_two_pow (n := 8) h1 this
  · exact h1
theorem olds_at (l : List Ev) : (∀ e ∈ l, 0 ≤ e.pos ∧ e.pos.toNat < 8) → l.Pairwise (fun a b => a.pos < b.pos) → ∀ e ∈ l, e.reads = true → (oldsF l).getD e.pos.toNat 0 = e.old ∧ (knF l).testBit e.pos.toNat = true := by
  revert l
  refine snoc_ind (fun _ _ e he => by simp at he) fun l a ih hp hw e he hr => ?_
  have hp1 : ∀ e ∈ l, 0 ≤ e.pos ∧ e.pos.toNat < 8 := fun e he => hp e (List.mem_append_left _ he)
  obtain ⟨hw1, _, hw3⟩ := List.pairwise_append.1 hw
  rw [oldsF_snoc, knF_snoc]
  rcases List.mem_append.1 he with he | he
  · obtain ⟨i1, i2⟩ := ih hp1 hw1 e he hr
    have hne : a.pos.toNat ≠ e.pos.toNat := by
      have := hw3 e he a (by simp); have := hp1 e he; omega
    split
    · refine ⟨?_, by rw [Nat.testBit_or, i2]; rfl⟩
      rw [List.getD_eq_getElem?_getD, List.getElem?_set_ne hne, ← List.getD_eq_getElem?_getD]; exact i1
    · exact ⟨i1, i2⟩
  · have : e = a := by simpa using he
    subst this
    rw [if_pos hr, if_pos hr]
    have h8 := (hp e (by simp)).2
    refine ⟨?_, by rw [Nat.testBit_or, Nat.testBit_two_pow_self, Bool.or_true]⟩
    rw [List.getD_eq_getElem?_getD, List.getElem?_set_self (by rw [oldsF_len]; exact h8)]; rfl
theorem valueF_congr {ps : List Ins} {R vals : List Int} {kn : Int} {f : Nat} {p q r : Int} (h : defP ps p r = defP ps q r) : valueF ps R vals kn (f + 1) p r = valueF ps R vals kn (f + 1) q r := by
  rw [valueF, valueF, h]
theorem defP_succ {ps : List Ins} {n : Nat} (hn : n < ps.length) {r : Nat} : defP ps ((n + 1 : Nat) : Int) (r : Int) = if givesV ps[n] = (r : Int) then (n : Int) else defP ps (n : Int) (r : Int) := by
  have c1 : cap ps ((n + 1 : Nat) : Int) = n + 1 := by unfold cap; omega
  have c2 : cap ps (n : Int) = n := by unfold cap; omega
  have h0 : ¬ ((r : Int) < 0) := by omega
  simp only [defP, h0, if_false, c1, c2, defV_succ _ hn]
/-- What a register holds is what flows to it. -/
def Flows (ps : List Ins) (R0 vals : List Int) (kn : Int) (s : LS) : Prop := ∀ f, cap ps (s.path.length : Int) < f → ∀ r : Nat, r < 8 → valueF ps R0 vals kn f (s.path.length : Int) (r : Int) = (s.R.getD r 0, true)
theorem Flows.start (ps : List Ins) (R0 vals : List Int) (kn : Int) (rd : List Int) : Flows ps R0 vals kn (startV R0 rd) := by
  intro f hf r hr
  cases f with
  | zero => omega
  | succ f =>
    refine valueF_reg hr ?_
    unfold defP
    rw [if_neg (by omega)]
    have : cap ps ((startV R0 rd).path.length : Int) = 0 := by simp [cap, startV]
    rw [this]; rfl
theorem Flows.at {ps : List Ins} {R0 vals : List Int} {kn : Int} {s : LS} (e : Flows ps R0 vals kn s) {f : Nat} (hf : cap ps (s.path.length : Int) < f) {r : Int} (hr : isReg r) : valueF ps R0 vals kn f (s.path.length : Int) r = (reg s.R r, true) := by
  obtain ⟨n, rfl, hn⟩ := hr
  rw [e f hf n hn]; rfl
theorem Flows.step {ps : List Ins} {R0 vals : List Int} {kn : Int} {s t : LS} (e : Flows ps R0 vals kn s) (h8 : s.R.length = 8) {i : Ins} (kind : Kind i) (hn : s.path.length < ps.length) (hps : ps[s.path.length] = i) (ht : stepV i s = some t)
    (hv : readsV i = true → s.path.length < vals.length ∧ vals.getD s.path.length 0 = oldV i s.rd ∧ bi (shr .i64 kn (s.path.length : Int)) 0 = true) : Flows ps R0 vals kn t := by
  unfold stepV at ht
  split at ht
  · cases ht
  · cases ht
    intro f hf r hr
    have hpl : (s.path ++ [(s.pc : Int)]).length = s.path.length + 1 := by simp
    simp only [hpl] at hf ⊢
    have c1 : cap ps ((s.path.length + 1 : Nat) : Int) = s.path.length + 1 := by unfold cap; omega
    have c2 : cap ps (s.path.length : Int) = s.path.length := by unfold cap; omega
    cases f with
    | zero => omega
    | succ f =>
      have hd := defP_succ hn (r := r)
      rw [hps] at hd
      by_cases hg : givesV i = (r : Int)
      · rw [if_pos hg] at hd
        have hR : (regsN i s).getD r 0 = gotV i s := by
          unfold regsN
          rw [if_neg (by omega), hg, Int.toNat_natCast, List.getD_eq_getElem?_getD, List.getElem?_set_self (by omega)]; rfl
        rw [hR, valueF_at hr hn hd, hps]
        have fx := fun {x : Int} (hx : isReg x) => e.at (f := f) (by omega) hx
        cases kind with
        | const h d => simp [readsV, h, gotV]
        | move h d a => rw [fx a]; simp [readsV, h, gotV]
        | alu h d a b =>
          rw [fx a]
          rcases b with hb | hb
          · simp [readsV, h, gotV, hb, valR]
          · rw [fx hb]
            have hb1 : i.b ≠ -1 := by have := hb.nn; omega
            simp [readsV, h, gotV, hb1, valR]
        | load h d x =>
          have hr : readsV i = true := by simp [readsV, h]
          obtain ⟨v1, v2, v3⟩ := hv hr
          have hc : (decide (s.path.length < vals.length) && bi (shr .i64 kn (s.path.length : Int)) 0) = true := by rw [v3]; simp [v1]
          rw [if_pos hr, if_pos hc, v2]
          simp [gotV, h]
        | rmw h d a x =>
          have hr : readsV i = true := by simp [readsV, h]
          obtain ⟨v1, v2, v3⟩ := hv hr
          have hc : (decide (s.path.length < vals.length) && bi (shr .i64 kn (s.path.length : Int)) 0) = true := by rw [v3]; simp [v1]
          rw [if_pos hr, if_pos hc, v2]
          simp [gotV, h]
        | store h a x => simp [givesV, h] at hg
        | fence h => simp [givesV, h] at hg
        | isb h => simp [givesV, h] at hg
        | branch h a => simp [givesV, h] at hg
      · rw [if_neg hg] at hd
        have hR : (regsN i s).getD r 0 = s.R.getD r 0 := by
          unfold regsN
          split
          · rfl
          · rename_i hm
            have hgi : 0 ≤ givesV i := by
              cases kind with
              | const h d => simp only [givesV, h]; exact d.nn
              | move h d a => simp only [givesV, h]; exact d.nn
              | alu h d a b => simp only [givesV, h]; exact d.nn
              | load h d x => simp only [givesV, h]; exact d.nn
              | rmw h d a x => simp only [givesV, h]; exact d.nn
              | store h a x => simp [givesV, h] at hm
              | fence h => simp [givesV, h] at hm
              | isb h => simp [givesV, h] at hm
              | branch h a => simp [givesV, h] at hm
            rw [List.getD_eq_getElem?_getD, List.getElem?_set_ne (by omega), ← List.getD_eq_getElem?_getD]
        rw [hR, valueF_congr hd]
        exact e (f + 1) (by omega) r hr
/-- All the way. -/
theorem Flows.run {code : List Ins} {R0 vals : List Int} {kn : Int} (hf : Fwd code) (hk : ∀ i ∈ code, Kind i) {t : LS}
    (hv : ∀ e ∈ t.evs, e.reads = true → e.pos.toNat < vals.length ∧ vals.getD e.pos.toNat 0 = e.old ∧ bi (shr .i64 kn e.pos) 0 = true) :
    ∀ (f : Nat) {s : LS}, runV code f s = some t → s.R.length = 8 → Flows (insOf code t.path) R0 vals kn s → Flows (insOf code t.path) R0 vals kn t
  | 0, s, h, _, e => by cases h; exact e
  | f + 1, s, h, h8, e => by
    have h0 := h
    rw [runV] at h
    cases hi : code[s.pc]? with
    | none => rw [hi] at h; cases h; exact e
    | some i =>
      rw [hi] at h
      cases hs : stepV i s with
      | none => simp only [hs] at h; cases h
      | some u =>
        simp only [hs] at h
        have hmem : i ∈ code := List.mem_of_getElem? hi
        -- the path and the events of the end begin with those behind this step
        have pre : ∀ (f : Nat) {a b : LS}, runV code f a = some b → (∃ l, b.path = a.path ++ l) ∧ ∀ e ∈ a.evs, e ∈ b.evs := by
          intro f
          induction f with
          | zero => intro a b h; cases h; exact ⟨⟨[], by simp⟩, fun e he => he⟩
          | succ f ih =>
            intro a b h
            rw [runV] at h
            cases hi : code[a.pc]? with
            | none => rw [hi] at h; cases h; exact ⟨⟨[], by simp⟩, fun e he => he⟩
            | some i =>
              rw [hi] at h
              cases hs : stepV i a with
              | none => simp only [hs] at h; cases h
              | some u =>
                simp only [hs] at h
                obtain ⟨⟨l, h1⟩, h2⟩ := ih h
                unfold stepV at hs
                split at hs
                · cases hs
                · cases hs
                  refine ⟨⟨(a.pc : Int) :: l, by rw [h1]; simp⟩, fun e he => h2 e ?_⟩
                  show e ∈ (if isEv i then a.evs ++ [evV i a] else a.evs)
                  split
                  · exact List.mem_append_left _ he
                  · exact he
        obtain ⟨⟨l, hp⟩, hev⟩ := pre f h
        have hs' := hs
        unfold stepV at hs'
        split at hs'
        · cases hs'
        · cases hs'
          have hps : (insOf code t.path)[s.path.length]? = some i := by
            have hp' : t.path = s.path ++ [(s.pc : Int)] ++ l := hp
            unfold insOf
            rw [List.getElem?_map, hp', List.append_assoc, List.getElem?_append_right (by omega)]
            simp [List.getD_eq_getElem?_getD, hi]
          obtain ⟨hn, hpe⟩ := List.getElem?_eq_some_iff.1 hps
          refine Flows.run hf hk hv f h (by show (regsN i s).length = 8; rw [regsN_len]; exact h8) (e.step h8 (hk i hmem) hn hpe hs fun hr => ?_)
          have hin : evV i s ∈ t.evs := hev _ (by
            show evV i s ∈ (if isEv i then s.evs ++ [evV i s] else s.evs)
            have : isEv i = true := by unfold isEv memV; rw [hr]; rfl
            rw [if_pos this]; simp)
          have := hv _ hin hr
          simpa [evV] using this
end Go.Proofs.Ytoeoahpngmhkdaa.AM
