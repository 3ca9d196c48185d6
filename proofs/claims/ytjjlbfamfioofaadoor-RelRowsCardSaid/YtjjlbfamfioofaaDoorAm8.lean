/-
  AM, part 8: rows that are laid out part by part; slices; the operations that neither act nor make memory, all of them.
  Conditions: none.
-/
import Derived.Test.YtjjlbfamfioofaaDoorAm7
namespace Go.Proofs.YtjjlbfamfioofaaDoor.AM
open Go.RowKit

set_option linter.unusedSimpArgs false
variable {P : Program} {G N : Nat} {σ : Emb} {g : Mem} {w : World}

theorem splice_length {l c : List Value} {i : Nat} (h : i + c.length ≤ l.length) : (splice l i c).length = l.length := by
  unfold splice; simp only [List.length_append, List.length_take, List.length_drop]; omega
theorem VRs.splice {l cs c ds : List Value} (h : VRs σ g l cs) (h' : VRs σ g c ds) (i : Nat) : VRs σ g (AM.splice l i c) (AM.splice cs i ds) := by
  unfold AM.splice
  rw [h'.length]
  exact ((h.take i).append h').append (h.drop _)
theorem singles_splice {l c : List Value} (h : ∀ x ∈ l, single x = true) (h' : ∀ x ∈ c, single x = true) (i : Nat) : ∀ x ∈ splice l i c, single x = true := by
  intro x hx
  unfold splice at hx
  simp only [List.mem_append] at hx
  rcases hx with (hx | hx) | hx
  · exact h x (List.mem_of_mem_take hx)
  · exact h' x hx
  · exact h x (List.mem_of_mem_drop hx)

theorem foldl_splice : ∀ (c : List Value) (k off : Nat) (l : List Value), off + k + c.length ≤ l.length →
    (c.zipIdx k).foldl (fun (cs : Array Value) (x : Value × Nat) => cs.setIfInBounds (off + x.2) x.1) ⟨l⟩ = ⟨splice l (off + k) c⟩
  | [], k, off, l, h => by simp [splice]
  | x :: c, k, off, l, h => by
    simp only [List.zipIdx_cons, List.foldl_cons, List.setIfInBounds_toArray]
    simp only [List.length_cons] at h
    rw [foldl_splice c (k + 1) off (l.set (off + k) x) (by rw [List.length_set]; omega)]
    congr 1
    have hle : off + k < l.length := by omega
    have ht : (l.take (off + k)).length = off + k := by rw [List.length_take]; omega
    have hs : l.set (off + k) x = l.take (off + k) ++ x :: l.drop (off + k + 1) := by rw [List.set_eq_take_append_cons_drop, if_pos hle]
    unfold splice
    rw [hs, List.take_append, List.drop_append, ht, List.take_of_length_le (show (l.take (off + k)).length ≤ off + (k + 1) by omega),
      List.drop_eq_nil_of_le (show (l.take (off + k)).length ≤ off + (k + 1) + c.length by omega)]
    rw [show off + (k + 1) - (off + k) = 1 from by omega, show off + (k + 1) + c.length - (off + k) = c.length + 1 from by omega]
    simp only [List.take_succ_cons, List.take_zero, List.drop_succ_cons, List.drop_drop, List.nil_append, List.append_assoc, List.cons_append, List.length_cons]
    rw [show off + k + 1 + c.length = off + k + (c.length + 1) from by omega]

/-- The cells of a value, on both sides. -/
theorem laid_sound {u cu : Value} {l : List Value} (h : VR σ g u cu) (hl : laid u = some l) : ∃ cs, cu.cells = ⟨cs⟩ ∧ VRs σ g l cs ∧ (∀ x ∈ l, single x = true) := by
  cases h <;> simp only [laid, Option.some.injEq, reduceCtorEq] at hl <;> subst hl
  case agg xs ys h h1 => exact ⟨ys, rfl, h, h1⟩
  all_goals refine ⟨_, rfl, .cons _ _ _ _ ?_ .nil, by simp [single]⟩ <;> constructor <;> assumption
theorem fill_sound {place : Nat → Option (Nat × Nat)} : ∀ (ps : List (Nat × Nat × Value)) (qs : List (Nat × Value)) (l cs r : List Value), VRs σ g l cs → (∀ x ∈ l, single x = true) →
    ps.length = qs.length → (∀ (i : Nat) p q, ps[i]? = some p → qs[i]? = some q → place q.1 = some (p.1, p.2.1) ∧ VR σ g p.2.2 q.2) → fillRow l ps = some r →
    ∃ ds, Instr.fill place ⟨cs⟩ qs = some ⟨ds⟩ ∧ VRs σ g r ds ∧ (∀ x ∈ r, single x = true) ∧ r.length = l.length
  | [], qs, l, cs, r, hl, h1, hlen, _, h => by
    obtain rfl : qs = [] := List.length_eq_zero_iff.1 hlen.symm
    simp only [fillRow, Option.some.injEq] at h
    subst h
    exact ⟨cs, rfl, hl, h1, rfl⟩
  | (i, n, v) :: ps, [], l, cs, r, _, _, hlen, _, _ => by simp at hlen
  | (i, n, v) :: ps, (j, c) :: qs, l, cs, r, hl, h1, hlen, hp, h => by
    obtain ⟨hpl, hvr⟩ := hp 0 (i, n, v) (j, c) rfl rfl
    simp only at hpl hvr
    unfold fillRow at h
    split at h
    · rename_i lv hlv
      split at h
      · rename_i hc
        obtain ⟨hn, hle⟩ := hc
        obtain ⟨cv, hcells, hvs, hs⟩ := laid_sound hvr hlv
        have hlc := hl.length
        have hvl := hvs.length
        have ih := fill_sound ps qs (splice l i lv) (splice cs i cv) r (hl.splice hvs i) (singles_splice h1 hs i) (by simpa using hlen)
          (fun k p q hk hq => hp (k + 1) p q (by simpa using hk) (by simpa using hq)) h
        obtain ⟨ds, h2, h3, h4, h5⟩ := ih
        refine ⟨ds, ?_, h3, h4, by rw [h5, splice_length (by omega)]⟩
        unfold Instr.fill
        simp only [hpl, hcells]
        have hsz : (⟨cv⟩ : Array Value).size = cv.length := rfl
        have hsz' : (⟨cs⟩ : Array Value).size = cs.length := rfl
        rw [if_neg (by simp only [hsz, hsz']; simp; omega)]
        have := foldl_splice cv 0 i cs (by omega)
        simp only [Nat.add_zero] at this
        have hz : (⟨cv⟩ : Array Value).zipIdx = ⟨cv.zipIdx⟩ := by simp
        rw [hz, ← Array.foldl_toList, this]
        exact h2
      · cases h
    · cases h

theorem VR.slice_inv {p : Addr} {n c : Nat} {cv : Value} (h : VR σ g (.slice (some p) n c) cv) : ∃ q cap, cv = .slice (some q) n cap ∧ n ≤ cap := by cases h; exact ⟨_, _, rfl, by assumption⟩
theorem VR.nilSlice_inv {n c : Nat} {cv : Value} (h : VR σ g (.slice none n c) cv) : n = 0 ∧ c = 0 ∧ cv = .slice none 0 0 := by cases h; exact ⟨rfl, rfl, rfl⟩

theorem bound_run {x : Value} {cx : Value} (hv : VR σ g x cx) {d k y : Nat} {code : BoundsCode} (hb : bound (some x) d = some k) (hk : k ≤ y) : (Instr.sliceBound cx y code).run P w = .ok k w := by
  cases x <;> simp only [bound, reduceCtorEq] at hb
  rename_i kd n
  split at hb
  · rename_i h0
    simp only [Option.some.injEq] at hb
    have h1 : n ≤ (y : Int) := by omega
    rw [hv.int_inv]
    simp only [Instr.sliceBound, asIntOf, Sem.run_bind, Sem.run_pure, Result.andThen_ok]
    rw [if_pos ⟨h0, h1⟩, Sem.run_pure, hb]
  · cases hb
/-- An operand that may be missing. -/
inductive OptR (σ : Emb) (g : Mem) : Option Value → Option Value → Prop
  | none : OptR σ g none none
  | some (u c : Value) (h : VR σ g u c) : OptR σ g (some u) (some c)

/-- The bounds of a slice, where they lie within what is known of it. -/
theorem bounds_run {lo hi : Option Value} {clo chi : Option Value} (hlo : OptR σ g lo clo) (hhi : OptR σ g hi chi) {n cap l k : Nat} (hn : n ≤ cap) (hl : bound lo 0 = some l) (hk : bound hi n = some k) (hlk : l ≤ k) (hkn : k ≤ n) (s : Bool) :
    (Instr.sliceBounds s n cap clo chi none).run P w = .ok (l, k, cap) w := by
  unfold Instr.sliceBounds
  cases hlo with
  | none =>
    simp only [bound, Option.some.injEq] at hl; subst hl
    cases hhi with
    | none => simp only [bound, Option.some.injEq] at hk; subst hk; rfl
    | some u c h =>
      have := bound_run (P := P) (w := w) h hk (show k ≤ cap by omega) (code := if s then .sliceAcap else .sliceAlen)
      simp only [Sem.run_bind, Sem.run_pure, Result.andThen_ok]
      rw [this]; rfl
  | some u c h =>
    have hlr := bound_run (P := P) (w := w) h hl hlk (code := .sliceB)
    cases hhi with
    | none =>
      simp only [bound, Option.some.injEq] at hk; subst hk
      simp only [Sem.run_bind, Sem.run_pure, Result.andThen_ok, Option.isSome_none, Bool.false_eq_true, if_false]
      rw [hlr]; rfl
    | some u' c' h' =>
      have := bound_run (P := P) (w := w) h' hk (show k ≤ cap by omega) (code := if s then .sliceAcap else .sliceAlen)
      simp only [Sem.run_bind, Sem.run_pure, Result.andThen_ok, Option.isSome_none, Bool.false_eq_true, if_false]
      rw [this]; simp only [Result.andThen_ok]
      rw [hlr]; rfl
end Go.Proofs.YtjjlbfamfioofaaDoor.AM
