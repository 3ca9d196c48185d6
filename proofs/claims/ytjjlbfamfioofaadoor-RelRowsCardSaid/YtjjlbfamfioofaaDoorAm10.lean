/-
  AM, part 10: every operation that neither acts nor makes memory, together.
  Conditions: none.
-/
import Derived.Test.YtjjlbfamfioofaaDoorAm9
namespace Go.Proofs.YtjjlbfamfioofaaDoor.AM
open Go.RowKit

set_option linter.unusedSimpArgs false
variable {P : Program} {G N : Nat} {σ : Emb} {g : Mem} {w : World}

theorem opt_map_some {α β : Type} {f : α → β} {o : Option α} {r : β} (h : o.map f = some r) : ∃ a, o = some a ∧ f a = r := Option.map_eq_some_iff.1 h
theorem VRs_map {ρ ρc : Operand → Value} {l : List Operand} (h : ∀ x ∈ l, VR σ g (ρ x) (ρc x)) : VRs σ g (l.map ρ) (l.map ρc) := VRs.map l h
theorem OptR_map {ρ ρc : Operand → Value} {o : Option Operand} (h : ∀ x, o = some x → VR σ g (ρ x) (ρc x)) : OptR σ g (o.map ρ) (o.map ρc) := by
  cases o with
  | none => exact .none
  | some x => exact .some _ _ (h x rfl)

/-- The slice of a slice. -/
theorem slice_sound {t e : TypeId} {m : Nat} (ht : P.underlying t = some (.slice e)) (hz : sizeT P e = some m) {p : Addr} {n : Nat} {cv : Value} (hv : VR σ g (.slice (some p) n m) cv) {lo hi clo chi : Option Value}
    (hlo : OptR σ g lo clo) (hhi : OptR σ g hi chi) {l k : Nat} (hl : bound lo 0 = some l) (hk : bound hi n = some k) (hlk : l ≤ k) (hkn : k ≤ n) :
    ∃ r, (Instr.sliceAt t cv clo chi none).run P w = .ok r w ∧ VR σ g (.slice (some { p with off := p.off + l * m }) (k - l) m) r := by
  cases hv with
  | slice _ q _ _ cap v vals ver ro hv hg hle hn hq =>
    have hb := fun w => bounds_run (P := P) (w := w) hlo hhi hn hl hk hlk hkn true
    refine ⟨.slice (some (if cap = l then q else q.add (l * m))) (k - l) (cap - l), ?_, .slice _ _ _ _ _ v vals ver ro hv hg hle (by omega) fun e => ?_⟩
    · simp only [Instr.sliceAt, Sem.run_bind, run_und ht, Result.andThen_ok, Instr.slice, hb, run_sizeOf hz, Sem.run_pure]
      congr 2
      split <;> simp
    · rcases hq e with ⟨hq, hsz⟩ | ⟨h0, hc0⟩
      · by_cases hcl : cap = l
        · exact .inr ⟨by omega, by omega⟩
        · left
          rw [if_neg hcl, hq, addr_add, Nat.add_assoc]
          refine ⟨rfl, fun hro => ?_⟩
          have := hsz hro
          simp only
          have e1 : cap * m = l * m + (cap - l) * m := by rw [← Nat.add_mul]; congr 1; omega
          omega
      · exact .inr ⟨by omega, by omega⟩
theorem sliceNil_sound {t e : TypeId} {m : Nat} (ht : P.underlying t = some (.slice e)) (hz : sizeT P e = some m) {n c : Nat} {cv : Value} (hv : VR σ g (.slice none n c) cv) {lo hi clo chi : Option Value}
    (hlo : OptR σ g lo clo) (hhi : OptR σ g hi chi) (hl : bound lo 0 = some 0) (hk : bound hi 0 = some 0) :
    (Instr.sliceAt t cv clo chi none).run P w = .ok nils w := by
  obtain ⟨_, _, rfl⟩ := hv.nilSlice_inv
  have hb := fun w => bounds_run (P := P) (w := w) hlo hhi (Nat.le_refl 0) hl hk (Nat.le_refl 0) (Nat.le_refl 0) true
  simp only [Instr.sliceAt, Sem.run_bind, run_und ht, Result.andThen_ok, Instr.slice, hb, run_sizeOf hz, Sem.run_pure]
  rfl
theorem sliceStr_sound {t : TypeId} (ht : P.underlying t = some .string) {s : ByteArray} {lo hi clo chi : Option Value}
    (hlo : OptR σ g lo clo) (hhi : OptR σ g hi chi) {l k : Nat} (hl : bound lo 0 = some l) (hk : bound hi s.size = some k) (hlk : l ≤ k) (hkn : k ≤ s.size) :
    (Instr.sliceAt t (.string s) clo chi none).run P w = .ok (.string (s.extract l k)) w := by
  have hb := fun w => bounds_run (P := P) (w := w) hlo hhi (Nat.le_refl s.size) hl hk hlk hkn false
  simp only [Instr.sliceAt, Sem.run_bind, run_und ht, Result.andThen_ok, Instr.slice, hb, Option.isSome_none, Bool.false_eq_true, if_false, Sem.run_pure]
theorem sliceArr_sound {t e : TypeId} {m n : Nat} (ht : P.underlying t = some (.array n e)) (hz : sizeT P e = some m) {p : Addr} {cv : Value} (hv : VR σ g (.pointer (some p)) cv)
    (hroom : ∀ vals ver ro, g p.block = some (.cells vals ver ro) → p.spot = some ver → ro = false → (σ p.block).base + p.off + n * m ≤ (σ p.block).size) {lo hi clo chi : Option Value}
    (hlo : OptR σ g lo clo) (hhi : OptR σ g hi chi) {l k : Nat} (hl : bound lo 0 = some l) (hk : bound hi n = some k) (hlk : l ≤ k) (hkn : k ≤ n) :
    ∃ r, (Instr.sliceAt t cv clo chi none).run P w = .ok r w ∧ VR σ g (.slice (some { p with off := p.off + l * m }) (k - l) m) r := by
  cases hv with
  | ptr _ q v vals ver ro hv hg hle hq =>
    have hb := fun w => bounds_run (P := P) (w := w) hlo hhi (Nat.le_refl n) hl hk hlk hkn false
    refine ⟨.slice (some (if n = l then q else q.add (l * m))) (k - l) (n - l), ?_, .slice _ _ _ _ _ v vals ver ro hv hg hle (by omega) fun e => ?_⟩
    · simp only [Instr.sliceAt, Sem.run_bind, run_und ht, Result.andThen_ok, hb, run_sizeOf hz, Sem.run_pure, Instr.sureAddr]
    · by_cases hcl : n = l
      · exact .inr ⟨by omega, by omega⟩
      · left
        rw [if_neg hcl, hq e, addr_add, Nat.add_assoc]
        refine ⟨rfl, fun hro => ?_⟩
        have := hroom vals ver ro hg (by rw [hv, e]) hro
        simp only
        have e1 : n * m = l * m + (n - l) * m := by rw [← Nat.add_mul]; congr 1; omega
        omega

/-- The parts of a literal. -/
theorem fields_sound {fs : Array Field} {z : List Value} {ρ ρc : Operand → Value} : ∀ {ps : List (Nat × Operand)} {qs : List (Nat × Nat × Operand)}, normFields P fs ps = some qs →
    qs.length = ps.length ∧ ∀ (i : Nat) q p, qs[i]? = some q → ps[i]? = some p → ∃ f, fs[p.1]? = some f ∧ q.1 = f.offset ∧ sizeT P f.type = some q.2.1 ∧ q.2.2 = p.2
  | [], qs, h => by
    simp only [normFields, Option.some.injEq] at h; subst h
    exact ⟨rfl, fun i q p hq => by simp at hq⟩
  | (i, x) :: r, qs, h => by
    unfold normFields at h
    cases hf : fs[i]? with
    | none => rw [hf] at h; cases h
    | some f =>
      rw [hf] at h
      simp only at h
      cases hz : sizeT P f.type with
      | none => rw [hz] at h; cases h
      | some n =>
        cases hr : normFields P fs r with
        | none => rw [hz, hr] at h; cases h
        | some l =>
          rw [hz, hr] at h
          simp only [Option.some.injEq] at h
          subst h
          obtain ⟨h1, h2⟩ := fields_sound (z := z) (ρ := ρ) (ρc := ρc) hr
          refine ⟨by simp [h1], fun j q p hq hp => ?_⟩
          cases j with
          | zero => simp at hq hp; subst hq; subst hp; exact ⟨f, hf, rfl, hz, rfl⟩
          | succ j => exact h2 j q p (by simpa using hq) (by simpa using hp)

theorem zeroVal_plain {t : TypeId} {v : Value} (h : zeroVal P t = some v) : plain v = true := (run_zero h default).2
theorem zeroOf_inv {t : TypeId} {l : List Value} (h : zeroOf P t = some l) : ∃ v, zeroVal P t = some v ∧ laid v = some l := by
  unfold zeroOf at h; exact Option.bind_eq_some_iff.1 h
theorem laid_cells {v : Value} {l : List Value} (h : laid v = some l) : v.cells = ⟨l⟩ := by
  cases v <;> simp only [laid, Option.some.injEq, reduceCtorEq] at h <;> subst h <;> rfl
theorem laid_plain {v : Value} {l : List Value} (h : laid v = some l) (hp : plain v = true) : l.all plain1 = true := by
  unfold plain at hp
  cases v <;> simp only [laid, Option.some.injEq, reduceCtorEq] at h <;> subst h <;> simp_all

/-- The places of a struct's fields, as the model gathers them. -/
theorem mapM_places {fs : Array Field} (h : ∀ f ∈ fs, (sizeT P f.type).isSome = true) :
    (fs.mapM fun f => do pure (f.offset, ← sizeOf f.type) : Sem (Array (Nat × Nat))).run P w = .ok (fs.map fun f => (f.offset, (sizeT P f.type).getD 0)) w := by
  rw [Array.mapM_eq_mapM_toList]
  have key : ∀ l : List Field, (∀ f ∈ l, (sizeT P f.type).isSome = true) → (l.mapM fun f => do pure (f.offset, ← sizeOf f.type) : Sem (List (Nat × Nat))).run P w = .ok (l.map fun f => (f.offset, (sizeT P f.type).getD 0)) w := by
    intro l
    induction l with
    | nil => intro _; rfl
    | cons f l ih =>
      intro h
      obtain ⟨n, hn⟩ := Option.isSome_iff_exists.1 (h f (by simp))
      rw [List.mapM_cons]
      simp only [Sem.run_bind, run_sizeOf hn, Result.andThen_ok, Sem.run_pure, ih fun g hg => h g (by simp [hg]), List.map_cons, hn, Option.getD_some]
  simp only [Sem.run_map, key fs.toList (fun f hf => h f (Array.mem_toList_iff.1 hf)), Result.andThen_ok]
  congr 1
  apply Array.ext'
  simp
end Go.Proofs.YtjjlbfamfioofaaDoor.AM
