/-
  AM, part 30: package variables that hold plain data, and laws over them.
  Conditions: none; each statement bears its own.
-/
import Derived.Test.YtjjlbfamfioofaaDoorAm23
namespace Go.Proofs.YtjjlbfamfioofaaDoor.AM
open Go.RowKit
set_option linter.unusedSimpArgs false
set_option linter.unusedVariables false

/-- The literals of a datum, from the left. -/
def litV : Lit → Value
  | .bool b => .bool b
  | .int k n => .int k n
  | .string bs => .string ⟨bs.toArray⟩
  | _ => undef
mutual
def flatD {H : Type} : DataW H → List Lit
  | .lit l => [l]
  | .agg ds => flatDs ds
  | _ => []
def flatDs {H : Type} : List (DataW H) → List Lit
  | [] => []
  | d :: ds => flatD d ++ flatDs ds
end
/-- Cells of plain data alone. -/
def scal : List Sh → Bool
  | [] => true
  | .slice _ _ :: _ => false
  | _ :: r => scal r
theorem scal_append (a b : List Sh) : scal (a ++ b) = (scal a && scal b) := by
  induction a with
  | nil => rfl
  | cons s a ih => cases s <;> simp [scal, ih]
theorem scal_rep (l : List Sh) (n : Nat) (hn : 0 < n) (h : scal (List.replicate n l).flatten = true) : scal l = true := by
  cases n with
  | zero => omega
  | succ n => rw [List.replicate_succ, List.flatten_cons, scal_append, Bool.and_eq_true] at h; exact h.1
section
variable {H : Type} {enc : TypeId × Value → H} {P : Program} {W : World} {base : Nat} {sp : Nat → Bool} {held : Bool}
theorem flat_fs {r : TypeId → Option (List Sh)} : ∀ (fs : List Field) (off : Nat) (cs : List Value) (l : List Sh) (xs : List (DataW H × List MemPlace)), leafFs P r fs off = some l → off + l.length = cs.length → scal l = true → xs.length = fs.length →
    (∀ (i : Nat) (f : Field) (y : DataW H × List MemPlace) l', fs[i]? = some f → xs[i]? = some y → r f.type = some l' → scal l' = true → (cs.drop f.offset).take (P.cellsOf f.type) = (flatD y.1).map litV) → cs.drop off = (flatDs (xs.map (·.1))).map litV
  | [], off, cs, l, xs, hl, hlen, _, hx, _ => by
    simp [leafFs] at hl; subst hl
    have : xs = [] := List.eq_nil_of_length_eq_zero hx
    subst this
    rw [List.drop_eq_nil_of_le (by simp at hlen; omega)]; rfl
  | f :: fs, off, cs, l, [], hl, hlen, hs, hx, hf => by simp at hx
  | f :: fs, off, cs, l, x :: xs, hl, hlen, hs, hx, hf => by
    simp only [leafFs] at hl
    split at hl
    · rename_i l1 l2 h1 h2
      split at hl
      · rename_i hc
        cases hl
        rw [scal_append, Bool.and_eq_true] at hs
        have e : cs.drop off = (cs.drop f.offset).take (P.cellsOf f.type) ++ cs.drop (off + P.cellsOf f.type) := by
          rw [hc.1, ← List.drop_drop, List.take_append_drop]
        rw [e, hf 0 f x l1 rfl rfl h1 hs.1, flat_fs fs _ cs l2 xs h2 (by simp at hlen; omega) hs.2 (by simpa using hx) fun i g y l' a b => hf (i + 1) g y l' (by simpa using a) (by simpa using b)]
        simp [flatDs]
      · cases hl
    · cases hl
theorem flat_arr {c : Nat} {cs : List Value} : ∀ (n : Nat) (xs : List (DataW H × List MemPlace)), xs.length = n → (∀ (i : Nat) (y : DataW H × List MemPlace), xs[i]? = some y → (cs.drop (i * c)).take c = (flatD y.1).map litV) → (pieces cs c n).flatten = (flatDs (xs.map (·.1))).map litV := by
  intro n xs hn h
  have app : ∀ (a b : List (DataW H)), flatDs (a ++ b) = flatDs a ++ flatDs b := by
    intro a b
    induction a with
    | nil => rfl
    | cons x a ih => simp [flatDs, ih]
  induction n generalizing xs with
  | zero =>
    have : xs = [] := List.eq_nil_of_length_eq_zero hn
    subst this; rfl
  | succ n ih =>
    obtain ⟨ys, y, rfl⟩ : ∃ ys y, xs = ys ++ [y] := ⟨xs.dropLast, xs.getLast (by intro e; rw [e] at hn; simp at hn), (List.dropLast_concat_getLast _).symm⟩
    have hl : ys.length = n := by simpa using hn
    rw [pieces, List.flatten_append, ih ys hl fun i z hz => h i z (by rw [List.getElem?_append_left (List.getElem?_eq_some_iff.1 hz).1]; exact hz)]
    rw [List.map_append, app, List.map_append]
    congr 1
    have := h n y (by rw [List.getElem?_append_right (by omega), hl]; simp)
    simp [flatDs, this]
theorem cells_of_datum : ∀ (d : Nat) (t : TypeId) (l : List Sh), leafs P d t = some l → scal l = true → ∀ (fuel : Nat) (cs : List Value) (x : DataW H × List MemPlace), DataW.trod enc P W base sp held fuel t cs = some x → cs = (flatD x.1).map litV := by
  intro d
  induction d with
  | zero => intro t l hl; simp [leafs] at hl
  | succ d ih =>
    intro t l hl hs fuel cs x hx
    rw [leafs] at hl
    split at hl
    · rename_i ht
      obtain ⟨b, rfl, rfl⟩ := DataW.trod_bool ht hx
      rfl
    · rename_i k ht
      obtain ⟨n, rfl, rfl, hwf⟩ := DataW.trod_int ht hx
      rfl
    · rename_i ht
      obtain ⟨s, rfl, rfl, _⟩ := DataW.trod_string ht hx
      simp [flatD, litV]
    · split at hl
      · split at hl
        · cases hl; simp [scal] at hs
        · cases hl
      · cases hl
    · rename_i fs ht
      split at hl
      · rename_i l' hl'
        split at hl
        · rename_i hlen
          cases hl
          obtain ⟨xs, n, hn, rfl, hcl, hxl, hf⟩ := DataW.trod_struct ht hx
          have := flat_fs (P := P) fs.toList 0 cs l xs hl' (by omega) hs (by simpa using hxl) (fun i f y l2 hfi hy hl2 hs2 => by
            have h1 := hf i f (by simpa using hfi)
            rw [hy] at h1
            exact ih f.type l2 hl2 hs2 n _ y h1)
          simpa [flatD] using this
        · cases hl
      · cases hl
    · rename_i n e ht
      split at hl
      · rename_i le hle
        split at hl
        · rename_i hc
          cases hl
          cases fuel with
          | zero => simp [DataW.trod] at hx
          | succ fuel =>
            obtain ⟨xs, hxl, hcl, hxx, hf⟩ : ∃ xs : List (DataW H × List MemPlace), xs.length = n ∧ cs.length = P.cellsOf t ∧ x = (.agg (xs.map (·.1)), xs.flatMap (·.2)) ∧ ∀ i, i < n → DataW.trod enc P W base sp held fuel e ((cs.drop (i * P.cellsOf e)).take (P.cellsOf e)) = xs[i]? := by
              unfold DataW.trod at hx
              rw [ht] at hx
              simp only at hx
              split at hx
              · rename_i hcl
                obtain ⟨xs, hxs, rfl⟩ := Option.map_eq_some_iff.1 hx
                exact ⟨xs, by simpa using mapM_some_length hxs, hcl, rfl, fun i hi => mapM_some_get hxs i i (by simp [hi])⟩
              · cases hx
            subst hxx
            have h3 := flat_arr (c := P.cellsOf e) (cs := cs) n xs hxl fun i y hy => by
              have hi : i < n := by rw [← hxl]; exact (List.getElem?_eq_some_iff.1 hy).1
              have h1 := hf i hi
              rw [hy] at h1
              exact ih e le hle (scal_rep le n (by omega) hs) fuel _ y h1
            rw [pieces_flat _ _ _ (by rw [hcl, hc.2]; exact Nat.le_refl _), List.take_of_length_le (by rw [hcl, hc.2]; exact Nat.le_refl _)] at h3
            simpa [flatD] using h3
        · cases hl
      · cases hl
    · cases hl
end

section
variable {H : Type} {enc : TypeId × Value → H} {P : Program} {W : World}
/-- The memory of the package's variables: those that are looked at, the first so many. -/
def globH (gl : List (List Value)) : Heap := gl.map fun l => AObj.cells l 0 true
theorem law_callsG {b0 : Nat} {F : Funcs} (gl : List (List Value)) (hm : P.follows .mixedOrders = true) (hr : Reads P gl.length F) {f : FuncId} {ts : List TypeId} {args : List Value} {ds : List (DataW H)} {ps : List MemPlace} (d : Nat) {ss : List (Bool × List Sh)}
    (hg : ∀ (i : Nat) l, gl[i]? = some l → i < W.heap.size ∧ ∀ (j : Nat) v, l[j]? = some v → W.cell? ⟨i, j, none⟩ = some v ∧ plain1 v = true)
    (hA : DataW.TrodAll enc P W 0 (fun _ => true) true ts args ds ps) (hv : ∀ (j : Nat) t v, ts[j]? = some t → args[j]? = some v → Value.okWide P W .any b0 t v) (hw : ∀ w ∈ DataW.weightsEach P ts ds, w ≤ reachBytes) (hs : ts.mapM (leafA P d) = some ss)
    (hd : ∀ (h : Heap) (us : List Value), (∀ (i : Nat) (l : List Value), gl[i]? = some l → h[i]? = some (AObj.cells l 0 true)) → TypedAs h ss us → ∃ h', DF F f us h = some (.bool true, h')) :
    Calls P f ⟨args⟩ W fun e W' => e = .returned (.bool true) ∧ Go.RowKit.Below W.heap.size W W' := by
  let σ0 : Emb := fun i => ⟨i, 0, 0⟩
  have hget : ∀ (i : Nat) o, (globH gl)[i]? = some o → ∃ l, gl[i]? = some l ∧ o = AObj.cells l 0 true := by
    intro i o hi
    unfold globH at hi
    rw [List.getElem?_map] at hi
    obtain ⟨l, hl, e⟩ := Option.map_eq_some_iff.1 hi
    exact ⟨l, hl, e.symm⟩
  have hL0 : Laid W (globH gl) σ0 := by
    intro i o hi
    obtain ⟨l, hl, rfl⟩ := hget i o hi
    obtain ⟨h1, h2⟩ := hg i l hl
    refine ⟨rfl, .ro l h1 (fun j u hu => ?_) fun u hu => ?_⟩
    · obtain ⟨h3, h4⟩ := h2 j u hu
      exact ⟨u, by simpa [σ0] using h3, .plain1 h4⟩
    · obtain ⟨j, hj⟩ := List.getElem?_of_mem hu
      exact single_of_plain1 (h2 j u hj).2
  obtain ⟨h, σ, us, g, hvr, hty⟩ := opened_args d ts args ds ps ss hA hv hw hs (globH gl) σ0 hL0
  have hold : ∀ (i : Nat) (l : List Value), gl[i]? = some l → h[i]? = some (AObj.cells l 0 true) := by
    intro i l hl
    obtain ⟨more, rfl⟩ := g.pre
    have : i < (globH gl).length := by unfold globH; rw [List.length_map]; exact (List.getElem?_eq_some_iff.1 hl).1
    rw [List.getElem?_append_left this]
    unfold globH
    rw [List.getElem?_map, hl]; rfl
  obtain ⟨h', hd⟩ := hd h us hold hty
  refine entry (G := gl.length) hm hr hd rfl σ W ⟨fun i o hi => (g.laid i o hi).2, fun i j o p hi hj ho => ?_, fun i hi => ?_, Nat.le_refl _⟩ hvr fun o ho => ?_
  · rw [(g.laid i o hi).1] at ho; cases ho
  · refine ⟨gl[i], hold i _ (List.getElem?_eq_getElem hi), ?_⟩
    have : σ i = σ0 i := g.same i (by unfold globH; rw [List.length_map]; exact hi)
    rw [this]; exact ⟨rfl, rfl⟩
  · obtain ⟨i, hi, he⟩ := List.getElem_of_mem ho
    exact (g.laid i o (by rw [List.getElem?_eq_getElem hi, he])).1
end
end Go.Proofs.YtjjlbfamfioofaaDoor.AM
