/-
  AM, part 6: '==' of numbers, texts, bools and of rows of them, as the model tells it.
  Conditions: none.
-/
import Derived.Test.YtjjlbfamfioofaaDoorAm5
import Derived.Laws.StructEq
import Derived.ChangeKeysEq
namespace Go.Proofs.YtjjlbfamfioofaaDoor.AM
open Go.RowKit

variable {P : Program} {w : World}

theorem rowEq_append : ∀ (k1 k2 : List EqK) (xs ys : List Value), k1.length ≤ xs.length → k1.length ≤ ys.length →
    rowEq (k1 ++ k2) xs ys = match rowEq k1 (xs.take k1.length) (ys.take k1.length) with
      | some true => rowEq k2 (xs.drop k1.length) (ys.drop k1.length)
      | some false => some false
      | none => none
  | [], k2, xs, ys, _, _ => by simp [rowEq]
  | k :: k1, k2, [], ys, h, _ => by simp at h
  | k :: k1, k2, x :: xs, [], _, h => by simp at h
  | k :: k1, k2, x :: xs, y :: ys, h, h' => by
    have ih := rowEq_append k1 k2 xs ys (by simpa using h) (by simpa using h')
    simp only [List.cons_append, rowEq, List.length_cons, List.take_succ_cons, List.drop_succ_cons]
    cases leafEq k x y with
    | none => rfl
    | some b => cases b with
      | false => rfl
      | true => exact ih

/-- The value of a type whose cells are these. -/
def valOf (P : Program) (t : TypeId) (l : List Value) : Value :=
  match P.underlying t with
  | some (.struct _) | some (.array _ _) => .agg ⟨l⟩
  | _ => l.getD 0 undef

theorem run_partOf {e : TypeId} {l : List Value} {o n : Nat} (hz : sizeT P e = some n) (h : o + n ≤ l.length) (hp : ∀ d, P.underlying e = some d → (eqK d).isSome = true → n = 1)
    (hu : ∃ d, P.underlying e = some d ∧ ((eqK d).isSome = true ∨ (∃ fs, d = .struct fs) ∨ ∃ m u, d = .array m u)) :
    (part e ⟨l⟩ o).run P w = .ok (valOf P e ((l.drop o).take n)) w := by
  obtain ⟨d, hd, hc⟩ := hu
  have hag : (∃ fs, d = .struct fs) ∨ (∃ m u, d = .array m u) → (part e ⟨l⟩ o).run P w = .ok (valOf P e ((l.drop o).take n)) w := by
    intro hc
    have ha : aggT P e = some true := by unfold aggT; rw [hd]; rcases hc with ⟨fs, rfl⟩ | ⟨m, u, rfl⟩ <;> rfl
    have hv : valOf P e ((l.drop o).take n) = .agg ⟨(l.drop o).take n⟩ := by unfold valOf; rw [hd]; rcases hc with ⟨fs, rfl⟩ | ⟨m, u, rfl⟩ <;> rfl
    rw [hv]
    simp [part, run_isAgg ha, run_sizeOf hz, List.extract_toArray, List.extract_eq_take_drop]
  rcases hc with hk | hc
  · obtain rfl := hp d hd hk
    have ha : aggT P e = some false := by unfold aggT; rw [hd]; cases d <;> first | rfl | simp [eqK] at hk
    have hv : valOf P e ((l.drop o).take 1) = ((l.drop o).take 1).getD 0 undef := by unfold valOf; rw [hd]; cases d <;> first | rfl | simp [eqK] at hk
    rw [hv]
    have hlt : o < l.length := by omega
    simp [part, run_isAgg ha, List.getElem?_eq_getElem hlt, List.getD_eq_getElem?_getD]
  · exact hag hc

theorem eqK_leaf {d : TypeDesc} {k : EqK} (hd : eqK d = some k) {t : TypeId} (hu : P.underlying t = some d) {x y : Value} {b : Bool} (he : leafEq k x y = some b) (m : Nat) :
    (Op.equalIn (m + 1) t x y).run P w = .ok b w := by
  cases d <;> simp only [eqK, Option.some.injEq, reduceCtorEq] at hd <;> subst hd
  · cases x <;> cases y <;> simp [leafEq] at he
    subst he; simp [Op.equalIn, run_und hu]
  · cases x <;> cases y <;> simp [leafEq] at he
    obtain ⟨rfl, rfl⟩ := he; simp [Op.equalIn, run_und hu]
  · cases x <;> cases y <;> simp [leafEq] at he
    subst he; simp [Op.equalIn, run_und hu]

/-- What leaves says of a type. -/
theorem leaves_kind {d : Nat} {t : TypeId} {ks : List EqK} (h : leaves P d t = some ks) :
    ∃ k, P.underlying t = some k ∧ ((eqK k).isSome = true ∨ (∃ fs, k = .struct fs) ∨ ∃ m u, k = .array m u) ∧ ((eqK k).isSome = true → ks.length = 1) := by
  cases d with
  | zero => simp [leaves] at h
  | succ d =>
    unfold leaves at h
    cases hu : P.underlying t with
    | none => rw [hu] at h; cases h
    | some k =>
      rw [hu] at h
      refine ⟨k, rfl, ?_⟩
      cases k <;> simp [eqK] at h ⊢ <;> (try (subst h; rfl))

theorem eq_leaves (d : Nat) : ∀ (m : Nat) (t : TypeId) (ks : List EqK) (xs ys : List Value) (b : Bool), leaves P d t = some ks → xs.length = ks.length → ys.length = ks.length →
    rowEq ks xs ys = some b → (Op.equalIn (d + m) t (valOf P t xs) (valOf P t ys)).run P w = .ok b w := by
  induction d with
  | zero => intro m t ks xs ys b h; simp [leaves] at h
  | succ d ih =>
    intro m t ks xs ys b h hx hy he
    have step : ∀ (e : TypeId) (l : List EqK) (n o : Nat) (xs ys : List Value) (c : Bool), leaves P d e = some l → sizeT P e = some n → l.length = n → o + n ≤ xs.length → o + n ≤ ys.length →
        rowEq l ((xs.drop o).take n) ((ys.drop o).take n) = some c →
        ∃ u v, (part e ⟨xs⟩ o).run P w = .ok u w ∧ (part e ⟨ys⟩ o).run P w = .ok v w ∧ (Op.equalIn (d + m) e u v).run P w = .ok c w := by
      intro e l n o xs ys c hl hz hn h1 h2 hr
      obtain ⟨k, hk, hkind, hone⟩ := leaves_kind hl
      have hp : ∀ d, P.underlying e = some d → (eqK d).isSome = true → n = 1 := fun d hd hs => by rw [hk] at hd; cases hd; rw [← hn]; exact hone hs
      exact ⟨_, _, run_partOf hz h1 hp ⟨k, hk, hkind⟩, run_partOf hz h2 hp ⟨k, hk, hkind⟩,
        ih m e l _ _ c hl (by rw [List.length_take, List.length_drop]; omega) (by rw [List.length_take, List.length_drop]; omega) hr⟩
    rw [show d + 1 + m = (d + m) + 1 from by omega]
    unfold leaves at h
    cases hu : P.underlying t with
    | none => rw [hu] at h; cases h
    | some k =>
      rw [hu] at h
      cases k
      case struct fs =>
        simp only at h
        split at h
        · cases h
        rename_i hst
        have hv : ∀ l, valOf P t l = .agg ⟨l⟩ := fun l => by unfold valOf; rw [hu]
        have hf : P.fieldsOf t = fs := by simp [Program.fieldsOf, hu]
        rw [hv, hv, run_equalIn_struct (P := P) w (d + m) t ⟨xs⟩ ⟨ys⟩ (by rw [hf]; exact hu) (by simpa using hst), hf]
        have key : ∀ (l : List Field) (o : Nat) (ks : List EqK) (b : Bool), leaves.leavesOf (leaves P d) (fun u => (P.info? u).map (·.size)) l o = some ks →
            xs.length = o + ks.length → ys.length = o + ks.length → rowEq ks (xs.drop o) (ys.drop o) = some b → (Op.eqFields (d + m) ⟨xs⟩ ⟨ys⟩ l).run P w = .ok b w := by
          intro l
          induction l with
          | nil =>
            intro o ks b h hx hy he
            simp only [leaves.leavesOf, Option.some.injEq] at h
            subst h
            rw [List.drop_eq_nil_of_le (by simp at hx; omega), List.drop_eq_nil_of_le (by simp at hy; omega)] at he
            simp only [rowEq, Option.some.injEq] at he
            subst he
            simp [Op.eqFields]
          | cons f l ihl =>
            intro o ks b h hx hy he
            unfold leaves.leavesOf at h
            split at h
            · cases h
            rename_i hno
            have hname : f.name ≠ "_" := fun e => hno (.inl e)
            have hoff : f.offset = o := Decidable.byContradiction fun e => hno (.inr e)
            cases hl : leaves P d f.type with
            | none => rw [hl] at h; cases h
            | some l1 =>
              cases hz : (P.info? f.type).map (·.size) with
              | none => rw [hl, hz] at h; cases h
              | some n =>
                rw [hl, hz] at h
                simp only at h
                split at h
                · rename_i hn
                  cases hr : leaves.leavesOf (leaves P d) (fun u => (P.info? u).map (·.size)) l (o + n) with
                  | none => rw [hr] at h; cases h
                  | some k2 =>
                    rw [hr] at h
                    simp only [Option.map_some, Option.some.injEq] at h
                    subst h
                    simp only [List.length_append] at hx hy
                    rw [rowEq_append l1 k2 _ _ (by rw [List.length_drop]; omega) (by rw [List.length_drop]; omega), hn] at he
                    simp only [Op.eqFields, if_pos hname, Sem.run_bind]
                    cases hc : rowEq l1 ((xs.drop o).take n) ((ys.drop o).take n) with
                    | none => rw [hc] at he; cases he
                    | some c =>
                      obtain ⟨u, v, h1, h2, h3⟩ := step f.type l1 n o xs ys c hl hz hn (by omega) (by omega) hc
                      rw [hoff, h1]; simp only [Result.andThen_ok]
                      rw [h2]; simp only [Result.andThen_ok]
                      rw [h3]; simp only [Result.andThen_ok]
                      rw [hc] at he
                      cases c with
                      | false => simp only [Option.some.injEq] at he; subst he; simp
                      | true =>
                        simp only [List.drop_drop] at he
                        simpa using ihl (o + n) k2 b hr (by omega) (by omega) he
                · cases h
        exact key fs.toList 0 ks b h (by simpa using hx) (by simpa using hy) (by simpa using he)
      case array n e =>
        simp only [Option.bind_eq_some_iff] at h
        obtain ⟨l, hl, h⟩ := h
        split at h
        · rename_i hn
          cases h
          have hv : ∀ l, valOf P t l = .agg ⟨l⟩ := fun l => by unfold valOf; rw [hu]
          obtain ⟨ke, hke, _⟩ := leaves_kind hl
          obtain ⟨i, hi⟩ : ∃ i, P.info? e = some i := by
            cases hi : P.info? e with
            | none => simp [Program.underlying, hi] at hke
            | some i => exact ⟨i, rfl⟩
          have hz : sizeT P e = some l.length := by unfold sizeT; rw [hi]; rw [hn, hi]; rfl
          have hc : P.cellsOf e = l.length := by unfold Program.cellsOf; rw [hn]
          rw [hv, hv, run_equalIn_array w (d + m) ⟨xs⟩ ⟨ys⟩ hu hi, hc]
          have key : ∀ (q o : Nat) (b : Bool), xs.length = o * l.length + (repl q l).length → ys.length = o * l.length + (repl q l).length →
              rowEq (repl q l) (xs.drop (o * l.length)) (ys.drop (o * l.length)) = some b → (Op.eqItems (d + m) e l.length ⟨xs⟩ ⟨ys⟩ (List.range' o q)).run P w = .ok b w := by
            intro q
            induction q with
            | zero =>
              intro o b hx hy he
              simp only [repl, List.length_nil, Nat.add_zero] at hx hy he
              rw [List.drop_eq_nil_of_le (by omega), List.drop_eq_nil_of_le (by omega)] at he
              simp only [rowEq, Option.some.injEq] at he
              subst he
              simp [Op.eqItems]
            | succ q ihq =>
              intro o b hx hy he
              simp only [repl, List.length_append] at hx hy
              rw [show repl (q + 1) l = l ++ repl q l from rfl, rowEq_append l _ _ _ (by rw [List.length_drop]; omega) (by rw [List.length_drop]; omega)] at he
              simp only [List.range'_succ, Op.eqItems, Sem.run_bind]
              cases hc : rowEq l ((xs.drop (o * l.length)).take l.length) ((ys.drop (o * l.length)).take l.length) with
              | none => rw [hc] at he; cases he
              | some c =>
                obtain ⟨u, v, h1, h2, h3⟩ := step e l l.length (o * l.length) xs ys c hl hz rfl (by omega) (by omega) hc
                rw [h1]; simp only [Result.andThen_ok]
                rw [h2]; simp only [Result.andThen_ok]
                rw [h3]; simp only [Result.andThen_ok]
                rw [hc] at he
                cases c with
                | false => simp only [Option.some.injEq] at he; subst he; simp
                | true =>
                  simp only [List.drop_drop] at he
                  have e1 : o * l.length + l.length = (o + 1) * l.length := by rw [Nat.add_mul, Nat.one_mul]
                  rw [e1] at he
                  simpa using ihq (o + 1) b (by rw [← e1]; omega) (by rw [← e1]; omega) he
          rw [List.range_eq_range']
          exact key n 0 b (by simpa using hx) (by simpa using hy) (by simpa using he)
        · cases h
      all_goals
        simp only [Option.map_eq_some_iff] at h
        obtain ⟨k, hk, rfl⟩ := h
        obtain ⟨x, rfl⟩ : ∃ x, xs = [x] := List.length_eq_one_iff.1 hx
        obtain ⟨y, rfl⟩ : ∃ y, ys = [y] := List.length_eq_one_iff.1 hy
        have hl : leafEq k x y = some b := by
          simp only [rowEq] at he
          cases hq : leafEq k x y with
          | none => rw [hq] at he; cases he
          | some c => rw [hq] at he; cases c <;> simp_all
        have := eqK_leaf (w := w) hk hu hl (d + m)
        unfold valOf; rw [hu]; exact this
end Go.Proofs.YtjjlbfamfioofaaDoor.AM
