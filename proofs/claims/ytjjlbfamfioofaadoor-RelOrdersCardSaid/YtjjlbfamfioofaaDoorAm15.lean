/-
  AM, part 15: the operations that act, but calls: stores, appends, what is laid in a map.
  Conditions: none.
-/
import Derived.Test.YtjjlbfamfioofaaDoorAm14
namespace Go.Proofs.YtjjlbfamfioofaaDoor.AM
open Go.RowKit

set_option linter.unusedSimpArgs false
set_option linter.unusedVariables false
variable {P : Program} {G N : Nat} {σ : Emb} {g : Mem} {w : World} {h : Heap}

/-- What is appended. -/
theorem src_run (hm : MR G N σ g w) (hs : Sub g h) {size : Nat} {u cu : Value} {ys : List Value} {n : Nat} (hu : VR σ g u cu) (hsrc : srcOf h size u = some (ys, n)) :
    ∃ cs, (Builtin.lenOf cu).run P w = .ok n w ∧ (Builtin.firstCells size n cu).run P w = .ok ⟨cs⟩ w ∧ VRs σ g ys cs ∧ ys.length = n * size ∧ ∀ x ∈ ys, single x = true := by
  cases u <;> simp only [srcOf, reduceCtorEq] at hsrc
  case string s =>
    split at hsrc
    · rename_i h1
      subst h1
      simp only [Option.some.injEq, Prod.mk.injEq] at hsrc
      obtain ⟨rfl, rfl⟩ := hsrc
      rw [hu.string_inv]
      have hp : (s.data.toList.map fun b => (Value.int .u8 b.toNat)).all plain1 = true := by
        rw [List.all_eq_true]
        intro x hx
        obtain ⟨b, _, rfl⟩ := List.mem_map.1 hx
        rfl
      refine ⟨s.data.toList.map fun b => .int .u8 b.toNat, rfl, ?_, .plain1 hp, by simp, fun x hx => single_of_plain1 (List.all_eq_true.1 hp x hx)⟩
      have he : s.extract 0 s.size = s := by simp
      simp only [Builtin.firstCells, he, Sem.run_pure]
      congr 1
      apply Array.ext'
      simp
    · cases hsrc
  case slice a n' c =>
    cases a with
    | none =>
      simp only [srcOf, Option.some.injEq, Prod.mk.injEq] at hsrc
      obtain ⟨rfl, rfl⟩ := hsrc
      obtain ⟨rfl, rfl, rfl⟩ := hu.nilSlice_inv
      exact ⟨[], rfl, rfl, .nil, by simp, fun x hx => by simp at hx⟩
    | some p =>
      simp only [srcOf] at hsrc
      split at hsrc
      · rename_i hc
        subst hc
        obtain ⟨l, hl, he⟩ := opt_map_some hsrc
        simp only [Prod.mk.injEq] at he
        obtain ⟨rfl, rfl⟩ := he
        cases hu with
        | slice _ q _ _ cap v vals ver ro hv hg hle hn hq =>
          by_cases hlive : v = ver
          · rcases hq hlive with ⟨hq', _⟩ | ⟨h0, _⟩
            · obtain ⟨cs, _, hrun, hvs, hlen, h1⟩ := hm.read (P := P) hs (.ptr p q v vals ver ro hv hg hle fun _ => hq') hl
              exact ⟨cs, rfl, hrun, hvs, hlen, h1⟩
            · subst h0
              have : l = [] := by
                unfold Heap.read at hl
                rw [hs _ _ hg] at hl
                simp only at hl
                split at hl
                · simp only [Nat.zero_mul, List.take_zero, Option.some.injEq] at hl; exact hl.symm
                · cases hl
              subst this
              refine ⟨[], rfl, ?_, .nil, by simp, fun x hx => by simp at hx⟩
              simp only [Builtin.firstCells, Nat.zero_mul]
              rfl
          · exfalso
            unfold Heap.read at hl
            rw [hs _ _ hg] at hl
            simp only at hl
            split at hl
            · rename_i hcc
              rw [hv] at hcc
              exact hlive (by simpa using hcc.1)
            · cases hl
      · cases hsrc

theorem MR.drew (hm : MR G N σ g w) : MR G N σ g { w with drawn := w.drawn + 1 } := by
  refine ⟨fun i o hi => ?_, hm.inj, hm.glob, hm.size⟩
  exact ObjR.step (w := w) (w' := { w with drawn := w.drawn + 1 }) (.refl _ _) rfl (hm.obj i o hi)
theorem growBy_le (need : Nat) : ∀ (n c : Nat), c ≤ need + (need + 768) / 4 → Builtin.growBy need n c ≤ need + (need + 768) / 4
  | 0, c, h => h
  | n + 1, c, h => by
    unfold Builtin.growBy
    split
    · exact h
    · exact growBy_le need n _ (by omega)
theorem nextcap_le {need cap : Nat} (h : cap < need) : Builtin.nextslicecap need cap ≤ 3 * need := by
  unfold Builtin.nextslicecap
  split
  · omega
  · split
    · omega
    · have := growBy_le need 4 cap (by omega); omega

theorem zeroCells_length (z : Array Value) (n : Nat) : (Builtin.zeroCells z n).size = n * z.size := by simp [Builtin.zeroCells]

set_option maxHeartbeats 4000000 in
theorem append_done (hm : MR G N σ g w) (hs : Sub g h) {t u e : TypeId} {size bytes : Nat} {z : List Value} (ht : P.underlying t = some (.slice e)) (hz : sizeT P e = some size) (hb : bytesT P e = some bytes)
    (hzero : zeroOf P e = some z) (hzl : z.length = size) (hpos : 0 < size) (hbpos : 0 < bytes) (hnum : numeric P u = false) (hu : (P.underlying u).isSome = true)
    {x y cx cy : Value} (hx : VR σ g x cx) (hy : VR σ g y cy) {ty : TypeId} {v : Value} {h' : Heap}
    (he : appendTo h size bytes x (srcOf h size y) = some (v, h')) :
    ∃ cv w', (Builtin.append_ #[t, u] ty #[cx, cy]).run P w = .ok cv w' ∧ Done G N σ g w h v h' cv w' := by
  obtain ⟨i, hi, hib⟩ : ∃ i, (∀ w, (typeInfo e).run P w = .ok i w) ∧ i.bytes = bytes := by
    unfold bytesT at hb
    obtain ⟨i, hi, rfl⟩ := opt_map_some hb
    exact ⟨i, fun w => by simp [typeInfo, hi], rfl⟩
  obtain ⟨zv, hzv, hzlaid⟩ := zeroOf_inv hzero
  have hzc := laid_cells hzlaid
  obtain ⟨du, hdu⟩ := Option.isSome_iff_exists.1 hu
  have hni : ∀ k, du ≠ .int k := by
    rintro k rfl
    unfold numeric at hnum; rw [hdu] at hnum; cases hnum
  cases hsrc : srcOf h size y with
  | none => rw [hsrc] at he; unfold appendTo at he; split at he <;> simp_all
  | some yn =>
    obtain ⟨ys, n⟩ := yn
    rw [hsrc] at he
    unfold appendTo at he
    obtain ⟨cs, hlen, hfirst, hvs, hysl, hys1⟩ := src_run (P := P) hm hs hy hsrc
    have hcsl := hvs.length
    have fits : ∀ (base : Option Addr) (m cap : Nat) (w' : World), cx = .slice base m cap → m + n ≤ cap → (∀ a, base = some a → (storeCells (a.add (m * size)) cs).run P w = .ok () w') → (base = none → w' = w) →
        (Builtin.append_ #[t, u] ty #[cx, cy]).run P w = .ok (.slice base (m + n) cap) w' := by
      rintro base m cap w' rfl hle hst hnone
      unfold Builtin.append_
      cases du <;> first
        | (exact absurd rfl (hni _))
        | (simp only [List.getElem?_toArray, List.getElem?_cons_zero, List.getElem?_cons_succ, Sem.run_bind, run_und ht, Result.andThen_ok, run_sizeOf hz, run_und hdu, Sem.run_pure, Bool.false_eq_true, if_false, hlen, if_pos hle,
             Bool.not_false, if_true, hfirst]
           cases base with
           | none => rw [hnone rfl]; rfl
           | some a => simp only [Sem.run_bind, hst a rfl, Result.andThen_ok, Sem.run_pure])
    have grows : ∀ (base : Option Addr) (m cap : Nat) (ds cs1 : List Value), cx = .slice base m cap → ¬ m + n ≤ cap → (m + n) * bytes ≤ roomFor →
        (Builtin.firstCells size m cx).run P { w with drawn := w.drawn + 1 } = .ok ⟨ds⟩ { w with drawn := w.drawn + 1 } → (Builtin.firstCells size n cy).run P { w with drawn := w.drawn + 1 } = .ok ⟨cs1⟩ { w with drawn := w.drawn + 1 } →
        ∃ (k : Nat) (rest : List Value), k ≥ m + n ∧ rest.length = (k - (m + n)) * size ∧ (Builtin.append_ #[t, u] ty #[cx, cy]).run P w = .ok (.slice (some ⟨w.heap.size, 0, none⟩) (m + n) k)
          { { w with drawn := w.drawn + 1 } with heap := w.heap.push (.cells ⟨ds ++ cs1 ++ rest⟩ e) } := by
      rintro base m cap ds cs1 rfl hle hroom hold1 hfirst1
      have hcapn : ¬ Builtin.nextslicecap (m + n) cap * bytes > 2 ^ 48 := by
        have h1 := nextcap_le (show cap < m + n by omega)
        have h2 : Builtin.nextslicecap (m + n) cap * bytes ≤ 3 * (m + n) * bytes := Nat.mul_le_mul_right _ h1
        rw [Nat.mul_assoc] at h2
        unfold roomFor at hroom
        omega
      have hint : ¬ (((m + n : Nat) : Int) > IntKind.i64.max ∧ (False ∨ bytes = 0)) := by
        rintro ⟨_, h | h⟩
        · exact h
        · omega
      let q : Question := .appendCap (m + n) cap e
      let k := q.cut (w.tape w.drawn q)
      have hk : k ≥ m + n := by show m + n ≤ m + n + _; omega
      refine ⟨k, (Builtin.zeroCells ⟨z⟩ (k - (m + n))).toList, hk, by rw [Array.length_toList, zeroCells_length]; show (k - (m + n)) * z.length = _; rw [hzl], ?_⟩
      have hch : (choose (.appendCap (m + n) cap e)).run P w = .ok k { w with drawn := w.drawn + 1 } := by rw [run_choose]; rfl
      have harr : (⟨ds⟩ : Array Value) ++ ⟨cs1⟩ ++ Builtin.zeroCells ⟨z⟩ (k - (m + n)) = ⟨ds ++ cs1 ++ (Builtin.zeroCells ⟨z⟩ (k - (m + n))).toList⟩ := by apply Array.ext'; simp
      unfold Builtin.append_
      cases du <;> first
        | (exact absurd rfl (hni _))
        | (simp only [List.getElem?_toArray, List.getElem?_cons_zero, List.getElem?_cons_succ, Sem.run_bind, run_und ht, Result.andThen_ok, run_sizeOf hz, run_und hdu, Sem.run_pure, Bool.false_eq_true, if_false, hlen, if_neg hle,
             Bool.not_false, if_true, hi, hib, if_neg hint, if_neg hcapn, hch, run_askRoom, hold1, hfirst1, (run_zero hzv _).1, newRow, run_newObj, hzc]
           rw [harr])
    cases x <;> (try (cases he; done))
    rename_i a m c
    cases a with
    | none =>
      (try simp only at he)
      obtain ⟨rfl, rfl, hcx⟩ := hx.nilSlice_inv
      split at he
      · rename_i h0
        subst h0
        simp only [Option.some.injEq, Prod.mk.injEq] at he
        obtain ⟨rfl, rfl⟩ := he
        exact ⟨_, w, fits none 0 0 w hcx (Nat.le_refl _) (fun a h => by cases h) (fun _ => rfl), Done.same hm hs .nilSlice⟩
      · rename_i h0
        split at he
        · rename_i hroom
          simp only [Option.some.injEq, Prod.mk.injEq] at he
          obtain ⟨rfl, rfl⟩ := he
          obtain ⟨cs1, _, hfirst1, hvs1, _, _⟩ := src_run (P := P) hm.drew hs hy hsrc
          have hcsl1 := hvs1.length
          obtain ⟨k, rest, hk, hrest, hrun⟩ := grows none 0 0 [] cs1 hcx (by omega) (by rw [Nat.zero_add]; exact hroom) (by rw [hcx]; rfl) hfirst1
          rw [Nat.zero_add] at hk hrun hrest
          refine ⟨_, _, hrun, ?_⟩
          have hrl : ([] ++ cs1 ++ rest).length = k * size := by
            simp only [List.nil_append, List.length_append, hrest, ← hcsl1, hysl]
            rw [← Nat.add_mul]; congr 1; omega
          obtain ⟨h2, h3, h4, h5, h6⟩ := make_done (h := h) hm.drew hs (obj := .cells ys 0 false) (blk := .cells ⟨[] ++ cs1 ++ rest⟩ e) (sz := ([] ++ cs1 ++ rest).length)
            (fun σ' g' w' hext hw => .own ys ([] ++ cs1 ++ rest) 0 e hm.size rfl hw rfl (by
              rw [List.nil_append, hcsl1, List.take_left']
              · exact hvs1.ext hext
              · rfl) (by simp; omega) hys1) rfl
          refine ⟨_, ?_, h3, .slice _ _ _ _ _ 0 ys 0 false rfl h5 (Nat.le_refl _) hk (fun _ => .inl ⟨by simp only [if_pos], fun _ => ?_⟩), h4⟩
          · exact ⟨h2.ext, h2.size, h2.os, h2.tape, h2.output, h2.rest, h2.own⟩
          · simp only [if_pos]; omega
        · cases he
    | some p =>
      (try simp only at he)
      cases hob : h[p.block]? with
      | none => rw [hob] at he; cases he
      | some ob =>
        rw [hob] at he
        cases ob with
        | map es => cases he
        | gone => cases he
        | cells vals ver ro =>
          cases ro with
          | true => cases he
          | false =>
            (try simp only at he)
            split at he
            · rename_i hcond
              obtain ⟨rfl, hspot, hoff, hml, hroom⟩ := hcond
              simp only [Option.some.injEq, Prod.mk.injEq] at he
              obtain ⟨rfl, rfl⟩ := he
              obtain ⟨q0, cap0, hcxe, _⟩ := hx.slice_inv
              rw [hcxe] at hx
              cases hx with
              | slice _ _ _ _ _ v vals' ver' ro' hsp hg hle hn hq =>
                have hob' := hs _ _ hg
                rw [hob] at hob'
                simp only [Option.some.injEq, AObj.cells.injEq] at hob'
                obtain ⟨rfl, rfl, rfl⟩ := hob'
                rw [hspot] at hsp; cases hsp
                have hq := hq rfl
                have ho := hm.obj _ _ hg
                cases ho with
                | own _ ds _ el hb0 h0 hwb hsz hvv hl h1' =>
                  have hmd : m * c ≤ ds.length := by omega
                  by_cases hfit : m + n ≤ cap0
                  · -- in place
                    rcases hq with ⟨hq, hbound⟩ | ⟨hm0, hc0⟩
                    · have hbound := hbound rfl
                      rw [h0, hoff, Nat.add_zero, Nat.zero_add] at hbound
                      rw [h0, hoff, Nat.add_zero] at hq
                      have hroom2 : m * c + cs.length ≤ ds.length := by
                        rw [← hcsl, hysl, ← Nat.add_mul]
                        exact Nat.le_trans (Nat.mul_le_mul_right _ hfit) (by omega)
                      have hsc : ∀ x ∈ cs, single x = true := by
                        intro x hx
                        obtain ⟨i, hi⟩ := List.getElem?_of_mem hx
                        obtain ⟨u, hu, hur⟩ := hvs.get' hi
                        rw [hur.single]; exact hys1 u (List.mem_of_getElem? hu)
                      obtain ⟨w', hrun, hw1, hw2, hw3, hw4, hw5, hw6⟩ := storeCells_run (P := P) (el := el) cs 0 (m * c) ds w hwb (by omega) hsc
                      refine ⟨_, w', fits (some q0) m cap0 w' hcxe hfit (fun a ha => ?_) (fun h => by cases h), ?_⟩
                      · cases ha; rw [hq, addr_add, Nat.zero_add]; exact hrun
                      · obtain ⟨h2, h3, h4, h5⟩ := put_done (h := h) hm hs hg rfl (new := .cells (vals.take (m * c) ++ ys) (ver + 1) false) rfl (σ p.block) w'
                          (fun vals' ver' ro' e => by cases e; exact ⟨_, _, rfl, by omega, fun e => by omega⟩) (fun es e => by cases e)
                          (fun σ' g' he => by
                            refine .own _ (splice ds (0 + m * c) cs) (ver + 1) el hb0 h0 (by rw [hw1, Nat.add_comm]) (by rw [splice_length (by omega)]; exact hsz) ?_ ?_ ?_
                            · have hlen2 : (vals.take (m * c) ++ ys).length = m * c + cs.length := by rw [List.length_append, List.length_take, hcsl]; omega
                              rw [hlen2, Nat.zero_add]
                              have : (splice ds (m * c) cs).take (m * c + cs.length) = ds.take (m * c) ++ cs := by
                                unfold splice
                                rw [List.take_append, List.take_of_length_le (by simp; omega)]
                                simp
                                omega
                              rw [this]
                              refine VRs.append ?_ (hvs.ext he)
                              have := (hvv.take (m * c)).ext he
                              rw [List.take_take, Nat.min_eq_left (by omega)] at this
                              exact this
                            · rw [splice_length (by omega), List.length_append, List.length_take, hcsl]; omega
                            · intro x hx
                              rcases List.mem_append.1 hx with hx | hx
                              · exact h1' x (List.mem_of_mem_take hx)
                              · exact hys1 x hx)
                          (fun b hb' hne => hw2 b hne) (.inl rfl) (by omega) hw4 hw5 hw6
                        refine ⟨_, h2, h3, .slice _ _ _ _ _ (ver + 1) _ (ver + 1) false rfl h5 (Nat.le_refl _) hfit (fun _ => .inl ⟨?_, fun _ => ?_⟩), h4⟩
                        · simp only [if_pos]; rw [hq, h0]
                        · simp only [if_pos]; rw [h0]; omega
                    · subst hm0; subst hc0
                      have hn0 : n = 0 := by omega
                      subst hn0
                      have hys0 : ys = [] := List.length_eq_zero_iff.1 (by rw [hysl]; simp)
                      have hcs0 : cs = [] := List.length_eq_zero_iff.1 (by rw [← hcsl, hys0]; rfl)
                      subst hcs0; subst hys0
                      refine ⟨_, w, fits (some q0) 0 0 w hcxe (Nat.le_refl _) (fun a ha => rfl) (fun h => by cases h), ?_⟩
                      obtain ⟨h2, h3, h4, h5⟩ := put_done (h := h) hm hs hg rfl (new := .cells (vals.take (0 * c) ++ []) (ver + 1) false) rfl (σ p.block) w
                        (fun vals' ver' ro' e => by cases e; exact ⟨_, _, rfl, by omega, fun e => by omega⟩) (fun es e => by cases e)
                        (fun σ' g' he => by
                          have hemp : vals.take (0 * c) ++ [] = ([] : List Value) := by simp
                          rw [hemp]
                          exact .own [] ds (ver + 1) el hb0 h0 hwb hsz .nil (by simp) (fun x hx => by simp at hx))
                        (fun b hb' hne => rfl) (.inl rfl) (Nat.le_refl _) rfl rfl rfl
                      exact ⟨_, h2, h3, .slice _ _ _ _ _ (ver + 1) _ (ver + 1) false rfl h5 (Nat.le_refl _) (Nat.le_refl _) (fun _ => .inr ⟨rfl, rfl⟩), h4⟩
                  · -- a new row
                    obtain ⟨cs1, _, hfirst1, hvs1, _, _⟩ := src_run (P := P) hm.drew hs hy hsrc
                    have hcsl1 := hvs1.length
                    have hdrew := hm.drew
                    have hold : (Builtin.firstCells c m cx).run P { w with drawn := w.drawn + 1 } = .ok ⟨ds.take (m * c)⟩ { w with drawn := w.drawn + 1 } := by
                      rw [hcxe]
                      rcases hq with ⟨hq, hbound⟩ | ⟨hm0, hc0⟩
                      · simp only [Builtin.firstCells]
                        rw [hq, h0, hoff, Nat.add_zero]
                        refine loadCells_run (by rw [List.length_take]; omega) fun j x hj => ?_
                        rw [List.getElem?_take] at hj
                        split at hj
                        · simp only [World.cell?, hwb, Nat.zero_add]
                          simpa using hj
                        · cases hj
                      · subst hm0
                        simp only [Builtin.firstCells, Nat.zero_mul, List.take_zero]
                        rfl
                    obtain ⟨k, rest, hk, hrest, hrun⟩ := grows (some q0) m cap0 (ds.take (m * c)) cs1 hcxe hfit hroom hold hfirst1
                    have htl : (ds.take (m * c)).length = m * c := by rw [List.length_take]; omega
                    have hrl : (ds.take (m * c) ++ cs1 ++ rest).length = k * c := by
                      simp only [List.length_append, hrest, htl, ← hcsl1, hysl]
                      rw [← Nat.add_mul, ← Nat.add_mul]; congr 1; omega
                    refine ⟨_, _, hrun, ?_⟩
                    obtain ⟨h2, h3, h4, h5⟩ := put_done (h := h) hdrew hs hg rfl (new := .cells (vals.take (m * c) ++ ys) (ver + 1) false) rfl ⟨w.heap.size, 0, (ds.take (m * c) ++ cs1 ++ rest).length⟩
                      { { w with drawn := w.drawn + 1 } with heap := w.heap.push (.cells ⟨ds.take (m * c) ++ cs1 ++ rest⟩ e) }
                      (fun vals' ver' ro' e => by cases e; exact ⟨_, _, rfl, by omega, fun e => by omega⟩) (fun es e => by cases e)
                      (fun σ' g' he => by
                        refine .own _ (ds.take (m * c) ++ cs1 ++ rest) (ver + 1) e hm.size rfl (by simp) rfl ?_ ?_ ?_
                        · have hlen2 : (vals.take (m * c) ++ ys).length = (ds.take (m * c) ++ cs1).length := by rw [List.length_append, List.length_append, htl, List.length_take, hcsl1]; omega
                          rw [hlen2, List.take_left']
                          · refine VRs.append ?_ (hvs1.ext he)
                            have := (hvv.take (m * c)).ext he
                            rw [List.take_take, Nat.min_eq_left (by omega)] at this
                            exact this
                          · rfl
                        · rw [List.length_append, List.length_take, List.length_append, List.length_append, htl, hcsl1]; omega
                        · intro x hx
                          rcases List.mem_append.1 hx with hx | hx
                          · exact h1' x (List.mem_of_mem_take hx)
                          · exact hys1 x hx)
                      (fun b hb' hne => by
                        show (w.heap.push _)[b]? = _
                        rw [Array.getElem?_push, if_neg (by simp only at hb'; omega)])
                      (.inr (Nat.le_refl _)) (by simp) rfl rfl rfl
                    refine ⟨_, ?_, h3, .slice _ _ _ _ _ (ver + 1) _ (ver + 1) false rfl h5 (Nat.le_refl _) hk (fun _ => .inl ⟨by simp only [if_pos], fun _ => ?_⟩), h4⟩
                    · exact ⟨h2.ext, h2.size, h2.os, h2.tape, h2.output, h2.rest, h2.own⟩
                    · simp only [if_pos]; omega
            · cases he
end Go.Proofs.YtjjlbfamfioofaaDoor.AM
