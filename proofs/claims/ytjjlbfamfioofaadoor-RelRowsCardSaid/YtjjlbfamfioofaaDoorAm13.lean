/-
  AM, part 13: the operations that make memory.
  Conditions: none.
-/
import Derived.Test.YtjjlbfamfioofaaDoorAm12
namespace Go.Proofs.YtjjlbfamfioofaaDoor.AM
open Go.RowKit

set_option linter.unusedSimpArgs false
variable {P : Program} {G N : Nat} {σ : Emb} {g : Mem} {w : World} {h : Heap}

/-- The operation comes to a value in a world behind. -/
def Makes (P : Program) (G N : Nat) (σ : Emb) (g : Mem) (w : World) (h : Heap) (v : Value) (h' : Heap) (s : Sem Next) : Prop :=
  ∃ obj, h' = h ++ [obj] ∧ ∃ cv w', s.run P w = .ok (.value cv) w' ∧ Filled G N σ g w h.length obj v cv w'

theorem run_bytes {t : TypeId} {b : Nat} (h : bytesT P t = some b) (w : World) : ∃ i, (typeInfo t).run P w = .ok i w ∧ i.bytes = b := by
  unfold bytesT at h
  obtain ⟨i, hi, rfl⟩ := opt_map_some h
  exact ⟨i, by simp [typeInfo, hi], rfl⟩

set_option maxHeartbeats 1000000 in
theorem make_fill (call : Caller) (hm : MR G N σ g w) (hid : g h.length = none) {ρ ρc : Operand → Value} {o : Oper} {ao : AOp} (hn : normOp P o.type o.op = some ao) (hk : ao.makes = true)
    (hv : ∀ x ∈ o.op.operands, VR σ g (ρ x) (ρc x)) (hc : ∀ v, ρ (.const v) = v ∧ ρc (.const v) = v) {v : Value} {h' : Heap} (he : evOp call ρ h ao = some (v, h')) : Makes P G N σ g w h v h' (execOp ρc o) := by
  obtain ⟨dst, op, ty, pos, after, guard⟩ := o
  simp only at hn hv
  cases op
  case alloc t =>
    simp only [normOp] at hn
    obtain ⟨z, hz, rfl⟩ := opt_map_some hn
    obtain ⟨zv, hzv, hzl⟩ := zeroOf_inv hz
    have hzp := laid_plain hzl (zeroVal_plain hzv)
    simp only [evOp, Option.some.injEq, Prod.mk.injEq] at he
    obtain ⟨rfl, rfl⟩ := he
    obtain ⟨hd, _⟩ := row_fill (el := t) hm hid (VRs.plain1 hzp : VRs σ g z z) fun x hx => single_of_plain1 (List.all_eq_true.1 hzp x hx)
    refine ⟨_, rfl, _, _, ?_, hd⟩
    simp only [execOp, Instr.alloc, Sem.run_bind, (run_zero hzv w).1, Result.andThen_ok, newVar, newRow, laid_cells hzl, run_newObj, Sem.run_pure]
  case box t x =>
    have hx := hv x (by simp [Op.operands])
    simp only [normOp] at hn
    obtain ⟨n, hn', rfl⟩ := opt_map_some hn
    simp only [evOp] at he
    split at he
    · rename_i l hl
      split at he
      · simp only [Option.some.injEq, Prod.mk.injEq] at he
        obtain ⟨rfl, rfl⟩ := he
        obtain ⟨cs, hcs, hvs, h1⟩ := laid_sound hx hl
        obtain ⟨hd, _⟩ := row_fill (el := t) hm hid hvs h1
        refine ⟨_, rfl, _, _, ?_, hd⟩
        simp only [execOp, Instr.box, newVar, newRow, hcs, Sem.run_bind, run_newObj, Result.andThen_ok, Sem.run_pure]
      · cases he
    · cases he
  case buildSlice t n ps =>
    simp only [normOp] at hn
    cases hu : P.underlying t with
    | none => rw [hu] at hn; cases hn
    | some d =>
      rw [hu] at hn
      cases d <;> simp only [reduceCtorEq] at hn
      rename_i e
      cases hz : zeroOf P e with
      | none => rw [hz] at hn; cases hn
      | some z =>
        cases hsz : sizeT P e with
        | none => rw [hz, hsz] at hn; cases hn
        | some m =>
          cases hps : normParts P e ps with
          | none => rw [hz, hsz, hps] at hn; cases hn
          | some qs =>
            rw [hz, hsz, hps] at hn
            simp only at hn
            split at hn
            · rename_i hcond
              obtain ⟨hbig, hzl', hpos⟩ := hcond
              simp only [Option.some.injEq] at hn; subst hn
              obtain ⟨zv, hzv, hzl⟩ := zeroOf_inv hz
              have hzp := laid_plain hzl (zeroVal_plain hzv)
              have hzc := laid_cells hzl
              unfold normParts at hps
              obtain ⟨m', hm', rfl⟩ := opt_map_some hps
              rw [hsz] at hm'; cases hm'
              simp only [evOp] at he
              obtain ⟨l, hl, hr⟩ := opt_map_some he
              simp only [Prod.mk.injEq] at hr
              obtain ⟨rfl, rfl⟩ := hr
              have hz0 := zeros_plain hzp n
              obtain ⟨ds, h1, h2, h3, h4⟩ := fill_sound (σ := σ) (g := g) (place := fun i => some (i * m, m)) ((ps.toList.map fun p => (p.1 * m, m, p.2)).map fun p => (p.1, p.2.1, ρ p.2.2)) (ps.map fun (i, x) => (i, ρc x)).toList
                (zeros z n) (zeros z n) l (.plain1 hz0) (fun x hx => single_of_plain1 (List.all_eq_true.1 hz0 x hx))
                (by simp) (fun i p q hp hq' => by
                  simp only [List.getElem?_map, Option.map_map, Option.map_eq_some_iff] at hp
                  obtain ⟨p0, hp0, rfl⟩ := hp
                  simp only [Array.toList_map, List.getElem?_map, Option.map_eq_some_iff] at hq'
                  obtain ⟨q0, hq0, rfl⟩ := hq'
                  rw [hp0] at hq0; cases hq0
                  refine ⟨rfl, ?_⟩
                  refine hv _ ?_
                  have hmem : p0 ∈ ps.toList := List.mem_of_getElem? hp0
                  simp only [Op.operands, List.mem_toArray, List.mem_map]
                  exact ⟨p0, hmem, rfl⟩) hl
              obtain ⟨_, hd⟩ := row_fill (el := e) hm hid h2 h3
              have hlen : n * z.length ≤ ds.length := by rw [← h2.length, h4, zeros_length]; exact Nat.le_refl _
              refine ⟨_, rfl, _, _, ?_, hd n z.length hlen⟩
              have hzm := zeros_model (z := z) (by omega) n (n * m) (by rw [hzl'])
              have hno : ¬ n * m > 2 ^ 24 := by omega
              simp only [execOp, Instr.buildSlice, Sem.run_bind, run_und hu, Result.andThen_ok, run_sizeOf hsz, if_neg hno, Sem.run_pure]
              by_cases h0 : n * m = 0
              · have hz' : zeros z n = [] := by
                  apply List.length_eq_zero_iff.1; rw [zeros_length, hzl', h0]
                rw [hz'] at h1
                simp only [if_pos h0, Sem.run_bind, Sem.run_pure, Result.andThen_ok]
                rw [h0, show (Array.map (fun x => (#[] : Array Value)[x % (#[] : Array Value).size]!) (Array.range 0)) = ⟨[]⟩ from by simp, h1]
                simp only [newRow, Sem.run_bind, run_newObj, Result.andThen_ok, Sem.run_pure]
              · simp only [if_neg h0, Sem.run_bind, (run_zero hzv w).1, Result.andThen_ok, hzc, Sem.run_pure]
                rw [hzm, h1]
                simp only [newRow, Sem.run_bind, run_newObj, Result.andThen_ok, Sem.run_pure]
            · cases hn
  case makeMap t r =>
    have hn : normMap (P.underlying t) r = some ao := hn
    cases hu : P.underlying t with
    | none => rw [hu] at hn; cases hn
    | some d =>
      rw [hu] at hn
      cases d <;> (try (simp [normMap] at hn; done))
      rename_i kt e
      have fin : ao = .mkMap → (∀ x, r = some x → ∃ k n, x = .const (.int k n)) → Makes P G N σ g w h v h' (execOp ρc ⟨dst, .makeMap t r, ty, pos, after, guard⟩) := by
        rintro rfl hr
        simp only [evOp, Option.some.injEq, Prod.mk.injEq] at he
        obtain ⟨rfl, rfl⟩ := he
        obtain ⟨h2, h3, h5, h6⟩ := fill_done hm hid (obj := .map []) (blk := .map #[] 0) (sz := 0) (fun σ' g' w' he hw => .map [] [] 0 hm.size hw .nil) rfl
        refine ⟨_, rfl, .map (some w.heap.size), _, ?_, _, h2, h3, .map _ _ [] h5 (by simp only [if_pos])⟩
        cases r with
        | none => rfl
        | some x =>
          obtain ⟨k, n, rfl⟩ := hr x rfl
          simp only [execOp, Instr.makeMap, Option.map_some, (hc _).2, Sem.run_bind, run_und hu, Result.andThen_ok, asInt, asIntOf, Sem.run_pure, run_newObj]
      cases r with
      | none => simp only [normMap, Option.some.injEq] at hn; exact fin hn.symm (fun x hx => by cases hx)
      | some x =>
        cases x with
        | const c =>
          cases c <;> (try (simp [normMap] at hn; done))
          simp only [normMap, Option.some.injEq] at hn
          exact fin hn.symm (fun x hx => by cases hx; exact ⟨_, _, rfl⟩)
        | _ => simp [normMap] at hn
  case makeSlice t l c =>
    have hl := hv l (by simp [Op.operands])
    have hcv := hv c (by simp [Op.operands])
    simp only [normOp] at hn
    cases hu : P.underlying t with
    | none => rw [hu] at hn; cases hn
    | some d =>
      rw [hu] at hn
      cases d <;> simp only [reduceCtorEq] at hn
      rename_i e
      cases hz : zeroOf P e with
      | none => rw [hz] at hn; cases hn
      | some z =>
        cases hsz : sizeT P e with
        | none => rw [hz, hsz] at hn; cases hn
        | some m =>
          cases hb : bytesT P e with
          | none => rw [hz, hsz, hb] at hn; cases hn
          | some b =>
            rw [hz, hsz, hb] at hn
            simp only at hn
            split at hn
            · rename_i hcond
              obtain ⟨hsame, hzl', hpos, hbpos⟩ := hcond
              simp only [Option.some.injEq] at hn; subst hn
              obtain ⟨zv, hzv, hzl⟩ := zeroOf_inv hz
              have hzp := laid_plain hzl (zeroVal_plain hzv)
              have hzc := laid_cells hzl
              simp only [evOp] at he
              split at he
              · rename_i k n hlv
                split at he
                · rename_i hroom
                  obtain ⟨h0, hle⟩ := hroom
                  simp only [Option.some.injEq, Prod.mk.injEq] at he
                  obtain ⟨rfl, rfl⟩ := he
                  have hrl : ρc l = .int k n := by rw [hlv] at hl; exact hl.int_inv
                  have hrc : ∃ k', ρc c = .int k' n := by
                    cases l <;> cases c <;> simp only [sameOperand, Bool.false_eq_true, beq_iff_eq] at hsame
                    · subst hsame; exact ⟨k, hrl⟩
                    · rename_i u u'
                      cases u <;> cases u' <;> simp only [sameOperand, Bool.false_eq_true, beq_iff_eq] at hsame
                      subst hsame
                      rw [(hc _).1] at hlv
                      cases hlv
                      exact ⟨_, (hc _).2⟩
                  obtain ⟨k', hrc⟩ := hrc
                  have hn64 : n ≤ 70368744177664 := by
                    have : n * 1 ≤ n * b := Int.mul_le_mul_of_nonneg_left (by omega) h0
                    unfold roomFor at hle; omega
                  have hwr : IntKind.i64.wrap n = n := by rw [IntKind.wrap_i64]; omega
                  have hz0 := zeros_plain hzp n.toNat
                  obtain ⟨_, hd⟩ := row_fill (el := e) hm hid (.plain1 hz0 : VRs σ g (zeros z n.toNat) (zeros z n.toNat)) fun x hx => single_of_plain1 (List.all_eq_true.1 hz0 x hx)
                  have hlen : n.toNat * m ≤ (zeros z n.toNat).length := by rw [zeros_length, hzl']; exact Nat.le_refl _
                  refine ⟨_, rfl, _, _, ?_, hd n.toNat m hlen⟩
                  obtain ⟨i, hi, hib⟩ := run_bytes hb w
                  have hlarge : (decide (n < 0) || decide ((b : Int) * n > 2 ^ 48)) = false := by
                    have : (b : Int) * n = n * b := Int.mul_comm _ _
                    unfold roomFor at hle
                    simp only [Bool.or_eq_false_iff, decide_eq_false_iff_not]
                    constructor <;> omega
                  have hzm := zeros_model (z := z) (by omega) n.toNat (n.toNat * m) (by rw [hzl'])
                  simp only [execOp, Instr.makeSlice, Sem.run_bind, run_und hu, Result.andThen_ok, hrl, hrc, asInt, asIntOf, Sem.run_pure, hi, hwr, hib, hlarge, Bool.false_or]
                  rw [if_neg (by simp only [Bool.or_eq_true, decide_eq_true_eq]; omega)]
                  simp only [Sem.run_bind, run_askRoom, Result.andThen_ok, run_sizeOf hsz]
                  by_cases h0 : n.toNat * m = 0
                  · have hz' : zeros z n.toNat = [] := by
                      apply List.length_eq_zero_iff.1; rw [zeros_length, hzl', h0]
                    rw [hz']
                    simp only [if_pos h0, Sem.run_bind, Sem.run_pure, Result.andThen_ok]
                    rw [h0, show (Array.map (fun x => (#[] : Array Value)[x % (#[] : Array Value).size]!) (Array.range 0)) = ⟨[]⟩ from by simp]
                    simp only [newRow, Sem.run_bind, run_newObj, Result.andThen_ok, Sem.run_pure]
                  · simp only [if_neg h0, Sem.run_bind, (run_zero hzv w).1, Result.andThen_ok, hzc, Sem.run_pure]
                    rw [hzm]
                    simp only [newRow, Sem.run_bind, run_newObj, Result.andThen_ok, Sem.run_pure]
                · cases he
              · cases he
            · cases hn
  case binOp op t x y yt =>
    exfalso
    have eqs : ∀ neg, normEq P neg t x y = some ao → False := by
      intro neg hne
      unfold normEq at hne
      repeat' split at hne
      all_goals first
        | (cases hne; done)
        | (simp only [Option.some.injEq] at hne; subst hne; simp [AOp.makes] at hk; done)
        | (obtain ⟨z, _, rfl⟩ := opt_map_some hne; simp [AOp.makes] at hk; done)
    simp only [normOp] at hn
    cases op <;> simp only at hn
    case eql => exact eqs false hn
    case neq => exact eqs true hn
    all_goals
      split at hn
      · simp only [Option.some.injEq] at hn; subst hn; simp [AOp.makes] at hk
      · cases hn
  case call c =>
    exfalso
    simp only [normOp, normCall] at hn
    repeat' split at hn
    all_goals first
      | (cases hn; done)
      | (simp only [Option.some.injEq] at hn; subst hn; simp [AOp.makes] at hk; done)
  case makeFunc fn a b =>
    exfalso
    cases fn <;> simp only [normOp, reduceCtorEq, Option.some.injEq] at hn
    subst hn; simp [AOp.makes] at hk
  case slice t x lo hi mx =>
    exfalso
    cases mx with
    | some y => simp [normOp] at hn
    | none =>
      simp only [normOp] at hn
      repeat' split at hn
      all_goals first
        | (cases hn; done)
        | (simp only [Option.some.injEq] at hn; subst hn; simp [AOp.makes] at hk; done)
        | (obtain ⟨z, _, hn⟩ := Option.bind_eq_some_iff.1 hn
           split at hn <;> first | (cases hn; done) | (simp only [Option.some.injEq] at hn; subst hn; simp [AOp.makes] at hk; done))
  all_goals
    exfalso
    simp only [normOp, reduceCtorEq] at hn
    try (
      repeat' split at hn
      all_goals first
        | (cases hn; done)
        | (simp only [Option.some.injEq] at hn; subst hn; simp [AOp.makes] at hk; done)
        | (obtain ⟨z, _, rfl⟩ := opt_map_some hn; simp [AOp.makes] at hk; done)
        | (obtain ⟨z, _, hn⟩ := Option.bind_eq_some_iff.1 hn
           split at hn <;> first | (cases hn; done) | (simp only [Option.some.injEq] at hn; subst hn; simp [AOp.makes] at hk; done)))
theorem make_op (call : Caller) (hm : MR G N σ g w) (hs : Sub g h) {ρ ρc : Operand → Value} {o : Oper} {ao : AOp} (hn : normOp P o.type o.op = some ao) (hk : ao.makes = true)
    (hv : ∀ x ∈ o.op.operands, VR σ g (ρ x) (ρc x)) (hc : ∀ v, ρ (.const v) = v ∧ ρc (.const v) = v) {v : Value} {h' : Heap} (he : evOp call ρ h ao = some (v, h')) :
    ∃ cv w', (execOp ρc o).run P w = .ok (.value cv) w' ∧ Done G N σ g w h v h' cv w' := by
  obtain ⟨obj, rfl, cv, w', hrun, σ', h1, h2, h3⟩ := make_fill call hm (sub_none hs (Nat.le_refl h.length)) hn hk hv hc he
  refine ⟨cv, w', hrun, σ', ?_, ?_, ?_, ⟨by simp, fun i hi _ => List.getElem?_append_left hi⟩⟩ <;> rw [grow_append hs]
  · exact h1
  · exact h2
  · exact h3
/-- What is made does not hang on the memory. -/
theorem make_indep {call : Caller} {ρ : Operand → Value} {ao : AOp} (hk : ao.makes = true) {h h₁ : Heap} {v : Value} {h' : Heap} (he : evOp call ρ h ao = some (v, h')) :
    ∃ obj, h' = h ++ [obj] ∧ (h₁.length = h.length → evOp call ρ h₁ ao = some (v, h₁ ++ [obj])) := by
  cases ao <;> simp only [AOp.makes, Bool.false_eq_true] at hk
  case alloc z =>
    simp only [evOp, Option.some.injEq, Prod.mk.injEq] at he
    obtain ⟨rfl, rfl⟩ := he
    exact ⟨_, rfl, fun e => by simp [evOp, e]⟩
  case box n x =>
    simp only [evOp] at he
    split at he
    · rename_i l hl
      split at he
      · rename_i hn
        simp only [Option.some.injEq, Prod.mk.injEq] at he
        obtain ⟨rfl, rfl⟩ := he
        exact ⟨_, rfl, fun e => by simp [evOp, hl, hn, e]⟩
      · cases he
    · cases he
  case mkRow z n ps =>
    simp only [evOp] at he
    obtain ⟨l, hl, hr⟩ := opt_map_some he
    simp only [Prod.mk.injEq] at hr
    obtain ⟨rfl, rfl⟩ := hr
    exact ⟨_, rfl, fun e => by simp [evOp, hl, e]⟩
  case mkSlice m b z l =>
    simp only [evOp] at he
    split at he
    · rename_i k n hl
      split at he
      · rename_i hn
        simp only [Option.some.injEq, Prod.mk.injEq] at he
        obtain ⟨rfl, rfl⟩ := he
        exact ⟨_, rfl, fun e => by simp only [evOp, hl]; rw [if_pos hn, e]⟩
      · cases he
    · cases he
  case mkMap =>
    simp only [evOp, Option.some.injEq, Prod.mk.injEq] at he
    obtain ⟨rfl, rfl⟩ := he
    exact ⟨_, rfl, fun e => by simp [evOp, e]⟩
end Go.Proofs.YtjjlbfamfioofaaDoor.AM
