/-
  AM, part 11: every operation that neither acts nor makes memory: one theorem.
  Conditions: none.
-/
import Derived.Test.YtjjlbfamfioofaaDoorAm10
namespace Go.Proofs.YtjjlbfamfioofaaDoor.AM
open Go.RowKit

set_option linter.unusedSimpArgs false
variable {P : Program} {G N : Nat} {σ : Emb} {g : Mem} {w : World}

theorem len_arr_run {t ty : TypeId} {x : Value} {n : Nat} {e : TypeId} (h : P.underlying t = some (.array n e) ∨ ∃ a, P.underlying t = some (.pointer a) ∧ P.underlying a = some (.array n e)) :
    (Builtin.len_ #[t] ty #[x]).run P w = .ok (.int .i64 n) w := by
  rcases h with h | ⟨a, h, h'⟩
  · unfold Builtin.len_
    cases x <;> simp [run_und h, goInt]
  · unfold Builtin.len_
    cases x <;> simp [run_und h, run_und h', goInt]

theorem VR.func_inv {f : Fn} {a b : Array Value} {c : Value} (h : VR σ g (.func f a b) c) : ∃ ys vs, c = .func f ⟨ys⟩ ⟨vs⟩ := by cases h; exact ⟨_, _, rfl⟩
theorem binOp_eqs (neg : Bool) (t : TypeId) {u v : Value} (hni : ∀ k a k' a', ¬ (u = .int k a ∧ v = .int k' a')) (hns : ∀ s s', ¬ (u = .string s ∧ v = .string s'))
    (hnf : ∀ k a k' a', ¬ (u = .float k a ∧ v = .float k' a')) (hnc : ∀ k a c k' a' c', ¬ (u = .complex k a c ∧ v = .complex k' a' c')) :
    binOp (if neg then .neq else .eql) t u v = (do pure (.bool ((← Op.equal t u v) != neg)) : Sem Value) := by
  cases neg
  · simp only [Bool.false_eq_true, if_false, Bool.bne_false]
    cases u <;> cases v <;> first | rfl | exact absurd ⟨rfl, rfl⟩ (hni _ _ _ _) | exact absurd ⟨rfl, rfl⟩ (hns _ _) | exact absurd ⟨rfl, rfl⟩ (hnf _ _ _ _) | exact absurd ⟨rfl, rfl⟩ (hnc _ _ _ _ _ _)
  · simp only [if_true, Bool.bne_true]
    cases u <;> cases v <;> first | rfl | exact absurd ⟨rfl, rfl⟩ (hni _ _ _ _) | exact absurd ⟨rfl, rfl⟩ (hns _ _) | exact absurd ⟨rfl, rfl⟩ (hnf _ _ _ _) | exact absurd ⟨rfl, rfl⟩ (hnc _ _ _ _ _ _)
theorem leaves_kinds {d : Nat} : ∀ {t : TypeId} {ks : List EqK}, leaves P d t = some ks → ∀ k ∈ ks, k = .bool ∨ k = .int ∨ k = .str := by
  induction d with
  | zero => intro t ks h; simp [leaves] at h
  | succ d ih =>
    intro t ks h
    unfold leaves at h
    cases hu : P.underlying t with
    | none => rw [hu] at h; cases h
    | some q =>
      rw [hu] at h
      cases q
      case struct fs =>
        simp only at h
        split at h
        · cases h
        have key : ∀ (l : List Field) (o : Nat) (ks : List EqK), leaves.leavesOf (leaves P d) (fun u => (P.info? u).map (·.size)) l o = some ks → ∀ k ∈ ks, k = .bool ∨ k = .int ∨ k = .str := by
          intro l
          induction l with
          | nil => intro o ks h k hk; simp only [leaves.leavesOf, Option.some.injEq] at h; subst h; simp at hk
          | cons f l ihl =>
            intro o ks h k hk
            unfold leaves.leavesOf at h
            split at h
            · cases h
            cases hl : leaves P d f.type with
            | none => rw [hl] at h; cases h
            | some l1 =>
              cases hz : (P.info? f.type).map (·.size) with
              | none => rw [hl, hz] at h; cases h
              | some n =>
                rw [hl, hz] at h
                simp only at h
                split at h
                · obtain ⟨k2, hk2, rfl⟩ := opt_map_some h
                  rcases List.mem_append.1 hk with hk | hk
                  · exact ih hl k hk
                  · exact ihl _ _ hk2 k hk
                · cases h
        exact key _ _ _ h
      case array n e =>
        simp only [Option.bind_eq_some_iff] at h
        obtain ⟨l, hl, h⟩ := h
        split at h
        · cases h
          intro k hk
          have : ∀ n, k ∈ repl n l → k ∈ l := by
            intro n
            induction n with
            | zero => intro h; simp [repl] at h
            | succ n ihn => intro h; rcases List.mem_append.1 h with h | h; exact h; exact ihn h
          exact ih hl k (this _ hk)
        · cases h
      all_goals
        simp only [Option.map_eq_some_iff] at h
        obtain ⟨k0, hk0, rfl⟩ := h
        intro k hk
        simp only [List.mem_singleton] at hk
        subst hk
        simp only [eqK, Option.some.injEq, reduceCtorEq] at hk0
        try (subst hk0; simp)

theorem EntriesR.length {es : List (Value × Value)} {ms : List MapEntry} (h : EntriesR σ g es ms) : es.length = ms.length := by
  induction h with
  | nil => rfl
  | cons _ _ _ _ _ _ ih => simp [ih]
set_option maxHeartbeats 1000000 in
theorem still_call (call : Caller) (hm : MR G N σ g w) {h : Heap} (hs : Sub g h) {ρ ρc : Operand → Value} {dst : Option Tmp} {c : Call} {ty : TypeId} {pos : String} {after : Array Edge} {guard : Option (Nat × Bool)} {ao : AOp}
    (hn : normOp P ty (.call c) = some ao) (hk : ao.acts = false)
    (hv : ∀ x ∈ (Op.call c).operands, VR σ g (ρ x) (ρc x)) (hc : ∀ v, ρ (.const v) = v ∧ ρc (.const v) = v) {v : Value} {h' : Heap} (he : evOp call ρ h ao = some (v, h')) :
    h' = h ∧ Still P w σ g v (execOp ρc ⟨dst, .call c, ty, pos, after, guard⟩) := by
  obtain ⟨callee, ⟨as⟩, ⟨ts⟩⟩ := c
  simp only [normOp, normCall] at hn
  split at hn
  · rename_i x t
    have hx := hv x (by simp [Op.operands, Call.operands])
    have hrun : ∀ r, (Builtin.len_ #[t] ty #[ρc x]).run P w = .ok r w → VR σ g v r → Still P w σ g v (execOp ρc ⟨dst, .call ⟨.builtin .len, ⟨[x]⟩, ⟨[t]⟩⟩, ty, pos, after, guard⟩) := by
      intro r hr hvr
      refine ⟨r, ?_, hvr⟩
      simp only [execOp, resolve, List.map_toArray, List.map_cons, List.map_nil, Sem.run_bind, Sem.run_pure, Result.andThen_ok, invoke, builtin]
      rw [hr]
      rfl
    have consts : ∀ (n : Nat) e, ao = .mv (.const (.int .i64 n)) → (P.underlying t = some (.array n e) ∨ ∃ a, P.underlying t = some (.pointer a) ∧ P.underlying a = some (.array n e)) →
        h' = h ∧ Still P w σ g v (execOp ρc ⟨dst, .call ⟨.builtin .len, ⟨[x]⟩, ⟨[t]⟩⟩, ty, pos, after, guard⟩) := by
      rintro n e rfl ht
      simp only [evOp, (hc _).1, Option.some.injEq, Prod.mk.injEq] at he
      obtain ⟨rfl, rfl⟩ := he
      exact ⟨rfl, hrun _ (len_arr_run ht) (.int _ _)⟩
    cases hu : P.underlying t with
    | none => rw [hu] at hn; cases hn
    | some d =>
      rw [hu] at hn
      cases d <;> simp only [reduceCtorEq] at hn
      case string =>
        simp only [Option.some.injEq] at hn; subst hn
        simp only [evOp] at he
        split at he
        · rename_i s hxs
          simp only [Option.some.injEq, Prod.mk.injEq] at he
          obtain ⟨rfl, rfl⟩ := he
          rw [hxs] at hx
          refine ⟨rfl, hrun _ ?_ (.int _ _)⟩
          rw [hx.string_inv]
          simp [Builtin.len_, run_und hu, goInt]
        · cases he
      case slice e =>
        simp only [Option.some.injEq] at hn; subst hn
        simp only [evOp] at he
        split at he
        · rename_i a n c hxs
          simp only [Option.some.injEq, Prod.mk.injEq] at he
          obtain ⟨rfl, rfl⟩ := he
          rw [hxs] at hx
          refine ⟨rfl, hrun _ ?_ (.int _ _)⟩
          generalize ρc x = cx at hx ⊢
          cases hx <;> simp [Builtin.len_, run_und hu, goInt]
        · cases he
      case array n e =>
        simp only [Option.some.injEq] at hn
        exact consts n e hn.symm (.inl hu)
      case pointer a =>
        cases hua : P.underlying a with
        | none => rw [hua] at hn; cases hn
        | some d2 =>
          rw [hua] at hn
          cases d2 <;> simp only [reduceCtorEq, Option.some.injEq] at hn
          exact consts _ _ hn.symm (.inr ⟨a, hu, hua⟩)
      case map k e =>
        simp only [Option.some.injEq] at hn; subst hn
        simp only [evOp] at he
        split at he
        · rename_i hxs
          simp only [Option.some.injEq, Prod.mk.injEq] at he
          obtain ⟨rfl, rfl⟩ := he
          rw [hxs] at hx
          refine ⟨rfl, hrun _ ?_ (.int _ _)⟩
          generalize ρc x = cx at hx ⊢
          cases hx
          simp [Builtin.len_, run_und hu, goInt]
        · rename_i b hxs
          split at he
          · rename_i es hb
            simp only [Option.some.injEq, Prod.mk.injEq] at he
            obtain ⟨rfl, rfl⟩ := he
            rw [hxs] at hx
            refine ⟨rfl, hrun _ ?_ (.int _ _)⟩
            generalize ρc x = cx at hx ⊢
            cases hx with
            | map _ s es' hg hsb =>
              have := hs _ _ hg
              rw [hb] at this
              cases this
              have ho := hm.obj _ _ hg
              cases ho with
              | map _ ms clock hbn hw hent =>
                rw [← hsb] at hw
                have hgo : (getObj s).run P w = .ok (.map ⟨ms⟩ clock) w := by simp [getObj, Sem.run, hw]
                simp [Builtin.len_, run_und hu, goInt, hgo, hent.length]
          · cases he
        · cases he
  · rename_i x y t u
    exfalso
    split at hn
    · split at hn
      · split at hn
        · simp only [Option.some.injEq] at hn; subst hn; simp [AOp.acts] at hk
        · cases hn
      · cases hn
    · cases hn
  · rename_i x y
    split at hn
    · simp only [Option.some.injEq] at hn; subst hn
      simp only [evOp] at he
      split at he
      · rename_i k a k' b hxs hys
        simp only [Option.some.injEq, Prod.mk.injEq] at he
        obtain ⟨rfl, rfl⟩ := he
        have hx := hv x (by simp [Op.operands, Call.operands])
        have hy := hv y (by simp [Op.operands, Call.operands])
        rw [hxs] at hx; rw [hys] at hy
        refine ⟨rfl, _, ?_, .int _ _⟩
        simp only [execOp, resolve, List.map_toArray, List.map_cons, List.map_nil, Sem.run_bind, Sem.run_pure, Result.andThen_ok, invoke, builtin, hx.int_inv, hy.int_inv, Builtin.max_, List.foldlM_cons, List.foldlM_nil, Builtin.max2]
      · cases he
    · cases hn
  · rename_i x y
    split at hn
    · simp only [Option.some.injEq] at hn; subst hn
      simp only [evOp] at he
      split at he
      · rename_i k a k' b hxs hys
        simp only [Option.some.injEq, Prod.mk.injEq] at he
        obtain ⟨rfl, rfl⟩ := he
        have hx := hv x (by simp [Op.operands, Call.operands])
        have hy := hv y (by simp [Op.operands, Call.operands])
        rw [hxs] at hx; rw [hys] at hy
        refine ⟨rfl, _, ?_, .int _ _⟩
        simp only [execOp, resolve, List.map_toArray, List.map_cons, List.map_nil, Sem.run_bind, Sem.run_pure, Result.andThen_ok, invoke, builtin, hx.int_inv, hy.int_inv, Builtin.min_, List.foldlM_cons, List.foldlM_nil, Builtin.min2]
      · cases he
    · cases hn
  · split at hn
    · simp only [Option.some.injEq] at hn; subst hn; simp [AOp.acts] at hk
    · cases hn
  · simp only [Option.some.injEq] at hn; subst hn; simp [AOp.acts] at hk
  · cases hn

theorem normMap_mk {d : Option TypeDesc} {r : Option Operand} {ao : AOp} (h : normMap d r = some ao) : ao = .mkMap := by
  unfold normMap at h
  split at h <;> first | (cases h; done) | (simp only [Option.some.injEq] at h; exact h.symm)
set_option maxHeartbeats 4000000 in
theorem still_op (call : Caller) (hm : MR G N σ g w) {h : Heap} (hs : Sub g h) {ρ ρc : Operand → Value} {o : Oper} {ao : AOp} (hn : normOp P o.type o.op = some ao) (hk : ao.acts = false) (hk' : ao.makes = false)
    (hv : ∀ x ∈ o.op.operands, VR σ g (ρ x) (ρc x)) (hc : ∀ v, ρ (.const v) = v ∧ ρc (.const v) = v) {v : Value} {h' : Heap} (he : evOp call ρ h ao = some (v, h')) :
    h' = h ∧ Still P w σ g v (execOp ρc o) := by
  obtain ⟨dst, op, ty, pos, after, guard⟩ := o
  simp only at hn hv
  cases op
  case move x =>
    simp only [normOp, Option.some.injEq] at hn; subst hn
    simp only [evOp, Option.some.injEq, Prod.mk.injEq] at he
    obtain ⟨rfl, rfl⟩ := he
    exact ⟨rfl, ρc x, rfl, hv x (by simp [Op.operands])⟩
  case assign x =>
    simp only [normOp, Option.some.injEq] at hn; subst hn
    simp only [evOp, Option.some.injEq, Prod.mk.injEq] at he
    obtain ⟨rfl, rfl⟩ := he
    exact ⟨rfl, ρc x, rfl, hv x (by simp [Op.operands])⟩
  case pick c a b =>
    simp only [normOp, Option.some.injEq] at hn; subst hn
    have hcv := hv c (by simp [Op.operands])
    have ha := hv a (by simp [Op.operands])
    have hb := hv b (by simp [Op.operands])
    simp only [evOp] at he
    split at he
    · rename_i t ht
      rw [ht] at hcv
      simp only [Option.some.injEq, Prod.mk.injEq] at he
      obtain ⟨rfl, rfl⟩ := he
      refine ⟨rfl, if t then ρc a else ρc b, ?_, ?_⟩
      · simp only [execOp, hcv.bool_inv, asBool, Sem.run_bind, Sem.run_pure, Result.andThen_ok]
      · cases t
        · exact hb
        · exact ha
    · cases he
  case build t ps =>
    simp only [normOp] at hn
    cases hz : zeroOf P t with
    | none => rw [hz] at hn; split at hn <;> simp_all
    | some z =>
      obtain ⟨zv, hzv, hzl⟩ := zeroOf_inv hz
      have hzc := laid_cells hzl
      have hzp := laid_plain hzl (zeroVal_plain hzv)
      have hz0 : VRs σ g z z := .plain1 hzp
      have hz1 : ∀ x ∈ z, single x = true := fun x hx => single_of_plain1 (List.all_eq_true.1 hzp x hx)
      cases hu : P.underlying t with
      | none => rw [hu] at hn; cases hn
      | some d =>
        rw [hu, hz] at hn
        cases d <;> simp only [reduceCtorEq] at hn
        case struct fs =>
          split at hn
          · rename_i hall
            obtain ⟨qs, hq, rfl⟩ := opt_map_some hn
            obtain ⟨hql, hqf⟩ := fields_sound (z := z) (ρ := ρ) (ρc := ρc) hq
            simp only [evOp] at he
            obtain ⟨l, hl, hr⟩ := opt_map_some he
            simp only [Prod.mk.injEq] at hr
            obtain ⟨rfl, rfl⟩ := hr
            have hsz : ∀ f ∈ fs, (sizeT P f.type).isSome = true := fun f hf => List.all_eq_true.1 hall f (Array.mem_toList_iff.2 hf)
            obtain ⟨ds, h1, h2, h3, _⟩ := fill_sound (place := fun i => (fs.map fun f => (f.offset, (sizeT P f.type).getD 0))[i]?) (qs.map fun p => (p.1, p.2.1, ρ p.2.2)) (ps.map fun (i, x) => (i, ρc x)).toList z z l hz0 hz1
              (by simp [hql]) (fun i p q hp hq' => by
                simp only [List.getElem?_map, Option.map_eq_some_iff] at hp
                obtain ⟨p0, hp0, rfl⟩ := hp
                simp only [Array.toList_map, List.getElem?_map, Option.map_eq_some_iff] at hq'
                obtain ⟨q0, hq0, rfl⟩ := hq'
                obtain ⟨f, hf1, hf2, hf3, hf4⟩ := hqf i p0 q0 hp0 hq0
                refine ⟨by simp [hf1, hf2, hf3], ?_⟩
                simp only [hf4]
                refine hv _ ?_
                have hmem : q0 ∈ ps.toList := List.mem_of_getElem? hq0
                simp only [Op.operands, List.mem_toArray, List.mem_map]
                exact ⟨q0, hmem, rfl⟩) hl
            refine ⟨rfl, .agg ⟨ds⟩, ?_, .agg _ _ h2 h3⟩
            have hpl := mapM_places (P := P) (w := w) hsz
            simp only [execOp, Instr.build, Sem.run_bind, (run_zero hzv w).1, Result.andThen_ok, run_und hu, hzc]
            rw [hpl]
            simp only [Result.andThen_ok, h1, Sem.run_pure]
          · cases hn
        case array n e =>
          obtain ⟨qs, hq, rfl⟩ := opt_map_some hn
          unfold normParts at hq
          obtain ⟨m, hm', rfl⟩ := opt_map_some hq
          simp only [evOp] at he
          obtain ⟨l, hl, hr⟩ := opt_map_some he
          simp only [Prod.mk.injEq] at hr
          obtain ⟨rfl, rfl⟩ := hr
          obtain ⟨ds, h1, h2, h3, _⟩ := fill_sound (place := fun i => some (i * m, m)) ((ps.toList.map fun p => (p.1 * m, m, p.2)).map fun p => (p.1, p.2.1, ρ p.2.2)) (ps.map fun (i, x) => (i, ρc x)).toList z z l hz0 hz1
            (by simp) (fun i p q hp hq' => by
              simp only [List.getElem?_map, Option.map_map, Option.map_eq_some_iff] at hp
              obtain ⟨p0, hp0, rfl⟩ := hp
              simp only [Array.toList_map, List.getElem?_map, Option.map_eq_some_iff] at hq'
              obtain ⟨q0, hq0, rfl⟩ := hq'
              rw [hp0] at hq0; cases hq0
              refine ⟨rfl, ?_⟩
              refine hv _ ?_
              have hmem : p0 ∈ ps.toList := List.mem_of_getElem? hp0
              simp only [Op.operands, List.mem_toArray, List.mem_map]
              exact ⟨p0, hmem, rfl⟩) hl
          refine ⟨rfl, .agg ⟨ds⟩, ?_, .agg _ _ h2 h3⟩
          simp only [execOp, Instr.build, Sem.run_bind, (run_zero hzv w).1, Result.andThen_ok, run_und hu, hzc, run_sizeOf hm', h1, Sem.run_pure]
  case load t a =>
    simp only [normOp] at hn
    have ha := hv a (by simp [Op.operands])
    cases hag : aggT P t with
    | none => rw [hag] at hn; cases hn
    | some b =>
      cases hz : sizeT P t with
      | none => rw [hag, hz] at hn; cases b <;> cases hn
      | some n =>
        rw [hag, hz] at hn
        cases b <;> simp only [Option.some.injEq] at hn <;> subst hn <;> simp only [evOp] at he
        · split at he
          · rename_i p hp
            rw [hp] at ha
            obtain ⟨u, hu, hr⟩ := opt_map_some he
            simp only [Prod.mk.injEq] at hr
            obtain ⟨rfl, rfl⟩ := hr
            exact ⟨rfl, still_of (load1_sound hm hs hag ha hu)⟩
          · cases he
        · split at he
          · rename_i p hp
            rw [hp] at ha
            obtain ⟨l, hl, hr⟩ := opt_map_some he
            simp only [Prod.mk.injEq] at hr
            obtain ⟨rfl, rfl⟩ := hr
            exact ⟨rfl, still_of (load_sound hm hs hag hz ha hl)⟩
          · cases he
  case nilCheck x =>
    simp only [normOp, Option.some.injEq] at hn; subst hn
    have hx := hv x (by simp [Op.operands])
    simp only [evOp] at he
    split at he
    · rename_i p hp
      simp only [Option.some.injEq, Prod.mk.injEq] at he
      obtain ⟨rfl, rfl⟩ := he
      rw [hp] at hx
      obtain ⟨q, hq⟩ := hx.ptr_inv
      refine ⟨rfl, ρc x, ?_, hx⟩
      simp only [execOp, hq, Sem.run_pure]
    · rename_i f a b hp
      simp only [Option.some.injEq, Prod.mk.injEq] at he
      obtain ⟨rfl, rfl⟩ := he
      rw [hp] at hx
      refine ⟨rfl, ρc x, ?_, hx⟩
      obtain ⟨ys, vs, hq⟩ := hx.func_inv
      simp only [execOp, hq, Sem.run_pure]
    · cases he
  case binOp op t x y yt =>
    have hx := hv x (by simp [Op.operands])
    have hy := hv y (by simp [Op.operands])
    have bins : ∀ bop, ao = .bin bop x y → op = bop → h' = h ∧ Still P w σ g v (execOp ρc ⟨dst, .binOp op t x y yt, ty, pos, after, guard⟩) := by
      rintro bop rfl rfl
      simp only [evOp] at he
      obtain ⟨r, hr, he⟩ := opt_map_some he
      simp only [Prod.mk.injEq] at he
      obtain ⟨rfl, rfl⟩ := he
      obtain ⟨h1, h2⟩ := bin_sound (P := P) (w := w) (t := t) (x := x) (y := y) hx hy hr
      exact ⟨rfl, still_of ⟨r, h1, .plain1 h2⟩⟩
    have eqs : ∀ neg, op = (if neg then .neq else .eql) → normEq P neg t x y = some ao → h' = h ∧ Still P w σ g v (execOp ρc ⟨dst, .binOp op t x y yt, ty, pos, after, guard⟩) := by
      intro neg hop hne
      unfold normEq at hne
      cases hu : P.underlying t with
      | none => rw [hu] at hne; cases hne
      | some d =>
        rw [hu] at hne
        have fin : ∀ b : Bool, (eqGuard op t x y (ρc x) (ρc y)).run P w = .ok () w → (Op.equal t (ρc x) (ρc y)).run P w = .ok b w → (∀ k a k' a', ¬ (ρc x = .int k a ∧ ρc y = .int k' a')) →
            (∀ s s', ¬ (ρc x = .string s ∧ ρc y = .string s')) → (∀ k a k' a', ¬ (ρc x = .float k a ∧ ρc y = .float k' a')) → (∀ k a c k' a' c', ¬ (ρc x = .complex k a c ∧ ρc y = .complex k' a' c')) →
            Still P w σ g (.bool (b != neg)) (execOp ρc ⟨dst, .binOp op t x y yt, ty, pos, after, guard⟩) := by
          intro b hg he hni hns hnf hnc
          refine still_of ⟨.bool (b != neg), ?_, .bool _⟩
          simp only [Sem.run_bind, hg, Result.andThen_ok]
          subst hop
          have hb : binOp (if neg then .neq else .eql) t (ρc x) (ρc y) = (do pure (.bool ((← Op.equal t (ρc x) (ρc y)) != neg)) : Sem Value) := binOp_eqs neg t hni hns hnf hnc
          rw [hb]
          simp only [Sem.run_bind, he, Result.andThen_ok, Sem.run_pure]
        have aggs : (∃ fs, d = .struct fs) ∨ (∃ n e, d = .array n e) → (if P.eqGuardType P.depth t then none else (leaves P 8 t).map fun ks => AOp.eqAgg neg ks x y) = some ao →
            h' = h ∧ Still P w σ g v (execOp ρc ⟨dst, .binOp op t x y yt, ty, pos, after, guard⟩) := by
          intro hd hao
          split at hao
          · cases hao
          rename_i hng
          obtain ⟨ks, hks, rfl⟩ := opt_map_some hao
          simp only [evOp] at he
          split at he
          · rename_i xs ys hxs hys
            split at he
            · rename_i hlen
              obtain ⟨b, hb, he⟩ := opt_map_some he
              simp only [Prod.mk.injEq] at he
              obtain ⟨rfl, rfl⟩ := he
              rw [hxs] at hx; rw [hys] at hy
              obtain ⟨cx, hcx, hvx, _⟩ := hx.agg_inv
              obtain ⟨cy, hcy, hvy, _⟩ := hy.agg_inv
              have hlx : xs.toList.length = ks.length := hlen.1
              have hly : ys.toList.length = ks.length := hlen.2
              have same : ∀ (ks : List EqK) (a b ca cb : List Value) (r : Bool), VRs σ g a ca → VRs σ g b cb → rowEq ks a b = some r → (∀ k ∈ ks, k = .bool ∨ k = .int ∨ k = .str) → rowEq ks ca cb = some r := by
                intro ks
                induction ks with
                | nil => intro a b ca cb r ha hb hr _; cases ha <;> cases hb <;> first | exact hr | cases hr
                | cons k ks ih =>
                  intro a b ca cb r ha hb hr hk
                  cases ha with
                  | nil => cases hr
                  | cons u c us cs hu hus =>
                    cases hb with
                    | nil => cases hr
                    | cons u' c' us' cs' hu' hus' =>
                      simp only [rowEq] at hr ⊢
                      have hl : ∀ b, leafEq k u u' = some b → c = u ∧ c' = u' := by
                        intro b hb
                        rcases hk k (by simp) with rfl | rfl | rfl <;> cases u <;> cases u' <;> simp only [leafEq, reduceCtorEq] at hb <;> cases hu <;> cases hu' <;> exact ⟨rfl, rfl⟩
                      cases hq : leafEq k u u' with
                      | none => rw [hq] at hr; cases hr
                      | some b0 =>
                        obtain ⟨rfl, rfl⟩ := hl b0 hq
                        rw [hq] at hr ⊢
                        cases b0 with
                        | false => exact hr
                        | true => exact ih _ _ _ _ _ hus hus' hr fun k hk' => hk k (by simp [hk'])
              have hkinds : ∀ k ∈ ks, k = .bool ∨ k = .int ∨ k = .str := leaves_kinds hks
              have hr := same ks _ _ _ _ b hvx hvy hb hkinds
              have hq := eq_leaves (P := P) (w := w) 8 9992 t ks cx cy b hks (by rw [← hvx.length]; exact hlx) (by rw [← hvy.length]; exact hly) hr
              have hvv : ∀ l, valOf P t l = .agg ⟨l⟩ := fun l => by unfold valOf; rw [hu]; rcases hd with ⟨fs, rfl⟩ | ⟨n, e, rfl⟩ <;> rfl
              rw [hvv, hvv, ← hcx, ← hcy] at hq
              refine ⟨rfl, fin b ?_ hq ?_ ?_ ?_ ?_⟩
              · rw [hcx, hcy]
                subst hop
                cases neg <;> simp [eqGuard, hng]
              all_goals (intros; rw [hcx]; simp)
            · cases he
          · cases he
        have lf : ∀ k, eqK1 d = some k → ao = .eqv neg k x y → (k = .iface → isNilIface x = true ∨ isNilIface y = true) → h' = h ∧ Still P w σ g v (execOp ρc ⟨dst, .binOp op t x y yt, ty, pos, after, guard⟩) := by
          rintro k hkk rfl hif
          simp only [evOp] at he
          obtain ⟨b, hb, he⟩ := opt_map_some he
          simp only [Prod.mk.injEq] at he
          obtain ⟨rfl, rfl⟩ := he
          obtain ⟨h1, h2⟩ := leafEq_eqv (P := P) (w := w) hkk hu hx hy hb (op := op) (x := x) (y := y) hif
          have hkind : k ≠ .int ∧ k ≠ .str := by constructor <;> (rintro rfl; cases d <;> simp [eqK1] at hkk)
          have hno : ∀ u u', VR σ g u (ρc x) → VR σ g u' (ρc y) → leafEq k u u' = some b → (∀ k a k' a', ¬ (ρc x = .int k a ∧ ρc y = .int k' a')) ∧
              (∀ s s', ¬ (ρc x = .string s ∧ ρc y = .string s')) ∧ (∀ k a k' a', ¬ (ρc x = .float k a ∧ ρc y = .float k' a')) ∧ (∀ k a c k' a' c', ¬ (ρc x = .complex k a c ∧ ρc y = .complex k' a' c')) := by
            intro u u' hu hu' hl
            refine ⟨?_, ?_, ?_, ?_⟩
            all_goals
              intros
              rintro ⟨ha, hb'⟩
              rw [ha] at hu; rw [hb'] at hu'
              cases hu; cases hu'
              cases k <;> simp_all [leafEq]
          obtain ⟨n1, n2, n3, n4⟩ := hno _ _ hx hy hb
          exact ⟨rfl, fin b h1 h2 n1 n2 n3 n4⟩
        cases d
        case int k => simp only [Option.some.injEq] at hne; exact bins _ hne.symm hop
        case string => simp only [Option.some.injEq] at hne; exact bins _ hne.symm hop
        case struct fs => exact aggs (.inl ⟨fs, rfl⟩) hne
        case array n e => exact aggs (.inr ⟨n, e, rfl⟩) hne
        case interface ms =>
          simp only at hne
          split at hne
          · rename_i hni
            simp only [Option.some.injEq] at hne
            exact lf _ rfl hne.symm (fun _ => by simpa [Bool.or_eq_true] using hni)
          · cases hne
        all_goals
          first
            | (simp only [eqK1, Option.map_some, Option.some.injEq, Option.map_none, reduceCtorEq] at hne; exact lf _ rfl hne.symm (by intro h; cases h))
            | (simp [eqK1] at hne; done)
    simp only [normOp] at hn
    cases op <;> simp only at hn
    case eql => exact eqs false rfl hn
    case neq => exact eqs true rfl hn
    all_goals
      split at hn
      · simp only [Option.some.injEq] at hn; exact bins _ hn.symm rfl
      · cases hn
  case unOp op t x =>
    simp only [normOp, Option.some.injEq] at hn; subst hn
    simp only [evOp] at he
    obtain ⟨r, hr, he⟩ := opt_map_some he
    simp only [Prod.mk.injEq] at he
    obtain ⟨rfl, rfl⟩ := he
    obtain ⟨h1, h2⟩ := un_sound (P := P) (w := w) (hv x (by simp [Op.operands])) hr
    exact ⟨rfl, still_of ⟨r, h1, .plain1 h2⟩⟩
  case convert s d x =>
    have hx := hv x (by simp [Op.operands])
    simp only [normOp] at hn
    cases hsu : P.underlying s with
    | none => rw [hsu] at hn; cases hn
    | some ds =>
      cases hdu : P.underlying d with
      | none => rw [hsu, hdu] at hn; cases ds <;> cases hn
      | some dd =>
        rw [hsu, hdu] at hn
        cases ds <;> cases dd <;> simp only [reduceCtorEq, Option.some.injEq] at hn
        · subst hn
          simp only [evOp] at he
          split at he
          · rename_i k n hxv
            simp only [Option.some.injEq, Prod.mk.injEq] at he
            obtain ⟨rfl, rfl⟩ := he
            rw [hxv] at hx
            refine ⟨rfl, still_of ⟨_, ?_, .int _ _⟩⟩
            rw [hx.int_inv]
            simp [convert, run_und hsu, run_und hdu, Conv.intToInt]
          · cases he
        · subst hn
          simp only [evOp] at he
          split at he
          · rename_i n hxv
            simp only [Option.some.injEq, Prod.mk.injEq] at he
            obtain ⟨rfl, rfl⟩ := he
            rw [hxv] at hx
            refine ⟨rfl, still_of ⟨_, ?_, .string _⟩⟩
            rw [hx.string_inv]
            simp [convert, run_und hsu, run_und hdu]
          · cases he
  case makeInterface t x =>
    have hx := hv x (by simp [Op.operands])
    simp only [normOp] at hn
    cases hu : P.underlying t with
    | none => rw [hu] at hn; cases hn
    | some d =>
      rw [hu] at hn
      have fin : ao = .iface t x → (∀ ms, d ≠ .interface ms) → h' = h ∧ Still P w σ g v (execOp ρc ⟨dst, .makeInterface t x, ty, pos, after, guard⟩) := by
        rintro rfl hni
        simp only [evOp, Option.some.injEq, Prod.mk.injEq] at he
        obtain ⟨rfl, rfl⟩ := he
        refine ⟨rfl, still_of ⟨.iface t (ρc x), ?_, .iface _ _ _ hx⟩⟩
        simp only [Instr.makeInterface, Sem.run_bind, run_und hu, Result.andThen_ok]
        cases d <;> first | rfl | exact absurd rfl (hni _)
      cases d <;> simp only [reduceCtorEq, Option.some.injEq] at hn <;> exact fin hn.symm (fun ms h => by cases h)
  case makeFunc fn a b =>
    cases fn <;> simp only [normOp, reduceCtorEq, Option.some.injEq] at hn
    subst hn
    simp only [evOp, Option.some.injEq, Prod.mk.injEq] at he
    obtain ⟨rfl, rfl⟩ := he
    refine ⟨rfl, still_of ⟨_, rfl, ?_⟩⟩
    have h1 : VRs σ g (a.toList.map ρ) (a.toList.map ρc) := VRs_map fun x hx => hv x (by simp only [Op.operands, Array.mem_append]; exact .inl (Array.mem_toList_iff.1 hx))
    have h2 : VRs σ g (b.toList.map ρ) (b.toList.map ρc) := VRs_map fun x hx => hv x (by simp only [Op.operands, Array.mem_append]; exact .inr (Array.mem_toList_iff.1 hx))
    have e1 : a.map ρc = ⟨a.toList.map ρc⟩ := by apply Array.ext'; simp
    have e2 : b.map ρc = ⟨b.toList.map ρc⟩ := by apply Array.ext'; simp
    rw [e1, e2]
    exact .func _ _ _ _ _ h1 h2
  case slice t x lo hi mx =>
    cases mx with
    | some y => simp [normOp] at hn
    | none =>
      have hx := hv x (by simp [Op.operands])
      have hlo : OptR σ g (lo.map ρ) (lo.map ρc) := OptR_map fun y hy => hv y (by subst hy; simp [Op.operands])
      have hhi : OptR σ g (hi.map ρ) (hi.map ρc) := OptR_map fun y hy => hv y (by subst hy; simp [Op.operands])
      simp only [normOp] at hn
      cases hu : P.underlying t with
      | none => rw [hu] at hn; cases hn
      | some d =>
        rw [hu] at hn
        cases d <;> simp only [reduceCtorEq] at hn
        case string =>
          simp only [Option.some.injEq] at hn; subst hn
          simp only [evOp] at he
          split at he
          · rename_i s hxs
            split at he
            · rename_i l k hl hk0
              split at he
              · rename_i hlk
                simp only [Option.some.injEq, Prod.mk.injEq] at he
                obtain ⟨rfl, rfl⟩ := he
                rw [hxs] at hx
                refine ⟨rfl, still_of ⟨_, ?_, .string _⟩⟩
                rw [hx.string_inv]
                exact sliceStr_sound hu hlo hhi hl hk0 hlk.1 hlk.2
              · cases he
            · cases he
          · cases he
        case slice e =>
          obtain ⟨m, hm', hn⟩ := Option.bind_eq_some_iff.1 hn
          split at hn
          · simp only [Option.some.injEq] at hn; subst hn
            simp only [evOp] at he
            split at he
            · rename_i p n c hxs
              split at he
              · rename_i l k hl hk0
                split at he
                · rename_i hlk
                  obtain ⟨rfl, hlk, hkn⟩ := hlk
                  simp only [Option.some.injEq, Prod.mk.injEq] at he
                  obtain ⟨rfl, rfl⟩ := he
                  rw [hxs] at hx
                  exact ⟨rfl, still_of (slice_sound hu hm' hx hlo hhi hl hk0 hlk hkn)⟩
                · cases he
              · cases he
            · rename_i n c hxs
              split at he
              · rename_i hl hk0
                simp only [Option.some.injEq, Prod.mk.injEq] at he
                obtain ⟨rfl, rfl⟩ := he
                rw [hxs] at hx
                exact ⟨rfl, still_of ⟨_, sliceNil_sound hu hm' hx hlo hhi hl hk0, .nilSlice⟩⟩
              · cases he
            · cases he
          · cases hn
        case array n e =>
          obtain ⟨m, hm', hn⟩ := Option.bind_eq_some_iff.1 hn
          split at hn
          · simp only [Option.some.injEq] at hn; subst hn
            simp only [evOp] at he
            split at he
            · rename_i p hxs
              split at he
              · rename_i l k hl hk0
                split at he
                · rename_i vals ver ro hob
                  split at he
                  · rename_i hlk
                    obtain ⟨hsp, hroom, hlk, hkn⟩ := hlk
                    simp only [Option.some.injEq, Prod.mk.injEq] at he
                    obtain ⟨rfl, rfl⟩ := he
                    rw [hxs] at hx
                    refine ⟨rfl, still_of (sliceArr_sound hu hm' hx (fun vals' ver' ro' hg' hsp' hro' => ?_) hlo hhi hl hk0 hlk hkn)⟩
                    subst hro'
                    have hob' := hs _ _ hg'
                    rw [hob] at hob'
                    simp only [Option.some.injEq, AObj.cells.injEq] at hob'
                    obtain ⟨rfl, rfl, rfl⟩ := hob'
                    have ho := hm.obj _ _ hg'
                    cases ho with
                    | own _ cs _ el hb h0 hw hsz hvv hl2 h1 => omega
                  · cases he
                · cases he
              · cases he
            · cases he
          · cases hn
  case fieldAddr t x i =>
    have hx := hv x (by simp [Op.operands])
    simp only [normOp] at hn
    cases hu : P.underlying t with
    | none => rw [hu] at hn; cases hn
    | some d =>
      rw [hu] at hn
      cases d <;> simp only [reduceCtorEq] at hn
      rename_i fs
      cases hf : fs[i]? with
      | none => rw [hf] at hn; cases hn
      | some f =>
        rw [hf] at hn
        obtain ⟨n, hz, hn⟩ := Option.bind_eq_some_iff.1 hn
        split at hn
        · rename_i hpos
          simp only [Option.some.injEq] at hn; subst hn
          simp only [evOp] at he
          split at he
          · rename_i p hxs
            simp only [Option.some.injEq, Prod.mk.injEq] at he
            obtain ⟨rfl, rfl⟩ := he
            rw [hxs] at hx
            exact ⟨rfl, still_of (off_sound hu hf hz hpos hx)⟩
          · cases he
        · cases hn
  case field t x i =>
    have hx := hv x (by simp [Op.operands])
    simp only [normOp] at hn
    cases hu : P.underlying t with
    | none => rw [hu] at hn; cases hn
    | some d =>
      rw [hu] at hn
      cases d <;> simp only [reduceCtorEq] at hn
      rename_i fs
      cases hf : fs[i]? with
      | none => rw [hf] at hn; cases hn
      | some f =>
        rw [hf] at hn
        simp only at hn
        cases hag : aggT P f.type with
        | none => rw [hag] at hn; cases hn
        | some b =>
          cases hz : sizeT P f.type with
          | none => rw [hag, hz] at hn; cases b <;> cases hn
          | some n =>
            rw [hag, hz] at hn
            cases b <;> simp only [Option.some.injEq] at hn <;> subst hn <;> simp only [evOp] at he <;> split at he <;> (try cases he)
            · rename_i cs hxs
              obtain ⟨u, hu', hr⟩ := opt_map_some he
              simp only [Prod.mk.injEq] at hr
              obtain ⟨rfl, rfl⟩ := hr
              rw [hxs] at hx
              obtain ⟨ys, hys, hvs, h1⟩ := hx.agg_inv
              obtain ⟨cv, hrun, hvr⟩ := (part_sound (P := P) (w := w) hvs h1 (o := f.offset)).2 u hag hu'
              refine ⟨rfl, still_of ⟨cv, ?_, hvr⟩⟩
              rw [hys]
              simp only [Instr.field, Sem.run_bind, run_und hu, Result.andThen_ok, hf, asAgg, Sem.run_pure, hrun]
            · rename_i cs hxs
              split at he
              · simp only [Option.some.injEq, Prod.mk.injEq] at he
                obtain ⟨rfl, rfl⟩ := he
                rw [hxs] at hx
                obtain ⟨ys, hys, hvs, h1⟩ := hx.agg_inv
                obtain ⟨cv, hrun, hvr⟩ := (part_sound (P := P) (w := w) hvs h1 (o := f.offset)).1 n hag hz
                refine ⟨rfl, still_of ⟨cv, ?_, hvr⟩⟩
                rw [hys]
                simp only [Instr.field, Sem.run_bind, run_und hu, Result.andThen_ok, hf, asAgg, Sem.run_pure, hrun]
              · cases he
  case indexAddr t x i =>
    have hx := hv x (by simp [Op.operands])
    have hi := hv i (by simp [Op.operands])
    simp only [normOp] at hn
    cases hu : P.underlying t with
    | none => rw [hu] at hn; cases hn
    | some d =>
      rw [hu] at hn
      cases d <;> simp only [reduceCtorEq] at hn <;> obtain ⟨m, hz, hn⟩ := Option.bind_eq_some_iff.1 hn <;> split at hn <;> (try cases hn) <;> simp only [evOp] at he <;> split at he <;> (try cases he)
      · rename_i p n c k j hxs his
        split at he
        · rename_i hb
          obtain ⟨rfl, h0, h1⟩ := hb
          simp only [Option.some.injEq, Prod.mk.injEq] at he
          obtain ⟨rfl, rfl⟩ := he
          rw [hxs] at hx; rw [his] at hi
          refine ⟨rfl, still_of ?_⟩
          rw [hi.int_inv]
          exact atRow_sound hu hz hx h0 h1
        · cases he
      · rename_i p k j hxs his
        split at he
        · rename_i hb
          simp only [Option.some.injEq, Prod.mk.injEq] at he
          obtain ⟨rfl, rfl⟩ := he
          rw [hxs] at hx; rw [his] at hi
          refine ⟨rfl, still_of ?_⟩
          rw [hi.int_inv]
          exact atArr_sound hu hz hx hb.1 hb.2
        · cases he
  case index t x i =>
    have hx := hv x (by simp [Op.operands])
    have hi := hv i (by simp [Op.operands])
    simp only [normOp] at hn
    cases hu : P.underlying t with
    | none => rw [hu] at hn; cases hn
    | some d =>
      rw [hu] at hn
      cases d <;> simp only [reduceCtorEq] at hn
      case string =>
        simp only [Option.some.injEq] at hn; subst hn
        simp only [evOp] at he
        split at he
        · rename_i s k j hxs his
          split at he
          · rename_i h0
            obtain ⟨b, hb, hr⟩ := opt_map_some he
            simp only [Prod.mk.injEq] at hr
            obtain ⟨rfl, rfl⟩ := hr
            rw [hxs] at hx; rw [his] at hi
            refine ⟨rfl, still_of ⟨_, ?_, .int _ _⟩⟩
            rw [hi.int_inv, hx.string_inv]
            exact idxStr_sound hu h0 hb
          · cases he
        · cases he
      case array n e =>
        cases hag : aggT P e with
        | none => rw [hag] at hn; cases hn
        | some b =>
          cases hz : sizeT P e with
          | none => rw [hag, hz] at hn; cases b <;> cases hn
          | some m =>
            rw [hag, hz] at hn
            cases b <;> (try cases hn)
            by_cases hm1 : m = 1
            · subst hm1
              simp only [Option.some.injEq] at hn; subst hn
              simp only [evOp] at he
              split at he
              · rename_i cs k j hxs his
                split at he
                · rename_i hb
                  obtain ⟨u, hu', hr⟩ := opt_map_some he
                  simp only [Prod.mk.injEq] at hr
                  obtain ⟨rfl, rfl⟩ := hr
                  rw [hxs] at hx; rw [his] at hi
                  obtain ⟨ys, hys, hvs, h1⟩ := hx.agg_inv
                  obtain ⟨cv, hrun, hvr⟩ := (part_sound (P := P) (w := w) hvs h1 (o := j.toNat * 1)).2 u hag hu'
                  refine ⟨rfl, still_of ⟨cv, ?_, hvr⟩⟩
                  rw [hys, hi.int_inv]
                  simp only [Instr.index, asIntOf, Sem.run_bind, Sem.run_pure, Result.andThen_ok, run_und hu, if_pos hb, run_sizeOf hz, hrun]
                · cases he
              · cases he
            · exfalso
              revert hn
              split <;> simp_all
  case lookup t m k ok =>
    have hmv := hv m (by simp [Op.operands])
    have hkv := hv k (by simp [Op.operands])
    simp only [normOp] at hn
    cases hu : P.underlying t with
    | none => rw [hu] at hn; cases hn
    | some d =>
      rw [hu] at hn
      cases d <;> simp only [reduceCtorEq] at hn
      rename_i kt e
      cases hkk : (P.underlying kt).bind eqK with
      | none => rw [hkk] at hn; cases hn
      | some kk =>
        cases hz : zeroVal P e with
        | none => rw [hkk, hz] at hn; cases hn
        | some z =>
          rw [hkk, hz] at hn
          simp only [Option.some.injEq] at hn; subst hn
          obtain ⟨dk, hdk, hek⟩ := Option.bind_eq_some_iff.1 hkk
          simp only [evOp] at he
          by_cases hok : keyOk kk (ρ k) = true
          · rw [if_pos hok] at he
            have fin : ∀ r, mapAt h kk (ρ k) (ρ m) = some r → v = lookRes ok z r → h' = h → h' = h ∧ Still P w σ g v (execOp ρc ⟨dst, .lookup t m k ok, ty, pos, after, guard⟩) := by
              rintro r hr rfl rfl
              exact ⟨rfl, still_of (lookup_sound hm hs hu hdk hek hz hmv hkv hok hr)⟩
            split at he
            · rename_i v0 hr
              simp only [Option.some.injEq, Prod.mk.injEq] at he
              exact fin _ hr he.1.symm he.2.symm
            · rename_i hr
              simp only [Option.some.injEq, Prod.mk.injEq] at he
              exact fin _ hr he.1.symm he.2.symm
            · cases he
          · rw [if_neg hok] at he
            cases he
  case extract x i =>
    have hx := hv x (by simp [Op.operands])
    simp only [normOp, Option.some.injEq] at hn; subst hn
    simp only [evOp] at he
    split at he
    · rename_i vs hxs
      obtain ⟨u, hu', hr⟩ := opt_map_some he
      simp only [Prod.mk.injEq] at hr
      obtain ⟨rfl, rfl⟩ := hr
      rw [hxs] at hx
      obtain ⟨ys, hys, hvs⟩ := hx.tuple_inv
      obtain ⟨c, hc, hvr⟩ := hvs.get hu'
      refine ⟨rfl, still_of ⟨c, ?_, hvr⟩⟩
      rw [hys]
      simp [Instr.extract, hc]
    · cases he
  case call c => exact still_call call hm hs hn hk hv hc he
  case makeMap t r =>
    exfalso
    have hn : normMap (P.underlying t) r = some ao := hn
    rw [normMap_mk hn] at hk'
    simp [AOp.makes] at hk'
  all_goals
    exfalso
    simp only [normOp, reduceCtorEq] at hn
    try (
      repeat' split at hn
      all_goals first
        | (cases hn; done)
        | (simp only [Option.some.injEq] at hn; subst hn; first | (simp [AOp.acts] at hk; done) | (simp [AOp.makes] at hk'; done))
        | (obtain ⟨z, _, rfl⟩ := opt_map_some hn; first | (simp [AOp.acts] at hk; done) | (simp [AOp.makes] at hk'; done)))
end Go.Proofs.YtjjlbfamfioofaaDoor.AM
