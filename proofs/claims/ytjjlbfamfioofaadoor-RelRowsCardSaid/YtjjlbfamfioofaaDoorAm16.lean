/-
  AM, part 16: the operations that act, but calls: one theorem.
  Conditions: none.
-/
import Derived.Test.YtjjlbfamfioofaaDoorAm15
namespace Go.Proofs.YtjjlbfamfioofaaDoor.AM
open Go.RowKit

set_option linter.unusedSimpArgs false
set_option linter.unusedVariables false
variable {P : Program} {G N : Nat} {σ : Emb} {g : Mem} {w : World} {h : Heap}

theorem bytes_beq {a b : ByteArray} : (a == b) = true ↔ a = b := by
  rw [beq_toListBytes, beq_iff_eq, ByteArray.toList_eq, ByteArray.toList_eq]
  constructor
  · intro h
    obtain ⟨⟨x⟩⟩ := a
    obtain ⟨⟨y⟩⟩ := b
    simp only at h
    subst h; rfl
  · rintro rfl; rfl
theorem sameBits_of {kk : EqK} {k j : Value} (hk : keyOk kk k = true) (h : leafEq kk k j = some true) (n : Nat) : j = k ∧ Instr.sameBits n j k = true := by
  cases kk <;> cases k <;> simp only [keyOk, Bool.false_eq_true] at hk <;> cases j <;> simp [leafEq] at h
  · subst h; exact ⟨rfl, by cases n <;> simp [Instr.sameBits]⟩
  · obtain ⟨rfl, rfl⟩ := h; exact ⟨rfl, by cases n <;> simp [Instr.sameBits]⟩
  · obtain rfl := bytes_beq.1 h
    exact ⟨rfl, by cases n <;> simp [Instr.sameBits, bytes_beq]⟩
theorem setKey_sound {kk : EqK} {d : TypeDesc} (hd : eqK d = some kk) {k v cv : Value} (hk : keyOk kk k = true) (hpl : plain1 k = true) (hv : VR σ g v cv) : ∀ {es : List (Value × Value)} {ms : List MapEntry} (_ : EntriesR σ g es ms) (i : Nat) {es' : List (Value × Value)},
    setKey kk k v es = some es' →
    (∃ j c e, Instr.findNow d k ms i = some (some (i + j, c)) ∧ ms[j]? = some e ∧ e.key = k ∧ EntriesR σ g es' (ms.set j { e with key := k, val := cv })) ∨
    (Instr.findNow d k ms i = some none ∧ ∀ born, EntriesR σ g es' (ms ++ [{ key := k, val := cv, born := born }]))
  | _, _, .nil, i, es', h => by
    simp only [setKey, Option.some.injEq] at h; subst h
    exact .inr ⟨rfl, fun born => .cons _ _ _ _ ⟨rfl, hpl, hv⟩ .nil⟩
  | _, _, .cons e m es ms he hs, i, es', h => by
    obtain ⟨kj, u⟩ := e
    unfold setKey at h
    have hkey : m.key = kj := he.key
    cases hq : leafEq kk k kj with
    | none => rw [hq] at h; cases h
    | some b =>
      rw [hq] at h
      have hn := sameNow_sound hd hq
      rw [← hkey] at hn
      cases b with
      | true =>
        simp only [Option.some.injEq] at h; subst h
        obtain ⟨hkk, _⟩ := sameBits_of hk hq 0
        refine .inl ⟨0, m.val, m, by unfold Instr.findNow; rw [hn]; rfl, rfl, by rw [hkey, hkk], ?_⟩
        exact .cons _ _ _ _ ⟨rfl, hpl, hv⟩ hs
      | false =>
        obtain ⟨es2, h2, rfl⟩ := opt_map_some h
        rcases setKey_sound hd hk hpl hv hs (i + 1) h2 with ⟨j, c, e, h3, h4, h5, h6⟩ | ⟨h3, h4⟩
        · refine .inl ⟨j + 1, c, e, ?_, h4, h5, .cons _ _ _ _ he h6⟩
          unfold Instr.findNow; rw [hn]; simp only; rw [h3]; congr 3; omega
        · exact .inr ⟨by unfold Instr.findNow; rw [hn]; exact h3, fun born => .cons _ _ _ _ he (h4 born)⟩

theorem keyOk_plain {kk : EqK} {k : Value} (h : keyOk kk k = true) : plain1 k = true := by
  cases kk <;> cases k <;> simp only [keyOk, Bool.false_eq_true] at h <;> rfl

theorem setObj_run {b : Nat} {o : Obj} {ms : Array MapEntry} {clock : Nat} (hb : w.heap[b]? = some (.map ms clock)) : (setObj b o).run P w = .ok () { w with heap := w.heap.setIfInBounds b o } := by
  simp [setObj, Sem.run, hb]

set_option maxHeartbeats 1000000 in
theorem update_done (hm : MR G N σ g w) (hs : Sub g h) {t kt e : TypeId} {d : TypeDesc} {kk : EqK} (ht : P.underlying t = some (.map kt e)) (hk : P.underlying kt = some d) (hd : eqK d = some kk)
    {b : Nat} {cm k ck v cv : Value} (hvm : VR σ g (.map (some b)) cm) (hvk : VR σ g k ck) (hvv : VR σ g v cv) (hok : keyOk kk k = true) {es es' : List (Value × Value)} (hb : h[b]? = some (.map es)) (hse : setKey kk k v es = some es') :
    ∃ w', (Instr.mapUpdate t cm ck cv).run P w = .ok () w' ∧ Done G N σ g w h undef (h.set b (.map es')) undef w' := by
  have hck := keyOk_inv hok hvk
  subst hck
  cases hvm with
  | map _ s es0 hg hsb =>
    have hb' := hs _ _ hg
    rw [hb] at hb'; cases hb'
    have ho := hm.obj _ _ hg
    cases ho with
    | map _ ms clock hbn hw hent =>
      rw [← hsb] at hw hbn
      have hslt : s < w.heap.size := (Array.getElem?_eq_some_iff.1 hw).1
      have hgo : (getObj s).run P w = .ok (.map ⟨ms⟩ clock) w := by simp [getObj, Sem.run, hw]
      have e0 : (10000 : Nat) = 9999 + 1 := rfl
      have hcheck := checkKey_run (w := w) hd hk hok false 9999
      have fin : ∀ (ms' : List MapEntry) (clock' : Nat), EntriesR σ g es' ms' → Done G N σ g w h undef (h.set b (.map es')) undef { w with heap := w.heap.setIfInBounds s (.map ⟨ms'⟩ clock') } := by
        intro ms' clock' hent'
        obtain ⟨h2, h3, h4, h5⟩ := put_done (h := h) hm hs hg rfl (new := .map es') rfl (σ b) { w with heap := w.heap.setIfInBounds s (.map ⟨ms'⟩ clock') }
          (fun vals ver ro e => by cases e) (fun es e => ⟨es', rfl, rfl⟩)
          (fun σ' g' he => .map es' ms' clock' (by rw [← hsb]; exact hbn) (by rw [← hsb]; simp [hslt]) (hent'.ext he))
          (fun b' hb' hne => by
            show (w.heap.setIfInBounds s _)[b']? = _
            rw [Array.getElem?_setIfInBounds_ne (by rw [hsb]; exact fun e => hne e.symm)])
          (.inl rfl) (by simp) rfl rfl rfl
        exact ⟨_, h2, h3, .tuple [] [] .nil, h4⟩
      unfold Instr.mapUpdate
      rw [e0]
      simp only [Sem.run_bind, run_und ht, Result.andThen_ok, hgo, hcheck]
      rcases setKey_sound hd hok (keyOk_plain hok) hvv hent 0 hse with ⟨j, c, en, h3, h4, h5, h6⟩ | ⟨h3, h4⟩
      · have hf : (Instr.findKey kt ck ms).run P w = .ok (some (j, c)) w := by
          simp only [Instr.findKey, Sem.run_bind, run_und hk, Result.andThen_ok, h3, Nat.zero_add, Sem.run_pure]
        rw [hf]
        have hkey : (((⟨ms⟩ : Array MapEntry)[j]?.map (·.key)).getD ck) = ck := by simp [h4, h5]
        have hsame : Instr.sameBits 10000 ck ck = true := by
          have : leafEq kk ck ck = some true := by cases kk <;> cases ck <;> simp only [keyOk, Bool.false_eq_true] at hok <;> simp [leafEq, bytes_beq]
          exact (sameBits_of hok this 10000).2
        simp only [Result.andThen_ok, Sem.run_bind, hkey, Instr.keyThatStays, hsame, if_true, Sem.run_pure, setObj_run hw]
        have hmod : (⟨ms⟩ : Array MapEntry).modify j (fun e => { e with key := ck, val := cv }) = ⟨ms.set j { en with key := ck, val := cv }⟩ := by
          apply Array.ext'
          apply List.ext_getElem?
          intro i
          simp only [Array.getElem?_toList, Array.getElem?_modify, List.getElem?_toArray]
          rw [List.getElem?_set]
          by_cases hij : j = i
          · subst hij
            have hlt := (List.getElem?_eq_some_iff.1 h4).1
            rw [if_pos rfl, if_pos rfl, if_pos hlt, h4]
            rfl
          · simp [hij]
        rw [hmod]
        exact ⟨_, rfl, fin _ _ h6⟩
      · have hf : (Instr.findKey kt ck ms).run P w = .ok none w := by
          simp only [Instr.findKey, Sem.run_bind, run_und hk, Result.andThen_ok, h3, Sem.run_pure]
        rw [hf]
        simp only [Result.andThen_ok, setObj_run hw]
        exact ⟨_, rfl, by simpa using fin _ (clock + 1) (h4 clock)⟩

/-- The operation comes to a value in a world behind, or to none. -/
def Acts (P : Program) (G N : Nat) (σ : Emb) (g : Mem) (w : World) (h : Heap) (v : Value) (h' : Heap) (s : Sem Next) : Prop :=
  ∃ cv w', (s.run P w = .ok (.value cv) w' ∨ (s.run P w = .ok .skip w' ∧ cv = undef)) ∧ Done G N σ g w h v h' cv w'

set_option maxHeartbeats 1000000 in
theorem act_op (call : Caller) (hm : MR G N σ g w) (hs : Sub g h) {ρ ρc : Operand → Value} {o : Oper} {ao : AOp} (hn : normOp P o.type o.op = some ao) (hk : ao.acts = true)
    (hv : ∀ x ∈ o.op.operands, VR σ g (ρ x) (ρc x)) {v : Value} {h' : Heap} (he : evOp call ρ h ao = some (v, h')) (hcall : ∀ f l, ao ≠ .call f l) (hcallv : ∀ f l, ao ≠ .callv f l) :
    Acts P G N σ g w h v h' (execOp ρc o) := by
  obtain ⟨dst, op, ty, pos, after, guard⟩ := o
  simp only at hn hv
  cases op
  case store t a x =>
    have ha := hv a (by simp [Op.operands])
    have hx := hv x (by simp [Op.operands])
    simp only [normOp] at hn
    cases hag : aggT P t with
    | none => rw [hag] at hn; cases hn
    | some b =>
      cases hz : sizeT P t with
      | none => rw [hag, hz] at hn; cases b <;> cases hn
      | some n =>
        rw [hag, hz] at hn
        have fin : ∀ (p : Addr) (l cs : List Value), ρ a = .pointer (some p) → VRs σ g l cs → (∀ x ∈ l, single x = true) → h.write p l = some h' → (ρc x).cells = ⟨cs⟩ → cs.length = n → v = undef → Acts P G N σ g w h v h' (execOp ρc ⟨dst, .store t a x, ty, pos, after, guard⟩) := by
          intro p l cs hp hvs h1 hw hcells hlen hvu
          subst hvu
          rw [hp] at ha
          obtain ⟨q, hq⟩ := ha.ptr_inv
          rw [hq] at ha
          obtain ⟨w', hrun, hd⟩ := write_done (P := P) hm hs ha hvs h1 hw
          refine ⟨undef, w', .inr ⟨?_, rfl⟩, hd⟩
          have hszc : (⟨cs⟩ : Array Value).size = cs.length := rfl
          simp only [execOp, Instr.storeAt, hq, Instr.sureAddr, Sem.run_bind, Sem.run_pure, Result.andThen_ok, storeVar, run_sizeOf hz, hcells, hszc, hlen, ne_eq, not_true_eq_false, if_false, hrun]
        cases b with
        | true =>
          simp only [Option.some.injEq] at hn; subst hn
          simp only [evOp] at he
          split at he
          · rename_i p cs0 hp hxs
            split at he
            · rename_i hsz
              obtain ⟨h2, hw, he⟩ := opt_map_some he
              simp only [Prod.mk.injEq] at he
              obtain ⟨rfl, rfl⟩ := he
              rw [hxs] at hx
              obtain ⟨ys, hys, hvs, h1⟩ := hx.agg_inv
              exact fin p _ ys hp hvs h1 hw (by rw [hys]; rfl) (by rw [← hvs.length]; exact hsz) rfl
            · cases he
          · cases he
        | false =>
          by_cases hn1 : n = 1
          · subst hn1
            simp only [Option.some.injEq] at hn; subst hn
            simp only [evOp] at he
            split at he
            · rename_i p hp
              have key : single (ρ x) = true → (h.write1 p (ρ x)).map (undef, ·) = some (v, h') → Acts P G N σ g w h v h' (execOp ρc ⟨dst, .store t a x, ty, pos, after, guard⟩) := by
                intro hsx he
                obtain ⟨h2, hw, he⟩ := opt_map_some he
                simp only [Prod.mk.injEq] at he
                obtain ⟨rfl, rfl⟩ := he
                have hw2 : h.write p [ρ x] = some h2 := by
                  unfold Heap.write1 at hw
                  unfold Heap.write
                  split at hw
                  · rename_i vals ver hob
                    split at hw
                    · rename_i hc
                      rw [if_pos ⟨hc.1, by simp only [List.length_cons, List.length_nil]; omega⟩]
                      rw [← hw]
                      congr 3
                      unfold splice
                      rw [List.set_eq_take_append_cons_drop, if_pos hc.2]
                      simp
                    · cases hw
                  · cases hw
                have hsc : single (ρc x) = true := by rw [hx.single]; exact hsx
                exact fin p [ρ x] [ρc x] hp (.cons _ _ _ _ hx .nil) (fun y hy => by rw [List.mem_singleton.1 hy]; exact hsx) hw2 (by generalize ρc x = c at hsc; cases c <;> first | rfl | simp [single] at hsc) rfl rfl
              split at he
              · cases he
              · cases he
              · rename_i u h1 h2
                refine key ?_ he
                cases hu : ρ x <;> first | rfl | exact absurd hu (h1 _) | exact absurd hu (h2 _)
            · cases he
          · exfalso
            revert hn
            split <;> simp_all
  case mapUpdate t m k x =>
    have hmv := hv m (by simp [Op.operands])
    have hkv := hv k (by simp [Op.operands])
    have hxv := hv x (by simp [Op.operands])
    simp only [normOp] at hn
    cases hu : P.underlying t with
    | none => rw [hu] at hn; cases hn
    | some d =>
      rw [hu] at hn
      cases d <;> simp only [reduceCtorEq] at hn
      rename_i kt e
      cases hkk : (P.underlying kt).bind eqK with
      | none => rw [hkk] at hn; cases hn
      | some kk =>
        rw [hkk] at hn
        simp only [Option.some.injEq] at hn; subst hn
        obtain ⟨dk, hdk, hek⟩ := Option.bind_eq_some_iff.1 hkk
        simp only [evOp] at he
        split at he
        · rename_i b hmb
          split at he
          · rename_i es hb
            split at he
            · rename_i hok
              obtain ⟨es', hse, he⟩ := opt_map_some he
              simp only [Prod.mk.injEq] at he
              obtain ⟨rfl, rfl⟩ := he
              rw [hmb] at hmv
              obtain ⟨w', hrun, hd⟩ := update_done (P := P) hm hs hu hdk hek hmv hkv hxv hok hb hse
              exact ⟨undef, w', .inr ⟨by simp only [execOp, Sem.run_bind, hrun, Result.andThen_ok, Sem.run_pure], rfl⟩, hd⟩
            · cases he
          · cases he
        · cases he
  case call c =>
    obtain ⟨callee, ⟨as⟩, ⟨ts⟩⟩ := c
    simp only [normOp, normCall] at hn
    split at hn
    · rename_i x t
      exfalso
      repeat' split at hn
      all_goals first
        | (cases hn; done)
        | (simp only [Option.some.injEq] at hn; subst hn; simp [AOp.acts] at hk; done)
    · rename_i x y t u
      have hx := hv x (by simp [Op.operands, Call.operands])
      have hy := hv y (by simp [Op.operands, Call.operands])
      cases hut : P.underlying t with
      | none => rw [hut] at hn; cases hn
      | some d =>
        rw [hut] at hn
        cases d <;> simp only [reduceCtorEq] at hn
        rename_i e
        cases hz : sizeT P e with
        | none => rw [hz] at hn; cases hn
        | some n =>
          cases hb : bytesT P e with
          | none => rw [hz, hb] at hn; cases hn
          | some bb =>
            cases hzz : zeroOf P e with
            | none => rw [hz, hb, hzz] at hn; cases hn
            | some z =>
              rw [hz, hb, hzz] at hn
              simp only at hn
              split at hn
              · rename_i hcond
                simp only [Option.some.injEq] at hn; subst hn
                simp only [evOp] at he
                obtain ⟨cv, w', hrun, hd⟩ := append_done (P := P) hm hs hut hz hb hzz hcond.2.2.1 hcond.1 hcond.2.1 hcond.2.2.2.1 hcond.2.2.2.2 hx hy (ty := ty) he
                refine ⟨cv, w', .inl ?_, hd⟩
                simp only [execOp, resolve, List.map_toArray, List.map_cons, List.map_nil, Sem.run_bind, Sem.run_pure, Result.andThen_ok, invoke, builtin]
                rw [hrun]
                rfl
              · cases hn
    · split at hn
      · simp only [Option.some.injEq] at hn; subst hn; simp [AOp.acts] at hk
      · cases hn
    · split at hn
      · simp only [Option.some.injEq] at hn; subst hn; simp [AOp.acts] at hk
      · cases hn
    · split at hn
      · simp only [Option.some.injEq] at hn; exact absurd hn.symm (hcall _ _)
      · cases hn
    · simp only [Option.some.injEq] at hn; exact absurd hn.symm (hcallv _ _)
    · cases hn
  case binOp op t x y yt =>
    exfalso
    have eqs : ∀ neg, normEq P neg t x y = some ao → False := by
      intro neg hne
      unfold normEq at hne
      repeat' split at hne
      all_goals first
        | (cases hne; done)
        | (simp only [Option.some.injEq] at hne; subst hne; simp [AOp.acts] at hk; done)
        | (obtain ⟨z, _, rfl⟩ := opt_map_some hne; simp [AOp.acts] at hk; done)
    simp only [normOp] at hn
    cases op <;> simp only at hn
    case eql => exact eqs false hn
    case neq => exact eqs true hn
    all_goals
      split at hn
      · simp only [Option.some.injEq] at hn; subst hn; simp [AOp.acts] at hk
      · cases hn
  case makeFunc fn a b =>
    exfalso
    cases fn <;> simp only [normOp, reduceCtorEq, Option.some.injEq] at hn
    subst hn; simp [AOp.acts] at hk
  case makeMap t r =>
    exfalso
    have hn : normMap (P.underlying t) r = some ao := hn
    rw [normMap_mk hn] at hk
    simp [AOp.acts] at hk
  case slice t x lo hi mx =>
    exfalso
    cases mx with
    | some y => simp [normOp] at hn
    | none =>
      simp only [normOp] at hn
      repeat' split at hn
      all_goals first
        | (cases hn; done)
        | (simp only [Option.some.injEq] at hn; subst hn; simp [AOp.acts] at hk; done)
        | (obtain ⟨z, _, hn⟩ := Option.bind_eq_some_iff.1 hn
           split at hn <;> first | (cases hn; done) | (simp only [Option.some.injEq] at hn; subst hn; simp [AOp.acts] at hk; done))
  all_goals
    exfalso
    simp only [normOp, reduceCtorEq] at hn
    try (
      repeat' split at hn
      all_goals first
        | (cases hn; done)
        | (simp only [Option.some.injEq] at hn; subst hn; simp [AOp.acts] at hk; done)
        | (obtain ⟨z, _, rfl⟩ := opt_map_some hn; simp [AOp.acts] at hk; done)
        | (obtain ⟨z, _, hn⟩ := Option.bind_eq_some_iff.1 hn
           split at hn <;> first | (cases hn; done) | (simp only [Option.some.injEq] at hn; subst hn; simp [AOp.acts] at hk; done)))
end Go.Proofs.YtjjlbfamfioofaaDoor.AM
