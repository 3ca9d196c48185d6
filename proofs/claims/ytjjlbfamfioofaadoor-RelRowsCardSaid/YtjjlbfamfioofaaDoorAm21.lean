/-
  AM, part 21: what a function of the abstract machine comes to, the model's comes to.
  Conditions: the codes are those that 'normFunc' reads.
-/
import Derived.Test.YtjjlbfamfioofaaDoorAm20
namespace Go.Proofs.YtjjlbfamfioofaaDoor.AM
open Go.RowKit

set_option linter.unusedSimpArgs false
set_option linter.unusedVariables false
variable {P : Program} {G N : Nat} {σ : Emb} {g : Mem} {w : World} {h : Heap}

mutual
/-- A value that read as one in the elder memory, and reads as another now, reads so in what is left. -/
theorem VR.back {σ' : Emb} {g' g2 : Mem} (hsame : ∀ i o, g i = some o → g2 i = some o ∧ g' i = some o) {u c c' : Value} : VR σ g u c → VR σ' g' u c' → VR σ' g2 u c'
  | .bool b, .bool _ => .bool b
  | .int k n, .int _ _ => .int k n
  | .float k n, .float _ _ => .float k n
  | .complex k n m, .complex _ _ _ => .complex k n m
  | .string s, .string _ => .string s
  | .nilPtr, .nilPtr => .nilPtr
  | .ptr p q v vals ver ro hv hg hle hq, .ptr _ q' v' vals' ver' ro' hv' hg' hle' hq' => by
    obtain ⟨h2, h1⟩ := hsame _ _ hg
    rw [h1] at hg'; cases hg'
    exact .ptr p q' v' vals ver ro hv' h2 hle' hq'
  | .nilSlice, .nilSlice => .nilSlice
  | .slice p q n c cap v vals ver ro hv hg hle hn hq, .slice _ q' _ _ cap' v' vals' ver' ro' hv' hg' hle' hn' hq' => by
    obtain ⟨h2, h1⟩ := hsame _ _ hg
    rw [h1] at hg'; cases hg'
    exact .slice p q' n c cap' v' vals ver ro hv' h2 hle' hn' hq'
  | .nilMap, .nilMap => .nilMap
  | .map r s es hg hs, .map _ s' es' hg' hs' => by
    obtain ⟨h2, h1⟩ := hsame _ _ hg
    rw [h1] at hg'; cases hg'
    exact .map r s' es h2 hs'
  | .nilChan, .nilChan => .nilChan
  | .func fn xs ys us vs h h', .func _ _ ys' _ vs' k k' => .func fn xs ys' us vs' (VRs.back hsame h k) (VRs.back hsame h' k')
  | .nilFunc, .nilFunc => .nilFunc
  | .iface t u c h, .iface _ _ c' k => .iface t u c' (VR.back hsame h k)
  | .nilIface, .nilIface => .nilIface
  | .agg xs ys h h1, .agg _ ys' k k1 => .agg xs ys' (VRs.back hsame h k) h1
  | .tuple xs ys h, .tuple _ ys' k => .tuple xs ys' (VRs.back hsame h k)
theorem VRs.back {σ' : Emb} {g' g2 : Mem} (hsame : ∀ i o, g i = some o → g2 i = some o ∧ g' i = some o) {us cs cs' : List Value} : VRs σ g us cs → VRs σ' g' us cs' → VRs σ' g2 us cs'
  | .nil, .nil => .nil
  | .cons u c us cs h hs, .cons _ c' _ cs' k ks => .cons u c' us cs' (VR.back hsame h k) (VRs.back hsame hs ks)
end
theorem EntriesR.back {σ' : Emb} {g' g2 : Mem} (hsame : ∀ i o, g i = some o → g2 i = some o ∧ g' i = some o) {es : List (Value × Value)} {ms ms' : List MapEntry} (h : EntriesR σ g es ms) (h' : EntriesR σ' g' es ms') : EntriesR σ' g2 es ms' := by
  induction h generalizing ms' with
  | nil => cases h'; exact .nil
  | cons e m es ms he _ ih =>
    cases h' with
    | cons _ m' _ ms' he' hs' => exact .cons _ _ _ _ ⟨he'.key, he'.plain, he.val.back hsame he'.val⟩ (ih hs')

/-- The memory of a call that leaves the elder one as it was, and answers a flat value, is the elder one. -/
theorem finish_done (hm : MR G N σ g w) (hs : Sub g h) {v cv : Value} {h' : Heap} {w' : World} (hd : Done G N σ g w h v h' cv w') (hf : flat v = true) (hp : h'.take h.length = h) : Done G N σ g w h v h cv w' := by
  obtain ⟨σ', hgo, hm', hv, hh⟩ := hd
  have hcv : cv = v := by
    have key1 : ∀ {σ : Emb} {g : Mem} {u c : Value}, plain1 u = true → VR σ g u c → c = u := by
      intro σ g u c hu hr
      cases hr <;> first | rfl | simp [plain1] at hu
    have keys : ∀ {σ : Emb} {g : Mem} (us cs : List Value), us.all plain1 = true → VRs σ g us cs → cs = us := by
      intro σ g us
      induction us with
      | nil => intro cs _ hr; cases hr; rfl
      | cons u us ih =>
        intro cs hu hr
        cases hr with
        | cons _ c _ cs h hs =>
          simp only [List.all_cons, Bool.and_eq_true] at hu
          rw [key1 hu.1 h, ih _ hu.2 hs]
    have key2 : ∀ {σ : Emb} {g : Mem} {u c : Value}, plain u = true → VR σ g u c → c = u := by
      intro σ g u c hu hr
      unfold plain at hu
      split at hu
      · rename_i cs
        cases hr with
        | agg xs ys h h1 => rw [keys _ _ hu h]
      · exact key1 hu hr
    have keys2 : ∀ {σ : Emb} {g : Mem} (us cs : List Value), us.all plain = true → VRs σ g us cs → cs = us := by
      intro σ g us
      induction us with
      | nil => intro cs _ hr; cases hr; rfl
      | cons u us ih =>
        intro cs hu hr
        cases hr with
        | cons _ c _ cs h hs =>
          simp only [List.all_cons, Bool.and_eq_true] at hu
          rw [key2 hu.1 h, ih _ hu.2 hs]
    unfold flat at hf
    split at hf
    · rename_i cs
      cases hv with
      | tuple xs ys h => rw [keys2 _ _ hf h]
    · exact key2 hf hv
  subst hcv
  -- what was there is there, as it was
  have hsame : ∀ i o, g i = some o → g i = some o ∧ grow g h h' i = some o := by
    intro i o hi
    refine ⟨hi, ?_⟩
    have hlt : i < h.length := (List.getElem?_eq_some_iff.1 (hs _ _ hi)).1
    unfold grow
    rw [if_pos hlt, hi]
    simp only
    have : h'[i]? = (h'.take h.length)[i]? := by rw [List.getElem?_take, if_pos hlt]
    rw [this, hp]; exact hs _ _ hi
  have hseat : ∀ i o, g i = some o → o ≠ .gone → σ' i = σ i := by
    intro i o hi hng
    have h2 := (hsame i o hi).2
    cases o with
    | cells vals ver ro =>
      obtain ⟨vals', ver', h3, _, h5⟩ := hgo.ext.cells _ _ _ _ hi
      rw [h2] at h3; cases h3
      exact h5 rfl
    | map es =>
      obtain ⟨es', h3, h4⟩ := hgo.ext.map _ _ hi
      exact h4
    | gone => exact absurd rfl hng
  have hng : ∀ i o, g i = some o → o ≠ .gone := by
    rintro i o hi rfl
    exact hm.noGone i hi
  have hext : Ext σ' g σ g := by
    constructor
    · intro i vals ver ro hi; exact ⟨vals, ver, hi, Nat.le_refl _, fun _ => (hseat i _ hi (hng i _ hi)).symm⟩
    · intro i es hi; exact ⟨es, hi, (hseat i _ hi (hng i _ hi)).symm⟩
  refine ⟨σ, ?_, ?_, .flat hf, .refl _ _⟩ <;> rw [grow_same hs]
  · refine ⟨.refl _ _, hgo.size, hgo.os, hgo.tape, hgo.output, hgo.rest, fun b hb => .inl hb⟩
  · refine ⟨fun i o hi => ?_, hm.inj, hm.glob, Nat.le_trans hm.size hgo.size⟩
    have h1 := hm'.obj i o (hsame i o hi).2
    have h0 := hm.obj i o hi
    rw [hseat i o hi (hng i o hi)] at h1
    cases h1 with
    | own vals cs ver el hb h00 hw hsz hv hl h1 =>
      cases h0 with
      | own _ cs0 _ el0 hb0 h000 hw0 hs0 hv0 hl0 h10 => exact .own vals cs ver el hb h00 hw hsz ((hv0.back hsame hv).ext hext) hl h1
    | ro vals hb hv h1 =>
      cases h0 with
      | ro _ hb0 hv0 h10 =>
        refine .ro vals hb (fun j u hu => ?_) h1
        obtain ⟨c, hc, hvr⟩ := hv j u hu
        obtain ⟨c0, _, hvr0⟩ := hv0 j u hu
        exact ⟨c, hc, (hvr0.back hsame hvr).ext hext⟩
    | map es ms clock hb hw he =>
      cases h0 with
      | map _ ms0 clock0 hb0 hw0 he0 => exact .map es ms clock hb hw ((he0.back hsame he).ext hext)

/-- One result. -/
def resOne (tm : Array Value) : ResultVar → Sem Value
  | .tmp i => pure (tm.getD i undef)
  | .cell a ty => do loadVar ty (← asAddr (tm.getD a undef))
theorem results_eq (fn : Func) (tm : Array Value) : results fn tm = (do
    let vs ← fn.results.mapM (resOne tm)
    pure (if h : vs.size = 1 then vs[0] else .tuple vs)) := by
  unfold results
  congr 1
/-- The results of a function. -/
theorem results_run (hm : MR G N σ g w) (hs : Sub g h) {fn : Func} {rs : List ARes} (hn : normRes P fn.results.toList = some rs) {t : List Value} {tm : Array Value} (hv : VRs σ g t tm.toList) {v : Value} (he : aResults ⟨t, h⟩ rs = some v) :
    ∃ cv, (results fn tm).run P w = .ok cv w ∧ VR σ g v cv := by
  have tmp : ∀ i, VR σ g (t.getD i undef) (tm.getD i undef) := by
    intro i
    have := hv.getD i
    rw [show tm.getD i undef = tm.toList.getD i undef from by simp [Array.getD_eq_getD_getElem?, List.getD_eq_getElem?_getD]]
    exact this
  have one : ∀ (r : ResultVar) (a : ARes) (u : Value), normRes P [r] = some [a] → aRes ⟨t, h⟩ a = some u →
      ∃ cu, (resOne tm r).run P w = .ok cu w ∧ VR σ g u cu := by
    intro r a u hr ha
    cases r with
    | tmp i =>
      simp only [normRes, Option.map_some, Option.some.injEq, List.cons.injEq, and_true] at hr
      subst hr
      simp only [aRes, Option.some.injEq] at ha
      subst ha
      exact ⟨_, rfl, tmp i⟩
    | cell x ty =>
      have hx := tmp x
      unfold normRes at hr
      cases hag : aggT P ty with
      | none => rw [hag] at hr; simp [normRes] at hr
      | some b =>
        cases hz : sizeT P ty with
        | none => rw [hag, hz] at hr; cases b <;> simp [normRes] at hr
        | some n =>
          rw [hag, hz] at hr
          cases b <;> simp only [normRes, Option.some.injEq, List.cons.injEq, and_true] at hr <;> subst hr <;> simp only [aRes] at ha <;> split at ha <;> (try cases ha)
          · rename_i p hp
            rw [hp] at hx
            obtain ⟨q, hq⟩ := hx.ptr_inv
            obtain ⟨cv, hrun, hvr⟩ := load1_sound (P := P) hm hs hag hx ha
            refine ⟨cv, ?_, hvr⟩
            rw [hq] at hrun
            simp only [resOne]
            rw [hq]
            simpa [Instr.loadAt, Instr.sureAddr, asAddr] using hrun
          · rename_i p hp
            rw [hp] at hx
            obtain ⟨q, hq⟩ := hx.ptr_inv
            obtain ⟨l, hl, rfl⟩ := opt_map_some ha
            obtain ⟨cv, hrun, hvr⟩ := load_sound (P := P) hm hs hag hz hx hl
            refine ⟨cv, ?_, hvr⟩
            rw [hq] at hrun
            simp only [resOne]
            rw [hq]
            simpa [Instr.loadAt, Instr.sureAddr, asAddr] using hrun
  have many : ∀ (l : List ResultVar) (as : List ARes) (us : List Value), normRes P l = some as → as.mapM (aRes ⟨t, h⟩) = some us →
      ∃ cus, (l.mapM (resOne tm) : Sem (List Value)).run P w = .ok cus w ∧ VRs σ g us cus := by
    intro l
    induction l with
    | nil =>
      intro as us hl hus
      simp only [normRes, Option.some.injEq] at hl; subst hl
      simp at hus; subst hus
      exact ⟨[], rfl, .nil⟩
    | cons r l ih =>
      intro as us hl hus
      obtain ⟨a, as', rfl, h1, h2⟩ : ∃ a as', as = a :: as' ∧ normRes P [r] = some [a] ∧ normRes P l = some as' := by
        cases r with
        | tmp i =>
          simp only [normRes] at hl
          obtain ⟨as', h1, rfl⟩ := opt_map_some hl
          exact ⟨_, _, rfl, rfl, h1⟩
        | cell x ty =>
          unfold normRes at hl
          split at hl
          · rename_i n as' h1 h2 h3
            simp only [Option.some.injEq] at hl; subst hl
            exact ⟨_, _, rfl, by simp [normRes, h1, h2], h3⟩
          · rename_i n as' h1 h2 h3
            simp only [Option.some.injEq] at hl; subst hl
            exact ⟨_, _, rfl, by simp [normRes, h1, h2], h3⟩
          · cases hl
      rw [List.mapM_cons] at hus
      simp only [bind, Option.bind_eq_some_iff, pure, Option.some.injEq] at hus
      obtain ⟨u, hu, us', hus', rfl⟩ := hus
      obtain ⟨cu, hrun, hvr⟩ := one r a u h1 hu
      obtain ⟨cus, hruns, hvrs⟩ := ih as' us' h2 hus'
      refine ⟨cu :: cus, ?_, .cons _ _ _ _ hvr hvrs⟩
      rw [List.mapM_cons]
      simp only [Sem.run_bind, hrun, Result.andThen_ok, hruns, Sem.run_pure]
  have hlen : ∀ (l : List ResultVar) (as : List ARes), normRes P l = some as → as.length = l.length := by
    intro l
    induction l with
    | nil => intro as h; simp only [normRes, Option.some.injEq] at h; subst h; rfl
    | cons r l ih =>
      intro as h
      cases r with
      | tmp i => simp only [normRes] at h; obtain ⟨as', h1, rfl⟩ := opt_map_some h; simp [ih _ h1]
      | cell x ty =>
        unfold normRes at h
        split at h
        · rename_i h3; simp only [Option.some.injEq] at h; subst h; simp [ih _ h3]
        · rename_i h3; simp only [Option.some.injEq] at h; subst h; simp [ih _ h3]
        · cases h
  have hvs : ∃ us cus, rs.mapM (aRes ⟨t, h⟩) = some us ∧ (fn.results.toList.mapM (resOne tm) : Sem (List Value)).run P w = .ok cus w ∧
      VRs σ g us cus ∧ v = (if us.length = 1 then us.getD 0 undef else tup us) ∧ us.length = rs.length := by
    unfold aResults at he
    split at he
    · rename_i r
      have hus : [r].mapM (aRes ⟨t, h⟩) = some [v] := by simp [he]
      obtain ⟨cus, h1, h2⟩ := many _ _ _ hn hus
      exact ⟨[v], cus, hus, h1, h2, by simp, rfl⟩
    · rename_i hne
      obtain ⟨us, hus, rfl⟩ := opt_map_some he
      obtain ⟨cus, h1, h2⟩ := many _ _ _ hn hus
      have hl : us.length = rs.length := by
        have : ∀ (rs : List ARes) (us : List Value), rs.mapM (aRes ⟨t, h⟩) = some us → us.length = rs.length := by
          intro rs
          induction rs with
          | nil => intro us h; simp at h; subst h; rfl
          | cons r rs ih =>
            intro us h
            rw [List.mapM_cons] at h
            simp only [bind, Option.bind_eq_some_iff, pure, Option.some.injEq] at h
            obtain ⟨u, _, us', hus', rfl⟩ := h
            simp [ih _ hus']
        exact this _ _ hus
      refine ⟨us, cus, hus, h1, h2, ?_, hl⟩
      rw [if_neg]
      rw [hl]
      intro h1'
      obtain ⟨r, hr⟩ := List.length_eq_one_iff.1 h1'
      exact hne r hr
  obtain ⟨us, cus, _, hrun, hvrs, rfl, _⟩ := hvs
  have hcl := hvrs.length
  refine ⟨if cus.length = 1 then cus.getD 0 undef else .tuple ⟨cus⟩, ?_, ?_⟩
  · rw [results_eq, Array.mapM_eq_mapM_toList]
    simp only [Sem.run_bind, Sem.run_map, hrun, Result.andThen_ok, Sem.run_pure]
    congr 1
    have hsz : (List.toArray cus).size = cus.length := rfl
    by_cases h1 : cus.length = 1
    · rw [dif_pos (by rw [hsz]; exact h1), if_pos h1]
      obtain ⟨c, rfl⟩ := List.length_eq_one_iff.1 h1
      rfl
    · rw [dif_neg (by rw [hsz]; exact h1), if_neg h1]
  · rw [hcl]
    by_cases h1 : cus.length = 1
    · rw [if_pos h1, if_pos h1]; exact hvrs.getD 0
    · rw [if_neg h1, if_neg h1]; exact .tuple _ _ hvrs

/-- The functions that are read. -/
def Reads (P : Program) (G : Nat) (F : Funcs) : Prop := ∀ f fn, F f = some fn → ∃ pf ords, P.funcs[f]? = some pf ∧ normFunc P G ords pf = some fn ∧ pf.name ≠ "runtime.NumGoroutine"

theorem sound (hreg : ∀ ords id ops, RegionOk P G ords id ops true) {F : Funcs} (hr : Reads P G F) : ∀ n, (∀ N, CallsOk P G N (evF F n)) ∧ ∀ m, m ≤ n → CodeOk P G F m := by
  intro n
  induction n with
  | zero =>
    refine ⟨fun N f args h v h' he => by simp [evF] at he, fun m hm => ?_⟩
    obtain rfl : m = 0 := by omega
    intro N c ords ac hn s s' x he
    simp [evC] at he
  | succ n ih =>
    obtain ⟨ihf, ihc⟩ := ih
    refine ⟨fun N f args h v h' he σ g w cargs hs hm hv => ?_, fun m hm => ?_⟩
    · rw [evF] at he
      cases hf : F f with
      | none => rw [hf] at he; cases he
      | some fn =>
        rw [hf] at he
        simp only at he
        obtain ⟨pf, ords, hpf, hnf, hname⟩ := hr f fn hf
        unfold normFunc at hnf
        split at hnf
        · rename_i b r hb hres
          simp only [Option.some.injEq] at hnf
          subst hnf
          obtain ⟨pb, hpb, hnb⟩ := Option.bind_eq_some_iff.1 hb
          refine ⟨by simp [entered, hpf, hpb, hname], ?_⟩
          simp only at he
          have hal := hv.length
          have hv0 : VRs σ g (args ++ List.replicate (pf.ntmps - args.length) undef) (cargs ++ List.replicate (pf.ntmps - cargs.length) undef) := by
            rw [hal]
            exact hv.append (.replicate (.tuple [] [] .nil) _)
          refine calls_of_wp hpf hpb ?_
          have hact : ({ tmps := (⟨cargs⟩ : Array Value) ++ Array.replicate (pf.ntmps - (⟨cargs⟩ : Array Value).size) undef, defers := [] } : Act).tmps.toList = cargs ++ List.replicate (pf.ntmps - cargs.length) undef := by simp
          cases hc : evC F n b ⟨args ++ List.replicate (pf.ntmps - args.length) undef, h⟩ with
          | none => rw [hc] at he; cases he
          | some p =>
            obtain ⟨x, s⟩ := p
            rw [hc] at he
            refine ihc n (Nat.le_refl _) N pb ords b hnb ⟨args ++ List.replicate (pf.ntmps - args.length) undef, h⟩ s x hc σ g w _ _ hm hs (by rw [hact]; exact hv0) rfl fun a' w' hto => ?_
            obtain ⟨σ', hgo, hm', hv', hh, hd⟩ := hto
            have fin : (aResults s r).map (fun v => (v, finish h v s.h)) = some (v, h') → a'.defers = [] ∧ ∃ cv, (results pf a'.tmps).run P w' = .ok cv w' ∧ (∃ cv', Ending.returned cv = .returned cv' ∧ Done G N σ g w h v h' cv' w') := by
              intro he
              obtain ⟨v0, hv0, he⟩ := opt_map_some he
              simp only [Prod.mk.injEq] at he
              obtain ⟨rfl, rfl⟩ := he
              obtain ⟨cv, hrun, hvr⟩ := results_run (P := P) hm' (grow_sub _ _ _) hres hv' (show aResults ⟨s.t, s.h⟩ r = some v0 from hv0)
              refine ⟨hd, cv, hrun, cv, rfl, ?_⟩
              have hdone : Done G N σ g w h v0 s.h cv w' := ⟨σ', hgo, hm', hvr, hh⟩
              unfold finish
              split
              · rename_i hfl
                exact finish_done hm hs hdone hfl.1 hfl.2
              · exact hdone
            cases x with
            | normal => exact fin he
            | ret => exact fin he
            | exit id => cases he
        · cases hnf
    · by_cases hmn : m = n + 1
      · subst hmn
        exact code_step hreg F n ihf ihc
      · exact ihc m (by omega)
end Go.Proofs.YtjjlbfamfioofaaDoor.AM
