/-
  AM, part 19e: a statement whose order is open, whole: the model comes to what the abstract machine comes to, in whatever order.
  Conditions: none.
-/
import Derived.Test.YtjjlbfamfioofaaDoorAm19d
import Derived.Test.YtjjlbfamfioofaaDoorAm20
namespace Go.Proofs.YtjjlbfamfioofaaDoor.AM
open Go.RowKit

set_option linter.unusedSimpArgs false
set_option linter.unusedVariables false
variable {call : Caller} {P : Program} {G N : Nat} {ops : Array Oper} {as : List AOper} {s0 : St} {σ0 : Emb} {g0 : Mem} {w0 : World} {D : Nat → Prop} {pre rest : List Nat} {seen : Nat} {s sfin : St} {val : Nat → Value} {hole : Nat → Option Nat}
  {σ : Emb} {g : Mem} {w : World} {a : Act}

theorem count_lt {p q : Nat → Bool} : ∀ {l : List Nat} {i : Nat}, i ∈ l → (∀ x, q x = true → p x = true) → p i = true → q i = false → (l.filter q).length < (l.filter p).length
  | x :: l, i, hi, hqp, hp, hq => by
    have hle : ∀ l : List Nat, (l.filter q).length ≤ (l.filter p).length := by
      intro l
      induction l with
      | nil => simp
      | cons y l ih =>
        cases hqy : q y with
        | true => rw [List.filter_cons_of_pos hqy, List.filter_cons_of_pos (hqp y hqy)]; simpa using ih
        | false =>
          rw [List.filter_cons_of_neg (by simp [hqy])]
          cases hpy : p y with
          | true => rw [List.filter_cons_of_pos hpy]; simp only [List.length_cons]; omega
          | false => rw [List.filter_cons_of_neg (by simp [hpy])]; exact ih
    rcases List.mem_cons.1 hi with rfl | hi
    · rw [List.filter_cons_of_pos hp, List.filter_cons_of_neg (by simp [hq])]
      have := hle l
      simp only [List.length_cons]; omega
    · have ih := count_lt hi hqp hp hq
      cases hqx : q x with
      | true => rw [List.filter_cons_of_pos hqx, List.filter_cons_of_pos (hqp x hqx)]; simpa using ih
      | false =>
        rw [List.filter_cons_of_neg (by simp [hqx])]
        cases hpx : p x with
        | true => rw [List.filter_cons_of_pos hpx]; simp only [List.length_cons]; omega
        | false => rw [List.filter_cons_of_neg (by simp [hpx])]; exact ih

theorem order_all {b : List Nat} : ∀ (rest : List Nat) (seen : Nat), orderOk as b rest seen = true → (∀ i, seen.testBit i = true → D i) → (∀ i, i < as.length → (∀ j, bits b i j = true → D j) → D i) → ∀ i ∈ rest, D i
  | [], seen, h, hs, hr, i, hi => by simp at hi
  | k :: r, seen, h, hs, hr, i, hi => by
    obtain ⟨o1, o2, o3, o4, o5⟩ := orderOk_cons h
    have hk : D k := hr k o2 fun j hj => hs j (o3 j hj)
    rcases List.mem_cons.1 hi with rfl | hi
    · exact hk
    · refine order_all r _ o5 (fun j hj => ?_) hr i hi
      rcases testBit_or_two.1 hj with h | rfl
      · exact hs j h
      · exact hk

/-- The statement's end. -/
theorem Inv.done (S : Stat P G ops as) (I : Inv call P G N ops as s0 σ0 g0 w0 D pre rest seen s sfin val hole σ g w a) (hall : ∀ i, i < as.length → D i) : To G N σ0 g0 w0 s0.h sfin a w := by
  have hrest : rest = [] := by
    cases rest with
    | nil => rfl
    | cons e r =>
      obtain ⟨o1, o2, _⟩ := orderOk_cons I.order
      have := (I.marks e).2 (I.inD e (hall e o2))
      rw [this] at o1; cases o1
  subst hrest
  obtain ⟨m, hm, hev⟩ := I.weaved
  simp only [weave, Option.some.injEq] at hm
  subst hm
  simp only [evOps, Option.some.injEq] at hev
  subst hev
  have hg : g = grow g0 s0.h s.h := by
    funext j
    rcases I.grows j with h | ⟨_, k, hk, hDk, _⟩
    · exact h
    · exact absurd (hall k (I.lt k hk)) hDk
  refine ⟨σ, ?_, ?_, ?_, I.holes, I.dfr⟩ <;> rw [← hg]
  · exact I.go
  · exact I.mr
  · refine .of_get (by rw [I.ssz]; simp [I.asz]) fun t u c hu hc => ?_
    have hlt : t < s0.t.length := by rw [← I.ssz]; exact (List.getElem?_eq_some_iff.1 hu).1
    have e1 : s.t.getD t undef = u := by rw [List.getD_eq_getElem?_getD, hu]; rfl
    have e2 : a.tmps.getD t undef = c := by
      rw [Array.getD_eq_getD_getElem?]
      have : a.tmps[t]? = some c := by simpa using hc
      rw [this]; rfl
    rw [← e1, ← e2]
    by_cases hk : ∃ k, k < as.length ∧ (as.getD k none').dst = some t
    · obtain ⟨k, hkl, hd⟩ := hk
      rw [(I.tmpC t).1 k (I.inD k (hall k hkl)) hd hlt]
      exact (I.tmpD t hlt).1 k (hall k hkl) hd
    · rw [(I.tmpC t).2 fun k hk' hd => hk ⟨k, I.lt k hk', hd⟩]
      exact (I.tmpD t hlt).2 fun k hDk hd => hk ⟨k, I.lt k (I.inD k hDk), hd⟩

theorem listed_set {listed : Array Bool} {i : Nat} (hi : i < listed.size) : (fun j => (listed.setIfInBounds i true).getD j false = true) = fun j => listed.getD j false = true ∨ j = i := by
  funext j
  apply propext
  rw [Array.getD_eq_getD_getElem?, Array.getElem?_setIfInBounds, Array.getD_eq_getD_getElem?]
  by_cases h : i = j
  · subst h; rw [if_pos rfl, if_pos hi]; simp
  · rw [if_neg h]
    exact ⟨.inl, fun q => q.resolve_right fun e => h e.symm⟩

theorem ready_iff {listed : Array Bool} (hsz : listed.size = ops.size) {i : Nat} : i ∈ Region.ready .any ops listed ↔ ∃ o, ops[i]? = some o ∧ ¬ listed.getD i false = true ∧ ∀ e ∈ o.after, Region.binds .any e = true → listed.getD e.on false = true := by
  unfold Region.ready
  rw [List.mem_filter, List.mem_range]
  constructor
  · rintro ⟨hlt, h⟩
    rw [Bool.and_eq_true] at h
    obtain ⟨h1, h2⟩ := h
    have hl : i < listed.size := by omega
    refine ⟨ops[i], by simp [hlt], ?_, ?_⟩
    · rw [Array.getD_eq_getD_getElem?] at h1 ⊢
      simp [hl] at h1 ⊢
      exact h1
    · have he1 : ops[i]? = some ops[i] := by simp [hlt]
      rw [he1] at h2
      simp only [Option.map_some, Option.getD_some] at h2
      intro e he hb
      have := Array.all_eq_true'.1 h2 e he
      rw [hb] at this
      simpa using this
  · rintro ⟨o, ho, h1, h2⟩
    have hlt : i < ops.size := (Array.getElem?_eq_some_iff.1 ho).1
    have hl : i < listed.size := by omega
    refine ⟨hlt, ?_⟩
    rw [Bool.and_eq_true]
    constructor
    · rw [Array.getD_eq_getD_getElem?] at h1 ⊢
      simp [hl] at h1 ⊢
      exact h1
    · rw [ho]
      simp only [Option.map_some, Option.getD_some]
      rw [Array.all_eq_true_iff_forall_mem]
      intro e he
      cases hb : Region.binds .any e with
      | false => rfl
      | true => rw [h2 e he hb]; rfl

theorem any_order (S : Stat P G ops as) (hF : CallsOk P G N call) {ord : List Nat} (hord : orderOk as (Region.before ops).toList ord 0 = true) (hcov : ∀ i, i < as.length → i ∈ ord) {Q : Exit → Act → World → Prop} (hQ : ∀ a' w', To G N σ0 g0 w0 s0.h sfin a' w' → Q .normal a' w') :
    ∀ (fuel : Nat) (listed : Array Bool) (pre rest : List Nat) (seen : Nat) (s : St) (val : Nat → Value) (hole : Nat → Option Nat) (σ : Emb) (g : Mem) (w : World) (a : Act), listed.size = ops.size →
      ((List.range as.length).filter fun i => !listed.getD i false).length ≤ fuel → Inv call P G N ops as s0 σ0 g0 w0 (fun i => listed.getD i false = true) pre rest seen s sfin val hole σ g w a → (rest = [] ∨ ∃ e r, rest = e :: r ∧ (as.getD e none').op.acts = true) →
      wpAny P .any ops Q fuel listed a w := by
  have allD : ∀ (listed : Array Bool), listed.size = ops.size → Region.ready .any ops listed = [] → ∀ i, i < as.length → listed.getD i false = true := by
    intro listed hsz hr i hi
    refine order_all (D := fun i => listed.getD i false = true) ord 0 hord (fun j hj => by simp at hj) (fun k hk hb => ?_) i (hcov i hi)
    by_cases hk' : listed.getD k false = true
    · exact hk'
    · exfalso
      obtain ⟨o, ho, _⟩ := S.oper hk
      have : k ∈ Region.ready .any ops listed := (ready_iff hsz).2 ⟨o, ho, hk', fun e he hbe => hb _ ((before_spec ho).1 e he hbe)⟩
      rw [hr] at this; simp at this
  intro fuel
  induction fuel with
  | zero =>
    intro listed pre rest seen s val hole σ g w a hsz hc I hh
    have hall : ∀ i, i < as.length → listed.getD i false = true := by
      intro i hi
      have h0 : ((List.range as.length).filter fun i => !listed.getD i false) = [] := List.length_eq_zero_iff.1 (by omega)
      have := List.filter_eq_nil_iff.1 h0 i (List.mem_range.2 hi)
      simpa using this
    refine ⟨?_, hQ _ _ (I.done S hall)⟩
    cases hr : Region.ready .any ops listed with
    | nil => rfl
    | cons i r =>
      have hi : i ∈ Region.ready .any ops listed := by rw [hr]; simp
      obtain ⟨o, ho, h1, _⟩ := (ready_iff hsz).1 hi
      exact absurd (hall i (by rw [S.len]; exact (Array.getElem?_eq_some_iff.1 ho).1)) h1
  | succ fuel ih =>
    intro listed pre rest seen s val hole σ g w a hsz hc I hh
    refine ⟨fun hr => hQ _ _ (I.done S (allD listed hsz hr)), fun i hi => ?_⟩
    obtain ⟨o, ho, hnD, hedges⟩ := (ready_iff hsz).1 hi
    have hin : i < as.length := by rw [S.len]; exact (Array.getElem?_eq_some_iff.1 ho).1
    have hls : i < listed.size := by rw [hsz]; exact (Array.getElem?_eq_some_iff.1 ho).1
    have hb : ∀ j, bits (Region.before ops).toList i j = true → listed.getD j false = true := by
      intro j hj
      obtain ⟨e, he, hbe, h⟩ := (before_spec ho).2 j hj
      rcases h with rfl | h
      · exact hedges e he hbe
      · exact I.closed _ _ (hedges e he hbe) h
    have hcount : ((List.range as.length).filter fun k => !(listed.setIfInBounds i true).getD k false).length ≤ fuel := by
      have := count_lt (p := fun k => !listed.getD k false) (q := fun k => !(listed.setIfInBounds i true).getD k false) (List.mem_range.2 hin) (fun x hx => by
        cases hq : listed.getD x false with
        | false => rfl
        | true =>
          have h2 : (listed.setIfInBounds i true).getD x false = true := by
            have := congrFun (listed_set hls) x
            rw [this]; exact .inl hq
          rw [h2] at hx; cases hx) (by simpa using hnD) (by
        have h2 : (listed.setIfInBounds i true).getD i false = true := by
          have := congrFun (listed_set hls) i
          rw [this]; exact .inr rfl
        rw [h2]; rfl)
      omega
    have hset := listed_set hls
    by_cases hacts : (as.getD i none').op.acts = true
    · -- it is the next one
      have hip : i ∉ pre := fun h => hnD (I.actD i h hacts)
      have hir : i ∈ rest := (I.all i hin).resolve_left hip
      rcases hh with rfl | ⟨e, r, rfl, he⟩
      · simp at hir
      · obtain ⟨o1, o2, o3, o4, o5⟩ := orderOk_cons I.order
        have hie : i = e := by
          rcases o4 he i hin with h | h | h
          · exact absurd ((I.marks i).1 h) hip
          · exact h
          · have := (I.marks e).2 (I.inD e (hb e h)); rw [this] at o1; cases o1
        subst hie
        refine I.step_act S hF hacts hb fun s' val' σ' g' w' a' I' => ?_
        rw [← hset] at I'
        obtain ⟨pre2, rest2, seen2, s2, val2, hole2, I2, hh2⟩ := Inv.advance S _ _ _ _ _ _ I'
        exact ih _ pre2 rest2 seen2 s2 val2 hole2 σ' g' w' a' (by simpa using hsz) hcount I2 hh2
    · have hip : i ∈ pre := by
        rcases I.all i hin with h | h
        · exact h
        · exfalso
          rcases hh with rfl | ⟨e, r, rfl, he⟩
          · simp at h
          · obtain ⟨o1, o2, o3, o4, o5⟩ := orderOk_cons I.order
            have hne : i ≠ e := by rintro rfl; exact hacts he
            rcases o4 he i hin with h1 | h1 | h1
            · exact hnD ((by
                have hpi := (I.marks i).1 h1
                -- it is in the prefix already
                exact absurd hpi (by
                  intro hpi
                  have hrp : i ∈ e :: r := h
                  have hmem : ∀ (l : List Nat) (sn : Nat), orderOk as (Region.before ops).toList l sn = true → ∀ x ∈ l, sn.testBit x = false := by
                    intro l
                    induction l with
                    | nil => intro sn _ x hx; simp at hx
                    | cons y l ihl =>
                      intro sn hsn x hx
                      obtain ⟨p1, p2, p3, p4, p5⟩ := orderOk_cons hsn
                      rcases List.mem_cons.1 hx with rfl | hx
                      · exact p1
                      · have := ihl _ p5 x hx
                        cases hq : sn.testBit x with
                        | false => rfl
                        | true => rw [testBit_or_two.2 (.inl hq)] at this; cases this
                  have := hmem _ _ I.order i hrp
                  rw [h1] at this; cases this)))
            · exact hne h1
            · have := (I.marks e).2 (I.inD e (hb e h1)); rw [this] at o1; cases o1
      refine I.step_pend S hip hnD hb fun σ' g' w' a' I' => ?_
      rw [← hset] at I'
      exact ih _ pre rest seen s val hole σ' g' w' a' (by simpa using hsz) hcount I' hh

/-- A statement whose order is open. -/
theorem region_draw (hm : P.follows .mixedOrders = true) (ords : List (Nat × List Nat)) (id : Nat) (ops : Array Oper) : RegionOk P G ords id ops true := by
  intro N call hF l hn σ g w s s' a Q hmr hs hv hd he hq
  unfold normRegion at hn
  split at hn
  · cases hn
  · rename_i as has
    simp only [if_true] at hn
    split at hn
    · rename_i hcond
      simp only [Bool.and_eq_true, beq_iff_eq] at hcond
      obtain ⟨⟨⟨hp, hg⟩, hlen⟩, hord⟩ := hcond
      have S : Stat P G ops as := ⟨has, hp, hg⟩
      let ord := (ords.lookup id).getD (List.range as.length)
      have hord : orderOk as (Region.before ops).toList ord 0 = true := hord
      have hn : weave ops.toList as (Region.before ops).toList ord [] = some l := hn
      -- the order has all
      have hcov : ∀ i, i < as.length → i ∈ ord := by
        intro i hi
        have := List.all_eq_true.1 hlen i (List.mem_range.2 hi)
        simpa using this
      refine wp_region_any hm ?_
      have hmr' : MR G N σ g { w with drawn := w.drawn + 1 } := hmr.drew
      have hgo : Go N σ g w σ g { w with drawn := w.drawn + 1 } := ⟨.refl _ _, Nat.le_refl _, rfl, rfl, rfl, fun _ _ _ => rfl, fun _ h => .inl h⟩
      have hnl : ∀ i, ¬ (Array.replicate ops.size false).getD i false = true := by
        intro i
        rw [Array.getD_eq_getD_getElem?, Array.getElem?_replicate]
        split <;> simp
      have I0 : Inv call P G N ops as s σ g w (fun i => (Array.replicate ops.size false).getD i false = true) [] ord 0 s s' (fun _ => undef) (fun _ => none) σ g { w with drawn := w.drawn + 1 } a := by
        refine ⟨by rw [hv.length]; simp, rfl, hd, hmr', hs, hgo, .refl _ _, fun i => .inl (by rw [grow_same hs]), fun i hi => by simp at hi, fun i hi => absurd hi (hnl i), fun i j hi => absurd hi (hnl i), fun i hi => .inr (hcov i hi), fun i hi => by simp at hi,
          fun i => by simp, fun i hi => by simp at hi, hord, ⟨l, hn, he⟩, fun i hi => by simp at hi, fun t ht => ⟨fun k hk => absurd hk (hnl k), fun _ => ?_⟩, fun t => ⟨fun k hk => by simp at hk, fun _ => rfl⟩, fun i hi => by simp at hi⟩
        have := hv.getD t
        rw [show a.tmps.getD t undef = a.tmps.toList.getD t undef from by simp [Array.getD_eq_getD_getElem?, List.getD_eq_getElem?_getD]]
        exact this
      obtain ⟨pre2, rest2, seen2, s2, val2, hole2, I2, hh2⟩ := Inv.advance S _ _ _ _ _ _ I0
      exact any_order S hF hord hcov hq ops.size _ pre2 rest2 seen2 s2 val2 hole2 σ g _ a (by simp) (by
        refine Nat.le_trans (List.length_filter_le _ _) ?_
        rw [List.length_range, S.len]; exact Nat.le_refl _) I2 hh2
    · cases hn
end Go.Proofs.YtjjlbfamfioofaaDoor.AM
