/-
  The machine, the functions, what they come to: part 8.
  Conditions: as each says.
-/
import Derived.Test.YtljdbheclfaloaaGreatDoorKb7
import Derived.WideShapes
import Derived.LaidMore
import Derived.LaidLaws
import Derived.HandedShaped
import Derived.Shelf.Vars
namespace Go.Proofs.YtljdbheclfaloaaGreatDoor.AM
open Go.RowKit
set_option linter.unusedSimpArgs false
set_option linter.unusedVariables false
set_option maxRecDepth 20000

theorem bh (w k : Bys) (b : Bool) (v : Vv) : ∀ env : En, fr w (setE k b v env) = if w == k then some (b, v) else fr w env
  | [] => by simp only [setE, fr]
  | (c, d, x) :: r => by
    rw [setE]
    by_cases h : k = c
    · subst h
      rw [if_pos (by simp), fr, fr]
      cases w == k <;> rfl
    · rw [if_neg (by simpa using h), fr, fr, bh w k b v r]
      by_cases h2 : w = c
      · subst h2
        have e1 : (w == w) = true := by simp
        have e2 : (w == k) = false := by simpa using fun e => h e.symm
        rw [e1, e2]; rfl
      · have e1 : (w == c) = false := by simpa using h2
        rw [e1]; cases w == k <;> rfl
def chg (o : Option (Bool × Vv)) (st : Bool) (v : Vv) : Bool := match o with
  | none => true
  | some (b, x) => !(b == st && zqs x v)
def zn1 (u : U) (p : En × Bool) (g : Gv) : En × Bool := (setE g.name g.e.set (evE u p.1 g.e) p.1, p.2 || chg (fr g.name p.1) g.e.set (evE u p.1 g.e))
def zdf (u : U) (gs : List Gv) (env : En) : En × Bool := gs.foldl (zn1 u) (env, false)
def recN (u : U) (gs : List Gv) : Nat → En → En
  | 0, env => env
  | n + 1, env => if (zdf u gs env).2 then recN u gs n (zdf u gs env).1 else (zdf u gs env).1
def Ends (u : U) (gs : List Gv) : Nat → En → Prop
  | 0, _ => False
  | n + 1, env => (zdf u gs env).2 = false ∨ ((zdf u gs env).2 = true ∧ Ends u gs n (zdf u gs env).1)
def zff (gs : List Gv) (env : En) : En := gs.foldl (fun en g => setE g.name false v0 en) env
def ybj (u : U) (gs : List Gv) (env : En) : En := gs.foldl (fun en g => setE g.name g.e.set (evE u env g.e) en) env
def recK (gs : List Gv) : Nat := gs.length * 1024 + 1
def doE (u : U) (env : En) : Stm → En
  | .lets false gs => ybj u gs env
  | .lets true gs => recN u gs (recK gs) (zff gs env)
  | .chk _ _ _ => env
def ya6 (u : U) (env : En) (k : Ck) (x : Ex) : Bool := match k with
  | .acyclic => zt7 (evE u env x).r
  | .irr => zs5 (evE u env x).r
  | .empty => (evE u env x).s == 0#32 && zur (evE u env x).r
def zwy (u : U) (env : En) : Stm → Bool
  | .lets _ _ => true
  | .chk k x _ => ya6 u env k x
def zvs : Stm → Bys
  | .lets _ _ => []
  | .chk _ _ a => a
def envM (u : U) (env : En) (l : List Stm) : En := l.foldl (doE u) env
def zgv (u : U) : En → List Stm → Option Bys
  | _, [] => none
  | env, s :: l => if zwy u env s then zgv u (doE u env s) l else some (zvs s)

/-! Relations within relations. -/
def leR (a b : Nat → U) : Prop := ∀ i j, i < 32 → j < 32 → Bt a i j → Bt b i j
theorem leR.refl (a : Nat → U) : leR a a := fun _ _ _ _ h => h
theorem leR.trans {a b c : Nat → U} (h : leR a b) (k : leR b c) : leR a c := fun i j hi hj x => k i j hi hj (h i j hi hj x)
theorem yay (a : Nat → U) : leR (fun _ => 0#32) a := fun i j _ _ h => by unfold Bt at h; simp at h
theorem zd2 {a b a' b' : Nat → U} (h : leR a a') (k : leR b b') : leR (zbe [a, b]) (zbe [a', b']) := fun i j hi hj x => by
  rw [zzy] at x ⊢
  obtain ⟨r, hr, hx⟩ := x
  simp only [List.mem_cons, List.not_mem_nil, or_false] at hr
  rcases hr with rfl | rfl
  · exact ⟨a', by simp, h i j hi hj hx⟩
  · exact ⟨b', by simp, k i j hi hj hx⟩
theorem zuh {a b a' b' : Nat → U} (h : leR a a') (k : leR b b') : leR (zhg [a, b]) (zhg [a', b']) := fun i j hi hj x => by
  rw [yc2 _ hi hj] at x ⊢
  intro r hr
  simp only [List.mem_cons, List.not_mem_nil, or_false] at hr
  rcases hr with rfl | rfl
  · exact h i j hi hj (x a (by simp))
  · exact k i j hi hj (x b (by simp))
theorem zqw {a b a' b' : Nat → U} (h : leR a a') (k : leR b' b) : leR (zmu a b) (zmu a' b') := fun i j hi hj x => by
  rw [zwr _ _ _ hj] at x ⊢
  exact ⟨h i j hi hj x.1, fun y => x.2 (k i j hi hj y)⟩
theorem zxz {a b a' b' : Nat → U} (h : leR a a') (k : leR b b') : leR (seqK [a, b]) (seqK [a', b']) := fun i j hi hj x => by
  rw [ya3 _ _ hi] at x ⊢
  obtain ⟨e, he, x1, x2⟩ := x
  exact ⟨e, he, h i e hi he x1, k e j he hj x2⟩
theorem zkk {a a' : Nat → U} (h : leR a a') : leR (zgs a) (zgs a') := fun i j hi hj x =>
  zvf a (fun i j => i < 32 → j < 32 → Bt (zgs a') i j) (fun i j x hi hj => yep a' (h i j hi hj x)) (fun i m j hm x y hi hj => zwa a' hm (x hi hm) (y hm hj)) x hi hj
theorem zyd {a a' : Nat → U} (h : leR a a') : leR (invR a) (invR a') := fun i j hi hj x => by
  rw [yef _ _ hj] at x ⊢
  exact h j i hj hi x

/-! What an expression stands for grows with its names. -/
def NoR (rc : List Bys) : Bool → Ex → Prop
  | rt, .name _ _ w => rt = true → w ∉ rc
  | _, .zero _ => True
  | rt, .par _ _ e => NoR rc rt e
  | rt, .box _ e => NoR rc rt e
  | rt, .un _ e => NoR rc rt e
  | rt, .bin _ o l r => NoR rc rt l ∧ NoR rc (rt || o == .minus) r
def LeE (rc : List Bys) (env env' : En) : Prop := ∀ w, (fr w env = none ∧ fr w env' = none) ∨ ∃ b v v', fr w env = some (b, v) ∧ fr w env' = some (b, v') ∧ v.s = v'.s ∧ leR v.r v'.r ∧ (w ∉ rc → leR v'.r v.r)
theorem LeE.refl (rc : List Bys) (env : En) : LeE rc env env := fun w => by
  cases h : fr w env with
  | none => exact .inl ⟨rfl, rfl⟩
  | some p => exact .inr ⟨p.1, p.2, p.2, rfl, rfl, rfl, leR.refl _, fun _ => leR.refl _⟩
theorem LeE.trans {rc : List Bys} {a b c : En} (h : LeE rc a b) (k : LeE rc b c) : LeE rc a c := fun w => by
  rcases h w with ⟨h1, h2⟩ | ⟨x, v, v', h1, h2, h3, h4, h5⟩
  · rcases k w with ⟨k1, k2⟩ | ⟨y, u, u', k1, k2, k3, k4, k5⟩
    · exact .inl ⟨h1, k2⟩
    · rw [h2] at k1; cases k1
  · rcases k w with ⟨k1, k2⟩ | ⟨y, u, u', k1, k2, k3, k4, k5⟩
    · rw [h2] at k1; cases k1
    · rw [h2] at k1; cases k1
      exact .inr ⟨x, v, u', h1, k2, h3.trans k3, h4.trans k4, fun hw => (k5 hw).trans (h5 hw)⟩
theorem zgl (u : U) {rc : List Bys} {env env' : En} (L : LeE rc env env') : ∀ (e : Ex) (rt : Bool), NoR rc rt e → (evE u env e).s = (evE u env' e).s ∧ leR (evE u env e).r (evE u env' e).r ∧ (rt = true → leR (evE u env' e).r (evE u env e).r)
  | .name s a w, rt, n => by
    rcases L w with ⟨h1, h2⟩ | ⟨x, v, v', h1, h2, h3, h4, h5⟩
    · simp only [evE, h1, h2]; exact ⟨trivial, leR.refl _, fun _ => leR.refl _⟩
    · simp only [evE, h1, h2, Option.map_some, Option.getD_some]; exact ⟨h3, h4, fun h => h5 (n h)⟩
  | .zero a, rt, n => ⟨rfl, leR.refl _, fun _ => leR.refl _⟩
  | .par s a e, rt, n => zgl u L e rt n
  | .box a e, rt, n => by
    obtain ⟨h1, h2, h3⟩ := zgl u L e rt n
    simp only [evE, h1]; exact ⟨trivial, leR.refl _, fun _ => leR.refl _⟩
  | .un o e, rt, n => by
    obtain ⟨h1, h2, h3⟩ := zgl u L e rt n
    cases o <;> simp only [evE, evU]
    · exact ⟨trivial, zkk h2, fun h => zkk (h3 h)⟩
    · exact ⟨trivial, zd2 (zkk h2) (leR.refl _), fun h => zd2 (zkk (h3 h)) (leR.refl _)⟩
    · exact ⟨trivial, zd2 h2 (leR.refl _), fun h => zd2 (h3 h) (leR.refl _)⟩
    · exact ⟨trivial, zyd h2, fun h => zyd (h3 h)⟩
  | .bin s o l r, rt, n => by
    obtain ⟨h1, h2, h3⟩ := zgl u L l rt n.1
    obtain ⟨k1, k2, k3⟩ := zgl u L r _ n.2
    cases o <;> simp only [evE, evB, h1, k1]
    · exact ⟨trivial, zd2 h2 k2, fun h => zd2 (h3 h) (k3 (by simp [h]))⟩
    · exact ⟨trivial, zuh h2 k2, fun h => zuh (h3 h) (k3 (by simp [h]))⟩
    · exact ⟨trivial, zqw h2 (k3 (by simp)), fun h => zqw (h3 h) k2⟩
    · exact ⟨trivial, zxz h2 k2, fun h => zxz (h3 h) (k3 (by simp [h]))⟩
    · exact ⟨trivial, leR.refl _, fun _ => leR.refl _⟩

/-! Kinds as they were looked at. -/
def KdOk (kn : Kn) (env : En) : Prop := ∀ w, (fr w env).map (·.1) = jg kn w
theorem zss {kn : Kn} {env : En} (k : KdOk kn env) : ∀ {e : Ex}, Typ kn e → kdE env e = e.set
  | .name s a w, t => by
    have := k w
    rw [kdE]
    rw [show jg kn w = some s from t] at this
    rw [this]; rfl
  | .zero a, t => rfl
  | .par s a e, t => by rw [kdE, zss k t.2]; exact t.1.symm
  | .box a e, t => rfl
  | .un o e, t => rfl
  | .bin s o l r, t => rfl
def S0 (env : En) : Prop := ∀ w v, fr w env = some (false, v) → v.s = 0#32
theorem zpq {u : U} {kn : Kn} {env : En} (k : KdOk kn env) (z : S0 env) : ∀ {e : Ex}, Typ kn e → e.set = false → (evE u env e).s = 0#32
  | .name s a w, t, h => by
    have kw := k w
    rw [show jg kn w = some s from t] at kw
    rw [evE]
    cases hl : fr w env with
    | none => rfl
    | some p =>
      obtain ⟨b, v⟩ := p
      rw [hl] at kw
      have : b = s := by simpa using kw
      have hs : s = false := h
      subst this hs
      exact z w v hl
  | .zero a, t, h => rfl
  | .par s a e, t, h => by rw [evE]; exact zpq k z t.2 (t.1.symm.trans h)
  | .box a e, t, h => rfl
  | .un o e, t, h => by cases o <;> rfl
  | .bin s o l r, t, h => by
    have hs : s = false := h
    obtain ⟨tl, tr, t⟩ := t
    cases o
    case seq => rfl
    case cross => rfl
    all_goals
      simp only at t
      have hl := zpq (u := u) k z tl (t.1.symm.trans hs)
      have hr := zpq (u := u) k z tr (t.2.trans (t.1.symm.trans hs))
      simp only [evE, evB, hl, hr]
      rfl
theorem zgj {kn : Kn} {rc : List Bys} : ∀ {e e' : Ex} {rt : Bool}, chkE kn rc rt e = .ok e' → NoR rc rt e'
  | .name s a w, e', rt, h => by
    rw [chkE] at h
    split at h
    · cases h
    · split at h
      · cases h
      · rename_i hc
        cases h
        intro hrt hw
        exact hc (by simp [hrt, hw])
  | .zero a, e', rt, h => by rw [chkE] at h; cases h; trivial
  | .par s a e, e', rt, h => by
    rw [chkE] at h
    split at h
    · cases h
    · rename_i x hx
      cases h; exact zgj (e' := x) hx
  | .box a e, e', rt, h => by
    rw [chkE] at h
    split at h
    · cases h
    · rename_i x hx
      split at h
      · cases h; exact zgj (e' := x) hx
      · cases h
  | .un o e, e', rt, h => by
    rw [chkE] at h
    split at h
    · cases h
    · rename_i x hx
      split at h
      · cases h
      · cases h; exact zgj (e' := x) hx
  | .bin s o l r, e', rt, h => by
    rw [chkE] at h
    cases hl : chkE kn rc rt l with
    | bad c a => rw [hl] at h; cases h
    | ok l' =>
      rw [hl] at h
      simp only at h
      cases hr : chkE kn rc (rt || o == .minus) r with
      | bad c a => rw [hr] at h; cases h
      | ok r' =>
        rw [hr] at h
        have tl := zgj hl
        have tr := zgj hr
        cases o <;> simp only at h <;> split at h <;> first | cases h; done | skip
        all_goals first | (cases h; exact ⟨tl, tr⟩) | (split at h <;> first | (cases h; done) | (cases h; exact ⟨tl, tr⟩))
end Go.Proofs.YtljdbheclfaloaaGreatDoor.AM
namespace Go.Proofs.YtljdbheclfaloaaGreatDoor.AM
open Go.RowKit
set_option linter.unusedSimpArgs false
set_option linter.unusedVariables false
set_option maxRecDepth 20000

structure KC (km : Nat) (h h' : Heap) : Prop where
  keep : ∀ (b : Nat) (l : List Value) (n : Nat) (ro : Bool), h[b]? = some (AObj.cells l n ro) → h'[b]? = some (AObj.cells l n ro)
  oth : ∀ (b : Nat) (o : AObj), h[b]? = some o → b ≠ km → h'[b]? = some o
  le : h.length ≤ h'.length
theorem KC.refl {km : Nat} (h : Heap) : KC km h h := ⟨fun _ _ _ _ e => e, fun _ _ e _ => e, Nat.le_refl _⟩
theorem KC.trans {km : Nat} {a b c : Heap} (h : KC km a b) (k : KC km b c) : KC km a c := ⟨fun i l n ro e => k.keep i l n ro (h.keep i l n ro e), fun i o e n => k.oth i o (h.oth i o e n) n, Nat.le_trans h.le k.le⟩
theorem KC.more {km : Nat} (h L : Heap) : KC km h (h ++ L) := ⟨fun _ _ _ _ e => y8 L e, fun _ _ e _ => y8 L e, by simp⟩
theorem KC.map {h : Heap} {km : Nat} {es : List (Value × Value)} (e : h[km]? = some (.map es)) (es' : List (Value × Value)) : KC km h (h.set km (.map es')) := ⟨fun b l n ro hb => by
  rw [List.getElem?_set_ne (by rintro rfl; rw [e] at hb; cases hb)]; exact hb, fun b o hb n => by rw [List.getElem?_set_ne (Ne.symm n)]; exact hb, by simp⟩
theorem KC.fin {km : Nat} {h H : Heap} (k : KC km h H) (v : Value) : KC km h (AM.finish h v H) := by
  rcases zaj h H v with hf | ⟨hf, hk⟩
  · rw [hf]; exact k
  · rw [hf]; exact KC.refl h
theorem zw6 {h H : Heap} {b : Nat} {o : AObj} (v : Value) (hb : b < h.length) (e : H[b]? = some o) : (AM.finish h v H)[b]? = some o := by
  rcases zaj h H v with hf | ⟨hf, hk⟩
  · rw [hf]; exact e
  · rw [hf, ← hk, List.getElem?_take, if_pos hb]; exact e
theorem zch {h : Heap} {b : Nat} {o : AObj} (e : h[b]? = some o) : b < h.length := (List.getElem?_eq_some_iff.1 e).1
theorem Wd.fin {h H : Heap} {q km : Nat} {u : U} {env env0 : En} (W0 : Wd h q km u env0) (W : Wd H q km u env) (v : Value) : Wd (AM.finish h v H) q km u env :=
  ⟨zw6 v (zch W0.hq) W.hq, zw6 v (zch W0.hk) W.hk⟩
theorem Wd.ne {h : Heap} {q km : Nat} {u : U} {env : En} (W : Wd h q km u env) : q ≠ km := by
  rintro rfl; have := W.hq.symm.trans W.hk; simp at this
theorem Wd.set {h : Heap} {q km : Nat} {u : U} {env : En} (W : Wd h q km u env) (env' : En) : Wd (h.set km (.map (enE env'))) q km u env' :=
  ⟨by rw [List.getElem?_set_ne (Ne.symm W.ne)]; exact W.hq, by rw [List.getElem?_set_self (zch W.hk)]⟩
theorem ye0 {km : Nat} {h h' : Heap} (k : KC km h h') {p : Addr} {n : Nat} {l : List Value} (e : h.read p n = some l) : h'.read p n = some l := by
  unfold Heap.read at e ⊢
  cases hb : h[p.block]? with
  | none => rw [hb] at e; cases e
  | some o =>
    cases o with
    | cells c m ro => rw [k.keep _ _ _ _ hb]; rw [hb] at e; exact e
    | map es => rw [hb] at e; cases e
    | gone => rw [hb] at e; cases e
theorem Sl.kc {km : Nat} {h h' : Heap} {s : Value} {c : Nat} {rows : List (List Value)} (e : Sl h s c rows) (k : KC km h h') : Sl h' s c rows := by
  obtain ⟨hs | ⟨b, o, v, hs, hr⟩, hc⟩ := e
  · exact ⟨.inl hs, hc⟩
  · exact ⟨.inr ⟨b, o, v, hs, ye0 k hr⟩, hc⟩
theorem TreeP.kc {km : Nat} {h h' : Heap} (k : KC km h h') : ∀ {S : Nat → Prop} {v : Value} {e : Ex}, TreeP h S v e → TreeP h' S v e
  | S, v, .name s a w, t => by obtain ⟨b, hv, hb, ho⟩ := t; exact ⟨b, hv, hb, k.keep _ _ _ _ ho⟩
  | S, v, .zero a, t => by obtain ⟨b, hv, hb, ho⟩ := t; exact ⟨b, hv, hb, k.keep _ _ _ _ ho⟩
  | S, v, .par s a e, t => by obtain ⟨b, S', x, hv, hb, ho, t', hs⟩ := t; exact ⟨b, S', x, hv, hb, k.keep _ _ _ _ ho, t'.kc k, hs⟩
  | S, v, .box a e, t => by obtain ⟨b, S', x, hv, hb, ho, t', hs⟩ := t; exact ⟨b, S', x, hv, hb, k.keep _ _ _ _ ho, t'.kc k, hs⟩
  | S, v, .un o' e, t => by obtain ⟨b, S', x, hv, hb, ho, t', hs⟩ := t; exact ⟨b, S', x, hv, hb, k.keep _ _ _ _ ho, t'.kc k, hs⟩
  | S, v, .bin s o' l r, t => by obtain ⟨b, S1, S2, x, y, hv, hb, ho, t1, t2, h1, h2⟩ := t; exact ⟨b, S1, S2, x, y, hv, hb, k.keep _ _ _ _ ho, t1.kc k, t2.kc k, h1, h2⟩
theorem yc8 (h : Heap) (neg : Bool) (n1 n2 : Bys) (s1 s2 : Bool) (v1 v2 : Vv) : zkt h neg (.str :: .bool :: List.replicate 33 .int) (agg (w8 n1 s1 v1)) (agg (w8 n2 s2 v2)) = some (.bool ((n1 == n2 && (s1 == s2 && zqs v1 v2)) != neg), h) := yfw h neg n1 n2 s1 s2 v1 v2
set_option maxHeartbeats 4000000 in
theorem zya {h : Heap} {q km : Nat} {u : U} {env : En} (W : Wd h q km u env) (w nm : Bys) (st : Bool) (v : Vv) :
    ∃ c h', DF FF jr [pt q, str w, agg (w8 nm st v)] h = some (.bool c, h') ∧ Wd h' q km u (setE w st v env) ∧ KC km h h' ∧ ∀ p, fr w env = some p → c = chg (some p) st v := by
  have : ∃ x h', DF FF jr [pt q, str w, agg (w8 nm st v)] h = some (x, h') ∧ ∃ c, x = .bool c ∧ Wd h' q km u (setE w st v env) ∧ KC km h h' ∧ ∀ p, fr w env = some p → c = chg (some p) st v := by
    refine ww zkf ?_
    have rq : ∀ L j, Heap.read1 (h ++ L) ⟨q, j, some 0⟩ = ([.int .u32 (u.toNat : Int), .map (some km)] : List Value)[j]? := fun L j => x5 (W.more L).hq
    have lk : ∀ L, zpd (h ++ L) .str (agg (w8 [] false v0)) false (.map (some km)) (str w) = _ := fun L => zfr _ (W.more L).hk (agg (w8 [] false v0)) false (w := w) (zs6 env w)
    have up : ∀ L, updO (h ++ L) .str (.map (some km)) (str w) (agg (w8 w st v)) = some (undef, (h ++ L).set km (.map (enE (setE w st v env)))) := fun L => zmq _ (W.more L).hk (ydy w st v env)
    have fin : ∀ L x, Wd (AM.finish h x ((h ++ L).set km (.map (enE (setE w st v env))))) q km u (setE w st v env) ∧ KC km h (AM.finish h x ((h ++ L).set km (.map (enE (setE w st v env))))) := fun L x =>
      ⟨W.fin ((W.more L).set _) x, ((KC.more h L).trans (KC.map (W.more L).hk _)).fin x⟩
    cases hl : fr w env with
    | none =>
      simp only [hl, Option.map_none, zg9, Bool.false_eq_true, if_false] at lk
      simp only [zby, ya, xe, zb, yb, zm, zc, zp, zo, zf, ze, zd, List.set_cons_succ, List.set_cons_zero, O_mv, yg, zy, zk, xr, y5, Nat.zero_lt_succ, List.cons_append, List.nil_append, List.length_cons, List.length_nil, Nat.reduceAdd, Nat.reduceSub, Nat.zero_add, zn, yc, za, w9, xb, z7, zl, xc, zq, zj, xl, xf, yi, j4, vk, zh, zg, Nat.add_zero, Option.map_some, List.getElem?_cons_zero, List.getElem?_cons_succ, xy, Bool.bne_true, Bool.false_beq, eq_self, yh, zt, zog, yj, wj, fz, jz, zi3, rq, gc, lk, f5, up, yc8]
      exact ⟨_, rfl, (fin _ _).1, (fin _ _).2, fun p h => by cases h⟩
    | some p =>
      simp only [hl, Option.map_some, zg9, Bool.false_eq_true, if_false] at lk
      simp only [zby, ya, xe, zb, yb, zm, zc, zp, zo, zf, ze, zd, List.set_cons_succ, List.set_cons_zero, O_mv, yg, zy, zk, xr, y5, Nat.zero_lt_succ, List.cons_append, List.nil_append, List.length_cons, List.length_nil, Nat.reduceAdd, Nat.reduceSub, Nat.zero_add, Bool.true_and, zn, yc, za, w9, xb, z7, zl, xc, zq, zj, xl, xf, yi, j4, vk, zh, zg, Nat.add_zero, Option.map_some, List.getElem?_cons_zero, List.getElem?_cons_succ, xy, Bool.bne_true, beq_self_eq_true, eq_self, yh, zt, zog, yj, wj, fz, jz, zi3, rq, gc, lk, f5, up, yc8]
      exact ⟨_, rfl, (fin _ _).1, (fin _ _).2, fun p' h => by cases h; simp [chg]⟩
  obtain ⟨x, h', hq, c, rfl, hw, hk, hc⟩ := this
  exact ⟨c, h', hq, hw, hk, hc⟩
end Go.Proofs.YtljdbheclfaloaaGreatDoor.AM
namespace Go.Proofs.YtljdbheclfaloaaGreatDoor.AM
open Go.RowKit
set_option linter.unusedSimpArgs false
set_option linter.unusedVariables false
set_option maxRecDepth 20000

/-! A statement's words. -/
theorem ygk : (([114, 101, 99] : Bys) == [108, 101, 116]) = false := by decide
theorem ygf : (([97, 99, 121, 99, 108, 105, 99] : Bys) == [108, 101, 116]) = false := by decide
theorem yf1 : (([97, 99, 121, 99, 108, 105, 99] : Bys) == [114, 101, 99]) = false := by decide
theorem ygy : (([105, 114, 114, 101, 102, 108, 101, 120, 105, 118, 101] : Bys) == [108, 101, 116]) = false := by decide
theorem ygr : (([105, 114, 114, 101, 102, 108, 101, 120, 105, 118, 101] : Bys) == [114, 101, 99]) = false := by decide
theorem ygt : (([105, 114, 114, 101, 102, 108, 101, 120, 105, 118, 101] : Bys) == [97, 99, 121, 99, 108, 105, 99]) = false := by decide
theorem yd2 : (([101, 109, 112, 116, 121] : Bys) == [108, 101, 116]) = false := by decide
theorem yc9 : (([101, 109, 112, 116, 121] : Bys) == [114, 101, 99]) = false := by decide
theorem ydm : (([101, 109, 112, 116, 121] : Bys) == [97, 99, 121, 99, 108, 105, 99]) = false := by decide
theorem ydw : (([101, 109, 112, 116, 121] : Bys) == [105, 114, 114, 101, 102, 108, 101, 120, 105, 118, 101]) = false := by decide
theorem zvk {h : Heap} {p : Addr} {w : Bys} (hr : h.read1 p = some (str w)) : zbz h (.pointer (some p)) (str w) = some (undef, h) := b6 hr rfl
theorem zt8 (h : Heap) (nm : Bys) (st : Bool) (v : Vv) : zue h 32 3 (agg (w8 nm st v)) = some (agg (relV v.r), h) := by
  rw [zyo h (by rw [jz]; decide), zy9]
theorem zy1 (n : Bys) (b : Bool) (v : Vv) : wz (w8 [] false v0) [(0, 35, agg (w8 n b v))] = some (w8 n b v) := by
  have := zly (jz [] false v0) (jz n b v)
  simpa [bz] using this
set_option maxHeartbeats 8000000 in
theorem ycm {h : Heap} {q km : Nat} {u : U} {env : En} {S : Nat → Prop} {v : Value} {x : Ex} (W : Wd h q km u env) (t : TreeP h S v x) (k : Ck) (as_ : Bys) :
    DF FF qb [pt q, agg [str (ckS k), nils, v, str as_]] h = some (.bool (ya6 u env k x), h) := by
  refine wg zb1 ?_
  obtain ⟨b, _, _, _, _, rfl, _, _⟩ := t.root
  have q1 := fun L => zf8 u env x (h ++ L) q km S (pt b) (W.more L) (t.keep fun _ _ _ ho => y8 L ho)
  cases k
  · simp only [kq, ya, zs, xe, zb, zx, zu, yb, zm, zc, zo, zf, ze, zd, List.set_cons_succ, List.set_cons_zero, O_mv, yx, yg, ye, List.map_cons, List.map_nil, zy, zk, List.cons_append, List.nil_append, List.length_cons, List.length_nil, Nat.reduceAdd, Nat.reduceSub, Nat.zero_add, zn, yc, zz, za, y6, wd, w9, xb, z7, zzq, yr, yo, zh, zg, Nat.add_zero, List.getElem?_cons_zero, List.getElem?_cons_succ, beq_self_eq_true, eq_self, yh, zt, yj, va, fz, ckS, zab, ygf, yf1, yh, q1, zt8, zox]
    rw [zfi _ _ _ _ _ rfl]
    rfl
  · simp only [kq, ya, zs, xe, zb, zx, zu, yb, zm, zc, zo, zf, ze, zd, List.set_cons_succ, List.set_cons_zero, O_mv, yx, yg, ye, List.map_cons, List.map_nil, zy, zk, List.cons_append, List.nil_append, List.length_cons, List.length_nil, Nat.reduceAdd, Nat.reduceSub, Nat.zero_add, zn, yc, zz, za, y6, wd, w9, xb, z7, zzq, yr, yo, zh, zg, Nat.add_zero, List.getElem?_cons_zero, List.getElem?_cons_succ, beq_self_eq_true, eq_self, yh, zt, yj, va, fz, ckS, wIrr, ygy, ygr, ygt, yh, q1, zt8, zec]
    rw [zfi _ _ _ _ _ rfl]
    rfl
  · cases hs : (evE u env x).s == 0#32
    · simp only [kq, ya, zs, xe, zb, zx, zu, yb, zm, yf, zc, zp, vd, zo, zf, ze, zd, List.set_cons_succ, List.set_cons_zero, O_mv, y0, xg, yx, yg, ye, List.map_cons, List.map_nil, zy, zk, ko, List.cons_append, List.nil_append, List.length_cons, List.length_nil, Nat.reduceAdd, Nat.reduceSub, Nat.zero_add, zn, yc, zz, za, y6, wd, yq, w9, xb, z7, zl, yu, z6, fp, yr, bn, yo, yi, vc, vj, vo, zr, zh, zg, List.append_assoc, List.length_append, Nat.add_zero, List.getElem?_cons_zero, List.getElem?_cons_succ, beq_self_eq_true, eq_self, yh, zt, yj, va, fz, jz, bd_2, ckS, zd9, yd2, yc9, ydm, ydw, yh, q1, yfu, hs]
      rw [zfi _ _ _ _ _ rfl]
      simp only [ya6, hs]
      rfl
    · simp only [kq, ya, zs, xe, zb, zx, zu, yb, zm, yf, zc, zp, xq, zo, zf, ze, zd, List.set_cons_succ, List.set_cons_zero, O_mv, y0, xg, yx, yg, ye, List.map_cons, List.map_nil, zy, zk, xr, y5, ko, List.cons_append, List.nil_append, List.length_cons, List.length_nil, Nat.reduceAdd, Nat.reduceSub, Nat.zero_add, zn, yc, zz, za, y6, wd, yq, w9, xb, z7, zl, yu, z6, fp, yr, bn, yo, qq, qx, yi, vc, vj, vo, zr, zh, zg, List.append_assoc, List.length_append, Nat.add_zero, Option.map_some, List.getElem?_cons_zero, List.getElem?_cons_succ, beq_self_eq_true, eq_self, yh, zt, yj, va, fz, jz, bd_2, ye4, ckS, zd9, yd2, yc9, ydm, ydw, yh, q1, zk2, yfu, hs]
      rw [zfi _ _ _ _ _ rfl]
      simp only [ya6, hs]
      rfl
end Go.Proofs.YtljdbheclfaloaaGreatDoor.AM
namespace Go.Proofs.YtljdbheclfaloaaGreatDoor.AM
open Go.RowKit
set_option linter.unusedSimpArgs false
set_option linter.unusedVariables false
set_option maxRecDepth 20000

def vrow (u : U) (env : En) (g : Gv) : List Value := w8 (nmE env g.e) (kdE env g.e) (evE u env g.e)
structure VlS (h0 : Heap) (q km : Nat) (u : U) (env : En) (gs : List Gv) (k : Nat) (sv : Value) (K : Heap) : Prop where
  w : Wd K q km u env
  kc : KC km h0 K
  own : Own [] K sv 35 ((gs.take k).map (vrow u env))
  b : ∀ b, blk sv = some b → h0.length ≤ b
theorem zz2 {km : Nat} {h K : Heap} {s : Value} {S : Nat → Prop} {gs : List Gv} {vs : List Value} (hs : Sl h s 3 (List.zipWith v7 gs vs)) (G : GsP h S vs gs) (kc : KC km h K) {k : Nat} {g : Gv} (hg : gs[k]? = some g) :
    ∃ b S' b' o v, (∀ H', rowO H' 3 s (.int .i64 (k : Int)) = some (.pointer (some ⟨b', o, some v⟩), H')) ∧ Heap.read K ⟨b', o, some v⟩ 3 = some (v7 g (pt b)) ∧ TreeP K S' (pt b) g.e := by
  obtain ⟨x, S', hx, t, _⟩ := G.get k g hg
  obtain ⟨b, _, _, _, _, rfl, _, _⟩ := t.root
  have hk := (List.getElem?_eq_some_iff.1 hg).1
  obtain ⟨b', o, v, a1, a2⟩ := (hs.kc kc).atH (k := k) (by rw [zey G.len]; exact hk)
  refine ⟨b, S', b', o, v, a1, ?_, t.kc kc⟩
  rw [a2]
  have := zww G.len hg hx
  rw [List.getElem?_eq_getElem (by rw [zey G.len]; exact hk)] at this
  exact this
theorem zua {α β : Type} {l : List α} {k : Nat} {x : α} (h : l[k]? = some x) (f : α → β) : (l.take (k + 1)).map f = (l.take k).map f ++ [f x] := by
  rw [List.take_add_one, h]; simp
theorem zap {α β : Type} {l : List α} {k : Nat} {x : α} (h : l[k]? = some x) (f : β → α → β) (a : β) : (l.take (k + 1)).foldl f a = f ((l.take k).foldl f a) x := by
  rw [List.take_add_one, h, List.foldl_append]; rfl
theorem ye2 {h0 K : Heap} {q km : Nat} {u : U} {env : En} {gs : List Gv} {k : Nat} {sv : Value} (W0 : Wd h0 q km u env) (e : VlS h0 q km u env gs k sv K) {g : Gv} (hg : gs[k]? = some g) (hl : gs.length ≤ 8192) {b : Nat} {S' : Nat → Prop} (t : TreeP K S' (pt b) g.e) :
    DF FF vr [pt q, pt b] (K ++ [.cells (v7 g (pt b)) 0 false]) = some (agg (w8 (nmE env g.e) (kdE env g.e) (evE u env g.e)), K ++ [.cells (v7 g (pt b)) 0 false]) ∧
    ∃ s' K2, j2 (K ++ [.cells (v7 g (pt b)) 0 false, .cells (w8 (nmE env g.e) (kdE env g.e) (evE u env g.e)) 0 false]) 35 152 sv (zck (K ++ [.cells (v7 g (pt b)) 0 false, .cells (w8 (nmE env g.e) (kdE env g.e) (evE u env g.e)) 0 false]) 35 (.slice (some ⟨K.length + 1, 0, some 0⟩) 1 35)) = some (s', K2) ∧
      VlS h0 q km u env gs (k + 1) s' K2 := by
  refine ⟨zf8 u env g.e _ q km S' (pt b) (e.w.more _) (t.keep fun _ _ _ ho => y8 _ ho), ?_⟩
  have hk := (List.getElem?_eq_some_iff.1 hg).1
  have hlen : ((gs.take k).map (vrow u env)).length = k := by simp; omega
  obtain ⟨s', K2, p1, p2, _, p4, p5, p6⟩ := (e.own.more [.cells (v7 g (pt b)) 0 false]).push (⟨_, rfl⟩ : Pre [] (K ++ [.cells (v7 g (pt b)) 0 false])) (row := vrow u env g) (bytes := 152) (jz _ _ _) (by rw [hlen]; unfold j3; omega)
  have p1' := p1
  rw [List.append_assoc, List.length_append] at p1'
  have nb : ∀ z o, h0[z]? = some o → blk sv ≠ some z := fun z o ho hz => by have := e.b z hz; have := zch ho; omega
  refine ⟨s', K2, p1', ⟨p5 _ _ (y8 _ e.w.hq) (nb _ _ W0.hq), p5 _ _ (y8 _ e.w.hk) (nb _ _ W0.hk)⟩, ⟨fun z l n ro ho => p5 _ _ (y8 _ (e.kc.keep _ _ _ _ ho)) (nb _ _ ho), fun z o ho n => p5 _ _ (y8 _ (e.kc.oth _ _ ho n)) (nb _ _ ho), by have := e.kc.le; simp at p4; omega⟩, by rw [zua hg]; exact p2, fun z hz => ?_⟩
  rcases p6 with h | ⟨j, h, h'⟩
  · rw [h] at hz; exact e.b z hz
  · rw [h] at hz; cases hz; have := e.kc.le; simp at h'; omega
def VlI (h h0 : Heap) (q km : Nat) (u : U) (env : En) (gs : List Gv) (s : Value) (k : Nat) (st : St) : Prop := ∃ K sv, (∃ j : Nat → Value, st = ⟨[pt q, j 1, j 2, pt h.length, j 4, sv, j 6, j 7, j 8, j 9, j 10, j 11, j 12, j 13, j 14, j 15, j 16, j 17, j 18, j 19, j 20, s, .int .i64 (gs.length : Int), .int .i64 (k : Int), j 24, j 25, j 26, j 27, j 28, j 29, j 30, j 31, j 32, j 33, j 34, j 35, j 36, j 37, j 38, j 39, j 40, j 41, j 42, j 43, j 44, j 45, j 46, j 47, j 48, j 49, j 50, j 51, j 52, j 53, j 54, j 55, j 56, j 57, j 58, j 59, j 60, j 61, j 62, j 63, j 64, j 65, j 66, j 67, j 68, j 69, j 70, j 71, j 72, j 73, j 74, j 75, j 76, j 77, j 78, j 79, j 80, j 81, j 82, j 83, j 84, j 85, j 86, j 87, j 88, j 89, j 90, j 91, j 92, j 93, j 94, j 95, j 96, j 97, j 98, j 99, j 100, j 101, j 102, j 103, j 104, j 105, j 106, j 107, j 108, j 109, j 110, j 111, j 112, j 113, j 114, j 115, j 116], K⟩) ∧ VlS h0 q km u env gs k sv K
def VlO (h h0 : Heap) (q km : Nat) (u : U) (env : En) (gs : List Gv) (st : St) : Prop := ∃ K sv, (∃ j : Nat → Value, st = ⟨[pt q, j 1, j 2, pt h.length, j 4, sv, j 6, j 7, j 8, j 9, j 10, j 11, j 12, j 13, j 14, j 15, j 16, j 17, j 18, j 19, j 20, j 21, j 22, j 23, j 24, j 25, j 26, j 27, j 28, j 29, j 30, j 31, j 32, j 33, j 34, j 35, j 36, j 37, j 38, j 39, j 40, j 41, j 42, j 43, j 44, j 45, j 46, j 47, j 48, j 49, j 50, j 51, j 52, j 53, j 54, j 55, j 56, j 57, j 58, j 59, j 60, j 61, j 62, j 63, j 64, j 65, j 66, j 67, j 68, j 69, j 70, j 71, j 72, j 73, j 74, j 75, j 76, j 77, j 78, j 79, j 80, j 81, j 82, j 83, j 84, j 85, j 86, j 87, j 88, j 89, j 90, j 91, j 92, j 93, j 94, j 95, j 96, j 97, j 98, j 99, j 100, j 101, j 102, j 103, j 104, j 105, j 106, j 107, j 108, j 109, j 110, j 111, j 112, j 113, j 114, j 115, j 116], K⟩) ∧ VlS h0 q km u env gs gs.length sv K
structure GvS (h0 : Heap) (q km : Nat) (u : U) (env env' : En) (gs : List Gv) (sv : Value) (K : Heap) : Prop where
  w : Wd K q km u env'
  kc : KC km h0 K
  sl : Sl K sv 35 (gs.map (vrow u env))
def gvE (u : U) (env : En) (gs : List Gv) (k : Nat) : En := (gs.take k).foldl (fun en g => setE g.name g.e.set (evE u env g.e) en) env
theorem ycv {h0 K : Heap} {q km : Nat} {u : U} {env : En} {gs : List Gv} {k : Nat} {sv : Value} (e : GvS h0 q km u env (gvE u env gs k) gs sv K) {g : Gv} (hg : gs[k]? = some g) (hkd : kdE env g.e = g.e.set) (b : Nat) :
    ∃ b' o v c K2, (∀ H', rowO H' 35 sv (.int .i64 (k : Int)) = some (.pointer (some ⟨b', o, some v⟩), H')) ∧ Heap.read (K ++ [.cells (v7 g (pt b)) 0 false]) ⟨b', o, some v⟩ 35 = some (vrow u env g) ∧
      DF FF jr [pt q, str g.name, agg (vrow u env g)] (K ++ [.cells (v7 g (pt b)) 0 false]) = some (.bool c, K2) ∧ GvS h0 q km u env (gvE u env gs (k + 1)) gs sv K2 := by
  have hk := (List.getElem?_eq_some_iff.1 hg).1
  obtain ⟨b', o, v, a1, a2⟩ := (e.sl.kc (KC.more (km := km) K [.cells (v7 g (pt b)) 0 false])).atH (k := k) (by simpa using hk)
  obtain ⟨c, K2, q1, w2, k2, _⟩ := zya (e.w.more [.cells (v7 g (pt b)) 0 false]) g.name (nmE env g.e) (kdE env g.e) (evE u env g.e)
  refine ⟨b', o, v, c, K2, a1, ?_, q1, ⟨?_, (e.kc.trans (KC.more _ _)).trans k2, (e.sl.kc (KC.more (km := km) _ _)).kc k2⟩⟩
  · rw [a2, List.getElem_map, (List.getElem?_eq_some_iff.1 hg).2]
  · rw [gvE, zap hg]; rw [hkd] at w2; exact w2
def GvI (h h0 : Heap) (q km : Nat) (u : U) (env : En) (gs : List Gv) (s : Value) (k : Nat) (st : St) : Prop := ∃ K sv, (∃ j : Nat → Value, st = ⟨[pt q, j 1, j 2, j 3, j 4, sv, j 6, j 7, j 8, j 9, j 10, j 11, j 12, j 13, j 14, j 15, j 16, j 17, j 18, j 19, j 20, j 21, j 22, j 23, j 24, j 25, j 26, j 27, j 28, j 29, j 30, j 31, j 32, j 33, j 34, j 35, s, .int .i64 (gs.length : Int), .int .i64 (k : Int), j 39, j 40, j 41, j 42, j 43, j 44, j 45, j 46, j 47, j 48, j 49, j 50, j 51, j 52, j 53, j 54, j 55, j 56, j 57, j 58, j 59, j 60, j 61, j 62, j 63, j 64, j 65, j 66, j 67, j 68, j 69, j 70, j 71, j 72, j 73, j 74, j 75, j 76, j 77, j 78, j 79, j 80, j 81, j 82, j 83, j 84, j 85, j 86, j 87, j 88, j 89, j 90, j 91, j 92, j 93, j 94, j 95, j 96, j 97, j 98, j 99, j 100, j 101, j 102, j 103, j 104, j 105, j 106, j 107, j 108, j 109, j 110, j 111, j 112, j 113, j 114, j 115, j 116], K⟩) ∧ GvS h0 q km u env (gvE u env gs k) gs sv K
def GvO (h h0 : Heap) (q km : Nat) (u : U) (env : En) (gs : List Gv) (st : St) : Prop := ∃ K, (∃ j : Nat → Value, st = ⟨[j 0, j 1, j 2, j 3, j 4, j 5, j 6, j 7, j 8, j 9, j 10, j 11, j 12, j 13, j 14, j 15, j 16, j 17, j 18, j 19, j 20, j 21, j 22, j 23, j 24, j 25, j 26, j 27, j 28, j 29, j 30, j 31, j 32, j 33, j 34, j 35, j 36, j 37, j 38, j 39, j 40, j 41, j 42, j 43, j 44, j 45, j 46, j 47, j 48, j 49, j 50, j 51, j 52, j 53, j 54, j 55, j 56, j 57, j 58, j 59, j 60, j 61, j 62, j 63, j 64, j 65, j 66, j 67, j 68, j 69, j 70, j 71, j 72, j 73, j 74, j 75, j 76, j 77, j 78, j 79, j 80, j 81, j 82, j 83, j 84, j 85, j 86, j 87, j 88, j 89, j 90, j 91, j 92, j 93, j 94, j 95, j 96, j 97, j 98, j 99, j 100, j 101, j 102, j 103, j 104, j 105, j 106, j 107, j 108, j 109, j 110, j 111, j 112, j 113, j 114, j 115, j 116], K⟩) ∧ Wd K q km u (ybj u gs env) ∧ KC km h0 K
set_option maxHeartbeats 8000000 in
theorem ycc {h : Heap} {q km : Nat} {u : U} {env : En} {kn : Kn} {S : Nat → Prop} {vs : List Value} {s : Value} {gs : List Gv} (W : Wd h q km u env) (hs : Sl h s 3 (List.zipWith v7 gs vs)) (G : GsP h S vs gs) (hl : gs.length ≤ 8192) (kd : KdOk kn env) (ty : ∀ g ∈ gs, Typ kn g.e) :
    ∃ h', DF FF qb [pt q, agg [str wLet, s, nilP, str []]] h = some (.bool true, h') ∧ Wd h' q km u (ybj u gs env) ∧ KC km h h' := by
  have : ∃ v h', DF FF qb [pt q, agg [str wLet, s, nilP, str []]] h = some (v, h') ∧ (v = .bool true ∧ Wd h' q km u (ybj u gs env) ∧ KC km h h') := by
    refine ww zb1 ?_
    have lens : ∀ K, lenO K s = some (.int .i64 (gs.length : Int), K) := fun K => by rw [hs.len, zey G.len]
    obtain ⟨h0, hh0⟩ : ∃ h0, h0 = h ++ [AObj.cells [str [108, 101, 116], s, nilP, str []] 0 false] := ⟨_, rfl⟩
    have k0 : KC km h h0 := by rw [hh0]; exact KC.more _ _
    have W0 : Wd h0 q km u env := by rw [hh0]; exact W.more _
    have g0 : h0[h.length]? = some (.cells [str [108, 101, 116], s, nilP, str []] 0 false) := by rw [hh0]; simp
    have rg : ∀ K, KC km h0 K → ∀ j, Heap.read1 K ⟨h.length, j, some 0⟩ = ([str [108, 101, 116], s, nilP, str []] : List Value)[j]? := fun K kc j => x5 (kc.keep _ _ _ _ g0)
    have rg0 := rg h0 (KC.refl _)
    simp only [kq, ya, zs, zb, zx, yb, zm, zc, zo, zf, ze, zd, List.set_cons_succ, List.set_cons_zero, O_mv, yx, yg, j6, zy, zk, List.cons_append, List.nil_append, List.length_cons, List.length_nil, Nat.reduceAdd, Nat.reduceSub, Nat.zero_add, zn, yc, zz, za, w9, xb, z7, zh, zg, Nat.add_zero, List.getElem?_cons_zero, List.getElem?_cons_succ, beq_self_eq_true, eq_self, yh, zt, yj, va, fz, wLet, yh, ← hh0, rg0, lens]
    refine f9 1 gs.length (VlI h h0 q km u env gs s) (VlO h h0 q km u env gs) ?_ ?_ _ ⟨h0, _, junk rfl, W0, KC.refl _, Own.nil _ _ _, fun b hb => by simp [blk] at hb⟩ ?_
    · rintro k st hk ⟨K, sv, ⟨j, rfl⟩, e⟩
      have hg : gs[k]? = some gs[k] := List.getElem?_eq_getElem hk
      obtain ⟨b, S', b', o, v, a1, a2, t⟩ := zz2 hs G (k0.trans e.kc) hg
      obtain ⟨q1, s', K2, p1, e'⟩ := ye2 W0 e hg hl t
      have h1 : ((k : Int) < (gs.length : Int)) = True := by simp; omega
      simp only [ya, zs, yl, zb, zx, yb, zm, zc, zp, zo, zf, ze, zd, List.set_cons_succ, List.set_cons_zero, O_mv, yx, yg, ye, List.map_cons, List.map_nil, ve, zy, zk, xr, y5, w5, wo, yd, z8, xd, xi, vw, x9, List.cons_append, List.nil_append, List.length_cons, List.length_nil, Nat.reduceAdd, Nat.zero_add, zn, yc, zz, za, zi, slc, jj, yq, xb, z7, zl, yu, z6, yr, yo, yi, zw, zr, List.append_assoc, List.length_append, List.append_nil, Option.map_some, eq_self, yp, decide_true, jz, h1, a1, a2, k7, zeh, q1, zy1, p1, xo (k := k) (by omega)]
      exact ⟨K2, s', junk rfl, e'⟩
    · rintro st ⟨K, sv, ⟨j, rfl⟩, e⟩
      have h1 : ((gs.length : Int) < (gs.length : Int)) = False := by simp
      simp only [ya, zs, w7, zb, zu, yb, zm, zc, zo, ze, zd, List.set_cons_succ, List.set_cons_zero, yx, yg, x9, zn, yc, za, yz, ku, xj, decide_false, h1, ku]
      exact ⟨K, sv, junk rfl, e⟩
    rintro st ⟨K, sv, ⟨j, rfl⟩, e⟩
    have rgK := rg K e.kc
    simp only [ya, zb, yb, zm, zc, zo, zf, ze, zd, List.set_cons_succ, List.set_cons_zero, O_mv, yg, j6, zy, zk, Nat.zero_add, zn, yc, zz, za, yk, xb, z7, List.getElem?_cons_zero, List.getElem?_cons_succ, rgK, lens]
    refine f9 3 gs.length (GvI h h0 q km u env gs s) (GvO h h0 q km u env gs) ?_ ?_ _ ⟨K, sv, junk rfl, e.w, e.kc, by have := e.own.sl; rwa [List.take_length] at this⟩ ?_
    · rintro k st hk ⟨K, sv, ⟨j, rfl⟩, e⟩
      have hg : gs[k]? = some gs[k] := List.getElem?_eq_getElem hk
      obtain ⟨b, S', b', o, v, a1, a2, t⟩ := zz2 hs G (k0.trans e.kc) hg
      obtain ⟨b2, o2, v2, c, K2, r1, r2, q1, e'⟩ := ycv e hg (zss kd (ty _ (List.getElem_mem hk))) b
      have h1 : ((k : Int) < (gs.length : Int)) = True := by simp; omega
      simp only [ya, zs, yl, zb, zx, yb, zm, zc, zp, zo, zf, ze, zd, List.set_cons_succ, List.set_cons_zero, O_mv, yx, yg, ye, List.map_cons, List.map_nil, ve, zy, zk, xr, y5, vw, x9, List.length_cons, List.length_nil, Nat.reduceAdd, Nat.zero_add, zn, yc, zz, za, zi, yq, xb, z7, zl, yu, z6, yr, yo, yi, zw, zr, Nat.add_zero, Option.map_some, eq_self, yp, decide_true, h1, a1, a2, k7, zfu, r1, r2, q1, xo (k := k) (by omega)]
      exact ⟨K2, sv, junk rfl, e'⟩
    · rintro st ⟨K, sv, ⟨j, rfl⟩, e⟩
      have h1 : ((gs.length : Int) < (gs.length : Int)) = False := by simp
      simp only [ya, zs, w7, zb, zu, yb, zm, zc, zo, ze, zd, List.set_cons_succ, List.set_cons_zero, yx, yg, x9, zn, yc, za, yz, ku, xj, decide_false, h1, ku]
      have w := e.w
      rw [gvE, List.take_length] at w
      exact ⟨K, junk rfl, w, e.kc⟩
    rintro st ⟨K, ⟨j, rfl⟩, w, k⟩
    simp only [ya, xe, zb, yb, zm, zc, zf, ze, zd, List.set_cons_succ, List.set_cons_zero, O_mv, zn, yc, za, zi, yk, xy, eq_self]
    exact ⟨trivial, W.fin w _, (k0.trans k).fin _⟩
  obtain ⟨v, h', hq, rfl, hw, hk⟩ := this
  exact ⟨h', hq, hw, hk⟩
end Go.Proofs.YtljdbheclfaloaaGreatDoor.AM
namespace Go.Proofs.YtljdbheclfaloaaGreatDoor.AM
open Go.RowKit
set_option linter.unusedSimpArgs false
set_option linter.unusedVariables false
set_option maxRecDepth 20000

def zmt : Stm → List Bys
  | .lets _ _ => []
  | .chk _ _ a => [a]
def pu (l : List Stm) : List Bys := l.flatMap zmt
def zbf (l : List Stm) : Kn := l.flatMap Stm.given
theorem yda {h : Heap} {ss : Value} {rows : List (List Value)} {T : Nat → Prop} {l : List Stm} (hs : Sl h ss 4 rows) (sp : StsP h T rows l) {K : Heap} (p : Pre h K) {k : Nat} {s : Stm} (hk : l[k]? = some s) :
    ∃ row b' o v Tk, row.length = 4 ∧ row[3]? = some (str (zvs s)) ∧ (∀ H', rowO H' 4 ss (.int .i64 (k : Int)) = some (.pointer (some ⟨b', o, some v⟩), H')) ∧ Heap.read K ⟨b', o, some v⟩ 4 = some row ∧ StP h Tk row s := by
  obtain ⟨row, Tk, hr, sk, _⟩ := sp.focus hk
  have hlt := (List.getElem?_eq_some_iff.1 hr).1
  obtain ⟨b', o, v, a1, a2⟩ := (hs.pre p).atH (k := k) hlt
  have hr' : rows[k] = row := (List.getElem?_eq_some_iff.1 hr).2
  rw [hr'] at a2
  refine ⟨row, b', o, v, Tk, hs.2 row (List.mem_of_getElem? hr), ?_, a1, a2, sk⟩
  cases s with
  | lets rc gs => obtain ⟨_, _, _, rfl, _⟩ := sk; rfl
  | chk c x a => obtain ⟨_, rfl, _⟩ := sk; rfl
theorem zdd {α β : Type} {l : List α} {k : Nat} {x : α} (h : l[k]? = some x) (f : α → List β) : (l.take (k + 1)).flatMap f = (l.take k).flatMap f ++ f x := by
  rw [List.take_add_one, h, List.flatMap_append]; simp
def wRow (w : Bys) : List Value := [str w]
theorem znw : ∀ (l : List Stm), (pu l).length ≤ l.length
  | [] => Nat.le_refl _
  | s :: l => by
    have := znw l
    unfold pu at this ⊢
    rw [List.flatMap_cons, List.length_append]
    have h2 : (zmt s).length ≤ 1 := by cases s <;> simp [zmt]
    rw [List.length_cons]; omega
def CkI (h : Heap) (l : List Stm) (ss : Value) (k : Nat) (st : St) : Prop := ∃ K sv, (∃ j : Nat → Value, st = ⟨[j 0, j 1, j 2, sv, j 4, j 5, j 6, j 7, j 8, ss, .int .i64 (l.length : Int), .int .i64 (k : Int), j 12, j 13, j 14, j 15, j 16, j 17, j 18, j 19, j 20, j 21, j 22, j 23, j 24], K⟩) ∧ Pre h K ∧ Own h K sv 1 ((pu (l.take k)).map wRow)
def CkO (h : Heap) (l : List Stm) (st : St) : Prop := ∃ K sv, (∃ j : Nat → Value, st = ⟨[j 0, j 1, j 2, sv, j 4, j 5, j 6, j 7, j 8, j 9, j 10, j 11, j 12, j 13, j 14, j 15, j 16, j 17, j 18, j 19, j 20, j 21, j 22, j 23, j 24], K⟩) ∧ Pre h K ∧ Own h K sv 1 ((pu l).map wRow)
set_option maxHeartbeats 4000000 in
theorem zjs {h : Heap} {S : Nat → Prop} {mb : Nat} {md : Md} (M : ModP h S mb md) :
    ∃ v h', DF FF bq [pt mb] h = some (v, h') ∧ (Own h h' v 1 ((pu md.l).map wRow) ∧ Pre h h') := by
  obtain ⟨⟨ks, ss, rows, T, hm, hk, hs, sp, _⟩, _, hlen⟩ := M
  refine ww zh6 ?_
  have lens : ∀ K, lenO K ss = some (.int .i64 (md.l.length : Int), K) := fun K => by rw [hs.len, (sp.len).1]
  have rm : ∀ j, Heap.read1 h ⟨mb, j, some 0⟩ = ([ks, ss] : List Value)[j]? := fun j => x5 hm
  simp only [zdn, ya, zb, yb, zm, zc, zo, zf, ze, zd, List.set_cons_succ, List.set_cons_zero, O_mv, yg, j6, zy, zk, List.cons_append, List.nil_append, List.length_cons, List.length_nil, Nat.reduceSub, Nat.zero_add, zn, yc, zz, za, xb, z7, zq, zj, zh, zg, List.getElem?_cons_zero, List.getElem?_cons_succ, yj, rm, lens]
  refine f9 0 md.l.length (CkI h md.l ss) (CkO h md.l) ?_ ?_ _ ⟨h, _, junk rfl, Pre.refl _, Own.nil _ _ _⟩ ?_
  · rintro k st hk' ⟨K, sv, ⟨j, rfl⟩, p, own⟩
    have hd : md.l[k]? = some md.l[k] := List.getElem?_eq_getElem hk'
    obtain ⟨row, b', o, v, Tk, h4, h3, a1, a2, sk⟩ := yda hs sp p hd
    have hl : ((k : Int) < (md.l.length : Int)) = True := by simp; omega
    obtain ⟨s, hss⟩ : ∃ s, s = md.l[k] := ⟨_, rfl⟩
    rw [← hss] at sk hd h3
    cases s with
    | lets rc gs =>
      obtain ⟨s, vs, S', rfl, _⟩ := sk
      simp only [ya, zs, yl, zb, zx, zu, yb, zm, zc, zp, zo, zf, ze, zd, List.set_cons_succ, List.set_cons_zero, O_mv, yx, yg, ve, zy, zk, xr, y5, vw, x9, List.length_cons, List.length_nil, Nat.reduceAdd, Nat.zero_add, Bool.not_true, zn, yc, zz, za, zi, yq, xb, z7, zl, yu, z6, yr, yo, yi, zw, zr, Option.map_some, List.getElem?_cons_zero, List.getElem?_cons_succ, Bool.bne_true, jm, eq_self, yp, decide_true, hl, a1, a2, p8, xp, xo (k := k) (by omega)]
      exact ⟨_, sv, junk rfl, p.more _, by unfold pu; rw [zdd hd]; simpa [zmt, pu] using own.more _⟩
    | chk c x a =>
      obtain ⟨v', rfl, t⟩ := sk
      obtain ⟨b, _, _, _, _, rfl, _, _⟩ := t.root
      have hroom : (((pu (md.l.take k)).map wRow).length + 1) * 16 ≤ j3 := by
        have := znw (md.l.take k)
        rw [List.length_map]
        have h2 : (md.l.take k).length ≤ k := by simp; omega
        have := hlen.1
        unfold j3; omega
      obtain ⟨s', K2, p1, p2, p3, p4, p5, p6⟩ := (own.more [.cells [str (ckS c), nils, pt b, str a] 0 false]).push (p.more _) (row := wRow a) (bytes := 16) rfl hroom
      rw [List.append_assoc, List.length_append] at p1
      have p1' : j2 (K ++ [AObj.cells [str (ckS c), nils, pt b, str a] 0 false, AObj.cells [str a] 0 false]) 1 16 sv (zck (K ++ [AObj.cells [str (ckS c), nils, pt b, str a] 0 false, AObj.cells [str a] 0 false]) 1 (.slice (some ⟨K.length + 1, 0, some 0⟩) 1 1)) = some (s', K2) := p1
      simp only [ya, zs, yl, zb, zx, yb, zm, zc, zp, zo, zf, ze, zd, List.set_cons_succ, List.set_cons_zero, O_mv, yx, yg, ve, zy, zk, xr, y5, w5, wo, yd, z8, xd, xi, yy, Nat.lt_add_one, vw, x9, List.cons_append, List.nil_append, List.length_cons, List.length_nil, Nat.reduceAdd, Nat.zero_add, Bool.not_false, zn, yc, zz, za, zi, slc, jj, yq, xb, z7, zl, yu, z6, yr, yo, yi, zw, zr, List.append_assoc, List.length_append, List.append_nil, Option.map_some, List.getElem?_cons_zero, List.getElem?_cons_succ, Bool.bne_true, jm, eq_self, yp, wm, decide_true, hl, a1, a2, xn, xp, p1', xo (k := k) (by omega)]
      exact ⟨K2, s', junk rfl, p3, by unfold pu; rw [zdd hd, List.map_append]; simpa [zmt, pu] using p2⟩
  · rintro st ⟨K, sv, ⟨j, rfl⟩, p, own⟩
    have hl : ((md.l.length : Int) < (md.l.length : Int)) = False := by simp
    simp only [ya, zs, w7, zb, zu, yb, zm, zc, zo, ze, zd, List.set_cons_succ, List.set_cons_zero, yx, yg, x9, zn, yc, za, yz, ku, xj, decide_false, hl, ku]
    rw [List.take_length] at own
    exact ⟨K, sv, junk rfl, p, own⟩
  rintro st ⟨K, sv, ⟨j, rfl⟩, p, own⟩
  simp only [ya, xe, zb, yb, zm, zc, zo, ze, zd, List.set_cons_succ, List.set_cons_zero, O_mv, zn, yc, za, yk, xy]
  exact own.finish p

/-! What is given. -/
theorem zq9 : ∀ (l : List Stm), (∀ rc gs, Stm.lets rc gs ∈ l → gs.length ≤ 8192) → (zbf l).length ≤ l.length * 8192
  | [], _ => Nat.le_refl _
  | s :: l, h => by
    have := zq9 l fun rc gs hm => h rc gs (by simp [hm])
    unfold zbf at this ⊢
    rw [List.flatMap_cons, List.length_append]
    have h2 : s.given.length ≤ 8192 := by
      cases s with
      | lets rc gs => have := h rc gs (by simp); simpa [Stm.given, j9] using this
      | chk k x a => simp [Stm.given]
    rw [List.length_cons]; omega
def LtI (h : Heap) (l : List Stm) (ss : Value) (k : Nat) (st : St) : Prop := ∃ K sv, (∃ j : Nat → Value, st = ⟨[j 0, j 1, j 2, sv, j 4, j 5, j 6, j 7, j 8, j 9, j 10, ss, .int .i64 (l.length : Int), .int .i64 (k : Int), j 14, j 15, j 16, j 17, j 18, j 19, j 20, j 21, j 22, j 23, j 24, j 25, j 26, j 27, j 28, j 29, j 30, j 31, j 32, j 33, j 34, j 35, j 36, j 37], K⟩) ∧ Pre h K ∧ Own h K sv 2 ((zbf (l.take k)).map wq)
def LtO (h : Heap) (l : List Stm) (st : St) : Prop := ∃ K sv, (∃ j : Nat → Value, st = ⟨[j 0, j 1, j 2, sv, j 4, j 5, j 6, j 7, j 8, j 9, j 10, j 11, j 12, j 13, j 14, j 15, j 16, j 17, j 18, j 19, j 20, j 21, j 22, j 23, j 24, j 25, j 26, j 27, j 28, j 29, j 30, j 31, j 32, j 33, j 34, j 35, j 36, j 37], K⟩) ∧ Pre h K ∧ Own h K sv 2 ((zbf l).map wq)
def LgI (h : Heap) (l : List Stm) (ss : Value) (k : Nat) (gs : List Gv) (s : Value) (i : Nat) (st : St) : Prop := ∃ K sv, (∃ j : Nat → Value, st = ⟨[j 0, j 1, j 2, sv, j 4, j 5, j 6, j 7, j 8, j 9, j 10, ss, .int .i64 (l.length : Int), .int .i64 (k : Int), j 14, j 15, j 16, j 17, s, .int .i64 (gs.length : Int), .int .i64 (i : Int), j 21, j 22, j 23, j 24, j 25, j 26, j 27, j 28, j 29, j 30, j 31, j 32, j 33, j 34, j 35, j 36, j 37], K⟩) ∧ Pre h K ∧ Own h K sv 2 ((zbf (l.take k) ++ j9 (gs.take i)).map wq)
def LgO (h : Heap) (l : List Stm) (ss : Value) (k : Nat) (gs : List Gv) (st : St) : Prop := ∃ K sv, (∃ j : Nat → Value, st = ⟨[j 0, j 1, j 2, sv, j 4, j 5, j 6, j 7, j 8, j 9, j 10, ss, .int .i64 (l.length : Int), .int .i64 (k : Int), j 14, j 15, j 16, j 17, j 18, j 19, j 20, j 21, j 22, j 23, j 24, j 25, j 26, j 27, j 28, j 29, j 30, j 31, j 32, j 33, j 34, j 35, j 36, j 37], K⟩) ∧ Pre h K ∧ Own h K sv 2 ((zbf (l.take k) ++ j9 gs).map wq)
theorem zvh (d : Bys × Bool) : wz [str [], .bool false] [(0, 2, agg [str d.1, .bool d.2])] = some [str d.1, .bool d.2] := by
  rw [wz, yh]
  simp [splice, yy]
set_option maxHeartbeats 8000000 in
theorem zms {h : Heap} {S : Nat → Prop} {mb : Nat} {md : Md} (M : ModP h S mb md) :
    ∃ v h', DF FF zac [pt mb] h = some (v, h') ∧ (Own h h' v 2 ((zbf md.l).map wq) ∧ Pre h h') := by
  obtain ⟨⟨ks, ss, rows, T, hm, hk, hs, sp, _⟩, _, hlen⟩ := M
  refine ww zj9 ?_
  have lens : ∀ K, lenO K ss = some (.int .i64 (md.l.length : Int), K) := fun K => by rw [hs.len, (sp.len).1]
  have rm : ∀ j, Heap.read1 h ⟨mb, j, some 0⟩ = ([ks, ss] : List Value)[j]? := fun j => x5 hm
  simp only [ze9, ya, zb, yb, zm, zc, zo, zf, ze, zd, List.set_cons_succ, List.set_cons_zero, O_mv, yg, j6, zy, zk, List.cons_append, List.nil_append, List.length_cons, List.length_nil, Nat.reduceSub, Nat.zero_add, zn, yc, zz, za, xb, z7, zq, zj, zh, zg, List.getElem?_cons_zero, List.getElem?_cons_succ, yj, rm, lens]
  refine f9 0 md.l.length (LtI h md.l ss) (LtO h md.l) ?_ ?_ _ ⟨h, _, junk rfl, Pre.refl _, Own.nil _ _ _⟩ ?_
  · rintro k st hk' ⟨K, sv, ⟨j, rfl⟩, p, own⟩
    have hd : md.l[k]? = some md.l[k] := List.getElem?_eq_getElem hk'
    obtain ⟨row, b', o, v, Tk, h4, h3, a1, a2, sk⟩ := yda hs sp p hd
    have hl : ((k : Int) < (md.l.length : Int)) = True := by simp; omega
    obtain ⟨s, hss⟩ : ∃ s, s = md.l[k] := ⟨_, rfl⟩
    rw [← hss] at sk hd h3
    have hgl : (zbf (md.l.take k)).length ≤ k * 8192 := by
      have := zq9 (md.l.take k) fun rc gs hm => hlen.2.2 rc gs (List.mem_of_mem_take hm)
      have h2 : (md.l.take k).length = k := by simp; omega
      rwa [h2] at this
    have hk8 := hlen.1
    cases s with
    | chk c x a =>
      obtain ⟨v', rfl, t⟩ := sk
      simp only [ya, zs, w7, yl, zb, zx, zu, yb, zm, zc, zp, zo, zf, ze, zd, List.set_cons_succ, List.set_cons_zero, O_mv, yx, yg, j6, ve, zy, zk, xr, y5, vw, x9, List.length_cons, List.length_nil, Nat.reduceAdd, Nat.zero_add, zn, yc, zz, za, yz, zi, yk, yq, xb, z7, zl, yu, z6, yr, yo, yi, zw, zr, Option.map_some, List.getElem?_cons_zero, List.getElem?_cons_succ, Int.reduceLT, eq_self, yp, decide_true, decide_false, hl, a1, a2, ze2, zfa, xo (k := k) (by omega)]
      exact ⟨_, sv, junk rfl, p.more _, by unfold zbf; rw [zdd hd]; simpa [Stm.given, zbf] using own.more _⟩
    | lets rc gs =>
      obtain ⟨s, vs, S', rfl, hsg, G, _⟩ := sk
      have hg8 : gs.length ≤ 8192 := hlen.2.2 rc gs (List.mem_of_getElem? hd)
      have lens2 : ∀ K, lenO K s = some (.int .i64 (gs.length : Int), K) := fun K => by rw [hsg.len, zey G.len]
      simp only [ya, zs, yl, zb, zx, yb, zm, zc, zp, zo, zf, ze, zd, List.set_cons_succ, List.set_cons_zero, O_mv, yx, yg, j6, ve, zy, zk, xr, y5, x9, List.length_cons, List.length_nil, Nat.reduceAdd, Nat.zero_add, zn, yc, zz, za, yq, xb, z7, zl, yu, z6, yr, yo, yi, zw, zr, Option.map_some, List.getElem?_cons_zero, List.getElem?_cons_succ, eq_self, decide_true, hl, a1, a2, lens2]
      refine f9 2 gs.length (LgI h md.l ss k gs s) (LgO h md.l ss k gs) ?_ ?_ _ ⟨_, sv, junk rfl, p.more _, by simpa [j9] using own.more _⟩ ?_
      · rintro i st hi ⟨K, sv, ⟨j, rfl⟩, p, own⟩
        have hg : gs[i]? = some gs[i] := List.getElem?_eq_getElem hi
        obtain ⟨b, S'', b', o, v, a1, a2, t⟩ := zz2 (km := h.length) hsg G ⟨fun b l n ro hb => p.kept b _ hb, fun b o hb _ => p.kept b o hb, p.le⟩ hg
        obtain ⟨b0, op, w0, l0, r0, hb0, _, hbo⟩ := t.root
        have hb0 : b = b0 := by simpa using hb0
        subst hb0
        have rb : ∀ L j, Heap.read1 (K ++ L) ⟨b, j, some 0⟩ = (vh op w0 gs[i].e.pl l0 r0 gs[i].e.set)[j]? := fun L j => x5 (y8 L hbo)
        have h1 : ((i : Int) < (gs.length : Int)) = True := by simp; omega
        have hroom : (((zbf (md.l.take k) ++ j9 (gs.take i)).map wq).length + 1) * 24 ≤ j3 := by
          rw [List.length_map, List.length_append]
          have h2 : (j9 (gs.take i)).length ≤ i := by simp [j9]; omega
          unfold j3; omega
        obtain ⟨s', K2, p1, p2, p3, p4, p5, p6⟩ := (own.more [.cells (v7 gs[i] (pt b)) 0 false]).push (p.more _) (row := wq (gs[i].name, gs[i].e.set)) (bytes := 24) rfl hroom
        rw [List.append_assoc, List.length_append] at p1
        have p1' : j2 (K ++ [AObj.cells (v7 gs[i] (pt b)) 0 false, AObj.cells [str gs[i].name, .bool gs[i].e.set] 0 false]) 2 24 sv (zck (K ++ [AObj.cells (v7 gs[i] (pt b)) 0 false, AObj.cells [str gs[i].name, .bool gs[i].e.set] 0 false]) 2 (.slice (some ⟨K.length + 1, 0, some 0⟩) 1 2)) = some (s', K2) := p1
        simp only [ya, zs, yl, zb, zx, yb, zm, zc, zp, zo, zf, ze, zd, List.set_cons_succ, List.set_cons_zero, O_mv, yx, yg, ve, zy, zk, xr, y5, w5, x8, wo, y9, yd, z8, xd, xi, yy, bk, Nat.lt_add_one, Nat.zero_lt_succ, vw, x9, List.cons_append, List.nil_append, List.length_cons, List.length_nil, Nat.reduceAdd, Nat.zero_add, zn, yc, zz, za, zi, slc, jj, yq, xb, z7, zl, yu, z6, zq, zj, yr, yo, yi, zw, zr, List.append_assoc, List.length_append, List.append_nil, Nat.add_zero, Option.map_some, eq_self, yp, wm, decide_true, h1, a1, a2, k7, zfu, zeh, rb, zb0, zvh (gs[i].name, gs[i].e.set), p1', xo (k := i) (by omega)]
        refine ⟨K2, s', junk rfl, p3, ?_⟩
        have e : j9 (gs.take (i + 1)) = j9 (gs.take i) ++ [(gs[i].name, gs[i].e.set)] := zua hg _
        rw [e, ← List.append_assoc, List.map_append]
        exact p2
      · rintro st ⟨K, sv, ⟨j, rfl⟩, p, own⟩
        have h1 : ((gs.length : Int) < (gs.length : Int)) = False := by simp
        simp only [ya, zs, w7, zb, zu, yb, zm, zc, zo, ze, zd, List.set_cons_succ, List.set_cons_zero, yx, yg, x9, zn, yc, za, yz, ku, xj, decide_false, h1, ku]
        rw [List.take_length] at own
        exact ⟨K, sv, junk rfl, p, own⟩
      rintro st ⟨K, sv, ⟨j, rfl⟩, p, own⟩
      simp only [ya, zb, yb, zm, zc, zo, zf, ze, zd, List.set_cons_succ, List.set_cons_zero, O_mv, yx, yg, vw, zn, za, zi, yk, yp, xo (k := k) (by omega)]
      exact ⟨K, sv, junk rfl, p, by unfold zbf; rw [zdd hd]; exact own⟩
  · rintro st ⟨K, sv, ⟨j, rfl⟩, p, own⟩
    have hl : ((md.l.length : Int) < (md.l.length : Int)) = False := by simp
    simp only [ya, zs, w7, zb, zu, yb, zm, zc, zo, ze, zd, List.set_cons_succ, List.set_cons_zero, yx, yg, x9, zn, yc, za, yz, ku, xj, decide_false, hl, ku]
    rw [List.take_length] at own
    exact ⟨K, sv, junk rfl, p, own⟩
  rintro st ⟨K, sv, ⟨j, rfl⟩, p, own⟩
  simp only [ya, xe, zb, yb, zm, zc, zo, ze, zd, List.set_cons_succ, List.set_cons_zero, O_mv, zn, yc, za, yk, xy]
  exact own.finish p
end Go.Proofs.YtljdbheclfaloaaGreatDoor.AM
namespace Go.Proofs.YtljdbheclfaloaaGreatDoor.AM
open Go.RowKit
set_option linter.unusedSimpArgs false
set_option linter.unusedVariables false
set_option maxRecDepth 20000

theorem zl4 {α : Type} {p q : α → Bool} : ∀ {l : List α}, (∀ x ∈ l, p x = true → q x = true) → (l.filter p).length ≤ (l.filter q).length
  | [], _ => Nat.le_refl _
  | x :: l, h => by
    have ih := zl4 (l := l) fun y hy => h y (by simp [hy])
    have h0 := h x (by simp)
    rw [List.filter_cons, List.filter_cons]
    cases hp : p x
    · cases q x <;> simp <;> omega
    · rw [h0 hp]; simp; exact ih
theorem zpw {α : Type} {p q : α → Bool} : ∀ {l : List α}, (∀ x ∈ l, p x = true → q x = true) → (∃ x ∈ l, q x = true ∧ p x = false) → (l.filter p).length < (l.filter q).length
  | [], _, e => by obtain ⟨x, hx, _⟩ := e; cases hx
  | x :: l, h, e => by
    have hl : ∀ y ∈ l, p y = true → q y = true := fun y hy => h y (by simp [hy])
    have h0 := h x (by simp)
    rw [List.filter_cons, List.filter_cons]
    obtain ⟨y, hy, hq, hp⟩ := e
    rcases List.mem_cons.1 hy with rfl | hy
    · rw [hq, hp]
      have := zl4 hl
      simp; omega
    · have ih := zpw hl ⟨y, hy, hq, hp⟩
      cases hp : p x
      · cases q x <;> simp <;> omega
      · rw [h0 hp]; simp; exact ih
def cntR (r : Nat → U) : Nat := ((List.range 1024).filter fun k => (r (k / 32)).getLsbD (k % 32)).length
theorem yei (r : Nat → U) : cntR r ≤ 1024 := by
  have := List.length_filter_le (fun k => (r (k / 32)).getLsbD (k % 32)) (List.range 1024)
  rwa [List.length_range] at this
theorem zxg {a b : Nat → U} (h : leR a b) : cntR a ≤ cntR b := zl4 fun k hk x => h _ _ (by have := List.mem_range.1 hk; omega) (Nat.mod_lt _ (by decide)) x
theorem ye8 {a b : Nat → U} (h : leR a b) (n : zmf a b = false) : cntR a < cntR b := by
  refine zpw (fun k hk x => h _ _ (by have := List.mem_range.1 hk; omega) (Nat.mod_lt _ (by decide)) x) ?_
  apply Classical.byContradiction
  intro hn
  have : zmf a b = true := yeh fun i j hi hj => ⟨h i j hi hj, fun hb => by
    apply Classical.byContradiction
    intro ha
    refine hn ⟨i * 32 + j, List.mem_range.2 (by omega), ?_, ?_⟩
    · rw [show (i * 32 + j) / 32 = i by omega, show (i * 32 + j) % 32 = j by omega]; exact hb
    · rw [show (i * 32 + j) / 32 = i by omega, show (i * 32 + j) % 32 = j by omega]; simpa using ha⟩
  rw [this] at n; cases n
def cntE (env : En) (w : Bys) : Nat := match fr w env with
  | some (_, v) => cntR v.r
  | none => 0
theorem yfk (env : En) (w : Bys) : cntE env w ≤ 1024 := by
  unfold cntE; split
  · exact yei _
  · exact Nat.zero_le _
theorem zp1 {rc : List Bys} {env env' : En} (L : LeE rc env env') (w : Bys) : cntE env w ≤ cntE env' w := by
  unfold cntE
  rcases L w with ⟨h1, h2⟩ | ⟨b, v, v', h1, h2, h3, h4, h5⟩
  · rw [h1, h2]; exact Nat.le_refl _
  · rw [h1, h2]; exact zxg h4
def sumE (env : En) (gs : List Gv) : Nat := (gs.map fun g => cntE env g.name).sum
theorem zzo (env : En) : ∀ gs : List Gv, sumE env gs ≤ gs.length * 1024
  | [] => Nat.le_refl _
  | g :: gs => by
    have := zzo env gs
    have h := yfk env g.name
    unfold sumE at this ⊢
    simp only [List.map_cons, List.sum_cons, List.length_cons]; omega
theorem zhy {rc : List Bys} {env env' : En} (L : LeE rc env env') : ∀ gs : List Gv, sumE env gs ≤ sumE env' gs
  | [] => Nat.le_refl _
  | g :: gs => by
    have := zhy L gs
    have h := zp1 L g.name
    unfold sumE at this ⊢
    simp only [List.map_cons, List.sum_cons]; omega
theorem zw0 {rc : List Bys} {env env' : En} (L : LeE rc env env') : ∀ {gs : List Gv} {g : Gv}, g ∈ gs → cntE env g.name < cntE env' g.name → sumE env gs < sumE env' gs
  | x :: gs, g, hg, h => by
    have m := zhy L gs
    have hx := zp1 L x.name
    rcases List.mem_cons.1 hg with rfl | hg
    · unfold sumE at m ⊢
      simp only [List.map_cons, List.sum_cons]; omega
    · have := zw0 L hg h
      unfold sumE at this ⊢
      simp only [List.map_cons, List.sum_cons]; omega
structure RecG (kn : Kn) (rc : List Bys) (gs : List Gv) : Prop where
  ty : ∀ g ∈ gs, Typ kn g.e
  st : ∀ g ∈ gs, g.e.set = false
  nr : ∀ g ∈ gs, NoR rc false g.e
  mem : ∀ g ∈ gs, g.name ∈ rc
  inj : ∀ g ∈ gs, ∀ g' ∈ gs, g.name = g'.name → g = g'
structure RecI (u : U) (kn : Kn) (gs : List Gv) (env : En) : Prop where
  kd : KdOk kn env
  z : S0 env
  at_ : ∀ g ∈ gs, ∃ v, fr g.name env = some (false, v) ∧ leR v.r (evE u env g.e).r
theorem ycx {u : U} {kn : Kn} {rc : List Bys} {gs : List Gv} (G : RecG kn rc gs) {env : En} (I : RecI u kn gs env) {g : Gv} (hg : g ∈ gs) :
    RecI u kn gs (setE g.name g.e.set (evE u env g.e) env) ∧ LeE rc env (setE g.name g.e.set (evE u env g.e) env) ∧ (chg (fr g.name env) g.e.set (evE u env g.e) = true → sumE env gs < sumE (setE g.name g.e.set (evE u env g.e) env) gs) := by
  rw [G.st g hg]
  obtain ⟨v, hv, hle⟩ := I.at_ g hg
  have s0 : (evE u env g.e).s = 0#32 := zpq I.kd I.z (G.ty g hg) (G.st g hg)
  have v0 : v.s = 0#32 := I.z _ _ hv
  have L : LeE rc env (setE g.name false (evE u env g.e) env) := fun w => by
    rw [bh]
    by_cases hw : w = g.name
    · subst hw
      rw [if_pos (by simp)]
      exact .inr ⟨false, v, _, hv, rfl, v0.trans s0.symm, hle, fun h => absurd (G.mem g hg) h⟩
    · rw [if_neg (by simpa using hw)]
      cases h : fr w env with
      | none => exact .inl ⟨rfl, rfl⟩
      | some p => exact .inr ⟨p.1, p.2, p.2, rfl, rfl, rfl, leR.refl _, fun _ => leR.refl _⟩
  refine ⟨⟨fun w => ?_, fun w x h => ?_, fun k hk => ?_⟩, L, fun hc => ?_⟩
  · rw [bh]
    by_cases hw : w = g.name
    · subst hw
      rw [if_pos (by simp), ← I.kd, hv]; rfl
    · rw [if_neg (by simpa using hw)]; exact I.kd w
  · rw [bh] at h
    by_cases hw : w = g.name
    · subst hw
      rw [if_pos (by simp)] at h
      cases h; exact s0
    · rw [if_neg (by simpa using hw)] at h; exact I.z w x h
  · obtain ⟨m1, m2, m3⟩ := zgl u L k.e false (G.nr k hk)
    rw [bh]
    by_cases hw : k.name = g.name
    · have := G.inj k hk g hg hw
      subst this
      rw [if_pos (by simp)]
      exact ⟨_, rfl, m2⟩
    · rw [if_neg (by simpa using hw)]
      obtain ⟨x, hx, hl⟩ := I.at_ k hk
      exact ⟨x, hx, hl.trans m2⟩
  · refine zw0 L hg ?_
    unfold cntE
    rw [bh, if_pos (by simp), hv]
    simp only
    refine ye8 hle ?_
    rw [hv] at hc
    simp only [chg, zqs, v0, s0] at hc
    simpa using hc
theorem zil {u : U} {kn : Kn} {rc : List Bys} {gs : List Gv} (G : RecG kn rc gs) : ∀ (l : List Gv) (p : En × Bool), (∀ g ∈ l, g ∈ gs) → RecI u kn gs p.1 →
    RecI u kn gs (l.foldl (zn1 u) p).1 ∧ LeE rc p.1 (l.foldl (zn1 u) p).1 ∧ (p.2 = false → (l.foldl (zn1 u) p).2 = true → sumE p.1 gs < sumE (l.foldl (zn1 u) p).1 gs)
  | [], p, _, I => ⟨I, LeE.refl _ _, fun h h2 => by rw [List.foldl_nil, h] at h2; cases h2⟩
  | g :: l, p, hl, I => by
    obtain ⟨I1, L1, c1⟩ := ycx G I (hl g (by simp))
    obtain ⟨I2, L2, c2⟩ := zil G l (zn1 u p g) (fun k hk => hl k (by simp [hk])) I1
    rw [List.foldl_cons]
    refine ⟨I2, L1.trans L2, fun h h2 => ?_⟩
    cases hc : chg (fr g.name p.1) g.e.set (evE u p.1 g.e)
    · have := c2 (by simp [zn1, h, hc]) h2
      exact Nat.lt_of_le_of_lt (zhy L1 gs) this
    · exact Nat.lt_of_lt_of_le (c1 hc) (zhy L2 gs)
theorem zu6 {u : U} {kn : Kn} {rc : List Bys} {gs : List Gv} (G : RecG kn rc gs) : ∀ (n : Nat) (env : En), RecI u kn gs env → gs.length * 1024 < sumE env gs + n → Ends u gs n env
  | 0, env, I, h => by have := zzo env gs; omega
  | n + 1, env, I, h => by
    obtain ⟨I2, L2, c2⟩ := zil G gs (env, false) (fun g hg => hg) I
    rw [Ends]
    cases hc : (zdf u gs env).2
    · exact .inl rfl
    · refine .inr ⟨rfl, zu6 G n _ I2 ?_⟩
      have := c2 rfl hc
      show _ < sumE (zdf u gs env).1 gs + n
      unfold zdf at *
      simp only at this
      omega
theorem yaq {u : U} {kn : Kn} {rc : List Bys} {gs : List Gv} (G : RecG kn rc gs) : ∀ (n : Nat) (env : En), RecI u kn gs env → RecI u kn gs (recN u gs n env) ∧ LeE rc env (recN u gs n env)
  | 0, env, I => ⟨I, LeE.refl _ _⟩
  | n + 1, env, I => by
    obtain ⟨I2, L2, c2⟩ := zil G gs (env, false) (fun g hg => hg) I
    rw [recN]
    split
    · obtain ⟨I3, L3⟩ := yaq G n (zdf u gs env).1 I2
      exact ⟨I3, LeE.trans L2 L3⟩
    · exact ⟨I2, L2⟩
theorem ycj {u : U} {kn kn' : Kn} {gs : List Gv} {env : En} (k : KdOk kn env) (z : S0 env) (hk : ∀ w, jg kn' w = if gs.any (fun g => w == g.name) then some false else jg kn w) : RecI u kn' gs (zff gs env) := by
  have key : ∀ (l : List Gv) (en : En) (w : Bys), fr w (l.foldl (fun en g => setE g.name false v0 en) en) = if l.any (fun g => w == g.name) then some (false, v0) else fr w en := by
    intro l
    induction l with
    | nil => intro en w; rfl
    | cons g l ih =>
      intro en w
      rw [List.foldl_cons, ih, bh, List.any_cons]
      cases h1 : w == g.name <;> cases h2 : l.any (fun g => w == g.name) <;> simp
  refine ⟨fun w => ?_, fun w v h => ?_, fun g hg => ⟨v0, ?_, yay _⟩⟩
  · rw [zff, key, hk]
    split
    · rfl
    · exact k w
  · rw [zff, key] at h
    split at h
    · cases h; rfl
    · exact z w v h
  · rw [zff, key, if_pos]
    exact List.any_eq_true.2 ⟨g, hg, by simp⟩
end Go.Proofs.YtljdbheclfaloaaGreatDoor.AM
namespace Go.Proofs.YtljdbheclfaloaaGreatDoor.AM
open Go.RowKit
set_option linter.unusedSimpArgs false
set_option linter.unusedVariables false
set_option maxRecDepth 20000

def zrE (env : En) (gs : List Gv) (k : Nat) : En := (gs.take k).foldl (fun en g => setE g.name false v0 en) env
def rdE (u : U) (en : En) (gs : List Gv) (k : Nat) : En × Bool := (gs.take k).foldl (zn1 u) (en, false)
def ZrI (h h0 : Heap) (q km : Nat) (u : U) (env : En) (gs : List Gv) (s : Value) (k : Nat) (st : St) : Prop := ∃ K, (∃ j : Nat → Value, st = ⟨[pt q, j 1, j 2, pt h.length, j 4, j 5, j 6, j 7, j 8, j 9, j 10, j 11, j 12, j 13, j 14, j 15, j 16, j 17, j 18, j 19, j 20, j 21, j 22, j 23, j 24, j 25, j 26, j 27, j 28, j 29, j 30, j 31, j 32, j 33, j 34, j 35, j 36, j 37, j 38, j 39, j 40, j 41, j 42, j 43, j 44, j 45, j 46, j 47, j 48, j 49, j 50, j 51, j 52, j 53, j 54, s, .int .i64 (gs.length : Int), .int .i64 (k : Int), j 58, j 59, j 60, j 61, j 62, j 63, j 64, j 65, j 66, j 67, j 68, j 69, j 70, j 71, j 72, j 73, j 74, j 75, j 76, j 77, j 78, j 79, j 80, j 81, j 82, j 83, j 84, j 85, j 86, j 87, j 88, j 89, j 90, j 91, j 92, j 93, j 94, j 95, j 96, j 97, j 98, j 99, j 100, j 101, j 102, j 103, j 104, j 105, j 106, j 107, j 108, j 109, j 110, j 111, j 112, j 113, j 114, j 115, j 116], K⟩) ∧ Wd K q km u (zrE env gs k) ∧ KC km h0 K
def ZrO (h h0 : Heap) (q km : Nat) (u : U) (env : En) (gs : List Gv) (st : St) : Prop := ∃ K, (∃ j : Nat → Value, st = ⟨[pt q, j 1, j 2, pt h.length, j 4, j 5, j 6, j 7, j 8, j 9, j 10, j 11, j 12, j 13, j 14, j 15, j 16, j 17, j 18, j 19, j 20, j 21, j 22, j 23, j 24, j 25, j 26, j 27, j 28, j 29, j 30, j 31, j 32, j 33, j 34, j 35, j 36, j 37, j 38, j 39, j 40, j 41, j 42, j 43, j 44, j 45, j 46, j 47, j 48, j 49, j 50, j 51, j 52, j 53, j 54, j 55, j 56, j 57, j 58, j 59, j 60, j 61, j 62, j 63, j 64, j 65, j 66, j 67, j 68, j 69, j 70, j 71, j 72, j 73, j 74, j 75, j 76, j 77, j 78, j 79, j 80, j 81, j 82, j 83, j 84, j 85, j 86, j 87, j 88, j 89, j 90, j 91, j 92, j 93, j 94, j 95, j 96, j 97, j 98, j 99, j 100, j 101, j 102, j 103, j 104, j 105, j 106, j 107, j 108, j 109, j 110, j 111, j 112, j 113, j 114, j 115, j 116], K⟩) ∧ Wd K q km u (zff gs env) ∧ KC km h0 K
def WlI (h h0 : Heap) (q km : Nat) (u : U) (kn : Kn) (gs : List Gv) (fin : En) (m : Nat) (st : St) : Prop := ∃ K en c, (∃ j : Nat → Value, st = ⟨[pt q, j 1, j 2, pt h.length, j 4, j 5, j 6, j 7, j 8, j 9, j 10, j 11, .bool c, j 13, j 14, j 15, j 16, j 17, j 18, j 19, j 20, j 21, j 22, j 23, j 24, j 25, j 26, j 27, j 28, j 29, j 30, j 31, j 32, j 33, j 34, j 35, j 36, j 37, j 38, j 39, j 40, j 41, j 42, j 43, j 44, j 45, j 46, j 47, j 48, j 49, j 50, j 51, j 52, j 53, j 54, j 55, j 56, j 57, j 58, j 59, j 60, j 61, j 62, j 63, j 64, j 65, j 66, j 67, j 68, j 69, j 70, j 71, j 72, j 73, j 74, j 75, j 76, j 77, j 78, j 79, j 80, j 81, j 82, j 83, j 84, j 85, j 86, j 87, j 88, j 89, j 90, j 91, j 92, j 93, j 94, j 95, j 96, j 97, j 98, j 99, j 100, j 101, j 102, j 103, j 104, j 105, j 106, j 107, j 108, j 109, j 110, j 111, j 112, j 113, j 114, j 115, j 116], K⟩) ∧ Wd K q km u en ∧ KC km h0 K ∧ RecI u kn gs en ∧ ((c = true ∧ ∃ n, m = n + 1 ∧ Ends u gs n en ∧ recN u gs n en = fin) ∨ (c = false ∧ en = fin))
def WlO (h0 : Heap) (q km : Nat) (u : U) (fin : En) (st : St) : Prop := ∃ K, (∃ j : Nat → Value, st = ⟨[j 0, j 1, j 2, j 3, j 4, j 5, j 6, j 7, j 8, j 9, j 10, j 11, j 12, j 13, j 14, j 15, j 16, j 17, j 18, j 19, j 20, j 21, j 22, j 23, j 24, j 25, j 26, j 27, j 28, j 29, j 30, j 31, j 32, j 33, j 34, j 35, j 36, j 37, j 38, j 39, j 40, j 41, j 42, j 43, j 44, j 45, j 46, j 47, j 48, j 49, j 50, j 51, j 52, j 53, j 54, j 55, j 56, j 57, j 58, j 59, j 60, j 61, j 62, j 63, j 64, j 65, j 66, j 67, j 68, j 69, j 70, j 71, j 72, j 73, j 74, j 75, j 76, j 77, j 78, j 79, j 80, j 81, j 82, j 83, j 84, j 85, j 86, j 87, j 88, j 89, j 90, j 91, j 92, j 93, j 94, j 95, j 96, j 97, j 98, j 99, j 100, j 101, j 102, j 103, j 104, j 105, j 106, j 107, j 108, j 109, j 110, j 111, j 112, j 113, j 114, j 115, j 116], K⟩) ∧ Wd K q km u fin ∧ KC km h0 K
def RdI (h h0 : Heap) (q km : Nat) (u : U) (en : En) (gs : List Gv) (s : Value) (k : Nat) (st : St) : Prop := ∃ K, (∃ j : Nat → Value, st = ⟨[pt q, j 1, j 2, pt h.length, j 4, j 5, j 6, j 7, j 8, j 9, j 10, j 11, .bool (rdE u en gs k).2, j 13, j 14, j 15, j 16, j 17, j 18, j 19, j 20, j 21, j 22, j 23, j 24, j 25, j 26, j 27, j 28, j 29, j 30, j 31, j 32, j 33, j 34, j 35, j 36, j 37, j 38, j 39, j 40, j 41, j 42, j 43, j 44, j 45, j 46, j 47, j 48, j 49, j 50, j 51, j 52, j 53, j 54, j 55, j 56, j 57, j 58, j 59, j 60, j 61, j 62, j 63, j 64, j 65, j 66, j 67, j 68, s, .int .i64 (gs.length : Int), .int .i64 (k : Int), j 72, j 73, j 74, j 75, j 76, j 77, j 78, j 79, j 80, j 81, j 82, j 83, j 84, j 85, j 86, j 87, j 88, j 89, j 90, j 91, j 92, j 93, j 94, j 95, j 96, j 97, j 98, j 99, j 100, j 101, j 102, j 103, j 104, j 105, j 106, j 107, j 108, j 109, j 110, j 111, j 112, j 113, j 114, j 115, j 116], K⟩) ∧ Wd K q km u (rdE u en gs k).1 ∧ KC km h0 K
def RdO (h h0 : Heap) (q km : Nat) (u : U) (en : En) (gs : List Gv) (st : St) : Prop := ∃ K, (∃ j : Nat → Value, st = ⟨[pt q, j 1, j 2, pt h.length, j 4, j 5, j 6, j 7, j 8, j 9, j 10, j 11, .bool (zdf u gs en).2, j 13, j 14, j 15, j 16, j 17, j 18, j 19, j 20, j 21, j 22, j 23, j 24, j 25, j 26, j 27, j 28, j 29, j 30, j 31, j 32, j 33, j 34, j 35, j 36, j 37, j 38, j 39, j 40, j 41, j 42, j 43, j 44, j 45, j 46, j 47, j 48, j 49, j 50, j 51, j 52, j 53, j 54, j 55, j 56, j 57, j 58, j 59, j 60, j 61, j 62, j 63, j 64, j 65, j 66, j 67, j 68, j 69, j 70, j 71, j 72, j 73, j 74, j 75, j 76, j 77, j 78, j 79, j 80, j 81, j 82, j 83, j 84, j 85, j 86, j 87, j 88, j 89, j 90, j 91, j 92, j 93, j 94, j 95, j 96, j 97, j 98, j 99, j 100, j 101, j 102, j 103, j 104, j 105, j 106, j 107, j 108, j 109, j 110, j 111, j 112, j 113, j 114, j 115, j 116], K⟩) ∧ Wd K q km u (zdf u gs en).1 ∧ KC km h0 K
theorem yfa {h0 K : Heap} {q km : Nat} {u : U} {kn : Kn} {rc : List Bys} {en : En} {gs : List Gv} (G : RecG kn rc gs) (I : RecI u kn gs en) {k : Nat} (w : Wd K q km u (rdE u en gs k).1) (kc : KC km h0 K) {g : Gv} (hg : gs[k]? = some g) {b : Nat} {S' : Nat → Prop} (t : TreeP K S' (pt b) g.e) :
    ∃ c row K2, DF FF vr [pt q, pt b] (K ++ [.cells (v7 g (pt b)) 0 false]) = some (agg row, K ++ [.cells (v7 g (pt b)) 0 false]) ∧ DF FF jr [pt q, str g.name, agg row] (K ++ [.cells (v7 g (pt b)) 0 false]) = some (.bool c, K2) ∧ Wd K2 q km u (rdE u en gs (k + 1)).1 ∧ KC km h0 K2 ∧ (rdE u en gs (k + 1)).2 = ((rdE u en gs k).2 || c) := by
  obtain ⟨I2, _, _⟩ := zil G (gs.take k) (en, false) (fun g hg => List.mem_of_mem_take hg) I
  have hm : g ∈ gs := List.mem_of_getElem? hg
  obtain ⟨v, hv, _⟩ := I2.at_ g hm
  have hkd : kdE (rdE u en gs k).1 g.e = g.e.set := zss I2.kd (G.ty g hm)
  obtain ⟨c, K2, q1, w2, k2, hc⟩ := zya (w.more [.cells (v7 g (pt b)) 0 false]) g.name (nmE (rdE u en gs k).1 g.e) (kdE (rdE u en gs k).1 g.e) (evE u (rdE u en gs k).1 g.e)
  rw [hkd] at w2
  have e : rdE u en gs (k + 1) = zn1 u (rdE u en gs k) g := zap hg _ _
  refine ⟨c, _, K2, zf8 u _ g.e _ q km S' (pt b) (w.more _) (t.keep fun _ _ _ ho => y8 _ ho), q1, by rw [e]; exact w2, (kc.trans (KC.more _ _)).trans k2, ?_⟩
  rw [e, hc _ hv, hkd]
  show (_ || chg (fr g.name (rdE u en gs k).1) _ _) = _
  rw [show fr g.name (rdE u en gs k).1 = some (false, v) from hv]
set_option maxHeartbeats 8000000 in
theorem ycs {h : Heap} {q km : Nat} {u : U} {env : En} {kn : Kn} {rc : List Bys} {S : Nat → Prop} {vs : List Value} {s : Value} {gs : List Gv} (W : Wd h q km u env) (hs : Sl h s 3 (List.zipWith v7 gs vs)) (G : GsP h S vs gs) (hl : gs.length ≤ 8192) (GG : RecG kn rc gs) (I0 : RecI u kn gs (zff gs env)) :
    ∃ h', DF FF qb [pt q, agg [str wRec, s, nilP, str []]] h = some (.bool true, h') ∧ Wd h' q km u (recN u gs (recK gs) (zff gs env)) ∧ KC km h h' := by
  have : ∃ v h', DF FF qb [pt q, agg [str wRec, s, nilP, str []]] h = some (v, h') ∧ (v = .bool true ∧ Wd h' q km u (recN u gs (recK gs) (zff gs env)) ∧ KC km h h') := by
    refine ww zb1 ?_
    have lens : ∀ K, lenO K s = some (.int .i64 (gs.length : Int), K) := fun K => by rw [hs.len, zey G.len]
    obtain ⟨h0, hh0⟩ : ∃ h0, h0 = h ++ [AObj.cells [str [114, 101, 99], s, nilP, str []] 0 false] := ⟨_, rfl⟩
    have k0 : KC km h h0 := by rw [hh0]; exact KC.more _ _
    have W0 : Wd h0 q km u env := by rw [hh0]; exact W.more _
    have g0 : h0[h.length]? = some (.cells [str [114, 101, 99], s, nilP, str []] 0 false) := by rw [hh0]; simp
    have rg : ∀ K, KC km h0 K → ∀ j, Heap.read1 K ⟨h.length, j, some 0⟩ = ([str [114, 101, 99], s, nilP, str []] : List Value)[j]? := fun K kc j => x5 (kc.keep _ _ _ _ g0)
    have rg0 := rg h0 (KC.refl _)
    have hE : Ends u gs (recK gs) (zff gs env) := zu6 GG _ _ I0 (by unfold recK; omega)
    obtain ⟨fin, hfin⟩ : ∃ fin, fin = recN u gs (recK gs) (zff gs env) := ⟨_, rfl⟩
    rw [← hfin]
    simp only [kq, ya, zs, zb, zx, zu, yb, zm, zc, zo, zf, ze, zd, List.set_cons_succ, List.set_cons_zero, O_mv, yx, yg, j6, zy, zk, List.cons_append, List.nil_append, List.length_cons, List.length_nil, Nat.reduceAdd, Nat.reduceSub, Nat.zero_add, zn, yc, zz, za, w9, xb, z7, zh, zg, Nat.add_zero, List.getElem?_cons_zero, List.getElem?_cons_succ, beq_self_eq_true, eq_self, yh, zt, yj, va, fz, wRec, ygk, yh, ← hh0, rg0, lens]
    refine f9 5 gs.length (ZrI h h0 q km u env gs s) (ZrO h h0 q km u env gs) ?_ ?_ _ ⟨h0, junk rfl, W0, KC.refl _⟩ ?_
    · rintro k st hk ⟨K, ⟨j, rfl⟩, w, kc⟩
      have hg : gs[k]? = some gs[k] := List.getElem?_eq_getElem hk
      obtain ⟨b, S', b', o, v, a1, a2, t⟩ := zz2 hs G (k0.trans kc) hg
      obtain ⟨c, K2, q1, w2, k2, _⟩ := zya (w.more [.cells (v7 gs[k] (pt b)) 0 false]) gs[k].name [] false v0
      have h1 : ((k : Int) < (gs.length : Int)) = True := by simp; omega
      simp only [ya, zs, yl, zb, zx, yb, zm, zc, zp, zo, zf, ze, zd, List.set_cons_succ, List.set_cons_zero, O_mv, yx, yg, ye, List.map_cons, List.map_nil, ve, zy, zk, xr, y5, x8, y9, yd, yy, vw, x9, List.length_cons, List.length_nil, Nat.reduceAdd, Nat.zero_add, zn, yc, zz, za, zi, yq, xb, z7, zl, yu, z6, yr, yo, yi, zw, zr, Nat.add_zero, Option.map_some, eq_self, yp, decide_true, h1, a1, a2, k7, zfu, q1, xo (k := k) (by omega)]
      exact ⟨K2, junk rfl, by rw [zrE, zap hg]; exact w2, (kc.trans (KC.more _ _)).trans k2⟩
    · rintro st ⟨K, ⟨j, rfl⟩, w, kc⟩
      have h1 : ((gs.length : Int) < (gs.length : Int)) = False := by simp
      simp only [ya, zs, w7, zb, zu, yb, zm, zc, zo, ze, zd, List.set_cons_succ, List.set_cons_zero, yx, yg, x9, zn, yc, za, yz, ku, xj, decide_false, h1, ku]
      rw [zrE, List.take_length] at w
      exact ⟨K, junk rfl, w, kc⟩
    rintro st ⟨K, ⟨j, rfl⟩, w, kc⟩
    simp only [ya, zb, yb, zm, zc, zf, List.set_cons_succ, List.set_cons_zero, O_mv, zn, yc, zz, za, yk]
    refine zuq 7 (WlI h h0 q km u kn gs fin) (WlO h0 q km u fin) ?_ (recK gs + 1) _ ⟨K, _, true, junk rfl, w, kc, I0, .inl ⟨rfl, _, rfl, hE, hfin.symm⟩⟩ ?_
    · rintro m st ⟨K, en, c, ⟨j, rfl⟩, w, kc, I, ⟨rfl, n, rfl, hE, hf⟩ | ⟨rfl, rfl⟩⟩
      · have rgK := rg K kc
        simp only [ya, zs, yl, zb, zx, yb, zm, zc, zo, zf, ze, zd, List.set_cons_succ, List.set_cons_zero, O_mv, yg, j6, zy, zk, Nat.zero_add, zn, yc, zz, za, xb, z7, List.getElem?_cons_zero, List.getElem?_cons_succ, rgK, lens]
        refine f9 9 gs.length (RdI h h0 q km u en gs s) (RdO h h0 q km u en gs) ?_ ?_ _ ⟨K, junk rfl, w, kc⟩ ?_
        · rintro k st hk ⟨K, ⟨j, rfl⟩, w, kc⟩
          have hg : gs[k]? = some gs[k] := List.getElem?_eq_getElem hk
          obtain ⟨b, S', b', o, v, a1, a2, t⟩ := zz2 hs G (k0.trans kc) hg
          obtain ⟨c, row, K2, q1, q2, w2, k2, hc⟩ := yfa GG I w kc hg t
          have h1 : ((k : Int) < (gs.length : Int)) = True := by simp; omega
          have ag : zbz (K ++ [.cells (v7 gs[k] (pt b)) 0 false]) (.pointer (some ⟨K.length, 0, some 0⟩)) (str gs[k].name) = some (undef, K ++ [.cells (v7 gs[k] (pt b)) 0 false]) := zvk (by simp [Heap.read1, v7])
          cases c
          · simp only [ya, zs, yl, zb, zx, yb, zm, yf, zc, zp, y3, zo, zf, ze, zd, List.set_cons_succ, List.set_cons_zero, O_mv, y0, xg, yx, yg, ye, List.map_cons, List.map_nil, ve, zy, zk, xr, y5, vw, x9, List.length_cons, List.length_nil, Nat.reduceAdd, Nat.zero_add, zn, yc, zz, za, zi, yq, xb, z7, zl, yu, z6, yr, yo, yi, zw, zr, Nat.add_zero, Option.map_some, eq_self, zdc, yp, decide_true, h1, a1, a2, k7, zfu, zeh, q1, ag, q2, xo (k := k) (by omega)]
            rw [Bool.or_false] at hc
            exact ⟨K2, by rw [hc]; exact junk rfl, w2, k2⟩
          · simp only [ya, zs, yl, zb, zx, yb, zm, yf, zc, zp, wk, zo, zf, ze, zd, List.set_cons_succ, List.set_cons_zero, O_mv, y0, xg, yx, yg, ye, List.map_cons, List.map_nil, ve, zy, zk, xr, y5, vw, x9, List.length_cons, List.length_nil, Nat.reduceAdd, Nat.zero_add, zn, yc, zz, za, zi, yq, xb, z7, zl, yu, z6, yr, yo, yi, zw, zr, Nat.add_zero, Option.map_some, eq_self, zdc, yp, decide_true, h1, a1, a2, k7, zfu, zeh, q1, ag, q2, xo (k := k) (by omega)]
            rw [Bool.or_true] at hc
            exact ⟨K2, by rw [hc]; exact junk rfl, w2, k2⟩
        · rintro st ⟨K, ⟨j, rfl⟩, w, kc⟩
          have h1 : ((gs.length : Int) < (gs.length : Int)) = False := by simp
          simp only [ya, zs, w7, zb, zu, yb, zm, zc, zo, ze, zd, List.set_cons_succ, List.set_cons_zero, yx, yg, x9, zn, yc, za, yz, ku, xj, decide_false, h1, ku]
          have e : rdE u en gs gs.length = zdf u gs en := by unfold rdE zdf; rw [List.take_length]
          rw [e] at w
          exact ⟨K, by rw [e]; exact junk rfl, w, kc⟩
        rintro st ⟨K, ⟨j, rfl⟩, w, kc⟩
        simp only [zi, yk, vq]
        obtain ⟨I2, _, _⟩ := zil GG gs (en, false) (fun g hg => hg) I
        cases n with
        | zero => exact hE.elim
        | succ n =>
          rw [Ends] at hE
          rw [recN] at hf
          rcases hE with hE | ⟨hE, hE2⟩
          · rw [if_neg (by rw [hE]; simp)] at hf
            exact ⟨0, by omega, K, _, _, junk rfl, w, kc, I2, .inr ⟨hE, hf⟩⟩
          · rw [if_pos hE] at hf
            exact ⟨n + 1, by omega, K, _, _, junk rfl, w, kc, I2, .inl ⟨hE, n, rfl, hE2, hf⟩⟩
      · simp only [ya, zs, w7, zb, zu, yb, zm, zc, zo, ze, zd, List.set_cons_succ, List.set_cons_zero, O_mv, zn, yc, za, yz, zal, ku, ku]
        exact ⟨K, junk rfl, w, kc⟩
    rintro st ⟨K, ⟨j, rfl⟩, w, kc⟩
    simp only [ya, xe, zb, yb, zm, zc, zf, ze, zd, List.set_cons_succ, List.set_cons_zero, O_mv, zn, yc, za, zi, yk, xy, eq_self]
    exact ⟨trivial, W.fin w _, (k0.trans kc).fin _⟩
  obtain ⟨v, h', hq, rfl, hw, hk⟩ := this
  exact ⟨h', hq, hw, hk⟩
end Go.Proofs.YtljdbheclfaloaaGreatDoor.AM
namespace Go.Proofs.YtljdbheclfaloaaGreatDoor.AM
open Go.RowKit
set_option linter.unusedSimpArgs false
set_option linter.unusedVariables false
set_option maxRecDepth 20000

def zy2 (kn : Kn) : Stm → Prop
  | .lets false gs => gs.length ≤ 8192 ∧ (∀ g ∈ gs, Typ kn g.e) ∧ (∀ g ∈ gs, jg kn g.name = none) ∧ (gs.map (·.name)).Nodup
  | .lets true gs => gs.length ≤ 8192 ∧ RecG (kn ++ gs.map fun g => (g.name, false)) (gs.map (·.name)) gs ∧ (∀ g ∈ gs, jg kn g.name = none) ∧ (gs.map (·.name)).Nodup
  | .chk _ x _ => Typ kn x
def zqa : Kn → List Stm → Prop
  | _, [] => True
  | kn, s :: l => zy2 kn s ∧ zqa (kn ++ s.given) l
structure EnI (kn : Kn) (env : En) : Prop where
  kd : KdOk kn env
  z : S0 env
theorem zk7 {kn : Kn} : ∀ {gs : List Gv} {n : Nat} {here : List Bys}, b5 kn n here gs = .ok () → (∀ g ∈ gs, jg kn g.name = none ∧ g.name ∉ here) ∧ (gs.map (·.name)).Nodup
  | [], n, here, h => ⟨by simp, by simp⟩
  | g' :: gs, n, here, h => by
    rw [b5] at h
    split at h
    · cases h
    · rename_i h1
      split at h
      · cases h
      · have h1 := Bool.not_eq_true _ |>.mp h1
        rw [Bool.or_eq_false_iff] at h1
        obtain ⟨a, b⟩ := zk7 h
        refine ⟨fun g hg => ?_, ?_⟩
        · rcases List.mem_cons.1 hg with rfl | hg
          · exact ⟨by simpa using h1.1, by simpa using h1.2⟩
          · exact ⟨(a g hg).1, fun hh => (a g hg).2 (by simp [hh])⟩
        · rw [List.map_cons, List.nodup_cons]
          refine ⟨fun hh => ?_, b⟩
          obtain ⟨g, hg, he⟩ := List.mem_map.1 hh
          exact (a g hg).2 (by simp [he])
theorem zyt {gs : List Gv} (h : (gs.map (·.name)).Nodup) : ∀ g ∈ gs, ∀ g' ∈ gs, g.name = g'.name → g = g' := by
  induction gs with
  | nil => intro g hg; cases hg
  | cons x gs ih =>
    rw [List.map_cons, List.nodup_cons] at h
    intro g hg g' hg' e
    rcases List.mem_cons.1 hg with h1 | h1 <;> rcases List.mem_cons.1 hg' with h2 | h2
    · rw [h1, h2]
    · subst h1; exact absurd (List.mem_map.2 ⟨g', h2, e.symm⟩) h.1
    · subst h2; exact absurd (List.mem_map.2 ⟨g, h1, e⟩) h.1
    · exact ih h.2 g h1 g' h2 e
theorem zzs {F : Gv → Vv} : ∀ {gs : List Gv} {kn : Kn} {env : En}, KdOk kn env → (∀ g ∈ gs, jg kn g.name = none) → (gs.map (·.name)).Nodup → KdOk (kn ++ j9 gs) (gs.foldl (fun en g => setE g.name g.e.set (F g) en) env)
  | [], kn, env, k, _, _ => by simpa [j9] using k
  | g :: gs, kn, env, k, hf, hn => by
    rw [List.map_cons, List.nodup_cons] at hn
    have h0 := hf g (by simp)
    have k1 : KdOk (kn ++ [(g.name, g.e.set)]) (setE g.name g.e.set (F g) env) := fun w => by
      rw [bh, gu]
      by_cases hw : w = g.name
      · subst hw
        rw [if_pos (by simp), h0]; simp [jg]
      · rw [if_neg (by simpa using hw), k w]
        have : jg [(g.name, g.e.set)] w = none := by rw [jg, if_neg (by simpa using hw)]; rfl
        rw [this, Option.or_none]
    have := zzs (F := F) (gs := gs) k1 (fun g' hg' => by
      rw [gu, hf g' (by simp [hg'])]
      have : g'.name ≠ g.name := fun e => hn.1 (List.mem_map.2 ⟨g', hg', e⟩)
      rw [Option.none_or, jg, if_neg (by simpa using this)]; rfl) hn.2
    rw [List.append_assoc] at this
    exact this
theorem zyp {F : Gv → Vv} : ∀ {gs : List Gv} {env : En}, S0 env → (∀ g ∈ gs, g.e.set = false → (F g).s = 0#32) → S0 (gs.foldl (fun en g => setE g.name g.e.set (F g) en) env)
  | [], env, z, _ => z
  | g :: gs, env, z, hf => by
    refine zyp (gs := gs) (fun w v h => ?_) fun g' hg' => hf g' (by simp [hg'])
    rw [bh] at h
    by_cases hw : w = g.name
    · rw [if_pos (by simpa using hw)] at h
      simp only [Option.some.injEq, Prod.mk.injEq] at h
      obtain ⟨h1, rfl⟩ := h
      exact hf g (by simp) h1
    · rw [if_neg (by simpa using hw)] at h; exact z w v h
theorem zqn {u : U} {kn : Kn} {gs : List Gv} {env : En} (e : EnI kn env) (hf : ∀ g ∈ gs, jg kn g.name = none) : RecI u (kn ++ gs.map fun g => (g.name, false)) gs (zff gs env) := by
  refine ycj e.kd e.z fun w => ?_
  rw [gu]
  have key : ∀ l : List Gv, jg (l.map fun g => (g.name, false)) w = if l.any (fun g => w == g.name) then some false else none := by
    intro l
    induction l with
    | nil => rfl
    | cons g l ih =>
      rw [List.map_cons, jg, ih, List.any_cons]
      cases w == g.name <;> simp
  rw [key]
  split
  · rename_i h
    obtain ⟨g, hg, he⟩ := List.any_eq_true.1 h
    have : w = g.name := eq_of_beq he
    rw [this, hf g hg]; rfl
  · exact Option.or_none
theorem yfy {u : U} {kn : Kn} {env : En} {st : Stm} (ok : zy2 kn st) (e : EnI kn env) : EnI (kn ++ st.given) (doE u env st) := by
  cases st with
  | chk k x a => simpa [Stm.given, doE] using e
  | lets rc gs =>
    cases rc with
    | false =>
      obtain ⟨_, ty, hf, hn⟩ := ok
      exact ⟨zzs e.kd hf hn, zyp e.z fun g hg hs => zpq e.kd e.z (ty g hg) hs⟩
    | true =>
      obtain ⟨_, G, hf, hn⟩ := ok
      have := (yaq G (recK gs) _ (zqn (u := u) e hf)).1
      have hs : j9 gs = gs.map fun g => (g.name, false) := List.map_congr_left fun g hg => by rw [G.st g hg]
      show EnI (kn ++ j9 gs) _
      rw [hs]
      exact ⟨this.kd, this.z⟩
theorem yee {kn : Kn} {n : Nat} {s s' : Stm} (h : chkS kn n s = .ok s') (hl : ∀ rc gs, s = .lets rc gs → gs.length ≤ 8192) : zy2 kn s' := by
  cases s with
  | chk k x a =>
    rw [chkS] at h
    split at h
    · cases h
    · rename_i x' hx
      split at h
      · cases h
      · cases h; exact ze5 hx
  | lets rc gs =>
    have hl := hl rc gs rfl
    rw [chkS] at h
    split at h
    · cases h
    · rename_i hf
      split at h
      · cases h
      · rename_i l hg
        cases h
        obtain ⟨f1, f2⟩ := zk7 hf
        have hnm := zg7 hg
        have hnames : l.map (·.name) = gs.map (·.name) := by
          have := congrArg (List.map Prod.fst) hnm
          simpa [List.map_map, Function.comp_def] using this
        have hll : l.length = gs.length := by have := congrArg List.length hnm; simpa using this
        have hfr : ∀ g ∈ l, jg kn g.name = none := fun g hgm => by
          have : g.name ∈ gs.map (·.name) := by rw [← hnames]; exact List.mem_map.2 ⟨g, hgm, rfl⟩
          obtain ⟨g', hg', he⟩ := List.mem_map.1 this
          rw [← he]; exact (f1 g' hg').1
        have each : ∀ {kn rc b} {gs l : List Gv}, zc5 kn rc b gs = .ok l → ∀ g ∈ l, Typ kn g.e ∧ NoR rc false g.e := by
          intro kn rc b gs
          induction gs with
          | nil => intro l h g hg; rw [zc5] at h; cases h; cases hg
          | cons g0 gs ih =>
            intro l h g hg
            rw [zc5] at h
            split at h
            · cases h
            · rename_i x hx
              split at h
              · cases h
              · split at h
                · cases h
                · rename_i l' hl'
                  cases h
                  rcases List.mem_cons.1 hg with rfl | hg
                  · exact ⟨ze5 hx, zgj hx⟩
                  · exact ih hl' g hg
        cases rc with
        | false => exact ⟨by omega, fun g hgm => (each hg g hgm).1, hfr, by rw [hnames]; exact f2⟩
        | true =>
          have e : (gs.map fun g => (g.name, false)) = l.map fun g => (g.name, false) := by
            have := congrArg (List.map fun w : Bys => (w, false)) hnames
            simpa [List.map_map, Function.comp_def] using this.symm
          simp only [if_true] at hg
          refine ⟨by omega, ⟨fun g hgm => by rw [← e]; exact (each hg g hgm).1, zm4 hg, fun g hgm => by rw [hnames]; exact (each hg g hgm).2, fun g hgm => List.mem_map.2 ⟨g, hgm, rfl⟩, zyt (by rw [hnames]; exact f2)⟩, hfr, by rw [hnames]; exact f2⟩
theorem zxq : ∀ {l l' : List Stm} {kn : Kn} {n : Nat}, chkM kn n l = .ok l' → (∀ rc gs, Stm.lets rc gs ∈ l → gs.length ≤ 8192) → zqa kn l'
  | [], l', kn, n, h, _ => by rw [chkM] at h; cases h; trivial
  | s :: l, l', kn, n, h, hl => by
    rw [chkM] at h
    split at h
    · cases h
    · rename_i s' hs
      split at h
      · cases h
      · rename_i l2 hl2
        cases h
        exact ⟨yee hs fun rc gs e => hl rc gs (by simp [e]), zxq hl2 fun rc gs hm => hl rc gs (by simp [hm])⟩
theorem ygd {h : Heap} {q km : Nat} {u : U} {kn : Kn} {env : En} {T : Nat → Prop} {row : List Value} {st : Stm} (W : Wd h q km u env) (p : StP h T row st) (ok : zy2 kn st) (e : EnI kn env) :
    ∃ h', DF FF qb [pt q, agg row] h = some (.bool (zwy u env st), h') ∧ Wd h' q km u (doE u env st) ∧ KC km h h' := by
  cases st with
  | chk k x a =>
    obtain ⟨v, rfl, t⟩ := p
    exact ⟨h, ycm W t k a, W, KC.refl _⟩
  | lets rc gs =>
    obtain ⟨s, vs, S, rfl, hs, G, _, _⟩ := p
    cases rc with
    | false =>
      obtain ⟨hl, ty, hf, hn⟩ := ok
      exact ycc W hs G hl e.kd ty
    | true =>
      obtain ⟨hl, RG, hf, hn⟩ := ok
      exact ycs W hs G hl RG (zqn e hf)
end Go.Proofs.YtljdbheclfaloaaGreatDoor.AM
namespace Go.Proofs.YtljdbheclfaloaaGreatDoor.AM
open Go.RowKit
set_option linter.unusedSimpArgs false
set_option linter.unusedVariables false
set_option maxRecDepth 20000

def fj (bl : En) : List (List Value) := bl.map fun p => w8 p.1 p.2.1 p.2.2
def isD (d : Bys × Bool) (p : Bys × Bool × Vv) : Bool := p.1 == d.1 && p.2.1 == d.2
def idxD (d : Bys × Bool) : En → Option Nat
  | [] => none
  | p :: r => if isD d p then some 0 else (idxD d r).map (· + 1)
def zoh (d : Bys × Bool) (bl : En) : Vv := match bl.find? (isD d) with
  | none => v0
  | some p => if d.2 then ⟨p.2.2.s, fun _ => 0#32⟩ else ⟨0#32, p.2.2.r⟩
theorem zql (d : Bys × Bool) : ∀ bl : En, (bl.find? (isD d)) = (idxD d bl).bind fun i => bl[i]?
  | [] => rfl
  | p :: r => by
    rw [List.find?_cons, idxD]
    cases isD d p
    · simp only [Bool.false_eq_true, if_false]
      rw [zql d r]
      cases idxD d r <;> rfl
    · rfl
theorem zw8 (d : Bys × Bool) : ∀ {bl : En} {i : Nat}, idxD d bl = some i → i < bl.length
  | [], i, h => by cases h
  | p :: r, i, h => by
    rw [idxD] at h
    split at h
    · cases h; simp
    · cases hr : idxD d r with
      | none => rw [hr] at h; cases h
      | some k => rw [hr] at h; cases h; have := zw8 d hr; simp; omega
theorem zxr (d : Bys × Bool) (bl : En) {k : Nat} {p : Bys × Bool × Vv} (h : bl[k]? = some p) : idxD d (bl.drop k) = if isD d p then some 0 else (idxD d (bl.drop (k + 1))).map (· + 1) := by
  obtain ⟨hk, rfl⟩ := List.getElem?_eq_some_iff.1 h
  rw [List.drop_eq_getElem_cons hk, idxD]
set_option maxHeartbeats 4000000 in
theorem ybq (d : Bys × Bool) (p : Bys × Bool × Vv) {h : Heap} {c : Nat} (hc : h[c]? = some (.cells (wq d) 0 false)) : DF FF gk [agg (w8 p.1 p.2.1 p.2.2), pt c] h = some (.bool (isD d p), h) := by
  refine wg zhe ?_
  have rc : ∀ L j, Heap.read1 (h ++ L) ⟨c, j, some 0⟩ = (wq d)[j]? := fun L j => x5 (y8 L hc)
  cases hn : p.1 == d.1
  · simp only [zag, ya, xe, zb, yb, zm, yf, zc, vd, zo, zf, ze, zd, List.set_cons_succ, List.set_cons_zero, O_mv, y0, xg, yx, yg, zy, zk, List.cons_append, List.nil_append, List.length_cons, List.length_nil, Nat.reduceAdd, Nat.reduceSub, Nat.zero_add, zn, yc, za, w9, xb, z7, yr, yo, zh, zg, Nat.add_zero, List.getElem?_cons_zero, eq_self, yh, zt, va, jz, bd_0, yh, rc, wq, hn]
    rw [zfi _ _ _ _ _ rfl]
    simp only [isD, hn]; rfl
  · simp only [zag, ya, xe, zb, yb, zm, yf, zc, xq, zo, zf, ze, zd, List.set_cons_succ, List.set_cons_zero, O_mv, y0, xg, yx, yg, zy, zk, List.cons_append, List.nil_append, List.length_cons, List.length_nil, Nat.reduceAdd, Nat.reduceSub, Nat.zero_add, zn, yc, za, w9, xb, z7, yr, yo, zh, zg, Nat.add_zero, List.getElem?_cons_zero, List.getElem?_cons_succ, Bool.bne_false, jm, zhv, eq_self, yh, zt, va, jz, bd_0, bd_1, yh, rc, wq, hn, zhv]
    rw [zfi _ _ _ _ _ rfl]
    simp only [isD, hn, Bool.true_and]
    first | rfl | (simp; done) | skip
set_option maxHeartbeats 4000000 in
theorem yfb (d : Bys × Bool) (bl : En) {h : Heap} {s : Value} {c : Nat} (hs : Sl h s 35 (fj bl)) (hl : bl.length < 4611686018427387904) (hc : h[c]? = some (.cells (wq d) 0 false)) :
    DF FF qf [s, .func (.func gk) [].toArray [pt c].toArray] h = some (.int .i64 (match idxD d bl with | some i => (i : Int) | none => -1), h) := by
  refine wg pk ?_
  have lens : ∀ K, lenO K s = some (.int .i64 (bl.length : Int), K) := fun K => by rw [hs.len]; simp [fj]
  simp only [kg, ya, zb, yb, zm, zc, zo, zf, ze, zd, List.set_cons_succ, List.set_cons_zero, O_mv, j6, List.cons_append, List.nil_append, List.length_cons, List.length_nil, Nat.reduceAdd, Nat.reduceSub, Nat.zero_add, zn, yc, zz, za, zh, zg, lens]
  refine zaq bl.length (fun k st => (∃ j : Nat → Value, st = ⟨[s, .func (.func gk) [].toArray [pt c].toArray, j 2, j 3, j 4, j 5, j 6, .int .i64 (bl.length : Int), .int .i64 (k : Int), j 9, j 10, j 11, j 12, j 13, j 14, j 15, j 16, j 17, j 18], h⟩) ∧ idxD d bl = (idxD d (bl.drop k)).map (· + k)) ?_ ?_ _ ⟨junk rfl, by rw [List.drop_zero]; cases idxD d bl <;> rfl⟩
  · rintro k st hk ⟨⟨j, rfl⟩, e⟩
    obtain ⟨b', o, v, a1, a2⟩ := hs.atH (k := k) (by simpa [fj] using hk)
    have h1 : ((k : Int) < (bl.length : Int)) = True := by simp; omega
    have hb : bl[k]? = some bl[k] := List.getElem?_eq_getElem hk
    have a3 : Heap.read h ⟨b', o, some v⟩ 35 = some (w8 bl[k].1 bl[k].2.1 bl[k].2.2) := by rw [a2]; simp [fj]
    have q1 := ybq d bl[k] hc
    rw [zxr d bl hb] at e
    cases hi : isD d bl[k]
    · rw [hi] at q1 e
      simp only [ya, zs, yl, zb, zx, zu, yb, zm, zc, zo, zf, ze, zd, List.set_cons_succ, List.set_cons_zero, O_mv, yx, yg, List.map_cons, List.map_nil, ve, xr, y5, vw, x9, List.cons_append, List.nil_append, zn, yc, zz, za, zi, Option.map_some, yp, decide_true, h1, a1, a3, bp, je, q1, xo (k := k) (by omega)]
      refine ⟨junk rfl, ?_⟩
      rw [e]
      simp only [Bool.false_eq_true, if_false, Option.map_map]
      congr 1
      funext x
      simp only [Function.comp_def]; omega
    · rw [hi] at q1 e
      simp only [ya, zs, xe, yl, zb, zx, yb, zm, zc, zo, ze, zd, List.set_cons_succ, List.set_cons_zero, O_mv, yx, yg, List.map_cons, List.map_nil, ve, xr, y5, x9, List.cons_append, List.nil_append, zn, yc, zz, za, y6, wd, zc7, Option.map_some, zdt, decide_true, h1, a1, a3, bp, je, q1]
      rw [e]
      simp
      done
  · rintro st ⟨⟨j, rfl⟩, e⟩
    have h1 : ((bl.length : Int) < (bl.length : Int)) = False := by simp
    simp only [ya, zs, w7, xe, zb, zu, yb, zm, zc, zo, zf, ze, zd, List.set_cons_succ, List.set_cons_zero, O_mv, yx, yg, x9, zn, yc, za, yz, yk, zc7, xj, decide_false, h1]
    rw [e, List.drop_length]
    simp [idxD]
    done
end Go.Proofs.YtljdbheclfaloaaGreatDoor.AM
namespace Go.Proofs.YtljdbheclfaloaaGreatDoor.AM
open Go.RowKit
set_option linter.unusedSimpArgs false
set_option linter.unusedVariables false
set_option maxRecDepth 20000

theorem ybx {h : Heap} {b o n : Nat} {v : Option Nat} {l : List Value} (e : h.read ⟨b, o, v⟩ n = some l) {i m : Nat} (hi : i + m ≤ n) : h.read ⟨b, o + i, v⟩ m = some ((l.drop i).take m) := by
  unfold Heap.read at e ⊢
  simp only at e ⊢
  cases hb : h[b]? with
  | none => rw [hb] at e; cases e
  | some x =>
    rw [hb] at e
    cases x with
    | cells c w ro =>
      simp only at e ⊢
      split at e
      · rename_i hc
        rw [if_pos ⟨hc.1, by omega⟩]
        cases e
        congr 1
        rw [List.drop_take, List.drop_drop, List.take_take, Nat.min_eq_left (by omega)]
      · cases e
    | map es => cases e
    | gone => cases e
theorem v0_s : v0.s = 0#32 := rfl
theorem v0_r : v0.r = fun _ => 0#32 := rfl
def begE (known : Kn) (bl : En) (k : Nat) : En := (known.take k).foldl (fun en d => setE d.1 d.2 (zoh d bl) en) []
structure BgS (h : Heap) (u : U) (known : Kn) (bl : En) (k : Nat) (K : Heap) : Prop where
  w : Wd K (h.length + 1) h.length u (begE known bl k)
  p : Pre h K
theorem yfv {h K : Heap} {u : U} {known : Kn} {bl : En} {k : Nat} (e : BgS h u known bl k K) {d : Bys × Bool} (hd : known[k]? = some d) (a : List Value) :
    ∃ K', updO (K ++ [.cells a 0 false, .cells (w8 d.1 d.2 (zoh d bl)) 0 false]) .str (.map (some h.length)) (str d.1) (agg (w8 d.1 d.2 (zoh d bl))) = some (undef, K') ∧ BgS h u known bl (k + 1) K' := by
  refine ⟨_, zmq _ (e.w.more _).hk (ydy d.1 d.2 (zoh d bl) _), ?_, (e.p.more _).set (Nat.le_refl _) _⟩
  have e2 : begE known bl (k + 1) = setE d.1 d.2 (zoh d bl) (begE known bl k) := zap hd _ _
  rw [e2]
  exact (e.w.more _).set _
def BgI (h : Heap) (u : U) (known : Kn) (bl : En) (bs ks : Value) (k : Nat) (st : St) : Prop := ∃ K, (∃ j : Nat → Value, st = ⟨[j 0, j 1, bs, j 3, j 4, j 5, j 6, pt (h.length + 1), j 8, j 9, j 10, j 11, j 12, j 13, j 14, j 15, j 16, j 17, j 18, ks, .int .i64 (known.length : Int), .int .i64 (k : Int), j 22, j 23, j 24, j 25, j 26, j 27, j 28, j 29, j 30, j 31, j 32, j 33, j 34, j 35, j 36, j 37, j 38, j 39, j 40, j 41, j 42, j 43, j 44, j 45, j 46, j 47, j 48, j 49, j 50, j 51, j 52, j 53, j 54, j 55, j 56, j 57, j 58, j 59], K⟩) ∧ BgS h u known bl k K
def BgO (h : Heap) (u : U) (known : Kn) (bl : En) (st : St) : Prop := ∃ K, (∃ j : Nat → Value, st = ⟨[j 0, j 1, j 2, j 3, j 4, j 5, j 6, pt (h.length + 1), j 8, j 9, j 10, j 11, j 12, j 13, j 14, j 15, j 16, j 17, j 18, j 19, j 20, j 21, j 22, j 23, j 24, j 25, j 26, j 27, j 28, j 29, j 30, j 31, j 32, j 33, j 34, j 35, j 36, j 37, j 38, j 39, j 40, j 41, j 42, j 43, j 44, j 45, j 46, j 47, j 48, j 49, j 50, j 51, j 52, j 53, j 54, j 55, j 56, j 57, j 58, j 59], K⟩) ∧ BgS h u known bl known.length K
set_option maxHeartbeats 8000000 in
theorem zye {h : Heap} {mb : Nat} {u : U} {known : Kn} {bl : En} {bs ks ss : Value} (hm : h[mb]? = some (.cells [ks, ss] 0 false)) (hk : Sl h ks 2 (known.map wq)) (hkl : known.length ≤ 10000) (hb : Sl h bs 35 (fj bl)) (hbl : bl.length < 4611686018427387904) :
    ∃ h', DF FF fo [pt mb, .int .u32 (u.toNat : Int), bs] h = some (pt (h.length + 1), h') ∧ Wd h' (h.length + 1) h.length u (begE known bl known.length) ∧ Pre h h' := by
  have : ∃ v h', DF FF fo [pt mb, .int .u32 (u.toNat : Int), bs] h = some (v, h') ∧ (v = pt (h.length + 1) ∧ Wd h' (h.length + 1) h.length u (begE known bl known.length) ∧ Pre h h') := by
    refine ww zjo ?_
    have rm : ∀ L j, Heap.read1 (h ++ L) ⟨mb, j, some 0⟩ = ([ks, ss] : List Value)[j]? := fun L j => x5 (y8 L hm)
    have lens : ∀ K, lenO K ks = some (.int .i64 (known.length : Int), K) := fun K => by rw [hk.len, List.length_map]
    have fw : wz [.int .u32 0, .map none] [(0, 1, .int .u32 (u.toNat : Int)), (1, 1, .map (some h.length))] = some [.int .u32 (u.toNat : Int), .map (some h.length)] := by
      rw [wu _ (by simp), zu1 _ (by simp), yy]; rfl
    have s0 : BgS h u known bl 0 (h ++ [.map [], .cells [.int .u32 (u.toNat : Int), .map (some h.length)] 0 false]) := ⟨⟨by simp, by simp [begE, enE]⟩, ⟨_, rfl⟩⟩
    simp only [zdx, ya, zb, yb, zm, zc, zo, zf, ze, zd, List.set_cons_succ, List.set_cons_zero, O_mv, yg, j6, zy, zk, x8, y9, yd, z8, List.cons_append, List.nil_append, List.length_cons, List.length_nil, Nat.reduceAdd, Nat.reduceSub, Nat.zero_add, zn, yc, zz, za, w9, xb, z7, zq, zj, zh, zg, List.append_assoc, List.length_append, Nat.add_zero, List.getElem?_cons_zero, eq_self, yh, zt, yj, fz, ze7, fw, yh, zt, rm, lens]
    refine f9 0 known.length (BgI h u known bl bs ks) (BgO h u known bl) ?_ ?_ _ ⟨_, junk rfl, s0⟩ ?_
    · rintro k st hk' ⟨K, ⟨j, rfl⟩, e⟩
      have hd : known[k]? = some known[k] := List.getElem?_eq_getElem hk'
      obtain ⟨b', o, v, a1, a2⟩ := (hk.pre e.p).atH (k := k) (by simpa using hk')
      have a2 : Heap.read K ⟨b', o, some v⟩ 2 = some (wq known[k]) := by rw [a2]; simp
      obtain ⟨d, hdd⟩ : ∃ d, d = known[k] := ⟨_, rfl⟩
      rw [← hdd] at a2 hd
      have h1 : ((k : Int) < (known.length : Int)) = True := by simp; omega
      have rq : ∀ L j, Heap.read1 (K ++ L) ⟨h.length + 1, j, some 0⟩ = ([.int .u32 (u.toNat : Int), .map (some h.length)] : List Value)[j]? := fun L j => x5 (e.w.more L).hq
      obtain ⟨H1, hH1⟩ : ∃ H1, H1 = K ++ [AObj.cells (wq d) 0 false, AObj.cells (w8 d.1 d.2 v0) 0 false] := ⟨_, rfl⟩
      have hb1 : Sl H1 bs 35 (fj bl) := by rw [hH1]; exact (hb.pre e.p).more _
      have q1 := yfb d bl (h := H1) (s := bs) (c := K.length) hb1 hbl (by rw [hH1]; simp)
      rw [hH1] at q1
      obtain ⟨K', w1, e'⟩ := yfv e hd (wq d)
      have hp : zoh d bl = match idxD d bl with | none => v0 | some i => match bl[i]? with | none => v0 | some p => if d.2 then ⟨p.2.2.s, fun _ => 0#32⟩ else ⟨0#32, p.2.2.r⟩ := by
        unfold zoh; rw [zql]
        cases idxD d bl <;> rfl
      cases hi : idxD d bl with
      | none =>
        rw [hi] at q1 hp
        simp only at q1 hp
        rw [hp] at w1
        simp only [wq] at a2 q1 w1
        simp only [ya, zs, yl, zb, zx, yb, zm, zc, zp, zo, zf, ze, zd, List.set_cons_succ, List.set_cons_zero, O_mv, yx, yg, ye, List.map_cons, List.map_nil, ve, zy, zk, xr, y5, x8, y9, yd, z8, yy, bk, Nat.zero_lt_succ, Nat.reduceLT, vw, x9, List.cons_append, List.nil_append, List.length_cons, List.length_nil, Nat.reduceAdd, Nat.zero_add, zn, yc, zz, za, zi, yq, xb, z7, zl, yu, z6, zq, zj, yr, yo, qq, qx, xf, yi, vc, vj, zw, vo, zr, List.append_assoc, List.length_append, Nat.add_zero, Option.map_some, List.getElem?_cons_zero, List.getElem?_cons_succ, Int.reduceLT, eq_self, yp, wm, decide_true, jz, zi3, zds, h1, a1, a2, gy, q1, rq, f5, w1, xo (k := k) (by omega)]
        exact ⟨K', junk rfl, e'⟩
      | some i =>
        have hlt := zw8 d hi
        have hb0 : bl[i]? = some bl[i] := List.getElem?_eq_getElem hlt
        rw [hi] at q1 hp
        simp only [hb0] at q1 hp
        obtain ⟨b2, o2, v2, r1, r2⟩ := hb1.atH (k := i) (by simpa [fj] using hlt)
        have r2 : Heap.read H1 ⟨b2, o2, some v2⟩ 35 = some (w8 bl[i].1 bl[i].2.1 bl[i].2.2) := by rw [r2]; simp [fj]
        have r3 := ycl r2 (bd_2 bl[i].1 bl[i].2.1 bl[i].2.2)
        have r4 := ybx r2 (i := 3) (m := 32) (by decide)
        rw [zy9] at r4
        rw [hH1] at r3 r4
        have hneg : ((i : Int) < 0) = False := by simp
        cases hd2 : d.2
        · rw [hd2] at w1 hp q1 r3 r4 hH1
          rw [hp] at w1
          simp only [wq, hd2, Bool.false_eq_true, if_false] at a2 q1 w1 r3 r4
          simp only [ya, zs, yl, zb, zx, zu, yb, zm, zc, zp, zo, zf, ze, zd, List.set_cons_succ, List.set_cons_zero, O_mv, yx, yg, ye, List.map_cons, List.map_nil, ve, zy, zk, xr, y5, x8, y9, yd, z8, yy, bk, Nat.zero_lt_succ, Nat.reduceLT, vw, x9, List.cons_append, List.nil_append, List.length_cons, List.length_nil, Nat.reduceAdd, Nat.zero_add, zn, yc, zz, za, zi, yq, xb, z7, zl, yu, z6, zq, zj, yr, yo, qq, qx, xf, yi, vc, vj, zw, vo, zr, List.append_assoc, List.length_append, Nat.add_zero, Option.map_some, List.getElem?_cons_zero, List.getElem?_cons_succ, eq_self, yp, wm, decide_true, decide_false, x7, jz, zi3, zds, ya0, h1, a1, a2, gy, q1, hneg, r1, r4, v0_s, rq, f5, w1, xo (k := k) (by omega)]
          exact ⟨K', junk rfl, e'⟩
        · rw [hd2] at w1 hp q1 r3 r4 hH1
          rw [hp] at w1
          simp only [wq, hd2, if_true] at a2 q1 w1 r3 r4
          simp only [ya, zs, yl, zb, zx, zu, yb, zm, zc, zp, zo, zf, ze, zd, List.set_cons_succ, List.set_cons_zero, O_mv, yx, yg, ye, List.map_cons, List.map_nil, ve, zy, zk, xr, y5, x8, y9, yd, z8, yy, bk, Nat.zero_lt_succ, Nat.reduceLT, vw, x9, List.cons_append, List.nil_append, List.length_cons, List.length_nil, Nat.reduceAdd, Nat.zero_add, zn, yc, zz, za, zi, yq, xb, z7, zl, xc, xx, yu, z6, zq, zj, yr, yo, qq, qx, xf, yi, vc, ba, b4, vk, vj, zw, vo, zr, List.append_assoc, List.length_append, Nat.add_zero, Option.map_some, List.getElem?_cons_zero, List.getElem?_cons_succ, eq_self, yp, wm, decide_true, decide_false, jz, zi3, zds, zzj, h1, a1, a2, gy, q1, hneg, r1, r3, v0_r, rq, f5, w1, xo (k := k) (by omega)]
          exact ⟨K', junk rfl, e'⟩
    · rintro st ⟨K, ⟨j, rfl⟩, e⟩
      have h1 : ((known.length : Int) < (known.length : Int)) = False := by simp
      simp only [ya, zs, w7, zb, zu, yb, zm, zc, zo, ze, zd, List.set_cons_succ, List.set_cons_zero, yx, yg, x9, zn, yc, za, yz, ku, xj, decide_false, h1, ku]
      exact ⟨K, junk rfl, e⟩
    rintro st ⟨K, ⟨j, rfl⟩, e⟩
    simp only [ya, xe, zb, yb, zm, zc, zo, ze, zd, List.set_cons_succ, List.set_cons_zero, O_mv, zn, yc, za, yk, xy, eq_self, kv]
    exact ⟨trivial, e.w, e.p⟩
  obtain ⟨v, h', hq, rfl, hw, hp⟩ := this
  exact ⟨h', hq, hw, hp⟩
end Go.Proofs.YtljdbheclfaloaaGreatDoor.AM
namespace Go.Proofs.YtljdbheclfaloaaGreatDoor.AM
open Go.RowKit
set_option linter.unusedSimpArgs false
set_option linter.unusedVariables false
set_option maxRecDepth 20000

theorem KC.pre {km : Nat} {h K H : Heap} (p : Pre h K) (k : KC km K H) (hk : h.length ≤ km) : Pre h H :=
  Pre.of (Nat.le_trans p.le k.le) fun b o ho => k.oth b o (p.kept b o ho) (by have := zch ho; omega)
def knAt (kn : Kn) (l : List Stm) (k : Nat) : Kn := (l.take k).foldl (fun kn s => kn ++ s.given) kn
def enAt (u : U) (env : En) (l : List Stm) (k : Nat) : En := (l.take k).foldl (doE u) env
theorem zst : ∀ {l : List Stm} {kn : Kn} {k : Nat} {s : Stm}, zqa kn l → l[k]? = some s → zy2 (knAt kn l k) s
  | [], kn, k, s, h, hk => by simp at hk
  | x :: l, kn, 0, s, h, hk => by cases hk; exact h.1
  | x :: l, kn, k + 1, s, h, hk => zst (kn := kn ++ x.given) h.2 (by simpa using hk)
theorem zxl {u : U} : ∀ {l : List Stm} {env : En} {s : Stm} {k : Nat}, l[k]? = some s → zgv u env (l.drop k) = if zwy u env s then zgv u (doE u env s) (l.drop (k + 1)) else some (zvs s) := by
  intro l env s k h
  rw [zdg h, zgv]
structure HoS (h : Heap) (u : U) (md : Md) (env0 : En) (ss : Value) (k : Nat) (K : Heap) : Prop where
  w : Wd K (h.length + 1) h.length u (enAt u env0 md.l k)
  p : Pre h K
  e : EnI (knAt md.known md.l k) (enAt u env0 md.l k)
theorem zx9 {h : Heap} {u : U} {md : Md} {env0 : En} {ss : Value} {k : Nat} {K : Heap} {rows : List (List Value)} {T : Nat → Prop} (hs : Sl h ss 4 rows) (sp : StsP h T rows md.l) (ok : zqa md.known md.l) (e : HoS h u md env0 ss k K) {s : Stm} (hk : md.l[k]? = some s) :
    ∃ row b' o v K', row.length = 4 ∧ row[3]? = some (str (zvs s)) ∧ (∀ H', rowO H' 4 ss (.int .i64 (k : Int)) = some (.pointer (some ⟨b', o, some v⟩), H')) ∧ Heap.read K ⟨b', o, some v⟩ 4 = some row ∧
      DF FF qb [pt (h.length + 1), agg row] (K ++ [.cells row 0 false]) = some (.bool (zwy u (enAt u env0 md.l k) s), K') ∧ HoS h u md env0 ss (k + 1) K' ∧ K'[K.length]? = some (.cells row 0 false) := by
  obtain ⟨row, Tk, hr, sk, _⟩ := sp.focus hk
  have hlt := (List.getElem?_eq_some_iff.1 hr).1
  obtain ⟨b', o, v, a1, a2⟩ := (hs.pre e.p).atH (k := k) hlt
  have hr' : rows[k] = row := (List.getElem?_eq_some_iff.1 hr).2
  rw [hr'] at a2
  have h4 : row.length = 4 := hs.2 row (List.mem_of_getElem? hr)
  have h3 : row[3]? = some (str (zvs s)) := by
    cases s with
    | lets rc gs => obtain ⟨_, _, _, rfl, _⟩ := sk; rfl
    | chk c x a => obtain ⟨_, rfl, _⟩ := sk; rfl
  have skK : StP (K ++ [AObj.cells row 0 false]) Tk row s := sk.keep fun b o _ ho => y8 _ (e.p.kept b o ho)
  obtain ⟨K', q1, w1, k1⟩ := ygd (e.w.more [.cells row 0 false]) skK (zst ok hk) e.e
  have e1 : enAt u env0 md.l (k + 1) = doE u (enAt u env0 md.l k) s := zap hk _ _
  have e2 : knAt md.known md.l (k + 1) = knAt md.known md.l k ++ s.given := zap hk _ _
  exact ⟨row, b', o, v, K', h4, h3, a1, a2, q1, ⟨by rw [e1]; exact w1, KC.pre (e.p.more _) k1 (Nat.le_refl _), by rw [e1, e2]; exact yfy (zst ok hk) e.e⟩, k1.keep _ _ _ _ (by simp)⟩
theorem ydf {h K : Heap} (p : Pre h K) (b : Bool) (w : Bys) : AM.finish h (tup [.bool b, str w]) K = h := by obtain ⟨L, rfl⟩ := p; exact g9 h L rfl
def zxk : Option Bys → Value
  | none => tup [.bool true, str []]
  | some w => tup [.bool false, str w]
def HoI (h : Heap) (u : U) (md : Md) (env0 : En) (ss : Value) (k : Nat) (st : St) : Prop := ∃ K, (∃ j : Nat → Value, st = ⟨[j 0, j 1, j 2, j 3, j 4, j 5, j 6, j 7, pt (h.length + 1), j 9, j 10, j 11, j 12, j 13, j 14, j 15, j 16, j 17, ss, .int .i64 (md.l.length : Int), .int .i64 (k : Int), j 21, j 22, j 23, j 24, j 25, j 26, j 27, j 28, j 29, j 30], K⟩) ∧ HoS h u md env0 ss k K ∧ zgv u env0 md.l = zgv u (enAt u env0 md.l k) (md.l.drop k)
theorem zv8 {known : Kn} {bl : En} : ∀ k, k ≤ known.length → (known.map (·.1)).Nodup → KdOk (known.take k) (begE known bl k) ∧ S0 (begE known bl k) := by
  intro k
  induction k with
  | zero => intro _ _; exact ⟨fun w => rfl, fun w v h => by simp [begE, fr] at h⟩
  | succ k ih =>
    intro hk hn
    obtain ⟨a, z⟩ := ih (by omega) hn
    have hd : known[k]? = some known[k] := List.getElem?_eq_getElem (by omega)
    have e : begE known bl (k + 1) = setE known[k].1 known[k].2 (zoh known[k] bl) (begE known bl k) := zap hd _ _
    rw [e, List.take_add_one, hd]
    simp only [Option.toList_some]
    have hnew : jg (known.take k) known[k].1 = none := by
      rw [zga, Option.map_eq_none_iff, List.find?_eq_none]
      intro p hp he
      have he : known[k].1 = p.1 := eq_of_beq he
      obtain ⟨i, hi, hip⟩ := List.getElem_of_mem hp
      rw [List.getElem_take] at hip
      have hik : i < k := by simp at hi; omega
      have := (List.nodup_iff_pairwise_ne.1 hn)
      rw [List.pairwise_iff_getElem] at this
      have := this i k (by simp; omega) (by simp; omega) hik
      simp only [List.getElem_map] at this
      rw [hip] at this
      exact this he.symm
    refine ⟨fun w => ?_, fun w v h => ?_⟩
    · rw [bh, gu]
      by_cases hw : w = known[k].1
      · subst hw
        rw [if_pos (by simp), hnew]; simp [jg]
      · rw [if_neg (by simpa using hw), a w]
        have : jg [known[k]] w = none := by rw [jg, if_neg (by simpa using hw)]; rfl
        rw [this, Option.or_none]
    · rw [bh] at h
      by_cases hw : w = known[k].1
      · rw [if_pos (by simpa using hw)] at h
        simp only [Option.some.injEq, Prod.mk.injEq] at h
        obtain ⟨h1, rfl⟩ := h
        unfold zoh
        split
        · rfl
        · rw [h1]; rfl
      · rw [if_neg (by simpa using hw)] at h; exact z w v h
theorem zf5 : ∀ (ns kn : Kn), (kn.map (·.1)).Nodup → ((fi kn ns).map (·.1)).Nodup
  | [], kn, h => by rw [fi]; exact h
  | d :: r, kn, h => by
    rw [fi]
    split
    · exact zf5 r kn h
    · rename_i hd
      refine zf5 r _ ?_
      rw [List.map_append, List.map_singleton]
      refine List.nodup_append.2 ⟨h, by simp, fun a ha b hb => ?_⟩
      simp at hb
      subst hb
      rintro rfl
      obtain ⟨p, hp, he⟩ := List.mem_map.1 ha
      apply hd
      rw [zga, Option.isSome_map, List.find?_isSome]
      exact ⟨p, hp, by simp [he]⟩
structure MdOk (md : Md) : Prop where
  nd : (md.known.map (·.1)).Nodup
  ok : zqa md.known md.l
def env0 (md : Md) (bl : En) : En := begE md.known bl md.known.length
theorem zx5 {md : Md} (ok : MdOk md) (bl : En) : EnI md.known (env0 md bl) := by
  obtain ⟨a, z⟩ := zv8 (bl := bl) md.known.length (Nat.le_refl _) ok.nd
  rw [List.take_length] at a
  exact ⟨a, z⟩
set_option maxHeartbeats 4000000 in
theorem zls {h : Heap} {S : Nat → Prop} {mb : Nat} {md : Md} {u : U} {bl : En} {bs : Value} (M : ModP h S mb md) (ok : MdOk md) (hb : Sl h bs 35 (fj bl)) (hbl : bl.length < 4611686018427387904) :
    DF FF fq [pt mb, .int .u32 (u.toNat : Int), bs] h = some (zxk (zgv u (env0 md bl) md.l), h) := by
  obtain ⟨⟨ks, ss, rows, T, hm, hk, hs, sp, _⟩, _, hlen⟩ := M
  have : ∃ v h', DF FF fq [pt mb, .int .u32 (u.toNat : Int), bs] h = some (v, h') ∧ (v = zxk (zgv u (env0 md bl) md.l) ∧ h' = h) := by
    refine ww zi2 ?_
    obtain ⟨H, q0, w0, p0⟩ := zye (u := u) hm hk hlen.2.1 hb hbl
    have lens : ∀ K, lenO K ss = some (.int .i64 (md.l.length : Int), K) := fun K => by rw [hs.len, (sp.len).1]
    have rm : ∀ j, Heap.read1 H ⟨mb, j, some 0⟩ = ([ks, ss] : List Value)[j]? := fun j => x5 (p0.kept _ _ hm)
    simp only [zdv, ya, zb, yb, zm, zc, zo, zf, ze, zd, List.set_cons_succ, List.set_cons_zero, O_mv, yg, ye, List.map_cons, List.map_nil, j6, zy, zk, List.cons_append, List.nil_append, List.length_cons, List.length_nil, Nat.reduceAdd, Nat.reduceSub, Nat.zero_add, zn, yc, zz, za, xb, z7, zq, zj, zh, zg, List.getElem?_cons_zero, List.getElem?_cons_succ, yj, q0, rm, lens]
    refine zaq md.l.length (HoI h u md (env0 md bl) ss) ?_ ?_ _ ⟨H, junk rfl, ⟨w0, p0, zx5 ok bl⟩, rfl⟩
    · rintro k st hk' ⟨K, ⟨j, rfl⟩, e, he⟩
      have hd : md.l[k]? = some md.l[k] := List.getElem?_eq_getElem hk'
      obtain ⟨row, b', o, v, K', h4, h3, a1, a2, q1, e', hrow⟩ := zx9 hs sp ok.ok e hd
      have h1 : ((k : Int) < (md.l.length : Int)) = True := by simp; omega
      rw [zxl hd] at he
      cases hh : zwy u (enAt u (env0 md bl) md.l k) md.l[k]
      · rw [hh] at q1 he
        have rr : Heap.read1 K' ⟨K.length, 3, some 0⟩ = some (str (zvs md.l[k])) := by rw [x5 hrow, h3]
        simp only [ya, zs, xe, yl, zb, zx, yb, zm, zc, zp, zo, zf, ze, zd, List.set_cons_succ, List.set_cons_zero, O_mv, yx, yg, O_un, ye, List.map_cons, List.map_nil, ve, zy, zk, xr, y5, x9, vt, List.length_cons, List.length_nil, Nat.reduceAdd, Nat.zero_add, Bool.not_false, zn, yc, zz, za, y6, wd, yq, xb, z7, zl, yu, z6, xl, xf, yi, zw, zr, Option.map_some, zfw, eq_self, zdt, decide_true, h1, a1, a2, h4, q1, rr, ydf e'.p]
        rw [he]
        exact ⟨rfl, trivial⟩
      · rw [hh] at q1 he
        simp only [ya, zs, yl, zb, zx, zu, yb, zm, zc, zp, zo, zf, ze, zd, List.set_cons_succ, List.set_cons_zero, O_mv, yx, yg, O_un, ye, List.map_cons, List.map_nil, ve, xr, y5, vw, x9, vt, List.length_cons, List.length_nil, Nat.reduceAdd, Nat.zero_add, Bool.not_true, zn, yc, zz, za, zi, yq, zl, yu, z6, xl, xf, yi, zw, zr, Option.map_some, eq_self, yp, decide_true, h1, a1, a2, h4, q1, xo (k := k) (by omega)]
        have e1 : enAt u (env0 md bl) md.l (k + 1) = doE u (enAt u (env0 md bl) md.l k) md.l[k] := zap hd _ _
        exact ⟨K', junk rfl, e', by rw [he, e1]; rfl⟩
    · rintro st ⟨K, ⟨j, rfl⟩, e, he⟩
      have h1 : ((md.l.length : Int) < (md.l.length : Int)) = False := by simp
      simp only [ya, zs, w7, xe, zb, zu, yb, zm, zc, zo, zf, ze, zd, List.set_cons_succ, List.set_cons_zero, O_mv, yx, yg, x9, zn, yc, za, yz, yk, zfw, eq_self, xj, decide_false, h1, ydf e.p]
      rw [he, List.drop_length]
      exact ⟨rfl, trivial⟩
  obtain ⟨v, h', hq, rfl, rfl⟩ := this
  exact hq
def VaI (h h1 : Heap) (u : U) (md : Md) (env0 : En) (ss : Value) (w : Bys) (k : Nat) (st : St) : Prop := ∃ K, (∃ j : Nat → Value, st = ⟨[j 0, str w, j 2, j 3, j 4, j 5, j 6, j 7, .pointer (some ⟨h.length, 0, some 0⟩), j 9, pt (h.length + 1 + 1), j 11, j 12, j 13, j 14, j 15, j 16, j 17, j 18, j 19, j 20, j 21, ss, .int .i64 (md.l.length : Int), .int .i64 (k : Int), j 25, j 26, j 27, j 28, j 29, j 30, j 31, j 32, j 33, j 34, j 35, j 36, j 37, j 38, j 39, j 40, j 41, j 42, j 43, j 44], K⟩) ∧ HoS h1 u md env0 ss k K
def VaO (h h1 : Heap) (u : U) (md : Md) (env0 : En) (ss : Value) (w : Bys) (st : St) : Prop := ∃ K, (∃ j : Nat → Value, st = ⟨[j 0, str w, j 2, j 3, j 4, j 5, j 6, j 7, .pointer (some ⟨h.length, 0, some 0⟩), j 9, pt (h.length + 1 + 1), j 11, j 12, j 13, j 14, j 15, j 16, j 17, j 18, j 19, j 20, j 21, j 22, j 23, j 24, j 25, j 26, j 27, j 28, j 29, j 30, j 31, j 32, j 33, j 34, j 35, j 36, j 37, j 38, j 39, j 40, j 41, j 42, j 43, j 44], K⟩) ∧ HoS h1 u md env0 ss md.l.length K
def zne (env : En) (w : Bys) : Value := match fr w env with
  | none => tup [agg (w8 [] false v0), .int .i64 40]
  | some p => tup [agg (w8 w p.1 p.2), .int .i64 0]
theorem yel (u : U) (env : En) (l : List Stm) : enAt u env l l.length = envM u env l := by unfold enAt envM; rw [List.take_length]
theorem yd1 (h : Heap) {K : Heap} (p : Pre h K) (n : Bys) (b : Bool) (v : Vv) (i : Int) : AM.finish h (tup [agg (w8 n b v), .int .i64 i]) K = h := by
  obtain ⟨L, rfl⟩ := p
  refine g9 h L ?_
  have : plain (agg (w8 n b v)) = true := zu4 n b v
  show ([agg (w8 n b v), Value.int .i64 i].all plain) = true
  rw [List.all_cons, this]; rfl
set_option maxHeartbeats 4000000 in
theorem zku {h : Heap} {S : Nat → Prop} {mb : Nat} {md : Md} {u : U} {bl : En} {bs : Value} (M : ModP h S mb md) (ok : MdOk md) (hb : Sl h bs 35 (fj bl)) (hbl : bl.length < 4611686018427387904) (w : Bys) :
    DF FF fk [pt mb, str w, .int .u32 (u.toNat : Int), bs] h = some (zne (envM u (env0 md bl) md.l) w, h) := by
  obtain ⟨⟨ks, ss, rows, T, hm, hk, hs, sp, _⟩, _, hlen⟩ := M
  have : ∃ v h', DF FF fk [pt mb, str w, .int .u32 (u.toNat : Int), bs] h = some (v, h') ∧ (v = zne (envM u (env0 md bl) md.l) w ∧ h' = h) := by
    refine ww zjk ?_
    obtain ⟨h1, hh1⟩ : ∃ h1, h1 = h ++ [AObj.cells (w8 [] false v0) 0 false] := ⟨_, rfl⟩
    have p1 : Pre h h1 := ⟨_, hh1⟩
    have l1 : h1.length = h.length + 1 := by rw [hh1]; simp
    have hm1 := p1.kept _ _ hm
    have hs1 : Sl h1 ss 4 rows := hs.pre p1
    have sp1 : StsP h1 T rows md.l := sp.keep fun b o _ ho => p1.kept b o ho
    obtain ⟨H, q0, w0, p0⟩ := zye (u := u) hm1 (hk.pre p1) hlen.2.1 (hb.pre p1) hbl
    have lens : ∀ K, lenO K ss = some (.int .i64 (md.l.length : Int), K) := fun K => by rw [hs.len, (sp.len).1]
    have rm : ∀ j, Heap.read1 H ⟨mb, j, some 0⟩ = ([ks, ss] : List Value)[j]? := fun j => x5 (p0.kept _ _ hm1)
    have z1 : h1[h.length]? = some (.cells (w8 [] false v0) 0 false) := by rw [hh1]; simp
    rw [l1] at q0 w0
    simp only [zd4, ya, zb, yb, zm, zc, zo, zf, ze, zd, List.set_cons_succ, List.set_cons_zero, O_mv, yg, ye, List.map_cons, List.map_nil, j6, zy, zk, List.cons_append, List.nil_append, List.length_cons, List.length_nil, Nat.reduceAdd, Nat.reduceSub, Nat.zero_add, zn, yc, zz, za, yq, xb, z7, zq, zj, zh, zg, List.getElem?_cons_zero, List.getElem?_cons_succ, yj, fz, ← hh1, q0, rm, lens]
    refine f9 0 md.l.length (VaI h h1 u md (env0 md bl) ss w) (VaO h h1 u md (env0 md bl) ss w) ?_ ?_ _ ⟨H, junk rfl, ⟨by rw [l1]; exact w0, p0, zx5 ok bl⟩⟩ ?_
    · rintro k st hk' ⟨K, ⟨j, rfl⟩, e⟩
      have hd : md.l[k]? = some md.l[k] := List.getElem?_eq_getElem hk'
      obtain ⟨row, b', o, v, K', h4, h3, a1, a2, q1, e', hrow⟩ := zx9 hs1 sp1 ok.ok e hd
      rw [l1] at q1
      have hl : ((k : Int) < (md.l.length : Int)) = True := by simp; omega
      simp only [ya, zs, yl, zb, zx, yb, zm, zc, zp, zo, zf, ze, zd, List.set_cons_succ, List.set_cons_zero, O_mv, yx, yg, ye, List.map_cons, List.map_nil, ve, xr, y5, vw, x9, List.length_cons, List.length_nil, Nat.reduceAdd, Nat.zero_add, zn, yc, zz, za, zi, yq, zl, yu, z6, xl, xf, yi, zw, zr, Option.map_some, eq_self, yp, decide_true, hl, a1, a2, h4, q1, xo (k := k) (by omega)]
      exact ⟨K', junk rfl, e'⟩
    · rintro st ⟨K, ⟨j, rfl⟩, e⟩
      have hl : ((md.l.length : Int) < (md.l.length : Int)) = False := by simp
      simp only [ya, zs, w7, zb, zu, yb, zm, zc, zo, ze, zd, List.set_cons_succ, List.set_cons_zero, yx, yg, x9, zn, yc, za, yz, ku, xj, decide_false, hl, ku]
      exact ⟨K, junk rfl, e⟩
    rintro st ⟨K, ⟨j, rfl⟩, e⟩
    have we := e.w
    rw [yel, l1] at we
    have pK : Pre h K := p1.trans e.p
    have zK : ∀ L, (K ++ L)[h.length]? = some (.cells (w8 [] false v0) 0 false) := fun L => y8 L (e.p.kept _ _ z1)
    have rq : ∀ L j, Heap.read1 (K ++ L) ⟨h.length + 1 + 1, j, some 0⟩ = ([.int .u32 (u.toNat : Int), .map (some (h.length + 1))] : List Value)[j]? := fun L j => x5 (we.more L).hq
    have rq0 : ∀ j, Heap.read1 K ⟨h.length + 1 + 1, j, some 0⟩ = ([.int .u32 (u.toNat : Int), .map (some (h.length + 1))] : List Value)[j]? := fun j => x5 we.hq
    have lk := zfr K we.hk (agg (w8 [] false v0)) true (w := w) (zs6 _ w)
    have hlt : h.length < K.length := zch (e.p.kept _ _ z1)
    have wr : ∀ L n b v, Heap.write (K ++ L) ⟨h.length, 0, some 0⟩ (w8 n b v) = some ((K ++ L).set h.length (.cells (w8 n b v) 0 false)) := fun L n b v => zcx (zK L) (by rw [jz, jz])
    have rd : ∀ L n b v, Heap.read ((K ++ L).set h.length (.cells (w8 n b v) 0 false)) ⟨h.length, 0, some 0⟩ 35 = some (w8 n b v) := fun L n b v => fm (by simp; omega) (jz _ _ _)
    have pf : ∀ L n b v, Pre h ((K ++ L).set h.length (.cells (w8 n b v) 0 false)) := fun L n b v => (pK.more L).set (Nat.le_refl _) _
    cases hl : fr w (envM u (env0 md bl) md.l) with
    | none =>
      simp only [hl, Option.map_none, zg9, if_true] at lk
      simp only [ya, zs, xe, zb, zx, yb, zm, zc, zp, zo, zf, ze, zd, List.set_cons_succ, List.set_cons_zero, O_mv, yg, O_un, zy, zk, x8, y9, yd, yy, vt, Nat.zero_add, Bool.not_false, zn, yc, za, y6, yk, yq, xb, z7, xh, y7, zl, yu, z6, zq, zj, yi, zw, zr, List.getElem?_cons_zero, List.getElem?_cons_succ, zhs, pa, zan, eq_self, jz, rq0, gc, lk, wr, rd]
      simp only [zne, hl, yd1 _ (pf _ _ _ _)]
      exact ⟨trivial, trivial⟩
    | some p =>
      simp only [hl, Option.map_some, zg9, if_true] at lk
      simp only [ya, zs, xe, yl, zb, zu, yb, zm, zc, zp, zo, zf, ze, zd, List.set_cons_succ, List.set_cons_zero, O_mv, yg, O_un, zy, zk, xr, y5, vt, Nat.zero_add, Bool.not_true, zn, yc, za, yk, yq, xb, z7, xh, y7, zl, yu, z6, zq, zj, xl, xf, yi, zw, zr, Option.map_some, List.getElem?_cons_zero, List.getElem?_cons_succ, zhs, pa, zan, eq_self, jz, rq0, gc, lk, wr, rd]
      simp only [zne, hl, yd1 _ (pf _ _ _ _)]
      exact ⟨trivial, trivial⟩
  obtain ⟨v, h', hq, rfl, rfl⟩ := this
  exact hq
end Go.Proofs.YtljdbheclfaloaaGreatDoor.AM
namespace Go.Proofs.YtljdbheclfaloaaGreatDoor.AM
open Go.RowKit
set_option linter.unusedSimpArgs false
set_option linter.unusedVariables false
set_option maxRecDepth 20000

theorem zm3 {e : Nat} : ∀ {k : Nat} {ts r : List Tok} {l : List Stm}, j5 e k ts = .ok l r → ∀ rc gs, Stm.lets rc gs ∈ l → gs.length ≤ ts.length
  | 0, ts, r, l, h, rc, gs, hm => by rw [j5] at h; cases h; cases hm
  | k + 1, [], r, l, h, rc, gs, hm => by rw [j5] at h; cases h; cases hm
  | k + 1, t :: ts, r, l, h, rc, gs, hm => by
    rw [j5] at h
    split at h
    · cases h
    · rename_i s r1 hs
      split at h
      · cases h
      · rename_i l2 r2 hl
        cases h
        have q := zfy hs
        rcases List.mem_cons.1 hm with hm | hm
        · have := q.2 rc gs hm.symm; simp only [List.length_cons]; omega
        · have := zm3 hl rc gs hm; simp only [List.length_cons]; omega
theorem zo7 {text : Bys} {names : Kn} {md : Md} (h : px text names = .ok md) : MdOk md ∧ text.length ≤ 4096 ∧ md.known = fi [] names ∧ ∃ ts l, k9 text 0 = .ok ts ∧ zfc text.length ts = .ok l [] ∧ chkM (fi [] names) 0 l = .ok md.l := by
  unfold px at h
  split at h
  · cases h
  · rename_i hn
    split at h
    · cases h
    · rename_i ts hs
      split at h
      · cases h
      · rename_i l r hl
        split at h
        · cases h
        · rename_i l' hk
          cases h
          have g := zl6 text.length text 0 ts (Nat.le_refl _) hs
          have lt := zlt ts fun t ht => (g.1 t ht).2
          have hr : r = [] := by
            have key : ∀ (k : Nat) (ts : List Tok) (l : List Stm) (r : List Tok), ts.length ≤ k → j5 text.length k ts = .ok l r → r = [] := by
              intro k
              induction k with
              | zero => intro ts l r hk h; rw [j5] at h; cases h; exact List.eq_nil_of_length_eq_zero (by omega)
              | succ k ih =>
                intro ts l r hk h
                cases ts with
                | nil => rw [j5] at h; cases h; rfl
                | cons t ts =>
                  rw [j5] at h
                  split at h
                  · cases h
                  · rename_i s r1 hs1
                    split at h
                    · cases h
                    · rename_i l2 r2 hl2
                      cases h
                      exact ih _ _ _ (by have := (zfy hs1).1; simp at hk; omega) hl2
            exact key _ _ _ _ (Nat.le_refl _) hl
          subst hr
          exact ⟨⟨zf5 names [] (by simp), zxq hk fun rc gs hm => by have := zm3 hl rc gs hm; omega⟩, by omega, rfl, ts, l, hs, hl, hk⟩
def yc1 : Bys := [108, 101, 116, 32, 116, 32, 61, 32, 114, 32, 59, 32, 114, 32, 97, 99, 121, 99, 108, 105, 99, 32, 116, 32, 97, 115, 32, 103, 111, 111, 100]
def nAble : Kn := [([114], false), ([87], true)]
def mdOf : CR Md → Md
  | .ok m => m
  | .bad _ _ => ⟨[], []⟩
def mAble : Md := mdOf (px yc1 nAble)
theorem znq : px yc1 nAble = .ok mAble := by kernel_rfl
theorem zti : px [97, 99, 121, 99, 108, 105, 99, 32, 87] nAble = .bad 41 8 := by kernel_rfl
def r2 (n : Nat) : Nat → U := fun k => if k = 0 then BitVec.ofNat 32 n else 0#32
def zs8 (n : Nat) : En := [([114], false, ⟨0#32, r2 n⟩)]
theorem zvr : zgv 3#32 (env0 mAble (zs8 2)) mAble.l = none := by kernel_rfl
theorem zrz : zgv 3#32 (env0 mAble (zs8 1)) mAble.l = some [103, 111, 111, 100] := by kernel_rfl
theorem ygv : (relV fun _ => 0#32).set 0 (.int .u32 2) = relV (r2 2) := by kernel_rfl
theorem yga : (relV fun _ => 0#32).set 0 (.int .u32 1) = relV (r2 1) := by kernel_rfl
theorem yct (w : Bys) (b : Bool) (v : Vv) (r : Nat → U) : wz (w8 w b v) [(3, 32, agg (relV r))] = some (w8 w b ⟨v.s, r⟩) := by
  have e : ∀ (x : Vv), w8 w b x = [str w, .bool b, .int .u32 (x.s.toNat : Int)] ++ relV x.r ++ [] := fun x => by rw [List.append_nil]; rfl
  rw [e, zgm (i := 3) (x7 r) rfl (x7 _), yy, e]
theorem zza (a : Bys) (b : Bool) (v : Vv) : wz (w8 [] false v0) [(0, 35, agg (w8 a b v))] = some (w8 a b v) := by
  have := zly (jz [] false v0) (jz a b v)
  simpa [bz] using this
set_option maxHeartbeats 4000000 in
theorem zlk {h : Heap} (g : Gl h) : DF FF fy [] h = some (.bool true, h) := by
  have : ∃ v h', DF FF fy [] h = some (v, h') ∧ (v = .bool true ∧ h' = h) := by
    refine ww zhj ?_
    have f1 : wz [str [], Value.bool false, str [], Value.bool false] [(0, 2, agg [str [114], Value.bool false]), (2, 2, agg [str [87], Value.bool true])] = some [str [114], Value.bool false, str [87], Value.bool true] := by rfl
    obtain ⟨H, hH⟩ : ∃ H, H = h ++ [AObj.cells [str [114], Value.bool false, str [87], Value.bool true] 0 false] := ⟨_, rfl⟩
    have sl : Sl H (.slice (some ⟨h.length, 0, some 0⟩) 2 2) 2 (nAble.map wq) := by
      rw [hH]; exact Sl.last (rows := nAble.map wq) (c := 2) h rfl rfl (by intro r hr; simp only [nAble, List.map_cons, List.map_nil, List.mem_cons, List.not_mem_nil, or_false] at hr; rcases hr with rfl | rfl <;> rfl) 0 false
    have p0 : Pre h H := ⟨_, hH⟩
    obtain ⟨v1, h1, q1, r1, p1⟩ := zhn yc1 nAble _ (g.pre p0) sl (by decide)
    rw [znq] at r1
    obtain ⟨mb, rfl, M⟩ := r1
    obtain ⟨v2, h2, q2, r2', p2⟩ := zhn [97, 99, 121, 99, 108, 105, 99, 32, 87] nAble _ ((g.pre p0).pre p1) (sl.pre p1) (by decide)
    rw [zti] at r2'
    obtain ⟨rfl, rfl, _⟩ := r2'
    have ok := (zo7 znq).1
    have hb : ∀ (L : Heap) (n : Nat), Sl (h2 ++ L ++ [AObj.cells (w8 [114] false ⟨0#32, r2 n⟩) 0 false]) (.slice (some ⟨(h2 ++ L).length, 0, some 0⟩) 1 35) 35 (fj (zs8 n)) := fun L n => Sl.last (rows := [w8 [114] false ⟨0#32, r2 n⟩]) (c := 35) _ (by simp) rfl (by intro r hr; rw [List.mem_singleton] at hr; subst hr; exact jz _ _ _) 0 false
    have w1 := zls (u := 3#32) (bs := .slice (some ⟨(h2 ++ []).length, 0, some 0⟩) 1 35) (M.keep fun b o _ ho => y8 ([] ++ [AObj.cells (w8 [114] false ⟨0#32, r2 2⟩) 0 false]) ho) ok (by have := hb [] 2; rwa [List.append_assoc] at this) (by simp [zs8] : (zs8 _).length < _)
    have w2 := zls (u := 3#32) (bs := .slice (some ⟨(h2 ++ [AObj.cells (w8 [114] false ⟨0#32, r2 2⟩) 0 false]).length, 0, some 0⟩) 1 35) (M.keep fun b o _ ho => y8 ([AObj.cells (w8 [114] false ⟨0#32, r2 2⟩) 0 false] ++ [AObj.cells (w8 [114] false ⟨0#32, r2 1⟩) 0 false]) ho) ok (by have := hb [AObj.cells (w8 [114] false ⟨0#32, r2 2⟩) 0 false] 1; rwa [List.append_assoc] at this) (by simp [zs8] : (zs8 _).length < _)
    rw [zvr] at w1
    rw [zrz] at w2
    obtain ⟨v3, h3, q3, o3, p3⟩ := zjs (M.keep fun b o _ ho => y8 ([AObj.cells (w8 [114] false ⟨0#32, r2 2⟩) 0 false] ++ [AObj.cells (w8 [114] false ⟨0#32, r2 1⟩) 0 false]) ho)
    obtain ⟨v4, h4, q4, o4, p4⟩ := zms (M.keep fun b o _ ho => p3.kept b o (y8 ([AObj.cells (w8 [114] false ⟨0#32, r2 2⟩) 0 false] ++ [AObj.cells (w8 [114] false ⟨0#32, r2 1⟩) 0 false]) ho))
    have l3 : ((((pu mAble.l).map wRow).length : Nat) : Int) = 1 := by kernel_rfl
    have l4 : ((((zbf mAble.l).map wq).length : Nat) : Int) = 1 := by kernel_rfl
    have l3' := fun K => o3.len K
    have l4' := fun K => o4.len K
    rw [l3] at l3'
    rw [l4] at l4'
    have e3 : ((3#32 : U).toNat : Int) = 3 := by rfl
    simp only [List.append_nil, List.nil_append, List.length_append, List.length_singleton, List.singleton_append, e3, zxk] at w1 w2 q3 q4
    unfold yc1 at q1
    simp only [zcm, ya, zs, xe, yl, zb, zu, yb, zm, yf, zc, xq, y3, zo, zf, ze, zd, List.set_cons_succ, List.set_cons_zero, O_mv, y0, xg, yx, yg, O_un, ye, List.map_cons, List.map_nil, j6, w5, x8, wo, y9, yd, z8, xd, xi, yy, wu, bk, Nat.lt_add_one, Nat.zero_lt_succ, ko, zks, vt, List.cons_append, List.nil_append, List.length_cons, List.length_nil, Nat.reduceAdd, Nat.reduceSub, Nat.zero_add, Bool.not_false, zn, yc, za, slc, xh, y7, zh, zg, List.append_assoc, List.length_append, List.append_nil, List.getElem?_cons_zero, List.getElem?_cons_succ, xy, Bool.bne_false, beq_self_eq_true, jm, eq_self, yj, va, Int.reduceBNe, wm, qy, x7, fz, jz, zi3, f1, wo, slc, ← hH, q1, q2, ygv, yga, yct, v0_s, zza, xn, xp, Int.cast_ofNat_Int, w1, w2, q3, q4, l3', l4']
    have pp : Pre h h4 := (((p0.trans p1).more _).trans p3).trans p4
    obtain ⟨L, rfl⟩ := pp
    exact ⟨trivial, g9 h L rfl⟩
  obtain ⟨v, h', q, rfl, rfl⟩ := this
  exact q
end Go.Proofs.YtljdbheclfaloaaGreatDoor.AM
namespace Go.Proofs.YtljdbheclfaloaaGreatDoor.AM
open Go.RowKit
set_option linter.unusedSimpArgs false
set_option linter.unusedVariables false
set_option maxRecDepth 20000

def tQ : List Tok := [⟨1, [108, 101, 116], 0, 0⟩, ⟨1, [113, 55], 0, 4⟩, ⟨3, [61], 0, 7⟩]
def tB : Tok := ⟨3, [40], 0, 9⟩
def bQ : Bys := [108, 101, 116, 32, 113, 55, 32, 61, 32]
def bB : Bys := [108, 101, 116, 32, 113, 55, 32, 61, 32, 40, 32]
theorem yf0 (E : Bys) : k9 (bQ ++ E) 0 = (k9 E 9).pre tQ := by
  have h : k9 [108, 101, 116, 32, 113, 55, 32, 61] 0 = .ok tQ := by kernel_rfl
  have := zih (X := 32 :: E) (.inr ⟨E, rfl⟩) 8 _ 0 _ (Nat.le_refl _) h
  rw [zix] at this
  exact this
theorem ygg (E : Bys) : k9 (bB ++ E) 0 = (k9 E 11).pre (tQ ++ [tB]) := by
  have h : k9 [108, 101, 116, 32, 113, 55, 32, 61, 32, 40] 0 = .ok (tQ ++ [tB]) := by kernel_rfl
  have := zih (X := 32 :: E) (.inr ⟨E, rfl⟩) 10 _ 0 _ (Nat.le_refl _) h
  rw [zix] at this
  exact this
theorem zvb (a : Nat) : k9 [32, 41] a = .ok [⟨3, [41], 0, a + 1⟩] := by
  rw [zix, zad (by simp)]; rfl
theorem zvj (a : Nat) : zoc [⟨3, [41], 0, a⟩] := ⟨by simp, fun t r h => by cases h; exact ⟨rfl, rfl, rfl, rfl, rfl, rfl, rfl⟩, rfl⟩
def Stm.cnt : Stm → Nat
  | .lets _ gs => gs.length
  | .chk _ _ _ => 1
theorem ydp : ∀ l : List Stm, (zbf l).length + (pu l).length = (l.map Stm.cnt).sum
  | [] => rfl
  | s :: l => by
    have := ydp l
    unfold zbf pu at *
    simp only [List.flatMap_cons, List.length_append, List.map_cons, List.sum_cons]
    cases s <;> simp only [Stm.given, zmt, Stm.cnt, j9, List.length_map, List.length_nil, List.length_cons] <;> omega
theorem zqh {kn : Kn} {rc : List Bys} {b : Bool} : ∀ {gs gs' : List Gv}, zc5 kn rc b gs = .ok gs' → gs'.length = gs.length
  | [], gs', h => by rw [zc5] at h; cases h; rfl
  | g :: gs, gs', h => by
    rw [zc5] at h
    split at h
    · cases h
    · split at h
      · cases h
      · split at h
        · cases h
        · rename_i l hl
          cases h
          simp [zqh hl]
theorem yb1 {kn : Kn} {n : Nat} {s s' : Stm} (h : chkS kn n s = .ok s') : s'.cnt = s.cnt := by
  cases s with
  | chk k x a =>
    rw [chkS] at h
    split at h
    · cases h
    · split at h
      · cases h
      · cases h; rfl
  | lets rc gs =>
    rw [chkS] at h
    split at h
    · cases h
    · split at h
      · cases h
      · rename_i l hl; cases h; exact zqh hl
theorem ztq : ∀ {l l' : List Stm} {kn : Kn} {n : Nat}, chkM kn n l = .ok l' → (l'.map Stm.cnt).sum = (l.map Stm.cnt).sum
  | [], l', kn, n, h => by rw [chkM] at h; cases h; rfl
  | s :: l, l', kn, n, h => by
    rw [chkM] at h
    split at h
    · cases h
    · rename_i s' hs
      split at h
      · cases h
      · rename_i l2 hl
        cases h
        simp [yb1 hs, ztq hl]
theorem znb {e k : Nat} {ts r : List Tok} {gs : List Gv} (h : ft e (k + 1) ts = .ok gs r) : 1 ≤ gs.length := by
  rw [ft] at h
  split at h
  · cases h
  · cases h; simp
  · split at h
    · split at h
      · cases h
      · cases h; simp
    · cases h; simp
theorem yab {e : Nat} {ts r : List Tok} {s : Stm} (h : ze6 e ts = .ok s r) : 1 ≤ s.cnt := by
  have hl : ∀ {rc ts}, ziw e rc ts = .ok s r → 1 ≤ s.cnt := fun {rc ts} h => by
    unfold ziw at h
    split at h
    · cases h
    · rename_i hg; cases h; exact znb hg
  have hc : ∀ {k ts}, zdk e k ts = .ok s r → 1 ≤ s.cnt := fun {k ts} h => by
    unfold zdk at h
    split at h
    · cases h
    · cases h; simp [Stm.cnt]
    · split at h
      · split at h
        · cases h
        · cases h; simp [Stm.cnt]
      · cases h; simp [Stm.cnt]
  cases ts with
  | nil => rw [ze6] at h; cases h
  | cons t ts =>
    rw [ze6] at h
    split at h
    · cases ts with
      | nil => rw [letP] at h; exact hl h
      | cons t2 ts => rw [letP] at h; split at h <;> exact hl h
    split at h
    · exact hc h
    split at h
    · exact hc h
    split at h
    · exact hc h
    · cases h
theorem znk {e : Nat} : ∀ {k : Nat} {ts r : List Tok} {l : List Stm}, j5 e k ts = .ok l r → ∀ s ∈ l, 1 ≤ s.cnt
  | 0, ts, r, l, h, s, hs => by rw [j5] at h; cases h; cases hs
  | k + 1, [], r, l, h, s, hs => by rw [j5] at h; cases h; cases hs
  | k + 1, t :: ts, r, l, h, s, hs => by
    rw [j5] at h
    split at h
    · cases h
    · rename_i s1 r1 hs1
      split at h
      · cases h
      · rename_i l2 r2 hl
        cases h
        rcases List.mem_cons.1 hs with rfl | hs
        · exact yab hs1
        · exact znk hl s hs
theorem zsn (e : Nat) (M : List Tok) : ze6 e (tQ ++ M) = match zbi e 32 M with
    | .bad c a => .bad c a
    | .ok x [] => .ok (.lets false [⟨[113, 55], 4, x⟩]) []
    | .ok x (t :: r) => if keyT t == wAnd then (match ft e (M.length + 2) r with
        | .bad c a => .bad c a
        | .ok gs r2 => .ok (.lets false (⟨[113, 55], 4, x⟩ :: gs)) r2)
      else .ok (.lets false [⟨[113, 55], 4, x⟩]) (t :: r) := by
  have hg : zj7 e (⟨1, [113, 55], 0, 4⟩ :: ⟨3, [61], 0, 7⟩ :: M) = match zbi e 32 M with
      | .bad c a => .bad c a
      | .ok x r => .ok ⟨[113, 55], 4, x⟩ r := by
    unfold zj7
    rw [show zli e (⟨1, [113, 55], 0, 4⟩ :: ⟨3, [61], 0, 7⟩ :: M) = .ok ([113, 55], 4) (⟨3, [61], 0, 7⟩ :: M) from rfl]
    simp only
    rw [show eatP e [61] (⟨3, [61], 0, 7⟩ :: M) = .ok () M from rfl]
    cases hq : zbi e 32 M <;> simp only [hq]
  have hs : ze6 e (tQ ++ M) = ziw e false (⟨1, [113, 55], 0, 4⟩ :: ⟨3, [61], 0, 7⟩ :: M) := by
    show ze6 e (⟨1, [108, 101, 116], 0, 0⟩ :: ⟨1, [113, 55], 0, 4⟩ :: ⟨3, [61], 0, 7⟩ :: M) = _
    rw [ze6, if_pos (by decide), letP, if_neg (by decide)]
  rw [hs]
  unfold ziw
  rw [show (⟨1, [113, 55], 0, 4⟩ :: ⟨3, [61], 0, 7⟩ :: M : List Tok).length + 1 = (M.length + 2) + 1 by simp, ft, hg]
  cases zbi e 32 M with
  | bad c a => rfl
  | ok x r =>
    cases r with
    | nil => rfl
    | cons t r =>
      simp only
      by_cases hk : (keyT t == wAnd) = true
      · rw [if_pos hk, if_pos hk]; cases ft e (M.length + 2) r <;> rfl
      · rw [if_neg hk, if_neg hk]
theorem zxs {l : List Stm} (hp : ∀ s ∈ l, 1 ≤ s.cnt) (h : (l.map Stm.cnt).sum = 0) : l = [] := by
  cases l with
  | nil => rfl
  | cons s l => have := hp s (by simp); simp at h; omega
theorem zwo {e k : Nat} {t : Tok} {ts r : List Tok} {l : List Stm} (h : j5 e (k + 1) (t :: ts) = .ok l r) : l ≠ [] := by
  rw [j5] at h
  split at h
  · cases h
  · split at h
    · cases h
    · cases h; simp
theorem zzc {e : Nat} {M : List Tok} {l : List Stm} {r : List Tok} (h : j5 e (tQ ++ M).length (tQ ++ M) = .ok l r) (hc : (l.map Stm.cnt).sum = 1) : ∃ x, zbi e 32 M = .ok x [] ∧ l = [.lets false [⟨[113, 55], 4, x⟩]] := by
  have hp := znk h
  have e1 : (tQ ++ M).length = M.length + 2 + 1 := by simp [tQ]
  rw [e1] at h
  have e2 : tQ ++ M = ⟨1, [108, 101, 116], 0, 0⟩ :: ([⟨1, [113, 55], 0, 4⟩, ⟨3, [61], 0, 7⟩] ++ M) := rfl
  rw [e2, j5, ← e2, zsn] at h
  cases hx : zbi e 32 M with
  | bad c a => rw [hx] at h; cases h
  | ok x r1 =>
    rw [hx] at h
    cases r1 with
    | nil =>
      simp only at h
      split at h
      · cases h
      · rename_i l2 r2 hl
        cases h
        have : l2 = [] := zxs (fun s hs => hp s (by simp [hs])) (by simp [Stm.cnt] at hc ⊢; omega)
        subst this
        exact ⟨x, rfl, rfl⟩
    | cons t r1 =>
      exfalso
      simp only at h
      by_cases hk : (keyT t == wAnd) = true
      · rw [if_pos hk] at h
        cases hg : ft e (M.length + 2) r1 with
        | bad c a => rw [hg] at h; cases h
        | ok gs r2 =>
          rw [hg] at h
          have := znb hg
          simp only at h
          split at h
          · cases h
          · cases h; simp [Stm.cnt] at hc; omega
      · rw [if_neg hk] at h
        simp only at h
        split at h
        · cases h
        · rename_i l2 r2 hl
          cases h
          have := zwo hl
          exact this (zxs (fun s hs => hp s (by simp [hs])) (by simp [Stm.cnt] at hc ⊢; omega))
theorem zte {e e' : Nat} {M M' : List Tok} {x : Ex} {a p : Nat} (h : zbi e 32 M = .ok x []) (hB : Behind [⟨3, [41], 0, p⟩] M M') : (∃ a, zbi e' 32 (tB :: M') = .bad 2 a) ∨ ∃ x', x'.er = x.er ∧ zbi e' 32 (tB :: M') = .ok (.par false 9 x') [] := by
  have s := zq3 (zvj p) e e' 32 31 M M' hB
  rw [h] at s
  have pr : zi8 e' (some (zbi e' 31)) (tB :: M') = brP e' [41] (.par false 9) (zbi e' 31 M') := rfl
  have lv : ∀ {part : List Tok → PR Ex} {mm : Bys → Option Op2} {ts : List Tok}, (∀ c a, part ts = .bad c a → pv part mm ts = .bad c a) ∧ (∀ x, part ts = .ok x [] → pv part mm ts = .ok x []) := by
    intro part mm ts
    refine ⟨fun c a h => ?_, fun x h => ?_⟩
    · unfold pv; rw [h]
    · unfold pv; rw [h]; rfl
  have ex : ∀ {prim : List Tok → PR Ex} {ts : List Tok}, (∀ c a, prim ts = .bad c a → zpr e' prim ts = .bad c a) ∧ (∀ x, prim ts = .ok x [] → zpr e' prim ts = .ok x []) := by
    intro prim ts
    have po : (∀ c a, prim ts = .bad c a → zhk (zif e' prim) ts = .bad c a) ∧ (∀ x, prim ts = .ok x [] → zhk (zif e' prim) ts = .ok x []) := by
      refine ⟨fun c a h => ?_, fun x h => ?_⟩
      · unfold zhk zif; rw [h]
      · have : zif e' prim ts = .ok x [] := by unfold zif; rw [h]; rfl
        unfold zhk; rw [this]
    exact ⟨fun c a h => lv.1 _ _ (lv.1 _ _ (lv.1 _ _ (po.1 c a h))), fun x h => lv.2 _ (lv.2 _ (lv.2 _ (po.2 x h)))⟩
  cases hq : zbi e' 31 M' with
  | bad c a' =>
    rw [hq] at s
    have hc : c = 2 := s
    subst hc
    exact .inl ⟨a', ex.1 _ _ (by rw [pr, hq]; rfl)⟩
  | ok x' r' =>
    rw [hq] at s
    obtain ⟨hx, hr⟩ := s
    cases hr
    exact .inr ⟨x', hx, ex.2 _ (by rw [pr, hq]; rfl)⟩
theorem yd7 {kn : Kn} {x : Ex} {l : List Stm} (h : chkM kn 0 [.lets false [⟨[113, 55], 4, x⟩]] = .ok l) : ∃ y, l = [.lets false [⟨[113, 55], 4, y⟩]] ∧ chkE kn [] false x = .ok y ∧ b5 kn 0 [] [⟨[113, 55], 4, x⟩] = .ok () := by
  rw [chkM, chkS] at h
  cases hf : b5 kn 0 [] [⟨[113, 55], 4, x⟩] with
  | bad c a => rw [hf] at h; cases h
  | ok u =>
    rw [hf] at h
    simp only [Bool.false_eq_true, if_false, zc5, Bool.false_and] at h
    cases hx : chkE kn [] false x with
    | bad c a => rw [hx] at h; cases h
    | ok y =>
      rw [hx] at h
      simp only [chkM] at h
      cases h
      exact ⟨y, rfl, rfl, rfl⟩
theorem ybd {kn : Kn} {x y : Ex} (hf : b5 kn 0 [] [⟨[113, 55], 4, x⟩] = .ok ()) (h : chkE kn [] false x = .ok y) : chkM kn 0 [.lets false [⟨[113, 55], 4, x⟩]] = .ok [.lets false [⟨[113, 55], 4, y⟩]] := by
  rw [chkM, chkS, hf]
  simp only [Bool.false_eq_true, if_false, zc5, Bool.false_and, h, chkM]
theorem zju {E : Bys} {names : Kn} {md : Md} (h : px (bQ ++ E) names = .ok md) (hc : (zbf md.l).length + (pu md.l).length = 1) (hE : E.length ≤ 3000) :
    (∃ a, px (bB ++ (E ++ [32, 41])) names = .bad 2 a) ∨ ∃ md' y y', px (bB ++ (E ++ [32, 41])) names = .ok md' ∧ md'.known = md.known ∧ md.l = [.lets false [⟨[113, 55], 4, y⟩]] ∧ md'.l = [.lets false [⟨[113, 55], 4, y'⟩]] ∧ y'.set = y.set ∧ ∀ u env, evE u env y' = evE u env y := by
  obtain ⟨ok, hl, hk, ts, l, hs, hm, hch⟩ := zo7 h
  rw [yf0] at hs
  obtain ⟨mE, hE9, rfl⟩ := zwn hs
  rw [ydp, ztq hch] at hc
  obtain ⟨x, hx, rfl⟩ := zzc hm hc
  obtain ⟨y, hy, hcx, hf⟩ := yd7 hch
  have h11 : k9 E 11 = .ok (mE.map (Tok.sh 2)) := by
    rw [show 11 = 9 + 2 from rfl, zta 2 _ E 9 (Nat.le_refl _), hE9]; rfl
  have hsc : k9 (bB ++ (E ++ [32, 41])) 0 = .ok ((tQ ++ [tB]) ++ (mE.map (Tok.sh 2) ++ [⟨3, [41], 0, 11 + E.length + 1⟩])) := by
    rw [ygg, zih (.inr ⟨_, rfl⟩) _ E 11 _ (Nat.le_refl _) h11, zvb]; rfl
  have hlen : ¬ 4096 < (bB ++ (E ++ [32, 41])).length := by simp [bB]; omega
  have hp : px (bB ++ (E ++ [32, 41])) names = match zfc (bB ++ (E ++ [32, 41])).length ((tQ ++ [tB]) ++ (mE.map (Tok.sh 2) ++ [⟨3, [41], 0, 11 + E.length + 1⟩])) with
      | .bad c a => .bad c a
      | .ok l _ => match chkM (fi [] names) 0 l with
        | .bad c a => .bad c a
        | .ok l' => .ok ⟨fi [] names, l'⟩ := by
    unfold px; rw [if_neg hlen, hsc]
    simp only
    cases zfc (bB ++ (E ++ [32, 41])).length ((tQ ++ [tB]) ++ (mE.map (Tok.sh 2) ++ [⟨3, [41], 0, 11 + E.length + 1⟩])) with
    | bad c a => rfl
    | ok l r => cases chkM (fi [] names) 0 l <;> rfl
  have hB := zqo 2 [⟨3, [41], 0, 11 + E.length + 1⟩] mE
  have e2 : (tQ ++ [tB]) ++ (mE.map (Tok.sh 2) ++ [⟨3, [41], 0, 11 + E.length + 1⟩]) = tQ ++ (tB :: (mE.map (Tok.sh 2) ++ [⟨3, [41], 0, 11 + E.length + 1⟩])) := by simp
  rw [e2] at hp
  generalize (bB ++ (E ++ [32, 41])).length = e' at hp
  generalize mE.map (Tok.sh 2) ++ [⟨3, [41], 0, 11 + E.length + 1⟩] = M' at hp hB
  have hm2 : zfc e' (tQ ++ (tB :: M')) = match zbi e' 32 (tB :: M') with
      | .bad c a => .bad c a
      | .ok x [] => .ok [.lets false [⟨[113, 55], 4, x⟩]] []
      | .ok x (t :: r) => zfc e' (tQ ++ (tB :: M')) := by
    cases hq : zbi e' 32 (tB :: M') with
    | bad c a =>
      unfold zfc
      rw [show (tQ ++ (tB :: M')).length = M'.length + 3 + 1 by simp [tQ]]
      have e2 : tQ ++ (tB :: M') = ⟨1, [108, 101, 116], 0, 0⟩ :: ([⟨1, [113, 55], 0, 4⟩, ⟨3, [61], 0, 7⟩] ++ (tB :: M')) := rfl
      rw [e2, j5, ← e2, zsn, hq]
    | ok x r =>
      cases r with
      | cons t r => rfl
      | nil =>
        unfold zfc
        rw [show (tQ ++ (tB :: M')).length = M'.length + 3 + 1 by simp [tQ]]
        have e2 : tQ ++ (tB :: M') = ⟨1, [108, 101, 116], 0, 0⟩ :: ([⟨1, [113, 55], 0, 4⟩, ⟨3, [61], 0, 7⟩] ++ (tB :: M')) := rfl
        rw [e2, j5, ← e2, zsn, hq]
        rfl
  rcases zte (e' := e') (a := 0) hx hB with ⟨a, hq⟩ | ⟨x', hx', hq⟩
  · rw [hq] at hm2
    rw [hm2] at hp
    exact .inl ⟨a, hp⟩
  · rw [hq] at hm2
    rw [hm2] at hp
    obtain ⟨y', hy', hyy⟩ := zi0 hx' hcx
    have hf' : b5 (fi [] names) 0 [] [⟨[113, 55], 4, Ex.par false 9 x'⟩] = .ok () := hf
    have hc' := ybd (y := .par y'.set 9 y') hf' (by rw [chkE, hy'])
    simp only [hc'] at hp
    refine .inr ⟨_, y, .par y'.set 9 y', hp, by rw [hk], hy, rfl, (zzn (u := 0#32) (env := []) hyy).2, fun u env => ?_⟩
    rw [evE]
    exact (zzn hyy).1
end Go.Proofs.YtljdbheclfaloaaGreatDoor.AM
namespace Go.Proofs.YtljdbheclfaloaaGreatDoor.AM
open Go.RowKit
set_option linter.unusedSimpArgs false
set_option linter.unusedVariables false
set_option maxRecDepth 20000

section
variable (r s : Nat → U) (a b u : U)
end
theorem yfm {H : Heap} {b ver n : Nat} {l : List Value} {ro : Bool} (hb : H[b]? = some (.cells l ver ro)) (hn : l.length = n) : Heap.read H ⟨b, 0, some ver⟩ n = some l := by
  simp only [Heap.read, hb]
  rw [if_pos ⟨trivial, by omega⟩, List.drop_zero, List.take_of_length_le (by omega)]
end Go.Proofs.YtljdbheclfaloaaGreatDoor.AM
namespace Go.Proofs.YtljdbheclfaloaaGreatDoor.AM
open Go.RowKit
set_option linter.unusedSimpArgs false
set_option linter.unusedVariables false
set_option maxRecDepth 20000

theorem zh3 {a b : Nat} (h : a + b < 2 ^ 63) : IntKind.i64.wrap ((a : Int) + (b : Int)) = ((a + b : Nat) : Int) := by
  rw [← Int.natCast_add]; exact ya8 (by omega)
def MuI (S0 : Nat) (H : Heap) (ns bs : Value) (k : Nat) (st : St) : Prop := ∃ n : Nat, (∃ j : Nat → Value, st = ⟨[j 0, ns, bs, j 3, j 4, j 5, j 6, .int .i64 (n : Int), .int .i64 (k : Int), j 9, j 10, j 11, j 12, j 13, j 14, j 15, j 16, j 17, j 18, j 19, j 20, j 21, j 22, j 23, j 24, j 25, j 26, j 27, j 28, j 29, j 30, j 31, j 32, j 33, j 34, j 35, j 36, j 37, j 38, j 39, j 40, j 41, j 42, j 43, j 44, j 45, j 46, j 47, j 48, j 49, j 50, j 51, j 52, j 53, j 54, j 55], H⟩) ∧ S0 ≤ n ∧ n < 2 ^ 60
def MuP (S0 : Nat) (H : Heap) (bs : Value) (st : St) : Prop := ∃ n : Nat, (∃ j : Nat → Value, st = ⟨[j 0, j 1, bs, j 3, j 4, j 5, j 6, .int .i64 (n : Int), j 8, j 9, j 10, j 11, j 12, j 13, j 14, j 15, j 16, j 17, j 18, j 19, j 20, j 21, j 22, j 23, j 24, j 25, j 26, j 27, j 28, j 29, j 30, j 31, j 32, j 33, j 34, j 35, j 36, j 37, j 38, j 39, j 40, j 41, j 42, j 43, j 44, j 45, j 46, j 47, j 48, j 49, j 50, j 51, j 52, j 53, j 54, j 55], H⟩) ∧ S0 ≤ n ∧ n < 2 ^ 60
def MuJ (S0 : Nat) (H : Heap) (bs : Value) (k : Nat) (st : St) : Prop := ∃ n : Nat, (∃ j : Nat → Value, st = ⟨[j 0, j 1, bs, j 3, j 4, j 5, j 6, .int .i64 (n : Int), j 8, .int .i64 (k : Int), j 10, j 11, j 12, j 13, j 14, j 15, j 16, j 17, j 18, j 19, j 20, j 21, j 22, j 23, j 24, j 25, j 26, j 27, j 28, j 29, j 30, j 31, j 32, j 33, j 34, j 35, j 36, j 37, j 38, j 39, j 40, j 41, j 42, j 43, j 44, j 45, j 46, j 47, j 48, j 49, j 50, j 51, j 52, j 53, j 54, j 55], H⟩) ∧ S0 ≤ n ∧ n < 2 ^ 60
def MuQ (S0 : Nat) (H : Heap) (st : St) : Prop := ∃ n : Nat, (∃ j : Nat → Value, st = ⟨[j 0, j 1, j 2, j 3, j 4, j 5, j 6, .int .i64 (n : Int), j 8, j 9, j 10, j 11, j 12, j 13, j 14, j 15, j 16, j 17, j 18, j 19, j 20, j 21, j 22, j 23, j 24, j 25, j 26, j 27, j 28, j 29, j 30, j 31, j 32, j 33, j 34, j 35, j 36, j 37, j 38, j 39, j 40, j 41, j 42, j 43, j 44, j 45, j 46, j 47, j 48, j 49, j 50, j 51, j 52, j 53, j 54, j 55], H⟩) ∧ S0 ≤ n ∧ n < 2 ^ 60
set_option maxHeartbeats 4000000 in
theorem ygs {l : Bys} {names : Kn} {ns : Value} {bl : En} {bs : Value} {h : Heap} (hns : Sl h ns 2 (names.map wq)) (hb : Sl h bs 35 (fj bl)) (h1 : l.length ≤ 2 ^ 50) (h2 : names.length ≤ 2 ^ 50) (h3 : bl.length ≤ 2 ^ 50) (h4 : ∀ d ∈ names, d.1.length ≤ 2 ^ 50) (h5 : ∀ p ∈ bl, p.1.length ≤ 2 ^ 50) :
    ∃ b, DF FF fx [str l, ns, bs] h = some (.bool b, h) ∧ (b = false → l.length + names.length + bl.length ≤ 6000) := by
  have : ∃ v h', DF FF fx [str l, ns, bs] h = some (v, h') ∧ (h' = h ∧ ∃ b, v = .bool b ∧ (b = false → l.length + names.length + bl.length ≤ 6000)) := by
    refine ww zg5 ?_
    have ln : ∀ H, lenO H ns = some (.int .i64 (names.length : Int), H) := fun H => by rw [hns.len, List.length_map]
    have lb : ∀ H, lenO H bs = some (.int .i64 (bl.length : Int), H) := fun H => by rw [hb.len]; simp [fj]
    obtain ⟨S0, hS0⟩ : ∃ S0, S0 = l.length + names.length + bl.length := ⟨_, rfl⟩
    have w1 := zh3 (a := l.length) (b := names.length) (by omega)
    have w2 := zh3 (a := l.length + names.length) (b := bl.length) (by omega)
    rw [← hS0] at w2 ⊢
    simp only [zcr, ya, zb, yb, zm, zc, zo, zf, ze, zd, List.set_cons_succ, List.set_cons_zero, O_mv, yx, yg, j6, vw, List.cons_append, List.nil_append, List.length_cons, List.length_nil, Nat.reduceAdd, Nat.reduceSub, Nat.zero_add, zn, yc, zz, za, zh, zg, wh, xa, xa, ln, lb, w1, w2]
    refine f9 0 names.length (MuI S0 h ns bs) (MuP S0 h bs) ?_ ?_ _ ⟨S0, junk rfl, Nat.le_refl _, by omega⟩ ?_
    · rintro k st hk ⟨n, ⟨j, rfl⟩, e1, e2⟩
      have hkd : names[k]? = some names[k] := List.getElem?_eq_getElem hk
      obtain ⟨b', o, v, a1, a2⟩ := hns.atH (k := k) (by simpa using hk)
      have a3 : Heap.read1 h ⟨b', o, some v⟩ = some (str names[k].1) := zf1 a2 (by simp [wq])
      have c1 : ((k : Int) < (names.length : Int)) = True := by simp; omega
      have hl := h4 names[k] (List.getElem_mem hk)
      by_cases hn : n ≤ 6000
      · have c2 : ((n : Int) ≤ 6000) = True := by simp; omega
        simp only [ya, zs, yl, zb, zx, yb, zm, yf, zc, xq, zo, zf, ze, zd, List.set_cons_succ, List.set_cons_zero, O_mv, y0, xg, yx, yg, j6, ve, zy, zk, vw, x9, zmg, zn, yc, zz, za, zi, xb, z7, Nat.add_zero, yp, wh, xa, decide_true, ln, c1, c2, decide_true, a1, a3, xa, zh3 (a := n) (b := names[k].1.length) (by omega), xo (k := k) (by omega)]
        exact ⟨_, junk rfl, by omega, by omega⟩
      · have c2 : ((n : Int) ≤ 6000) = False := by simp; omega
        simp only [ya, zs, w7, zb, zu, yb, zm, yf, zc, xq, zo, zf, ze, zd, List.set_cons_succ, List.set_cons_zero, O_mv, y0, xg, yx, yg, j6, x9, zmg, zn, yc, za, yz, ku, xj, decide_true, decide_false, ln, c1, c2, decide_true, decide_false, ku]
        exact ⟨_, junk rfl, e1, e2⟩
    · rintro st ⟨n, ⟨j, rfl⟩, e1, e2⟩
      have c1 : ((names.length : Int) < (names.length : Int)) = False := by simp
      simp only [ya, zs, w7, zb, zu, yb, zm, yf, zc, vd, zo, zf, ze, zd, List.set_cons_succ, List.set_cons_zero, O_mv, y0, xg, yx, yg, j6, x9, zn, yc, za, yz, ku, xj, decide_false, ln, c1, decide_false, ku]
      exact ⟨_, junk rfl, e1, e2⟩
    rintro st ⟨n, ⟨j, rfl⟩, e1, e2⟩
    simp only [ya, zb, yb, zm, zc, zf, List.set_cons_succ, List.set_cons_zero, O_mv, zn, yc, zz, za, yk]
    refine f9 2 bl.length (MuJ S0 h bs) (MuQ S0 h) ?_ ?_ _ ⟨n, junk rfl, e1, e2⟩ ?_
    · rintro k st hk ⟨n, ⟨j, rfl⟩, e1, e2⟩
      obtain ⟨b', o, v, a1, a2⟩ := hb.atH (k := k) (by simpa [fj] using hk)
      have a3 : Heap.read1 h ⟨b', o, some v⟩ = some (str bl[k].1) := zf1 a2 (by simp only [fj, List.getElem_map]; rfl)
      have c1 : ((k : Int) < (bl.length : Int)) = True := by simp; omega
      have hl := h5 bl[k] (List.getElem_mem hk)
      by_cases hn : n ≤ 6000
      · have c2 : ((n : Int) ≤ 6000) = True := by simp; omega
        simp only [ya, zs, yl, zb, zx, yb, zm, yf, zc, xq, zo, zf, ze, zd, List.set_cons_succ, List.set_cons_zero, O_mv, y0, xg, yx, yg, j6, ve, zy, zk, vw, x9, zmg, zn, yc, zz, za, zi, xb, z7, Nat.add_zero, yp, wh, xa, decide_true, lb, c1, c2, decide_true, a1, a3, xa, zh3 (a := n) (b := bl[k].1.length) (by omega), xo (k := k) (by omega)]
        exact ⟨_, junk rfl, by omega, by omega⟩
      · have c2 : ((n : Int) ≤ 6000) = False := by simp; omega
        simp only [ya, zs, w7, zb, zu, yb, zm, yf, zc, xq, zo, zf, ze, zd, List.set_cons_succ, List.set_cons_zero, O_mv, y0, xg, yx, yg, j6, x9, zmg, zn, yc, za, yz, ku, xj, decide_true, decide_false, lb, c1, c2, decide_true, decide_false, ku]
        exact ⟨_, junk rfl, e1, e2⟩
    · rintro st ⟨n, ⟨j, rfl⟩, e1, e2⟩
      have c1 : ((bl.length : Int) < (bl.length : Int)) = False := by simp
      simp only [ya, zs, w7, zb, zu, yb, zm, yf, zc, vd, zo, zf, ze, zd, List.set_cons_succ, List.set_cons_zero, O_mv, y0, xg, yx, yg, j6, x9, zn, yc, za, yz, ku, xj, decide_false, lb, c1, decide_false, ku]
      exact ⟨_, junk rfl, e1, e2⟩
    rintro st ⟨n, ⟨j, rfl⟩, e1, e2⟩
    simp only [ya, xe, zb, yb, zm, zc, zo, zf, ze, zd, List.set_cons_succ, List.set_cons_zero, O_mv, yx, yg, zba, zn, yc, za, yk, wt, xy, eq_self]
    exact ⟨trivial, _, rfl, fun h => by simp at h; omega⟩
  obtain ⟨v, h', q, rfl, b, rfl, hb⟩ := this
  exact ⟨b, q, hb⟩
end Go.Proofs.YtljdbheclfaloaaGreatDoor.AM
namespace Go.Proofs.YtljdbheclfaloaaGreatDoor.AM
open Go.RowKit
set_option linter.unusedSimpArgs false
set_option linter.unusedVariables false
set_option maxRecDepth 20000

theorem yg7 {x : Nat} (hx : x ≠ 0) : ((x : Int) == 0) = false := beq_eq_false_iff_ne.2 (by omega)
theorem ygh {x : Nat} (hx : x ≠ 0) : ((x : Int) != 0) = true := by rw [bne, yg7 hx]; rfl
section
variable {P : RP}
end
end Go.Proofs.YtljdbheclfaloaaGreatDoor.AM
namespace Go.Proofs.YtljdbheclfaloaaGreatDoor.AM
open Go.RowKit
set_option linter.unusedSimpArgs false
set_option linter.unusedVariables false
set_option maxRecDepth 20000

theorem zuj {H : Heap} {s : Value} {c bytes : Nat} {rows : List (List Value)} (hs : Sl H s c rows) (hroom : rows.length * bytes ≤ j3) : ∃ s' K, j2 (H ++ [.cells [] 0 false]) c bytes (.slice (some ⟨H.length, 0, some 0⟩) 0 c) (zck (H ++ [.cells [] 0 false]) c s) = some (s', K) ∧ Sl K s' c rows ∧ Pre H K := by
  have e : Own H (H ++ [AObj.cells [] 0 false]) (.slice (some ⟨H.length, 0, some 0⟩) 0 c) c [] := ⟨.inr ⟨H.length, 0, Nat.le_refl _, rfl, by simp⟩, by simp⟩
  obtain ⟨s', K, q, o, p, _⟩ := e.append ((Pre.refl H).more _) (rows' := rows) (bytes := bytes) rfl hs.2 (by simpa using hroom)
  rw [hs.src]
  exact ⟨s', K, q, o.sl, p⟩
theorem yer {H : Heap} {x : AObj} {s : Value} {c bytes : Nat} {rows : List (List Value)} (hs : Sl (H ++ [x]) s c rows) (hroom : rows.length * bytes ≤ j3) : ∃ s' K, j2 (H ++ [x, .cells [] 0 false]) c bytes (.slice (some ⟨H.length + 1, 0, some 0⟩) 0 c) (zck (H ++ [x, .cells [] 0 false]) c s) = some (s', K) ∧ Sl K s' c rows ∧ Pre (H ++ [x]) K := by
  have := zuj hs hroom
  simpa only [List.append_assoc, List.singleton_append, List.length_append, List.length_singleton] using this
theorem zzt {u : U} {env : En} {y : Ex} : zne (envM u env [.lets false [⟨[113, 55], 4, y⟩]]) [113, 55] = tup [agg (w8 [113, 55] y.set (evE u env y)), .int .i64 0] := by
  have : fr [113, 55] (envM u env [.lets false [⟨[113, 55], 4, y⟩]]) = some (y.set, evE u env y) := by
    show fr [113, 55] (setE [113, 55] y.set (evE u env y) env) = _
    rw [bh, if_pos (by decide)]
  unfold zne; rw [this]
theorem zvi (v : Vv) : zqs v v = true := by unfold zqs; rw [zv1]; simp
theorem yff (h : Heap) (neg : Bool) (n1 n2 : Bys) (s1 s2 : Bool) (v1 v2 : Vv) : zkt h neg (.str :: .bool :: List.replicate 33 .int) (agg (w8 n1 s1 v1)) (agg (w8 n2 s2 v2)) = some (.bool ((n1 == n2 && (s1 == s2 && zqs v1 v2)) != neg), h) := yfw h neg n1 n2 s1 s2 v1 v2
theorem zqj {text : Bys} {names : Kn} {ns : Value} {h : Heap} (g : Gl h) (hns : Sl h ns 2 (names.map wq)) (hnl : names.length ≤ 10000) :
    (∃ c a, px text names = .bad c a ∧ c ≠ 0 ∧ DF FF b8 [str text, ns] h = some (tup [nilP, .int .i64 (c : Int), .int .i64 (a : Int)], h)) ∨
    ∃ md mb h', px text names = .ok md ∧ DF FF b8 [str text, ns] h = some (tup [pt mb, .int .i64 0, .int .i64 0], h') ∧ ModP h' (fun z => h.length ≤ z ∧ z < h'.length) mb md ∧ Pre h h' ∧ MdOk md := by
  obtain ⟨v, h', q, r, p⟩ := zhn text names ns g hns hnl
  cases hR : px text names with
  | bad c a =>
    rw [hR] at r
    obtain ⟨rfl, rfl, hc⟩ := r
    exact .inl ⟨c, a, rfl, hc, q⟩
  | ok md =>
    have ok := (zo7 hR).1
    rw [hR] at r
    obtain ⟨mb, rfl, M⟩ := r
    exact .inr ⟨md, mb, h', rfl, q, M, p, ok⟩
set_option maxHeartbeats 16000000 in
theorem zlz {E : Bys} {names : Kn} {ns : Value} {bl : En} {bs : Value} {u : U} {h : Heap} (g : Gl h) (hns : Sl h ns 2 (names.map wq)) (hb : Sl h bs 35 (fj bl)) (h1 : E.length ≤ 2 ^ 50) (h2 : names.length ≤ 2 ^ 50) (h3 : bl.length ≤ 2 ^ 50) (h4 : ∀ d ∈ names, d.1.length ≤ 2 ^ 50) (h5 : ∀ p ∈ bl, p.1.length ≤ 2 ^ 50) :
    ∃ v h', DF FF gt [str E, ns, .int .u32 (u.toNat : Int), bs] h = some (v, h') ∧ v = .bool true := by
  refine ww zc6 ?_
  obtain ⟨bm, qm, hm⟩ := ygs hns hb h1 h2 h3 h4 h5
  cases bm with
  | true => simp only [w4, ya, zs, xe, yl, zb, zx, zu, yb, zm, yf, zc, wk, zo, zf, ze, zd, List.set_cons_succ, List.set_cons_zero, O_mv, y0, xg, yg, O_un, ye, List.map_cons, List.map_nil, vt, List.cons_append, List.nil_append, List.length_cons, List.length_nil, Nat.reduceAdd, Nat.reduceSub, Nat.zero_add, Bool.not_true, zn, yc, za, y6, zh, zg, xy, eq_self, yj, zlk g, qm]
  | false =>
    have hm := hm rfl
    by_cases hE : E.length ≤ 3000
    · have c1 : ((3000 : Int) < (E.length : Int)) = False := by simp; omega
      have a1 : jb .add (str [108, 101, 116, 32, 113, 55, 32, 61, 32]) (str E) = some (str (bQ ++ E)) := zze _ _ (by simp; omega)
      have a2 : jb .add (str [108, 101, 116, 32, 113, 55, 32, 61, 32, 40, 32]) (str E) = some (str (bB ++ E)) := zze _ _ (by simp; omega)
      have a3 : jb .add (str (bB ++ E)) (str [32, 41]) = some (str (bB ++ (E ++ [32, 41]))) := by rw [← List.append_assoc]; exact zze _ _ (by simp [bB]; omega)
      obtain ⟨n1, K1, q1, s1, p1⟩ := zuj (bytes := 24) hns (by simp [j3]; omega)
      have room2 : (fj bl).length * 152 ≤ j3 := by simp [j3, fj]; omega
      rcases zqj (text := bQ ++ E) (g.pre p1) s1 (by omega) with ⟨c, a, hR, hc, q2⟩ | ⟨md, mb, H2, hR, q2, M, p2, ok⟩
      · simp only [w4, ya, zs, xe, yl, zb, zx, zu, yb, zm, yf, zc, y3, wk, zo, zf, ze, zd, List.set_cons_succ, List.set_cons_zero, O_mv, y0, xg, yx, yg, O_un, ye, List.map_cons, List.map_nil, w5, wo, yd, xd, yy, zks, zba, vt, List.cons_append, List.nil_append, List.length_cons, List.length_nil, Nat.reduceAdd, Nat.reduceSub, Nat.zero_add, Bool.not_true, zn, yc, za, y6, slc, jj, xh, y7, zh, zg, List.getElem?_cons_zero, List.getElem?_cons_succ, xy, eq_self, yj, wh, xa, decide_false, zlk g, qm, xa, c1, decide_false, a1, wo, slc, q1, q2, ygh hc]
      · obtain ⟨v3, H3, q3, o3, p3⟩ := zms M
        have M3 := M.keep fun b o _ ho => p3.kept b o ho
        obtain ⟨v4, H4, q4, o4, p4⟩ := zjs M3
        have l3 := fun K => o3.len K
        have l4 := fun K => o4.len K
        simp only [List.length_map] at l3 l4
        cases g1 : (((zbf md.l).length : Int) != 1)
        · cases g2 : (((pu md.l).length : Int) != 0)
          · have hcnt : (zbf md.l).length + (pu md.l).length = 1 := by
              have e1 := bne_eq_false_iff_eq.1 g1
              have e2 := bne_eq_false_iff_eq.1 g2
              omega
            have M4 := M3.keep fun b o _ ho => p4.kept b o ho
            have p24 := (p2.trans p3).trans p4
            obtain ⟨n2, K5, q5, s5, p5⟩ := zuj (bytes := 24) (hns.pre (p1.trans p24)) (by simp [j3]; omega)
            rcases zqj (text := bB ++ (E ++ [32, 41])) (g.pre ((p1.trans p24).trans p5)) s5 (by omega) with ⟨c, a, hR2, hc, q6⟩ | ⟨md', mb', H6, hR2, q6, M6, p6, ok6⟩
            · have hc2 : c = 2 := by
                rcases zju hR hcnt hE with ⟨a', e⟩ | ⟨md', y, y', e, _⟩
                · rw [hR2] at e; cases e; rfl
                · rw [hR2] at e; cases e
              subst hc2
              simp only [Int.cast_ofNat_Int] at q6
              simp only [w4, ya, zs, xe, yl, zb, zx, zu, yb, zm, yf, zc, y3, zo, zf, ze, zd, List.set_cons_succ, List.set_cons_zero, O_mv, y0, xg, yx, yg, O_un, ye, List.map_cons, List.map_nil, j6, w5, wo, yd, xd, yy, ko, zks, zba, vt, List.cons_append, List.nil_append, List.length_cons, List.length_nil, Nat.reduceAdd, Nat.reduceSub, Nat.zero_add, Bool.not_true, zn, yc, za, y6, slc, jj, xh, y7, zh, zg, List.getElem?_cons_zero, List.getElem?_cons_succ, xy, beq_self_eq_true, eq_self, yj, wh, xa, Int.reduceBNe, decide_false, zlk g, qm, xa, c1, decide_false, a1, a2, a3, wo, slc, q1, q2, q3, q4, l3, l4, g1, g2, q5, q6]
            · rcases zju hR hcnt hE with ⟨a', e⟩ | ⟨md2, y, y', e, hk, hy, hy', hset, hev⟩
              · rw [hR2] at e; cases e
              · rw [hR2] at e
                obtain rfl : md' = md2 := by cases e; rfl
                have pAll := ((p1.trans p24).trans p5).trans p6
                obtain ⟨n3, K7, q7, s7, p7⟩ := zuj (bytes := 152) (hb.pre pAll) room2
                have e0 : env0 md' bl = env0 md bl := by unfold env0; rw [hk]
                have q8 := zku (u := u) (M4.keep fun b o _ ho => ((p5.trans p6).trans p7).kept b o ho) ok s7 (by omega) [113, 55]
                rw [hy, zzt] at q8
                obtain ⟨n4, K9, q9, s9, p9⟩ := yer (x := .cells (w8 [113, 55] y.set (evE u (env0 md bl) y)) 0 false) (bytes := 152) ((hb.pre (pAll.trans p7)).more _) room2
                have q10 := zku (u := u) (M6.keep fun b o _ ho => p9.kept b o (y8 _ (p7.kept b o ho))) ok6 s9 (by omega) [113, 55]
                rw [hy', zzt, hset, hev, e0] at q10
                have rd : ∀ L, Heap.read (K9 ++ L) ⟨K7.length, 0, some 0⟩ 35 = some (w8 [113, 55] y.set (evE u (env0 md bl) y)) := fun L => yfm (y8 L (p9.kept K7.length (.cells (w8 [113, 55] y.set (evE u (env0 md bl) y)) 0 false) (by simp))) (jz _ _ _)
                simp only [w4, ya, zs, xe, yl, zb, zu, yb, zm, yf, zc, zp, y3, zo, zf, ze, zd, List.set_cons_succ, List.set_cons_zero, O_mv, y0, xg, yx, yg, O_un, ye, List.map_cons, List.map_nil, j6, xr, y5, w5, wo, yd, xd, yy, zks, zba, vt, List.cons_append, List.nil_append, List.length_cons, List.length_nil, Nat.reduceAdd, Nat.reduceSub, Nat.zero_add, Bool.not_true, zn, yc, za, slc, jj, yq, xh, y7, zl, yu, z6, xl, xf, yi, zw, zr, zh, zg, List.append_assoc, List.length_append, Option.map_some, List.getElem?_cons_zero, List.getElem?_cons_succ, xy, Bool.bne_false, beq_self_eq_true, eq_self, zog, yj, wh, xa, Int.reduceBNe, decide_false, fz, jz, zlk g, qm, xa, c1, decide_false, a1, a2, a3, wo, slc, q1, q2, q3, q4, l3, l4, g1, g2, q5, q6, q7, q8, q9, q10, rd, yff, zvi, beq_self_eq_true, Bool.and_self]
          · simp only [w4, ya, zs, xe, yl, zb, zx, zu, yb, zm, yf, zc, y3, zo, zf, ze, zd, List.set_cons_succ, List.set_cons_zero, O_mv, y0, xg, yx, yg, O_un, ye, List.map_cons, List.map_nil, j6, w5, wo, yd, xd, yy, zks, zba, vt, List.cons_append, List.nil_append, List.length_cons, List.length_nil, Nat.reduceAdd, Nat.reduceSub, Nat.zero_add, Bool.not_true, zn, yc, za, y6, slc, jj, xh, y7, zh, zg, List.getElem?_cons_zero, List.getElem?_cons_succ, xy, eq_self, yj, wh, xa, Int.reduceBNe, decide_false, zlk g, qm, xa, c1, decide_false, a1, wo, slc, q1, q2, q3, q4, l3, l4, g1, g2]
        · simp only [w4, ya, zs, xe, yl, zb, zx, zu, yb, zm, yf, zc, y3, wk, zo, zf, ze, zd, List.set_cons_succ, List.set_cons_zero, O_mv, y0, xg, yx, yg, O_un, ye, List.map_cons, List.map_nil, j6, w5, wo, yd, xd, yy, zks, zba, vt, List.cons_append, List.nil_append, List.length_cons, List.length_nil, Nat.reduceAdd, Nat.reduceSub, Nat.zero_add, Bool.not_true, zn, yc, za, y6, slc, jj, xh, y7, zh, zg, List.getElem?_cons_zero, List.getElem?_cons_succ, xy, eq_self, yj, wh, xa, Int.reduceBNe, decide_false, zlk g, qm, xa, c1, decide_false, a1, wo, slc, q1, q2, q3, l3, g1]
    · have c1 : ((3000 : Int) < (E.length : Int)) = True := by simp; omega
      simp only [w4, ya, zs, xe, yl, zb, zx, zu, yb, zm, yf, zc, y3, zo, zf, ze, zd, List.set_cons_succ, List.set_cons_zero, O_mv, y0, xg, yx, yg, O_un, ye, List.map_cons, List.map_nil, zba, vt, List.cons_append, List.nil_append, List.length_cons, List.length_nil, Nat.reduceAdd, Nat.reduceSub, Nat.zero_add, Bool.not_true, zn, yc, za, y6, zh, zg, xy, eq_self, yj, wh, xa, decide_true, zlk g, qm, xa, c1, decide_true]
end Go.Proofs.YtljdbheclfaloaaGreatDoor.AM
namespace Go.Proofs.YtljdbheclfaloaaGreatDoor.AM
set_option linter.unusedSimpArgs false
open Go.RowKit
set_option linter.unusedVariables false

theorem Gl.of {h : Heap} {m : Int} {u : TypeId} (hg : ∀ (i : Nat) (l : List Value), ([[.int .i64 m], [.iface u (.chan (some 0))]] : List (List Value))[i]? = some l → h[i]? = some (AObj.cells l 0 true)) : Gl h :=
  ⟨⟨m, hg 0 _ rfl⟩, _, hg 1 _ rfl, rfl⟩
end Go.Proofs.YtljdbheclfaloaaGreatDoor.AM
namespace Go.Proofs.YtljdbheclfaloaaGreatDoor.AM
set_option linter.unusedSimpArgs false
open Go.RowKit
set_option linter.unusedVariables false

theorem zlw {h : Heap} {u : Value} (ht : Typed h .str u) : ∃ l : Bys, u = str l ∧ l.length ≤ 2 ^ 50 := by
  cases ht with
  | str s hs => exact ⟨s.data.toList, by rw [yf6], by unfold reachBytes at hs; rw [Array.length_toList]; show s.size ≤ _; omega⟩
theorem zry {h : Heap} {u : Value} (ht : znd h (false, [(.slice 24 [.str, .bool])]) u) : ∃ names : Kn, Sl h u 2 (names.map wq) ∧ names.length ≤ 2 ^ 50 ∧ ∀ d ∈ names, d.1.length ≤ 2 ^ 50 := by
  obtain ⟨rows, h1, h2, h3⟩ := zld (by simp) ht
  obtain ⟨names, rfl, hn⟩ := ztj (p := fun d : Bys × Bool => d.1.length ≤ 2 ^ 50) (f := wq) rows fun r hr => by
    have t := h2 r hr
    obtain ⟨a, ha, ta⟩ := zcf t (i := 0) rfl
    obtain ⟨b, hb, tb⟩ := zcf t (i := 1) rfl
    obtain ⟨l, rfl, hl⟩ := zlw ta
    cases tb with
    | bool b =>
      have hlen := t.1
      match r, hlen, ha, hb with
      | [x, y], _, ha, hb =>
        cases ha; cases hb
        exact ⟨(l, b), rfl, hl⟩
  refine ⟨names, by simpa using h1, ?_, hn⟩
  unfold reachBytes at h3; simp at h3; omega
theorem zq8 {h : Heap} {u : Value} (ht : znd h (false, [(.slice 152 ([.str] ++ [.bool] ++ List.replicate 33 (.int .u32)))]) u) : ∃ bl : En, Sl h u 35 (fj bl) ∧ bl.length ≤ 2 ^ 50 ∧ ∀ p ∈ bl, p.1.length ≤ 2 ^ 50 := by
  obtain ⟨rows, h1, h2, h3⟩ := zld (by simp) ht
  obtain ⟨bl, rfl, hn⟩ := ztj (p := fun d : Bys × Bool × Vv => d.1.length ≤ 2 ^ 50) (f := fun p => w8 p.1 p.2.1 p.2.2) rows fun r hr => by
    have t := h2 r hr
    obtain ⟨a, ha, ta⟩ := zcf t (i := 0) rfl
    obtain ⟨b, hb, tb⟩ := zcf t (i := 1) rfl
    obtain ⟨c, hc, tc⟩ := zcf t (i := 2) rfl
    obtain ⟨l, rfl, hl⟩ := zlw ta
    cases tb with
    | bool b =>
      cases tc with
      | int k n hw =>
        obtain ⟨x, rfl⟩ := u_of hw
        have hlen := t.1
        match r, hlen, ha, hb, hc, t with
        | v1 :: v2 :: v3 :: m, hlen, ha, hb, hc, t =>
          cases ha; cases hb; cases hc
          have tm : TypedL h (List.replicate 32 (.int .u32)) m := ⟨by simp at hlen ⊢; omega, fun i s v hs hv => t.2 (i + 3) s v (by simpa [List.replicate_succ] using hs) (by simpa using hv)⟩
          obtain ⟨f, rfl⟩ := zvw tm
          exact ⟨(l, b, ⟨x, f⟩), rfl, hl⟩
  refine ⟨bl, by simpa [fj] using h1, ?_, hn⟩
  unfold reachBytes at h3; simp at h3; omega
theorem catBrackets_law {m : Int} {t : TypeId} (h : Heap) (us : List Value) (hg : ∀ (i : Nat) (l : List Value), ([[.int .i64 m], [.iface t (.chan (some 0))]] : List (List Value))[i]? = some l → h[i]? = some (AObj.cells l 0 true)) (ht : zn2 h [(false, [.str]), (false, [(.slice 24 [.str, .bool])]), (false, [(.int .u32)]), (false, [(.slice 152 ([.str] ++ [.bool] ++ List.replicate 33 (.int .u32)))])] us) : ∃ h', DF FF gt us h = some (.bool true, h') := by
  match us, ht with
  | [u1, u2, u3, u4], ht =>
    obtain ⟨E, rfl, h1⟩ := zlw (ht.1.2 0 _ _ rfl rfl)
    obtain ⟨names, s2, h2, h4⟩ := zry ht.2.1
    obtain ⟨u, rfl⟩ := zz5 ht.2.2.1
    obtain ⟨bl, s3, h3, h5⟩ := zq8 ht.2.2.2.1
    obtain ⟨v, h', e, rfl⟩ := zlz (u := u) (Gl.of hg) s2 s3 h1 h2 h3 h4 h5
    exact ⟨h', e⟩
end Go.Proofs.YtljdbheclfaloaaGreatDoor.AM
namespace Go.Proofs.YtljdbheclfaloaaGreatDoor.AM
set_option linter.unusedSimpArgs false
open Go.RowKit
theorem mixed : Tryz.prog.follows .mixedOrders = true := by kernel_rfl
theorem yg3 : (Tryz.prog.funcs.all fun f => f.name != "runtime.NumGoroutine") = true := by kernel_rfl
theorem reads : ya2 Tryz.prog GG FF := by
  refine ⟨fun f fn hf => ?_, ybg (by decide)⟩
  have hf : (if zlc f then none else (Tryz.prog.funcs[f]?).bind (zkh Tryz.prog GG ((ords.lookup f).getD []))) = some fn := hf
  split at hf
  · cases hf
  obtain ⟨pf, hp, hn⟩ := Option.bind_eq_some_iff.1 hf
  refine ⟨pf, _, hp, hn, ?_⟩
  have := Array.all_eq_true'.1 yg3 pf (Array.mem_of_getElem? hp)
  simpa using this
end Go.Proofs.YtljdbheclfaloaaGreatDoor.AM
namespace Go.Proofs.YtljdbheclfaloaaGreatDoor.AM
open Go.RowKit
set_option linter.unusedSimpArgs false
set_option linter.unusedVariables false

theorem ztt {P : Program} {W : World} : ∀ {laid : List (String × DataW Unit)} {ps : List MemPlace} {n : String} {d : DataW Unit}, DataW.LaidVars P W laid ps → (n, d) ∈ laid →
    ∃ g t cs fuel p, P.globalNamed n = some g ∧ (P.globals[g]?).map (·.type) = some t ∧ W.var? P n = some cs ∧ DataW.trod (fun _ => ()) P W 0 (fun _ => true) false fuel t cs.toList = some (d, p) ∧ ∀ i, i < cs.size → MemPlace.cell g i ∈ ps
  | [], ps, n, d, h, hm => by cases hm
  | (m, e) :: r, ps, n, d, h, hm => by
    obtain ⟨g, t, cs, fuel, p, q, h1, h2, h3, h4, h5, rfl⟩ := h
    rcases List.mem_cons.1 hm with hm | hm
    · cases hm
      refine ⟨g, t, cs, fuel, p, h1, h2, h3, h4, fun i hi => ?_⟩
      simp only [MemPlace.row, List.mem_append, List.mem_map, List.mem_range]
      exact .inl (.inl ⟨i, hi, by simp⟩)
    · obtain ⟨g', t', cs', fuel', p', k1, k2, k3, k4, k5⟩ := ztt h5 hm
      exact ⟨g', t', cs', fuel', p', k1, k2, k3, k4, fun i hi => List.mem_append_right _ (k5 i hi)⟩
theorem zp0 {P : Program} {W : World} {fuel : Nat} {u : TypeId} {cs : List Value} {d : DataW Unit} {p : List MemPlace} (h : DataW.trod (fun _ => ()) P W 0 (fun _ => true) false fuel u cs = some (.ptr d, p)) : ∃ e, P.underlying u = some (.pointer e) := by
  cases fuel with
  | zero => simp [DataW.trod] at h
  | succ fuel =>
    unfold DataW.trod at h
    split at h
    all_goals first
      | (rename_i hu; exact ⟨_, hu⟩)
      | (exfalso; simp at h; done)
      | (exfalso; simp only [Option.map_eq_some_iff] at h; obtain ⟨_, _, h⟩ := h; cases h; done)
      | (exfalso; split at h
         · simp only [Option.map_eq_some_iff, Option.bind_eq_some_iff] at h
           first
             | (obtain ⟨_, _, _, _, h⟩ := h; cases h; done)
             | (obtain ⟨_, _, h⟩ := h; cases h; done)
             | cases h
         · cases h
         done)
      | (exfalso; split at h <;> (first | (cases h; done) | (simp at h; done) | (simp only [Option.map_eq_some_iff] at h; obtain ⟨_, _, h⟩ := h; cases h; done)); done)
      | (exfalso; split at h
         · split at h
           · simp only [Option.bind_eq_some_iff] at h
             obtain ⟨_, _, h⟩ := h
             split at h <;> cases h
           · cases h
         · cases h)
theorem zmj {P : Program} {W : World} {fuel : Nat} {t : TypeId} {ms : Array (String × TypeId)} {cs : List Value} {nm : String} {d : DataW Unit} {p : List MemPlace} (hu : P.underlying t = some (.interface ms)) (h : DataW.trod (fun _ => ()) P W 0 (fun _ => true) false fuel t cs = some (.iface nm (.ptr d), p)) :
    ∃ u v e, cs = [.iface u v] ∧ P.underlying u = some (.pointer e) := by
  cases fuel with
  | zero => simp [DataW.trod] at h
  | succ fuel =>
    unfold DataW.trod at h
    rw [hu] at h
    split at h <;> (first | (rename_i he; cases he; done) | (simp at h; done) | skip)
    · rename_i u v _
      split at h
      · simp at h
      · obtain ⟨y, h1, h2⟩ := Option.map_eq_some_iff.1 h
        obtain ⟨y1, y2⟩ := y
        simp only [Prod.mk.injEq, DataW.iface.injEq] at h2
        obtain ⟨⟨_, rfl⟩, _⟩ := h2
        obtain ⟨e, he⟩ := zp0 h1
        exact ⟨u, v, e, rfl, he⟩
      · cases h
theorem sentinel_cell {P : Program} {W : World} {laid : List (String × DataW Unit)} {n nm : String} {d : DataW Unit} {g : Nat} {t : TypeId} {ms : Array (String × TypeId)} (hL : laidMet P laid W) (hm : (n, .iface nm (.ptr d)) ∈ laid) (hg : P.globalNamed n = some g) (ht : (P.globals[g]?).map (·.type) = some t) (hu : P.underlying t = some (.interface ms)) :
    ∃ u q, W.cell? ⟨g, 0, none⟩ = some (.iface u (.pointer q)) := by
  obtain ⟨ps, hv, _, hok⟩ := hL
  obtain ⟨g', t', cs, fuel, p, k1, k2, k3, k4, k5⟩ := ztt hv hm
  obtain rfl := Option.some.inj (hg.symm.trans k1)
  obtain rfl := Option.some.inj (ht.symm.trans k2)
  obtain ⟨u, v, e, hcs, hp⟩ := zmj hu k4
  have hc := World.var?_cell hg k3 0
  have h0 : cs[0]? = some (.iface u v) := by rw [← Array.getElem?_toList, hcs]; rfl
  rw [h0] at hc
  have hsz : 0 < cs.size := by
    have := congrArg List.length hcs; simp at this; omega
  have := (hok g 0 (k5 0 hsz)).2 u v hc
  obtain ⟨a, rfl⟩ := Go.WideShapes.okWide_pointer hp this
  exact ⟨u, a, hc⟩
variable {H : Type} {enc : TypeId × Value → H}
theorem returns_shaped {a : Assume} {C : Checked} {os : Os} {f : FuncId} {fn : Func} {s : ChangeSpec} {conds : List PathCond} {apart fresh handsOn again : Bool} {X : World → Array Value → Prop}
    (hX : ∀ (w w' : World) (args : Array Value), w.heap = w'.heap → X w args → X w' args)
    (own : ownKnob C.prog.godebug = none) (started : os.Started) (noInit : C.prog.inits.idxOf? f = none) (hfn : C.prog.funcs[f]? = some fn)
    (witness : ∃ (w : World) (tape : Tape) (i : Input), w.os = os ∧ (w.forCall tape i).Shaped C.prog ∧ i.vars = [] ∧ Input.okWide C.prog (w.forCall tape i) .any w.heap.size f i ∧
      ((s.pre enc C.prog fn conds apart (w.forCall tape i).memory i.args ∧ X (w.forCall tape i).memory i.args) ∧ sizedMet enc C.prog fn (OpenSpec.ofChange s) apart (w.forCall tape i).memory i.args) ∧ a.holds C.prog (lone (Frame.enter C.prog f i.args .normal) [] (w.forCall tape i)))
    (contract : ∀ (W : World) (base : Nat) (args : Array Value) (ds gs : List (DataW H)) (before : List MemPlace),
      (∀ (j : Nat) t v, fn.params[j]? = some t → args[j]? = some v → Value.okWide C.prog W .any base t v) →
      DataW.Whole enc C.prog fn.params.toList s.vars apart W args.toList ds gs before →
      (DataW.weightsEach C.prog (fn.params.toList ++ s.plain.varTypes C.prog) (ds ++ gs)).all (· ≤ reachBytes) = true → X W args → W.ShapedOpen C.prog →
      Calls C.prog f args W fun e W' => ∃ v, e = .returned v ∧ s.post enc C.prog fn apart fresh handsOn again W args v W') :
    ReturnsInHanded a C os f .any (fun w args => (s.pre enc C.prog fn conds apart w args ∧ X w args) ∧ sizedMet enc C.prog fn (OpenSpec.ofChange s) apart w args) (s.post enc C.prog fn apart fresh handsOn again) := by
  refine returnsInHanded_of_calls own started noInit witness ?_
  intro w tape i _ hsh _ hok hpre _
  obtain ⟨_, _, _, fn', hfn', _, _, _, _, hval⟩ := hok
  obtain rfl : fn' = fn := Option.some.inj (hfn'.symm.trans hfn)
  obtain ⟨⟨⟨ds, gs, before, hw, hc⟩, hx⟩, hz⟩ := hpre
  refine (contract (w.forCall tape i) w.heap.size i.args ds gs before hval (DataW.Whole.of_heap (w' := w.forCall tape i) (by rfl) hw) (hz.weights hw) (hX _ _ _ (by rfl) hx) hsh).mono fun e W' ⟨v, he, hp⟩ => ?_
  subst he
  exact ChangeSpec.post_blind hp
end Go.Proofs.YtljdbheclfaloaaGreatDoor.AM
