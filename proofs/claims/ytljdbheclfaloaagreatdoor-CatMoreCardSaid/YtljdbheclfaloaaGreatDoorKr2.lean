/-
  Part 2.
  Conditions: as each says.
-/
import Derived.Test.YtljdbheclfaloaaGreatDoorKr1
import Derived.Orders
import Derived.LoopN
namespace Go.Proofs.YtljdbheclfaloaaGreatDoor.AM
open Go.RowKit
set_option linter.unusedSimpArgs false
set_option linter.unusedVariables false
variable {P : Program} {G N : Nat} {σ : Emb} {g : Mem} {w : World} {h : Heap}
def grow (g : Mem) (h h' : Heap) : Mem := fun i => if i < h.length then (match g i with | none => none | some _ => h'[i]?) else h'[i]?
def Holes (g : Mem) (h h' : Heap) : Prop := h.length ≤ h'.length ∧ ∀ i, i < h.length → g i = none → h'[i]? = h[i]?
theorem zh3 (hs : Sub g h) {i : Nat} (hi : h.length ≤ i) : g i = none := by
  cases hg : g i with
  | none => rfl
  | some o =>
    have := hs i o hg
    rw [List.getElem?_eq_none hi] at this
    cases this
theorem zdv (hs : Sub g h) : grow g h h = g := by
  funext i
  unfold grow
  cases hg : g i with
  | none =>
    split
    · rfl
    · rename_i hi; exact List.getElem?_eq_none (by omega)
  | some o => rw [hs i o hg]; split <;> rfl
theorem zhy (g : Mem) (h h' : Heap) : Sub (grow g h h') h' := by
  intro i o hi
  unfold grow at hi
  split at hi
  · split at hi
    · cases hi
    · exact hi
  · exact hi
theorem Holes.refl (g : Mem) (h : Heap) : Holes g h h := ⟨Nat.le_refl _, fun _ _ _ => rfl⟩
theorem zws {h₁ h₂ h₃ : Heap} (h12 : Holes g h₁ h₂) (he : ∀ i, i < h₁.length → g i ≠ none → h₂[i]? ≠ none) : grow (grow g h₁ h₂) h₂ h₃ = grow g h₁ h₃ := by
  funext i
  have hl := h12.1
  unfold grow
  by_cases h1 : i < h₁.length
  · have h2 : i < h₂.length := by omega
    simp only [if_pos h1, if_pos h2]
    cases hg : g i with
    | none => rfl
    | some o =>
      simp only
      have := he i h1 (by rw [hg]; simp)
      cases h3 : h₂[i]? with
      | none => exact absurd h3 this
      | some q => rfl
  · simp only [if_neg h1]
    by_cases h2 : i < h₂.length
    · rw [if_pos h2, List.getElem?_eq_getElem h2]
    · rw [if_neg h2]
theorem Holes.trans {h₁ h₂ h₃ : Heap} (a : Holes g h₁ h₂) (b : Holes (grow g h₁ h₂) h₂ h₃) : Holes g h₁ h₃ := by
  refine ⟨Nat.le_trans a.1 b.1, fun i hi hg => ?_⟩
  rw [b.2 i (Nat.lt_of_lt_of_le hi a.1) (by unfold grow; rw [if_pos hi, hg]), a.2 i hi hg]
theorem ObjR.step {σ' : Emb} {g' : Mem} {w' : World} {s : Seat} {o : AObj} (he : Ext σ g σ' g') (hb : w'.heap[s.blk]? = w.heap[s.blk]?) (ho : ObjR N σ g w s o) : ObjR N σ' g' w' s o := by
  cases ho with
  | own vals cs ver el hb' h0 hw hs hv hl h1 => exact .own vals cs ver el hb' h0 (by rw [hb]; exact hw) hs (hv.ext he) hl h1
  | ro vals hb' hv h1 =>
    refine .ro vals hb' (fun i u hu => ?_) h1
    obtain ⟨c, hc, hvr⟩ := hv i u hu
    exact ⟨c, by rw [World.cell?_of_block (w := w) hb]; exact hc, hvr.ext he⟩
  | map es ms clock hb' hw he' => exact .map es ms clock hb' (by rw [hb]; exact hw) (he'.ext he)
theorem ObjR.lt {s : Seat} {o : AObj} (hm : N ≤ w.heap.size) (ho : ObjR N σ g w s o) : s.blk < w.heap.size := by
  cases ho with
  | own vals cs ver el hb' h0 hw hs hv hl h1 => exact (Array.getElem?_eq_some_iff.1 hw).1
  | ro vals hb' hv h1 => omega
  | map es ms clock hb' hw he' => exact (Array.getElem?_eq_some_iff.1 hw).1
theorem ObjR.owned {s : Seat} {o : AObj} (ho : ObjR N σ g w s o) : owns o = true ↔ N ≤ s.blk := by
  cases ho with
  | own vals cs ver el hb' h0 hw hs hv hl h1 => exact ⟨fun _ => hb', fun _ => rfl⟩
  | ro vals hb' hv h1 => exact ⟨fun h => by simp [owns] at h, fun h => by omega⟩
  | map es ms clock hb' hw he' => exact ⟨fun _ => hb', fun _ => rfl⟩
def upd (g : Mem) (id : Nat) (o : AObj) : Mem := fun i => if i = id then some o else g i
theorem zk9 (hm : MR G N σ g w) {id : Nat} (hid : g id = none) {obj : AObj} {blk : Obj} {sz : Nat} (hobj : ∀ σ' g' (w' : World), Ext σ g σ' g' → w'.heap[w.heap.size]? = some blk → ObjR N σ' g' w' ⟨w.heap.size, 0, sz⟩ obj) (hown : owns obj = true) :
    let σ' : Emb := fun i => if i = id then ⟨w.heap.size, 0, sz⟩ else σ i
    let w' : World := { w with heap := w.heap.push blk }
    Go N σ g w σ' (upd g id obj) w' ∧ MR G N σ' (upd g id obj) w' ∧ upd g id obj id = some obj ∧ σ' id = ⟨w.heap.size, 0, sz⟩ := by
  intro σ' w'
  have hg' : ∀ i, upd g id obj i = if i = id then some obj else g i := fun i => rfl
  have hold : ∀ i o, g i = some o → i ≠ id := fun i o hi e => by subst e; rw [hid] at hi; cases hi
  have hext : Ext σ g σ' (upd g id obj) := by
    constructor
    · intro i vals ver ro hi
      exact ⟨vals, ver, by rw [hg', if_neg (hold i _ hi)]; exact hi, Nat.le_refl _, fun _ => if_neg (hold i _ hi)⟩
    · intro i es hi
      exact ⟨es, by rw [hg', if_neg (hold i _ hi)]; exact hi, if_neg (hold i _ hi)⟩
  have hblk : ∀ b, b < w.heap.size → w'.heap[b]? = w.heap[b]? := by
    intro b hb
    show (w.heap.push blk)[b]? = _
    rw [Array.getElem?_push, if_neg (by omega)]
  have hnew : w'.heap[w.heap.size]? = some blk := by show (w.heap.push blk)[w.heap.size]? = _; simp
  have hsize : w'.heap.size = w.heap.size + 1 := by show (w.heap.push blk).size = _; simp
  have hself : σ' id = ⟨w.heap.size, 0, sz⟩ := if_pos rfl
  refine ⟨⟨hext, by omega, rfl, rfl, rfl, fun b hb _ => hblk b hb, ?_⟩, ⟨?_, ?_, ?_, ?_⟩, by rw [hg', if_pos rfl], hself⟩
  · rintro b ⟨i, o, hi, ho, hb⟩
    rw [hg'] at hi
    by_cases h1 : i = id
    · subst h1; rw [hself] at hb; exact .inr (by rw [← hb]; exact Nat.le_refl _)
    · rw [if_neg h1] at hi
      exact .inl ⟨i, o, hi, ho, by rw [← hb]; show (σ i).blk = (if i = id then _ else σ i : Seat).blk; rw [if_neg h1]⟩
  · intro i o hi
    rw [hg'] at hi
    by_cases h1 : i = id
    · subst h1
      rw [if_pos rfl] at hi; cases hi
      rw [hself]
      exact hobj σ' _ w' hext hnew
    · rw [if_neg h1] at hi
      have := hm.obj i o hi
      rw [show σ' i = σ i from if_neg h1]
      exact this.step hext (hblk _ (this.lt hm.size))
  · intro i j o p hi hj ho hp he
    rw [hg'] at hi hj
    by_cases h1 : i = id
    · by_cases h2 : j = id
      · rw [h1, h2]
      · rw [if_neg h2] at hj
        rw [h1, hself, show σ' j = σ j from if_neg h2] at he
        have := (hm.obj j p hj).lt hm.size
        simp only at he
        omega
    · rw [if_neg h1] at hi
      by_cases h2 : j = id
      · rw [h2, hself, show σ' i = σ i from if_neg h1] at he
        have := (hm.obj i o hi).lt hm.size
        simp only at he
        omega
      · rw [if_neg h2] at hj
        rw [show σ' i = σ i from if_neg h1, show σ' j = σ j from if_neg h2] at he
        exact hm.inj i j o p hi hj ho hp he
  · intro i hi
    obtain ⟨vals, h1, h2, h3⟩ := hm.glob i hi
    have hne := hold i _ h1
    exact ⟨vals, by rw [hg', if_neg hne]; exact h1, by rw [show σ' i = σ i from if_neg hne]; exact h2, by rw [show σ' i = σ i from if_neg hne]; exact h3⟩
  · have := hm.size; omega
theorem zmh (hs : Sub g h) (obj : AObj) : grow g h (h ++ [obj]) = upd g h.length obj := by
  funext i
  unfold grow upd
  by_cases h1 : i < h.length
  · rw [if_pos h1, if_neg (by omega)]
    cases hg : g i with
    | none => rfl
    | some o => simp only; rw [List.getElem?_append_left h1]; exact hs i o hg
  · rw [if_neg h1]
    by_cases h2 : i = h.length
    · subst h2; simp
    · rw [if_neg h2, zh3 hs (by omega)]
      exact List.getElem?_eq_none (by simp; omega)
theorem zzv (hm : MR G N σ g w) (hs : Sub g h) {obj : AObj} {blk : Obj} {sz : Nat} (hobj : ∀ σ' g' (w' : World), Ext σ g σ' g' → w'.heap[w.heap.size]? = some blk → ObjR N σ' g' w' ⟨w.heap.size, 0, sz⟩ obj) (hown : owns obj = true) :
    let σ' : Emb := fun i => if i = h.length then ⟨w.heap.size, 0, sz⟩ else σ i
    let w' : World := { w with heap := w.heap.push blk }
    let g' := grow g h (h ++ [obj])
    Go N σ g w σ' g' w' ∧ MR G N σ' g' w' ∧ Holes g h (h ++ [obj]) ∧ g' h.length = some obj ∧ σ' h.length = ⟨w.heap.size, 0, sz⟩ := by
  intro σ' w' g'
  obtain ⟨h1, h2, h3, h4⟩ := zk9 hm (zh3 hs (Nat.le_refl h.length)) hobj hown
  have e : g' = upd g h.length obj := zmh hs obj
  refine ⟨?_, ?_, ⟨by simp, fun i hi _ => List.getElem?_append_left hi⟩, ?_, h4⟩
  · rw [e]; exact h1
  · rw [e]; exact h2
  · rw [e]; exact h3
def Done (G N : Nat) (σ : Emb) (g : Mem) (w : World) (h : Heap) (v : Value) (h' : Heap) (cv : Value) (w' : World) : Prop :=
  ∃ σ', Go N σ g w σ' (grow g h h') w' ∧ MR G N σ' (grow g h h') w' ∧ VR σ' (grow g h h') v cv ∧ Holes g h h'
theorem Done.same (hm : MR G N σ g w) (hs : Sub g h) {v cv : Value} (hv : VR σ g v cv) : Done G N σ g w h v h cv w := by
  refine ⟨σ, ?_, ?_, ?_, .refl _ _⟩ <;> rw [zdv hs]
  · exact .refl _ _ _ _
  · exact hm
  · exact hv
def zxv (G N : Nat) (σ : Emb) (g : Mem) (w : World) (id : Nat) (obj : AObj) (v cv : Value) (w' : World) : Prop :=
  ∃ σ', Go N σ g w σ' (upd g id obj) w' ∧ MR G N σ' (upd g id obj) w' ∧ VR σ' (upd g id obj) v cv
theorem zko (hm : MR G N σ g w) {id : Nat} (hid : g id = none) {l cs : List Value} {el : TypeId} (hv : VRs σ g l cs) (h1 : ∀ x ∈ l, single x = true) :
    let w' : World := { w with heap := w.heap.push (.cells ⟨cs⟩ el) }
    zxv G N σ g w id (.cells l 0 false) (ptr id 0 0) (.pointer (some ⟨w.heap.size, 0, none⟩)) w' ∧
    ∀ n c, n * c ≤ cs.length → zxv G N σ g w id (.cells l 0 false) (slc id 0 0 n c) (.slice (some ⟨w.heap.size, 0, none⟩) n n) w' := by
  intro w'
  have hl := hv.length
  obtain ⟨h2, h3, h5, h6⟩ := zk9 hm hid (obj := .cells l 0 false) (blk := .cells ⟨cs⟩ el) (sz := cs.length)
    (fun σ' g' w' he hw => .own l cs 0 el (hm.size) rfl hw rfl (by rw [List.take_of_length_le (by omega)]; exact hv.ext he) (by omega) h1) rfl
  refine ⟨⟨_, h2, h3, .ptr _ _ 0 l 0 false rfl h5 (Nat.le_refl _) (fun _ => ?_)⟩, fun n c hn => ⟨_, h2, h3, .slice _ _ _ _ _ 0 l 0 false rfl h5 (Nat.le_refl _) (Nat.le_refl _) (fun _ => .inl ⟨?_, fun _ => ?_⟩)⟩⟩
  · simp only [if_pos]
  · simp only [if_pos]
  · simp only [if_pos]; omega
theorem zan {z : List Value} : ∀ n, (bw z n).length = n * z.length
  | 0 => by simp [bw]
  | n + 1 => by simp [bw, zan n, Nat.add_mul]; omega
theorem zq2 {z : List Value} : ∀ (n i : Nat), i < n * z.length → (bw z n)[i]? = z[i % z.length]?
  | 0, i, h => by simp at h
  | n + 1, i, h => by
    simp only [bw]
    by_cases h1 : i < z.length
    · rw [List.getElem?_append_left h1, Nat.mod_eq_of_lt h1]
    · rw [List.getElem?_append_right (by omega), zq2 n (i - z.length) (by rw [Nat.add_mul] at h; omega), ← Nat.mod_eq_sub_mod (by omega)]
theorem zkz {z : List Value} (hz : 0 < z.length) (n m : Nat) (hm : m = n * z.length) : (Array.range m).map (fun i => (⟨z⟩ : Array Value)[i % (⟨z⟩ : Array Value).size]!) = ⟨bw z n⟩ := by
  subst hm
  apply Array.ext'
  apply List.ext_getElem?
  intro i
  by_cases h : i < n * z.length
  · have hlt : i % z.length < z.length := Nat.mod_lt _ hz
    rw [show (⟨bw z n⟩ : Array Value).toList = bw z n from rfl, zq2 n i h]
    simp [h, hlt]
  · rw [List.getElem?_eq_none (by simp; omega), List.getElem?_eq_none (by rw [show (⟨bw z n⟩ : Array Value).toList = bw z n from rfl, zan]; omega)]
theorem zhs {z : List Value} (h : z.all plain1 = true) : ∀ n, (bw z n).all plain1 = true
  | 0 => rfl
  | n + 1 => by simp only [bw, List.all_append, h, zhs h n, Bool.and_true]
end Go.Proofs.YtljdbheclfaloaaGreatDoor.AM
namespace Go.Proofs.YtljdbheclfaloaaGreatDoor.AM
open Go.RowKit
set_option linter.unusedSimpArgs false
variable {P : Program} {G N : Nat} {σ : Emb} {g : Mem} {w : World} {h : Heap}
def ygr (P : Program) (G N : Nat) (σ : Emb) (g : Mem) (w : World) (h : Heap) (v : Value) (h' : Heap) (s : Sem Next) : Prop :=
  ∃ obj, h' = h ++ [obj] ∧ ∃ cv w', s.run P w = .ok (.value cv) w' ∧ zxv G N σ g w h.length obj v cv w'
theorem zwx {t : TypeId} {b : Nat} (h : zj0 P t = some b) (w : World) : ∃ i, (typeInfo t).run P w = .ok i w ∧ i.bytes = b := by
  unfold zj0 at h
  obtain ⟨i, hi, rfl⟩ := yo h
  exact ⟨i, by simp [typeInfo, hi], rfl⟩
set_option maxHeartbeats 1000000 in
theorem zpx (call : qd) (hm : MR G N σ g w) (hid : g h.length = none) {ρ ρc : Operand → Value} {o : Oper} {ao : AOp} (hn : wv P o.type o.op = some ao) (hk : ao.makes = true)
    (hv : ∀ x ∈ o.op.operands, VR σ g (ρ x) (ρc x)) (hc : ∀ v, ρ (.const v) = v ∧ ρc (.const v) = v) {v : Value} {h' : Heap} (he : evOp call ρ h ao = some (v, h')) : ygr P G N σ g w h v h' (execOp ρc o) := by
  obtain ⟨dst, op, ty, pos, after, guard⟩ := o
  simp only at hn hv
  cases op
  case alloc t =>
    simp only [wv] at hn
    obtain ⟨z, hz, rfl⟩ := yo hn
    obtain ⟨zv, hzv, hzl⟩ := zee hz
    have hzp := zgk hzl (zb9 hzv)
    simp only [evOp, Option.some.injEq, Prod.mk.injEq] at he
    obtain ⟨rfl, rfl⟩ := he
    obtain ⟨hd, _⟩ := zko (el := t) hm hid (VRs.plain1 hzp : VRs σ g z z) fun x hx => kv (List.all_eq_true.1 hzp x hx)
    refine ⟨_, rfl, _, _, ?_, hd⟩
    simp only [execOp, Instr.alloc, Sem.run_bind, (zce hzv w).1, Result.andThen_ok, newVar, newRow, zeb hzl, run_newObj, Sem.run_pure]
  case box t x =>
    have hx := hv x (by simp [Op.operands])
    simp only [wv] at hn
    obtain ⟨n, hn', rfl⟩ := yo hn
    simp only [evOp] at he
    split at he
    · rename_i l hl
      split at he
      · simp only [Option.some.injEq, Prod.mk.injEq] at he
        obtain ⟨rfl, rfl⟩ := he
        obtain ⟨cs, hcs, hvs, h1⟩ := zmt hx hl
        obtain ⟨hd, _⟩ := zko (el := t) hm hid hvs h1
        refine ⟨_, rfl, _, _, ?_, hd⟩
        simp only [execOp, Instr.box, newVar, newRow, hcs, Sem.run_bind, run_newObj, Result.andThen_ok, Sem.run_pure]
      · cases he
    · cases he
  case buildSlice t n ps =>
    simp only [wv] at hn
    cases hu : P.underlying t with
    | none => rw [hu] at hn; cases hn
    | some d =>
      rw [hu] at hn
      cases d <;> simp only [reduceCtorEq] at hn
      rename_i e
      cases hz : zfi P e with
      | none => rw [hz] at hn; cases hn
      | some z =>
        cases hsz : gk P e with
        | none => rw [hz, hsz] at hn; cases hn
        | some m =>
          cases hps : zfn P e ps with
          | none => rw [hz, hsz, hps] at hn; cases hn
          | some qs =>
            rw [hz, hsz, hps] at hn
            simp only at hn
            split at hn
            · rename_i hcond
              obtain ⟨hbig, hzl', hpos⟩ := hcond
              simp only [Option.some.injEq] at hn; subst hn
              obtain ⟨zv, hzv, hzl⟩ := zee hz
              have hzp := zgk hzl (zb9 hzv)
              have hzc := zeb hzl
              unfold zfn at hps
              obtain ⟨m', hm', rfl⟩ := yo hps
              rw [hsz] at hm'; cases hm'
              simp only [evOp] at he
              obtain ⟨l, hl, hr⟩ := yo he
              simp only [Prod.mk.injEq] at hr
              obtain ⟨rfl, rfl⟩ := hr
              have hz0 := zhs hzp n
              obtain ⟨ds, h1, h2, h3, h4⟩ := zgv (σ := σ) (g := g) (place := fun i => some (i * m, m)) ((ps.toList.map fun p => (p.1 * m, m, p.2)).map fun p => (p.1, p.2.1, ρ p.2.2)) (ps.map fun (i, x) => (i, ρc x)).toList
                (bw z n) (bw z n) l (.plain1 hz0) (fun x hx => kv (List.all_eq_true.1 hz0 x hx))
                (by simp) (fun i p q hp hq' => by
                  simp only [List.getElem?_map, Option.map_map, Option.map_eq_some_iff] at hp
                  obtain ⟨p0, hp0, rfl⟩ := hp
                  simp only [Array.toList_map, List.getElem?_map, Option.map_eq_some_iff] at hq'
                  obtain ⟨q0, hq0, rfl⟩ := hq'
                  rw [hp0] at hq0; cases hq0
                  refine ⟨rfl, ?_⟩
                  refine hv _ ?_
                  have hmem : p0 ∈ ps.toList := List.mem_of_getElem? hp0
                  simp only [Op.operands, List.mem_toArray, List.mem_map]
                  exact ⟨p0, hmem, rfl⟩) hl
              obtain ⟨_, hd⟩ := zko (el := e) hm hid h2 h3
              have hlen : n * z.length ≤ ds.length := by rw [← h2.length, h4, zan]; exact Nat.le_refl _
              refine ⟨_, rfl, _, _, ?_, hd n z.length hlen⟩
              have hzm := zkz (z := z) (by omega) n (n * m) (by rw [hzl'])
              have hno : ¬ n * m > 2 ^ 24 := by omega
              simp only [execOp, Instr.buildSlice, Sem.run_bind, vc hu, Result.andThen_ok, jg hsz, if_neg hno, Sem.run_pure]
              by_cases h0 : n * m = 0
              · have hz' : bw z n = [] := by
                  apply List.length_eq_zero_iff.1; rw [zan, hzl', h0]
                rw [hz'] at h1
                simp only [if_pos h0, Sem.run_bind, Sem.run_pure, Result.andThen_ok]
                rw [h0, show (Array.map (fun x => (#[] : Array Value)[x % (#[] : Array Value).size]!) (Array.range 0)) = ⟨[]⟩ from by simp, h1]
                simp only [newRow, Sem.run_bind, run_newObj, Result.andThen_ok, Sem.run_pure]
              · simp only [if_neg h0, Sem.run_bind, (zce hzv w).1, Result.andThen_ok, hzc, Sem.run_pure]
                rw [hzm, h1]
                simp only [newRow, Sem.run_bind, run_newObj, Result.andThen_ok, Sem.run_pure]
            · cases hn
  case makeMap t r =>
    have hn : za5 (P.underlying t) r = some ao := hn
    cases hu : P.underlying t with
    | none => rw [hu] at hn; cases hn
    | some d =>
      rw [hu] at hn
      cases d <;> (try (simp [za5] at hn; done))
      rename_i kt e
      have fin : ao = .mkMap → (∀ x, r = some x → ∃ k n, x = .const (.int k n)) → ygr P G N σ g w h v h' (execOp ρc ⟨dst, .makeMap t r, ty, pos, after, guard⟩) := by
        rintro rfl hr
        simp only [evOp, Option.some.injEq, Prod.mk.injEq] at he
        obtain ⟨rfl, rfl⟩ := he
        obtain ⟨h2, h3, h5, h6⟩ := zk9 hm hid (obj := .map []) (blk := .map #[] 0) (sz := 0) (fun σ' g' w' he hw => .map [] [] 0 hm.size hw .nil) rfl
        refine ⟨_, rfl, .map (some w.heap.size), _, ?_, _, h2, h3, .map _ _ [] h5 (by simp only [if_pos])⟩
        cases r with
        | none => rfl
        | some x =>
          obtain ⟨k, n, rfl⟩ := hr x rfl
          simp only [execOp, Instr.makeMap, Option.map_some, (hc _).2, Sem.run_bind, vc hu, Result.andThen_ok, asInt, asIntOf, Sem.run_pure, run_newObj]
      cases r with
      | none => simp only [za5, Option.some.injEq] at hn; exact fin hn.symm (fun x hx => by cases hx)
      | some x =>
        cases x with
        | const c =>
          cases c <;> (try (simp [za5] at hn; done))
          simp only [za5, Option.some.injEq] at hn
          exact fin hn.symm (fun x hx => by cases hx; exact ⟨_, _, rfl⟩)
        | _ => simp [za5] at hn
  case makeSlice t l c =>
    have hl := hv l (by simp [Op.operands])
    have hcv := hv c (by simp [Op.operands])
    simp only [wv] at hn
    cases hu : P.underlying t with
    | none => rw [hu] at hn; cases hn
    | some d =>
      rw [hu] at hn
      cases d <;> simp only [reduceCtorEq] at hn
      rename_i e
      cases hz : zfi P e with
      | none => rw [hz] at hn; cases hn
      | some z =>
        cases hsz : gk P e with
        | none => rw [hz, hsz] at hn; cases hn
        | some m =>
          cases hb : zj0 P e with
          | none => rw [hz, hsz, hb] at hn; cases hn
          | some b =>
            rw [hz, hsz, hb] at hn
            simp only at hn
            split at hn
            · rename_i hcond
              obtain ⟨hsame, hzl', hpos, hbpos⟩ := hcond
              simp only [Option.some.injEq] at hn; subst hn
              obtain ⟨zv, hzv, hzl⟩ := zee hz
              have hzp := zgk hzl (zb9 hzv)
              have hzc := zeb hzl
              simp only [evOp] at he
              split at he
              · rename_i k n hlv
                split at he
                · rename_i hroom
                  obtain ⟨h0, hle⟩ := hroom
                  simp only [Option.some.injEq, Prod.mk.injEq] at he
                  obtain ⟨rfl, rfl⟩ := he
                  have hrl : ρc l = .int k n := by rw [hlv] at hl; exact hl.int_inv
                  have hrc : ∃ k', ρc c = .int k' n := by
                    cases l <;> cases c <;> simp only [zli, Bool.false_eq_true, beq_iff_eq] at hsame
                    · subst hsame; exact ⟨k, hrl⟩
                    · rename_i u u'
                      cases u <;> cases u' <;> simp only [Bool.false_eq_true, beq_iff_eq] at hsame
                      subst hsame
                      rw [(hc _).1] at hlv
                      cases hlv
                      exact ⟨_, (hc _).2⟩
                  obtain ⟨k', hrc⟩ := hrc
                  have hn64 : n ≤ 140737488355328 := by
                    have : n * 1 ≤ n * b := Int.mul_le_mul_of_nonneg_left (by omega) h0
                    unfold k8 at hle; omega
                  have hwr : IntKind.i64.wrap n = n := by rw [IntKind.wrap_i64]; omega
                  have hz0 := zhs hzp n.toNat
                  obtain ⟨_, hd⟩ := zko (el := e) hm hid (.plain1 hz0 : VRs σ g (bw z n.toNat) (bw z n.toNat)) fun x hx => kv (List.all_eq_true.1 hz0 x hx)
                  have hlen : n.toNat * m ≤ (bw z n.toNat).length := by rw [zan, hzl']; exact Nat.le_refl _
                  refine ⟨_, rfl, _, _, ?_, hd n.toNat m hlen⟩
                  obtain ⟨i, hi, hib⟩ := zwx hb w
                  have hlarge : (decide (n < 0) || decide ((b : Int) * n > 2 ^ 48)) = false := by
                    have : (b : Int) * n = n * b := Int.mul_comm _ _
                    unfold k8 at hle
                    simp only [Bool.or_eq_false_iff, decide_eq_false_iff_not]
                    constructor <;> omega
                  have hzm := zkz (z := z) (by omega) n.toNat (n.toNat * m) (by rw [hzl'])
                  simp only [execOp, Instr.makeSlice, Sem.run_bind, vc hu, Result.andThen_ok, hrl, hrc, asInt, asIntOf, Sem.run_pure, hi, hwr, hib, hlarge, Bool.false_or]
                  rw [if_neg (by simp only [Bool.or_eq_true, decide_eq_true_eq]; omega)]
                  simp only [Sem.run_bind, run_askRoom, Result.andThen_ok, jg hsz]
                  by_cases h0 : n.toNat * m = 0
                  · have hz' : bw z n.toNat = [] := by
                      apply List.length_eq_zero_iff.1; rw [zan, hzl', h0]
                    rw [hz']
                    simp only [if_pos h0, Sem.run_bind, Sem.run_pure, Result.andThen_ok]
                    rw [h0, show (Array.map (fun x => (#[] : Array Value)[x % (#[] : Array Value).size]!) (Array.range 0)) = ⟨[]⟩ from by simp]
                    simp only [newRow, Sem.run_bind, run_newObj, Result.andThen_ok, Sem.run_pure]
                  · simp only [if_neg h0, Sem.run_bind, (zce hzv w).1, Result.andThen_ok, hzc, Sem.run_pure]
                    rw [hzm]
                    simp only [newRow, Sem.run_bind, run_newObj, Result.andThen_ok, Sem.run_pure]
                · cases he
              · cases he
            · cases hn
  case binOp op t x y yt =>
    exfalso
    have eqs : ∀ neg, zdm P neg t x y = some ao → False := by
      intro neg hne
      unfold zdm at hne
      repeat' split at hne
      all_goals first
        | (cases hne; done)
        | (simp only [Option.some.injEq] at hne; subst hne; simp [AOp.makes] at hk; done)
        | (obtain ⟨z, _, rfl⟩ := yo hne; simp [AOp.makes] at hk; done)
    simp only [wv] at hn
    cases op <;> simp only at hn
    case eql => exact eqs false hn
    case neq => exact eqs true hn
    all_goals
      split at hn
      · simp only [Option.some.injEq] at hn; subst hn; simp [AOp.makes] at hk
      · cases hn
  case call c =>
    exfalso
    simp only [wv, zdl] at hn
    repeat' split at hn
    all_goals first
      | (cases hn; done)
      | (simp only [Option.some.injEq] at hn; subst hn; simp [AOp.makes] at hk; done)
  case makeFunc fn a b =>
    exfalso
    cases fn <;> simp only [wv, reduceCtorEq, Option.some.injEq] at hn
    subst hn; simp [AOp.makes] at hk
  case slice t x lo hi mx =>
    exfalso
    cases mx with
    | some y => simp [wv] at hn
    | none =>
      simp only [wv] at hn
      repeat' split at hn
      all_goals first
        | (cases hn; done)
        | (simp only [Option.some.injEq] at hn; subst hn; simp [AOp.makes] at hk; done)
        | (obtain ⟨z, _, hn⟩ := Option.bind_eq_some_iff.1 hn
           split at hn <;> first | (cases hn; done) | (simp only [Option.some.injEq] at hn; subst hn; simp [AOp.makes] at hk; done))
  all_goals
    exfalso
    simp only [wv, reduceCtorEq] at hn
    try (
      repeat' split at hn
      all_goals first
        | (cases hn; done)
        | (simp only [Option.some.injEq] at hn; subst hn; simp [AOp.makes] at hk; done)
        | (obtain ⟨z, _, rfl⟩ := yo hn; simp [AOp.makes] at hk; done)
        | (obtain ⟨z, _, hn⟩ := Option.bind_eq_some_iff.1 hn
           split at hn <;> first | (cases hn; done) | (simp only [Option.some.injEq] at hn; subst hn; simp [AOp.makes] at hk; done)))
theorem yer (call : qd) (hm : MR G N σ g w) (hs : Sub g h) {ρ ρc : Operand → Value} {o : Oper} {ao : AOp} (hn : wv P o.type o.op = some ao) (hk : ao.makes = true)
    (hv : ∀ x ∈ o.op.operands, VR σ g (ρ x) (ρc x)) (hc : ∀ v, ρ (.const v) = v ∧ ρc (.const v) = v) {v : Value} {h' : Heap} (he : evOp call ρ h ao = some (v, h')) :
    ∃ cv w', (execOp ρc o).run P w = .ok (.value cv) w' ∧ Done G N σ g w h v h' cv w' := by
  obtain ⟨obj, rfl, cv, w', hrun, σ', h1, h2, h3⟩ := zpx call hm (zh3 hs (Nat.le_refl h.length)) hn hk hv hc he
  refine ⟨cv, w', hrun, σ', ?_, ?_, ?_, ⟨by simp, fun i hi _ => List.getElem?_append_left hi⟩⟩ <;> rw [zmh hs]
  · exact h1
  · exact h2
  · exact h3
theorem zna {call : qd} {ρ : Operand → Value} {ao : AOp} (hk : ao.makes = true) {h h₁ : Heap} {v : Value} {h' : Heap} (he : evOp call ρ h ao = some (v, h')) :
    ∃ obj, h' = h ++ [obj] ∧ (h₁.length = h.length → evOp call ρ h₁ ao = some (v, h₁ ++ [obj])) := by
  cases ao <;> simp only [AOp.makes, Bool.false_eq_true] at hk
  case alloc z =>
    simp only [evOp, Option.some.injEq, Prod.mk.injEq] at he
    obtain ⟨rfl, rfl⟩ := he
    exact ⟨_, rfl, fun e => by simp [evOp, e]⟩
  case box n x =>
    simp only [evOp] at he
    split at he
    · rename_i l hl
      split at he
      · rename_i hn
        simp only [Option.some.injEq, Prod.mk.injEq] at he
        obtain ⟨rfl, rfl⟩ := he
        exact ⟨_, rfl, fun e => by simp [evOp, hl, hn, e]⟩
      · cases he
    · cases he
  case mkRow z n ps =>
    simp only [evOp] at he
    obtain ⟨l, hl, hr⟩ := yo he
    simp only [Prod.mk.injEq] at hr
    obtain ⟨rfl, rfl⟩ := hr
    exact ⟨_, rfl, fun e => by simp [evOp, hl, e]⟩
  case mkSlice m b z l =>
    simp only [evOp] at he
    split at he
    · rename_i k n hl
      split at he
      · rename_i hn
        simp only [Option.some.injEq, Prod.mk.injEq] at he
        obtain ⟨rfl, rfl⟩ := he
        exact ⟨_, rfl, fun e => by simp only [evOp, hl]; rw [if_pos hn, e]⟩
      · cases he
    · cases he
  case mkMap =>
    simp only [evOp, Option.some.injEq, Prod.mk.injEq] at he
    obtain ⟨rfl, rfl⟩ := he
    exact ⟨_, rfl, fun e => by simp [evOp, e]⟩
end Go.Proofs.YtljdbheclfaloaaGreatDoor.AM
namespace Go.Proofs.YtljdbheclfaloaaGreatDoor.AM
open Go.RowKit
set_option linter.unusedSimpArgs false
set_option linter.unusedVariables false
variable {P : Program} {G N : Nat} {σ : Emb} {g : Mem} {w : World} {h : Heap}
theorem zip (hm : MR G N σ g w) (hs : Sub g h) {id : Nat} {old new : AObj} (hg : g id = some old) (hown : owns old = true) (hown' : owns new = true) (s' : Seat) (w' : World)
    (hcells : ∀ vals ver ro, old = .cells vals ver ro → ∃ vals' ver', new = .cells vals' ver' ro ∧ ver ≤ ver' ∧ (ver = ver' → s' = σ id))
    (hmap : ∀ es, old = .map es → ∃ es', new = .map es' ∧ s' = σ id)
    (hnew : ∀ σ' g', Ext σ g σ' g' → ObjR N σ' g' w' s' new)
    (hblocks : ∀ b, b < w.heap.size → b ≠ (σ id).blk → w'.heap[b]? = w.heap[b]?) (hblk : s'.blk = (σ id).blk ∨ w.heap.size ≤ s'.blk)
    (hsize : w.heap.size ≤ w'.heap.size) (hos : w'.os = w.os) (htape : w'.tape = w.tape) (hout : w'.output = w.output) :
    let σ' : Emb := fun i => if i = id then s' else σ i
    let g' := grow g h (h.set id new)
    Go N σ g w σ' g' w' ∧ MR G N σ' g' w' ∧ Holes g h (h.set id new) ∧ g' id = some new := by
  intro σ' g'
  have hlt : id < h.length := (List.getElem?_eq_some_iff.1 (hs _ _ hg)).1
  have hg' : ∀ i, g' i = if i = id then some new else g i := by
    intro i
    show grow g h (h.set id new) i = _
    unfold grow
    by_cases h1 : i = id
    · subst h1
      rw [if_pos rfl, if_pos hlt, hg]
      simp [hlt]
    · rw [if_neg h1]
      have hset : (h.set id new)[i]? = h[i]? := List.getElem?_set_ne (fun e => h1 e.symm)
      by_cases h2 : i < h.length
      · rw [if_pos h2]
        cases hgi : g i with
        | none => rfl
        | some o => simp only; rw [hset]; exact hs i o hgi
      · rw [if_neg h2, hset, zh3 hs (by omega)]
        exact List.getElem?_eq_none (by omega)
  have hself : σ' id = s' := if_pos rfl
  have hother : ∀ i, i ≠ id → σ' i = σ i := fun i hi => if_neg hi
  have hext : Ext σ g σ' g' := by
    constructor
    · intro i vals ver ro hi
      rw [hg']
      by_cases h1 : i = id
      · subst h1
        rw [hg] at hi; cases hi
        obtain ⟨vals', ver', rfl, hle, he⟩ := hcells _ _ _ rfl
        exact ⟨vals', ver', if_pos rfl, hle, fun e => by rw [hself]; exact he e⟩
      · exact ⟨vals, ver, by rw [if_neg h1]; exact hi, Nat.le_refl _, fun _ => hother i h1⟩
    · intro i es hi
      rw [hg']
      by_cases h1 : i = id
      · subst h1
        rw [hg] at hi; cases hi
        obtain ⟨es', rfl, he⟩ := hmap _ rfl
        exact ⟨es', if_pos rfl, by rw [hself]; exact he⟩
      · exact ⟨es, by rw [if_neg h1]; exact hi, hother i h1⟩
  have hN := (hm.obj _ _ hg).owned.1 hown
  have hne : ∀ i o, i ≠ id → g i = some o → (σ i).blk ≠ (σ id).blk := by
    intro i o h1 hi e
    have ho := hm.obj i o hi
    have : owns o = true := ho.owned.2 (by rw [e]; exact hN)
    exact h1 (hm.inj i id o old hi hg this hown e)
  refine ⟨⟨hext, hsize, hos, htape, hout, fun b hb hno => hblocks b hb fun e => hno ⟨id, old, hg, hown, e.symm⟩, ?_⟩, ⟨?_, ?_, ?_, Nat.le_trans hm.size hsize⟩, ⟨by simp, fun i hi hgi => ?_⟩, by rw [hg', if_pos rfl]⟩
  · rintro b ⟨i, o, hi, ho, hb⟩
    rw [hg'] at hi
    by_cases h1 : i = id
    · subst h1
      rw [hself] at hb
      rcases hblk with e | e
      · exact .inl ⟨i, old, hg, hown, by rw [← hb, e]⟩
      · exact .inr (by rw [← hb]; exact e)
    · rw [if_neg h1] at hi
      exact .inl ⟨i, o, hi, ho, by rw [← hb, hother i h1]⟩
  · intro i o hi
    rw [hg'] at hi
    by_cases h1 : i = id
    · subst h1
      rw [if_pos rfl] at hi; cases hi
      rw [hself]
      exact hnew σ' g' hext
    · rw [if_neg h1] at hi
      have := hm.obj i o hi
      rw [hother i h1]
      exact this.step hext (hblocks _ (this.lt hm.size) (hne i o h1 hi))
  · intro i j o p hi hj ho hp he
    rw [hg'] at hi hj
    have clash : ∀ k q, k ≠ id → g k = some q → (σ k).blk ≠ s'.blk := by
      intro k q hk hq e
      rcases hblk with e' | e'
      · exact hne k q hk hq (by rw [e, e'])
      · have := (hm.obj k q hq).lt hm.size; omega
    by_cases h1 : i = id
    · by_cases h2 : j = id
      · rw [h1, h2]
      · rw [if_neg h2] at hj
        rw [h1, hself, hother j h2] at he
        exact absurd he.symm (clash j p h2 hj)
    · rw [if_neg h1] at hi
      by_cases h2 : j = id
      · rw [h2, hself, hother i h1] at he
        exact absurd he (clash i o h1 hi)
      · rw [if_neg h2] at hj
        rw [hother i h1, hother j h2] at he
        exact hm.inj i j o p hi hj ho hp he
  · intro i hi
    obtain ⟨vals, h1, h2, h3⟩ := hm.glob i hi
    have hne : i ≠ id := by
      rintro rfl
      rw [hg] at h1; cases h1
      simp [owns] at hown
    exact ⟨vals, by rw [hg', if_neg hne]; exact h1, by rw [hother i hne]; exact h2, by rw [hother i hne]; exact h3⟩
  · exact List.getElem?_set_ne (by rintro rfl; rw [hg] at hgi; cases hgi)
theorem zi4 {c : Value} (h : single c = true) : c.oneCell' = true := by cases c <;> first | rfl | simp [single] at h
theorem zdu {b : Nat} {el : TypeId} : ∀ (vs : List Value) (i o : Nat) (cs : List Value) (w : World), w.heap[b]? = some (.cells ⟨cs⟩ el (0, 0)) → o + i + vs.length ≤ cs.length → (∀ v ∈ vs, single v = true) →
    ∃ w', (storeCells ⟨b, o, none⟩ vs i).run P w = .ok () w' ∧ w'.heap[b]? = some (.cells ⟨splice cs (o + i) vs⟩ el (0, 0)) ∧ (∀ k, k ≠ b → w'.heap[k]? = w.heap[k]?) ∧ w'.heap.size = w.heap.size ∧ w'.os = w.os ∧ w'.tape = w.tape ∧ w'.output = w.output
  | [], i, o, cs, w, hb, _, _ => ⟨w, rfl, by rw [hb]; simp [splice], fun _ _ => rfl, rfl, rfl, rfl, rfl⟩
  | v :: vs, i, o, cs, w, hb, hle, h1 => by
    simp only [List.length_cons] at hle
    have hlt : o + i < cs.length := by omega
    have hc : w.cell? ⟨b, o + i, none⟩ = some cs[o + i] := by simp [World.cell?, hb, hlt]
    have hf : w.frozen? ⟨b, o + i, none⟩ = false := by simp [World.frozen?, hb]
    have hst : (store ⟨b, o + i, none⟩ v).run P w = .ok () (w.setCell ⟨b, o + i, none⟩ v) := by
      rw [run_store P w _ v _ (zi4 (h1 v (by simp))), hc]
      simp [hf]
    have hblt : b < w.heap.size := (Array.getElem?_eq_some_iff.1 hb).1
    have hb' : (w.setCell ⟨b, o + i, none⟩ v).heap[b]? = some (.cells ⟨cs.set (o + i) v⟩ el (0, 0)) := by
      simp only [World.setCell, Array.getElem?_modify, if_pos, hb, Option.map_some]
      simp
    have hother : ∀ k, k ≠ b → (w.setCell ⟨b, o + i, none⟩ v).heap[k]? = w.heap[k]? := by
      intro k hk
      simp only [World.setCell, Array.getElem?_modify]
      rw [if_neg (fun e => hk e.symm)]
    obtain ⟨w', h2, h3, h4, h5, h6, h7, h8⟩ := zdu vs (i + 1) o (cs.set (o + i) v) (w.setCell ⟨b, o + i, none⟩ v) hb' (by rw [List.length_set]; omega) fun x hx => h1 x (by simp [hx])
    refine ⟨w', ?_, ?_, fun k hk => by rw [h4 k hk, hother k hk], by rw [h5]; simp, by rw [h6]; rfl, by rw [h7]; rfl, by rw [h8]; rfl⟩
    · simp only [storeCells, Sem.run_bind, ze8, hst, Result.andThen_ok]
      exact h2
    · rw [h3]
      congr 2
      have ht : (cs.take (o + i)).length = o + i := by rw [List.length_take]; omega
      have hset : cs.set (o + i) v = cs.take (o + i) ++ v :: cs.drop (o + i + 1) := by rw [List.set_eq_take_append_cons_drop, if_pos hlt]
      unfold splice
      rw [hset, List.take_append, List.drop_append, ht, List.take_of_length_le (show (cs.take (o + i)).length ≤ o + (i + 1) by omega),
        List.drop_eq_nil_of_le (show (cs.take (o + i)).length ≤ o + (i + 1) + vs.length by omega)]
      rw [show o + (i + 1) - (o + i) = 1 from by omega, show o + (i + 1) + vs.length - (o + i) = vs.length + 1 from by omega]
      simp only [List.take_succ_cons, List.take_zero, List.drop_succ_cons, List.drop_drop, List.nil_append, List.append_assoc, List.cons_append, List.length_cons]
      rw [show o + i + 1 + vs.length = o + i + (vs.length + 1) from by omega]
theorem zwf (hm : MR G N σ g w) (hs : Sub g h) {p q : Addr} {l cs : List Value} {h' : Heap} (hp : VR σ g (.pointer (some p)) (.pointer (some q))) (hv : VRs σ g l cs) (h1 : ∀ x ∈ l, single x = true) (hw : h.write p l = some h') :
    ∃ w', (storeCells q cs).run P w = .ok () w' ∧ Done G N σ g w h undef h' undef w' := by
  cases hp with
  | ptr _ _ v vals ver ro hsp hg hle hq =>
    unfold Heap.write at hw
    rw [hs _ _ hg] at hw
    cases ro with
    | true => simp at hw
    | false =>
      simp only at hw
      split at hw
      · rename_i hc
        obtain ⟨hspot, hlen⟩ := hc
        rw [hsp] at hspot; cases hspot
        simp only [Option.some.injEq] at hw
        subst hw
        rw [hq rfl]
        have ho := hm.obj _ _ hg
        cases ho with
        | own _ ds _ el hb h0 hwb hsz hvv hl h1' =>
          have hvl := hv.length
          have hsc : ∀ x ∈ cs, single x = true := by
            intro x hx
            obtain ⟨i, hi⟩ := List.getElem?_of_mem hx
            obtain ⟨u, hu, hur⟩ := hv.get' hi
            rw [hur.single]; exact h1 u (List.mem_of_getElem? hu)
          rw [h0, Nat.zero_add]
          obtain ⟨w', hrun, hw1, hw2, hw3, hw4, hw5, hw6⟩ := zdu (P := P) cs 0 p.off ds w hwb (by omega) hsc
          refine ⟨w', hrun, ?_⟩
          obtain ⟨h2, h3, h4, h5⟩ := zip (h := h) hm hs hg rfl (new := .cells (splice vals p.off l) v false) rfl (σ p.block) w'
            (fun vals' ver' ro' e => by cases e; exact ⟨_, _, rfl, Nat.le_refl _, fun _ => rfl⟩) (fun es e => by cases e)
            (fun σ' g' he => by
              refine .own _ (splice ds p.off cs) v el hb h0 (by rw [hw1, Nat.add_zero]) (by rw [fu (by omega)]; exact hsz) ?_ (by rw [fu (by omega), fu (by omega)]; exact hl) (zg1 h1' h1 _)
              rw [fu (by omega)]
              have : (splice ds p.off cs).take vals.length = splice (ds.take vals.length) p.off cs := by
                unfold splice
                rw [List.take_append, List.take_append, List.take_take]
                simp only [List.length_append, List.length_take]
                rw [Nat.min_eq_right (show p.off ≤ vals.length by omega), List.take_of_length_le (show cs.length ≤ vals.length - min p.off ds.length by omega), List.take_take, List.take_drop]
                congr 2
                · rw [Nat.min_eq_left (by omega)]
                · rw [Nat.min_eq_left (by omega)]; congr 2 <;> omega
              rw [this]
              exact ((hvv.splice hv _).ext he))
            (fun b hb' hne => hw2 b hne) (.inl rfl) (by omega) hw4 hw5 hw6
          exact ⟨_, h2, h3, .tuple [] [] .nil, h4⟩
      · cases hw
end Go.Proofs.YtljdbheclfaloaaGreatDoor.AM
namespace Go.Proofs.YtljdbheclfaloaaGreatDoor.AM
open Go.RowKit
set_option linter.unusedSimpArgs false
set_option linter.unusedVariables false
variable {P : Program} {G N : Nat} {σ : Emb} {g : Mem} {w : World} {h : Heap}
theorem zs8 (hm : MR G N σ g w) (hs : Sub g h) {size : Nat} {u cu : Value} {ys : List Value} {n : Nat} (hu : VR σ g u cu) (hsrc : zc9 h size u = some (ys, n)) :
    ∃ cs, (Builtin.lenOf cu).run P w = .ok n w ∧ (Builtin.firstCells size n cu).run P w = .ok ⟨cs⟩ w ∧ VRs σ g ys cs ∧ ys.length = n * size ∧ ∀ x ∈ ys, single x = true := by
  cases u <;> simp only [zc9, reduceCtorEq] at hsrc
  case string s =>
    split at hsrc
    · rename_i h1
      subst h1
      simp only [Option.some.injEq, Prod.mk.injEq] at hsrc
      obtain ⟨rfl, rfl⟩ := hsrc
      rw [hu.string_inv]
      have hp : (s.data.toList.map fun b => (Value.int .u8 b.toNat)).all plain1 = true := by
        rw [List.all_eq_true]
        intro x hx
        obtain ⟨b, _, rfl⟩ := List.mem_map.1 hx
        rfl
      refine ⟨s.data.toList.map fun b => .int .u8 b.toNat, rfl, ?_, .plain1 hp, by simp, fun x hx => kv (List.all_eq_true.1 hp x hx)⟩
      have he : s.extract 0 s.size = s := by simp
      simp only [Builtin.firstCells, he, Sem.run_pure]
      congr 1
      apply Array.ext'
      simp
    · cases hsrc
  case slice a n' c =>
    cases a with
    | none =>
      simp only [Option.some.injEq, Prod.mk.injEq] at hsrc
      obtain ⟨rfl, rfl⟩ := hsrc
      obtain ⟨rfl, rfl, rfl⟩ := hu.nilSlice_inv
      exact ⟨[], rfl, rfl, .nil, by simp, fun x hx => by simp at hx⟩
    | some p =>
      simp only [zc9] at hsrc
      split at hsrc
      · rename_i hc
        subst hc
        obtain ⟨l, hl, he⟩ := yo hsrc
        simp only [Prod.mk.injEq] at he
        obtain ⟨rfl, rfl⟩ := he
        cases hu with
        | slice _ q _ _ cap v vals ver ro hv hg hle hn hq =>
          by_cases hlive : v = ver
          · rcases hq hlive with ⟨hq', _⟩ | ⟨h0, _⟩
            · obtain ⟨cs, _, hrun, hvs, hlen, h1⟩ := hm.read (P := P) hs (.ptr p q v vals ver ro hv hg hle fun _ => hq') hl
              exact ⟨cs, rfl, hrun, hvs, hlen, h1⟩
            · subst h0
              have : l = [] := by
                unfold Heap.read at hl
                rw [hs _ _ hg] at hl
                simp only at hl
                split at hl
                · simp only [Nat.zero_mul, List.take_zero, Option.some.injEq] at hl; exact hl.symm
                · cases hl
              subst this
              refine ⟨[], rfl, ?_, .nil, by simp, fun x hx => by simp at hx⟩
              simp only [Builtin.firstCells, Nat.zero_mul]
              rfl
          · exfalso
            unfold Heap.read at hl
            rw [hs _ _ hg] at hl
            simp only at hl
            split at hl
            · rename_i hcc
              rw [hv] at hcc
              exact hlive (by simpa using hcc.1)
            · cases hl
      · cases hsrc
theorem MR.drew (hm : MR G N σ g w) : MR G N σ g { w with drawn := w.drawn + 1 } := by
  refine ⟨fun i o hi => ?_, hm.inj, hm.glob, hm.size⟩
  exact ObjR.step (w := w) (w' := { w with drawn := w.drawn + 1 }) (.refl _ _) rfl (hm.obj i o hi)
theorem zrj (need : Nat) : ∀ (n c : Nat), c ≤ need + (need + 768) / 4 → Builtin.growBy need n c ≤ need + (need + 768) / 4
  | 0, c, h => h
  | n + 1, c, h => by
    unfold Builtin.growBy
    split
    · exact h
    · exact zrj need n _ (by omega)
theorem zvl {need cap : Nat} (h : cap < need) : Builtin.nextslicecap need cap ≤ 2 * need := by
  unfold Builtin.nextslicecap
  split
  · omega
  · split
    · omega
    · have := zrj need 4 cap (by omega); omega
theorem zkh (z : Array Value) (n : Nat) : (Builtin.zeroCells z n).size = n * z.size := by simp [Builtin.zeroCells]
set_option maxHeartbeats 4000000 in
theorem zsl (hm : MR G N σ g w) (hs : Sub g h) {t u e : TypeId} {size bytes : Nat} {z : List Value} (ht : P.underlying t = some (.slice e)) (hz : gk P e = some size) (hb : zj0 P e = some bytes)
    (hzero : zfi P e = some z) (hzl : z.length = size) (hpos : 0 < size) (hbpos : 0 < bytes) (hnum : zfa P u = false) (hu : (P.underlying u).isSome = true)
    {x y cx cy : Value} (hx : VR σ g x cx) (hy : VR σ g y cy) {ty : TypeId} {v : Value} {h' : Heap}
    (he : kh h size bytes x (zc9 h size y) = some (v, h')) :
    ∃ cv w', (Builtin.append_ #[t, u] ty #[cx, cy]).run P w = .ok cv w' ∧ Done G N σ g w h v h' cv w' := by
  obtain ⟨i, hi, hib⟩ : ∃ i, (∀ w, (typeInfo e).run P w = .ok i w) ∧ i.bytes = bytes := by
    unfold zj0 at hb
    obtain ⟨i, hi, rfl⟩ := yo hb
    exact ⟨i, fun w => by simp [typeInfo, hi], rfl⟩
  obtain ⟨zv, hzv, hzlaid⟩ := zee hzero
  have hzc := zeb hzlaid
  obtain ⟨du, hdu⟩ := Option.isSome_iff_exists.1 hu
  have hni : ∀ k, du ≠ .int k := by
    rintro k rfl
    unfold zfa at hnum; rw [hdu] at hnum; cases hnum
  cases hsrc : zc9 h size y with
  | none => rw [hsrc] at he; unfold kh at he; split at he <;> simp_all
  | some yn =>
    obtain ⟨ys, n⟩ := yn
    rw [hsrc] at he
    unfold kh at he
    obtain ⟨cs, hlen, hfirst, hvs, hysl, hys1⟩ := zs8 (P := P) hm hs hy hsrc
    have hcsl := hvs.length
    have fits : ∀ (base : Option Addr) (m cap : Nat) (w' : World), cx = .slice base m cap → m + n ≤ cap → (∀ a, base = some a → (storeCells (a.add (m * size)) cs).run P w = .ok () w') → (base = none → w' = w) →
        (Builtin.append_ #[t, u] ty #[cx, cy]).run P w = .ok (.slice base (m + n) cap) w' := by
      rintro base m cap w' rfl hle hst hnone
      unfold Builtin.append_
      cases du <;> first
        | (exact absurd rfl (hni _))
        | (simp only [List.getElem?_toArray, List.getElem?_cons_zero, List.getElem?_cons_succ, Sem.run_bind, vc ht, Result.andThen_ok, jg hz, vc hdu, Sem.run_pure, Bool.false_eq_true, if_false, hlen, if_pos hle,
             Bool.not_false, if_true, hfirst]
           cases base with
           | none => rw [hnone rfl]; rfl
           | some a => simp only [Sem.run_bind, hst a rfl, Result.andThen_ok, Sem.run_pure])
    have grows : ∀ (base : Option Addr) (m cap : Nat) (ds cs1 : List Value), cx = .slice base m cap → ¬ m + n ≤ cap → (m + n) * bytes ≤ k8 →
        (Builtin.firstCells size m cx).run P { w with drawn := w.drawn + 1 } = .ok ⟨ds⟩ { w with drawn := w.drawn + 1 } → (Builtin.firstCells size n cy).run P { w with drawn := w.drawn + 1 } = .ok ⟨cs1⟩ { w with drawn := w.drawn + 1 } →
        ∃ (k : Nat) (rest : List Value), k ≥ m + n ∧ rest.length = (k - (m + n)) * size ∧ (Builtin.append_ #[t, u] ty #[cx, cy]).run P w = .ok (.slice (some ⟨w.heap.size, 0, none⟩) (m + n) k)
          { { w with drawn := w.drawn + 1 } with heap := w.heap.push (.cells ⟨ds ++ cs1 ++ rest⟩ e) } := by
      rintro base m cap ds cs1 rfl hle hroom hold1 hfirst1
      have hcapn : ¬ Builtin.nextslicecap (m + n) cap * bytes > 2 ^ 48 := by
        have h1 := zvl (show cap < m + n by omega)
        have h2 : Builtin.nextslicecap (m + n) cap * bytes ≤ 2 * (m + n) * bytes := Nat.mul_le_mul_right _ h1
        rw [Nat.mul_assoc] at h2
        unfold k8 at hroom
        omega
      have hint : ¬ (((m + n : Nat) : Int) > IntKind.i64.max ∧ (False ∨ bytes = 0)) := by
        rintro ⟨_, h | h⟩
        · exact h
        · omega
      let q : Question := .appendCap (m + n) cap e
      let k := q.cut (w.tape w.drawn q)
      have hk : k ≥ m + n := by show m + n ≤ m + n + _; omega
      refine ⟨k, (Builtin.zeroCells ⟨z⟩ (k - (m + n))).toList, hk, by rw [Array.length_toList, zkh]; show (k - (m + n)) * z.length = _; rw [hzl], ?_⟩
      have hch : (choose (.appendCap (m + n) cap e)).run P w = .ok k { w with drawn := w.drawn + 1 } := by rw [run_choose]; rfl
      have harr : (⟨ds⟩ : Array Value) ++ ⟨cs1⟩ ++ Builtin.zeroCells ⟨z⟩ (k - (m + n)) = ⟨ds ++ cs1 ++ (Builtin.zeroCells ⟨z⟩ (k - (m + n))).toList⟩ := by apply Array.ext'; simp
      unfold Builtin.append_
      cases du <;> first
        | (exact absurd rfl (hni _))
        | (simp only [List.getElem?_toArray, List.getElem?_cons_zero, List.getElem?_cons_succ, Sem.run_bind, vc ht, Result.andThen_ok, jg hz, vc hdu, Sem.run_pure, Bool.false_eq_true, if_false, hlen, if_neg hle,
             Bool.not_false, if_true, hi, hib, if_neg hint, if_neg hcapn, hch, run_askRoom, hold1, hfirst1, (zce hzv _).1, newRow, run_newObj, hzc]
           rw [harr])
    cases x <;> (try (cases he; done))
    rename_i a m c
    cases a with
    | none =>
      (try simp only at he)
      obtain ⟨rfl, rfl, hcx⟩ := hx.nilSlice_inv
      split at he
      · rename_i h0
        subst h0
        simp only [Option.some.injEq, Prod.mk.injEq] at he
        obtain ⟨rfl, rfl⟩ := he
        exact ⟨_, w, fits none 0 0 w hcx (Nat.le_refl _) (fun a h => by cases h) (fun _ => rfl), Done.same hm hs .nilSlice⟩
      · rename_i h0
        split at he
        · rename_i hroom
          simp only [Option.some.injEq, Prod.mk.injEq] at he
          obtain ⟨rfl, rfl⟩ := he
          obtain ⟨cs1, _, hfirst1, hvs1, _, _⟩ := zs8 (P := P) hm.drew hs hy hsrc
          have hcsl1 := hvs1.length
          obtain ⟨k, rest, hk, hrest, hrun⟩ := grows none 0 0 [] cs1 hcx (by omega) (by rw [Nat.zero_add]; exact hroom) (by rw [hcx]; rfl) hfirst1
          rw [Nat.zero_add] at hk hrun hrest
          refine ⟨_, _, hrun, ?_⟩
          have hrl : ([] ++ cs1 ++ rest).length = k * size := by
            simp only [List.nil_append, List.length_append, hrest, ← hcsl1, hysl]
            rw [← Nat.add_mul]; congr 1; omega
          obtain ⟨h2, h3, h4, h5, h6⟩ := zzv (h := h) hm.drew hs (obj := .cells ys 0 false) (blk := .cells ⟨[] ++ cs1 ++ rest⟩ e) (sz := ([] ++ cs1 ++ rest).length)
            (fun σ' g' w' hext hw => .own ys ([] ++ cs1 ++ rest) 0 e hm.size rfl hw rfl (by
              rw [List.nil_append, hcsl1, List.take_left']
              · exact hvs1.ext hext
              · rfl) (by simp; omega) hys1) rfl
          refine ⟨_, ?_, h3, .slice _ _ _ _ _ 0 ys 0 false rfl h5 (Nat.le_refl _) hk (fun _ => .inl ⟨by simp only [if_pos], fun _ => ?_⟩), h4⟩
          · exact ⟨h2.ext, h2.size, h2.os, h2.tape, h2.output, h2.rest, h2.own⟩
          · simp only [if_pos]; omega
        · cases he
    | some p =>
      (try simp only at he)
      cases hob : h[p.block]? with
      | none => rw [hob] at he; cases he
      | some ob =>
        rw [hob] at he
        cases ob with
        | map es => cases he
        | gone => cases he
        | cells vals ver ro =>
          cases ro with
          | true => cases he
          | false =>
            (try simp only at he)
            split at he
            · rename_i hcond
              obtain ⟨rfl, hspot, hoff, hml, hroom⟩ := hcond
              simp only [Option.some.injEq, Prod.mk.injEq] at he
              obtain ⟨rfl, rfl⟩ := he
              obtain ⟨q0, cap0, hcxe, _⟩ := hx.slice_inv
              rw [hcxe] at hx
              cases hx with
              | slice _ _ _ _ _ v vals' ver' ro' hsp hg hle hn hq =>
                have hob' := hs _ _ hg
                rw [hob] at hob'
                simp only [Option.some.injEq, AObj.cells.injEq] at hob'
                obtain ⟨rfl, rfl, rfl⟩ := hob'
                rw [hspot] at hsp; cases hsp
                have hq := hq rfl
                have ho := hm.obj _ _ hg
                cases ho with
                | own _ ds _ el hb0 h0 hwb hsz hvv hl h1' =>
                  have hmd : m * c ≤ ds.length := by omega
                  by_cases hfit : m + n ≤ cap0
                  · -- in place
                    rcases hq with ⟨hq, hbound⟩ | ⟨hm0, hc0⟩
                    · have hbound := hbound rfl
                      rw [h0, hoff, Nat.add_zero, Nat.zero_add] at hbound
                      rw [h0, hoff, Nat.add_zero] at hq
                      have hroom2 : m * c + cs.length ≤ ds.length := by
                        rw [← hcsl, hysl, ← Nat.add_mul]
                        exact Nat.le_trans (Nat.mul_le_mul_right _ hfit) (by omega)
                      have hsc : ∀ x ∈ cs, single x = true := by
                        intro x hx
                        obtain ⟨i, hi⟩ := List.getElem?_of_mem hx
                        obtain ⟨u, hu, hur⟩ := hvs.get' hi
                        rw [hur.single]; exact hys1 u (List.mem_of_getElem? hu)
                      obtain ⟨w', hrun, hw1, hw2, hw3, hw4, hw5, hw6⟩ := zdu (P := P) (el := el) cs 0 (m * c) ds w hwb (by omega) hsc
                      refine ⟨_, w', fits (some q0) m cap0 w' hcxe hfit (fun a ha => ?_) (fun h => by cases h), ?_⟩
                      · cases ha; rw [hq, ze8, Nat.zero_add]; exact hrun
                      · obtain ⟨h2, h3, h4, h5⟩ := zip (h := h) hm hs hg rfl (new := .cells (vals.take (m * c) ++ ys) (ver + 1) false) rfl (σ p.block) w'
                          (fun vals' ver' ro' e => by cases e; exact ⟨_, _, rfl, by omega, fun e => by omega⟩) (fun es e => by cases e)
                          (fun σ' g' he => by
                            refine .own _ (splice ds (0 + m * c) cs) (ver + 1) el hb0 h0 (by rw [hw1, Nat.add_comm]) (by rw [fu (by omega)]; exact hsz) ?_ ?_ ?_
                            · have hlen2 : (vals.take (m * c) ++ ys).length = m * c + cs.length := by rw [List.length_append, List.length_take, hcsl]; omega
                              rw [hlen2, Nat.zero_add]
                              have : (splice ds (m * c) cs).take (m * c + cs.length) = ds.take (m * c) ++ cs := by
                                unfold splice
                                rw [List.take_append, List.take_of_length_le (by simp; omega)]
                                simp
                                omega
                              rw [this]
                              refine VRs.append ?_ (hvs.ext he)
                              have := (hvv.take (m * c)).ext he
                              rw [List.take_take, Nat.min_eq_left (by omega)] at this
                              exact this
                            · rw [fu (by omega), List.length_append, List.length_take, hcsl]; omega
                            · intro x hx
                              rcases List.mem_append.1 hx with hx | hx
                              · exact h1' x (List.mem_of_mem_take hx)
                              · exact hys1 x hx)
                          (fun b hb' hne => hw2 b hne) (.inl rfl) (by omega) hw4 hw5 hw6
                        refine ⟨_, h2, h3, .slice _ _ _ _ _ (ver + 1) _ (ver + 1) false rfl h5 (Nat.le_refl _) hfit (fun _ => .inl ⟨?_, fun _ => ?_⟩), h4⟩
                        · simp only [if_pos]; rw [hq, h0]
                        · simp only [if_pos]; rw [h0]; omega
                    · subst hm0; subst hc0
                      have hn0 : n = 0 := by omega
                      subst hn0
                      have hys0 : ys = [] := List.length_eq_zero_iff.1 (by rw [hysl]; simp)
                      have hcs0 : cs = [] := List.length_eq_zero_iff.1 (by rw [← hcsl, hys0]; rfl)
                      subst hcs0; subst hys0
                      refine ⟨_, w, fits (some q0) 0 0 w hcxe (Nat.le_refl _) (fun a ha => rfl) (fun h => by cases h), ?_⟩
                      obtain ⟨h2, h3, h4, h5⟩ := zip (h := h) hm hs hg rfl (new := .cells (vals.take (0 * c) ++ []) (ver + 1) false) rfl (σ p.block) w
                        (fun vals' ver' ro' e => by cases e; exact ⟨_, _, rfl, by omega, fun e => by omega⟩) (fun es e => by cases e)
                        (fun σ' g' he => by
                          have hemp : vals.take (0 * c) ++ [] = ([] : List Value) := by simp
                          rw [hemp]
                          exact .own [] ds (ver + 1) el hb0 h0 hwb hsz .nil (by simp) (fun x hx => by simp at hx))
                        (fun b hb' hne => rfl) (.inl rfl) (Nat.le_refl _) rfl rfl rfl
                      exact ⟨_, h2, h3, .slice _ _ _ _ _ (ver + 1) _ (ver + 1) false rfl h5 (Nat.le_refl _) (Nat.le_refl _) (fun _ => .inr ⟨rfl, rfl⟩), h4⟩
                  · -- a new row
                    obtain ⟨cs1, _, hfirst1, hvs1, _, _⟩ := zs8 (P := P) hm.drew hs hy hsrc
                    have hcsl1 := hvs1.length
                    have hdrew := hm.drew
                    have hold : (Builtin.firstCells c m cx).run P { w with drawn := w.drawn + 1 } = .ok ⟨ds.take (m * c)⟩ { w with drawn := w.drawn + 1 } := by
                      rw [hcxe]
                      rcases hq with ⟨hq, hbound⟩ | ⟨hm0, hc0⟩
                      · simp only [Builtin.firstCells]
                        rw [hq, h0, hoff, Nat.add_zero]
                        refine zh0 (by rw [List.length_take]; omega) fun j x hj => ?_
                        rw [List.getElem?_take] at hj
                        split at hj
                        · simp only [World.cell?, hwb, Nat.zero_add]
                          simpa using hj
                        · cases hj
                      · subst hm0
                        simp only [Builtin.firstCells, Nat.zero_mul, List.take_zero]
                        rfl
                    obtain ⟨k, rest, hk, hrest, hrun⟩ := grows (some q0) m cap0 (ds.take (m * c)) cs1 hcxe hfit hroom hold hfirst1
                    have htl : (ds.take (m * c)).length = m * c := by rw [List.length_take]; omega
                    have hrl : (ds.take (m * c) ++ cs1 ++ rest).length = k * c := by
                      simp only [List.length_append, hrest, htl, ← hcsl1, hysl]
                      rw [← Nat.add_mul, ← Nat.add_mul]; congr 1; omega
                    refine ⟨_, _, hrun, ?_⟩
                    obtain ⟨h2, h3, h4, h5⟩ := zip (h := h) hdrew hs hg rfl (new := .cells (vals.take (m * c) ++ ys) (ver + 1) false) rfl ⟨w.heap.size, 0, (ds.take (m * c) ++ cs1 ++ rest).length⟩
                      { { w with drawn := w.drawn + 1 } with heap := w.heap.push (.cells ⟨ds.take (m * c) ++ cs1 ++ rest⟩ e) }
                      (fun vals' ver' ro' e => by cases e; exact ⟨_, _, rfl, by omega, fun e => by omega⟩) (fun es e => by cases e)
                      (fun σ' g' he => by
                        refine .own _ (ds.take (m * c) ++ cs1 ++ rest) (ver + 1) e hm.size rfl (by simp) rfl ?_ ?_ ?_
                        · have hlen2 : (vals.take (m * c) ++ ys).length = (ds.take (m * c) ++ cs1).length := by rw [List.length_append, List.length_append, htl, List.length_take, hcsl1]; omega
                          rw [hlen2, List.take_left']
                          · refine VRs.append ?_ (hvs1.ext he)
                            have := (hvv.take (m * c)).ext he
                            rw [List.take_take, Nat.min_eq_left (by omega)] at this
                            exact this
                          · rfl
                        · rw [List.length_append, List.length_take, List.length_append, List.length_append, htl, hcsl1]; omega
                        · intro x hx
                          rcases List.mem_append.1 hx with hx | hx
                          · exact h1' x (List.mem_of_mem_take hx)
                          · exact hys1 x hx)
                      (fun b hb' hne => by
                        show (w.heap.push _)[b]? = _
                        rw [Array.getElem?_push, if_neg (by simp only at hb'; omega)])
                      (.inr (Nat.le_refl _)) (by simp) rfl rfl rfl
                    refine ⟨_, ?_, h3, .slice _ _ _ _ _ (ver + 1) _ (ver + 1) false rfl h5 (Nat.le_refl _) hk (fun _ => .inl ⟨by simp only [if_pos], fun _ => ?_⟩), h4⟩
                    · exact ⟨h2.ext, h2.size, h2.os, h2.tape, h2.output, h2.rest, h2.own⟩
                    · simp only [if_pos]; omega
            · cases he
end Go.Proofs.YtljdbheclfaloaaGreatDoor.AM
namespace Go.Proofs.YtljdbheclfaloaaGreatDoor.AM
open Go.RowKit
set_option linter.unusedSimpArgs false
set_option linter.unusedVariables false
variable {P : Program} {G N : Nat} {σ : Emb} {g : Mem} {w : World} {h : Heap}
theorem bytes_beq {a b : ByteArray} : (a == b) = true ↔ a = b := by
  rw [beq_toListBytes, beq_iff_eq, ByteArray.toList_eq, ByteArray.toList_eq]
  constructor
  · intro h
    obtain ⟨⟨x⟩⟩ := a
    obtain ⟨⟨y⟩⟩ := b
    simp only at h
    subst h; rfl
  · rintro rfl; rfl
theorem zmf {kk : EqK} {k j : Value} (hk : zdx kk k = true) (h : qw kk k j = some true) (n : Nat) : j = k ∧ Instr.sameBits n j k = true := by
  cases kk <;> cases k <;> simp only [zdx, Bool.false_eq_true] at hk <;> cases j <;> simp [qw] at h
  · subst h; exact ⟨rfl, by cases n <;> simp [Instr.sameBits]⟩
  · obtain ⟨rfl, rfl⟩ := h; exact ⟨rfl, by cases n <;> simp [Instr.sameBits]⟩
  · obtain rfl := bytes_beq.1 h
    exact ⟨rfl, by cases n <;> simp [Instr.sameBits, bytes_beq]⟩
theorem zjv {kk : EqK} {d : TypeDesc} (hd : eqK d = some kk) {k v cv : Value} (hk : zdx kk k = true) (hpl : plain1 k = true) (hv : VR σ g v cv) : ∀ {es : List (Value × Value)} {ms : List MapEntry} (_ : EntriesR σ g es ms) (i : Nat) {es' : List (Value × Value)},
    px kk k v es = some es' →
    (∃ j c e, Instr.findNow d k ms i = some (some (i + j, c)) ∧ ms[j]? = some e ∧ e.key = k ∧ EntriesR σ g es' (ms.set j { e with key := k, val := cv })) ∨
    (Instr.findNow d k ms i = some none ∧ ∀ born, EntriesR σ g es' (ms ++ [{ key := k, val := cv, born := born }]))
  | _, _, .nil, i, es', h => by
    simp only [px, Option.some.injEq] at h; subst h
    exact .inr ⟨rfl, fun born => .cons _ _ _ _ ⟨rfl, hpl, hv⟩ .nil⟩
  | _, _, .cons e m es ms he hs, i, es', h => by
    obtain ⟨kj, u⟩ := e
    unfold px at h
    have hkey : m.key = kj := he.key
    cases hq : qw kk k kj with
    | none => rw [hq] at h; cases h
    | some b =>
      rw [hq] at h
      have hn := zia hd hq
      rw [← hkey] at hn
      cases b with
      | true =>
        simp only [Option.some.injEq] at h; subst h
        obtain ⟨hkk, _⟩ := zmf hk hq 0
        refine .inl ⟨0, m.val, m, by unfold Instr.findNow; rw [hn]; rfl, rfl, by rw [hkey, hkk], ?_⟩
        exact .cons _ _ _ _ ⟨rfl, hpl, hv⟩ hs
      | false =>
        obtain ⟨es2, h2, rfl⟩ := yo h
        rcases zjv hd hk hpl hv hs (i + 1) h2 with ⟨j, c, e, h3, h4, h5, h6⟩ | ⟨h3, h4⟩
        · refine .inl ⟨j + 1, c, e, ?_, h4, h5, .cons _ _ _ _ he h6⟩
          unfold Instr.findNow; rw [hn]; simp only; rw [h3]; congr 3; omega
        · exact .inr ⟨by unfold Instr.findNow; rw [hn]; exact h3, fun born => .cons _ _ _ _ he (h4 born)⟩
theorem zsj {kk : EqK} {k : Value} (h : zdx kk k = true) : plain1 k = true := by
  cases kk <;> cases k <;> simp only [zdx, Bool.false_eq_true] at h <;> rfl
theorem znu {b : Nat} {o : Obj} {ms : Array MapEntry} {clock : Nat} (hb : w.heap[b]? = some (.map ms clock)) : (setObj b o).run P w = .ok () { w with heap := w.heap.setIfInBounds b o } := by
  simp [setObj, Sem.run, hb]
set_option maxHeartbeats 1000000 in
theorem zs5 (hm : MR G N σ g w) (hs : Sub g h) {t kt e : TypeId} {d : TypeDesc} {kk : EqK} (ht : P.underlying t = some (.map kt e)) (hk : P.underlying kt = some d) (hd : eqK d = some kk)
    {b : Nat} {cm k ck v cv : Value} (hvm : VR σ g (.map (some b)) cm) (hvk : VR σ g k ck) (hvv : VR σ g v cv) (hok : zdx kk k = true) {es es' : List (Value × Value)} (hb : h[b]? = some (.map es)) (hse : px kk k v es = some es') :
    ∃ w', (Instr.mapUpdate t cm ck cv).run P w = .ok () w' ∧ Done G N σ g w h undef (h.set b (.map es')) undef w' := by
  have hck := zp3 hok hvk
  subst hck
  cases hvm with
  | map _ s es0 hg hsb =>
    have hb' := hs _ _ hg
    rw [hb] at hb'; cases hb'
    have ho := hm.obj _ _ hg
    cases ho with
    | map _ ms clock hbn hw hent =>
      rw [← hsb] at hw hbn
      have hslt : s < w.heap.size := (Array.getElem?_eq_some_iff.1 hw).1
      have hgo : (getObj s).run P w = .ok (.map ⟨ms⟩ clock) w := by simp [getObj, Sem.run, hw]
      have e0 : (10000 : Nat) = 9999 + 1 := rfl
      have hcheck := zj1 (w := w) hd hk hok false 9999
      have fin : ∀ (ms' : List MapEntry) (clock' : Nat), EntriesR σ g es' ms' → Done G N σ g w h undef (h.set b (.map es')) undef { w with heap := w.heap.setIfInBounds s (.map ⟨ms'⟩ clock') } := by
        intro ms' clock' hent'
        obtain ⟨h2, h3, h4, h5⟩ := zip (h := h) hm hs hg rfl (new := .map es') rfl (σ b) { w with heap := w.heap.setIfInBounds s (.map ⟨ms'⟩ clock') }
          (fun vals ver ro e => by cases e) (fun es e => ⟨es', rfl, rfl⟩)
          (fun σ' g' he => .map es' ms' clock' (by rw [← hsb]; exact hbn) (by rw [← hsb]; simp [hslt]) (hent'.ext he))
          (fun b' hb' hne => by
            show (w.heap.setIfInBounds s _)[b']? = _
            rw [Array.getElem?_setIfInBounds_ne (by rw [hsb]; exact fun e => hne e.symm)])
          (.inl rfl) (by simp) rfl rfl rfl
        exact ⟨_, h2, h3, .tuple [] [] .nil, h4⟩
      unfold Instr.mapUpdate
      rw [e0]
      simp only [Sem.run_bind, vc ht, Result.andThen_ok, hgo, hcheck]
      rcases zjv hd hok (zsj hok) hvv hent 0 hse with ⟨j, c, en, h3, h4, h5, h6⟩ | ⟨h3, h4⟩
      · have hf : (Instr.findKey kt ck ms).run P w = .ok (some (j, c)) w := by
          simp only [Instr.findKey, Sem.run_bind, vc hk, Result.andThen_ok, h3, Nat.zero_add, Sem.run_pure]
        rw [hf]
        have hkey : (((⟨ms⟩ : Array MapEntry)[j]?.map (·.key)).getD ck) = ck := by simp [h4, h5]
        have hsame : Instr.sameBits 10000 ck ck = true := by
          have : qw kk ck ck = some true := by cases kk <;> cases ck <;> simp only [zdx, Bool.false_eq_true] at hok <;> simp [qw, bytes_beq]
          exact (zmf hok this 10000).2
        simp only [Result.andThen_ok, Sem.run_bind, hkey, Instr.keyThatStays, hsame, if_true, Sem.run_pure, znu hw]
        have hmod : (⟨ms⟩ : Array MapEntry).modify j (fun e => { e with key := ck, val := cv }) = ⟨ms.set j { en with key := ck, val := cv }⟩ := by
          apply Array.ext'
          apply List.ext_getElem?
          intro i
          simp only [Array.getElem?_toList, Array.getElem?_modify, List.getElem?_toArray]
          rw [List.getElem?_set]
          by_cases hij : j = i
          · subst hij
            have hlt := (List.getElem?_eq_some_iff.1 h4).1
            rw [if_pos rfl, if_pos rfl, if_pos hlt, h4]
            rfl
          · simp [hij]
        rw [hmod]
        exact ⟨_, rfl, fin _ _ h6⟩
      · have hf : (Instr.findKey kt ck ms).run P w = .ok none w := by
          simp only [Instr.findKey, Sem.run_bind, vc hk, Result.andThen_ok, h3, Sem.run_pure]
        rw [hf]
        simp only [Result.andThen_ok, znu hw]
        exact ⟨_, rfl, by simpa using fin _ (clock + 1) (h4 clock)⟩
def Acts (P : Program) (G N : Nat) (σ : Emb) (g : Mem) (w : World) (h : Heap) (v : Value) (h' : Heap) (s : Sem Next) : Prop :=
  ∃ cv w', (s.run P w = .ok (.value cv) w' ∨ (s.run P w = .ok .skip w' ∧ cv = undef)) ∧ Done G N σ g w h v h' cv w'
set_option maxHeartbeats 1000000 in
theorem ygg (call : qd) (hm : MR G N σ g w) (hs : Sub g h) {ρ ρc : Operand → Value} {o : Oper} {ao : AOp} (hn : wv P o.type o.op = some ao) (hk : ao.acts = true)
    (hv : ∀ x ∈ o.op.operands, VR σ g (ρ x) (ρc x)) {v : Value} {h' : Heap} (he : evOp call ρ h ao = some (v, h')) (hcall : ∀ f l, ao ≠ .call f l) (hcallv : ∀ f l, ao ≠ .callv f l) :
    Acts P G N σ g w h v h' (execOp ρc o) := by
  obtain ⟨dst, op, ty, pos, after, guard⟩ := o
  simp only at hn hv
  cases op
  case store t a x =>
    have ha := hv a (by simp [Op.operands])
    have hx := hv x (by simp [Op.operands])
    simp only [wv] at hn
    cases hag : aggT P t with
    | none => rw [hag] at hn; cases hn
    | some b =>
      cases hz : gk P t with
      | none => rw [hag, hz] at hn; cases b <;> cases hn
      | some n =>
        rw [hag, hz] at hn
        have fin : ∀ (p : Addr) (l cs : List Value), ρ a = .pointer (some p) → VRs σ g l cs → (∀ x ∈ l, single x = true) → h.write p l = some h' → (ρc x).cells = ⟨cs⟩ → cs.length = n → v = undef → Acts P G N σ g w h v h' (execOp ρc ⟨dst, .store t a x, ty, pos, after, guard⟩) := by
          intro p l cs hp hvs h1 hw hcells hlen hvu
          subst hvu
          rw [hp] at ha
          obtain ⟨q, hq⟩ := ha.ptr_inv
          rw [hq] at ha
          obtain ⟨w', hrun, hd⟩ := zwf (P := P) hm hs ha hvs h1 hw
          refine ⟨undef, w', .inr ⟨?_, rfl⟩, hd⟩
          have hszc : (⟨cs⟩ : Array Value).size = cs.length := rfl
          simp only [execOp, Instr.storeAt, hq, Instr.sureAddr, Sem.run_bind, Sem.run_pure, Result.andThen_ok, storeVar, jg hz, hcells, hszc, hlen, ne_eq, not_true_eq_false, if_false, hrun]
        cases b with
        | true =>
          simp only [Option.some.injEq] at hn; subst hn
          simp only [evOp] at he
          split at he
          · rename_i p cs0 hp hxs
            split at he
            · rename_i hsz
              obtain ⟨h2, hw, he⟩ := yo he
              simp only [Prod.mk.injEq] at he
              obtain ⟨rfl, rfl⟩ := he
              rw [hxs] at hx
              obtain ⟨ys, hys, hvs, h1⟩ := hx.agg_inv
              exact fin p _ ys hp hvs h1 hw (by rw [hys]; rfl) (by rw [← hvs.length]; exact hsz) rfl
            · cases he
          · cases he
        | false =>
          by_cases hn1 : n = 1
          · subst hn1
            simp only [Option.some.injEq] at hn; subst hn
            simp only [evOp] at he
            split at he
            · rename_i p hp
              have key : single (ρ x) = true → (h.write1 p (ρ x)).map (undef, ·) = some (v, h') → Acts P G N σ g w h v h' (execOp ρc ⟨dst, .store t a x, ty, pos, after, guard⟩) := by
                intro hsx he
                obtain ⟨h2, hw, he⟩ := yo he
                simp only [Prod.mk.injEq] at he
                obtain ⟨rfl, rfl⟩ := he
                have hw2 : h.write p [ρ x] = some h2 := by
                  unfold Heap.write1 at hw
                  unfold Heap.write
                  split at hw
                  · rename_i vals ver hob
                    split at hw
                    · rename_i hc
                      rw [if_pos ⟨hc.1, by simp only [List.length_cons, List.length_nil]; omega⟩]
                      rw [← hw]
                      congr 3
                      unfold splice
                      rw [List.set_eq_take_append_cons_drop, if_pos hc.2]
                      simp
                    · cases hw
                  · cases hw
                have hsc : single (ρc x) = true := by rw [hx.single]; exact hsx
                exact fin p [ρ x] [ρc x] hp (.cons _ _ _ _ hx .nil) (fun y hy => by rw [List.mem_singleton.1 hy]; exact hsx) hw2 (by generalize ρc x = c at hsc; cases c <;> first | rfl | simp [single] at hsc) rfl rfl
              split at he
              · cases he
              · cases he
              · rename_i u h1 h2
                refine key ?_ he
                cases hu : ρ x <;> first | rfl | exact absurd hu (h1 _) | exact absurd hu (h2 _)
            · cases he
          · exfalso
            revert hn
            split <;> simp_all
  case mapUpdate t m k x =>
    have hmv := hv m (by simp [Op.operands])
    have hkv := hv k (by simp [Op.operands])
    have hxv := hv x (by simp [Op.operands])
    simp only [wv] at hn
    cases hu : P.underlying t with
    | none => rw [hu] at hn; cases hn
    | some d =>
      rw [hu] at hn
      cases d <;> simp only [reduceCtorEq] at hn
      rename_i kt e
      cases hkk : (P.underlying kt).bind eqK with
      | none => rw [hkk] at hn; cases hn
      | some kk =>
        rw [hkk] at hn
        simp only [Option.some.injEq] at hn; subst hn
        obtain ⟨dk, hdk, hek⟩ := Option.bind_eq_some_iff.1 hkk
        simp only [evOp] at he
        split at he
        · rename_i b hmb
          split at he
          · rename_i es hb
            split at he
            · rename_i hok
              obtain ⟨es', hse, he⟩ := yo he
              simp only [Prod.mk.injEq] at he
              obtain ⟨rfl, rfl⟩ := he
              rw [hmb] at hmv
              obtain ⟨w', hrun, hd⟩ := zs5 (P := P) hm hs hu hdk hek hmv hkv hxv hok hb hse
              exact ⟨undef, w', .inr ⟨by simp only [execOp, Sem.run_bind, hrun, Result.andThen_ok, Sem.run_pure], rfl⟩, hd⟩
            · cases he
          · cases he
        · cases he
  case call c =>
    obtain ⟨callee, ⟨as⟩, ⟨ts⟩⟩ := c
    simp only [wv, zdl] at hn
    split at hn
    · rename_i x t
      exfalso
      repeat' split at hn
      all_goals first
        | (cases hn; done)
        | (simp only [Option.some.injEq] at hn; subst hn; simp [AOp.acts] at hk; done)
    · rename_i x y t u
      have hx := hv x (by simp [Op.operands, Call.operands])
      have hy := hv y (by simp [Op.operands, Call.operands])
      cases hut : P.underlying t with
      | none => rw [hut] at hn; cases hn
      | some d =>
        rw [hut] at hn
        cases d <;> simp only [reduceCtorEq] at hn
        rename_i e
        cases hz : gk P e with
        | none => rw [hz] at hn; cases hn
        | some n =>
          cases hb : zj0 P e with
          | none => rw [hz, hb] at hn; cases hn
          | some bb =>
            cases hzz : zfi P e with
            | none => rw [hz, hb, hzz] at hn; cases hn
            | some z =>
              rw [hz, hb, hzz] at hn
              simp only at hn
              split at hn
              · rename_i hcond
                simp only [Option.some.injEq] at hn; subst hn
                simp only [evOp] at he
                obtain ⟨cv, w', hrun, hd⟩ := zsl (P := P) hm hs hut hz hb hzz hcond.2.2.1 hcond.1 hcond.2.1 hcond.2.2.2.1 hcond.2.2.2.2 hx hy (ty := ty) he
                refine ⟨cv, w', .inl ?_, hd⟩
                simp only [execOp, resolve, List.map_toArray, List.map_cons, List.map_nil, Sem.run_bind, Sem.run_pure, Result.andThen_ok, invoke, builtin]
                rw [hrun]
                rfl
              · cases hn
    · split at hn
      · simp only [Option.some.injEq] at hn; subst hn; simp [AOp.acts] at hk
      · cases hn
    · split at hn
      · simp only [Option.some.injEq] at hn; subst hn; simp [AOp.acts] at hk
      · cases hn
    · split at hn
      · simp only [Option.some.injEq] at hn; exact absurd hn.symm (hcall _ _)
      · cases hn
    · simp only [Option.some.injEq] at hn; exact absurd hn.symm (hcallv _ _)
    · cases hn
  case binOp op t x y yt =>
    exfalso
    have eqs : ∀ neg, zdm P neg t x y = some ao → False := by
      intro neg hne
      unfold zdm at hne
      repeat' split at hne
      all_goals first
        | (cases hne; done)
        | (simp only [Option.some.injEq] at hne; subst hne; simp [AOp.acts] at hk; done)
        | (obtain ⟨z, _, rfl⟩ := yo hne; simp [AOp.acts] at hk; done)
    simp only [wv] at hn
    cases op <;> simp only at hn
    case eql => exact eqs false hn
    case neq => exact eqs true hn
    all_goals
      split at hn
      · simp only [Option.some.injEq] at hn; subst hn; simp [AOp.acts] at hk
      · cases hn
  case makeFunc fn a b =>
    exfalso
    cases fn <;> simp only [wv, reduceCtorEq, Option.some.injEq] at hn
    subst hn; simp [AOp.acts] at hk
  case makeMap t r =>
    exfalso
    have hn : za5 (P.underlying t) r = some ao := hn
    rw [zd3 hn] at hk
    simp [AOp.acts] at hk
  case slice t x lo hi mx =>
    exfalso
    cases mx with
    | some y => simp [wv] at hn
    | none =>
      simp only [wv] at hn
      repeat' split at hn
      all_goals first
        | (cases hn; done)
        | (simp only [Option.some.injEq] at hn; subst hn; simp [AOp.acts] at hk; done)
        | (obtain ⟨z, _, hn⟩ := Option.bind_eq_some_iff.1 hn
           split at hn <;> first | (cases hn; done) | (simp only [Option.some.injEq] at hn; subst hn; simp [AOp.acts] at hk; done))
  all_goals
    exfalso
    simp only [wv, reduceCtorEq] at hn
    try (
      repeat' split at hn
      all_goals first
        | (cases hn; done)
        | (simp only [Option.some.injEq] at hn; subst hn; simp [AOp.acts] at hk; done)
        | (obtain ⟨z, _, rfl⟩ := yo hn; simp [AOp.acts] at hk; done)
        | (obtain ⟨z, _, hn⟩ := Option.bind_eq_some_iff.1 hn
           split at hn <;> first | (cases hn; done) | (simp only [Option.some.injEq] at hn; subst hn; simp [AOp.acts] at hk; done)))
end Go.Proofs.YtljdbheclfaloaaGreatDoor.AM
namespace Go.Proofs.YtljdbheclfaloaaGreatDoor.AM
open Go.RowKit
set_option linter.unusedSimpArgs false
set_option linter.unusedVariables false
variable {P : Program} {G N : Nat} {σ : Emb} {g : Mem} {w : World} {h : Heap}
def zcq (P : Program) (G N : Nat) (call : qd) : Prop :=
  ∀ f args h v h', call f args h = some (v, h') → ∀ (σ : Emb) (g : Mem) (w : World) (cargs : List Value), Sub g h → MR G N σ g w → VRs σ g args cargs →
    zlj P f = true ∧ Calls P f ⟨cargs⟩ w fun e w' => ∃ cv, e = .returned cv ∧ Done G N σ g w h v h' cv w'
theorem zj4 {f : FuncId} (h : zlj P f = true) (args : Array Value) : (callFunc f args).run P w = .ok (.enter f args) w := by
  unfold zlj at h
  cases hf : P.funcs[f]? with
  | none => rw [hf] at h; cases h
  | some fn =>
    rw [hf] at h
    simp only [Bool.and_eq_true, bne_iff_ne, ne_eq] at h
    obtain ⟨h1, h2⟩ := h
    have h3 : fn.body.isNone = false := by cases hb : fn.body <;> simp_all
    simp only [callFunc, Sem.run_bind, run_program, Result.andThen_ok, hf]
    simp [h2, h3]
theorem zpy {ty : TypeId} {op : Op} {ao : AOp} (hn : wv P ty op = some ao) (hk : (∃ f l, ao = .call f l) ∨ ∃ f l, ao = .callv f l) : ∃ c, op = .call c := by
  have hno : (∀ f l, ao ≠ .call f l) → (∀ f l, ao ≠ .callv f l) → False := fun h1 h2 => by
    rcases hk with ⟨f, l, e⟩ | ⟨f, l, e⟩
    · exact h1 _ _ e
    · exact h2 _ _ e
  cases op
  case call c => exact ⟨c, rfl⟩
  case binOp op t x y yt =>
    exfalso
    have eqs : ∀ neg, zdm P neg t x y = some ao → False := by
      intro neg hne
      unfold zdm at hne
      repeat' split at hne
      all_goals first
        | (cases hne; done)
        | (simp only [Option.some.injEq] at hne; subst hne; exact hno (by simp) (by simp))
        | (obtain ⟨z, _, rfl⟩ := yo hne; exact hno (by simp) (by simp))
    simp only [wv] at hn
    cases op <;> simp only at hn
    case eql => exact eqs false hn
    case neq => exact eqs true hn
    all_goals
      split at hn
      · simp only [Option.some.injEq] at hn; subst hn; exact hno (by simp) (by simp)
      · cases hn
  case makeFunc fn a b =>
    exfalso
    cases fn <;> simp only [wv, reduceCtorEq, Option.some.injEq] at hn
    subst hn; exact hno (by simp) (by simp)
  case makeMap t r =>
    exfalso
    have hn : za5 (P.underlying t) r = some ao := hn
    rw [zd3 hn] at hno
    exact hno (by simp) (by simp)
  case slice t x lo hi mx =>
    exfalso
    cases mx with
    | some y => simp [wv] at hn
    | none =>
      simp only [wv] at hn
      repeat' split at hn
      all_goals first
        | (cases hn; done)
        | (simp only [Option.some.injEq] at hn; subst hn; exact hno (by simp) (by simp))
        | (obtain ⟨z, _, hn⟩ := Option.bind_eq_some_iff.1 hn
           split at hn <;> first | (cases hn; done) | (simp only [Option.some.injEq] at hn; subst hn; exact hno (by simp) (by simp)))
  all_goals
    exfalso
    simp only [wv, reduceCtorEq] at hn
    try (
      repeat' split at hn
      all_goals first
        | (cases hn; done)
        | (simp only [Option.some.injEq] at hn; subst hn; exact hno (by simp) (by simp))
        | (obtain ⟨z, _, rfl⟩ := yo hn; exact hno (by simp) (by simp))
        | (obtain ⟨z, _, hn⟩ := Option.bind_eq_some_iff.1 hn
           split at hn <;> first | (cases hn; done) | (simp only [Option.some.injEq] at hn; subst hn; exact hno (by simp) (by simp))))
theorem yfy {call : qd} (hF : zcq P G N call) (hm : MR G N σ g w) (hs : Sub g h) {o : Oper} {ao : AOp} (hn : wv P o.type o.op = some ao) {ρ : Operand → Value} {a : Act}
    (hv : ∀ x ∈ o.op.operands, VR σ g (ρ x) (a.eval x)) (hc : ∀ v, ρ (.const v) = v) (hfn : ∀ f, ρ (.func f) = .func (.func f) #[] #[]) {v : Value} {h' : Heap} (he : evOp call ρ h ao = some (v, h'))
    {next : Act → World → Prop} {Q : Exit → Act → World → Prop} (hnext : ∀ cv w', Done G N σ g w h v h' cv w' → next (a.put o.dst cv) w') : o.wp P a w next Q := by
  unfold Oper.wp
  by_cases hacts : ao.acts = true
  · by_cases hcl : ∃ f l, ao = .call f l
    · obtain ⟨f, l, rfl⟩ := hcl
      obtain ⟨dst, op, ty, pos, after, guard⟩ := o
      obtain ⟨c, rfl⟩ : ∃ c, op = .call c := zpy hn (.inl ⟨f, l, rfl⟩)
      · obtain ⟨callee, ⟨as⟩, ⟨ts⟩⟩ := c
        simp only [wv, zdl] at hn
        have hcall : callee = .value (.func f) ∧ as = l := by
          split at hn
          · repeat' split at hn
            all_goals first | (cases hn; done)
          · repeat' split at hn
            all_goals first | (cases hn; done)
          · split at hn <;> cases hn
          · split at hn <;> cases hn
          · split at hn
            · simp only [Option.some.injEq, AOp.call.injEq] at hn; obtain ⟨rfl, rfl⟩ := hn; exact ⟨rfl, rfl⟩
            · cases hn
          · cases hn
          · cases hn
        obtain ⟨rfl, rfl⟩ := hcall
        simp only [evOp] at he
        have hargs : VRs σ g (as.map ρ) (as.map a.eval) := zof fun x hx => hv x (by simp [Op.operands, Call.operands, hx])
        obtain ⟨hent, hcalls⟩ := hF _ _ _ _ _ he σ g w _ hs hm hargs
        have hrun : (execOp a.eval ⟨dst, .call ⟨.value (.func f), ⟨as⟩, ⟨ts⟩⟩, ty, pos, after, guard⟩).run P w = .ok (.enter f ⟨as.map a.eval⟩) w := by
          simp only [execOp, resolve, Sem.run_bind, Deferred.ofValue, Act.eval, Sem.run_pure, Result.andThen_ok, invoke]
          rw [zj4 hent]
          simp
        rw [hrun]
        refine hcalls.mono fun e w' hh => ?_
        obtain ⟨cv, rfl, hd⟩ := hh
        exact hnext cv w' hd
    · by_cases hcl' : ∃ f l, ao = .callv f l
      · obtain ⟨f, l, rfl⟩ := hcl'
        obtain ⟨dst, op, ty, pos, after, guard⟩ := o
        obtain ⟨c, rfl⟩ : ∃ c, op = .call c := zpy hn (.inr ⟨f, l, rfl⟩)
        obtain ⟨callee, ⟨as⟩, ⟨ts⟩⟩ := c
        simp only [wv, zdl] at hn
        have hcall : callee = .value f ∧ as = l := by
          split at hn
          · repeat' split at hn
            all_goals first | (cases hn; done)
          · repeat' split at hn
            all_goals first | (cases hn; done)
          · split at hn <;> cases hn
          · split at hn <;> cases hn
          · split at hn <;> cases hn
          · simp only [Option.some.injEq, AOp.callv.injEq] at hn; obtain ⟨rfl, rfl⟩ := hn; exact ⟨rfl, rfl⟩
          · cases hn
        obtain ⟨rfl, rfl⟩ := hcall
        have hf := hv f (by simp [Op.operands, Call.operands])
        simp only [evOp] at he
        split at he
        · rename_i gid fa fb hfv
          rw [hfv] at hf
          generalize hcf : a.eval f = cf at hf
          cases hf with
          | func _ xs ys us vs hx hu =>
            have hargs : VRs σ g (as.map ρ) (as.map a.eval) := zof fun x hx => hv x (by simp [Op.operands, Call.operands, hx])
            obtain ⟨hent, hcalls⟩ := hF _ _ _ _ _ he σ g w _ hs hm ((hx.append hargs).append hu)
            have hrun : (execOp a.eval ⟨dst, .call ⟨.value f, ⟨as⟩, ⟨ts⟩⟩, ty, pos, after, guard⟩).run P w = .ok (.enter gid ⟨ys ++ as.map a.eval ++ vs⟩) w := by
              simp only [execOp, resolve, Sem.run_bind, hcf, Deferred.ofValue, Sem.run_pure, Result.andThen_ok, invoke]
              rw [zj4 hent]
              simp
            rw [hrun]
            refine hcalls.mono fun e w' hh => ?_
            obtain ⟨cv, rfl, hd⟩ := hh
            exact hnext cv w' hd
        · cases he
      · obtain ⟨cv, w', hrun, hd⟩ := ygg call hm hs hn hacts hv he (fun f l e => hcl ⟨f, l, e⟩) (fun f l e => hcl' ⟨f, l, e⟩)
        rcases hrun with hrun | ⟨hrun, rfl⟩
        · rw [hrun]; exact hnext cv w' hd
        · rw [hrun]; exact hnext undef w' hd
  · by_cases hmakes : ao.makes = true
    · obtain ⟨cv, w', hrun, hd⟩ := yer call hm hs hn hmakes hv (fun v => ⟨hc v, rfl⟩) he
      rw [hrun]; exact hnext cv w' hd
    · obtain ⟨rfl, cv, hrun, hvr⟩ := zul call hm hs hn (by simpa using hacts) (by simpa using hmakes) hv (fun v => ⟨hc v, rfl⟩) he
      rw [hrun]; exact hnext cv w (Done.same hm hs hvr)
end Go.Proofs.YtljdbheclfaloaaGreatDoor.AM
namespace Go.Proofs.YtljdbheclfaloaaGreatDoor.AM
open Go.RowKit
set_option linter.unusedSimpArgs false
set_option linter.unusedVariables false
variable {P : Program} {G N : Nat} {σ : Emb} {g : Mem} {w : World} {h : Heap}
def To (G N : Nat) (σ : Emb) (g : Mem) (w : World) (h : Heap) (s' : St) (a' : Act) (w' : World) : Prop :=
  ∃ σ', Go N σ g w σ' (grow g h s'.h) w' ∧ MR G N σ' (grow g h s'.h) w' ∧ VRs σ' (grow g h s'.h) s'.t a'.tmps.toList ∧ Holes g h s'.h ∧ a'.defers = []
theorem yb6 {σ' : Emb} {h' : Heap} (hs : Sub g h) (he : Ext σ g σ' (grow g h h')) (hg : ∀ i, g i ≠ some .gone) : ∀ i, i < h.length → g i ≠ none → h'[i]? ≠ none := by
  intro i hi hne
  cases hgi : g i with
  | none => exact absurd hgi hne
  | some o =>
    cases o with
    | cells vals ver ro =>
      obtain ⟨vals', ver', h1, _⟩ := he.cells _ _ _ _ hgi
      unfold grow at h1; rw [if_pos hi, hgi] at h1
      simp only at h1
      rw [h1]; simp
    | map es =>
      obtain ⟨es', h1, _⟩ := he.map _ _ hgi
      unfold grow at h1; rw [if_pos hi, hgi] at h1
      simp only at h1
      rw [h1]; simp
    | gone => exact absurd hgi (hg i)
theorem MR.noGone (hm : MR G N σ g w) : ∀ i, g i ≠ some .gone := fun i hi => by cases hm.obj _ _ hi
theorem To.trans {s₁ s₂ : St} {a₁ a₂ : Act} {w₁ w₂ : World} {σ₁ : Emb} (hm0 : MR G N σ g w) (hs0 : Sub g h) (hgo : Go N σ g w σ₁ (grow g h s₁.h) w₁) (hh : Holes g h s₁.h)
    (h2 : To G N σ₁ (grow g h s₁.h) w₁ s₁.h s₂ a₂ w₂) : To G N σ g w h s₂ a₂ w₂ := by
  obtain ⟨σ₂, hgo2, hm2, hv2, hh2, hd2⟩ := h2
  have e := zws (h₃ := s₂.h) hh (yb6 hs0 hgo.ext hm0.noGone)
  rw [e] at hgo2 hm2 hv2
  exact ⟨σ₂, hgo.trans hgo2, hm2, hv2, hh.trans hh2, hd2⟩
theorem To.refl {s : St} {a : Act} (hm : MR G N σ g w) (hs : Sub g s.h) (hv : VRs σ g s.t a.tmps.toList) (hd : a.defers = []) : To G N σ g w s.h s a w := by
  refine ⟨σ, ?_, ?_, ?_, .refl _ _, hd⟩ <;> rw [zdv hs]
  · exact .refl _ _ _ _
  · exact hm
  · exact hv
theorem zyb (hm : MR G N σ g w) {s : St} {a : Act} (hv : VRs σ g s.t a.tmps.toList) {x : Operand} (hx : zbq G x = true) : VR σ g (s.eval x) (a.eval x) := by
  cases x with
  | tmp t =>
    have := hv.getD t
    simp only [St.eval, Act.eval]
    rw [show a.tmps.getD t undef = a.tmps.toList.getD t undef from by simp [Array.getD_eq_getD_getElem?, List.getD_eq_getElem?_getD]]
    exact this
  | const v => exact .plain hx
  | global g' =>
    obtain ⟨vals, h1, h2, h3⟩ := hm.glob g' (by simpa [zbq] using hx)
    refine .ptr _ _ 0 vals 0 true rfl h1 (Nat.le_refl _) fun _ => ?_
    simp only
    rw [h2, h3]
  | func f => exact .func _ [] [] [] [] .nil .nil
theorem zzs {σ' : Emb} {g' : Mem} {s : St} {a : Act} (hv : VRs σ' g' s.t a.tmps.toList) {v cv : Value} (hvr : VR σ' g' v cv) (d : Option Nat) (h' : Heap) :
    VRs σ' g' (s.put d v h').t (a.put d cv).tmps.toList := by
  cases d with
  | none => exact hv
  | some d =>
    simp only [St.put, Act.put]
    rw [Array.toList_setIfInBounds]
    exact hv.set d hvr
theorem zyr (s : St) (d : Option Nat) (v : Value) (h' : Heap) : (s.put d v h').h = h' := by cases d <;> rfl
theorem zgp (a : Act) (d : Option Nat) (v : Value) : (a.put d v).defers = a.defers := by cases d <;> rfl
theorem zys {s : St} {a : Act} (hv : VRs σ g s.t a.tmps.toList) {ops : Array Oper} {o : Oper} {gd : Option (Nat × Bool)} (hg : zd1 ops o.guard = some gd) :
    Region.wanted o (yielded ops a.tmps) = zjp s gd := by
  unfold zd1 at hg
  unfold Region.wanted
  split at hg
  · rename_i hq
    simp only [Option.some.injEq] at hg; subst hg
    rw [hq]; rfl
  · rename_i j b hq
    split at hg
    · rename_i t ht
      simp only [Option.some.injEq] at hg; subst hg
      rw [hq]
      simp only [yielded, ht, Option.bind_some, zjp]
      have hg := hv.getD t
      have e : a.tmps[t]? = a.tmps.toList[t]? := by simp
      rw [List.getD_eq_getElem?_getD, List.getD_eq_getElem?_getD] at hg
      rw [e, List.getD_eq_getElem?_getD]
      cases hc : a.tmps.toList[t]? with
      | none =>
        rw [hc] at hg
        cases hu : s.t[t]? with
        | none => rfl
        | some u =>
          obtain ⟨c, hc', _⟩ := hv.get hu
          rw [hc] at hc'; cases hc'
      | some c =>
        obtain ⟨u, hu, _⟩ := hv.get' hc
        rw [hc, hu] at hg
        rw [hu]
        simp only [Option.getD_some] at hg ⊢
        cases hg <;> first | rfl | (rename_i bb; cases bb <;> cases b <;> rfl)
    · cases hg
theorem zbv {ops : Array Oper} {o : Oper} {ao : gq} (h : zgs P G ops o = some ao) :
    (∀ x ∈ o.op.operands, zbq G x = true) ∧ wv P o.type o.op = some ao.op ∧ zd1 ops o.guard = some ao.guard ∧ ao.dst = o.dst := by
  unfold zgs at h
  split at h
  · rename_i hall
    refine ⟨fun x hx => List.all_eq_true.1 hall x (Array.mem_toList_iff.2 hx), ?_⟩
    split at h
    · rename_i a gd ha hg
      simp only [Option.some.injEq] at h
      subst h
      exact ⟨ha, hg, rfl⟩
    · cases h
  · cases h
theorem yem {call : qd} (hF : zcq P G N call) (hm : MR G N σ g w) {s s' : St} (hs : Sub g s.h) {a : Act} (hv : VRs σ g s.t a.tmps.toList) (hd : a.defers = []) {ops : Array Oper} {i : Nat} {o : Oper} {ao : gq} (hi : ops[i]? = some o)
    (hn : zgs P G ops o = some ao) (he : zbw call ao s = some s') {next : Act → World → Prop} {Q : Exit → Act → World → Prop} (hnext : ∀ a' w', To G N σ g w s.h s' a' w' → next a' w') : wpOp P ops Q i next a w := by
  obtain ⟨hok, hop, hgd, hdst⟩ := zbv hn
  unfold wpOp
  rw [hi]
  simp only
  rw [zys hv hgd]
  unfold zbw at he
  by_cases hw : zjp s ao.guard = true
  · rw [if_pos hw] at he
    rw [if_pos hw]
    obtain ⟨⟨v, h'⟩, hev, rfl⟩ := yo he
    left
    refine yfy hF hm hs hop (fun x hx => zyb hm hv (hok x hx)) (fun v => rfl) (fun f => rfl) hev fun cv w' hdone => hnext _ _ ?_
    obtain ⟨σ', h1, h2, h3, h4⟩ := hdone
    rw [hdst]
    refine ⟨σ', ?_, ?_, ?_, ?_, by rw [zgp]; exact hd⟩ <;> rw [zyr]
    · exact h1
    · exact h2
    · exact zzs (hv.ext h1.ext) h3 _ _
    · exact h4
  · rw [if_neg hw] at he
    rw [if_neg hw]
    simp only [Option.some.injEq] at he
    subst he
    refine hnext _ _ ?_
    rw [hdst]
    have := To.refl (s := s.put o.dst undef s.h) (a := a.put o.dst undef) hm (by rw [zyr]; exact hs) (zzs hv (.tuple [] [] .nil) _ _) (by rw [zgp]; exact hd)
    rw [zyr] at this
    exact this
theorem zcb {ops : Array Oper} : ∀ {l : List Oper} {as : List gq}, zct P G ops l = some as → as.length = l.length ∧ ∀ (i : Nat) o, l[i]? = some o → ∃ ao, as[i]? = some ao ∧ zgs P G ops o = some ao
  | [], as, h => by
    simp only [zct, Option.some.injEq] at h; subst h
    exact ⟨rfl, fun i o hi => by simp at hi⟩
  | o :: l, as, h => by
    unfold zct at h
    split at h
    · rename_i a as' ha has
      simp only [Option.some.injEq] at h; subst h
      obtain ⟨h1, h2⟩ := zcb has
      refine ⟨by simp [h1], fun i q hi => ?_⟩
      cases i with
      | zero => simp at hi; subst hi; exact ⟨a, rfl, ha⟩
      | succ i => exact h2 i q (by simpa using hi)
    · cases h
theorem zy0 {call : qd} (hF : zcq P G N call) {ops : Array Oper} {as : List gq} (hn : zct P G ops ops.toList = some as) {Q : Exit → Act → World → Prop} : ∀ (k i : Nat) (σ : Emb) (g : Mem) (w : World) (s s' : St) (a : Act),
    i + k = ops.size → MR G N σ g w → Sub g s.h → VRs σ g s.t a.tmps.toList → a.defers = [] → fj call (as.drop i) s = some s' → (∀ a' w', To G N σ g w s.h s' a' w' → Q .normal a' w') → wpOps P ops Q (List.range' i k) a w := by
  obtain ⟨hlen, hget⟩ := zcb hn
  intro k
  induction k with
  | zero =>
    intro i σ g w s s' a hik hm hs hv hd he hq
    rw [List.drop_eq_nil_of_le (by rw [hlen]; simp; omega)] at he
    simp only [fj, Option.some.injEq] at he
    subst he
    exact hq _ _ (To.refl hm hs hv hd)
  | succ k ih =>
    intro i σ g w s s' a hik hm hs hv hd he hq
    have hilt : i < ops.size := by omega
    obtain ⟨ao, hao, hno⟩ := hget i ops[i] (by simp [hilt])
    have hdrop : as.drop i = ao :: as.drop (i + 1) := by
      have hlt : i < as.length := by rw [hlen]; simpa using hilt
      rw [List.drop_eq_getElem_cons hlt]
      congr 1
      exact (List.getElem?_eq_some_iff.1 hao).2
    rw [hdrop] at he
    simp only [fj] at he
    obtain ⟨s1, h1, h2⟩ := Option.bind_eq_some_iff.1 he
    rw [List.range'_succ, wpOps_cons]
    refine yem hF hm hs hv hd (by simp [hilt]) hno h1 fun a1 w1 hto => ?_
    obtain ⟨σ1, g1, m1, v1, hh1, d1⟩ := hto
    exact ih (i + 1) σ1 _ w1 s1 s' a1 (by omega) m1 (zhy _ _ _) v1 d1 h2 fun a' w' ht => hq a' w' (To.trans (a₁ := a1) hm hs g1 hh1 ht)
end Go.Proofs.YtljdbheclfaloaaGreatDoor.AM
namespace Go.Proofs.YtljdbheclfaloaaGreatDoor.AM
open Go.RowKit
set_option linter.unusedSimpArgs false
set_option linter.unusedVariables false
variable {P : Program} {G N : Nat} {σ : Emb} {g : Mem} {w : World} {h : Heap}
def bits (b : List Nat) (i j : Nat) : Bool := (b.getD i 0).testBit j
theorem zqu (acc : Array Nat) : ∀ (l : List Edge) (s j : Nat), (l.foldl (fun s e => if Region.binds .any e then s ||| 2 ^ e.on ||| acc.getD e.on 0 else s) s).testBit j = true ↔
    s.testBit j = true ∨ ∃ e ∈ l, Region.binds .any e = true ∧ (j = e.on ∨ (acc.getD e.on 0).testBit j = true)
  | [], s, j => by simp
  | e :: l, s, j => by
    rw [List.foldl_cons, zqu acc l]
    by_cases hb : Region.binds .any e = true
    · rw [if_pos hb]
      simp only [Nat.testBit_or, Nat.testBit_two_pow, Bool.or_eq_true, decide_eq_true_eq, List.mem_cons]
      constructor
      · rintro ((((h | h) | h)) | ⟨e', he', h⟩)
        · exact .inl h
        · exact .inr ⟨e, .inl rfl, hb, .inl h.symm⟩
        · exact .inr ⟨e, .inl rfl, hb, .inr h⟩
        · exact .inr ⟨e', .inr he', h⟩
      · rintro (h | ⟨e', rfl | he', hb', h⟩)
        · exact .inl (.inl (.inl h))
        · rcases h with h | h
          · exact .inl (.inl (.inr h.symm))
          · exact .inl (.inr h)
        · exact .inr ⟨e', he', hb', h⟩
    · rw [if_neg hb]
      simp only [List.mem_cons]
      constructor
      · rintro (h | ⟨e', he', h⟩)
        · exact .inl h
        · exact .inr ⟨e', .inr he', h⟩
      · rintro (h | ⟨e', rfl | he', hb', h⟩)
        · exact .inl h
        · exact absurd hb' hb
        · exact .inr ⟨e', he', hb', h⟩
theorem zlg : ∀ (l : List Oper) (acc : Array Nat),
    (l.foldl (fun acc o => acc.push (o.after.foldl (fun s e => if Region.binds .any e then s ||| 2 ^ e.on ||| acc.getD e.on 0 else s) 0)) acc).size = acc.size + l.length ∧
    (∀ i, i < acc.size → (l.foldl (fun acc o => acc.push (o.after.foldl (fun s e => if Region.binds .any e then s ||| 2 ^ e.on ||| acc.getD e.on 0 else s) 0)) acc).getD i 0 = acc.getD i 0) ∧
    ∀ (k : Nat) o, l[k]? = some o → ∃ ak : Array Nat, ak.size = acc.size + k ∧
      (∀ i, i < ak.size → ak.getD i 0 = (l.foldl (fun acc o => acc.push (o.after.foldl (fun s e => if Region.binds .any e then s ||| 2 ^ e.on ||| acc.getD e.on 0 else s) 0)) acc).getD i 0) ∧
      (l.foldl (fun acc o => acc.push (o.after.foldl (fun s e => if Region.binds .any e then s ||| 2 ^ e.on ||| acc.getD e.on 0 else s) 0)) acc).getD (acc.size + k) 0 =
        o.after.foldl (fun s e => if Region.binds .any e then s ||| 2 ^ e.on ||| ak.getD e.on 0 else s) 0
  | [], acc => ⟨by simp, fun _ _ => rfl, fun k o h => by simp at h⟩
  | o :: l, acc => by
    obtain ⟨h1, h2, h3⟩ := zlg l (acc.push (o.after.foldl (fun s e => if Region.binds .any e then s ||| 2 ^ e.on ||| acc.getD e.on 0 else s) 0))
    simp only [Array.size_push] at h1 h2 h3
    have hpush : ∀ (x i : Nat), i < acc.size → (acc.push x).getD i 0 = acc.getD i 0 := by
      intro x i hi
      rw [Array.getD_eq_getD_getElem?, Array.getD_eq_getD_getElem?, Array.getElem?_push, if_neg (by omega)]
    have hlast : ∀ (x : Nat), (acc.push x).getD acc.size 0 = x := by
      intro x; rw [Array.getD_eq_getD_getElem?]; simp
    simp only [List.foldl_cons, List.length_cons]
    refine ⟨by omega, fun i hi => by rw [h2 i (by omega), hpush _ i hi], fun k q hk => ?_⟩
    cases k with
    | zero =>
      simp at hk; subst hk
      refine ⟨acc, rfl, fun i hi => ?_, ?_⟩
      · rw [h2 i (by omega), hpush _ i hi]
      · rw [Nat.add_zero, h2 acc.size (by omega), hlast]
    | succ k =>
      obtain ⟨ak, a1, a2, a3⟩ := h3 k q (by simpa using hk)
      exact ⟨ak, by omega, a2, by rw [show acc.size + (k + 1) = acc.size + 1 + k from by omega]; exact a3⟩
theorem zl2 {ops : Array Oper} {i : Nat} {o : Oper} (hi : ops[i]? = some o) :
    (∀ e ∈ o.after, Region.binds .any e = true → bits (Region.before ops).toList i e.on = true) ∧
    ∀ j, bits (Region.before ops).toList i j = true → ∃ e ∈ o.after, Region.binds .any e = true ∧ (j = e.on ∨ bits (Region.before ops).toList e.on j = true) := by
  obtain ⟨h1, h2, h3⟩ := zlg ops.toList #[]
  obtain ⟨ak, a1, a2, a3⟩ := h3 i o (by simpa using hi)
  have e0 : Region.before ops = ops.toList.foldl (fun acc o => acc.push (o.after.foldl (fun s e => if Region.binds .any e then s ||| 2 ^ e.on ||| acc.getD e.on 0 else s) 0)) #[] := by
    unfold Region.before
    rw [← Array.foldl_toList]
  rw [← e0] at h1 h2 a2 a3
  have hget : ∀ k, (Region.before ops).toList.getD k 0 = (Region.before ops).getD k 0 := fun k => by simp [Array.getD_eq_getD_getElem?, List.getD_eq_getElem?_getD]
  simp only [Array.size_empty, Nat.zero_add] at a1 a3
  rw [← Array.foldl_toList] at a3
  have key : ∀ j, bits (Region.before ops).toList i j = true ↔ ∃ e ∈ o.after.toList, Region.binds .any e = true ∧ (j = e.on ∨ (ak.getD e.on 0).testBit j = true) := by
    intro j
    unfold bits
    rw [hget, a3, zqu]
    simp
  constructor
  · intro e he hb
    exact (key _).2 ⟨e, Array.mem_toList_iff.2 he, hb, .inl rfl⟩
  · intro j hj
    obtain ⟨e, he, hb, h⟩ := (key j).1 hj
    refine ⟨e, Array.mem_toList_iff.1 he, hb, h.imp id fun h => ?_⟩
    unfold bits
    rw [hget]
    by_cases hlt : e.on < ak.size
    · rw [← a2 e.on hlt]; exact h
    · rw [Array.getD_eq_getD_getElem?, Array.getElem?_eq_none (by omega)] at h
      simp at h
theorem znp {call : qd} {ρ : Operand → Value} {ao : AOp} (h1 : ao.acts = false) (h2 : ao.makes = false) (h3 : ao.reads = false) {h h₁ : Heap} {v : Value} {h' : Heap} (ha : ∀ a t, ao ≠ .again1 a t) (hb : ∀ n a t, ao ≠ .again n a t)
    (he : evOp call ρ h ao = some (v, h')) : h' = h ∧ evOp call ρ h₁ ao = some (v, h₁) := by
  cases ao <;> simp only [AOp.acts, AOp.makes, AOp.reads, Bool.true_eq_false] at h1 h2 h3 <;> (try (exact absurd rfl (ha _ _))) <;> (try (exact absurd rfl (hb _ _ _)))
  case max2 x y =>
    simp only [evOp] at he ⊢
    cases hx : ρ x <;> simp only [hx, reduceCtorEq] at he ⊢
    cases hy : ρ y <;> simp only [hy, reduceCtorEq] at he ⊢
    simp only [Option.some.injEq, Prod.mk.injEq] at he ⊢
    obtain ⟨rfl, rfl⟩ := he
    exact ⟨rfl, rfl, trivial⟩
  case min2 x y =>
    simp only [evOp] at he ⊢
    cases hx : ρ x <;> simp only [hx, reduceCtorEq] at he ⊢
    cases hy : ρ y <;> simp only [hy, reduceCtorEq] at he ⊢
    simp only [Option.some.injEq, Prod.mk.injEq] at he ⊢
    obtain ⟨rfl, rfl⟩ := he
    exact ⟨rfl, rfl, trivial⟩
  all_goals
    simp only [evOp] at he ⊢
    first
      | (simp only [Option.some.injEq, Prod.mk.injEq] at he; obtain ⟨rfl, rfl⟩ := he; exact ⟨rfl, rfl⟩)
      | (obtain ⟨r, hr, he⟩ := yo he; simp only [Prod.mk.injEq] at he; obtain ⟨rfl, rfl⟩ := he; exact ⟨rfl, by simp [hr]⟩)
      | (repeat' split at he
         all_goals first
           | (cases he; done)
           | (simp only [Option.some.injEq, Prod.mk.injEq] at he; obtain ⟨rfl, rfl⟩ := he; exact ⟨rfl, by simp_all⟩)
           | (obtain ⟨r, hr, he⟩ := yo he; simp only [Prod.mk.injEq] at he; obtain ⟨rfl, rfl⟩ := he; exact ⟨rfl, by simp_all⟩))
theorem jb {h : Heap} {o : AObj} {i : Nat} {x : AObj} (hi : h[i]? = some x) : (h ++ [o])[i]? = some x := by
  rw [List.getElem?_append_left (List.getElem?_eq_some_iff.1 hi).1]; exact hi
theorem zrk {call : qd} {ρ : Operand → Value} {ao : AOp} (h3 : ao.reads = true) {h : Heap} {v : Value} (he : evOp call ρ h ao = some (v, h)) (o : AObj) : evOp call ρ (h ++ [o]) ao = some (v, h ++ [o]) := by
  cases ao <;> simp only [AOp.reads, Bool.false_eq_true] at h3
  case load1 a =>
    simp only [evOp] at he ⊢
    split at he
    · obtain ⟨r, hr, he⟩ := yo he
      simp only [Prod.mk.injEq, and_true] at he
      subst he
      unfold Heap.read1 at hr ⊢
      split at hr
      · rename_i hq
        rw [jb hq]
        simp only
        rw [hr]; rfl
      · cases hr
    · cases he
  case load n a =>
    simp only [evOp] at he ⊢
    split at he
    · obtain ⟨r, hr, he⟩ := yo he
      simp only [Prod.mk.injEq, and_true] at he
      subst he
      unfold Heap.read at hr ⊢
      split at hr
      · rename_i hq
        rw [jb hq]
        simp only
        rw [hr]; rfl
      · cases hr
    · cases he
  case lookup kk z m k ok =>
    have hm : ∀ r, zkk h kk (ρ k) (ρ m) = some r → zkk (h ++ [o]) kk (ρ k) (ρ m) = some r := by
      intro r hr
      unfold zkk at hr ⊢
      split at hr
      · exact hr
      · split at hr
        · rename_i hq
          rw [jb hq]
          exact hr
        · cases hr
      · cases hr
    simp only [evOp] at he ⊢
    by_cases hok : zdx kk (ρ k) = true
    · rw [if_pos hok] at he ⊢
      cases hq : zkk h kk (ρ k) (ρ m) with
      | none => rw [hq] at he; cases he
      | some r =>
        rw [hq] at he
        rw [hm r hq]
        cases r <;> simp only [Option.some.injEq, Prod.mk.injEq, and_true] at he ⊢ <;> exact he
    · rw [if_neg hok] at he; cases he
  case lenMap m =>
    simp only [evOp] at he ⊢
    split at he
    · simp only [Option.some.injEq, Prod.mk.injEq, and_true] at he ⊢; exact he
    · split at he
      · rename_i hq
        rw [jb hq]
        simp only [Option.some.injEq, Prod.mk.injEq, and_true] at he ⊢; exact he
      · cases he
    · cases he
  case sliceArr len size x lo hi =>
    simp only [evOp] at he ⊢
    split at he
    · split at he
      · rename_i hl hk
        split at he
        · rename_i hq
          rw [jb hq]
          split at he
          · rename_i hc
            simp only [if_pos hc, Option.some.injEq, Prod.mk.injEq, and_true] at he ⊢; exact he
          · cases he
        · cases he
      · cases he
    · cases he
end Go.Proofs.YtljdbheclfaloaaGreatDoor.AM
namespace Go.Proofs.YtljdbheclfaloaaGreatDoor.AM
open Go.RowKit
set_option linter.unusedSimpArgs false
set_option linter.unusedVariables false
def zn7 (ρ : Operand → Value) : Option (Nat × Bool) → Bool
  | none => true
  | some (t, b) => match ρ (.tmp t) with
    | .bool c => c == b
    | _ => false
structure Stat (P : Program) (G : Nat) (ops : Array Oper) (as : List gq) : Prop where
  norm : zct P G ops ops.toList = some as
  places : zn8 ops.toList as (Region.before ops).toList = true
  guards : zvb ops.toList (Region.before ops).toList = true
def nm (ops : Array Oper) (as : List gq) (j : Nat) : List Nat := zeu (ops.toList.getD j default) (as.getD j vf)
section
variable {P : Program} {G N : Nat} {ops : Array Oper} {as : List gq} (S : Stat P G ops as)
include S
theorem Stat.len : as.length = ops.size := by
  obtain ⟨h, _⟩ := zcb S.norm; simpa using h
theorem Stat.pair {i j t : Nat} (hi : i < as.length) (hj : j < as.length) (ht : (as.getD i vf).dst = some t) :
    (i = j ∨ (as.getD j vf).dst ≠ some t) ∧ (t ∈ nm ops as j → bits (Region.before ops).toList j i = true ∨ bits (Region.before ops).toList i j = true) := by
  have h := S.places
  unfold zn8 at h
  rw [List.all_eq_true] at h
  have h := h i (List.mem_range.2 hi)
  rw [List.all_eq_true] at h
  have h := h j (List.mem_range.2 hj)
  simp only [ht, Bool.and_eq_true, Bool.or_eq_true, beq_iff_eq, bne_iff_ne, ne_eq, Bool.not_eq_true'] at h
  obtain ⟨h1, h2⟩ := h
  refine ⟨h1, fun hm => ?_⟩
  rcases h2 with (h2 | h2) | h2
  · have : (zeu (ops.toList.getD j default) (as.getD j vf)).contains t = true := List.contains_iff_mem.2 hm
    rw [this] at h2; cases h2
  · exact .inl h2
  · exact .inr h2
theorem Stat.uniq {i j t : Nat} (hi : i < as.length) (hj : j < as.length) (ht : (as.getD i vf).dst = some t) (ht' : (as.getD j vf).dst = some t) : i = j :=
  ((S.pair hi hj ht).1).resolve_right fun h => h ht'
theorem Stat.oper {i : Nat} (hi : i < as.length) : ∃ o, ops[i]? = some o ∧ zgs P G ops o = some (as.getD i vf) ∧ ops.toList.getD i default = o := by
  obtain ⟨hl, hget⟩ := zcb S.norm
  have hlt : i < ops.size := by rw [← S.len]; exact hi
  obtain ⟨ao, hao, hno⟩ := hget i ops[i] (by simp [hlt])
  refine ⟨ops[i], by simp [hlt], ?_, by simp [List.getD_eq_getElem?_getD, hlt]⟩
  rw [List.getD_eq_getElem?_getD, hao]; exact hno
end
structure RelV (ops : Array Oper) (as : List gq) (s0 : St) (val : Nat → Value) (i : Nat) (ρ : Operand → Value) : Prop where
  far : ∀ t ∈ nm ops as i, s0.t.length ≤ t → ρ (.tmp t) = undef
  new : ∀ t ∈ nm ops as i, ∀ k, k < as.length → (as.getD k vf).dst = some t → bits (Region.before ops).toList i k = true → t < s0.t.length → ρ (.tmp t) = val k
  old : ∀ t ∈ nm ops as i, (∀ k, k < as.length → (as.getD k vf).dst = some t → bits (Region.before ops).toList i k = false) → ρ (.tmp t) = s0.t.getD t undef
  rest : ∀ x, (∀ t, x ≠ .tmp t) → ρ x = s0.eval x
def Pend (call : qd) (ops : Array Oper) (as : List gq) (s0 : St) (val : Nat → Value) (hole : Nat → Option Nat) (g : Mem) (h : Heap) (i : Nat) : Prop :=
  ∃ ρ, RelV ops as s0 val i ρ ∧ (as.getD i vf).op.acts = false ∧
    match hole i with
    | some id => s0.h.length ≤ id ∧ g id = none ∧ zn7 ρ (as.getD i vf).guard = true ∧ (as.getD i vf).op.makes = true ∧
        ∃ obj, h[id]? = some obj ∧ ∀ h₁ : Heap, h₁.length = id → evOp call ρ h₁ (as.getD i vf).op = some (val i, h₁ ++ [obj])
    | none => if zn7 ρ (as.getD i vf).guard = true then
        (as.getD i vf).op.makes = false ∧ evOp call ρ h (as.getD i vf).op = some (val i, h) ∧ ((as.getD i vf).op.reads = false → ∀ h₁, evOp call ρ h₁ (as.getD i vf).op = some (val i, h₁))
      else val i = undef
structure Inv (call : qd) (P : Program) (G N : Nat) (ops : Array Oper) (as : List gq) (s0 : St) (σ0 : Emb) (g0 : Mem) (w0 : World) (D : Nat → Prop) (pre rest : List Nat) (seen : Nat) (s sfin : St) (val : Nat → Value) (hole : Nat → Option Nat)
    (σ : Emb) (g : Mem) (w : World) (a : Act) : Prop where
  asz : a.tmps.size = s0.t.length
  ssz : s.t.length = s0.t.length
  dfr : a.defers = []
  mr : MR G N σ g w
  sub : Sub g s.h
  go : Go N σ0 g0 w0 σ g w
  holes : Holes g0 s0.h s.h
  grows : ∀ i, g i = grow g0 s0.h s.h i ∨ (g i = none ∧ ∃ k ∈ pre, ¬ D k ∧ hole k = some i)
  apart : ∀ i ∈ pre, ∀ j ∈ pre, ∀ id, ¬ D i → ¬ D j → hole i = some id → hole j = some id → i = j
  inD : ∀ i, D i → i ∈ pre
  closed : ∀ i j, D i → bits (Region.before ops).toList i j = true → D j
  all : ∀ i, i < as.length → i ∈ pre ∨ i ∈ rest
  lt : ∀ i ∈ pre, i < as.length
  marks : ∀ i, seen.testBit i = true ↔ i ∈ pre
  preclosed : ∀ i ∈ pre, ∀ j, bits (Region.before ops).toList i j = true → j ∈ pre
  order : zds as (Region.before ops).toList rest seen = true
  weaved : ∃ m, zos ops.toList as (Region.before ops).toList rest pre = some m ∧ fj call m s = some sfin
  actD : ∀ i ∈ pre, (as.getD i vf).op.acts = true → D i
  tmpD : ∀ t, t < s0.t.length → (∀ k, D k → (as.getD k vf).dst = some t → VR σ g (val k) (a.tmps.getD t undef)) ∧ ((∀ k, D k → (as.getD k vf).dst ≠ some t) → VR σ g (s0.t.getD t undef) (a.tmps.getD t undef))
  tmpC : ∀ t, (∀ k ∈ pre, (as.getD k vf).dst = some t → t < s0.t.length → s.t.getD t undef = val k) ∧ ((∀ k ∈ pre, (as.getD k vf).dst ≠ some t) → s.t.getD t undef = s0.t.getD t undef)
  pend : ∀ i ∈ pre, ¬ D i → Pend call ops as s0 val hole g s.h i
variable {call : qd} {P : Program} {G N : Nat} {ops : Array Oper} {as : List gq} {s0 : St} {σ0 : Emb} {g0 : Mem} {w0 : World} {D : Nat → Prop} {pre rest : List Nat} {seen : Nat} {s sfin : St} {val : Nat → Value} {hole : Nat → Option Nat}
  {σ : Emb} {g : Mem} {w : World} {a : Act}
theorem ze3 (s : St) (gd : Option (Nat × Bool)) : zjp s gd = zn7 s.eval gd := by
  cases gd with
  | none => rfl
  | some p => rfl
theorem zh2 {l : List Value} {t : Nat} (h : l.length ≤ t) : l.getD t undef = undef := by
  rw [List.getD_eq_getElem?_getD, List.getElem?_eq_none h]; rfl
theorem Inv.relV (S : Stat P G ops as) (I : Inv call P G N ops as s0 σ0 g0 w0 D pre rest seen s sfin val hole σ g w a) {i : Nat} (hi : i < as.length) (hni : i ∉ pre) (hb : ∀ j, bits (Region.before ops).toList i j = true → j ∈ pre) :
    RelV ops as s0 val i s.eval := by
  refine ⟨fun t ht hl => zh2 (by rw [I.ssz]; exact hl), fun t ht k hk hd hbk hlt => (I.tmpC t).1 k (hb k hbk) hd hlt, fun t ht hno => ?_, fun x hx => ?_⟩
  · refine (I.tmpC t).2 fun k hk hd => ?_
    have hkl := I.lt k hk
    rcases (S.pair hkl hi hd).2 ht with h | h
    · rw [hno k hkl hd] at h; cases h
    · exact hni (I.preclosed k hk i h)
  · cases x with
    | tmp t => exact absurd rfl (hx t)
    | _ => rfl
theorem RelV.upd {i k : Nat} {ρ : Operand → Value} (h : RelV ops as s0 val i ρ) (v : Value) (hb : bits (Region.before ops).toList i k = false) : RelV ops as s0 (fun j => if j = k then v else val j) i ρ := by
  refine ⟨h.far, fun t ht j hj hd hbj hlt => ?_, h.old, h.rest⟩
  have hne : j ≠ k := by rintro rfl; rw [hb] at hbj; cases hbj
  simp only [if_neg hne]
  exact h.new t ht j hj hd hbj hlt
theorem fr {i : Nat} {r : List Nat} {b : List Nat} (h : zds as b (i :: r) seen = true) : seen.testBit i = false ∧ i < as.length ∧ (∀ j, bits b i j = true → seen.testBit j = true) ∧
    ((as.getD i vf).op.acts = true → ∀ j, j < as.length → seen.testBit j = true ∨ j = i ∨ bits b j i = true) ∧ zds as b r (seen ||| 2 ^ i) = true := by
  unfold zds at h
  simp only [Bool.and_eq_true, Bool.not_eq_true', decide_eq_true_eq, beq_iff_eq, Bool.or_eq_true, List.all_eq_true, List.mem_range] at h
  obtain ⟨⟨⟨⟨h1, h2⟩, h3⟩, h4⟩, h5⟩ := h
  refine ⟨h1, h2, fun j hj => ?_, fun ha j hj => ?_, h5⟩
  · unfold bits at hj
    rw [← h3, Nat.testBit_and, Bool.and_eq_true] at hj
    exact hj.2
  · rcases h4 with h4 | h4
    · rw [ha] at h4; cases h4
    · rcases h4 j hj with (h | h) | h
      · exact .inl h
      · exact .inr (.inl h)
      · exact .inr (.inr h)
theorem testBit_or_two {x i j : Nat} : (x ||| 2 ^ i).testBit j = true ↔ x.testBit j = true ∨ j = i := by
  rw [Nat.testBit_or, Nat.testBit_two_pow, Bool.or_eq_true, decide_eq_true_eq]
  exact ⟨fun h => h.imp id Eq.symm, fun h => h.imp id Eq.symm⟩
theorem Inv.advance1 (S : Stat P G ops as) {i : Nat} {r : List Nat} (I : Inv call P G N ops as s0 σ0 g0 w0 D pre (i :: r) seen s sfin val hole σ g w a) (hna : (as.getD i vf).op.acts = false) (hag : (∀ x t, (as.getD i vf).op ≠ .again1 x t) ∧ ∀ n x t, (as.getD i vf).op ≠ .again n x t) :
    ∃ s' val' hole', Inv call P G N ops as s0 σ0 g0 w0 D (pre ++ [i]) r (seen ||| 2 ^ i) s' sfin val' hole' σ g w a := by
  obtain ⟨o1, o2, o3, o4, o5⟩ := fr I.order
  have hni : i ∉ pre := fun h => by rw [(I.marks i).2 h] at o1; cases o1
  have hbi : ∀ j, bits (Region.before ops).toList i j = true → j ∈ pre := fun j hj => (I.marks j).1 (o3 j hj)
  have hrel := I.relV S o2 hni hbi
  have hnD : ¬ D i := fun h => hni (I.inD i h)
  obtain ⟨m, hm, hev⟩ := I.weaved
  unfold zos at hm
  simp only [hna, Bool.false_eq_true, if_false] at hm
  cases hw2 : zos ops.toList as (Region.before ops).toList r (pre ++ [i]) with
  | none => rw [hw2] at hm; cases hm
  | some m2 =>
    rw [hw2] at hm
    simp only [List.nil_append, Option.some.injEq] at hm
    subst hm
    simp only [fj] at hev
    obtain ⟨s1, hs1, hrun⟩ := Option.bind_eq_some_iff.1 hev
    have common : ∀ (v : Value) (hl' : Option Nat) (h1 : Heap), s1 = s.put (as.getD i vf).dst v h1 → (∀ k, k ∈ pre → ¬ D k → Pend call ops as s0 (fun j => if j = i then v else val j) (fun j => if j = i then hl' else hole j) g h1 k) →
        Pend call ops as s0 (fun j => if j = i then v else val j) (fun j => if j = i then hl' else hole j) g h1 i → Sub g h1 → Holes g0 s0.h h1 →
        (∀ j, g j = grow g0 s0.h h1 j ∨ (g j = none ∧ ∃ k ∈ pre ++ [i], ¬ D k ∧ (if k = i then hl' else hole k) = some j)) → (∀ id, hl' = some id → ∀ k ∈ pre, ¬ D k → hole k ≠ some id) →
        ∃ s' val' hole', Inv call P G N ops as s0 σ0 g0 w0 D (pre ++ [i]) r (seen ||| 2 ^ i) s' sfin val' hole' σ g w a := by
      intro v hl' h1 hs1' hp hpi hsub hho hgr hap
      refine ⟨s1, fun j => if j = i then v else val j, fun j => if j = i then hl' else hole j, ?_⟩
      have hh1 : s1.h = h1 := by rw [hs1', zyr]
      have hne : ∀ k ∈ pre, k ≠ i := fun k hk e => hni (e ▸ hk)
      refine ⟨I.asz, ?_, I.dfr, I.mr, by rw [hh1]; exact hsub, I.go, by rw [hh1]; exact hho, by rw [hh1]; exact hgr, ?_, fun j hj => List.mem_append.2 (.inl (I.inD j hj)), I.closed, ?_, ?_, ?_, ?_, o5, ⟨m2, hw2, hrun⟩, ?_, ?_, ?_, ?_⟩
      · rw [hs1']; cases (as.getD i vf).dst <;> simp [St.put, I.ssz]
      · intro x hx y hy id hDx hDy h1 h2
        simp only [List.mem_append, List.mem_singleton] at hx hy
        rcases hx with hx | rfl <;> rcases hy with hy | rfl
        · rw [if_neg (hne x hx)] at h1; rw [if_neg (hne y hy)] at h2
          exact I.apart x hx y hy id hDx hDy h1 h2
        · rw [if_neg (hne x hx)] at h1; rw [if_pos rfl] at h2
          exact absurd h1 (hap id h2 x hx hDx)
        · rw [if_pos rfl] at h1; rw [if_neg (hne y hy)] at h2
          exact absurd h2 (hap id h1 y hy hDy)
        · rfl
      · intro j hj
        rcases I.all j hj with h | h
        · exact .inl (List.mem_append.2 (.inl h))
        · rcases List.mem_cons.1 h with rfl | h
          · exact .inl (by simp)
          · exact .inr h
      · intro j hj
        rcases List.mem_append.1 hj with h | h
        · exact I.lt j h
        · rw [List.mem_singleton.1 h]; exact o2
      · intro j
        rw [testBit_or_two, I.marks j, List.mem_append, List.mem_singleton]
      · intro j hj k hk
        rcases List.mem_append.1 hj with h | h
        · exact List.mem_append.2 (.inl (I.preclosed j h k hk))
        · rw [List.mem_singleton.1 h] at hk; exact List.mem_append.2 (.inl (hbi k hk))
      · intro j hj ha
        rcases List.mem_append.1 hj with h | h
        · exact I.actD j h ha
        · rw [List.mem_singleton.1 h, hna] at ha; cases ha
      · intro t ht
        refine ⟨fun k hk hd => ?_, (I.tmpD t ht).2⟩
        simp only [if_neg (hne k (I.inD k hk))]
        exact (I.tmpD t ht).1 k hk hd
      · intro t
        have hput : ∀ t, s1.t.getD t undef = if (as.getD i vf).dst = some t ∧ t < s0.t.length then v else s.t.getD t undef := by
          intro t
          rw [hs1']
          cases hd : (as.getD i vf).dst with
          | none => simp [St.put]
          | some u =>
            simp only [St.put, Option.some.injEq]
            rw [List.getD_eq_getElem?_getD, List.getElem?_set]
            by_cases hut : u = t
            · subst hut
              by_cases hlt : u < s.t.length
              · rw [if_pos rfl, if_pos hlt, if_pos ⟨rfl, by rw [← I.ssz]; exact hlt⟩]; rfl
              · rw [if_pos rfl, if_neg hlt, if_neg (fun h => hlt (by rw [I.ssz]; exact h.2)), zh2 (by omega)]; rfl
            · rw [if_neg hut, if_neg (fun h => hut h.1), List.getD_eq_getElem?_getD]
        constructor
        · intro k hk hd hlt
          rw [hput]
          simp only [List.mem_append, List.mem_singleton] at hk
          rcases hk with hk | rfl
          · simp only [if_neg (hne k hk)]
            rw [if_neg (fun h => hne k hk (S.uniq (I.lt k hk) o2 hd h.1))]
            exact (I.tmpC t).1 k hk hd hlt
          · simp only [if_pos]
            rw [if_pos ⟨hd, hlt⟩]
        · intro hno
          rw [hput, if_neg (fun h => hno i (by simp) h.1)]
          exact (I.tmpC t).2 fun k hk => hno k (by simp [hk])
      · intro k hk hDk
        rw [hh1]
        simp only [List.mem_append, List.mem_singleton] at hk
        rcases hk with hk | rfl
        · exact hp k hk hDk
        · exact hpi
    have hkeep : ∀ (v : Value) (hl' : Option Nat) (h1 : Heap), (h1 = s.h ∨ ∃ ob, h1 = s.h ++ [ob]) → ∀ k, k ∈ pre → ¬ D k → Pend call ops as s0 (fun j => if j = i then v else val j) (fun j => if j = i then hl' else hole j) g h1 k := by
      intro v hl' h1 hh1 k hk hDk
      have hne : k ≠ i := fun e => hni (e ▸ hk)
      obtain ⟨ρ, r1, r2, r3⟩ := I.pend k hk hDk
      have hbk : bits (Region.before ops).toList k i = false := by
        cases hq : bits (Region.before ops).toList k i with
        | false => rfl
        | true => exact absurd (I.preclosed k hk i hq) hni
      refine ⟨ρ, r1.upd v hbk, r2, ?_⟩
      simp only [if_neg hne]
      cases hhk : hole k with
      | some id =>
        rw [hhk] at r3
        simp only at r3 ⊢
        obtain ⟨q1, q2, q3, q4, ob, q5, q6⟩ := r3
        refine ⟨q1, q2, q3, q4, ob, ?_, q6⟩
        rcases hh1 with rfl | ⟨x, rfl⟩
        · exact q5
        · exact jb q5
      | none =>
        rw [hhk] at r3
        simp only at r3 ⊢
        split at r3
        · rename_i hwr
          rw [if_pos hwr]
          obtain ⟨q1, q2, q3⟩ := r3
          refine ⟨q1, ?_, q3⟩
          rcases hh1 with rfl | ⟨x, rfl⟩
          · exact q2
          · cases hrd : (as.getD k vf).op.reads with
            | true => exact zrk hrd q2 x
            | false => exact q3 hrd _
        · rename_i hwr
          rw [if_neg hwr]; exact r3
    have hreli : ∀ v, RelV ops as s0 (fun j => if j = i then v else val j) i s.eval := fun v => hrel.upd v (by
      cases hq : bits (Region.before ops).toList i i with
      | false => rfl
      | true => exact absurd (hbi i hq) hni)
    unfold zbw at hs1
    by_cases hw : zjp s (as.getD i vf).guard = true
    · rw [if_pos hw] at hs1
      obtain ⟨⟨v, h1⟩, hv, rfl⟩ := yo hs1
      have hwr : zn7 s.eval (as.getD i vf).guard = true := by rw [← ze3]; exact hw
      by_cases hmk : (as.getD i vf).op.makes = true
      · obtain ⟨ob, rfl, _⟩ := zna (h₁ := s.h) hmk hv
        have hid : g s.h.length = none := zh3 I.sub (Nat.le_refl _)
        refine common v (some s.h.length) (s.h ++ [ob]) rfl (hkeep v _ _ (.inr ⟨ob, rfl⟩)) ?_ (fun j o hj => jb (I.sub j o hj)) ⟨by simp; exact Nat.le_succ_of_le I.holes.1, fun j hj hg => ?_⟩ ?_ ?_
        · refine ⟨s.eval, hreli v, hna, ?_⟩
          simp only [if_pos]
          refine ⟨I.holes.1, hid, hwr, hmk, ob, by simp, fun h₁ hl => ?_⟩
          obtain ⟨ob', e1, e2⟩ := zna (h₁ := h₁) hmk hv
          have : ob' = ob := by have := List.append_cancel_left e1; simpa using this.symm
          rw [← this]; exact e2 hl
        · rw [List.getElem?_append_left (Nat.lt_of_lt_of_le hj I.holes.1)]; exact I.holes.2 j hj hg
        · intro j
          by_cases hj : j = s.h.length
          · subst hj
            exact .inr ⟨hid, i, by simp, hnD, by simp⟩
          · have hsame : grow g0 s0.h (s.h ++ [ob]) j = grow g0 s0.h s.h j := by
              unfold grow
              by_cases h1 : j < s0.h.length
              · rw [if_pos h1, if_pos h1, List.getElem?_append_left (Nat.lt_of_lt_of_le h1 I.holes.1)]
              · rw [if_neg h1, if_neg h1]
                by_cases h2 : j < s.h.length
                · rw [List.getElem?_append_left h2]
                · rw [List.getElem?_eq_none (by simp; omega), List.getElem?_eq_none (by omega)]
            rw [hsame]
            rcases I.grows j with h | ⟨h, k, hk, hDk, hhk⟩
            · exact .inl h
            · exact .inr ⟨h, k, by simp [hk], hDk, by rw [if_neg (show k ≠ i from fun e => hni (e ▸ hk))]; exact hhk⟩
        · intro id hid' k hk hDk hhk
          simp only [Option.some.injEq] at hid'
          subst hid'
          obtain ⟨ρ, _, _, r3⟩ := I.pend k hk hDk
          rw [hhk] at r3
          simp only at r3
          obtain ⟨_, _, _, _, ob', q5, _⟩ := r3
          have := (List.getElem?_eq_some_iff.1 q5).1
          omega
      · have hmk' : (as.getD i vf).op.makes = false := by simpa using hmk
        have hh1 : h1 = s.h := by
          cases hrd : (as.getD i vf).op.reads with
          | false => exact (znp (h₁ := s.h) hna hmk' hrd hag.1 hag.2 hv).1
          | true =>
            cases hop : (as.getD i vf).op <;> rw [hop] at hrd hv <;> simp only [AOp.reads, Bool.false_eq_true] at hrd <;> simp only [evOp] at hv <;> (repeat' split at hv) <;>
              first
              | (cases hv; done)
              | (simp only [Option.some.injEq, Prod.mk.injEq] at hv; exact hv.2.symm)
              | (obtain ⟨q, _, hq⟩ := yo hv; simp only [Prod.mk.injEq] at hq; exact hq.2.symm)
        subst hh1
        refine common v none s.h rfl (hkeep v _ _ (.inl rfl)) ?_ I.sub I.holes (fun j => ?_) (fun id h => by cases h)
        · refine ⟨s.eval, hreli v, hna, ?_⟩
          simp only [if_pos, hwr]
          refine ⟨hmk', hv, fun hrd h₁ => (znp (h₁ := h₁) hna hmk' hrd hag.1 hag.2 hv).2⟩
        · rcases I.grows j with h | ⟨h, k, hk, hDk, hhk⟩
          · exact .inl h
          · exact .inr ⟨h, k, by simp [hk], hDk, by rw [if_neg (show k ≠ i from fun e => hni (e ▸ hk))]; exact hhk⟩
    · rw [if_neg hw] at hs1
      simp only [Option.some.injEq] at hs1
      have hwr : ¬ zn7 s.eval (as.getD i vf).guard = true := by rw [← ze3]; exact hw
      refine common undef none s.h hs1.symm (hkeep undef _ _ (.inl rfl)) ?_ I.sub I.holes (fun j => ?_) (fun id h => by cases h)
      · refine ⟨s.eval, hreli undef, hna, ?_⟩
        simp only [if_pos, if_neg hwr]
      · rcases I.grows j with h | ⟨h, k, hk, hDk, hhk⟩
        · exact .inl h
        · exact .inr ⟨h, k, by simp [hk], hDk, by rw [if_neg (show k ≠ i from fun e => hni (e ▸ hk))]; exact hhk⟩
end Go.Proofs.YtljdbheclfaloaaGreatDoor.AM
namespace Go.Proofs.YtljdbheclfaloaaGreatDoor.AM
open Go.RowKit
set_option linter.unusedSimpArgs false
set_option linter.unusedVariables false
variable {call : qd} {P : Program} {G N : Nat} {ops : Array Oper} {as : List gq} {s0 : St} {σ0 : Emb} {g0 : Mem} {w0 : World} {D : Nat → Prop} {pre rest : List Nat} {seen : Nat} {s sfin : St} {val : Nat → Value} {hole : Nat → Option Nat}
  {σ : Emb} {g : Mem} {w : World} {a : Act}
theorem zqy {ty : TypeId} {op : Op} {ao : AOp} (hn : wv P ty op = some ao) : (∀ x t, ao ≠ .again1 x t) ∧ ∀ n x t, ao ≠ .again n x t := by
  have key : ((∃ x t, ao = .again1 x t) ∨ ∃ n x t, ao = .again n x t) → False := by
    intro hk
    have hno : (∀ x t, ao ≠ .again1 x t) → (∀ n x t, ao ≠ .again n x t) → False := fun h1 h2 => by
      rcases hk with ⟨x, t, e⟩ | ⟨n, x, t, e⟩
      · exact h1 _ _ e
      · exact h2 _ _ _ e
    cases op
    case call c =>
      simp only [wv, zdl] at hn
      repeat' split at hn
      all_goals first
        | (cases hn; done)
        | (simp only [Option.some.injEq] at hn; subst hn; exact hno (by simp) (by simp))
    case binOp op t x y yt =>
      have eqs : ∀ neg, zdm P neg t x y = some ao → False := by
        intro neg hne
        unfold zdm at hne
        repeat' split at hne
        all_goals first
          | (cases hne; done)
          | (simp only [Option.some.injEq] at hne; subst hne; exact hno (by simp) (by simp))
          | (obtain ⟨z, _, rfl⟩ := yo hne; exact hno (by simp) (by simp))
      simp only [wv] at hn
      cases op <;> simp only at hn
      case eql => exact eqs false hn
      case neq => exact eqs true hn
      all_goals
        split at hn
        · simp only [Option.some.injEq] at hn; subst hn; exact hno (by simp) (by simp)
        · cases hn
    case makeFunc fn a b =>
      cases fn <;> simp only [wv, reduceCtorEq, Option.some.injEq] at hn
      subst hn; exact hno (by simp) (by simp)
    case makeMap t r =>
      have hn : za5 (P.underlying t) r = some ao := hn
      rw [zd3 hn] at hno
      exact hno (by simp) (by simp)
    case slice t x lo hi mx =>
      cases mx with
      | some y => simp [wv] at hn
      | none =>
        simp only [wv] at hn
        repeat' split at hn
        all_goals first
          | (cases hn; done)
          | (simp only [Option.some.injEq] at hn; subst hn; exact hno (by simp) (by simp))
          | (obtain ⟨z, _, hn⟩ := Option.bind_eq_some_iff.1 hn
             split at hn <;> first | (cases hn; done) | (simp only [Option.some.injEq] at hn; subst hn; exact hno (by simp) (by simp)))
    all_goals
      simp only [wv, reduceCtorEq] at hn
      try (
        repeat' split at hn
        all_goals first
          | (cases hn; done)
          | (simp only [Option.some.injEq] at hn; subst hn; exact hno (by simp) (by simp))
          | (obtain ⟨z, _, rfl⟩ := yo hn; exact hno (by simp) (by simp))
          | (obtain ⟨z, _, hn⟩ := Option.bind_eq_some_iff.1 hn
             split at hn <;> first | (cases hn; done) | (simp only [Option.some.injEq] at hn; subst hn; exact hno (by simp) (by simp))))
  exact ⟨fun x t e => key (.inl ⟨x, t, e⟩), fun n x t e => key (.inr ⟨n, x, t, e⟩)⟩
theorem zx7 {ty : TypeId} {op : Op} {ao : AOp} {x : Operand} (hn : wv P ty op = some ao) (hk : ao = .load1 x ∨ ∃ n, ao = .load n x) : ∃ t, op = .load t x := by
  have hno : (∀ y, ao ≠ .load1 y) → (∀ n y, ao ≠ .load n y) → False := fun h1 h2 => by
    rcases hk with e | ⟨n, e⟩
    · exact h1 _ e
    · exact h2 _ _ e
  cases op
  case load t a =>
    simp only [wv] at hn
    repeat' split at hn
    all_goals first
      | (cases hn; done)
      | (simp only [Option.some.injEq] at hn; subst hn
         rcases hk with e | ⟨n, e⟩
         · cases e
           try exact ⟨t, rfl⟩
         · cases e
           try exact ⟨t, rfl⟩)
  case call c =>
    exfalso
    simp only [wv, zdl] at hn
    repeat' split at hn
    all_goals first
      | (cases hn; done)
      | (simp only [Option.some.injEq] at hn; subst hn; exact hno (by simp) (by simp))
  case binOp op t x y yt =>
    exfalso
    have eqs : ∀ neg, zdm P neg t x y = some ao → False := by
      intro neg hne
      unfold zdm at hne
      repeat' split at hne
      all_goals first
        | (cases hne; done)
        | (simp only [Option.some.injEq] at hne; subst hne; exact hno (by simp) (by simp))
        | (obtain ⟨z, _, rfl⟩ := yo hne; exact hno (by simp) (by simp))
    simp only [wv] at hn
    cases op <;> simp only at hn
    case eql => exact eqs false hn
    case neq => exact eqs true hn
    all_goals
      split at hn
      · simp only [Option.some.injEq] at hn; subst hn; exact hno (by simp) (by simp)
      · cases hn
  case makeFunc fn a b =>
    exfalso
    cases fn <;> simp only [wv, reduceCtorEq, Option.some.injEq] at hn
    subst hn; exact hno (by simp) (by simp)
  case makeMap t r =>
    exfalso
    have hn : za5 (P.underlying t) r = some ao := hn
    rw [zd3 hn] at hno
    exact hno (by simp) (by simp)
  case slice t x lo hi mx =>
    exfalso
    cases mx with
    | some y => simp [wv] at hn
    | none =>
      simp only [wv] at hn
      repeat' split at hn
      all_goals first
        | (cases hn; done)
        | (simp only [Option.some.injEq] at hn; subst hn; exact hno (by simp) (by simp))
        | (obtain ⟨z, _, hn⟩ := Option.bind_eq_some_iff.1 hn
           split at hn <;> first | (cases hn; done) | (simp only [Option.some.injEq] at hn; subst hn; exact hno (by simp) (by simp)))
  all_goals
    exfalso
    simp only [wv, reduceCtorEq] at hn
    try (
      repeat' split at hn
      all_goals first
        | (cases hn; done)
        | (simp only [Option.some.injEq] at hn; subst hn; exact hno (by simp) (by simp))
        | (obtain ⟨z, _, rfl⟩ := yo hn; exact hno (by simp) (by simp))
        | (obtain ⟨z, _, hn⟩ := Option.bind_eq_some_iff.1 hn
           split at hn <;> first | (cases hn; done) | (simp only [Option.some.injEq] at hn; subst hn; exact hno (by simp) (by simp))))
theorem Inv.advance (S : Stat P G ops as) : ∀ (rest pre : List Nat) (seen : Nat) (s : St) (val : Nat → Value) (hole : Nat → Option Nat), Inv call P G N ops as s0 σ0 g0 w0 D pre rest seen s sfin val hole σ g w a →
    ∃ pre' rest' seen' s' val' hole', Inv call P G N ops as s0 σ0 g0 w0 D pre' rest' seen' s' sfin val' hole' σ g w a ∧ (rest' = [] ∨ ∃ e r, rest' = e :: r ∧ (as.getD e vf).op.acts = true)
  | [], pre, seen, s, val, hole, I => ⟨pre, [], seen, s, val, hole, I, .inl rfl⟩
  | i :: r, pre, seen, s, val, hole, I => by
    cases ha : (as.getD i vf).op.acts with
    | true => exact ⟨pre, i :: r, seen, s, val, hole, I, .inr ⟨i, r, rfl, ha⟩⟩
    | false =>
      obtain ⟨o1, o2, _⟩ := fr I.order
      obtain ⟨o, _, hno, _⟩ := S.oper o2
      obtain ⟨s', val', hole', I'⟩ := I.advance1 S ha (zqy (zbv hno).2.1)
      exact Inv.advance S r (pre ++ [i]) _ s' val' hole' I'
theorem Inv.names_VR (S : Stat P G ops as) (I : Inv call P G N ops as s0 σ0 g0 w0 D pre rest seen s sfin val hole σ g w a) {i : Nat} (hi : i < as.length) (hnD : ¬ D i) (hb : ∀ j, bits (Region.before ops).toList i j = true → D j)
    {ρ : Operand → Value} (hr : RelV ops as s0 val i ρ) {t : Nat} (ht : t ∈ nm ops as i) : VR σ g (ρ (.tmp t)) (a.tmps.getD t undef) := by
  by_cases hl : s0.t.length ≤ t
  · rw [hr.far t ht hl]
    have : a.tmps.getD t undef = undef := by
      rw [Array.getD_eq_getD_getElem?, Array.getElem?_eq_none (by rw [I.asz]; exact hl)]; rfl
    rw [this]
    exact .tuple [] [] .nil
  · have hlt : t < s0.t.length := by omega
    by_cases hk : ∃ k, k < as.length ∧ (as.getD k vf).dst = some t ∧ bits (Region.before ops).toList i k = true
    · obtain ⟨k, hkl, hd, hbk⟩ := hk
      rw [hr.new t ht k hkl hd hbk hlt]
      exact (I.tmpD t hlt).1 k (hb k hbk) hd
    · have hno : ∀ k, k < as.length → (as.getD k vf).dst = some t → bits (Region.before ops).toList i k = false := by
        intro k hkl hd
        cases hq : bits (Region.before ops).toList i k with
        | false => rfl
        | true => exact absurd ⟨k, hkl, hd, hq⟩ hk
      rw [hr.old t ht hno]
      refine (I.tmpD t hlt).2 fun k hDk hd => ?_
      have hkl := I.lt k (I.inD k hDk)
      rcases (S.pair hkl hi hd).2 ht with h | h
      · rw [hno k hkl hd] at h; cases h
      · exact hnD (I.closed k i hDk h)
theorem Inv.operand_VR (S : Stat P G ops as) (I : Inv call P G N ops as s0 σ0 g0 w0 D pre rest seen s sfin val hole σ g w a) {i : Nat} (hi : i < as.length) (hnD : ¬ D i) (hb : ∀ j, bits (Region.before ops).toList i j = true → D j)
    {ρ : Operand → Value} (hr : RelV ops as s0 val i ρ) {o : Oper} (ho : ops.toList.getD i default = o) {x : Operand} (hx : x ∈ o.op.operands) (hok : zbq G x = true) : VR σ g (ρ x) (a.eval x) := by
  cases x with
  | tmp t =>
    have ht : t ∈ nm ops as i := by
      unfold nm zeu
      rw [ho]
      refine List.mem_append.2 (.inl ?_)
      rw [List.mem_filterMap]
      exact ⟨.tmp t, Array.mem_toList_iff.2 hx, rfl⟩
    exact I.names_VR S hi hnD hb hr ht
  | const v => rw [hr.rest _ (fun t e => by cases e)]; exact .plain hok
  | global g' =>
    rw [hr.rest _ (fun t e => by cases e)]
    obtain ⟨vals, h1, h2, h3⟩ := I.mr.glob g' (by simpa [zbq] using hok)
    refine .ptr _ _ 0 vals 0 true rfl h1 (Nat.le_refl _) fun _ => ?_
    simp only
    rw [h2, h3]
  | func f => rw [hr.rest _ (fun t e => by cases e)]; exact .func _ [] [] [] [] .nil .nil
theorem Inv.wanted_eq (S : Stat P G ops as) (I : Inv call P G N ops as s0 σ0 g0 w0 D pre rest seen s sfin val hole σ g w a) {i : Nat} (hi : i < as.length) (hnD : ¬ D i) (hb : ∀ j, bits (Region.before ops).toList i j = true → D j)
    {ρ : Operand → Value} (hr : RelV ops as s0 val i ρ) {o : Oper} (hg : zd1 ops o.guard = some (as.getD i vf).guard) : Region.wanted o (yielded ops a.tmps) = zn7 ρ (as.getD i vf).guard := by
  unfold zd1 at hg
  unfold Region.wanted
  split at hg
  · rename_i hq
    simp only [Option.some.injEq] at hg
    rw [hq, ← hg]; rfl
  · rename_i j b hq
    split at hg
    · rename_i t ht
      simp only [Option.some.injEq] at hg
      rw [hq, ← hg]
      have hmem : t ∈ nm ops as i := by
        unfold nm zeu
        rw [← hg]
        exact List.mem_append.2 (.inr (by simp))
      have hvr := I.names_VR S hi hnD hb hr hmem
      simp only [yielded, ht, Option.bind_some, zn7]
      rw [Array.getD_eq_getD_getElem?] at hvr
      generalize ρ (.tmp t) = u at hvr
      cases hc : a.tmps[t]? with
      | none =>
        rw [hc] at hvr
        simp only [Option.getD_none] at hvr
        cases hvr
        rfl
      | some c =>
        rw [hc] at hvr
        simp only [Option.getD_some] at hvr
        cases hvr <;> first | rfl | (rename_i bb; cases bb <;> cases b <;> rfl)
    · cases hg
theorem Inv.tmpD_put (S : Stat P G ops as) (I : Inv call P G N ops as s0 σ0 g0 w0 D pre rest seen s sfin val hole σ g w a) {i : Nat} (hi : i < as.length) (hnD : ¬ D i) {σ' : Emb} {g' : Mem} (he : Ext σ g σ' g') {v cv : Value} (hv : VR σ' g' v cv)
    (val' : Nat → Value) (hvi : val' i = v) (hvo : ∀ k, D k → val' k = val k) :
    (a.put (as.getD i vf).dst cv).tmps.size = s0.t.length ∧
    ∀ t, t < s0.t.length → (∀ k, (D k ∨ k = i) → (as.getD k vf).dst = some t → VR σ' g' (val' k) ((a.put (as.getD i vf).dst cv).tmps.getD t undef)) ∧
      ((∀ k, (D k ∨ k = i) → (as.getD k vf).dst ≠ some t) → VR σ' g' (s0.t.getD t undef) ((a.put (as.getD i vf).dst cv).tmps.getD t undef)) := by
  have hput : ∀ t, t < s0.t.length → (a.put (as.getD i vf).dst cv).tmps.getD t undef = if (as.getD i vf).dst = some t then cv else a.tmps.getD t undef := by
    intro t ht
    cases hd : (as.getD i vf).dst with
    | none => simp [Act.put]
    | some u =>
      simp only [Act.put, Option.some.injEq]
      rw [Array.getD_eq_getD_getElem?, Array.getElem?_setIfInBounds]
      by_cases hut : u = t
      · subst hut
        rw [if_pos rfl, if_pos (by rw [I.asz]; exact ht), if_pos rfl]; rfl
      · rw [if_neg hut, if_neg hut, Array.getD_eq_getD_getElem?]
  refine ⟨by cases (as.getD i vf).dst <;> simp [Act.put, I.asz], fun t ht => ⟨fun k hk hd => ?_, fun hno => ?_⟩⟩
  · rw [hput t ht]
    rcases hk with hk | rfl
    · have hkl := I.lt k (I.inD k hk)
      have hne : (as.getD i vf).dst ≠ some t := fun h => hnD (by rw [← S.uniq hkl hi hd h]; exact hk)
      rw [if_neg hne, hvo k hk]
      exact ((I.tmpD t ht).1 k hk hd).ext he
    · rw [if_pos hd, hvi]; exact hv
  · rw [hput t ht, if_neg (hno i (.inr rfl))]
    exact ((I.tmpD t ht).2 fun k hk => hno k (.inl hk)).ext he
theorem Inv.step_pend (S : Stat P G ops as) (I : Inv call P G N ops as s0 σ0 g0 w0 D pre rest seen s sfin val hole σ g w a) {i : Nat} (hip : i ∈ pre) (hnD : ¬ D i) (hb : ∀ j, bits (Region.before ops).toList i j = true → D j)
    {K : Act → World → Prop} {Q : Exit → Act → World → Prop} (hK : ∀ σ' g' w' a', Inv call P G N ops as s0 σ0 g0 w0 (fun j => D j ∨ j = i) pre rest seen s sfin val hole σ' g' w' a' → K a' w') : wpOp P ops Q i K a w := by
  have hi := I.lt i hip
  obtain ⟨o, hoi, hno, hod⟩ := S.oper hi
  obtain ⟨hok, hop, hgd, hdst⟩ := zbv hno
  obtain ⟨ρ, hrel, hna, hp⟩ := I.pend i hip hnD
  have hops : ∀ x ∈ o.op.operands, VR σ g (ρ x) (a.eval x) := fun x hx => I.operand_VR S hi hnD hb hrel hod hx (hok x hx)
  have hcs : ∀ v, ρ (.const v) = v ∧ a.eval (.const v) = v := fun v => ⟨by rw [hrel.rest _ (fun t e => by cases e)]; rfl, rfl⟩
  have fin : ∀ (σ' : Emb) (g' : Mem) (w' : World) (cv : Value), Go N σ g w σ' g' w' → MR G N σ' g' w' → VR σ' g' (val i) cv → Sub g' s.h → (∀ j, g' j = grow g0 s0.h s.h j ∨ (g' j = none ∧ ∃ k ∈ pre, ¬ (D k ∨ k = i) ∧ hole k = some j)) →
      (∀ k ∈ pre, ¬ (D k ∨ k = i) → ∀ id, hole k = some id → g' id = none) → K (a.put o.dst cv) w' := by
    intro σ' g' w' cv hgo hmr hv hsub hgr hh
    rw [← hdst]
    obtain ⟨t1, t2⟩ := I.tmpD_put S hi hnD hgo.ext hv val rfl (fun _ _ => rfl)
    refine hK σ' g' w' _ ⟨t1, I.ssz, by rw [zgp]; exact I.dfr, hmr, hsub, I.go.trans hgo, I.holes, hgr, ?_, ?_, ?_, I.all, I.lt, I.marks, I.preclosed, I.order, I.weaved, ?_, t2, I.tmpC, ?_⟩
    · intro x hx y hy id hDx hDy h1 h2
      exact I.apart x hx y hy id (fun h => hDx (.inl h)) (fun h => hDy (.inl h)) h1 h2
    · rintro j (hj | rfl)
      · exact I.inD j hj
      · exact hip
    · rintro x y (hx | rfl) hxy
      · exact .inl (I.closed x y hx hxy)
      · exact .inl (hb y hxy)
    · intro x hx ha; exact .inl (I.actD x hx ha)
    · intro k hk hDk
      obtain ⟨ρ', r1, r2, r3⟩ := I.pend k hk (fun h => hDk (.inl h))
      refine ⟨ρ', r1, r2, ?_⟩
      cases hhk : hole k with
      | none => rw [hhk] at r3; exact r3
      | some id =>
        rw [hhk] at r3
        obtain ⟨q1, q2, q3⟩ := r3
        exact ⟨q1, hh k hk hDk id hhk, q3⟩
  have finStill : ∀ cv, VR σ g (val i) cv → hole i = none → K (a.put o.dst cv) w := by
    intro cv hv hhi
    refine fin σ g w cv (.refl _ _ _ _) I.mr hv I.sub (fun j => ?_) (fun k hk hDk id hhk => ?_)
    · rcases I.grows j with h | ⟨h, k, hk, hDk, hhk⟩
      · exact .inl h
      · refine .inr ⟨h, k, hk, fun hq => ?_, hhk⟩
        rcases hq with hq | rfl
        · exact hDk hq
        · rw [hhi] at hhk; cases hhk
    · obtain ⟨_, _, _, r3⟩ := I.pend k hk (fun h => hDk (.inl h))
      rw [hhk] at r3
      exact r3.2.1
  unfold wpOp
  rw [hoi]
  simp only
  rw [I.wanted_eq S hi hnD hb hrel hgd]
  cases hhi : hole i with
  | none =>
    rw [hhi] at hp
    simp only at hp
    by_cases hw : zn7 ρ (as.getD i vf).guard = true
    · rw [if_pos hw] at hp ⊢
      obtain ⟨hmk, hev, _⟩ := hp
      left
      obtain ⟨_, cv, hrun, hvr⟩ := zul call I.mr I.sub hop hna hmk hops hcs hev
      unfold Oper.wp
      rw [hrun]
      exact finStill cv hvr hhi
    · rw [if_neg hw] at hp ⊢
      exact finStill undef (by rw [hp]; exact .tuple [] [] .nil) hhi
  | some id =>
    rw [hhi] at hp
    obtain ⟨q1, q2, q3, q4, ob, q5, q6⟩ := hp
    rw [if_pos q3]
    left
    have hl : (List.replicate id AObj.gone).length = id := List.length_replicate
    obtain ⟨ob', e1, cv, w', hrun, σ', f1, f2, f3⟩ := zpx call (h := List.replicate id AObj.gone) I.mr (by rw [hl]; exact q2) hop q4 hops hcs (q6 _ hl)
    have hob : ob' = ob := by have := List.append_cancel_left e1; simpa using this.symm
    subst hob
    rw [hl] at f1 f2 f3
    unfold Oper.wp
    rw [hrun]
    refine fin σ' _ w' cv f1 f2 f3 ?_ (fun j => ?_) (fun k hk hDk id' hhk => ?_)
    · intro j x hj
      unfold upd at hj
      by_cases hji : j = id
      · subst hji; rw [if_pos rfl] at hj; cases hj; exact q5
      · rw [if_neg hji] at hj; exact I.sub j x hj
    · unfold upd
      by_cases hji : j = id
      · subst hji
        left
        rw [if_pos rfl]
        unfold grow
        rw [if_neg (by omega), q5]
      · rw [if_neg hji]
        rcases I.grows j with h | ⟨h, k, hk, hDk, hhk⟩
        · exact .inl h
        · refine .inr ⟨h, k, hk, fun hq => ?_, hhk⟩
          rcases hq with hq | rfl
          · exact hDk hq
          · rw [hhi] at hhk; cases hhk; exact hji rfl
    · have hne : id' ≠ id := by
        rintro rfl
        have := I.apart k hk i hip id' (fun h => hDk (.inl h)) hnD hhk hhi
        exact hDk (.inr this)
      unfold upd
      rw [if_neg hne]
      obtain ⟨_, _, _, r3⟩ := I.pend k hk (fun h => hDk (.inl h))
      rw [hhk] at r3
      exact r3.2.1
end Go.Proofs.YtljdbheclfaloaaGreatDoor.AM
namespace Go.Proofs.YtljdbheclfaloaaGreatDoor.AM
open Go.RowKit
set_option linter.unusedSimpArgs false
set_option linter.unusedVariables false
variable {call : qd} {P : Program} {G N : Nat} {ops : Array Oper} {as : List gq} {s0 : St} {σ0 : Emb} {g0 : Mem} {w0 : World} {D : Nat → Prop} {pre rest : List Nat} {seen : Nat} {s sfin : St} {val : Nat → Value} {hole : Nat → Option Nat}
  {σ : Emb} {g : Mem} {w : World} {a : Act}
theorem zjw (call : qd) : ∀ (l m : List gq) (s : St), fj call (l ++ m) s = (fj call l s).bind (fj call m)
  | [], m, s => rfl
  | o :: l, m, s => by
    simp only [List.cons_append, fj]
    cases zbw call o s with
    | none => rfl
    | some s1 => exact zjw call l m s1
theorem zju {bi : Nat} {s1 s2 : St} : ∀ (js : List Nat) (l : List gq), zsz ops.toList as (Region.before ops).toList bi js = some l → fj call l s1 = some s2 → s2 = s1 ∧
    ∀ j ∈ js, (as.getD j vf).op.reads = true → bi.testBit j = false → ∃ t ag, (as.getD j vf).dst = some t ∧ (as.getD j vf).op.againOf t = some ag ∧ (zjp s1 (as.getD j vf).guard = true → ∃ r, evOp call s1.eval s1.h ag = some r) ∧
      ∀ k, k < as.length → ∀ u, (as.getD k vf).dst = some u → u ∈ nm ops as j → bits (Region.before ops).toList j k = true
  | [], l, hl, he => by
    simp only [zsz, Option.some.injEq] at hl; subst hl
    simp only [fj, Option.some.injEq] at he
    exact ⟨he.symm, fun j hj => by simp at hj⟩
  | j :: js, l, hl, he => by
    unfold zsz at hl
    simp only at hl
    split at hl
    · rename_i hc
      split at hl
      · rename_i t l2 ht hl2
        split at hl
        · rename_i hall
          obtain ⟨ag, hag, rfl⟩ := yo hl
          simp only [fj] at he
          obtain ⟨s3, h3, h4⟩ := Option.bind_eq_some_iff.1 he
          have hstay : s3 = s1 ∧ (zjp s1 (as.getD j vf).guard = true → ∃ r, evOp call s1.eval s1.h ag = some r) := by
            unfold zbw at h3
            by_cases hw : zjp s1 (as.getD j vf).guard = true
            · rw [if_pos hw] at h3
              obtain ⟨r, hr, h5⟩ := yo h3
              refine ⟨?_, fun _ => ⟨r, hr⟩⟩
              have hrh : r.2 = s1.h := by
                cases hop : (as.getD j vf).op <;> rw [hop] at hag <;> simp only [AOp.againOf, reduceCtorEq, Option.some.injEq] at hag <;> subst hag <;> simp only [evOp] at hr <;> split at hr <;> (try cases hr) <;> split at hr <;> (try cases hr) <;> rfl
              rw [← h5]
              simp only [St.put, hrh]
            · rw [if_neg hw] at h3
              simp only [St.put, Option.some.injEq] at h3
              exact ⟨h3.symm, fun h => absurd h hw⟩
          obtain ⟨rfl, hw⟩ := hstay
          obtain ⟨rfl, hrest⟩ := zju js l2 hl2 h4
          refine ⟨rfl, fun k hk hr hb => ?_⟩
          rcases List.mem_cons.1 hk with rfl | hk
          · refine ⟨t, ag, ht, hag, hw, fun q hq u hu hm => ?_⟩
            rw [List.all_eq_true] at hall
            have := hall q (List.mem_range.2 hq)
            rw [hu] at this
            simp only [Bool.or_eq_true, Bool.not_eq_true'] at this
            rcases this with h | h
            · have hc2 : (zeu (ops.toList.getD k default) (as.getD k vf)).contains u = true := List.contains_iff_mem.2 hm
              rw [hc2] at h; cases h
            · exact h
          · exact hrest k hk hr hb
        · cases hl
      · cases hl
    · rename_i hc
      obtain ⟨rfl, hrest⟩ := zju js l hl he
      refine ⟨rfl, fun k hk hr hb => ?_⟩
      rcases List.mem_cons.1 hk with rfl | hk
      · rw [hr, hb] at hc; exact absurd rfl hc
      · exact hrest k hk hr hb
theorem Inv.step_act (S : Stat P G ops as) (hF : zcq P G N call) {e : Nat} {r : List Nat} (I : Inv call P G N ops as s0 σ0 g0 w0 D pre (e :: r) seen s sfin val hole σ g w a) (hacts : (as.getD e vf).op.acts = true)
    (hb : ∀ j, bits (Region.before ops).toList e j = true → D j) {K : Act → World → Prop} {Q : Exit → Act → World → Prop}
    (hK : ∀ s' val' σ' g' w' a', Inv call P G N ops as s0 σ0 g0 w0 (fun j => D j ∨ j = e) (pre ++ [e]) r (seen ||| 2 ^ e) s' sfin val' hole σ' g' w' a' → K a' w') : wpOp P ops Q e K a w := by
  obtain ⟨o1, o2, o3, o4, o5⟩ := fr I.order
  have hni : e ∉ pre := fun h => by rw [(I.marks e).2 h] at o1; cases o1
  have hbp : ∀ j, bits (Region.before ops).toList e j = true → j ∈ pre := fun j hj => (I.marks j).1 (o3 j hj)
  have hrel := I.relV S o2 hni hbp
  have hnD : ¬ D e := fun h => hni (I.inD e h)
  obtain ⟨m, hm, hev⟩ := I.weaved
  unfold zos at hm
  simp only [hacts, if_true] at hm
  cases hw1 : zsz ops.toList as (Region.before ops).toList ((Region.before ops).toList.getD e 0) pre with
  | none => rw [hw1] at hm; cases hm
  | some l =>
  cases hw2 : zos ops.toList as (Region.before ops).toList r (pre ++ [e]) with
  | none => rw [hw1, hw2] at hm; cases hm
  | some m2 =>
  rw [hw1, hw2] at hm
  simp only [Option.some.injEq] at hm
  subst hm
  simp only [fj] at hev
  obtain ⟨s1, hs1, hrun⟩ := Option.bind_eq_some_iff.1 hev
  rw [zjw] at hrun
  obtain ⟨s2, hs2, hrun2⟩ := Option.bind_eq_some_iff.1 hrun
  obtain ⟨rfl, hlooks⟩ := zju _ _ hw1 hs2
  obtain ⟨o, hoi, hno, hod⟩ := S.oper o2
  obtain ⟨hok, hop, hgd, hdst⟩ := zbv hno
  have hops : ∀ x ∈ o.op.operands, VR σ g (s.eval x) (a.eval x) := fun x hx => I.operand_VR S o2 hnD hb hrel hod hx (hok x hx)
  have hne : ∀ k ∈ pre, k ≠ e := fun k hk q => hni (q ▸ hk)
  have fin : ∀ (v : Value) (h1 : Heap) (σ' : Emb) (w' : World) (cv : Value), s2 = s.put (as.getD e vf).dst v h1 → Go N σ g w σ' (grow g s.h h1) w' → MR G N σ' (grow g s.h h1) w' → VR σ' (grow g s.h h1) v cv → Holes g s.h h1 → K (a.put o.dst cv) w' := by
    intro v h1 σ' w' cv hs2' hgo hmr hv hho
    rw [← hdst]
    have hh1 : s2.h = h1 := by rw [hs2', zyr]
    obtain ⟨t1, t2⟩ := I.tmpD_put S o2 hnD hgo.ext hv (fun j => if j = e then v else val j) (if_pos rfl) (fun k hk => if_neg (hne k (I.inD k hk)))
    have hput : ∀ t, s2.t.getD t undef = if (as.getD e vf).dst = some t ∧ t < s0.t.length then v else s.t.getD t undef := by
      intro t
      rw [hs2']
      cases hd : (as.getD e vf).dst with
      | none => simp [St.put]
      | some u =>
        simp only [St.put, Option.some.injEq]
        rw [List.getD_eq_getElem?_getD, List.getElem?_set]
        by_cases hut : u = t
        · subst hut
          by_cases hlt : u < s.t.length
          · rw [if_pos rfl, if_pos hlt, if_pos ⟨rfl, by rw [← I.ssz]; exact hlt⟩]; rfl
          · rw [if_pos rfl, if_neg hlt, if_neg (fun h => hlt (by rw [I.ssz]; exact h.2)), zh2 (by omega)]; rfl
        · rw [if_neg hut, if_neg (fun h => hut h.1), List.getD_eq_getElem?_getD]
    have hssz : s2.t.length = s0.t.length := by rw [hs2']; cases (as.getD e vf).dst <;> simp [St.put, I.ssz]
    have htC : ∀ t, (∀ k ∈ pre ++ [e], (as.getD k vf).dst = some t → t < s0.t.length → s2.t.getD t undef = (if k = e then v else val k)) ∧ ((∀ k ∈ pre ++ [e], (as.getD k vf).dst ≠ some t) → s2.t.getD t undef = s0.t.getD t undef) := by
      intro t
      constructor
      · intro k hk hd hlt
        rw [hput]
        simp only [List.mem_append, List.mem_singleton] at hk
        rcases hk with hk | rfl
        · rw [if_neg (hne k hk), if_neg (fun h => hne k hk (S.uniq (I.lt k hk) o2 hd h.1))]
          exact (I.tmpC t).1 k hk hd hlt
        · rw [if_pos rfl, if_pos ⟨hd, hlt⟩]
      · intro hno
        rw [hput, if_neg (fun h => hno e (by simp) h.1)]
        exact (I.tmpC t).2 fun k hk => hno k (by simp [hk])
    have hnone : ∀ i, i < s0.h.length → g0 i = none → g i = none := by
      intro i hi hg0
      rcases I.grows i with h | ⟨h, _⟩
      · rw [h]; unfold grow; rw [if_pos hi, hg0]
      · exact h
    refine hK s2 (fun j => if j = e then v else val j) σ' _ w' _ ⟨t1, hssz, by rw [zgp]; exact I.dfr, hmr, by rw [hh1]; exact zhy _ _ _, I.go.trans hgo, ?_, ?_, ?_, ?_, ?_, ?_, ?_, ?_, ?_, o5, ⟨m2, hw2, hrun2⟩, ?_, t2, htC, ?_⟩
    · rw [hh1]
      refine ⟨Nat.le_trans I.holes.1 hho.1, fun i hi hg0 => ?_⟩
      rw [hho.2 i (Nat.lt_of_lt_of_le hi I.holes.1) (hnone i hi hg0), I.holes.2 i hi hg0]
    · intro j
      rw [hh1]
      have hle := I.holes.1
      by_cases hj : j < s.h.length
      · cases hgj : g j with
        | none =>
          have hg' : grow g s.h h1 j = none := by unfold grow; rw [if_pos hj, hgj]
          rcases I.grows j with h | ⟨_, k, hk, hDk, hhk⟩
          · left
            rw [hg']
            rw [hgj] at h
            unfold grow at h ⊢
            by_cases h0 : j < s0.h.length
            · rw [if_pos h0] at h ⊢
              cases hg0 : g0 j with
              | none => rfl
              | some x =>
                rw [hg0] at h
                simp only at h
                rw [List.getElem?_eq_getElem hj] at h; cases h
            · rw [if_neg h0] at h
              rw [List.getElem?_eq_getElem hj] at h; cases h
          · right
            exact ⟨hg', k, by simp [hk], fun q => by rcases q with q | q; exact hDk q; exact hne k hk q, hhk⟩
        | some x =>
          left
          have hg' : grow g s.h h1 j = h1[j]? := by unfold grow; rw [if_pos hj, hgj]
          rw [hg']
          rcases I.grows j with h | ⟨h, _⟩
          · rw [hgj] at h
            unfold grow at h ⊢
            by_cases h0 : j < s0.h.length
            · rw [if_pos h0] at h ⊢
              cases hg0 : g0 j with
              | none => rw [hg0] at h; cases h
              | some y => rfl
            · rw [if_neg h0]
          · rw [hgj] at h; cases h
      · left
        unfold grow
        rw [if_neg hj, if_neg (by omega)]
    · intro x hx y hy id hDx hDy h1 h2
      simp only [List.mem_append, List.mem_singleton] at hx hy
      rcases hx with hx | rfl
      · rcases hy with hy | rfl
        · exact I.apart x hx y hy id (fun h => hDx (.inl h)) (fun h => hDy (.inl h)) h1 h2
        · exact absurd (.inr rfl) hDy
      · exact absurd (.inr rfl) hDx
    · rintro j (hj | rfl)
      · exact List.mem_append.2 (.inl (I.inD j hj))
      · simp
    · rintro x y (hx | rfl) hxy
      · exact .inl (I.closed x y hx hxy)
      · exact .inl (hb y hxy)
    · intro j hj
      rcases I.all j hj with h | h
      · exact .inl (List.mem_append.2 (.inl h))
      · rcases List.mem_cons.1 h with rfl | h
        · exact .inl (by simp)
        · exact .inr h
    · intro j hj
      rcases List.mem_append.1 hj with h | h
      · exact I.lt j h
      · rw [List.mem_singleton.1 h]; exact o2
    · intro j
      rw [testBit_or_two, I.marks j, List.mem_append, List.mem_singleton]
    · intro j hj k hk
      rcases List.mem_append.1 hj with h | h
      · exact List.mem_append.2 (.inl (I.preclosed j h k hk))
      · rw [List.mem_singleton.1 h] at hk; exact List.mem_append.2 (.inl (hbp k hk))
    · intro j hj ha
      rcases List.mem_append.1 hj with h | h
      · exact .inl (I.actD j h ha)
      · exact .inr (List.mem_singleton.1 h)
    · intro k hk hDk
      have hkp : k ∈ pre := by
        rcases List.mem_append.1 hk with h | h
        · exact h
        · exact absurd (.inr (List.mem_singleton.1 h)) hDk
      have hnDk : ¬ D k := fun h => hDk (.inl h)
      obtain ⟨ρ, r1, r2, r3⟩ := I.pend k hkp hnDk
      have hbk : bits (Region.before ops).toList k e = false := by
        cases hq : bits (Region.before ops).toList k e with
        | false => rfl
        | true => exact absurd (I.preclosed k hkp e hq) hni
      have hbe : bits (Region.before ops).toList e k = false := by
        cases hq : bits (Region.before ops).toList e k with
        | false => rfl
        | true => exact absurd (hb k hq) hnDk
      refine ⟨ρ, r1.upd v hbk, r2, ?_⟩
      simp only [if_neg (hne k hkp)]
      rw [hh1]
      cases hhk : hole k with
      | some id =>
        rw [hhk] at r3
        simp only at r3 ⊢
        obtain ⟨q1, q2, q3, q4, ob, q5, q6⟩ := r3
        have hlt := (List.getElem?_eq_some_iff.1 q5).1
        exact ⟨q1, by unfold grow; rw [if_pos hlt, q2], q3, q4, ob, by rw [hho.2 id hlt q2]; exact q5, q6⟩
      | none =>
        rw [hhk] at r3
        simp only at r3 ⊢
        split at r3
        · rename_i hwr
          rw [if_pos hwr]
          obtain ⟨q1, q2, q3⟩ := r3
          refine ⟨q1, ?_, q3⟩
          cases hrd : (as.getD k vf).op.reads with
          | false => exact q3 hrd _
          | true =>
            obtain ⟨t, ag, l1, l2, l3, l4⟩ := hlooks k hkp hrd hbe
            have hname : ∀ u ∈ nm ops as k, s2.t.getD u undef = ρ (.tmp u) := by
              intro u hu
              by_cases hfar : s0.t.length ≤ u
              · rw [r1.far u hu hfar, zh2 (by rw [hssz]; exact hfar)]
              · by_cases hwx : ∃ q, q < as.length ∧ (as.getD q vf).dst = some u
                · obtain ⟨q, hq, hd⟩ := hwx
                  have hbq := l4 q hq u hd hu
                  have hqp := I.preclosed k hkp q hbq
                  rw [(htC u).1 q (by simp [hqp]) hd (by omega), if_neg (hne q hqp), r1.new u hu q hq hd hbq (by omega)]
                · have hno : ∀ q, q < as.length → (as.getD q vf).dst = some u → False := fun q hq hd => hwx ⟨q, hq, hd⟩
                  rw [(htC u).2 (fun q hq hd => hno q (by rcases List.mem_append.1 hq with h | h; exact I.lt q h; rw [List.mem_singleton.1 h]; exact o2) hd), r1.old u hu (fun q hq hd => (hno q hq hd).elim)]
            have hopd : ∀ x ∈ (ops.toList.getD k default).op.operands, s2.eval x = ρ x := by
              intro x hx
              cases x with
              | tmp u =>
                refine hname u ?_
                unfold nm zeu
                refine List.mem_append.2 (.inl ?_)
                rw [List.mem_filterMap]
                exact ⟨.tmp u, Array.mem_toList_iff.2 hx, rfl⟩
              | const c => rw [r1.rest _ (fun t e => by cases e)]; rfl
              | global c => rw [r1.rest _ (fun t e => by cases e)]; rfl
              | func c => rw [r1.rest _ (fun t e => by cases e)]; rfl
            have hwants : zjp s2 (as.getD k vf).guard = true := by
              rw [ze3]
              unfold zn7 at hwr ⊢
              cases hgk : (as.getD k vf).guard with
              | none => rfl
              | some p =>
                obtain ⟨u, bb⟩ := p
                rw [hgk] at hwr
                simp only at hwr ⊢
                have : s2.eval (.tmp u) = ρ (.tmp u) := hname u (by unfold nm zeu; rw [hgk]; exact List.mem_append.2 (.inr (by simp)))
                rw [this]; exact hwr
            obtain ⟨res, hres⟩ := l3 hwants
            rw [hh1] at hres
            obtain ⟨ok', _, hno', hod'⟩ := S.oper (I.lt k hkp)
            obtain ⟨_, hop', _, _⟩ := zbv hno'
            have htv : zmr (s2.eval (.tmp t)) = false → s2.eval (.tmp t) = val k := by
              intro hnt
              by_cases hlt : t < s0.t.length
              · have := (htC t).1 k (by simp [hkp]) l1 hlt
                rw [if_neg (hne k hkp)] at this
                exact this
              · have : s2.eval (.tmp t) = undef := zh2 (by rw [hssz]; omega)
                rw [this] at hnt; simp [undef, zmr] at hnt
            have hload : ∀ x, ((∃ t, (ops.toList.getD k default).op = .load t x)) → s2.eval x = ρ x := by
              rintro x ⟨t, ht⟩
              exact hopd x (by rw [ht]; simp [Op.operands])
            have hsrc : ∀ x, ((as.getD k vf).op = .load1 x ∨ ∃ n, (as.getD k vf).op = .load n x) → ∃ t, (ops.toList.getD k default).op = .load t x := by
              intro x hx
              rw [hod'] at *
              exact zx7 hop' hx
            cases hopk : (as.getD k vf).op <;> rw [hopk] at l2 <;> simp only [AOp.againOf, reduceCtorEq, Option.some.injEq] at l2
            case load1 x =>
              subst l2
              have hx := hload x (hsrc x (.inl hopk))
              simp only [evOp] at hres ⊢
              rw [hx] at hres
              split at hres
              · split at hres
                · rename_i hc
                  rw [hc.1, htv hc.2]; rfl
                · cases hres
              · cases hres
            case load n x =>
              subst l2
              have hx := hload x (hsrc x (.inr ⟨n, hopk⟩))
              simp only [evOp] at hres ⊢
              rw [hx] at hres
              split at hres
              · split at hres
                · rename_i hc
                  have h5 := hc.1
                  rw [htv hc.2] at h5
                  obtain ⟨ll, hll, hagg⟩ := yo h5
                  rw [hll, ← hagg]; rfl
                · cases hres
              · cases hres
        · rename_i hwr
          rw [if_neg hwr]; exact r3
  unfold wpOp
  rw [hoi]
  simp only
  rw [I.wanted_eq S o2 hnD hb hrel hgd, ← ze3]
  unfold zbw at hs1
  by_cases hw : zjp s (as.getD e vf).guard = true
  · rw [if_pos hw] at hs1 ⊢
    obtain ⟨⟨v, h1⟩, hv, hs2'⟩ := yo hs1
    left
    refine yfy hF I.mr I.sub hop hops (fun v => rfl) (fun f => rfl) hv fun cv w' hd => ?_
    obtain ⟨σ', d1, d2, d3, d4⟩ := hd
    exact fin v h1 σ' w' cv hs2'.symm d1 d2 d3 d4
  · rw [if_neg hw] at hs1 ⊢
    simp only [Option.some.injEq] at hs1
    refine fin undef s.h σ w undef hs1.symm ?_ ?_ (.tuple [] [] .nil) (.refl _ _) <;> rw [zdv I.sub]
    · exact .refl _ _ _ _
    · exact I.mr
end Go.Proofs.YtljdbheclfaloaaGreatDoor.AM
namespace Go.Proofs.YtljdbheclfaloaaGreatDoor.AM
open Go.RowKit
set_option linter.unusedSimpArgs false
set_option linter.unusedVariables false
variable {P : Program} {G N : Nat} {σ : Emb} {g : Mem} {w : World} {h : Heap}
def yd7 : AEx → Exit
  | .normal => .normal
  | .exit id => .exit id
  | .ret => .ret
def zku (P : Program) (G : Nat) (ords : List (Nat × List Nat)) (id : Nat) (ops : Array Oper) (d : Bool) : Prop :=
  ∀ (N : Nat) (call : qd), zcq P G N call → ∀ l, zgl P G (ords.lookup id) ops d = some l → ∀ (σ : Emb) (g : Mem) (w : World) (s s' : St) (a : Act) (Q : Exit → Act → World → Prop),
    MR G N σ g w → Sub g s.h → VRs σ g s.t a.tmps.toList → a.defers = [] → fj call l s = some s' → (∀ a' w', To G N σ g w s.h s' a' w' → Q .normal a' w') → (Code.region id ops d).wp P Q a w
theorem zqb (ords : List (Nat × List Nat)) (id : Nat) (ops : Array Oper) : zku P G ords id ops false := by
  intro N call hF l hn σ g w s s' a Q hm hs hv hd he hq
  unfold zgl at hn
  split at hn
  · cases hn
  · rename_i as has
    simp only [Bool.false_eq_true, if_false, Option.some.injEq] at hn
    subst hn
    refine wp_region ?_
    rw [List.range_eq_range']
    exact zy0 hF has ops.size 0 σ g w s s' a (by omega) hm hs hv hd (by simpa using he) hq
def zuc (P : Program) (G : Nat) (F : Funcs) (n : Nat) : Prop :=
  ∀ (N : Nat) (c : Code) (ords : List (Nat × List Nat)) (ac : pv), zbm P G ords c = some ac → ∀ (s s' : St) (x : AEx), evC F n ac s = some (x, s') → ∀ (σ : Emb) (g : Mem) (w : World) (a : Act) (Q : Exit → Act → World → Prop),
    MR G N σ g w → Sub g s.h → VRs σ g s.t a.tmps.toList → a.defers = [] → (∀ a' w', To G N σ g w s.h s' a' w' → Q (yd7 x) a' w') → c.wp P Q a w
theorem ztc {F : Funcs} {c : Code} {ords : List (Nat × List Nat)} {ac : pv} (hn : zbm P G ords c = some ac) (n : Nat) (ih : ∀ m, m ≤ n → zuc P G F m) : ∀ m, m ≤ n + 1 →
    ∀ (N : Nat) (s s' : St) (x : AEx), evC F m (.loop ac) s = some (x, s') → ∀ (σ : Emb) (g : Mem) (w : World) (a : Act) (Q : Exit → Act → World → Prop),
    MR G N σ g w → Sub g s.h → VRs σ g s.t a.tmps.toList → a.defers = [] → (∀ a' w', To G N σ g w s.h s' a' w' → Q (yd7 x) a' w') → Code.rounds P c Q m a w := by
  intro m
  induction m with
  | zero => intro _ N s s' x he; simp [evC] at he
  | succ m ihm =>
    intro hle N s s' x he σ g w a Q hm hs hv hd hq
    rw [evC] at he
    rw [rounds_succ]
    cases hx : evC F m ac s with
    | none => rw [hx] at he; cases he
    | some p =>
      obtain ⟨y, s1⟩ := p
      rw [hx] at he
      refine ih m (by omega) N c ords ac hn s s1 y hx σ g w a _ hm hs hv hd fun a' w' hto => ?_
      cases y with
      | normal =>
        obtain ⟨σ1, g1, m1, v1, hh1, d1⟩ := hto
        exact ihm (by omega) N s1 s' x he σ1 _ w' a' Q m1 (zhy _ _ _) v1 d1 fun a2 w2 ht => hq a2 w2 (To.trans (a₁ := a') hm hs g1 hh1 ht)
      | exit id => simp only [Option.some.injEq, Prod.mk.injEq] at he; obtain ⟨rfl, rfl⟩ := he; exact hq a' w' hto
      | ret => simp only [Option.some.injEq, Prod.mk.injEq] at he; obtain ⟨rfl, rfl⟩ := he; exact hq a' w' hto
theorem yai (hreg : ∀ ords id ops, zku P G ords id ops true) (F : Funcs) (n : Nat) (hF : ∀ N, zcq P G N (evF F n)) (ihs : ∀ m, m ≤ n → zuc P G F m) : zuc P G F (n + 1) := by
  have ih := ihs n (Nat.le_refl _)
  intro N c
  intro ords ac hn s s' x he σ g w a Q hm hs hv hd hq
  cases c <;> simp only [zbm, reduceCtorEq] at hn
  case skip =>
    simp only [Option.some.injEq] at hn; subst hn
    simp only [evC, Option.some.injEq, Prod.mk.injEq] at he
    obtain ⟨rfl, rfl⟩ := he
    exact wp_skip (hq _ _ (To.refl hm hs hv hd))
  case region id ops d =>
    obtain ⟨l, hl, rfl⟩ := yo hn
    simp only [evC] at he
    obtain ⟨s1, h1, h2⟩ := yo he
    simp only [Prod.mk.injEq] at h2
    obtain ⟨rfl, rfl⟩ := h2
    cases d with
    | false => exact zqb ords id ops N _ (hF N) l hl σ g w s s1 a Q hm hs hv hd h1 hq
    | true => exact hreg ords id ops N _ (hF N) l hl σ g w s s1 a Q hm hs hv hd h1 hq
  case seq c1 c2 =>
    split at hn
    · rename_i a1 a2 h1 h2
      simp only [Option.some.injEq] at hn; subst hn
      rw [evC] at he
      refine wp_seq ?_
      cases hx : evC F n a1 s with
      | none => rw [hx] at he; cases he
      | some p =>
        obtain ⟨y, s1⟩ := p
        rw [hx] at he
        refine ih N c1 ords a1 h1 s s1 y hx σ g w a _ hm hs hv hd fun a' w' hto => ?_
        cases y with
        | normal =>
          obtain ⟨σ1, g1, m1, v1, hh1, d1⟩ := hto
          show c2.wp P Q a' w'
          exact ih N c2 ords a2 h2 s1 s' x he σ1 _ w' a' Q m1 (zhy _ _ _) v1 d1 fun a2 w2 ht => hq a2 w2 (To.trans (a₁ := a') hm hs g1 hh1 ht)
        | exit id => simp only [Option.some.injEq, Prod.mk.injEq] at he; obtain ⟨rfl, rfl⟩ := he; exact hq a' w' hto
        | ret => simp only [Option.some.injEq, Prod.mk.injEq] at he; obtain ⟨rfl, rfl⟩ := he; exact hq a' w' hto
    · cases hn
  case cond o c1 c2 =>
    split at hn
    · rename_i a1 a2 h1 h2
      by_cases hok : zbq G o = true
      case neg => rw [if_neg hok] at hn; cases hn
      rw [if_pos hok] at hn
      simp only [Option.some.injEq] at hn; subst hn
      rw [evC] at he
      have hov := zyb hm hv (x := o) hok
      split at he
      · rename_i ho
        rw [ho] at hov
        exact wp_cond_true hov.bool_inv (ih N c1 ords a1 h1 s s' x he σ g w a Q hm hs hv hd hq)
      · rename_i ho
        rw [ho] at hov
        exact wp_cond_false hov.bool_inv (ih N c2 ords a2 h2 s s' x he σ g w a Q hm hs hv hd hq)
      · cases he
    · cases hn
  case block id c1 =>
    obtain ⟨a1, h1, rfl⟩ := yo hn
    rw [evC] at he
    refine wp_block ?_
    cases hx : evC F n a1 s with
    | none => rw [hx] at he; cases he
    | some p =>
      obtain ⟨y, s1⟩ := p
      rw [hx] at he
      refine ih N c1 ords a1 h1 s s1 y hx σ g w a _ hm hs hv hd fun a' w' hto => ?_
      cases y with
      | normal => simp only [Option.some.injEq, Prod.mk.injEq] at he; obtain ⟨rfl, rfl⟩ := he; exact hq a' w' hto
      | ret => simp only [Option.some.injEq, Prod.mk.injEq] at he; obtain ⟨rfl, rfl⟩ := he; exact hq a' w' hto
      | exit j =>
        simp only [Option.some.injEq, Prod.mk.injEq] at he
        obtain ⟨rfl, rfl⟩ := he
        have h2 := hq a' w' hto
        show (if j = id then Q .normal a' w' else Q (.exit j) a' w')
        by_cases hj : j = id
        · rw [if_pos hj] at h2 ⊢; exact h2
        · rw [if_neg hj] at h2 ⊢; exact h2
  case loop c1 =>
    obtain ⟨a1, h1, rfl⟩ := yo hn
    rw [evC] at he
    exact wp_loop_rounds (n + 1) (ztc h1 n ihs (n + 1) (Nat.le_refl _) N s s' x (by rw [evC]; exact he) σ g w a Q hm hs hv hd hq)
  case exit id =>
    simp only [Option.some.injEq] at hn; subst hn
    simp only [evC, Option.some.injEq, Prod.mk.injEq] at he
    obtain ⟨rfl, rfl⟩ := he
    exact wp_exit (hq _ _ (To.refl hm hs hv hd))
  case ret =>
    simp only [Option.some.injEq] at hn; subst hn
    simp only [evC, Option.some.injEq, Prod.mk.injEq] at he
    obtain ⟨rfl, rfl⟩ := he
    exact wp_ret (hq _ _ (To.refl hm hs hv hd))
end Go.Proofs.YtljdbheclfaloaaGreatDoor.AM
namespace Go.Proofs.YtljdbheclfaloaaGreatDoor.AM
open Go.RowKit
set_option linter.unusedSimpArgs false
set_option linter.unusedVariables false
variable {call : qd} {P : Program} {G N : Nat} {ops : Array Oper} {as : List gq} {s0 : St} {σ0 : Emb} {g0 : Mem} {w0 : World} {D : Nat → Prop} {pre rest : List Nat} {seen : Nat} {s sfin : St} {val : Nat → Value} {hole : Nat → Option Nat}
  {σ : Emb} {g : Mem} {w : World} {a : Act}
theorem zux {p q : Nat → Bool} : ∀ {l : List Nat} {i : Nat}, i ∈ l → (∀ x, q x = true → p x = true) → p i = true → q i = false → (l.filter q).length < (l.filter p).length
  | x :: l, i, hi, hqp, hp, hq => by
    have hle : ∀ l : List Nat, (l.filter q).length ≤ (l.filter p).length := by
      intro l
      induction l with
      | nil => simp
      | cons y l ih =>
        cases hqy : q y with
        | true => rw [List.filter_cons_of_pos hqy, List.filter_cons_of_pos (hqp y hqy)]; simpa using ih
        | false =>
          rw [List.filter_cons_of_neg (by simp [hqy])]
          cases hpy : p y with
          | true => rw [List.filter_cons_of_pos hpy]; simp only [List.length_cons]; omega
          | false => rw [List.filter_cons_of_neg (by simp [hpy])]; exact ih
    rcases List.mem_cons.1 hi with rfl | hi
    · rw [List.filter_cons_of_pos hp, List.filter_cons_of_neg (by simp [hq])]
      have := hle l
      simp only [List.length_cons]; omega
    · have ih := zux hi hqp hp hq
      cases hqx : q x with
      | true => rw [List.filter_cons_of_pos hqx, List.filter_cons_of_pos (hqp x hqx)]; simpa using ih
      | false =>
        rw [List.filter_cons_of_neg (by simp [hqx])]
        cases hpx : p x with
        | true => rw [List.filter_cons_of_pos hpx]; simp only [List.length_cons]; omega
        | false => rw [List.filter_cons_of_neg (by simp [hpx])]; exact ih
theorem zp0 {b : List Nat} : ∀ (rest : List Nat) (seen : Nat), zds as b rest seen = true → (∀ i, seen.testBit i = true → D i) → (∀ i, i < as.length → (∀ j, bits b i j = true → D j) → D i) → ∀ i ∈ rest, D i
  | [], seen, h, hs, hr, i, hi => by simp at hi
  | k :: r, seen, h, hs, hr, i, hi => by
    obtain ⟨o1, o2, o3, o4, o5⟩ := fr h
    have hk : D k := hr k o2 fun j hj => hs j (o3 j hj)
    rcases List.mem_cons.1 hi with rfl | hi
    · exact hk
    · refine zp0 r _ o5 (fun j hj => ?_) hr i hi
      rcases testBit_or_two.1 hj with h | rfl
      · exact hs j h
      · exact hk
theorem Inv.done (S : Stat P G ops as) (I : Inv call P G N ops as s0 σ0 g0 w0 D pre rest seen s sfin val hole σ g w a) (hall : ∀ i, i < as.length → D i) : To G N σ0 g0 w0 s0.h sfin a w := by
  have hrest : rest = [] := by
    cases rest with
    | nil => rfl
    | cons e r =>
      obtain ⟨o1, o2, _⟩ := fr I.order
      have := (I.marks e).2 (I.inD e (hall e o2))
      rw [this] at o1; cases o1
  subst hrest
  obtain ⟨m, hm, hev⟩ := I.weaved
  simp only [zos, Option.some.injEq] at hm
  subst hm
  simp only [fj, Option.some.injEq] at hev
  subst hev
  have hg : g = grow g0 s0.h s.h := by
    funext j
    rcases I.grows j with h | ⟨_, k, hk, hDk, _⟩
    · exact h
    · exact absurd (hall k (I.lt k hk)) hDk
  refine ⟨σ, ?_, ?_, ?_, I.holes, I.dfr⟩ <;> rw [← hg]
  · exact I.go
  · exact I.mr
  · refine .of_get (by rw [I.ssz]; simp [I.asz]) fun t u c hu hc => ?_
    have hlt : t < s0.t.length := by rw [← I.ssz]; exact (List.getElem?_eq_some_iff.1 hu).1
    have e1 : s.t.getD t undef = u := by rw [List.getD_eq_getElem?_getD, hu]; rfl
    have e2 : a.tmps.getD t undef = c := by
      rw [Array.getD_eq_getD_getElem?]
      have : a.tmps[t]? = some c := by simpa using hc
      rw [this]; rfl
    rw [← e1, ← e2]
    by_cases hk : ∃ k, k < as.length ∧ (as.getD k vf).dst = some t
    · obtain ⟨k, hkl, hd⟩ := hk
      rw [(I.tmpC t).1 k (I.inD k (hall k hkl)) hd hlt]
      exact (I.tmpD t hlt).1 k (hall k hkl) hd
    · rw [(I.tmpC t).2 fun k hk' hd => hk ⟨k, I.lt k hk', hd⟩]
      exact (I.tmpD t hlt).2 fun k hDk hd => hk ⟨k, I.lt k (I.inD k hDk), hd⟩
theorem zjc {listed : Array Bool} {i : Nat} (hi : i < listed.size) : (fun j => (listed.setIfInBounds i true).getD j false = true) = fun j => listed.getD j false = true ∨ j = i := by
  funext j
  apply propext
  rw [Array.getD_eq_getD_getElem?, Array.getElem?_setIfInBounds, Array.getD_eq_getD_getElem?]
  by_cases h : i = j
  · subst h; rw [if_pos rfl, if_pos hi]; simp
  · rw [if_neg h]
    exact ⟨.inl, fun q => q.resolve_right fun e => h e.symm⟩
theorem zle {listed : Array Bool} (hsz : listed.size = ops.size) {i : Nat} : i ∈ Region.ready .any ops listed ↔ ∃ o, ops[i]? = some o ∧ ¬ listed.getD i false = true ∧ ∀ e ∈ o.after, Region.binds .any e = true → listed.getD e.on false = true := by
  unfold Region.ready
  rw [List.mem_filter, List.mem_range]
  constructor
  · rintro ⟨hlt, h⟩
    rw [Bool.and_eq_true] at h
    obtain ⟨h1, h2⟩ := h
    have hl : i < listed.size := by omega
    refine ⟨ops[i], by simp [hlt], ?_, ?_⟩
    · rw [Array.getD_eq_getD_getElem?] at h1 ⊢
      simp [hl] at h1 ⊢
      exact h1
    · have he1 : ops[i]? = some ops[i] := by simp [hlt]
      rw [he1] at h2
      simp only [Option.map_some, Option.getD_some] at h2
      intro e he hb
      have := Array.all_eq_true'.1 h2 e he
      rw [hb] at this
      simpa using this
  · rintro ⟨o, ho, h1, h2⟩
    have hlt : i < ops.size := (Array.getElem?_eq_some_iff.1 ho).1
    have hl : i < listed.size := by omega
    refine ⟨hlt, ?_⟩
    rw [Bool.and_eq_true]
    constructor
    · rw [Array.getD_eq_getD_getElem?] at h1 ⊢
      simp [hl] at h1 ⊢
      exact h1
    · rw [ho]
      simp only [Option.map_some, Option.getD_some]
      rw [Array.all_eq_true_iff_forall_mem]
      intro e he
      cases hb : Region.binds .any e with
      | false => rfl
      | true => rw [h2 e he hb]; rfl
theorem zzh (S : Stat P G ops as) (hF : zcq P G N call) {ord : List Nat} (hord : zds as (Region.before ops).toList ord 0 = true) (hcov : ∀ i, i < as.length → i ∈ ord) {Q : Exit → Act → World → Prop} (hQ : ∀ a' w', To G N σ0 g0 w0 s0.h sfin a' w' → Q .normal a' w') :
    ∀ (fuel : Nat) (listed : Array Bool) (pre rest : List Nat) (seen : Nat) (s : St) (val : Nat → Value) (hole : Nat → Option Nat) (σ : Emb) (g : Mem) (w : World) (a : Act), listed.size = ops.size →
      ((List.range as.length).filter fun i => !listed.getD i false).length ≤ fuel → Inv call P G N ops as s0 σ0 g0 w0 (fun i => listed.getD i false = true) pre rest seen s sfin val hole σ g w a → (rest = [] ∨ ∃ e r, rest = e :: r ∧ (as.getD e vf).op.acts = true) →
      wpAny P .any ops Q fuel listed a w := by
  have allD : ∀ (listed : Array Bool), listed.size = ops.size → Region.ready .any ops listed = [] → ∀ i, i < as.length → listed.getD i false = true := by
    intro listed hsz hr i hi
    refine zp0 (D := fun i => listed.getD i false = true) ord 0 hord (fun j hj => by simp at hj) (fun k hk hb => ?_) i (hcov i hi)
    by_cases hk' : listed.getD k false = true
    · exact hk'
    · exfalso
      obtain ⟨o, ho, _⟩ := S.oper hk
      have : k ∈ Region.ready .any ops listed := (zle hsz).2 ⟨o, ho, hk', fun e he hbe => hb _ ((zl2 ho).1 e he hbe)⟩
      rw [hr] at this; simp at this
  intro fuel
  induction fuel with
  | zero =>
    intro listed pre rest seen s val hole σ g w a hsz hc I hh
    have hall : ∀ i, i < as.length → listed.getD i false = true := by
      intro i hi
      have h0 : ((List.range as.length).filter fun i => !listed.getD i false) = [] := List.length_eq_zero_iff.1 (by omega)
      have := List.filter_eq_nil_iff.1 h0 i (List.mem_range.2 hi)
      simpa using this
    refine ⟨?_, hQ _ _ (I.done S hall)⟩
    cases hr : Region.ready .any ops listed with
    | nil => rfl
    | cons i r =>
      have hi : i ∈ Region.ready .any ops listed := by rw [hr]; simp
      obtain ⟨o, ho, h1, _⟩ := (zle hsz).1 hi
      exact absurd (hall i (by rw [S.len]; exact (Array.getElem?_eq_some_iff.1 ho).1)) h1
  | succ fuel ih =>
    intro listed pre rest seen s val hole σ g w a hsz hc I hh
    refine ⟨fun hr => hQ _ _ (I.done S (allD listed hsz hr)), fun i hi => ?_⟩
    obtain ⟨o, ho, hnD, hedges⟩ := (zle hsz).1 hi
    have hin : i < as.length := by rw [S.len]; exact (Array.getElem?_eq_some_iff.1 ho).1
    have hls : i < listed.size := by rw [hsz]; exact (Array.getElem?_eq_some_iff.1 ho).1
    have hb : ∀ j, bits (Region.before ops).toList i j = true → listed.getD j false = true := by
      intro j hj
      obtain ⟨e, he, hbe, h⟩ := (zl2 ho).2 j hj
      rcases h with rfl | h
      · exact hedges e he hbe
      · exact I.closed _ _ (hedges e he hbe) h
    have hcount : ((List.range as.length).filter fun k => !(listed.setIfInBounds i true).getD k false).length ≤ fuel := by
      have := zux (p := fun k => !listed.getD k false) (q := fun k => !(listed.setIfInBounds i true).getD k false) (List.mem_range.2 hin) (fun x hx => by
        cases hq : listed.getD x false with
        | false => rfl
        | true =>
          have h2 : (listed.setIfInBounds i true).getD x false = true := by
            have := congrFun (zjc hls) x
            rw [this]; exact .inl hq
          rw [h2] at hx; cases hx) (by simpa using hnD) (by
        have h2 : (listed.setIfInBounds i true).getD i false = true := by
          have := congrFun (zjc hls) i
          rw [this]; exact .inr rfl
        rw [h2]; rfl)
      omega
    have hset := zjc hls
    by_cases hacts : (as.getD i vf).op.acts = true
    · -- it is the next one
      have hip : i ∉ pre := fun h => hnD (I.actD i h hacts)
      have hir : i ∈ rest := (I.all i hin).resolve_left hip
      rcases hh with rfl | ⟨e, r, rfl, he⟩
      · simp at hir
      · obtain ⟨o1, o2, o3, o4, o5⟩ := fr I.order
        have hie : i = e := by
          rcases o4 he i hin with h | h | h
          · exact absurd ((I.marks i).1 h) hip
          · exact h
          · have := (I.marks e).2 (I.inD e (hb e h)); rw [this] at o1; cases o1
        subst hie
        refine I.step_act S hF hacts hb fun s' val' σ' g' w' a' I' => ?_
        rw [← hset] at I'
        obtain ⟨pre2, rest2, seen2, s2, val2, hole2, I2, hh2⟩ := Inv.advance S _ _ _ _ _ _ I'
        exact ih _ pre2 rest2 seen2 s2 val2 hole2 σ' g' w' a' (by simpa using hsz) hcount I2 hh2
    · have hip : i ∈ pre := by
        rcases I.all i hin with h | h
        · exact h
        · exfalso
          rcases hh with rfl | ⟨e, r, rfl, he⟩
          · simp at h
          · obtain ⟨o1, o2, o3, o4, o5⟩ := fr I.order
            have hne : i ≠ e := by rintro rfl; exact hacts he
            rcases o4 he i hin with h1 | h1 | h1
            · exact hnD ((by
                have hpi := (I.marks i).1 h1
                exact absurd hpi (by
                  intro hpi
                  have hrp : i ∈ e :: r := h
                  have hmem : ∀ (l : List Nat) (sn : Nat), zds as (Region.before ops).toList l sn = true → ∀ x ∈ l, sn.testBit x = false := by
                    intro l
                    induction l with
                    | nil => intro sn _ x hx; simp at hx
                    | cons y l ihl =>
                      intro sn hsn x hx
                      obtain ⟨p1, p2, p3, p4, p5⟩ := fr hsn
                      rcases List.mem_cons.1 hx with rfl | hx
                      · exact p1
                      · have := ihl _ p5 x hx
                        cases hq : sn.testBit x with
                        | false => rfl
                        | true => rw [testBit_or_two.2 (.inl hq)] at this; cases this
                  have := hmem _ _ I.order i hrp
                  rw [h1] at this; cases this)))
            · exact hne h1
            · have := (I.marks e).2 (I.inD e (hb e h1)); rw [this] at o1; cases o1
      refine I.step_pend S hip hnD hb fun σ' g' w' a' I' => ?_
      rw [← hset] at I'
      exact ih _ pre rest seen s val hole σ' g' w' a' (by simpa using hsz) hcount I' hh
theorem zte (hm : P.follows .mixedOrders = true) (ords : List (Nat × List Nat)) (id : Nat) (ops : Array Oper) : zku P G ords id ops true := by
  intro N call hF l hn σ g w s s' a Q hmr hs hv hd he hq
  unfold zgl at hn
  split at hn
  · cases hn
  · rename_i as has
    simp only [if_true] at hn
    split at hn
    · rename_i hcond
      simp only [Bool.and_eq_true] at hcond
      obtain ⟨⟨⟨hp, hg⟩, hlen⟩, hord⟩ := hcond
      have S : Stat P G ops as := ⟨has, hp, hg⟩
      let ord := (ords.lookup id).getD (List.range as.length)
      have hord : zds as (Region.before ops).toList ord 0 = true := hord
      have hn : zos ops.toList as (Region.before ops).toList ord [] = some l := hn
      have hcov : ∀ i, i < as.length → i ∈ ord := by
        intro i hi
        have := List.all_eq_true.1 hlen i (List.mem_range.2 hi)
        simpa using this
      refine wp_region_any hm ?_
      have hmr' : MR G N σ g { w with drawn := w.drawn + 1 } := hmr.drew
      have hgo : Go N σ g w σ g { w with drawn := w.drawn + 1 } := ⟨.refl _ _, Nat.le_refl _, rfl, rfl, rfl, fun _ _ _ => rfl, fun _ h => .inl h⟩
      have hnl : ∀ i, ¬ (Array.replicate ops.size false).getD i false = true := by
        intro i
        rw [Array.getD_eq_getD_getElem?, Array.getElem?_replicate]
        split <;> simp
      have I0 : Inv call P G N ops as s σ g w (fun i => (Array.replicate ops.size false).getD i false = true) [] ord 0 s s' (fun _ => undef) (fun _ => none) σ g { w with drawn := w.drawn + 1 } a := by
        refine ⟨by rw [hv.length]; simp, rfl, hd, hmr', hs, hgo, .refl _ _, fun i => .inl (by rw [zdv hs]), fun i hi => by simp at hi, fun i hi => absurd hi (hnl i), fun i j hi => absurd hi (hnl i), fun i hi => .inr (hcov i hi), fun i hi => by simp at hi,
          fun i => by simp, fun i hi => by simp at hi, hord, ⟨l, hn, he⟩, fun i hi => by simp at hi, fun t ht => ⟨fun k hk => absurd hk (hnl k), fun _ => ?_⟩, fun t => ⟨fun k hk => by simp at hk, fun _ => rfl⟩, fun i hi => by simp at hi⟩
        have := hv.getD t
        rw [show a.tmps.getD t undef = a.tmps.toList.getD t undef from by simp [Array.getD_eq_getD_getElem?, List.getD_eq_getElem?_getD]]
        exact this
      obtain ⟨pre2, rest2, seen2, s2, val2, hole2, I2, hh2⟩ := Inv.advance S _ _ _ _ _ _ I0
      exact zzh S hF hord hcov hq ops.size _ pre2 rest2 seen2 s2 val2 hole2 σ g _ a (by simp) (by
        refine Nat.le_trans (List.length_filter_le _ _) ?_
        rw [List.length_range, S.len]; exact Nat.le_refl _) I2 hh2
    · cases hn
end Go.Proofs.YtljdbheclfaloaaGreatDoor.AM
namespace Go.Proofs.YtljdbheclfaloaaGreatDoor.AM
open Go.RowKit
set_option linter.unusedSimpArgs false
set_option linter.unusedVariables false
variable {P : Program} {G N : Nat} {σ : Emb} {g : Mem} {w : World} {h : Heap}
mutual
theorem VR.back {σ' : Emb} {g' g2 : Mem} (hsame : ∀ i o, g i = some o → g2 i = some o ∧ g' i = some o) {u c c' : Value} : VR σ g u c → VR σ' g' u c' → VR σ' g2 u c'
  | .bool b, .bool _ => .bool b
  | .int k n, .int _ _ => .int k n
  | .float k n, .float _ _ => .float k n
  | .complex k n m, .complex _ _ _ => .complex k n m
  | .string s, .string _ => .string s
  | .nilPtr, .nilPtr => .nilPtr
  | .ptr p q v vals ver ro hv hg hle hq, .ptr _ q' v' vals' ver' ro' hv' hg' hle' hq' => by
    obtain ⟨h2, h1⟩ := hsame _ _ hg
    rw [h1] at hg'; cases hg'
    exact .ptr p q' v' vals ver ro hv' h2 hle' hq'
  | .nilSlice, .nilSlice => .nilSlice
  | .slice p q n c cap v vals ver ro hv hg hle hn hq, .slice _ q' _ _ cap' v' vals' ver' ro' hv' hg' hle' hn' hq' => by
    obtain ⟨h2, h1⟩ := hsame _ _ hg
    rw [h1] at hg'; cases hg'
    exact .slice p q' n c cap' v' vals ver ro hv' h2 hle' hn' hq'
  | .nilMap, .nilMap => .nilMap
  | .map r s es hg hs, .map _ s' es' hg' hs' => by
    obtain ⟨h2, h1⟩ := hsame _ _ hg
    rw [h1] at hg'; cases hg'
    exact .map r s' es h2 hs'
  | .nilChan, .nilChan => .nilChan
  | .any k _, .any _ q' => .any k q'
  | .func fn xs ys us vs h h', .func _ _ ys' _ vs' k k' => .func fn xs ys' us vs' (VRs.back hsame h k) (VRs.back hsame h' k')
  | .nilFunc, .nilFunc => .nilFunc
  | .iface t u c h, .iface _ _ c' k => .iface t u c' (VR.back hsame h k)
  | .nilIface, .nilIface => .nilIface
  | .agg xs ys h h1, .agg _ ys' k k1 => .agg xs ys' (VRs.back hsame h k) h1
  | .tuple xs ys h, .tuple _ ys' k => .tuple xs ys' (VRs.back hsame h k)
theorem VRs.back {σ' : Emb} {g' g2 : Mem} (hsame : ∀ i o, g i = some o → g2 i = some o ∧ g' i = some o) {us cs cs' : List Value} : VRs σ g us cs → VRs σ' g' us cs' → VRs σ' g2 us cs'
  | .nil, .nil => .nil
  | .cons u c us cs h hs, .cons _ c' _ cs' k ks => .cons u c' us cs' (VR.back hsame h k) (VRs.back hsame hs ks)
end
theorem EntriesR.back {σ' : Emb} {g' g2 : Mem} (hsame : ∀ i o, g i = some o → g2 i = some o ∧ g' i = some o) {es : List (Value × Value)} {ms ms' : List MapEntry} (h : EntriesR σ g es ms) (h' : EntriesR σ' g' es ms') : EntriesR σ' g2 es ms' := by
  induction h generalizing ms' with
  | nil => cases h'; exact .nil
  | cons e m es ms he _ ih =>
    cases h' with
    | cons _ m' _ ms' he' hs' => exact .cons _ _ _ _ ⟨he'.key, he'.plain, he.val.back hsame he'.val⟩ (ih hs')
theorem zry (hm : MR G N σ g w) (hs : Sub g h) {v cv : Value} {h' : Heap} {w' : World} (hd : Done G N σ g w h v h' cv w') (hf : flat v = true) (hp : h'.take h.length = h) : Done G N σ g w h v h cv w' := by
  obtain ⟨σ', hgo, hm', hv, hh⟩ := hd
  have hcv : cv = v := by
    have key1 : ∀ {σ : Emb} {g : Mem} {u c : Value}, plain1 u = true → VR σ g u c → c = u := by
      intro σ g u c hu hr
      cases hr <;> first | rfl | simp [plain1] at hu
    have keys : ∀ {σ : Emb} {g : Mem} (us cs : List Value), us.all plain1 = true → VRs σ g us cs → cs = us := by
      intro σ g us
      induction us with
      | nil => intro cs _ hr; cases hr; rfl
      | cons u us ih =>
        intro cs hu hr
        cases hr with
        | cons _ c _ cs h hs =>
          simp only [List.all_cons, Bool.and_eq_true] at hu
          rw [key1 hu.1 h, ih _ hu.2 hs]
    have key2 : ∀ {σ : Emb} {g : Mem} {u c : Value}, plain u = true → VR σ g u c → c = u := by
      intro σ g u c hu hr
      unfold plain at hu
      split at hu
      · rename_i cs
        cases hr with
        | agg xs ys h h1 => rw [keys _ _ hu h]
      · exact key1 hu hr
    have keys2 : ∀ {σ : Emb} {g : Mem} (us cs : List Value), us.all plain = true → VRs σ g us cs → cs = us := by
      intro σ g us
      induction us with
      | nil => intro cs _ hr; cases hr; rfl
      | cons u us ih =>
        intro cs hu hr
        cases hr with
        | cons _ c _ cs h hs =>
          simp only [List.all_cons, Bool.and_eq_true] at hu
          rw [key2 hu.1 h, ih _ hu.2 hs]
    unfold flat at hf
    split at hf
    · rename_i cs
      cases hv with
      | tuple xs ys h => rw [keys2 _ _ hf h]
    · exact key2 hf hv
  subst hcv
  have hsame : ∀ i o, g i = some o → g i = some o ∧ grow g h h' i = some o := by
    intro i o hi
    refine ⟨hi, ?_⟩
    have hlt : i < h.length := (List.getElem?_eq_some_iff.1 (hs _ _ hi)).1
    unfold grow
    rw [if_pos hlt, hi]
    simp only
    have : h'[i]? = (h'.take h.length)[i]? := by rw [List.getElem?_take, if_pos hlt]
    rw [this, hp]; exact hs _ _ hi
  have hseat : ∀ i o, g i = some o → o ≠ .gone → σ' i = σ i := by
    intro i o hi hng
    have h2 := (hsame i o hi).2
    cases o with
    | cells vals ver ro =>
      obtain ⟨vals', ver', h3, _, h5⟩ := hgo.ext.cells _ _ _ _ hi
      rw [h2] at h3; cases h3
      exact h5 rfl
    | map es =>
      obtain ⟨es', h3, h4⟩ := hgo.ext.map _ _ hi
      exact h4
    | gone => exact absurd rfl hng
  have hng : ∀ i o, g i = some o → o ≠ .gone := by
    rintro i o hi rfl
    exact hm.noGone i hi
  have hext : Ext σ' g σ g := by
    constructor
    · intro i vals ver ro hi; exact ⟨vals, ver, hi, Nat.le_refl _, fun _ => (hseat i _ hi (hng i _ hi)).symm⟩
    · intro i es hi; exact ⟨es, hi, (hseat i _ hi (hng i _ hi)).symm⟩
  refine ⟨σ, ?_, ?_, .flat hf, .refl _ _⟩ <;> rw [zdv hs]
  · refine ⟨.refl _ _, hgo.size, hgo.os, hgo.tape, hgo.output, hgo.rest, fun b hb => .inl hb⟩
  · refine ⟨fun i o hi => ?_, hm.inj, hm.glob, Nat.le_trans hm.size hgo.size⟩
    have h1 := hm'.obj i o (hsame i o hi).2
    have h0 := hm.obj i o hi
    rw [hseat i o hi (hng i o hi)] at h1
    cases h1 with
    | own vals cs ver el hb h00 hw hsz hv hl h1 =>
      cases h0 with
      | own _ cs0 _ el0 hb0 h000 hw0 hs0 hv0 hl0 h10 => exact .own vals cs ver el hb h00 hw hsz ((hv0.back hsame hv).ext hext) hl h1
    | ro vals hb hv h1 =>
      cases h0 with
      | ro _ hb0 hv0 h10 =>
        refine .ro vals hb (fun j u hu => ?_) h1
        obtain ⟨c, hc, hvr⟩ := hv j u hu
        obtain ⟨c0, _, hvr0⟩ := hv0 j u hu
        exact ⟨c, hc, (hvr0.back hsame hvr).ext hext⟩
    | map es ms clock hb hw he =>
      cases h0 with
      | map _ ms0 clock0 hb0 hw0 he0 => exact .map es ms clock hb hw ((he0.back hsame he).ext hext)
def zm5 (tm : Array Value) : ResultVar → Sem Value
  | .tmp i => pure (tm.getD i undef)
  | .cell a ty => do loadVar ty (← asAddr (tm.getD a undef))
theorem zvw (fn : Func) (tm : Array Value) : results fn tm = (do
    let vs ← fn.results.mapM (zm5 tm)
    pure (if h : vs.size = 1 then vs[0] else .tuple vs)) := by
  unfold results
  congr 1
theorem zsi (hm : MR G N σ g w) (hs : Sub g h) {fn : Func} {rs : List ARes} (hn : gu P fn.results.toList = some rs) {t : List Value} {tm : Array Value} (hv : VRs σ g t tm.toList) {v : Value} (he : f8 ⟨t, h⟩ rs = some v) :
    ∃ cv, (results fn tm).run P w = .ok cv w ∧ VR σ g v cv := by
  have tmp : ∀ i, VR σ g (t.getD i undef) (tm.getD i undef) := by
    intro i
    have := hv.getD i
    rw [show tm.getD i undef = tm.toList.getD i undef from by simp [Array.getD_eq_getD_getElem?, List.getD_eq_getElem?_getD]]
    exact this
  have one : ∀ (r : ResultVar) (a : ARes) (u : Value), gu P [r] = some [a] → aRes ⟨t, h⟩ a = some u →
      ∃ cu, (zm5 tm r).run P w = .ok cu w ∧ VR σ g u cu := by
    intro r a u hr ha
    cases r with
    | tmp i =>
      simp only [gu, Option.map_some, Option.some.injEq, List.cons.injEq, and_true] at hr
      subst hr
      simp only [aRes, Option.some.injEq] at ha
      subst ha
      exact ⟨_, rfl, tmp i⟩
    | cell x ty =>
      have hx := tmp x
      unfold gu at hr
      cases hag : aggT P ty with
      | none => rw [hag] at hr; simp [gu] at hr
      | some b =>
        cases hz : gk P ty with
        | none => rw [hag, hz] at hr; cases b <;> simp [gu] at hr
        | some n =>
          rw [hag, hz] at hr
          cases b <;> simp only [gu, Option.some.injEq, List.cons.injEq, and_true] at hr <;> subst hr <;> simp only [aRes] at ha <;> split at ha <;> (try cases ha)
          · rename_i p hp
            rw [hp] at hx
            obtain ⟨q, hq⟩ := hx.ptr_inv
            obtain ⟨cv, hrun, hvr⟩ := zlh (P := P) hm hs hag hx ha
            refine ⟨cv, ?_, hvr⟩
            rw [hq] at hrun
            simp only [zm5]
            rw [hq]
            simpa [Instr.loadAt, Instr.sureAddr, asAddr] using hrun
          · rename_i p hp
            rw [hp] at hx
            obtain ⟨q, hq⟩ := hx.ptr_inv
            obtain ⟨l, hl, rfl⟩ := yo ha
            obtain ⟨cv, hrun, hvr⟩ := zns (P := P) hm hs hag hz hx hl
            refine ⟨cv, ?_, hvr⟩
            rw [hq] at hrun
            simp only [zm5]
            rw [hq]
            simpa [Instr.loadAt, Instr.sureAddr, asAddr] using hrun
  have many : ∀ (l : List ResultVar) (as : List ARes) (us : List Value), gu P l = some as → as.mapM (aRes ⟨t, h⟩) = some us →
      ∃ cus, (l.mapM (zm5 tm) : Sem (List Value)).run P w = .ok cus w ∧ VRs σ g us cus := by
    intro l
    induction l with
    | nil =>
      intro as us hl hus
      simp only [gu, Option.some.injEq] at hl; subst hl
      simp at hus; subst hus
      exact ⟨[], rfl, .nil⟩
    | cons r l ih =>
      intro as us hl hus
      obtain ⟨a, as', rfl, h1, h2⟩ : ∃ a as', as = a :: as' ∧ gu P [r] = some [a] ∧ gu P l = some as' := by
        cases r with
        | tmp i =>
          simp only [gu] at hl
          obtain ⟨as', h1, rfl⟩ := yo hl
          exact ⟨_, _, rfl, rfl, h1⟩
        | cell x ty =>
          unfold gu at hl
          split at hl
          · rename_i n as' h1 h2 h3
            simp only [Option.some.injEq] at hl; subst hl
            exact ⟨_, _, rfl, by simp [gu, h1, h2], h3⟩
          · rename_i n as' h1 h2 h3
            simp only [Option.some.injEq] at hl; subst hl
            exact ⟨_, _, rfl, by simp [gu, h1, h2], h3⟩
          · cases hl
      rw [List.mapM_cons] at hus
      simp only [bind, Option.bind_eq_some_iff, pure, Option.some.injEq] at hus
      obtain ⟨u, hu, us', hus', rfl⟩ := hus
      obtain ⟨cu, hrun, hvr⟩ := one r a u h1 hu
      obtain ⟨cus, hruns, hvrs⟩ := ih as' us' h2 hus'
      refine ⟨cu :: cus, ?_, .cons _ _ _ _ hvr hvrs⟩
      rw [List.mapM_cons]
      simp only [Sem.run_bind, hrun, Result.andThen_ok, hruns, Sem.run_pure]
  have hlen : ∀ (l : List ResultVar) (as : List ARes), gu P l = some as → as.length = l.length := by
    intro l
    induction l with
    | nil => intro as h; simp only [gu, Option.some.injEq] at h; subst h; rfl
    | cons r l ih =>
      intro as h
      cases r with
      | tmp i => simp only [gu] at h; obtain ⟨as', h1, rfl⟩ := yo h; simp [ih _ h1]
      | cell x ty =>
        unfold gu at h
        split at h
        · rename_i h3; simp only [Option.some.injEq] at h; subst h; simp [ih _ h3]
        · rename_i h3; simp only [Option.some.injEq] at h; subst h; simp [ih _ h3]
        · cases h
  have hvs : ∃ us cus, rs.mapM (aRes ⟨t, h⟩) = some us ∧ (fn.results.toList.mapM (zm5 tm) : Sem (List Value)).run P w = .ok cus w ∧
      VRs σ g us cus ∧ v = (if us.length = 1 then us.getD 0 undef else tup us) ∧ us.length = rs.length := by
    unfold f8 at he
    split at he
    · rename_i r
      have hus : [r].mapM (aRes ⟨t, h⟩) = some [v] := by simp [he]
      obtain ⟨cus, h1, h2⟩ := many _ _ _ hn hus
      exact ⟨[v], cus, hus, h1, h2, by simp, rfl⟩
    · rename_i hne
      obtain ⟨us, hus, rfl⟩ := yo he
      obtain ⟨cus, h1, h2⟩ := many _ _ _ hn hus
      have hl : us.length = rs.length := by
        have : ∀ (rs : List ARes) (us : List Value), rs.mapM (aRes ⟨t, h⟩) = some us → us.length = rs.length := by
          intro rs
          induction rs with
          | nil => intro us h; simp at h; subst h; rfl
          | cons r rs ih =>
            intro us h
            rw [List.mapM_cons] at h
            simp only [bind, Option.bind_eq_some_iff, pure, Option.some.injEq] at h
            obtain ⟨u, _, us', hus', rfl⟩ := h
            simp [ih _ hus']
        exact this _ _ hus
      refine ⟨us, cus, hus, h1, h2, ?_, hl⟩
      rw [if_neg]
      rw [hl]
      intro h1'
      obtain ⟨r, hr⟩ := List.length_eq_one_iff.1 h1'
      exact hne r hr
  obtain ⟨us, cus, _, hrun, hvrs, rfl, _⟩ := hvs
  have hcl := hvrs.length
  refine ⟨if cus.length = 1 then cus.getD 0 undef else .tuple ⟨cus⟩, ?_, ?_⟩
  · rw [zvw, Array.mapM_eq_mapM_toList]
    simp only [Sem.run_bind, Sem.run_map, hrun, Result.andThen_ok, Sem.run_pure]
    congr 1
    have hsz : (List.toArray cus).size = cus.length := rfl
    by_cases h1 : cus.length = 1
    · rw [dif_pos (by rw [hsz]; exact h1), if_pos h1]
      obtain ⟨c, rfl⟩ := List.length_eq_one_iff.1 h1
      rfl
    · rw [dif_neg (by rw [hsz]; exact h1), if_neg h1]
  · rw [hcl]
    by_cases h1 : cus.length = 1
    · rw [if_pos h1, if_pos h1]; exact hvrs.getD 0
    · rw [if_neg h1, if_neg h1]; exact .tuple _ _ hvrs
def yb9 (P : Program) (G : Nat) (F : Funcs) : Prop := (∀ f fn, F f = some fn → ∃ pf ords, P.funcs[f]? = some pf ∧ zkq P G ords pf = some fn ∧ pf.name ≠ "runtime.NumGoroutine") ∧ ∀ N, zcq P G N F.ext
theorem yhb (hreg : ∀ ords id ops, zku P G ords id ops true) {F : Funcs} (hr : yb9 P G F) : ∀ n, (∀ N, zcq P G N (evF F n)) ∧ ∀ m, m ≤ n → zuc P G F m := by
  intro n
  induction n with
  | zero =>
    refine ⟨fun N f args h v h' he => by simp [evF] at he, fun m hm => ?_⟩
    obtain rfl : m = 0 := by omega
    intro N c ords ac hn s s' x he
    simp [evC] at he
  | succ n ih =>
    obtain ⟨ihf, ihc⟩ := ih
    refine ⟨fun N f args h v h' he σ g w cargs hs hm hv => ?_, fun m hm => ?_⟩
    · rw [evF] at he
      cases hf : F f with
      | none =>
        rw [hf] at he
        exact hr.2 N f args h v h' he σ g w cargs hs hm hv
      | some fn =>
        rw [hf] at he
        simp only at he
        obtain ⟨pf, ords, hpf, hnf, hname⟩ := hr.1 f fn hf
        unfold zkq at hnf
        split at hnf
        · rename_i b r hb hres
          simp only [Option.some.injEq] at hnf
          subst hnf
          obtain ⟨pb, hpb, hnb⟩ := Option.bind_eq_some_iff.1 hb
          refine ⟨by simp [zlj, hpf, hpb, hname], ?_⟩
          simp only at he
          have hal := hv.length
          have hv0 : VRs σ g (args ++ List.replicate (pf.ntmps - args.length) undef) (cargs ++ List.replicate (pf.ntmps - cargs.length) undef) := by
            rw [hal]
            exact hv.append (.replicate (.tuple [] [] .nil) _)
          refine calls_of_wp hpf hpb ?_
          have hact : ({ tmps := (⟨cargs⟩ : Array Value) ++ Array.replicate (pf.ntmps - (⟨cargs⟩ : Array Value).size) undef, defers := [] } : Act).tmps.toList = cargs ++ List.replicate (pf.ntmps - cargs.length) undef := by simp
          cases hc : evC F n b ⟨args ++ List.replicate (pf.ntmps - args.length) undef, h⟩ with
          | none => rw [hc] at he; cases he
          | some p =>
            obtain ⟨x, s⟩ := p
            rw [hc] at he
            refine ihc n (Nat.le_refl _) N pb ords b hnb ⟨args ++ List.replicate (pf.ntmps - args.length) undef, h⟩ s x hc σ g w _ _ hm hs (by rw [hact]; exact hv0) rfl fun a' w' hto => ?_
            obtain ⟨σ', hgo, hm', hv', hh, hd⟩ := hto
            have fin : (f8 s r).map (fun v => (v, finish h v s.h)) = some (v, h') → a'.defers = [] ∧ ∃ cv, (results pf a'.tmps).run P w' = .ok cv w' ∧ (∃ cv', Ending.returned cv = .returned cv' ∧ Done G N σ g w h v h' cv' w') := by
              intro he
              obtain ⟨v0, hv0, he⟩ := yo he
              simp only [Prod.mk.injEq] at he
              obtain ⟨rfl, rfl⟩ := he
              obtain ⟨cv, hrun, hvr⟩ := zsi (P := P) hm' (zhy _ _ _) hres hv' (show f8 ⟨s.t, s.h⟩ r = some v0 from hv0)
              refine ⟨hd, cv, hrun, cv, rfl, ?_⟩
              have hdone : Done G N σ g w h v0 s.h cv w' := ⟨σ', hgo, hm', hvr, hh⟩
              unfold finish
              split
              · rename_i hfl
                exact zry hm hs hdone hfl.1 hfl.2
              · exact hdone
            cases x with
            | normal => exact fin he
            | ret => exact fin he
            | exit id => cases he
        · cases hnf
    · by_cases hmn : m = n + 1
      · subst hmn
        exact yai hreg F n ihf ihc
      · exact ihc m (by omega)
end Go.Proofs.YtljdbheclfaloaaGreatDoor.AM
namespace Go.Proofs.YtljdbheclfaloaaGreatDoor.AM
open Go.RowKit
set_option linter.unusedSimpArgs false
set_option linter.unusedVariables false
variable {P : Program} {G N : Nat} {σ : Emb} {g : Mem} {w : World} {h : Heap}
theorem yg7 {F : Funcs} (hm : P.follows .mixedOrders = true) (hr : yb9 P G F) {f : FuncId} {args cargs : List Value} {h0 h' : Heap} {v : Value} (hd : DF F f args h0 = some (v, h')) (hf : plain1 v = true) (σ : Emb) (W : World)
    (mr : MR G W.heap.size σ (fun i => h0[i]?) W) (hv : VRs σ (fun i => h0[i]?) args cargs) (hro : ∀ o ∈ h0, owns o = false) :
    Calls P f ⟨cargs⟩ W fun e W' => e = .returned v ∧ Go.RowKit.Below W.heap.size W W' := by
  obtain ⟨n, hn⟩ := (zn1 F _ _ _ _).1 hd
  obtain ⟨_, hc⟩ := ((yhb (zte hm) hr n).1 W.heap.size) f args h0 v h' hn σ (fun i => h0[i]?) W cargs (fun i o h => h) mr hv
  refine hc.mono fun e W' ⟨cv, he, σ', hgo, hmr, hcv, hh⟩ => ?_
  have key1 : ∀ {σ : Emb} {g : Mem} {u c : Value}, plain1 u = true → VR σ g u c → c = u := by
    intro σ g u c hu hr
    cases hr <;> first | rfl | simp [plain1] at hu
  refine ⟨by rw [he, key1 hf hcv], hgo.os, hgo.tape, hgo.output, hgo.size, fun k hk => hgo.rest k hk ?_⟩
  rintro ⟨i, o, hi, ho, _⟩
  rw [hro o (List.mem_of_getElem? hi)] at ho
  cases ho
end Go.Proofs.YtljdbheclfaloaaGreatDoor.AM
