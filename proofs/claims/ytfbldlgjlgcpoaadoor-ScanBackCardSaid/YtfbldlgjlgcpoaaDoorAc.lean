/-
  AM, part 12: memory that is made: the model makes it too.
    Conditions: none.
-/
import Derived.Test.YtfbldlgjlgcpoaaDoorAb
import Derived.Orders
namespace Go.Proofs.YtfbldlgjlgcpoaaDoor.AM
open Go.RowKit

set_option linter.unusedSimpArgs false
set_option linter.unusedVariables false
variable {P : Program} {G N : Nat} {σ : Emb} {g : Mem} {w : World} {h : Heap}

/-- The memory behind a step, its holes as they were. -/
def grow (g : Mem) (h h' : Heap) : Mem := fun i => if i < h.length then (match g i with | none => none | some _ => h'[i]?) else h'[i]?
/-- What lies in the holes stays. -/
def Holes (g : Mem) (h h' : Heap) : Prop := h.length ≤ h'.length ∧ ∀ i, i < h.length → g i = none → h'[i]? = h[i]?

theorem sub_none (hs : Sub g h) {i : Nat} (hi : h.length ≤ i) : g i = none := by
  cases hg : g i with
  | none => rfl
  | some o =>
    have := hs i o hg
    rw [List.getElem?_eq_none hi] at this
    cases this
theorem grow_same (hs : Sub g h) : grow g h h = g := by
  funext i
  unfold grow
  cases hg : g i with
  | none =>
    split
    · rfl
    · rename_i hi; exact List.getElem?_eq_none (by omega)
  | some o => rw [hs i o hg]; split <;> rfl
theorem grow_sub (g : Mem) (h h' : Heap) : Sub (grow g h h') h' := by
  intro i o hi
  unfold grow at hi
  split at hi
  · split at hi
    · cases hi
    · exact hi
  · exact hi
theorem Holes.refl (g : Mem) (h : Heap) : Holes g h h := ⟨Nat.le_refl _, fun _ _ _ => rfl⟩
theorem grow_trans {h₁ h₂ h₃ : Heap} (h12 : Holes g h₁ h₂) (he : ∀ i, i < h₁.length → g i ≠ none → h₂[i]? ≠ none) : grow (grow g h₁ h₂) h₂ h₃ = grow g h₁ h₃ := by
  funext i
  have hl := h12.1
  unfold grow
  by_cases h1 : i < h₁.length
  · have h2 : i < h₂.length := by omega
    simp only [if_pos h1, if_pos h2]
    cases hg : g i with
    | none => rfl
    | some o =>
      simp only
      have := he i h1 (by rw [hg]; simp)
      cases h3 : h₂[i]? with
      | none => exact absurd h3 this
      | some q => rfl
  · simp only [if_neg h1]
    by_cases h2 : i < h₂.length
    · rw [if_pos h2, List.getElem?_eq_getElem h2]
    · rw [if_neg h2]
theorem Holes.trans {h₁ h₂ h₃ : Heap} (a : Holes g h₁ h₂) (b : Holes (grow g h₁ h₂) h₂ h₃) : Holes g h₁ h₃ := by
  refine ⟨Nat.le_trans a.1 b.1, fun i hi hg => ?_⟩
  rw [b.2 i (Nat.lt_of_lt_of_le hi a.1) (by unfold grow; rw [if_pos hi, hg]), a.2 i hi hg]

theorem ObjR.step {σ' : Emb} {g' : Mem} {w' : World} {s : Seat} {o : AObj} (he : Ext σ g σ' g') (hb : w'.heap[s.blk]? = w.heap[s.blk]?) (ho : ObjR N σ g w s o) : ObjR N σ' g' w' s o := by
  cases ho with
  | own vals cs ver el hb' h0 hw hs hv hl h1 => exact .own vals cs ver el hb' h0 (by rw [hb]; exact hw) hs (hv.ext he) hl h1
  | ro vals hb' hv h1 =>
    refine .ro vals hb' (fun i u hu => ?_) h1
    obtain ⟨c, hc, hvr⟩ := hv i u hu
    exact ⟨c, by rw [World.cell?_of_block (w := w) hb]; exact hc, hvr.ext he⟩
  | map es ms clock hb' hw he' => exact .map es ms clock hb' (by rw [hb]; exact hw) (he'.ext he)
theorem ObjR.lt {s : Seat} {o : AObj} (hm : N ≤ w.heap.size) (ho : ObjR N σ g w s o) : s.blk < w.heap.size := by
  cases ho with
  | own vals cs ver el hb' h0 hw hs hv hl h1 => exact (Array.getElem?_eq_some_iff.1 hw).1
  | ro vals hb' hv h1 => omega
  | map es ms clock hb' hw he' => exact (Array.getElem?_eq_some_iff.1 hw).1
theorem ObjR.owned {s : Seat} {o : AObj} (ho : ObjR N σ g w s o) : owns o = true ↔ N ≤ s.blk := by
  cases ho with
  | own vals cs ver el hb' h0 hw hs hv hl h1 => exact ⟨fun _ => hb', fun _ => rfl⟩
  | ro vals hb' hv h1 => exact ⟨fun h => by simp [owns] at h, fun h => by omega⟩
  | map es ms clock hb' hw he' => exact ⟨fun _ => hb', fun _ => rfl⟩

/-- A hole that is filled. -/
def upd (g : Mem) (id : Nat) (o : AObj) : Mem := fun i => if i = id then some o else g i
/-- A new object, and its block. -/
theorem fill_done (hm : MR G N σ g w) {id : Nat} (hid : g id = none) {obj : AObj} {blk : Obj} {sz : Nat} (hobj : ∀ σ' g' (w' : World), Ext σ g σ' g' → w'.heap[w.heap.size]? = some blk → ObjR N σ' g' w' ⟨w.heap.size, 0, sz⟩ obj) (hown : owns obj = true) :
    let σ' : Emb := fun i => if i = id then ⟨w.heap.size, 0, sz⟩ else σ i
    let w' : World := { w with heap := w.heap.push blk }
    Go N σ g w σ' (upd g id obj) w' ∧ MR G N σ' (upd g id obj) w' ∧ upd g id obj id = some obj ∧ σ' id = ⟨w.heap.size, 0, sz⟩ := by
  intro σ' w'
  have hg' : ∀ i, upd g id obj i = if i = id then some obj else g i := fun i => rfl
  have hold : ∀ i o, g i = some o → i ≠ id := fun i o hi e => by subst e; rw [hid] at hi; cases hi
  have hext : Ext σ g σ' (upd g id obj) := by
    constructor
    · intro i vals ver ro hi
      exact ⟨vals, ver, by rw [hg', if_neg (hold i _ hi)]; exact hi, Nat.le_refl _, fun _ => if_neg (hold i _ hi)⟩
    · intro i es hi
      exact ⟨es, by rw [hg', if_neg (hold i _ hi)]; exact hi, if_neg (hold i _ hi)⟩
  have hblk : ∀ b, b < w.heap.size → w'.heap[b]? = w.heap[b]? := by
    intro b hb
    show (w.heap.push blk)[b]? = _
    rw [Array.getElem?_push, if_neg (by omega)]
  have hnew : w'.heap[w.heap.size]? = some blk := by show (w.heap.push blk)[w.heap.size]? = _; simp
  have hsize : w'.heap.size = w.heap.size + 1 := by show (w.heap.push blk).size = _; simp
  have hself : σ' id = ⟨w.heap.size, 0, sz⟩ := if_pos rfl
  refine ⟨⟨hext, by omega, rfl, rfl, rfl, fun b hb _ => hblk b hb, ?_⟩, ⟨?_, ?_, ?_, ?_⟩, by rw [hg', if_pos rfl], hself⟩
  · rintro b ⟨i, o, hi, ho, hb⟩
    rw [hg'] at hi
    by_cases h1 : i = id
    · subst h1; rw [hself] at hb; exact .inr (by rw [← hb]; exact Nat.le_refl _)
    · rw [if_neg h1] at hi
      exact .inl ⟨i, o, hi, ho, by rw [← hb]; show (σ i).blk = (if i = id then _ else σ i : Seat).blk; rw [if_neg h1]⟩
  · intro i o hi
    rw [hg'] at hi
    by_cases h1 : i = id
    · subst h1
      rw [if_pos rfl] at hi; cases hi
      rw [hself]
      exact hobj σ' _ w' hext hnew
    · rw [if_neg h1] at hi
      have := hm.obj i o hi
      rw [show σ' i = σ i from if_neg h1]
      exact this.step hext (hblk _ (this.lt hm.size))
  · intro i j o p hi hj ho hp he
    rw [hg'] at hi hj
    by_cases h1 : i = id
    · by_cases h2 : j = id
      · rw [h1, h2]
      · rw [if_neg h2] at hj
        rw [h1, hself, show σ' j = σ j from if_neg h2] at he
        have := (hm.obj j p hj).lt hm.size
        simp only at he
        omega
    · rw [if_neg h1] at hi
      by_cases h2 : j = id
      · rw [h2, hself, show σ' i = σ i from if_neg h1] at he
        have := (hm.obj i o hi).lt hm.size
        simp only at he
        omega
      · rw [if_neg h2] at hj
        rw [show σ' i = σ i from if_neg h1, show σ' j = σ j from if_neg h2] at he
        exact hm.inj i j o p hi hj ho hp he
  · intro i hi
    obtain ⟨vals, h1, h2, h3⟩ := hm.glob i hi
    have hne := hold i _ h1
    exact ⟨vals, by rw [hg', if_neg hne]; exact h1, by rw [show σ' i = σ i from if_neg hne]; exact h2, by rw [show σ' i = σ i from if_neg hne]; exact h3⟩
  · have := hm.size; omega
theorem grow_append (hs : Sub g h) (obj : AObj) : grow g h (h ++ [obj]) = upd g h.length obj := by
  funext i
  unfold grow upd
  by_cases h1 : i < h.length
  · rw [if_pos h1, if_neg (by omega)]
    cases hg : g i with
    | none => rfl
    | some o => simp only; rw [List.getElem?_append_left h1]; exact hs i o hg
  · rw [if_neg h1]
    by_cases h2 : i = h.length
    · subst h2; simp
    · rw [if_neg h2, sub_none hs (by omega)]
      exact List.getElem?_eq_none (by simp; omega)
theorem make_done (hm : MR G N σ g w) (hs : Sub g h) {obj : AObj} {blk : Obj} {sz : Nat} (hobj : ∀ σ' g' (w' : World), Ext σ g σ' g' → w'.heap[w.heap.size]? = some blk → ObjR N σ' g' w' ⟨w.heap.size, 0, sz⟩ obj) (hown : owns obj = true) :
    let σ' : Emb := fun i => if i = h.length then ⟨w.heap.size, 0, sz⟩ else σ i
    let w' : World := { w with heap := w.heap.push blk }
    let g' := grow g h (h ++ [obj])
    Go N σ g w σ' g' w' ∧ MR G N σ' g' w' ∧ Holes g h (h ++ [obj]) ∧ g' h.length = some obj ∧ σ' h.length = ⟨w.heap.size, 0, sz⟩ := by
  intro σ' w' g'
  obtain ⟨h1, h2, h3, h4⟩ := fill_done hm (sub_none hs (Nat.le_refl h.length)) hobj hown
  have e : g' = upd g h.length obj := grow_append hs obj
  refine ⟨?_, ?_, ⟨by simp, fun i hi _ => List.getElem?_append_left hi⟩, ?_, h4⟩
  · rw [e]; exact h1
  · rw [e]; exact h2
  · rw [e]; exact h3

/-- What an operation comes to, and the memory behind it. -/
def Done (G N : Nat) (σ : Emb) (g : Mem) (w : World) (h : Heap) (v : Value) (h' : Heap) (cv : Value) (w' : World) : Prop :=
  ∃ σ', Go N σ g w σ' (grow g h h') w' ∧ MR G N σ' (grow g h h') w' ∧ VR σ' (grow g h h') v cv ∧ Holes g h h'
theorem Done.same (hm : MR G N σ g w) (hs : Sub g h) {v cv : Value} (hv : VR σ g v cv) : Done G N σ g w h v h cv w := by
  refine ⟨σ, ?_, ?_, ?_, .refl _ _⟩ <;> rw [grow_same hs]
  · exact .refl _ _ _ _
  · exact hm
  · exact hv

/-- A hole that is filled, and what answers it. -/
def Filled (G N : Nat) (σ : Emb) (g : Mem) (w : World) (id : Nat) (obj : AObj) (v cv : Value) (w' : World) : Prop :=
  ∃ σ', Go N σ g w σ' (upd g id obj) w' ∧ MR G N σ' (upd g id obj) w' ∧ VR σ' (upd g id obj) v cv
/-- A new row of cells. -/
theorem row_fill (hm : MR G N σ g w) {id : Nat} (hid : g id = none) {l cs : List Value} {el : TypeId} (hv : VRs σ g l cs) (h1 : ∀ x ∈ l, single x = true) :
    let w' : World := { w with heap := w.heap.push (.cells ⟨cs⟩ el) }
    Filled G N σ g w id (.cells l 0 false) (ptr id 0 0) (.pointer (some ⟨w.heap.size, 0, none⟩)) w' ∧
    ∀ n c, n * c ≤ cs.length → Filled G N σ g w id (.cells l 0 false) (slc id 0 0 n c) (.slice (some ⟨w.heap.size, 0, none⟩) n n) w' := by
  intro w'
  have hl := hv.length
  obtain ⟨h2, h3, h5, h6⟩ := fill_done hm hid (obj := .cells l 0 false) (blk := .cells ⟨cs⟩ el) (sz := cs.length)
    (fun σ' g' w' he hw => .own l cs 0 el (hm.size) rfl hw rfl (by rw [List.take_of_length_le (by omega)]; exact hv.ext he) (by omega) h1) rfl
  refine ⟨⟨_, h2, h3, .ptr _ _ 0 l 0 false rfl h5 (Nat.le_refl _) (fun _ => ?_)⟩, fun n c hn => ⟨_, h2, h3, .slice _ _ _ _ _ 0 l 0 false rfl h5 (Nat.le_refl _) (Nat.le_refl _) (fun _ => .inl ⟨?_, fun _ => ?_⟩)⟩⟩
  · simp only [if_pos]
  · simp only [if_pos]
  · simp only [if_pos]; omega
theorem zeros_length {z : List Value} : ∀ n, (zeros z n).length = n * z.length
  | 0 => by simp [zeros]
  | n + 1 => by simp [zeros, zeros_length n, Nat.add_mul]; omega
theorem zeros_get {z : List Value} : ∀ (n i : Nat), i < n * z.length → (zeros z n)[i]? = z[i % z.length]?
  | 0, i, h => by simp at h
  | n + 1, i, h => by
    simp only [zeros]
    by_cases h1 : i < z.length
    · rw [List.getElem?_append_left h1, Nat.mod_eq_of_lt h1]
    · rw [List.getElem?_append_right (by omega), zeros_get n (i - z.length) (by rw [Nat.add_mul] at h; omega), ← Nat.mod_eq_sub_mod (by omega)]
theorem zeros_model {z : List Value} (hz : 0 < z.length) (n m : Nat) (hm : m = n * z.length) : (Array.range m).map (fun i => (⟨z⟩ : Array Value)[i % (⟨z⟩ : Array Value).size]!) = ⟨zeros z n⟩ := by
  subst hm
  apply Array.ext'
  apply List.ext_getElem?
  intro i
  by_cases h : i < n * z.length
  · have hlt : i % z.length < z.length := Nat.mod_lt _ hz
    rw [show (⟨zeros z n⟩ : Array Value).toList = zeros z n from rfl, zeros_get n i h]
    simp [h, hlt]
  · rw [List.getElem?_eq_none (by simp; omega), List.getElem?_eq_none (by rw [show (⟨zeros z n⟩ : Array Value).toList = zeros z n from rfl, zeros_length]; omega)]
theorem zeros_plain {z : List Value} (h : z.all plain1 = true) : ∀ n, (zeros z n).all plain1 = true
  | 0 => rfl
  | n + 1 => by simp only [zeros, List.all_append, h, zeros_plain h n, Bool.and_true]
end Go.Proofs.YtfbldlgjlgcpoaaDoor.AM

namespace Go.Proofs.YtfbldlgjlgcpoaaDoor.AM
open Go.RowKit

set_option linter.unusedSimpArgs false
variable {P : Program} {G N : Nat} {σ : Emb} {g : Mem} {w : World} {h : Heap}

/-- The operation comes to a value in a world behind. -/
def Makes (P : Program) (G N : Nat) (σ : Emb) (g : Mem) (w : World) (h : Heap) (v : Value) (h' : Heap) (s : Sem Next) : Prop :=
  ∃ obj, h' = h ++ [obj] ∧ ∃ cv w', s.run P w = .ok (.value cv) w' ∧ Filled G N σ g w h.length obj v cv w'

theorem run_bytes {t : TypeId} {b : Nat} (h : bytesT P t = some b) (w : World) : ∃ i, (typeInfo t).run P w = .ok i w ∧ i.bytes = b := by
  unfold bytesT at h
  obtain ⟨i, hi, rfl⟩ := opt_map_some h
  exact ⟨i, by simp [typeInfo, hi], rfl⟩

set_option maxHeartbeats 1000000 in
theorem make_fill (call : Caller) (hm : MR G N σ g w) (hid : g h.length = none) {ρ ρc : Operand → Value} {o : Oper} {ao : AOp} (hn : normOp P o.type o.op = some ao) (hk : ao.makes = true)
    (hv : ∀ x ∈ o.op.operands, VR σ g (ρ x) (ρc x)) (hc : ∀ v, ρ (.const v) = v ∧ ρc (.const v) = v) {v : Value} {h' : Heap} (he : evOp call ρ h ao = some (v, h')) : Makes P G N σ g w h v h' (execOp ρc o) := by
  obtain ⟨dst, op, ty, pos, after, guard⟩ := o
  simp only at hn hv
  cases op
  case alloc t =>
    simp only [normOp] at hn
    obtain ⟨z, hz, rfl⟩ := opt_map_some hn
    obtain ⟨zv, hzv, hzl⟩ := zeroOf_inv hz
    have hzp := laid_plain hzl (zeroVal_plain hzv)
    simp only [evOp, Option.some.injEq, Prod.mk.injEq] at he
    obtain ⟨rfl, rfl⟩ := he
    obtain ⟨hd, _⟩ := row_fill (el := t) hm hid (VRs.plain1 hzp : VRs σ g z z) fun x hx => single_of_plain1 (List.all_eq_true.1 hzp x hx)
    refine ⟨_, rfl, _, _, ?_, hd⟩
    simp only [execOp, Instr.alloc, Sem.run_bind, (run_zero hzv w).1, Result.andThen_ok, newVar, newRow, laid_cells hzl, run_newObj, Sem.run_pure]
  case box t x =>
    have hx := hv x (by simp [Op.operands])
    simp only [normOp] at hn
    obtain ⟨n, hn', rfl⟩ := opt_map_some hn
    simp only [evOp] at he
    split at he
    · rename_i l hl
      split at he
      · simp only [Option.some.injEq, Prod.mk.injEq] at he
        obtain ⟨rfl, rfl⟩ := he
        obtain ⟨cs, hcs, hvs, h1⟩ := laid_sound hx hl
        obtain ⟨hd, _⟩ := row_fill (el := t) hm hid hvs h1
        refine ⟨_, rfl, _, _, ?_, hd⟩
        simp only [execOp, Instr.box, newVar, newRow, hcs, Sem.run_bind, run_newObj, Result.andThen_ok, Sem.run_pure]
      · cases he
    · cases he
  case buildSlice t n ps =>
    simp only [normOp] at hn
    cases hu : P.underlying t with
    | none => rw [hu] at hn; cases hn
    | some d =>
      rw [hu] at hn
      cases d <;> simp only [reduceCtorEq] at hn
      rename_i e
      cases hz : zeroOf P e with
      | none => rw [hz] at hn; cases hn
      | some z =>
        cases hsz : sizeT P e with
        | none => rw [hz, hsz] at hn; cases hn
        | some m =>
          cases hps : normParts P e ps with
          | none => rw [hz, hsz, hps] at hn; cases hn
          | some qs =>
            rw [hz, hsz, hps] at hn
            simp only at hn
            split at hn
            · rename_i hcond
              obtain ⟨hbig, hzl', hpos⟩ := hcond
              simp only [Option.some.injEq] at hn; subst hn
              obtain ⟨zv, hzv, hzl⟩ := zeroOf_inv hz
              have hzp := laid_plain hzl (zeroVal_plain hzv)
              have hzc := laid_cells hzl
              unfold normParts at hps
              obtain ⟨m', hm', rfl⟩ := opt_map_some hps
              rw [hsz] at hm'; cases hm'
              simp only [evOp] at he
              obtain ⟨l, hl, hr⟩ := opt_map_some he
              simp only [Prod.mk.injEq] at hr
              obtain ⟨rfl, rfl⟩ := hr
              have hz0 := zeros_plain hzp n
              obtain ⟨ds, h1, h2, h3, h4⟩ := fill_sound (σ := σ) (g := g) (place := fun i => some (i * m, m)) ((ps.toList.map fun p => (p.1 * m, m, p.2)).map fun p => (p.1, p.2.1, ρ p.2.2)) (ps.map fun (i, x) => (i, ρc x)).toList
                (zeros z n) (zeros z n) l (.plain1 hz0) (fun x hx => single_of_plain1 (List.all_eq_true.1 hz0 x hx))
                (by simp) (fun i p q hp hq' => by
                  simp only [List.getElem?_map, Option.map_map, Option.map_eq_some_iff] at hp
                  obtain ⟨p0, hp0, rfl⟩ := hp
                  simp only [Array.toList_map, List.getElem?_map, Option.map_eq_some_iff] at hq'
                  obtain ⟨q0, hq0, rfl⟩ := hq'
                  rw [hp0] at hq0; cases hq0
                  refine ⟨rfl, ?_⟩
                  refine hv _ ?_
                  have hmem : p0 ∈ ps.toList := List.mem_of_getElem? hp0
                  simp only [Op.operands, List.mem_toArray, List.mem_map]
                  exact ⟨p0, hmem, rfl⟩) hl
              obtain ⟨_, hd⟩ := row_fill (el := e) hm hid h2 h3
              have hlen : n * z.length ≤ ds.length := by rw [← h2.length, h4, zeros_length]; exact Nat.le_refl _
              refine ⟨_, rfl, _, _, ?_, hd n z.length hlen⟩
              have hzm := zeros_model (z := z) (by omega) n (n * m) (by rw [hzl'])
              have hno : ¬ n * m > 2 ^ 24 := by omega
              simp only [execOp, Instr.buildSlice, Sem.run_bind, run_und hu, Result.andThen_ok, run_sizeOf hsz, if_neg hno, Sem.run_pure]
              by_cases h0 : n * m = 0
              · have hz' : zeros z n = [] := by
                  apply List.length_eq_zero_iff.1; rw [zeros_length, hzl', h0]
                rw [hz'] at h1
                simp only [if_pos h0, Sem.run_bind, Sem.run_pure, Result.andThen_ok]
                rw [h0, show (Array.map (fun x => (#[] : Array Value)[x % (#[] : Array Value).size]!) (Array.range 0)) = ⟨[]⟩ from by simp, h1]
                simp only [newRow, Sem.run_bind, run_newObj, Result.andThen_ok, Sem.run_pure]
              · simp only [if_neg h0, Sem.run_bind, (run_zero hzv w).1, Result.andThen_ok, hzc, Sem.run_pure]
                rw [hzm, h1]
                simp only [newRow, Sem.run_bind, run_newObj, Result.andThen_ok, Sem.run_pure]
            · cases hn
  case makeMap t r =>
    have hn : normMap (P.underlying t) r = some ao := hn
    cases hu : P.underlying t with
    | none => rw [hu] at hn; cases hn
    | some d =>
      rw [hu] at hn
      cases d <;> (try (simp [normMap] at hn; done))
      rename_i kt e
      have fin : ao = .mkMap → (∀ x, r = some x → ∃ k n, x = .const (.int k n)) → Makes P G N σ g w h v h' (execOp ρc ⟨dst, .makeMap t r, ty, pos, after, guard⟩) := by
        rintro rfl hr
        simp only [evOp, Option.some.injEq, Prod.mk.injEq] at he
        obtain ⟨rfl, rfl⟩ := he
        obtain ⟨h2, h3, h5, h6⟩ := fill_done hm hid (obj := .map []) (blk := .map #[] 0) (sz := 0) (fun σ' g' w' he hw => .map [] [] 0 hm.size hw .nil) rfl
        refine ⟨_, rfl, .map (some w.heap.size), _, ?_, _, h2, h3, .map _ _ [] h5 (by simp only [if_pos])⟩
        cases r with
        | none => rfl
        | some x =>
          obtain ⟨k, n, rfl⟩ := hr x rfl
          simp only [execOp, Instr.makeMap, Option.map_some, (hc _).2, Sem.run_bind, run_und hu, Result.andThen_ok, asInt, asIntOf, Sem.run_pure, run_newObj]
      cases r with
      | none => simp only [normMap, Option.some.injEq] at hn; exact fin hn.symm (fun x hx => by cases hx)
      | some x =>
        cases x with
        | const c =>
          cases c <;> (try (simp [normMap] at hn; done))
          simp only [normMap, Option.some.injEq] at hn
          exact fin hn.symm (fun x hx => by cases hx; exact ⟨_, _, rfl⟩)
        | _ => simp [normMap] at hn
  case makeSlice t l c =>
    have hl := hv l (by simp [Op.operands])
    have hcv := hv c (by simp [Op.operands])
    simp only [normOp] at hn
    cases hu : P.underlying t with
    | none => rw [hu] at hn; cases hn
    | some d =>
      rw [hu] at hn
      cases d <;> simp only [reduceCtorEq] at hn
      rename_i e
      cases hz : zeroOf P e with
      | none => rw [hz] at hn; cases hn
      | some z =>
        cases hsz : sizeT P e with
        | none => rw [hz, hsz] at hn; cases hn
        | some m =>
          cases hb : bytesT P e with
          | none => rw [hz, hsz, hb] at hn; cases hn
          | some b =>
            rw [hz, hsz, hb] at hn
            simp only at hn
            split at hn
            · rename_i hcond
              obtain ⟨hsame, hzl', hpos, hbpos⟩ := hcond
              simp only [Option.some.injEq] at hn; subst hn
              obtain ⟨zv, hzv, hzl⟩ := zeroOf_inv hz
              have hzp := laid_plain hzl (zeroVal_plain hzv)
              have hzc := laid_cells hzl
              simp only [evOp] at he
              split at he
              · rename_i k n hlv
                split at he
                · rename_i hroom
                  obtain ⟨h0, hle⟩ := hroom
                  simp only [Option.some.injEq, Prod.mk.injEq] at he
                  obtain ⟨rfl, rfl⟩ := he
                  have hrl : ρc l = .int k n := by rw [hlv] at hl; exact hl.int_inv
                  have hrc : ∃ k', ρc c = .int k' n := by
                    cases l <;> cases c <;> simp only [sameOperand, Bool.false_eq_true, beq_iff_eq] at hsame
                    · subst hsame; exact ⟨k, hrl⟩
                    · rename_i u u'
                      cases u <;> cases u' <;> simp only [sameOperand, Bool.false_eq_true, beq_iff_eq] at hsame
                      subst hsame
                      rw [(hc _).1] at hlv
                      cases hlv
                      exact ⟨_, (hc _).2⟩
                  obtain ⟨k', hrc⟩ := hrc
                  have hn64 : n ≤ 140737488355328 := by
                    have : n * 1 ≤ n * b := Int.mul_le_mul_of_nonneg_left (by omega) h0
                    unfold roomFor at hle; omega
                  have hwr : IntKind.i64.wrap n = n := by rw [IntKind.wrap_i64]; omega
                  have hz0 := zeros_plain hzp n.toNat
                  obtain ⟨_, hd⟩ := row_fill (el := e) hm hid (.plain1 hz0 : VRs σ g (zeros z n.toNat) (zeros z n.toNat)) fun x hx => single_of_plain1 (List.all_eq_true.1 hz0 x hx)
                  have hlen : n.toNat * m ≤ (zeros z n.toNat).length := by rw [zeros_length, hzl']; exact Nat.le_refl _
                  refine ⟨_, rfl, _, _, ?_, hd n.toNat m hlen⟩
                  obtain ⟨i, hi, hib⟩ := run_bytes hb w
                  have hlarge : (decide (n < 0) || decide ((b : Int) * n > 2 ^ 48)) = false := by
                    have : (b : Int) * n = n * b := Int.mul_comm _ _
                    unfold roomFor at hle
                    simp only [Bool.or_eq_false_iff, decide_eq_false_iff_not]
                    constructor <;> omega
                  have hzm := zeros_model (z := z) (by omega) n.toNat (n.toNat * m) (by rw [hzl'])
                  simp only [execOp, Instr.makeSlice, Sem.run_bind, run_und hu, Result.andThen_ok, hrl, hrc, asInt, asIntOf, Sem.run_pure, hi, hwr, hib, hlarge, Bool.false_or]
                  rw [if_neg (by simp only [Bool.or_eq_true, decide_eq_true_eq]; omega)]
                  simp only [Sem.run_bind, run_askRoom, Result.andThen_ok, run_sizeOf hsz]
                  by_cases h0 : n.toNat * m = 0
                  · have hz' : zeros z n.toNat = [] := by
                      apply List.length_eq_zero_iff.1; rw [zeros_length, hzl', h0]
                    rw [hz']
                    simp only [if_pos h0, Sem.run_bind, Sem.run_pure, Result.andThen_ok]
                    rw [h0, show (Array.map (fun x => (#[] : Array Value)[x % (#[] : Array Value).size]!) (Array.range 0)) = ⟨[]⟩ from by simp]
                    simp only [newRow, Sem.run_bind, run_newObj, Result.andThen_ok, Sem.run_pure]
                  · simp only [if_neg h0, Sem.run_bind, (run_zero hzv w).1, Result.andThen_ok, hzc, Sem.run_pure]
                    rw [hzm]
                    simp only [newRow, Sem.run_bind, run_newObj, Result.andThen_ok, Sem.run_pure]
                · cases he
              · cases he
            · cases hn
  case binOp op t x y yt =>
    exfalso
    have eqs : ∀ neg, normEq P neg t x y = some ao → False := by
      intro neg hne
      unfold normEq at hne
      repeat' split at hne
      all_goals first
        | (cases hne; done)
        | (simp only [Option.some.injEq] at hne; subst hne; simp [AOp.makes] at hk; done)
        | (obtain ⟨z, _, rfl⟩ := opt_map_some hne; simp [AOp.makes] at hk; done)
    simp only [normOp] at hn
    cases op <;> simp only at hn
    case eql => exact eqs false hn
    case neq => exact eqs true hn
    all_goals
      split at hn
      · simp only [Option.some.injEq] at hn; subst hn; simp [AOp.makes] at hk
      · cases hn
  case call c =>
    exfalso
    simp only [normOp, normCall] at hn
    repeat' split at hn
    all_goals first
      | (cases hn; done)
      | (simp only [Option.some.injEq] at hn; subst hn; simp [AOp.makes] at hk; done)
  case makeFunc fn a b =>
    exfalso
    cases fn <;> simp only [normOp, reduceCtorEq, Option.some.injEq] at hn
    subst hn; simp [AOp.makes] at hk
  case slice t x lo hi mx =>
    exfalso
    cases mx with
    | some y => simp [normOp] at hn
    | none =>
      simp only [normOp] at hn
      repeat' split at hn
      all_goals first
        | (cases hn; done)
        | (simp only [Option.some.injEq] at hn; subst hn; simp [AOp.makes] at hk; done)
        | (obtain ⟨z, _, hn⟩ := Option.bind_eq_some_iff.1 hn
           split at hn <;> first | (cases hn; done) | (simp only [Option.some.injEq] at hn; subst hn; simp [AOp.makes] at hk; done))
  all_goals
    exfalso
    simp only [normOp, reduceCtorEq] at hn
    try (
      repeat' split at hn
      all_goals first
        | (cases hn; done)
        | (simp only [Option.some.injEq] at hn; subst hn; simp [AOp.makes] at hk; done)
        | (obtain ⟨z, _, rfl⟩ := opt_map_some hn; simp [AOp.makes] at hk; done)
        | (obtain ⟨z, _, hn⟩ := Option.bind_eq_some_iff.1 hn
           split at hn <;> first | (cases hn; done) | (simp only [Option.some.injEq] at hn; subst hn; simp [AOp.makes] at hk; done)))
theorem make_op (call : Caller) (hm : MR G N σ g w) (hs : Sub g h) {ρ ρc : Operand → Value} {o : Oper} {ao : AOp} (hn : normOp P o.type o.op = some ao) (hk : ao.makes = true)
    (hv : ∀ x ∈ o.op.operands, VR σ g (ρ x) (ρc x)) (hc : ∀ v, ρ (.const v) = v ∧ ρc (.const v) = v) {v : Value} {h' : Heap} (he : evOp call ρ h ao = some (v, h')) :
    ∃ cv w', (execOp ρc o).run P w = .ok (.value cv) w' ∧ Done G N σ g w h v h' cv w' := by
  obtain ⟨obj, rfl, cv, w', hrun, σ', h1, h2, h3⟩ := make_fill call hm (sub_none hs (Nat.le_refl h.length)) hn hk hv hc he
  refine ⟨cv, w', hrun, σ', ?_, ?_, ?_, ⟨by simp, fun i hi _ => List.getElem?_append_left hi⟩⟩ <;> rw [grow_append hs]
  · exact h1
  · exact h2
  · exact h3
/-- What is made does not hang on the memory. -/
theorem make_indep {call : Caller} {ρ : Operand → Value} {ao : AOp} (hk : ao.makes = true) {h h₁ : Heap} {v : Value} {h' : Heap} (he : evOp call ρ h ao = some (v, h')) :
    ∃ obj, h' = h ++ [obj] ∧ (h₁.length = h.length → evOp call ρ h₁ ao = some (v, h₁ ++ [obj])) := by
  cases ao <;> simp only [AOp.makes, Bool.false_eq_true] at hk
  case alloc z =>
    simp only [evOp, Option.some.injEq, Prod.mk.injEq] at he
    obtain ⟨rfl, rfl⟩ := he
    exact ⟨_, rfl, fun e => by simp [evOp, e]⟩
  case box n x =>
    simp only [evOp] at he
    split at he
    · rename_i l hl
      split at he
      · rename_i hn
        simp only [Option.some.injEq, Prod.mk.injEq] at he
        obtain ⟨rfl, rfl⟩ := he
        exact ⟨_, rfl, fun e => by simp [evOp, hl, hn, e]⟩
      · cases he
    · cases he
  case mkRow z n ps =>
    simp only [evOp] at he
    obtain ⟨l, hl, hr⟩ := opt_map_some he
    simp only [Prod.mk.injEq] at hr
    obtain ⟨rfl, rfl⟩ := hr
    exact ⟨_, rfl, fun e => by simp [evOp, hl, e]⟩
  case mkSlice m b z l =>
    simp only [evOp] at he
    split at he
    · rename_i k n hl
      split at he
      · rename_i hn
        simp only [Option.some.injEq, Prod.mk.injEq] at he
        obtain ⟨rfl, rfl⟩ := he
        exact ⟨_, rfl, fun e => by simp only [evOp, hl]; rw [if_pos hn, e]⟩
      · cases he
    · cases he
  case mkMap =>
    simp only [evOp, Option.some.injEq, Prod.mk.injEq] at he
    obtain ⟨rfl, rfl⟩ := he
    exact ⟨_, rfl, fun e => by simp [evOp, e]⟩
end Go.Proofs.YtfbldlgjlgcpoaaDoor.AM

namespace Go.Proofs.YtfbldlgjlgcpoaaDoor.AM
open Go.RowKit

set_option linter.unusedSimpArgs false
set_option linter.unusedVariables false
variable {P : Program} {G N : Nat} {σ : Emb} {g : Mem} {w : World} {h : Heap}

/-- An object of the memory's own takes another form. -/
theorem put_done (hm : MR G N σ g w) (hs : Sub g h) {id : Nat} {old new : AObj} (hg : g id = some old) (hown : owns old = true) (hown' : owns new = true) (s' : Seat) (w' : World)
    (hcells : ∀ vals ver ro, old = .cells vals ver ro → ∃ vals' ver', new = .cells vals' ver' ro ∧ ver ≤ ver' ∧ (ver = ver' → s' = σ id))
    (hmap : ∀ es, old = .map es → ∃ es', new = .map es' ∧ s' = σ id)
    (hnew : ∀ σ' g', Ext σ g σ' g' → ObjR N σ' g' w' s' new)
    (hblocks : ∀ b, b < w.heap.size → b ≠ (σ id).blk → w'.heap[b]? = w.heap[b]?) (hblk : s'.blk = (σ id).blk ∨ w.heap.size ≤ s'.blk)
    (hsize : w.heap.size ≤ w'.heap.size) (hos : w'.os = w.os) (htape : w'.tape = w.tape) (hout : w'.output = w.output) :
    let σ' : Emb := fun i => if i = id then s' else σ i
    let g' := grow g h (h.set id new)
    Go N σ g w σ' g' w' ∧ MR G N σ' g' w' ∧ Holes g h (h.set id new) ∧ g' id = some new := by
  intro σ' g'
  have hlt : id < h.length := (List.getElem?_eq_some_iff.1 (hs _ _ hg)).1
  have hg' : ∀ i, g' i = if i = id then some new else g i := by
    intro i
    show grow g h (h.set id new) i = _
    unfold grow
    by_cases h1 : i = id
    · subst h1
      rw [if_pos rfl, if_pos hlt, hg]
      simp [hlt]
    · rw [if_neg h1]
      have hset : (h.set id new)[i]? = h[i]? := List.getElem?_set_ne (fun e => h1 e.symm)
      by_cases h2 : i < h.length
      · rw [if_pos h2]
        cases hgi : g i with
        | none => rfl
        | some o => simp only; rw [hset]; exact hs i o hgi
      · rw [if_neg h2, hset, sub_none hs (by omega)]
        exact List.getElem?_eq_none (by omega)
  have hself : σ' id = s' := if_pos rfl
  have hother : ∀ i, i ≠ id → σ' i = σ i := fun i hi => if_neg hi
  have hext : Ext σ g σ' g' := by
    constructor
    · intro i vals ver ro hi
      rw [hg']
      by_cases h1 : i = id
      · subst h1
        rw [hg] at hi; cases hi
        obtain ⟨vals', ver', rfl, hle, he⟩ := hcells _ _ _ rfl
        exact ⟨vals', ver', if_pos rfl, hle, fun e => by rw [hself]; exact he e⟩
      · exact ⟨vals, ver, by rw [if_neg h1]; exact hi, Nat.le_refl _, fun _ => hother i h1⟩
    · intro i es hi
      rw [hg']
      by_cases h1 : i = id
      · subst h1
        rw [hg] at hi; cases hi
        obtain ⟨es', rfl, he⟩ := hmap _ rfl
        exact ⟨es', if_pos rfl, by rw [hself]; exact he⟩
      · exact ⟨es, by rw [if_neg h1]; exact hi, hother i h1⟩
  have hN := (hm.obj _ _ hg).owned.1 hown
  have hne : ∀ i o, i ≠ id → g i = some o → (σ i).blk ≠ (σ id).blk := by
    intro i o h1 hi e
    have ho := hm.obj i o hi
    have : owns o = true := ho.owned.2 (by rw [e]; exact hN)
    exact h1 (hm.inj i id o old hi hg this hown e)
  refine ⟨⟨hext, hsize, hos, htape, hout, fun b hb hno => hblocks b hb fun e => hno ⟨id, old, hg, hown, e.symm⟩, ?_⟩, ⟨?_, ?_, ?_, Nat.le_trans hm.size hsize⟩, ⟨by simp, fun i hi hgi => ?_⟩, by rw [hg', if_pos rfl]⟩
  · rintro b ⟨i, o, hi, ho, hb⟩
    rw [hg'] at hi
    by_cases h1 : i = id
    · subst h1
      rw [hself] at hb
      rcases hblk with e | e
      · exact .inl ⟨i, old, hg, hown, by rw [← hb, e]⟩
      · exact .inr (by rw [← hb]; exact e)
    · rw [if_neg h1] at hi
      exact .inl ⟨i, o, hi, ho, by rw [← hb, hother i h1]⟩
  · intro i o hi
    rw [hg'] at hi
    by_cases h1 : i = id
    · subst h1
      rw [if_pos rfl] at hi; cases hi
      rw [hself]
      exact hnew σ' g' hext
    · rw [if_neg h1] at hi
      have := hm.obj i o hi
      rw [hother i h1]
      exact this.step hext (hblocks _ (this.lt hm.size) (hne i o h1 hi))
  · intro i j o p hi hj ho hp he
    rw [hg'] at hi hj
    have clash : ∀ k q, k ≠ id → g k = some q → (σ k).blk ≠ s'.blk := by
      intro k q hk hq e
      rcases hblk with e' | e'
      · exact hne k q hk hq (by rw [e, e'])
      · have := (hm.obj k q hq).lt hm.size; omega
    by_cases h1 : i = id
    · by_cases h2 : j = id
      · rw [h1, h2]
      · rw [if_neg h2] at hj
        rw [h1, hself, hother j h2] at he
        exact absurd he.symm (clash j p h2 hj)
    · rw [if_neg h1] at hi
      by_cases h2 : j = id
      · rw [h2, hself, hother i h1] at he
        exact absurd he (clash i o h1 hi)
      · rw [if_neg h2] at hj
        rw [hother i h1, hother j h2] at he
        exact hm.inj i j o p hi hj ho hp he
  · intro i hi
    obtain ⟨vals, h1, h2, h3⟩ := hm.glob i hi
    have hne : i ≠ id := by
      rintro rfl
      rw [hg] at h1; cases h1
      simp [owns] at hown
    exact ⟨vals, by rw [hg', if_neg hne]; exact h1, by rw [hother i hne]; exact h2, by rw [hother i hne]; exact h3⟩
  · exact List.getElem?_set_ne (by rintro rfl; rw [hg] at hgi; cases hgi)

theorem oneCell_of_single {c : Value} (h : single c = true) : c.oneCell' = true := by cases c <;> first | rfl | simp [single] at h

/-- Cells that are stored one behind the other. -/
theorem storeCells_run {b : Nat} {el : TypeId} : ∀ (vs : List Value) (i o : Nat) (cs : List Value) (w : World), w.heap[b]? = some (.cells ⟨cs⟩ el (0, 0)) → o + i + vs.length ≤ cs.length → (∀ v ∈ vs, single v = true) →
    ∃ w', (storeCells ⟨b, o, none⟩ vs i).run P w = .ok () w' ∧ w'.heap[b]? = some (.cells ⟨splice cs (o + i) vs⟩ el (0, 0)) ∧ (∀ k, k ≠ b → w'.heap[k]? = w.heap[k]?) ∧ w'.heap.size = w.heap.size ∧ w'.os = w.os ∧ w'.tape = w.tape ∧ w'.output = w.output
  | [], i, o, cs, w, hb, _, _ => ⟨w, rfl, by rw [hb]; simp [splice], fun _ _ => rfl, rfl, rfl, rfl, rfl⟩
  | v :: vs, i, o, cs, w, hb, hle, h1 => by
    simp only [List.length_cons] at hle
    have hlt : o + i < cs.length := by omega
    have hc : w.cell? ⟨b, o + i, none⟩ = some cs[o + i] := by simp [World.cell?, hb, hlt]
    have hf : w.frozen? ⟨b, o + i, none⟩ = false := by simp [World.frozen?, hb]
    have hst : (store ⟨b, o + i, none⟩ v).run P w = .ok () (w.setCell ⟨b, o + i, none⟩ v) := by
      rw [run_store P w _ v _ (oneCell_of_single (h1 v (by simp))), hc]
      simp [hf]
    have hblt : b < w.heap.size := (Array.getElem?_eq_some_iff.1 hb).1
    have hb' : (w.setCell ⟨b, o + i, none⟩ v).heap[b]? = some (.cells ⟨cs.set (o + i) v⟩ el (0, 0)) := by
      simp only [World.setCell, Array.getElem?_modify, if_pos, hb, Option.map_some]
      simp
    have hother : ∀ k, k ≠ b → (w.setCell ⟨b, o + i, none⟩ v).heap[k]? = w.heap[k]? := by
      intro k hk
      simp only [World.setCell, Array.getElem?_modify]
      rw [if_neg (fun e => hk e.symm)]
    obtain ⟨w', h2, h3, h4, h5, h6, h7, h8⟩ := storeCells_run vs (i + 1) o (cs.set (o + i) v) (w.setCell ⟨b, o + i, none⟩ v) hb' (by rw [List.length_set]; omega) fun x hx => h1 x (by simp [hx])
    refine ⟨w', ?_, ?_, fun k hk => by rw [h4 k hk, hother k hk], by rw [h5]; simp, by rw [h6]; rfl, by rw [h7]; rfl, by rw [h8]; rfl⟩
    · simp only [storeCells, Sem.run_bind, addr_add, hst, Result.andThen_ok]
      exact h2
    · rw [h3]
      congr 2
      have ht : (cs.take (o + i)).length = o + i := by rw [List.length_take]; omega
      have hset : cs.set (o + i) v = cs.take (o + i) ++ v :: cs.drop (o + i + 1) := by rw [List.set_eq_take_append_cons_drop, if_pos hlt]
      unfold splice
      rw [hset, List.take_append, List.drop_append, ht, List.take_of_length_le (show (cs.take (o + i)).length ≤ o + (i + 1) by omega),
        List.drop_eq_nil_of_le (show (cs.take (o + i)).length ≤ o + (i + 1) + vs.length by omega)]
      rw [show o + (i + 1) - (o + i) = 1 from by omega, show o + (i + 1) + vs.length - (o + i) = vs.length + 1 from by omega]
      simp only [List.take_succ_cons, List.take_zero, List.drop_succ_cons, List.drop_drop, List.nil_append, List.append_assoc, List.cons_append, List.length_cons]
      rw [show o + i + 1 + vs.length = o + i + (vs.length + 1) from by omega]

/-- A row within an object is written. -/
theorem write_done (hm : MR G N σ g w) (hs : Sub g h) {p q : Addr} {l cs : List Value} {h' : Heap} (hp : VR σ g (.pointer (some p)) (.pointer (some q))) (hv : VRs σ g l cs) (h1 : ∀ x ∈ l, single x = true) (hw : h.write p l = some h') :
    ∃ w', (storeCells q cs).run P w = .ok () w' ∧ Done G N σ g w h undef h' undef w' := by
  cases hp with
  | ptr _ _ v vals ver ro hsp hg hle hq =>
    unfold Heap.write at hw
    rw [hs _ _ hg] at hw
    cases ro with
    | true => simp at hw
    | false =>
      simp only at hw
      split at hw
      · rename_i hc
        obtain ⟨hspot, hlen⟩ := hc
        rw [hsp] at hspot; cases hspot
        simp only [Option.some.injEq] at hw
        subst hw
        rw [hq rfl]
        have ho := hm.obj _ _ hg
        cases ho with
        | own _ ds _ el hb h0 hwb hsz hvv hl h1' =>
          have hvl := hv.length
          have hsc : ∀ x ∈ cs, single x = true := by
            intro x hx
            obtain ⟨i, hi⟩ := List.getElem?_of_mem hx
            obtain ⟨u, hu, hur⟩ := hv.get' hi
            rw [hur.single]; exact h1 u (List.mem_of_getElem? hu)
          rw [h0, Nat.zero_add]
          obtain ⟨w', hrun, hw1, hw2, hw3, hw4, hw5, hw6⟩ := storeCells_run (P := P) cs 0 p.off ds w hwb (by omega) hsc
          refine ⟨w', hrun, ?_⟩
          obtain ⟨h2, h3, h4, h5⟩ := put_done (h := h) hm hs hg rfl (new := .cells (splice vals p.off l) v false) rfl (σ p.block) w'
            (fun vals' ver' ro' e => by cases e; exact ⟨_, _, rfl, Nat.le_refl _, fun _ => rfl⟩) (fun es e => by cases e)
            (fun σ' g' he => by
              refine .own _ (splice ds p.off cs) v el hb h0 (by rw [hw1, Nat.add_zero]) (by rw [splice_length (by omega)]; exact hsz) ?_ (by rw [splice_length (by omega), splice_length (by omega)]; exact hl) (singles_splice h1' h1 _)
              rw [splice_length (by omega)]
              have : (splice ds p.off cs).take vals.length = splice (ds.take vals.length) p.off cs := by
                unfold splice
                rw [List.take_append, List.take_append, List.take_take]
                simp only [List.length_append, List.length_take]
                rw [Nat.min_eq_right (show p.off ≤ vals.length by omega), List.take_of_length_le (show cs.length ≤ vals.length - min p.off ds.length by omega), List.take_take, List.take_drop]
                congr 2
                · rw [Nat.min_eq_left (by omega)]
                · rw [Nat.min_eq_left (by omega)]; congr 2 <;> omega
              rw [this]
              exact ((hvv.splice hv _).ext he))
            (fun b hb' hne => hw2 b hne) (.inl rfl) (by omega) hw4 hw5 hw6
          exact ⟨_, h2, h3, .tuple [] [] .nil, h4⟩
      · cases hw
end Go.Proofs.YtfbldlgjlgcpoaaDoor.AM

namespace Go.Proofs.YtfbldlgjlgcpoaaDoor.AM
open Go.RowKit

set_option linter.unusedSimpArgs false
set_option linter.unusedVariables false
variable {P : Program} {G N : Nat} {σ : Emb} {g : Mem} {w : World} {h : Heap}

/-- What is appended. -/
theorem src_run (hm : MR G N σ g w) (hs : Sub g h) {size : Nat} {u cu : Value} {ys : List Value} {n : Nat} (hu : VR σ g u cu) (hsrc : srcOf h size u = some (ys, n)) :
    ∃ cs, (Builtin.lenOf cu).run P w = .ok n w ∧ (Builtin.firstCells size n cu).run P w = .ok ⟨cs⟩ w ∧ VRs σ g ys cs ∧ ys.length = n * size ∧ ∀ x ∈ ys, single x = true := by
  cases u <;> simp only [srcOf, reduceCtorEq] at hsrc
  case string s =>
    split at hsrc
    · rename_i h1
      subst h1
      simp only [Option.some.injEq, Prod.mk.injEq] at hsrc
      obtain ⟨rfl, rfl⟩ := hsrc
      rw [hu.string_inv]
      have hp : (s.data.toList.map fun b => (Value.int .u8 b.toNat)).all plain1 = true := by
        rw [List.all_eq_true]
        intro x hx
        obtain ⟨b, _, rfl⟩ := List.mem_map.1 hx
        rfl
      refine ⟨s.data.toList.map fun b => .int .u8 b.toNat, rfl, ?_, .plain1 hp, by simp, fun x hx => single_of_plain1 (List.all_eq_true.1 hp x hx)⟩
      have he : s.extract 0 s.size = s := by simp
      simp only [Builtin.firstCells, he, Sem.run_pure]
      congr 1
      apply Array.ext'
      simp
    · cases hsrc
  case slice a n' c =>
    cases a with
    | none =>
      simp only [srcOf, Option.some.injEq, Prod.mk.injEq] at hsrc
      obtain ⟨rfl, rfl⟩ := hsrc
      obtain ⟨rfl, rfl, rfl⟩ := hu.nilSlice_inv
      exact ⟨[], rfl, rfl, .nil, by simp, fun x hx => by simp at hx⟩
    | some p =>
      simp only [srcOf] at hsrc
      split at hsrc
      · rename_i hc
        subst hc
        obtain ⟨l, hl, he⟩ := opt_map_some hsrc
        simp only [Prod.mk.injEq] at he
        obtain ⟨rfl, rfl⟩ := he
        cases hu with
        | slice _ q _ _ cap v vals ver ro hv hg hle hn hq =>
          by_cases hlive : v = ver
          · rcases hq hlive with ⟨hq', _⟩ | ⟨h0, _⟩
            · obtain ⟨cs, _, hrun, hvs, hlen, h1⟩ := hm.read (P := P) hs (.ptr p q v vals ver ro hv hg hle fun _ => hq') hl
              exact ⟨cs, rfl, hrun, hvs, hlen, h1⟩
            · subst h0
              have : l = [] := by
                unfold Heap.read at hl
                rw [hs _ _ hg] at hl
                simp only at hl
                split at hl
                · simp only [Nat.zero_mul, List.take_zero, Option.some.injEq] at hl; exact hl.symm
                · cases hl
              subst this
              refine ⟨[], rfl, ?_, .nil, by simp, fun x hx => by simp at hx⟩
              simp only [Builtin.firstCells, Nat.zero_mul]
              rfl
          · exfalso
            unfold Heap.read at hl
            rw [hs _ _ hg] at hl
            simp only at hl
            split at hl
            · rename_i hcc
              rw [hv] at hcc
              exact hlive (by simpa using hcc.1)
            · cases hl
      · cases hsrc

theorem MR.drew (hm : MR G N σ g w) : MR G N σ g { w with drawn := w.drawn + 1 } := by
  refine ⟨fun i o hi => ?_, hm.inj, hm.glob, hm.size⟩
  exact ObjR.step (w := w) (w' := { w with drawn := w.drawn + 1 }) (.refl _ _) rfl (hm.obj i o hi)
theorem growBy_le (need : Nat) : ∀ (n c : Nat), c ≤ need + (need + 768) / 4 → Builtin.growBy need n c ≤ need + (need + 768) / 4
  | 0, c, h => h
  | n + 1, c, h => by
    unfold Builtin.growBy
    split
    · exact h
    · exact growBy_le need n _ (by omega)
theorem nextcap_le {need cap : Nat} (h : cap < need) : Builtin.nextslicecap need cap ≤ 2 * need := by
  unfold Builtin.nextslicecap
  split
  · omega
  · split
    · omega
    · have := growBy_le need 4 cap (by omega); omega

theorem zeroCells_length (z : Array Value) (n : Nat) : (Builtin.zeroCells z n).size = n * z.size := by simp [Builtin.zeroCells]

set_option maxHeartbeats 4000000 in
theorem append_done (hm : MR G N σ g w) (hs : Sub g h) {t u e : TypeId} {size bytes : Nat} {z : List Value} (ht : P.underlying t = some (.slice e)) (hz : sizeT P e = some size) (hb : bytesT P e = some bytes)
    (hzero : zeroOf P e = some z) (hzl : z.length = size) (hpos : 0 < size) (hbpos : 0 < bytes) (hnum : numeric P u = false) (hu : (P.underlying u).isSome = true)
    {x y cx cy : Value} (hx : VR σ g x cx) (hy : VR σ g y cy) {ty : TypeId} {v : Value} {h' : Heap}
    (he : appendTo h size bytes x (srcOf h size y) = some (v, h')) :
    ∃ cv w', (Builtin.append_ #[t, u] ty #[cx, cy]).run P w = .ok cv w' ∧ Done G N σ g w h v h' cv w' := by
  obtain ⟨i, hi, hib⟩ : ∃ i, (∀ w, (typeInfo e).run P w = .ok i w) ∧ i.bytes = bytes := by
    unfold bytesT at hb
    obtain ⟨i, hi, rfl⟩ := opt_map_some hb
    exact ⟨i, fun w => by simp [typeInfo, hi], rfl⟩
  obtain ⟨zv, hzv, hzlaid⟩ := zeroOf_inv hzero
  have hzc := laid_cells hzlaid
  obtain ⟨du, hdu⟩ := Option.isSome_iff_exists.1 hu
  have hni : ∀ k, du ≠ .int k := by
    rintro k rfl
    unfold numeric at hnum; rw [hdu] at hnum; cases hnum
  cases hsrc : srcOf h size y with
  | none => rw [hsrc] at he; unfold appendTo at he; split at he <;> simp_all
  | some yn =>
    obtain ⟨ys, n⟩ := yn
    rw [hsrc] at he
    unfold appendTo at he
    obtain ⟨cs, hlen, hfirst, hvs, hysl, hys1⟩ := src_run (P := P) hm hs hy hsrc
    have hcsl := hvs.length
    have fits : ∀ (base : Option Addr) (m cap : Nat) (w' : World), cx = .slice base m cap → m + n ≤ cap → (∀ a, base = some a → (storeCells (a.add (m * size)) cs).run P w = .ok () w') → (base = none → w' = w) →
        (Builtin.append_ #[t, u] ty #[cx, cy]).run P w = .ok (.slice base (m + n) cap) w' := by
      rintro base m cap w' rfl hle hst hnone
      unfold Builtin.append_
      cases du <;> first
        | (exact absurd rfl (hni _))
        | (simp only [List.getElem?_toArray, List.getElem?_cons_zero, List.getElem?_cons_succ, Sem.run_bind, run_und ht, Result.andThen_ok, run_sizeOf hz, run_und hdu, Sem.run_pure, Bool.false_eq_true, if_false, hlen, if_pos hle,
             Bool.not_false, if_true, hfirst]
           cases base with
           | none => rw [hnone rfl]; rfl
           | some a => simp only [Sem.run_bind, hst a rfl, Result.andThen_ok, Sem.run_pure])
    have grows : ∀ (base : Option Addr) (m cap : Nat) (ds cs1 : List Value), cx = .slice base m cap → ¬ m + n ≤ cap → (m + n) * bytes ≤ roomFor →
        (Builtin.firstCells size m cx).run P { w with drawn := w.drawn + 1 } = .ok ⟨ds⟩ { w with drawn := w.drawn + 1 } → (Builtin.firstCells size n cy).run P { w with drawn := w.drawn + 1 } = .ok ⟨cs1⟩ { w with drawn := w.drawn + 1 } →
        ∃ (k : Nat) (rest : List Value), k ≥ m + n ∧ rest.length = (k - (m + n)) * size ∧ (Builtin.append_ #[t, u] ty #[cx, cy]).run P w = .ok (.slice (some ⟨w.heap.size, 0, none⟩) (m + n) k)
          { { w with drawn := w.drawn + 1 } with heap := w.heap.push (.cells ⟨ds ++ cs1 ++ rest⟩ e) } := by
      rintro base m cap ds cs1 rfl hle hroom hold1 hfirst1
      have hcapn : ¬ Builtin.nextslicecap (m + n) cap * bytes > 2 ^ 48 := by
        have h1 := nextcap_le (show cap < m + n by omega)
        have h2 : Builtin.nextslicecap (m + n) cap * bytes ≤ 2 * (m + n) * bytes := Nat.mul_le_mul_right _ h1
        rw [Nat.mul_assoc] at h2
        unfold roomFor at hroom
        omega
      have hint : ¬ (((m + n : Nat) : Int) > IntKind.i64.max ∧ (False ∨ bytes = 0)) := by
        rintro ⟨_, h | h⟩
        · exact h
        · omega
      let q : Question := .appendCap (m + n) cap e
      let k := q.cut (w.tape w.drawn q)
      have hk : k ≥ m + n := by show m + n ≤ m + n + _; omega
      refine ⟨k, (Builtin.zeroCells ⟨z⟩ (k - (m + n))).toList, hk, by rw [Array.length_toList, zeroCells_length]; show (k - (m + n)) * z.length = _; rw [hzl], ?_⟩
      have hch : (choose (.appendCap (m + n) cap e)).run P w = .ok k { w with drawn := w.drawn + 1 } := by rw [run_choose]; rfl
      have harr : (⟨ds⟩ : Array Value) ++ ⟨cs1⟩ ++ Builtin.zeroCells ⟨z⟩ (k - (m + n)) = ⟨ds ++ cs1 ++ (Builtin.zeroCells ⟨z⟩ (k - (m + n))).toList⟩ := by apply Array.ext'; simp
      unfold Builtin.append_
      cases du <;> first
        | (exact absurd rfl (hni _))
        | (simp only [List.getElem?_toArray, List.getElem?_cons_zero, List.getElem?_cons_succ, Sem.run_bind, run_und ht, Result.andThen_ok, run_sizeOf hz, run_und hdu, Sem.run_pure, Bool.false_eq_true, if_false, hlen, if_neg hle,
             Bool.not_false, if_true, hi, hib, if_neg hint, if_neg hcapn, hch, run_askRoom, hold1, hfirst1, (run_zero hzv _).1, newRow, run_newObj, hzc]
           rw [harr])
    cases x <;> (try (cases he; done))
    rename_i a m c
    cases a with
    | none =>
      (try simp only at he)
      obtain ⟨rfl, rfl, hcx⟩ := hx.nilSlice_inv
      split at he
      · rename_i h0
        subst h0
        simp only [Option.some.injEq, Prod.mk.injEq] at he
        obtain ⟨rfl, rfl⟩ := he
        exact ⟨_, w, fits none 0 0 w hcx (Nat.le_refl _) (fun a h => by cases h) (fun _ => rfl), Done.same hm hs .nilSlice⟩
      · rename_i h0
        split at he
        · rename_i hroom
          simp only [Option.some.injEq, Prod.mk.injEq] at he
          obtain ⟨rfl, rfl⟩ := he
          obtain ⟨cs1, _, hfirst1, hvs1, _, _⟩ := src_run (P := P) hm.drew hs hy hsrc
          have hcsl1 := hvs1.length
          obtain ⟨k, rest, hk, hrest, hrun⟩ := grows none 0 0 [] cs1 hcx (by omega) (by rw [Nat.zero_add]; exact hroom) (by rw [hcx]; rfl) hfirst1
          rw [Nat.zero_add] at hk hrun hrest
          refine ⟨_, _, hrun, ?_⟩
          have hrl : ([] ++ cs1 ++ rest).length = k * size := by
            simp only [List.nil_append, List.length_append, hrest, ← hcsl1, hysl]
            rw [← Nat.add_mul]; congr 1; omega
          obtain ⟨h2, h3, h4, h5, h6⟩ := make_done (h := h) hm.drew hs (obj := .cells ys 0 false) (blk := .cells ⟨[] ++ cs1 ++ rest⟩ e) (sz := ([] ++ cs1 ++ rest).length)
            (fun σ' g' w' hext hw => .own ys ([] ++ cs1 ++ rest) 0 e hm.size rfl hw rfl (by
              rw [List.nil_append, hcsl1, List.take_left']
              · exact hvs1.ext hext
              · rfl) (by simp; omega) hys1) rfl
          refine ⟨_, ?_, h3, .slice _ _ _ _ _ 0 ys 0 false rfl h5 (Nat.le_refl _) hk (fun _ => .inl ⟨by simp only [if_pos], fun _ => ?_⟩), h4⟩
          · exact ⟨h2.ext, h2.size, h2.os, h2.tape, h2.output, h2.rest, h2.own⟩
          · simp only [if_pos]; omega
        · cases he
    | some p =>
      (try simp only at he)
      cases hob : h[p.block]? with
      | none => rw [hob] at he; cases he
      | some ob =>
        rw [hob] at he
        cases ob with
        | map es => cases he
        | gone => cases he
        | cells vals ver ro =>
          cases ro with
          | true => cases he
          | false =>
            (try simp only at he)
            split at he
            · rename_i hcond
              obtain ⟨rfl, hspot, hoff, hml, hroom⟩ := hcond
              simp only [Option.some.injEq, Prod.mk.injEq] at he
              obtain ⟨rfl, rfl⟩ := he
              obtain ⟨q0, cap0, hcxe, _⟩ := hx.slice_inv
              rw [hcxe] at hx
              cases hx with
              | slice _ _ _ _ _ v vals' ver' ro' hsp hg hle hn hq =>
                have hob' := hs _ _ hg
                rw [hob] at hob'
                simp only [Option.some.injEq, AObj.cells.injEq] at hob'
                obtain ⟨rfl, rfl, rfl⟩ := hob'
                rw [hspot] at hsp; cases hsp
                have hq := hq rfl
                have ho := hm.obj _ _ hg
                cases ho with
                | own _ ds _ el hb0 h0 hwb hsz hvv hl h1' =>
                  have hmd : m * c ≤ ds.length := by omega
                  by_cases hfit : m + n ≤ cap0
                  · -- in place
                    rcases hq with ⟨hq, hbound⟩ | ⟨hm0, hc0⟩
                    · have hbound := hbound rfl
                      rw [h0, hoff, Nat.add_zero, Nat.zero_add] at hbound
                      rw [h0, hoff, Nat.add_zero] at hq
                      have hroom2 : m * c + cs.length ≤ ds.length := by
                        rw [← hcsl, hysl, ← Nat.add_mul]
                        exact Nat.le_trans (Nat.mul_le_mul_right _ hfit) (by omega)
                      have hsc : ∀ x ∈ cs, single x = true := by
                        intro x hx
                        obtain ⟨i, hi⟩ := List.getElem?_of_mem hx
                        obtain ⟨u, hu, hur⟩ := hvs.get' hi
                        rw [hur.single]; exact hys1 u (List.mem_of_getElem? hu)
                      obtain ⟨w', hrun, hw1, hw2, hw3, hw4, hw5, hw6⟩ := storeCells_run (P := P) (el := el) cs 0 (m * c) ds w hwb (by omega) hsc
                      refine ⟨_, w', fits (some q0) m cap0 w' hcxe hfit (fun a ha => ?_) (fun h => by cases h), ?_⟩
                      · cases ha; rw [hq, addr_add, Nat.zero_add]; exact hrun
                      · obtain ⟨h2, h3, h4, h5⟩ := put_done (h := h) hm hs hg rfl (new := .cells (vals.take (m * c) ++ ys) (ver + 1) false) rfl (σ p.block) w'
                          (fun vals' ver' ro' e => by cases e; exact ⟨_, _, rfl, by omega, fun e => by omega⟩) (fun es e => by cases e)
                          (fun σ' g' he => by
                            refine .own _ (splice ds (0 + m * c) cs) (ver + 1) el hb0 h0 (by rw [hw1, Nat.add_comm]) (by rw [splice_length (by omega)]; exact hsz) ?_ ?_ ?_
                            · have hlen2 : (vals.take (m * c) ++ ys).length = m * c + cs.length := by rw [List.length_append, List.length_take, hcsl]; omega
                              rw [hlen2, Nat.zero_add]
                              have : (splice ds (m * c) cs).take (m * c + cs.length) = ds.take (m * c) ++ cs := by
                                unfold splice
                                rw [List.take_append, List.take_of_length_le (by simp; omega)]
                                simp
                                omega
                              rw [this]
                              refine VRs.append ?_ (hvs.ext he)
                              have := (hvv.take (m * c)).ext he
                              rw [List.take_take, Nat.min_eq_left (by omega)] at this
                              exact this
                            · rw [splice_length (by omega), List.length_append, List.length_take, hcsl]; omega
                            · intro x hx
                              rcases List.mem_append.1 hx with hx | hx
                              · exact h1' x (List.mem_of_mem_take hx)
                              · exact hys1 x hx)
                          (fun b hb' hne => hw2 b hne) (.inl rfl) (by omega) hw4 hw5 hw6
                        refine ⟨_, h2, h3, .slice _ _ _ _ _ (ver + 1) _ (ver + 1) false rfl h5 (Nat.le_refl _) hfit (fun _ => .inl ⟨?_, fun _ => ?_⟩), h4⟩
                        · simp only [if_pos]; rw [hq, h0]
                        · simp only [if_pos]; rw [h0]; omega
                    · subst hm0; subst hc0
                      have hn0 : n = 0 := by omega
                      subst hn0
                      have hys0 : ys = [] := List.length_eq_zero_iff.1 (by rw [hysl]; simp)
                      have hcs0 : cs = [] := List.length_eq_zero_iff.1 (by rw [← hcsl, hys0]; rfl)
                      subst hcs0; subst hys0
                      refine ⟨_, w, fits (some q0) 0 0 w hcxe (Nat.le_refl _) (fun a ha => rfl) (fun h => by cases h), ?_⟩
                      obtain ⟨h2, h3, h4, h5⟩ := put_done (h := h) hm hs hg rfl (new := .cells (vals.take (0 * c) ++ []) (ver + 1) false) rfl (σ p.block) w
                        (fun vals' ver' ro' e => by cases e; exact ⟨_, _, rfl, by omega, fun e => by omega⟩) (fun es e => by cases e)
                        (fun σ' g' he => by
                          have hemp : vals.take (0 * c) ++ [] = ([] : List Value) := by simp
                          rw [hemp]
                          exact .own [] ds (ver + 1) el hb0 h0 hwb hsz .nil (by simp) (fun x hx => by simp at hx))
                        (fun b hb' hne => rfl) (.inl rfl) (Nat.le_refl _) rfl rfl rfl
                      exact ⟨_, h2, h3, .slice _ _ _ _ _ (ver + 1) _ (ver + 1) false rfl h5 (Nat.le_refl _) (Nat.le_refl _) (fun _ => .inr ⟨rfl, rfl⟩), h4⟩
                  · -- a new row
                    obtain ⟨cs1, _, hfirst1, hvs1, _, _⟩ := src_run (P := P) hm.drew hs hy hsrc
                    have hcsl1 := hvs1.length
                    have hdrew := hm.drew
                    have hold : (Builtin.firstCells c m cx).run P { w with drawn := w.drawn + 1 } = .ok ⟨ds.take (m * c)⟩ { w with drawn := w.drawn + 1 } := by
                      rw [hcxe]
                      rcases hq with ⟨hq, hbound⟩ | ⟨hm0, hc0⟩
                      · simp only [Builtin.firstCells]
                        rw [hq, h0, hoff, Nat.add_zero]
                        refine loadCells_run (by rw [List.length_take]; omega) fun j x hj => ?_
                        rw [List.getElem?_take] at hj
                        split at hj
                        · simp only [World.cell?, hwb, Nat.zero_add]
                          simpa using hj
                        · cases hj
                      · subst hm0
                        simp only [Builtin.firstCells, Nat.zero_mul, List.take_zero]
                        rfl
                    obtain ⟨k, rest, hk, hrest, hrun⟩ := grows (some q0) m cap0 (ds.take (m * c)) cs1 hcxe hfit hroom hold hfirst1
                    have htl : (ds.take (m * c)).length = m * c := by rw [List.length_take]; omega
                    have hrl : (ds.take (m * c) ++ cs1 ++ rest).length = k * c := by
                      simp only [List.length_append, hrest, htl, ← hcsl1, hysl]
                      rw [← Nat.add_mul, ← Nat.add_mul]; congr 1; omega
                    refine ⟨_, _, hrun, ?_⟩
                    obtain ⟨h2, h3, h4, h5⟩ := put_done (h := h) hdrew hs hg rfl (new := .cells (vals.take (m * c) ++ ys) (ver + 1) false) rfl ⟨w.heap.size, 0, (ds.take (m * c) ++ cs1 ++ rest).length⟩
                      { { w with drawn := w.drawn + 1 } with heap := w.heap.push (.cells ⟨ds.take (m * c) ++ cs1 ++ rest⟩ e) }
                      (fun vals' ver' ro' e => by cases e; exact ⟨_, _, rfl, by omega, fun e => by omega⟩) (fun es e => by cases e)
                      (fun σ' g' he => by
                        refine .own _ (ds.take (m * c) ++ cs1 ++ rest) (ver + 1) e hm.size rfl (by simp) rfl ?_ ?_ ?_
                        · have hlen2 : (vals.take (m * c) ++ ys).length = (ds.take (m * c) ++ cs1).length := by rw [List.length_append, List.length_append, htl, List.length_take, hcsl1]; omega
                          rw [hlen2, List.take_left']
                          · refine VRs.append ?_ (hvs1.ext he)
                            have := (hvv.take (m * c)).ext he
                            rw [List.take_take, Nat.min_eq_left (by omega)] at this
                            exact this
                          · rfl
                        · rw [List.length_append, List.length_take, List.length_append, List.length_append, htl, hcsl1]; omega
                        · intro x hx
                          rcases List.mem_append.1 hx with hx | hx
                          · exact h1' x (List.mem_of_mem_take hx)
                          · exact hys1 x hx)
                      (fun b hb' hne => by
                        show (w.heap.push _)[b]? = _
                        rw [Array.getElem?_push, if_neg (by simp only at hb'; omega)])
                      (.inr (Nat.le_refl _)) (by simp) rfl rfl rfl
                    refine ⟨_, ?_, h3, .slice _ _ _ _ _ (ver + 1) _ (ver + 1) false rfl h5 (Nat.le_refl _) hk (fun _ => .inl ⟨by simp only [if_pos], fun _ => ?_⟩), h4⟩
                    · exact ⟨h2.ext, h2.size, h2.os, h2.tape, h2.output, h2.rest, h2.own⟩
                    · simp only [if_pos]; omega
            · cases he
end Go.Proofs.YtfbldlgjlgcpoaaDoor.AM

namespace Go.Proofs.YtfbldlgjlgcpoaaDoor.AM
open Go.RowKit

set_option linter.unusedSimpArgs false
set_option linter.unusedVariables false
variable {P : Program} {G N : Nat} {σ : Emb} {g : Mem} {w : World} {h : Heap}

theorem bytes_beq {a b : ByteArray} : (a == b) = true ↔ a = b := by
  rw [beq_toListBytes, beq_iff_eq, ByteArray.toList_eq, ByteArray.toList_eq]
  constructor
  · intro h
    obtain ⟨⟨x⟩⟩ := a
    obtain ⟨⟨y⟩⟩ := b
    simp only at h
    subst h; rfl
  · rintro rfl; rfl
theorem sameBits_of {kk : EqK} {k j : Value} (hk : keyOk kk k = true) (h : leafEq kk k j = some true) (n : Nat) : j = k ∧ Instr.sameBits n j k = true := by
  cases kk <;> cases k <;> simp only [keyOk, Bool.false_eq_true] at hk <;> cases j <;> simp [leafEq] at h
  · subst h; exact ⟨rfl, by cases n <;> simp [Instr.sameBits]⟩
  · obtain ⟨rfl, rfl⟩ := h; exact ⟨rfl, by cases n <;> simp [Instr.sameBits]⟩
  · obtain rfl := bytes_beq.1 h
    exact ⟨rfl, by cases n <;> simp [Instr.sameBits, bytes_beq]⟩
theorem setKey_sound {kk : EqK} {d : TypeDesc} (hd : eqK d = some kk) {k v cv : Value} (hk : keyOk kk k = true) (hpl : plain1 k = true) (hv : VR σ g v cv) : ∀ {es : List (Value × Value)} {ms : List MapEntry} (_ : EntriesR σ g es ms) (i : Nat) {es' : List (Value × Value)},
    setKey kk k v es = some es' →
    (∃ j c e, Instr.findNow d k ms i = some (some (i + j, c)) ∧ ms[j]? = some e ∧ e.key = k ∧ EntriesR σ g es' (ms.set j { e with key := k, val := cv })) ∨
    (Instr.findNow d k ms i = some none ∧ ∀ born, EntriesR σ g es' (ms ++ [{ key := k, val := cv, born := born }]))
  | _, _, .nil, i, es', h => by
    simp only [setKey, Option.some.injEq] at h; subst h
    exact .inr ⟨rfl, fun born => .cons _ _ _ _ ⟨rfl, hpl, hv⟩ .nil⟩
  | _, _, .cons e m es ms he hs, i, es', h => by
    obtain ⟨kj, u⟩ := e
    unfold setKey at h
    have hkey : m.key = kj := he.key
    cases hq : leafEq kk k kj with
    | none => rw [hq] at h; cases h
    | some b =>
      rw [hq] at h
      have hn := sameNow_sound hd hq
      rw [← hkey] at hn
      cases b with
      | true =>
        simp only [Option.some.injEq] at h; subst h
        obtain ⟨hkk, _⟩ := sameBits_of hk hq 0
        refine .inl ⟨0, m.val, m, by unfold Instr.findNow; rw [hn]; rfl, rfl, by rw [hkey, hkk], ?_⟩
        exact .cons _ _ _ _ ⟨rfl, hpl, hv⟩ hs
      | false =>
        obtain ⟨es2, h2, rfl⟩ := opt_map_some h
        rcases setKey_sound hd hk hpl hv hs (i + 1) h2 with ⟨j, c, e, h3, h4, h5, h6⟩ | ⟨h3, h4⟩
        · refine .inl ⟨j + 1, c, e, ?_, h4, h5, .cons _ _ _ _ he h6⟩
          unfold Instr.findNow; rw [hn]; simp only; rw [h3]; congr 3; omega
        · exact .inr ⟨by unfold Instr.findNow; rw [hn]; exact h3, fun born => .cons _ _ _ _ he (h4 born)⟩

theorem keyOk_plain {kk : EqK} {k : Value} (h : keyOk kk k = true) : plain1 k = true := by
  cases kk <;> cases k <;> simp only [keyOk, Bool.false_eq_true] at h <;> rfl

theorem setObj_run {b : Nat} {o : Obj} {ms : Array MapEntry} {clock : Nat} (hb : w.heap[b]? = some (.map ms clock)) : (setObj b o).run P w = .ok () { w with heap := w.heap.setIfInBounds b o } := by
  simp [setObj, Sem.run, hb]

set_option maxHeartbeats 1000000 in
theorem update_done (hm : MR G N σ g w) (hs : Sub g h) {t kt e : TypeId} {d : TypeDesc} {kk : EqK} (ht : P.underlying t = some (.map kt e)) (hk : P.underlying kt = some d) (hd : eqK d = some kk)
    {b : Nat} {cm k ck v cv : Value} (hvm : VR σ g (.map (some b)) cm) (hvk : VR σ g k ck) (hvv : VR σ g v cv) (hok : keyOk kk k = true) {es es' : List (Value × Value)} (hb : h[b]? = some (.map es)) (hse : setKey kk k v es = some es') :
    ∃ w', (Instr.mapUpdate t cm ck cv).run P w = .ok () w' ∧ Done G N σ g w h undef (h.set b (.map es')) undef w' := by
  have hck := keyOk_inv hok hvk
  subst hck
  cases hvm with
  | map _ s es0 hg hsb =>
    have hb' := hs _ _ hg
    rw [hb] at hb'; cases hb'
    have ho := hm.obj _ _ hg
    cases ho with
    | map _ ms clock hbn hw hent =>
      rw [← hsb] at hw hbn
      have hslt : s < w.heap.size := (Array.getElem?_eq_some_iff.1 hw).1
      have hgo : (getObj s).run P w = .ok (.map ⟨ms⟩ clock) w := by simp [getObj, Sem.run, hw]
      have e0 : (10000 : Nat) = 9999 + 1 := rfl
      have hcheck := checkKey_run (w := w) hd hk hok false 9999
      have fin : ∀ (ms' : List MapEntry) (clock' : Nat), EntriesR σ g es' ms' → Done G N σ g w h undef (h.set b (.map es')) undef { w with heap := w.heap.setIfInBounds s (.map ⟨ms'⟩ clock') } := by
        intro ms' clock' hent'
        obtain ⟨h2, h3, h4, h5⟩ := put_done (h := h) hm hs hg rfl (new := .map es') rfl (σ b) { w with heap := w.heap.setIfInBounds s (.map ⟨ms'⟩ clock') }
          (fun vals ver ro e => by cases e) (fun es e => ⟨es', rfl, rfl⟩)
          (fun σ' g' he => .map es' ms' clock' (by rw [← hsb]; exact hbn) (by rw [← hsb]; simp [hslt]) (hent'.ext he))
          (fun b' hb' hne => by
            show (w.heap.setIfInBounds s _)[b']? = _
            rw [Array.getElem?_setIfInBounds_ne (by rw [hsb]; exact fun e => hne e.symm)])
          (.inl rfl) (by simp) rfl rfl rfl
        exact ⟨_, h2, h3, .tuple [] [] .nil, h4⟩
      unfold Instr.mapUpdate
      rw [e0]
      simp only [Sem.run_bind, run_und ht, Result.andThen_ok, hgo, hcheck]
      rcases setKey_sound hd hok (keyOk_plain hok) hvv hent 0 hse with ⟨j, c, en, h3, h4, h5, h6⟩ | ⟨h3, h4⟩
      · have hf : (Instr.findKey kt ck ms).run P w = .ok (some (j, c)) w := by
          simp only [Instr.findKey, Sem.run_bind, run_und hk, Result.andThen_ok, h3, Nat.zero_add, Sem.run_pure]
        rw [hf]
        have hkey : (((⟨ms⟩ : Array MapEntry)[j]?.map (·.key)).getD ck) = ck := by simp [h4, h5]
        have hsame : Instr.sameBits 10000 ck ck = true := by
          have : leafEq kk ck ck = some true := by cases kk <;> cases ck <;> simp only [keyOk, Bool.false_eq_true] at hok <;> simp [leafEq, bytes_beq]
          exact (sameBits_of hok this 10000).2
        simp only [Result.andThen_ok, Sem.run_bind, hkey, Instr.keyThatStays, hsame, if_true, Sem.run_pure, setObj_run hw]
        have hmod : (⟨ms⟩ : Array MapEntry).modify j (fun e => { e with key := ck, val := cv }) = ⟨ms.set j { en with key := ck, val := cv }⟩ := by
          apply Array.ext'
          apply List.ext_getElem?
          intro i
          simp only [Array.getElem?_toList, Array.getElem?_modify, List.getElem?_toArray]
          rw [List.getElem?_set]
          by_cases hij : j = i
          · subst hij
            have hlt := (List.getElem?_eq_some_iff.1 h4).1
            rw [if_pos rfl, if_pos rfl, if_pos hlt, h4]
            rfl
          · simp [hij]
        rw [hmod]
        exact ⟨_, rfl, fin _ _ h6⟩
      · have hf : (Instr.findKey kt ck ms).run P w = .ok none w := by
          simp only [Instr.findKey, Sem.run_bind, run_und hk, Result.andThen_ok, h3, Sem.run_pure]
        rw [hf]
        simp only [Result.andThen_ok, setObj_run hw]
        exact ⟨_, rfl, by simpa using fin _ (clock + 1) (h4 clock)⟩

/-- The operation comes to a value in a world behind, or to none. -/
def Acts (P : Program) (G N : Nat) (σ : Emb) (g : Mem) (w : World) (h : Heap) (v : Value) (h' : Heap) (s : Sem Next) : Prop :=
  ∃ cv w', (s.run P w = .ok (.value cv) w' ∨ (s.run P w = .ok .skip w' ∧ cv = undef)) ∧ Done G N σ g w h v h' cv w'

set_option maxHeartbeats 1000000 in
theorem act_op (call : Caller) (hm : MR G N σ g w) (hs : Sub g h) {ρ ρc : Operand → Value} {o : Oper} {ao : AOp} (hn : normOp P o.type o.op = some ao) (hk : ao.acts = true)
    (hv : ∀ x ∈ o.op.operands, VR σ g (ρ x) (ρc x)) {v : Value} {h' : Heap} (he : evOp call ρ h ao = some (v, h')) (hcall : ∀ f l, ao ≠ .call f l) (hcallv : ∀ f l, ao ≠ .callv f l) :
    Acts P G N σ g w h v h' (execOp ρc o) := by
  obtain ⟨dst, op, ty, pos, after, guard⟩ := o
  simp only at hn hv
  cases op
  case store t a x =>
    have ha := hv a (by simp [Op.operands])
    have hx := hv x (by simp [Op.operands])
    simp only [normOp] at hn
    cases hag : aggT P t with
    | none => rw [hag] at hn; cases hn
    | some b =>
      cases hz : sizeT P t with
      | none => rw [hag, hz] at hn; cases b <;> cases hn
      | some n =>
        rw [hag, hz] at hn
        have fin : ∀ (p : Addr) (l cs : List Value), ρ a = .pointer (some p) → VRs σ g l cs → (∀ x ∈ l, single x = true) → h.write p l = some h' → (ρc x).cells = ⟨cs⟩ → cs.length = n → v = undef → Acts P G N σ g w h v h' (execOp ρc ⟨dst, .store t a x, ty, pos, after, guard⟩) := by
          intro p l cs hp hvs h1 hw hcells hlen hvu
          subst hvu
          rw [hp] at ha
          obtain ⟨q, hq⟩ := ha.ptr_inv
          rw [hq] at ha
          obtain ⟨w', hrun, hd⟩ := write_done (P := P) hm hs ha hvs h1 hw
          refine ⟨undef, w', .inr ⟨?_, rfl⟩, hd⟩
          have hszc : (⟨cs⟩ : Array Value).size = cs.length := rfl
          simp only [execOp, Instr.storeAt, hq, Instr.sureAddr, Sem.run_bind, Sem.run_pure, Result.andThen_ok, storeVar, run_sizeOf hz, hcells, hszc, hlen, ne_eq, not_true_eq_false, if_false, hrun]
        cases b with
        | true =>
          simp only [Option.some.injEq] at hn; subst hn
          simp only [evOp] at he
          split at he
          · rename_i p cs0 hp hxs
            split at he
            · rename_i hsz
              obtain ⟨h2, hw, he⟩ := opt_map_some he
              simp only [Prod.mk.injEq] at he
              obtain ⟨rfl, rfl⟩ := he
              rw [hxs] at hx
              obtain ⟨ys, hys, hvs, h1⟩ := hx.agg_inv
              exact fin p _ ys hp hvs h1 hw (by rw [hys]; rfl) (by rw [← hvs.length]; exact hsz) rfl
            · cases he
          · cases he
        | false =>
          by_cases hn1 : n = 1
          · subst hn1
            simp only [Option.some.injEq] at hn; subst hn
            simp only [evOp] at he
            split at he
            · rename_i p hp
              have key : single (ρ x) = true → (h.write1 p (ρ x)).map (undef, ·) = some (v, h') → Acts P G N σ g w h v h' (execOp ρc ⟨dst, .store t a x, ty, pos, after, guard⟩) := by
                intro hsx he
                obtain ⟨h2, hw, he⟩ := opt_map_some he
                simp only [Prod.mk.injEq] at he
                obtain ⟨rfl, rfl⟩ := he
                have hw2 : h.write p [ρ x] = some h2 := by
                  unfold Heap.write1 at hw
                  unfold Heap.write
                  split at hw
                  · rename_i vals ver hob
                    split at hw
                    · rename_i hc
                      rw [if_pos ⟨hc.1, by simp only [List.length_cons, List.length_nil]; omega⟩]
                      rw [← hw]
                      congr 3
                      unfold splice
                      rw [List.set_eq_take_append_cons_drop, if_pos hc.2]
                      simp
                    · cases hw
                  · cases hw
                have hsc : single (ρc x) = true := by rw [hx.single]; exact hsx
                exact fin p [ρ x] [ρc x] hp (.cons _ _ _ _ hx .nil) (fun y hy => by rw [List.mem_singleton.1 hy]; exact hsx) hw2 (by generalize ρc x = c at hsc; cases c <;> first | rfl | simp [single] at hsc) rfl rfl
              split at he
              · cases he
              · cases he
              · rename_i u h1 h2
                refine key ?_ he
                cases hu : ρ x <;> first | rfl | exact absurd hu (h1 _) | exact absurd hu (h2 _)
            · cases he
          · exfalso
            revert hn
            split <;> simp_all
  case mapUpdate t m k x =>
    have hmv := hv m (by simp [Op.operands])
    have hkv := hv k (by simp [Op.operands])
    have hxv := hv x (by simp [Op.operands])
    simp only [normOp] at hn
    cases hu : P.underlying t with
    | none => rw [hu] at hn; cases hn
    | some d =>
      rw [hu] at hn
      cases d <;> simp only [reduceCtorEq] at hn
      rename_i kt e
      cases hkk : (P.underlying kt).bind eqK with
      | none => rw [hkk] at hn; cases hn
      | some kk =>
        rw [hkk] at hn
        simp only [Option.some.injEq] at hn; subst hn
        obtain ⟨dk, hdk, hek⟩ := Option.bind_eq_some_iff.1 hkk
        simp only [evOp] at he
        split at he
        · rename_i b hmb
          split at he
          · rename_i es hb
            split at he
            · rename_i hok
              obtain ⟨es', hse, he⟩ := opt_map_some he
              simp only [Prod.mk.injEq] at he
              obtain ⟨rfl, rfl⟩ := he
              rw [hmb] at hmv
              obtain ⟨w', hrun, hd⟩ := update_done (P := P) hm hs hu hdk hek hmv hkv hxv hok hb hse
              exact ⟨undef, w', .inr ⟨by simp only [execOp, Sem.run_bind, hrun, Result.andThen_ok, Sem.run_pure], rfl⟩, hd⟩
            · cases he
          · cases he
        · cases he
  case call c =>
    obtain ⟨callee, ⟨as⟩, ⟨ts⟩⟩ := c
    simp only [normOp, normCall] at hn
    split at hn
    · rename_i x t
      exfalso
      repeat' split at hn
      all_goals first
        | (cases hn; done)
        | (simp only [Option.some.injEq] at hn; subst hn; simp [AOp.acts] at hk; done)
    · rename_i x y t u
      have hx := hv x (by simp [Op.operands, Call.operands])
      have hy := hv y (by simp [Op.operands, Call.operands])
      cases hut : P.underlying t with
      | none => rw [hut] at hn; cases hn
      | some d =>
        rw [hut] at hn
        cases d <;> simp only [reduceCtorEq] at hn
        rename_i e
        cases hz : sizeT P e with
        | none => rw [hz] at hn; cases hn
        | some n =>
          cases hb : bytesT P e with
          | none => rw [hz, hb] at hn; cases hn
          | some bb =>
            cases hzz : zeroOf P e with
            | none => rw [hz, hb, hzz] at hn; cases hn
            | some z =>
              rw [hz, hb, hzz] at hn
              simp only at hn
              split at hn
              · rename_i hcond
                simp only [Option.some.injEq] at hn; subst hn
                simp only [evOp] at he
                obtain ⟨cv, w', hrun, hd⟩ := append_done (P := P) hm hs hut hz hb hzz hcond.2.2.1 hcond.1 hcond.2.1 hcond.2.2.2.1 hcond.2.2.2.2 hx hy (ty := ty) he
                refine ⟨cv, w', .inl ?_, hd⟩
                simp only [execOp, resolve, List.map_toArray, List.map_cons, List.map_nil, Sem.run_bind, Sem.run_pure, Result.andThen_ok, invoke, builtin]
                rw [hrun]
                rfl
              · cases hn
    · split at hn
      · simp only [Option.some.injEq] at hn; subst hn; simp [AOp.acts] at hk
      · cases hn
    · split at hn
      · simp only [Option.some.injEq] at hn; subst hn; simp [AOp.acts] at hk
      · cases hn
    · split at hn
      · simp only [Option.some.injEq] at hn; exact absurd hn.symm (hcall _ _)
      · cases hn
    · simp only [Option.some.injEq] at hn; exact absurd hn.symm (hcallv _ _)
    · cases hn
  case binOp op t x y yt =>
    exfalso
    have eqs : ∀ neg, normEq P neg t x y = some ao → False := by
      intro neg hne
      unfold normEq at hne
      repeat' split at hne
      all_goals first
        | (cases hne; done)
        | (simp only [Option.some.injEq] at hne; subst hne; simp [AOp.acts] at hk; done)
        | (obtain ⟨z, _, rfl⟩ := opt_map_some hne; simp [AOp.acts] at hk; done)
    simp only [normOp] at hn
    cases op <;> simp only at hn
    case eql => exact eqs false hn
    case neq => exact eqs true hn
    all_goals
      split at hn
      · simp only [Option.some.injEq] at hn; subst hn; simp [AOp.acts] at hk
      · cases hn
  case makeFunc fn a b =>
    exfalso
    cases fn <;> simp only [normOp, reduceCtorEq, Option.some.injEq] at hn
    subst hn; simp [AOp.acts] at hk
  case makeMap t r =>
    exfalso
    have hn : normMap (P.underlying t) r = some ao := hn
    rw [normMap_mk hn] at hk
    simp [AOp.acts] at hk
  case slice t x lo hi mx =>
    exfalso
    cases mx with
    | some y => simp [normOp] at hn
    | none =>
      simp only [normOp] at hn
      repeat' split at hn
      all_goals first
        | (cases hn; done)
        | (simp only [Option.some.injEq] at hn; subst hn; simp [AOp.acts] at hk; done)
        | (obtain ⟨z, _, hn⟩ := Option.bind_eq_some_iff.1 hn
           split at hn <;> first | (cases hn; done) | (simp only [Option.some.injEq] at hn; subst hn; simp [AOp.acts] at hk; done))
  all_goals
    exfalso
    simp only [normOp, reduceCtorEq] at hn
    try (
      repeat' split at hn
      all_goals first
        | (cases hn; done)
        | (simp only [Option.some.injEq] at hn; subst hn; simp [AOp.acts] at hk; done)
        | (obtain ⟨z, _, rfl⟩ := opt_map_some hn; simp [AOp.acts] at hk; done)
        | (obtain ⟨z, _, hn⟩ := Option.bind_eq_some_iff.1 hn
           split at hn <;> first | (cases hn; done) | (simp only [Option.some.injEq] at hn; subst hn; simp [AOp.acts] at hk; done)))
end Go.Proofs.YtfbldlgjlgcpoaaDoor.AM

namespace Go.Proofs.YtfbldlgjlgcpoaaDoor.AM
open Go.RowKit

set_option linter.unusedSimpArgs false
set_option linter.unusedVariables false
variable {P : Program} {G N : Nat} {σ : Emb} {g : Mem} {w : World} {h : Heap}

/-- What a function of the abstract machine comes to the model's comes to. -/
def CallsOk (P : Program) (G N : Nat) (call : Caller) : Prop :=
  ∀ f args h v h', call f args h = some (v, h') → ∀ (σ : Emb) (g : Mem) (w : World) (cargs : List Value), Sub g h → MR G N σ g w → VRs σ g args cargs →
    entered P f = true ∧ Calls P f ⟨cargs⟩ w fun e w' => ∃ cv, e = .returned cv ∧ Done G N σ g w h v h' cv w'

theorem callFunc_run {f : FuncId} (h : entered P f = true) (args : Array Value) : (callFunc f args).run P w = .ok (.enter f args) w := by
  unfold entered at h
  cases hf : P.funcs[f]? with
  | none => rw [hf] at h; cases h
  | some fn =>
    rw [hf] at h
    simp only [Bool.and_eq_true, bne_iff_ne, ne_eq] at h
    obtain ⟨h1, h2⟩ := h
    have h3 : fn.body.isNone = false := by cases hb : fn.body <;> simp_all
    simp only [callFunc, Sem.run_bind, run_program, Result.andThen_ok, hf]
    simp [h2, h3]

/-- Calls stand for calls alone. -/
theorem norm_call {ty : TypeId} {op : Op} {ao : AOp} (hn : normOp P ty op = some ao) (hk : (∃ f l, ao = .call f l) ∨ ∃ f l, ao = .callv f l) : ∃ c, op = .call c := by
  have hno : (∀ f l, ao ≠ .call f l) → (∀ f l, ao ≠ .callv f l) → False := fun h1 h2 => by
    rcases hk with ⟨f, l, e⟩ | ⟨f, l, e⟩
    · exact h1 _ _ e
    · exact h2 _ _ e
  cases op
  case call c => exact ⟨c, rfl⟩
  case binOp op t x y yt =>
    exfalso
    have eqs : ∀ neg, normEq P neg t x y = some ao → False := by
      intro neg hne
      unfold normEq at hne
      repeat' split at hne
      all_goals first
        | (cases hne; done)
        | (simp only [Option.some.injEq] at hne; subst hne; exact hno (by simp) (by simp))
        | (obtain ⟨z, _, rfl⟩ := opt_map_some hne; exact hno (by simp) (by simp))
    simp only [normOp] at hn
    cases op <;> simp only at hn
    case eql => exact eqs false hn
    case neq => exact eqs true hn
    all_goals
      split at hn
      · simp only [Option.some.injEq] at hn; subst hn; exact hno (by simp) (by simp)
      · cases hn
  case makeFunc fn a b =>
    exfalso
    cases fn <;> simp only [normOp, reduceCtorEq, Option.some.injEq] at hn
    subst hn; exact hno (by simp) (by simp)
  case makeMap t r =>
    exfalso
    have hn : normMap (P.underlying t) r = some ao := hn
    rw [normMap_mk hn] at hno
    exact hno (by simp) (by simp)
  case slice t x lo hi mx =>
    exfalso
    cases mx with
    | some y => simp [normOp] at hn
    | none =>
      simp only [normOp] at hn
      repeat' split at hn
      all_goals first
        | (cases hn; done)
        | (simp only [Option.some.injEq] at hn; subst hn; exact hno (by simp) (by simp))
        | (obtain ⟨z, _, hn⟩ := Option.bind_eq_some_iff.1 hn
           split at hn <;> first | (cases hn; done) | (simp only [Option.some.injEq] at hn; subst hn; exact hno (by simp) (by simp)))
  all_goals
    exfalso
    simp only [normOp, reduceCtorEq] at hn
    try (
      repeat' split at hn
      all_goals first
        | (cases hn; done)
        | (simp only [Option.some.injEq] at hn; subst hn; exact hno (by simp) (by simp))
        | (obtain ⟨z, _, rfl⟩ := opt_map_some hn; exact hno (by simp) (by simp))
        | (obtain ⟨z, _, hn⟩ := Option.bind_eq_some_iff.1 hn
           split at hn <;> first | (cases hn; done) | (simp only [Option.some.injEq] at hn; subst hn; exact hno (by simp) (by simp))))

/-- An operation, whatever it is. -/
theorem op_wp {call : Caller} (hF : CallsOk P G N call) (hm : MR G N σ g w) (hs : Sub g h) {o : Oper} {ao : AOp} (hn : normOp P o.type o.op = some ao) {ρ : Operand → Value} {a : Act}
    (hv : ∀ x ∈ o.op.operands, VR σ g (ρ x) (a.eval x)) (hc : ∀ v, ρ (.const v) = v) (hfn : ∀ f, ρ (.func f) = .func (.func f) #[] #[]) {v : Value} {h' : Heap} (he : evOp call ρ h ao = some (v, h'))
    {next : Act → World → Prop} {Q : Exit → Act → World → Prop} (hnext : ∀ cv w', Done G N σ g w h v h' cv w' → next (a.put o.dst cv) w') : o.wp P a w next Q := by
  unfold Oper.wp
  by_cases hacts : ao.acts = true
  · by_cases hcl : ∃ f l, ao = .call f l
    · obtain ⟨f, l, rfl⟩ := hcl
      obtain ⟨dst, op, ty, pos, after, guard⟩ := o
      obtain ⟨c, rfl⟩ : ∃ c, op = .call c := norm_call hn (.inl ⟨f, l, rfl⟩)
      · obtain ⟨callee, ⟨as⟩, ⟨ts⟩⟩ := c
        simp only [normOp, normCall] at hn
        have hcall : callee = .value (.func f) ∧ as = l := by
          split at hn
          · repeat' split at hn
            all_goals first | (cases hn; done)
          · repeat' split at hn
            all_goals first | (cases hn; done)
          · split at hn <;> cases hn
          · split at hn <;> cases hn
          · split at hn
            · simp only [Option.some.injEq, AOp.call.injEq] at hn; obtain ⟨rfl, rfl⟩ := hn; exact ⟨rfl, rfl⟩
            · cases hn
          · cases hn
          · cases hn
        obtain ⟨rfl, rfl⟩ := hcall
        simp only [evOp] at he
        have hargs : VRs σ g (as.map ρ) (as.map a.eval) := VRs_map fun x hx => hv x (by simp [Op.operands, Call.operands, hx])
        obtain ⟨hent, hcalls⟩ := hF _ _ _ _ _ he σ g w _ hs hm hargs
        have hrun : (execOp a.eval ⟨dst, .call ⟨.value (.func f), ⟨as⟩, ⟨ts⟩⟩, ty, pos, after, guard⟩).run P w = .ok (.enter f ⟨as.map a.eval⟩) w := by
          simp only [execOp, resolve, Sem.run_bind, Deferred.ofValue, Act.eval, Sem.run_pure, Result.andThen_ok, invoke]
          rw [callFunc_run hent]
          simp
        rw [hrun]
        refine hcalls.mono fun e w' hh => ?_
        obtain ⟨cv, rfl, hd⟩ := hh
        exact hnext cv w' hd
    · by_cases hcl' : ∃ f l, ao = .callv f l
      · obtain ⟨f, l, rfl⟩ := hcl'
        obtain ⟨dst, op, ty, pos, after, guard⟩ := o
        obtain ⟨c, rfl⟩ : ∃ c, op = .call c := norm_call hn (.inr ⟨f, l, rfl⟩)
        obtain ⟨callee, ⟨as⟩, ⟨ts⟩⟩ := c
        simp only [normOp, normCall] at hn
        have hcall : callee = .value f ∧ as = l := by
          split at hn
          · repeat' split at hn
            all_goals first | (cases hn; done)
          · repeat' split at hn
            all_goals first | (cases hn; done)
          · split at hn <;> cases hn
          · split at hn <;> cases hn
          · split at hn <;> cases hn
          · simp only [Option.some.injEq, AOp.callv.injEq] at hn; obtain ⟨rfl, rfl⟩ := hn; exact ⟨rfl, rfl⟩
          · cases hn
        obtain ⟨rfl, rfl⟩ := hcall
        have hf := hv f (by simp [Op.operands, Call.operands])
        simp only [evOp] at he
        split at he
        · rename_i gid fa fb hfv
          rw [hfv] at hf
          generalize hcf : a.eval f = cf at hf
          cases hf with
          | func _ xs ys us vs hx hu =>
            have hargs : VRs σ g (as.map ρ) (as.map a.eval) := VRs_map fun x hx => hv x (by simp [Op.operands, Call.operands, hx])
            obtain ⟨hent, hcalls⟩ := hF _ _ _ _ _ he σ g w _ hs hm ((hx.append hargs).append hu)
            have hrun : (execOp a.eval ⟨dst, .call ⟨.value f, ⟨as⟩, ⟨ts⟩⟩, ty, pos, after, guard⟩).run P w = .ok (.enter gid ⟨ys ++ as.map a.eval ++ vs⟩) w := by
              simp only [execOp, resolve, Sem.run_bind, hcf, Deferred.ofValue, Sem.run_pure, Result.andThen_ok, invoke]
              rw [callFunc_run hent]
              simp
            rw [hrun]
            refine hcalls.mono fun e w' hh => ?_
            obtain ⟨cv, rfl, hd⟩ := hh
            exact hnext cv w' hd
        · cases he
      · obtain ⟨cv, w', hrun, hd⟩ := act_op call hm hs hn hacts hv he (fun f l e => hcl ⟨f, l, e⟩) (fun f l e => hcl' ⟨f, l, e⟩)
        rcases hrun with hrun | ⟨hrun, rfl⟩
        · rw [hrun]; exact hnext cv w' hd
        · rw [hrun]; exact hnext undef w' hd
  · by_cases hmakes : ao.makes = true
    · obtain ⟨cv, w', hrun, hd⟩ := make_op call hm hs hn hmakes hv (fun v => ⟨hc v, rfl⟩) he
      rw [hrun]; exact hnext cv w' hd
    · obtain ⟨rfl, cv, hrun, hvr⟩ := still_op call hm hs hn (by simpa using hacts) (by simpa using hmakes) hv (fun v => ⟨hc v, rfl⟩) he
      rw [hrun]; exact hnext cv w (Done.same hm hs hvr)
end Go.Proofs.YtfbldlgjlgcpoaaDoor.AM

namespace Go.Proofs.YtfbldlgjlgcpoaaDoor.AM
open Go.RowKit

set_option linter.unusedSimpArgs false
set_option linter.unusedVariables false
variable {P : Program} {G N : Nat} {σ : Emb} {g : Mem} {w : World} {h : Heap}

/-- The state behind, on both sides. -/
def To (G N : Nat) (σ : Emb) (g : Mem) (w : World) (h : Heap) (s' : St) (a' : Act) (w' : World) : Prop :=
  ∃ σ', Go N σ g w σ' (grow g h s'.h) w' ∧ MR G N σ' (grow g h s'.h) w' ∧ VRs σ' (grow g h s'.h) s'.t a'.tmps.toList ∧ Holes g h s'.h ∧ a'.defers = []
theorem grow_ext {σ' : Emb} {h' : Heap} (hs : Sub g h) (he : Ext σ g σ' (grow g h h')) (hg : ∀ i, g i ≠ some .gone) : ∀ i, i < h.length → g i ≠ none → h'[i]? ≠ none := by
  intro i hi hne
  cases hgi : g i with
  | none => exact absurd hgi hne
  | some o =>
    cases o with
    | cells vals ver ro =>
      obtain ⟨vals', ver', h1, _⟩ := he.cells _ _ _ _ hgi
      unfold grow at h1; rw [if_pos hi, hgi] at h1
      simp only at h1
      rw [h1]; simp
    | map es =>
      obtain ⟨es', h1, _⟩ := he.map _ _ hgi
      unfold grow at h1; rw [if_pos hi, hgi] at h1
      simp only at h1
      rw [h1]; simp
    | gone => exact absurd hgi (hg i)
theorem MR.noGone (hm : MR G N σ g w) : ∀ i, g i ≠ some .gone := fun i hi => by cases hm.obj _ _ hi
/-- Two steps, one behind the other. -/
theorem To.trans {s₁ s₂ : St} {a₁ a₂ : Act} {w₁ w₂ : World} {σ₁ : Emb} (hm0 : MR G N σ g w) (hs0 : Sub g h) (hgo : Go N σ g w σ₁ (grow g h s₁.h) w₁) (hh : Holes g h s₁.h)
    (h2 : To G N σ₁ (grow g h s₁.h) w₁ s₁.h s₂ a₂ w₂) : To G N σ g w h s₂ a₂ w₂ := by
  obtain ⟨σ₂, hgo2, hm2, hv2, hh2, hd2⟩ := h2
  have e := grow_trans (h₃ := s₂.h) hh (grow_ext hs0 hgo.ext hm0.noGone)
  rw [e] at hgo2 hm2 hv2
  exact ⟨σ₂, hgo.trans hgo2, hm2, hv2, hh.trans hh2, hd2⟩
theorem To.refl {s : St} {a : Act} (hm : MR G N σ g w) (hs : Sub g s.h) (hv : VRs σ g s.t a.tmps.toList) (hd : a.defers = []) : To G N σ g w s.h s a w := by
  refine ⟨σ, ?_, ?_, ?_, .refl _ _, hd⟩ <;> rw [grow_same hs]
  · exact .refl _ _ _ _
  · exact hm
  · exact hv

theorem eval_VR (hm : MR G N σ g w) {s : St} {a : Act} (hv : VRs σ g s.t a.tmps.toList) {x : Operand} (hx : operandOk G x = true) : VR σ g (s.eval x) (a.eval x) := by
  cases x with
  | tmp t =>
    have := hv.getD t
    simp only [St.eval, Act.eval]
    rw [show a.tmps.getD t undef = a.tmps.toList.getD t undef from by simp [Array.getD_eq_getD_getElem?, List.getD_eq_getElem?_getD]]
    exact this
  | const v => exact .plain hx
  | global g' =>
    obtain ⟨vals, h1, h2, h3⟩ := hm.glob g' (by simpa [operandOk] using hx)
    refine .ptr _ _ 0 vals 0 true rfl h1 (Nat.le_refl _) fun _ => ?_
    simp only
    rw [h2, h3]
  | func f => exact .func _ [] [] [] [] .nil .nil
theorem put_VRs {σ' : Emb} {g' : Mem} {s : St} {a : Act} (hv : VRs σ' g' s.t a.tmps.toList) {v cv : Value} (hvr : VR σ' g' v cv) (d : Option Nat) (h' : Heap) :
    VRs σ' g' (s.put d v h').t (a.put d cv).tmps.toList := by
  cases d with
  | none => exact hv
  | some d =>
    simp only [St.put, Act.put]
    rw [Array.toList_setIfInBounds]
    exact hv.set d hvr
theorem put_h (s : St) (d : Option Nat) (v : Value) (h' : Heap) : (s.put d v h').h = h' := by cases d <;> rfl
theorem put_defers (a : Act) (d : Option Nat) (v : Value) : (a.put d v).defers = a.defers := by cases d <;> rfl

/-- Whether an operation is wanted. -/
theorem wants_iff {s : St} {a : Act} (hv : VRs σ g s.t a.tmps.toList) {ops : Array Oper} {o : Oper} {gd : Option (Nat × Bool)} (hg : normGuard ops o.guard = some gd) :
    Region.wanted o (yielded ops a.tmps) = wants s gd := by
  unfold normGuard at hg
  unfold Region.wanted
  split at hg
  · rename_i hq
    simp only [Option.some.injEq] at hg; subst hg
    rw [hq]; rfl
  · rename_i j b hq
    split at hg
    · rename_i t ht
      simp only [Option.some.injEq] at hg; subst hg
      rw [hq]
      simp only [yielded, ht, Option.bind_some, wants]
      have hg := hv.getD t
      have e : a.tmps[t]? = a.tmps.toList[t]? := by simp
      rw [List.getD_eq_getElem?_getD, List.getD_eq_getElem?_getD] at hg
      rw [e, List.getD_eq_getElem?_getD]
      cases hc : a.tmps.toList[t]? with
      | none =>
        rw [hc] at hg
        cases hu : s.t[t]? with
        | none => rfl
        | some u =>
          obtain ⟨c, hc', _⟩ := hv.get hu
          rw [hc] at hc'; cases hc'
      | some c =>
        obtain ⟨u, hu, _⟩ := hv.get' hc
        rw [hc, hu] at hg
        rw [hu]
        simp only [Option.getD_some] at hg ⊢
        cases hg <;> first | rfl | (rename_i bb; cases bb <;> cases b <;> rfl)
    · cases hg

theorem normOper_inv {ops : Array Oper} {o : Oper} {ao : AOper} (h : normOper P G ops o = some ao) :
    (∀ x ∈ o.op.operands, operandOk G x = true) ∧ normOp P o.type o.op = some ao.op ∧ normGuard ops o.guard = some ao.guard ∧ ao.dst = o.dst := by
  unfold normOper at h
  split at h
  · rename_i hall
    refine ⟨fun x hx => List.all_eq_true.1 hall x (Array.mem_toList_iff.2 hx), ?_⟩
    split at h
    · rename_i a gd ha hg
      simp only [Option.some.injEq] at h
      subst h
      exact ⟨ha, hg, rfl⟩
    · cases h
  · cases h

/-- One operation of a statement. -/
theorem oper_wp {call : Caller} (hF : CallsOk P G N call) (hm : MR G N σ g w) {s s' : St} (hs : Sub g s.h) {a : Act} (hv : VRs σ g s.t a.tmps.toList) (hd : a.defers = []) {ops : Array Oper} {i : Nat} {o : Oper} {ao : AOper} (hi : ops[i]? = some o)
    (hn : normOper P G ops o = some ao) (he : evOper call ao s = some s') {next : Act → World → Prop} {Q : Exit → Act → World → Prop} (hnext : ∀ a' w', To G N σ g w s.h s' a' w' → next a' w') : wpOp P ops Q i next a w := by
  obtain ⟨hok, hop, hgd, hdst⟩ := normOper_inv hn
  unfold wpOp
  rw [hi]
  simp only
  rw [wants_iff hv hgd]
  unfold evOper at he
  by_cases hw : wants s ao.guard = true
  · rw [if_pos hw] at he
    rw [if_pos hw]
    obtain ⟨⟨v, h'⟩, hev, rfl⟩ := opt_map_some he
    left
    refine op_wp hF hm hs hop (fun x hx => eval_VR hm hv (hok x hx)) (fun v => rfl) (fun f => rfl) hev fun cv w' hdone => hnext _ _ ?_
    obtain ⟨σ', h1, h2, h3, h4⟩ := hdone
    rw [hdst]
    refine ⟨σ', ?_, ?_, ?_, ?_, by rw [put_defers]; exact hd⟩ <;> rw [put_h]
    · exact h1
    · exact h2
    · exact put_VRs (hv.ext h1.ext) h3 _ _
    · exact h4
  · rw [if_neg hw] at he
    rw [if_neg hw]
    simp only [Option.some.injEq] at he
    subst he
    refine hnext _ _ ?_
    rw [hdst]
    have := To.refl (s := s.put o.dst undef s.h) (a := a.put o.dst undef) hm (by rw [put_h]; exact hs) (put_VRs hv (.tuple [] [] .nil) _ _) (by rw [put_defers]; exact hd)
    rw [put_h] at this
    exact this

theorem normOpers_get {ops : Array Oper} : ∀ {l : List Oper} {as : List AOper}, normOpers P G ops l = some as → as.length = l.length ∧ ∀ (i : Nat) o, l[i]? = some o → ∃ ao, as[i]? = some ao ∧ normOper P G ops o = some ao
  | [], as, h => by
    simp only [normOpers, Option.some.injEq] at h; subst h
    exact ⟨rfl, fun i o hi => by simp at hi⟩
  | o :: l, as, h => by
    unfold normOpers at h
    split at h
    · rename_i a as' ha has
      simp only [Option.some.injEq] at h; subst h
      obtain ⟨h1, h2⟩ := normOpers_get has
      refine ⟨by simp [h1], fun i q hi => ?_⟩
      cases i with
      | zero => simp at hi; subst hi; exact ⟨a, rfl, ha⟩
      | succ i => exact h2 i q (by simpa using hi)
    · cases h

/-- The operations in the text's order. -/
theorem plain_ops {call : Caller} (hF : CallsOk P G N call) {ops : Array Oper} {as : List AOper} (hn : normOpers P G ops ops.toList = some as) {Q : Exit → Act → World → Prop} : ∀ (k i : Nat) (σ : Emb) (g : Mem) (w : World) (s s' : St) (a : Act),
    i + k = ops.size → MR G N σ g w → Sub g s.h → VRs σ g s.t a.tmps.toList → a.defers = [] → evOps call (as.drop i) s = some s' → (∀ a' w', To G N σ g w s.h s' a' w' → Q .normal a' w') → wpOps P ops Q (List.range' i k) a w := by
  obtain ⟨hlen, hget⟩ := normOpers_get hn
  intro k
  induction k with
  | zero =>
    intro i σ g w s s' a hik hm hs hv hd he hq
    rw [List.drop_eq_nil_of_le (by rw [hlen]; simp; omega)] at he
    simp only [evOps, Option.some.injEq] at he
    subst he
    exact hq _ _ (To.refl hm hs hv hd)
  | succ k ih =>
    intro i σ g w s s' a hik hm hs hv hd he hq
    have hilt : i < ops.size := by omega
    obtain ⟨ao, hao, hno⟩ := hget i ops[i] (by simp [hilt])
    have hdrop : as.drop i = ao :: as.drop (i + 1) := by
      have hlt : i < as.length := by rw [hlen]; simpa using hilt
      rw [List.drop_eq_getElem_cons hlt]
      congr 1
      exact (List.getElem?_eq_some_iff.1 hao).2
    rw [hdrop] at he
    simp only [evOps] at he
    obtain ⟨s1, h1, h2⟩ := Option.bind_eq_some_iff.1 he
    rw [List.range'_succ, wpOps_cons]
    refine oper_wp hF hm hs hv hd (by simp [hilt]) hno h1 fun a1 w1 hto => ?_
    obtain ⟨σ1, g1, m1, v1, hh1, d1⟩ := hto
    exact ih (i + 1) σ1 _ w1 s1 s' a1 (by omega) m1 (grow_sub _ _ _) v1 d1 h2 fun a' w' ht => hq a' w' (To.trans (a₁ := a1) hm hs g1 hh1 ht)
end Go.Proofs.YtfbldlgjlgcpoaaDoor.AM
