/-
  AM, part 12: memory that is made: the model makes it too.
  Conditions: none.
-/
import Derived.Test.YtjjlbfamfioofaaDoorAm11
namespace Go.Proofs.YtjjlbfamfioofaaDoor.AM
open Go.RowKit

set_option linter.unusedSimpArgs false
set_option linter.unusedVariables false
variable {P : Program} {G N : Nat} {σ : Emb} {g : Mem} {w : World} {h : Heap}

/-- The memory behind a step, its holes as they were. -/
def grow (g : Mem) (h h' : Heap) : Mem := fun i => if i < h.length then (match g i with | none => none | some _ => h'[i]?) else h'[i]?
/-- What lies in the holes stays. -/
def Holes (g : Mem) (h h' : Heap) : Prop := h.length ≤ h'.length ∧ ∀ i, i < h.length → g i = none → h'[i]? = h[i]?

theorem sub_none (hs : Sub g h) {i : Nat} (hi : h.length ≤ i) : g i = none := by
  cases hg : g i with
  | none => rfl
  | some o =>
    have := hs i o hg
    rw [List.getElem?_eq_none hi] at this
    cases this
theorem grow_same (hs : Sub g h) : grow g h h = g := by
  funext i
  unfold grow
  cases hg : g i with
  | none =>
    split
    · rfl
    · rename_i hi; exact List.getElem?_eq_none (by omega)
  | some o => rw [hs i o hg]; split <;> rfl
theorem grow_sub (g : Mem) (h h' : Heap) : Sub (grow g h h') h' := by
  intro i o hi
  unfold grow at hi
  split at hi
  · split at hi
    · cases hi
    · exact hi
  · exact hi
theorem Holes.refl (g : Mem) (h : Heap) : Holes g h h := ⟨Nat.le_refl _, fun _ _ _ => rfl⟩
theorem grow_trans {h₁ h₂ h₃ : Heap} (h12 : Holes g h₁ h₂) (he : ∀ i, i < h₁.length → g i ≠ none → h₂[i]? ≠ none) : grow (grow g h₁ h₂) h₂ h₃ = grow g h₁ h₃ := by
  funext i
  have hl := h12.1
  unfold grow
  by_cases h1 : i < h₁.length
  · have h2 : i < h₂.length := by omega
    simp only [if_pos h1, if_pos h2]
    cases hg : g i with
    | none => rfl
    | some o =>
      simp only
      have := he i h1 (by rw [hg]; simp)
      cases h3 : h₂[i]? with
      | none => exact absurd h3 this
      | some q => rfl
  · simp only [if_neg h1]
    by_cases h2 : i < h₂.length
    · rw [if_pos h2, List.getElem?_eq_getElem h2]
    · rw [if_neg h2]
theorem Holes.trans {h₁ h₂ h₃ : Heap} (a : Holes g h₁ h₂) (b : Holes (grow g h₁ h₂) h₂ h₃) : Holes g h₁ h₃ := by
  refine ⟨Nat.le_trans a.1 b.1, fun i hi hg => ?_⟩
  rw [b.2 i (Nat.lt_of_lt_of_le hi a.1) (by unfold grow; rw [if_pos hi, hg]), a.2 i hi hg]

theorem ObjR.step {σ' : Emb} {g' : Mem} {w' : World} {s : Seat} {o : AObj} (he : Ext σ g σ' g') (hb : w'.heap[s.blk]? = w.heap[s.blk]?) (ho : ObjR N σ g w s o) : ObjR N σ' g' w' s o := by
  cases ho with
  | own vals cs ver el hb' h0 hw hs hv hl h1 => exact .own vals cs ver el hb' h0 (by rw [hb]; exact hw) hs (hv.ext he) hl h1
  | ro vals hb' hv h1 =>
    refine .ro vals hb' (fun i u hu => ?_) h1
    obtain ⟨c, hc, hvr⟩ := hv i u hu
    exact ⟨c, by rw [World.cell?_of_block (w := w) hb]; exact hc, hvr.ext he⟩
  | map es ms clock hb' hw he' => exact .map es ms clock hb' (by rw [hb]; exact hw) (he'.ext he)
theorem ObjR.lt {s : Seat} {o : AObj} (hm : N ≤ w.heap.size) (ho : ObjR N σ g w s o) : s.blk < w.heap.size := by
  cases ho with
  | own vals cs ver el hb' h0 hw hs hv hl h1 => exact (Array.getElem?_eq_some_iff.1 hw).1
  | ro vals hb' hv h1 => omega
  | map es ms clock hb' hw he' => exact (Array.getElem?_eq_some_iff.1 hw).1
theorem ObjR.owned {s : Seat} {o : AObj} (ho : ObjR N σ g w s o) : owns o = true ↔ N ≤ s.blk := by
  cases ho with
  | own vals cs ver el hb' h0 hw hs hv hl h1 => exact ⟨fun _ => hb', fun _ => rfl⟩
  | ro vals hb' hv h1 => exact ⟨fun h => by simp [owns] at h, fun h => by omega⟩
  | map es ms clock hb' hw he' => exact ⟨fun _ => hb', fun _ => rfl⟩

/-- A hole that is filled. -/
def upd (g : Mem) (id : Nat) (o : AObj) : Mem := fun i => if i = id then some o else g i
/-- A new object, and its block. -/
theorem fill_done (hm : MR G N σ g w) {id : Nat} (hid : g id = none) {obj : AObj} {blk : Obj} {sz : Nat} (hobj : ∀ σ' g' (w' : World), Ext σ g σ' g' → w'.heap[w.heap.size]? = some blk → ObjR N σ' g' w' ⟨w.heap.size, 0, sz⟩ obj) (hown : owns obj = true) :
    let σ' : Emb := fun i => if i = id then ⟨w.heap.size, 0, sz⟩ else σ i
    let w' : World := { w with heap := w.heap.push blk }
    Go N σ g w σ' (upd g id obj) w' ∧ MR G N σ' (upd g id obj) w' ∧ upd g id obj id = some obj ∧ σ' id = ⟨w.heap.size, 0, sz⟩ := by
  intro σ' w'
  have hg' : ∀ i, upd g id obj i = if i = id then some obj else g i := fun i => rfl
  have hold : ∀ i o, g i = some o → i ≠ id := fun i o hi e => by subst e; rw [hid] at hi; cases hi
  have hext : Ext σ g σ' (upd g id obj) := by
    constructor
    · intro i vals ver ro hi
      exact ⟨vals, ver, by rw [hg', if_neg (hold i _ hi)]; exact hi, Nat.le_refl _, fun _ => if_neg (hold i _ hi)⟩
    · intro i es hi
      exact ⟨es, by rw [hg', if_neg (hold i _ hi)]; exact hi, if_neg (hold i _ hi)⟩
  have hblk : ∀ b, b < w.heap.size → w'.heap[b]? = w.heap[b]? := by
    intro b hb
    show (w.heap.push blk)[b]? = _
    rw [Array.getElem?_push, if_neg (by omega)]
  have hnew : w'.heap[w.heap.size]? = some blk := by show (w.heap.push blk)[w.heap.size]? = _; simp
  have hsize : w'.heap.size = w.heap.size + 1 := by show (w.heap.push blk).size = _; simp
  have hself : σ' id = ⟨w.heap.size, 0, sz⟩ := if_pos rfl
  refine ⟨⟨hext, by omega, rfl, rfl, rfl, fun b hb _ => hblk b hb, ?_⟩, ⟨?_, ?_, ?_, ?_⟩, by rw [hg', if_pos rfl], hself⟩
  · rintro b ⟨i, o, hi, ho, hb⟩
    rw [hg'] at hi
    by_cases h1 : i = id
    · subst h1; rw [hself] at hb; exact .inr (by rw [← hb]; exact Nat.le_refl _)
    · rw [if_neg h1] at hi
      exact .inl ⟨i, o, hi, ho, by rw [← hb]; show (σ i).blk = (if i = id then _ else σ i : Seat).blk; rw [if_neg h1]⟩
  · intro i o hi
    rw [hg'] at hi
    by_cases h1 : i = id
    · subst h1
      rw [if_pos rfl] at hi; cases hi
      rw [hself]
      exact hobj σ' _ w' hext hnew
    · rw [if_neg h1] at hi
      have := hm.obj i o hi
      rw [show σ' i = σ i from if_neg h1]
      exact this.step hext (hblk _ (this.lt hm.size))
  · intro i j o p hi hj ho hp he
    rw [hg'] at hi hj
    by_cases h1 : i = id
    · by_cases h2 : j = id
      · rw [h1, h2]
      · rw [if_neg h2] at hj
        rw [h1, hself, show σ' j = σ j from if_neg h2] at he
        have := (hm.obj j p hj).lt hm.size
        simp only at he
        omega
    · rw [if_neg h1] at hi
      by_cases h2 : j = id
      · rw [h2, hself, show σ' i = σ i from if_neg h1] at he
        have := (hm.obj i o hi).lt hm.size
        simp only at he
        omega
      · rw [if_neg h2] at hj
        rw [show σ' i = σ i from if_neg h1, show σ' j = σ j from if_neg h2] at he
        exact hm.inj i j o p hi hj ho hp he
  · intro i hi
    obtain ⟨vals, h1, h2, h3⟩ := hm.glob i hi
    have hne := hold i _ h1
    exact ⟨vals, by rw [hg', if_neg hne]; exact h1, by rw [show σ' i = σ i from if_neg hne]; exact h2, by rw [show σ' i = σ i from if_neg hne]; exact h3⟩
  · have := hm.size; omega
theorem grow_append (hs : Sub g h) (obj : AObj) : grow g h (h ++ [obj]) = upd g h.length obj := by
  funext i
  unfold grow upd
  by_cases h1 : i < h.length
  · rw [if_pos h1, if_neg (by omega)]
    cases hg : g i with
    | none => rfl
    | some o => simp only; rw [List.getElem?_append_left h1]; exact hs i o hg
  · rw [if_neg h1]
    by_cases h2 : i = h.length
    · subst h2; simp
    · rw [if_neg h2, sub_none hs (by omega)]
      exact List.getElem?_eq_none (by simp; omega)
theorem make_done (hm : MR G N σ g w) (hs : Sub g h) {obj : AObj} {blk : Obj} {sz : Nat} (hobj : ∀ σ' g' (w' : World), Ext σ g σ' g' → w'.heap[w.heap.size]? = some blk → ObjR N σ' g' w' ⟨w.heap.size, 0, sz⟩ obj) (hown : owns obj = true) :
    let σ' : Emb := fun i => if i = h.length then ⟨w.heap.size, 0, sz⟩ else σ i
    let w' : World := { w with heap := w.heap.push blk }
    let g' := grow g h (h ++ [obj])
    Go N σ g w σ' g' w' ∧ MR G N σ' g' w' ∧ Holes g h (h ++ [obj]) ∧ g' h.length = some obj ∧ σ' h.length = ⟨w.heap.size, 0, sz⟩ := by
  intro σ' w' g'
  obtain ⟨h1, h2, h3, h4⟩ := fill_done hm (sub_none hs (Nat.le_refl h.length)) hobj hown
  have e : g' = upd g h.length obj := grow_append hs obj
  refine ⟨?_, ?_, ⟨by simp, fun i hi _ => List.getElem?_append_left hi⟩, ?_, h4⟩
  · rw [e]; exact h1
  · rw [e]; exact h2
  · rw [e]; exact h3

/-- What an operation comes to, and the memory behind it. -/
def Done (G N : Nat) (σ : Emb) (g : Mem) (w : World) (h : Heap) (v : Value) (h' : Heap) (cv : Value) (w' : World) : Prop :=
  ∃ σ', Go N σ g w σ' (grow g h h') w' ∧ MR G N σ' (grow g h h') w' ∧ VR σ' (grow g h h') v cv ∧ Holes g h h'
theorem Done.same (hm : MR G N σ g w) (hs : Sub g h) {v cv : Value} (hv : VR σ g v cv) : Done G N σ g w h v h cv w := by
  refine ⟨σ, ?_, ?_, ?_, .refl _ _⟩ <;> rw [grow_same hs]
  · exact .refl _ _ _ _
  · exact hm
  · exact hv

/-- A hole that is filled, and what answers it. -/
def Filled (G N : Nat) (σ : Emb) (g : Mem) (w : World) (id : Nat) (obj : AObj) (v cv : Value) (w' : World) : Prop :=
  ∃ σ', Go N σ g w σ' (upd g id obj) w' ∧ MR G N σ' (upd g id obj) w' ∧ VR σ' (upd g id obj) v cv
/-- A new row of cells. -/
theorem row_fill (hm : MR G N σ g w) {id : Nat} (hid : g id = none) {l cs : List Value} {el : TypeId} (hv : VRs σ g l cs) (h1 : ∀ x ∈ l, single x = true) :
    let w' : World := { w with heap := w.heap.push (.cells ⟨cs⟩ el) }
    Filled G N σ g w id (.cells l 0 false) (ptr id 0 0) (.pointer (some ⟨w.heap.size, 0, none⟩)) w' ∧
    ∀ n c, n * c ≤ cs.length → Filled G N σ g w id (.cells l 0 false) (slc id 0 0 n c) (.slice (some ⟨w.heap.size, 0, none⟩) n n) w' := by
  intro w'
  have hl := hv.length
  obtain ⟨h2, h3, h5, h6⟩ := fill_done hm hid (obj := .cells l 0 false) (blk := .cells ⟨cs⟩ el) (sz := cs.length)
    (fun σ' g' w' he hw => .own l cs 0 el (hm.size) rfl hw rfl (by rw [List.take_of_length_le (by omega)]; exact hv.ext he) (by omega) h1) rfl
  refine ⟨⟨_, h2, h3, .ptr _ _ 0 l 0 false rfl h5 (Nat.le_refl _) (fun _ => ?_)⟩, fun n c hn => ⟨_, h2, h3, .slice _ _ _ _ _ 0 l 0 false rfl h5 (Nat.le_refl _) (Nat.le_refl _) (fun _ => .inl ⟨?_, fun _ => ?_⟩)⟩⟩
  · simp only [if_pos]
  · simp only [if_pos]
  · simp only [if_pos]; omega
theorem zeros_length {z : List Value} : ∀ n, (zeros z n).length = n * z.length
  | 0 => by simp [zeros]
  | n + 1 => by simp [zeros, zeros_length n, Nat.add_mul]; omega
theorem zeros_get {z : List Value} : ∀ (n i : Nat), i < n * z.length → (zeros z n)[i]? = z[i % z.length]?
  | 0, i, h => by simp at h
  | n + 1, i, h => by
    simp only [zeros]
    by_cases h1 : i < z.length
    · rw [List.getElem?_append_left h1, Nat.mod_eq_of_lt h1]
    · rw [List.getElem?_append_right (by omega), zeros_get n (i - z.length) (by rw [Nat.add_mul] at h; omega), ← Nat.mod_eq_sub_mod (by omega)]
theorem zeros_model {z : List Value} (hz : 0 < z.length) (n m : Nat) (hm : m = n * z.length) : (Array.range m).map (fun i => (⟨z⟩ : Array Value)[i % (⟨z⟩ : Array Value).size]!) = ⟨zeros z n⟩ := by
  subst hm
  apply Array.ext'
  apply List.ext_getElem?
  intro i
  by_cases h : i < n * z.length
  · have hlt : i % z.length < z.length := Nat.mod_lt _ hz
    rw [show (⟨zeros z n⟩ : Array Value).toList = zeros z n from rfl, zeros_get n i h]
    simp [h, hlt]
  · rw [List.getElem?_eq_none (by simp; omega), List.getElem?_eq_none (by rw [show (⟨zeros z n⟩ : Array Value).toList = zeros z n from rfl, zeros_length]; omega)]
theorem zeros_plain {z : List Value} (h : z.all plain1 = true) : ∀ n, (zeros z n).all plain1 = true
  | 0 => rfl
  | n + 1 => by simp only [zeros, List.all_append, h, zeros_plain h n, Bool.and_true]
end Go.Proofs.YtjjlbfamfioofaaDoor.AM
