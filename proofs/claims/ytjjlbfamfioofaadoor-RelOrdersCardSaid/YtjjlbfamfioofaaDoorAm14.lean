/-
  AM, part 14: an object that is written, or moved: stores, appends, maps that are written.
  Conditions: none.
-/
import Derived.Test.YtjjlbfamfioofaaDoorAm13
namespace Go.Proofs.YtjjlbfamfioofaaDoor.AM
open Go.RowKit

set_option linter.unusedSimpArgs false
set_option linter.unusedVariables false
variable {P : Program} {G N : Nat} {σ : Emb} {g : Mem} {w : World} {h : Heap}

/-- An object of the memory's own takes another form. -/
theorem put_done (hm : MR G N σ g w) (hs : Sub g h) {id : Nat} {old new : AObj} (hg : g id = some old) (hown : owns old = true) (hown' : owns new = true) (s' : Seat) (w' : World)
    (hcells : ∀ vals ver ro, old = .cells vals ver ro → ∃ vals' ver', new = .cells vals' ver' ro ∧ ver ≤ ver' ∧ (ver = ver' → s' = σ id))
    (hmap : ∀ es, old = .map es → ∃ es', new = .map es' ∧ s' = σ id)
    (hnew : ∀ σ' g', Ext σ g σ' g' → ObjR N σ' g' w' s' new)
    (hblocks : ∀ b, b < w.heap.size → b ≠ (σ id).blk → w'.heap[b]? = w.heap[b]?) (hblk : s'.blk = (σ id).blk ∨ w.heap.size ≤ s'.blk)
    (hsize : w.heap.size ≤ w'.heap.size) (hos : w'.os = w.os) (htape : w'.tape = w.tape) (hout : w'.output = w.output) :
    let σ' : Emb := fun i => if i = id then s' else σ i
    let g' := grow g h (h.set id new)
    Go N σ g w σ' g' w' ∧ MR G N σ' g' w' ∧ Holes g h (h.set id new) ∧ g' id = some new := by
  intro σ' g'
  have hlt : id < h.length := (List.getElem?_eq_some_iff.1 (hs _ _ hg)).1
  have hg' : ∀ i, g' i = if i = id then some new else g i := by
    intro i
    show grow g h (h.set id new) i = _
    unfold grow
    by_cases h1 : i = id
    · subst h1
      rw [if_pos rfl, if_pos hlt, hg]
      simp [hlt]
    · rw [if_neg h1]
      have hset : (h.set id new)[i]? = h[i]? := List.getElem?_set_ne (fun e => h1 e.symm)
      by_cases h2 : i < h.length
      · rw [if_pos h2]
        cases hgi : g i with
        | none => rfl
        | some o => simp only; rw [hset]; exact hs i o hgi
      · rw [if_neg h2, hset, sub_none hs (by omega)]
        exact List.getElem?_eq_none (by omega)
  have hself : σ' id = s' := if_pos rfl
  have hother : ∀ i, i ≠ id → σ' i = σ i := fun i hi => if_neg hi
  have hext : Ext σ g σ' g' := by
    constructor
    · intro i vals ver ro hi
      rw [hg']
      by_cases h1 : i = id
      · subst h1
        rw [hg] at hi; cases hi
        obtain ⟨vals', ver', rfl, hle, he⟩ := hcells _ _ _ rfl
        exact ⟨vals', ver', if_pos rfl, hle, fun e => by rw [hself]; exact he e⟩
      · exact ⟨vals, ver, by rw [if_neg h1]; exact hi, Nat.le_refl _, fun _ => hother i h1⟩
    · intro i es hi
      rw [hg']
      by_cases h1 : i = id
      · subst h1
        rw [hg] at hi; cases hi
        obtain ⟨es', rfl, he⟩ := hmap _ rfl
        exact ⟨es', if_pos rfl, by rw [hself]; exact he⟩
      · exact ⟨es, by rw [if_neg h1]; exact hi, hother i h1⟩
  have hN := (hm.obj _ _ hg).owned.1 hown
  have hne : ∀ i o, i ≠ id → g i = some o → (σ i).blk ≠ (σ id).blk := by
    intro i o h1 hi e
    have ho := hm.obj i o hi
    have : owns o = true := ho.owned.2 (by rw [e]; exact hN)
    exact h1 (hm.inj i id o old hi hg this hown e)
  refine ⟨⟨hext, hsize, hos, htape, hout, fun b hb hno => hblocks b hb fun e => hno ⟨id, old, hg, hown, e.symm⟩, ?_⟩, ⟨?_, ?_, ?_, Nat.le_trans hm.size hsize⟩, ⟨by simp, fun i hi hgi => ?_⟩, by rw [hg', if_pos rfl]⟩
  · rintro b ⟨i, o, hi, ho, hb⟩
    rw [hg'] at hi
    by_cases h1 : i = id
    · subst h1
      rw [hself] at hb
      rcases hblk with e | e
      · exact .inl ⟨i, old, hg, hown, by rw [← hb, e]⟩
      · exact .inr (by rw [← hb]; exact e)
    · rw [if_neg h1] at hi
      exact .inl ⟨i, o, hi, ho, by rw [← hb, hother i h1]⟩
  · intro i o hi
    rw [hg'] at hi
    by_cases h1 : i = id
    · subst h1
      rw [if_pos rfl] at hi; cases hi
      rw [hself]
      exact hnew σ' g' hext
    · rw [if_neg h1] at hi
      have := hm.obj i o hi
      rw [hother i h1]
      exact this.step hext (hblocks _ (this.lt hm.size) (hne i o h1 hi))
  · intro i j o p hi hj ho hp he
    rw [hg'] at hi hj
    have clash : ∀ k q, k ≠ id → g k = some q → (σ k).blk ≠ s'.blk := by
      intro k q hk hq e
      rcases hblk with e' | e'
      · exact hne k q hk hq (by rw [e, e'])
      · have := (hm.obj k q hq).lt hm.size; omega
    by_cases h1 : i = id
    · by_cases h2 : j = id
      · rw [h1, h2]
      · rw [if_neg h2] at hj
        rw [h1, hself, hother j h2] at he
        exact absurd he.symm (clash j p h2 hj)
    · rw [if_neg h1] at hi
      by_cases h2 : j = id
      · rw [h2, hself, hother i h1] at he
        exact absurd he (clash i o h1 hi)
      · rw [if_neg h2] at hj
        rw [hother i h1, hother j h2] at he
        exact hm.inj i j o p hi hj ho hp he
  · intro i hi
    obtain ⟨vals, h1, h2, h3⟩ := hm.glob i hi
    have hne : i ≠ id := by
      rintro rfl
      rw [hg] at h1; cases h1
      simp [owns] at hown
    exact ⟨vals, by rw [hg', if_neg hne]; exact h1, by rw [hother i hne]; exact h2, by rw [hother i hne]; exact h3⟩
  · exact List.getElem?_set_ne (by rintro rfl; rw [hg] at hgi; cases hgi)

theorem oneCell_of_single {c : Value} (h : single c = true) : c.oneCell' = true := by cases c <;> first | rfl | simp [single] at h

/-- Cells that are stored one behind the other. -/
theorem storeCells_run {b : Nat} {el : TypeId} : ∀ (vs : List Value) (i o : Nat) (cs : List Value) (w : World), w.heap[b]? = some (.cells ⟨cs⟩ el (0, 0)) → o + i + vs.length ≤ cs.length → (∀ v ∈ vs, single v = true) →
    ∃ w', (storeCells ⟨b, o, none⟩ vs i).run P w = .ok () w' ∧ w'.heap[b]? = some (.cells ⟨splice cs (o + i) vs⟩ el (0, 0)) ∧ (∀ k, k ≠ b → w'.heap[k]? = w.heap[k]?) ∧ w'.heap.size = w.heap.size ∧ w'.os = w.os ∧ w'.tape = w.tape ∧ w'.output = w.output
  | [], i, o, cs, w, hb, _, _ => ⟨w, rfl, by rw [hb]; simp [splice], fun _ _ => rfl, rfl, rfl, rfl, rfl⟩
  | v :: vs, i, o, cs, w, hb, hle, h1 => by
    simp only [List.length_cons] at hle
    have hlt : o + i < cs.length := by omega
    have hc : w.cell? ⟨b, o + i, none⟩ = some cs[o + i] := by simp [World.cell?, hb, hlt]
    have hf : w.frozen? ⟨b, o + i, none⟩ = false := by simp [World.frozen?, hb]
    have hst : (store ⟨b, o + i, none⟩ v).run P w = .ok () (w.setCell ⟨b, o + i, none⟩ v) := by
      rw [run_store P w _ v _ (oneCell_of_single (h1 v (by simp))), hc]
      simp [hf]
    have hblt : b < w.heap.size := (Array.getElem?_eq_some_iff.1 hb).1
    have hb' : (w.setCell ⟨b, o + i, none⟩ v).heap[b]? = some (.cells ⟨cs.set (o + i) v⟩ el (0, 0)) := by
      simp only [World.setCell, Array.getElem?_modify, if_pos, hb, Option.map_some]
      simp
    have hother : ∀ k, k ≠ b → (w.setCell ⟨b, o + i, none⟩ v).heap[k]? = w.heap[k]? := by
      intro k hk
      simp only [World.setCell, Array.getElem?_modify]
      rw [if_neg (fun e => hk e.symm)]
    obtain ⟨w', h2, h3, h4, h5, h6, h7, h8⟩ := storeCells_run vs (i + 1) o (cs.set (o + i) v) (w.setCell ⟨b, o + i, none⟩ v) hb' (by rw [List.length_set]; omega) fun x hx => h1 x (by simp [hx])
    refine ⟨w', ?_, ?_, fun k hk => by rw [h4 k hk, hother k hk], by rw [h5]; simp, by rw [h6]; rfl, by rw [h7]; rfl, by rw [h8]; rfl⟩
    · simp only [storeCells, Sem.run_bind, addr_add, hst, Result.andThen_ok]
      exact h2
    · rw [h3]
      congr 2
      have ht : (cs.take (o + i)).length = o + i := by rw [List.length_take]; omega
      have hset : cs.set (o + i) v = cs.take (o + i) ++ v :: cs.drop (o + i + 1) := by rw [List.set_eq_take_append_cons_drop, if_pos hlt]
      unfold splice
      rw [hset, List.take_append, List.drop_append, ht, List.take_of_length_le (show (cs.take (o + i)).length ≤ o + (i + 1) by omega),
        List.drop_eq_nil_of_le (show (cs.take (o + i)).length ≤ o + (i + 1) + vs.length by omega)]
      rw [show o + (i + 1) - (o + i) = 1 from by omega, show o + (i + 1) + vs.length - (o + i) = vs.length + 1 from by omega]
      simp only [List.take_succ_cons, List.take_zero, List.drop_succ_cons, List.drop_drop, List.nil_append, List.append_assoc, List.cons_append, List.length_cons]
      rw [show o + i + 1 + vs.length = o + i + (vs.length + 1) from by omega]

/-- A row within an object is written. -/
theorem write_done (hm : MR G N σ g w) (hs : Sub g h) {p q : Addr} {l cs : List Value} {h' : Heap} (hp : VR σ g (.pointer (some p)) (.pointer (some q))) (hv : VRs σ g l cs) (h1 : ∀ x ∈ l, single x = true) (hw : h.write p l = some h') :
    ∃ w', (storeCells q cs).run P w = .ok () w' ∧ Done G N σ g w h undef h' undef w' := by
  cases hp with
  | ptr _ _ v vals ver ro hsp hg hle hq =>
    unfold Heap.write at hw
    rw [hs _ _ hg] at hw
    cases ro with
    | true => simp at hw
    | false =>
      simp only at hw
      split at hw
      · rename_i hc
        obtain ⟨hspot, hlen⟩ := hc
        rw [hsp] at hspot; cases hspot
        simp only [Option.some.injEq] at hw
        subst hw
        rw [hq rfl]
        have ho := hm.obj _ _ hg
        cases ho with
        | own _ ds _ el hb h0 hwb hsz hvv hl h1' =>
          have hvl := hv.length
          have hsc : ∀ x ∈ cs, single x = true := by
            intro x hx
            obtain ⟨i, hi⟩ := List.getElem?_of_mem hx
            obtain ⟨u, hu, hur⟩ := hv.get' hi
            rw [hur.single]; exact h1 u (List.mem_of_getElem? hu)
          rw [h0, Nat.zero_add]
          obtain ⟨w', hrun, hw1, hw2, hw3, hw4, hw5, hw6⟩ := storeCells_run (P := P) cs 0 p.off ds w hwb (by omega) hsc
          refine ⟨w', hrun, ?_⟩
          obtain ⟨h2, h3, h4, h5⟩ := put_done (h := h) hm hs hg rfl (new := .cells (splice vals p.off l) v false) rfl (σ p.block) w'
            (fun vals' ver' ro' e => by cases e; exact ⟨_, _, rfl, Nat.le_refl _, fun _ => rfl⟩) (fun es e => by cases e)
            (fun σ' g' he => by
              refine .own _ (splice ds p.off cs) v el hb h0 (by rw [hw1, Nat.add_zero]) (by rw [splice_length (by omega)]; exact hsz) ?_ (by rw [splice_length (by omega), splice_length (by omega)]; exact hl) (singles_splice h1' h1 _)
              rw [splice_length (by omega)]
              have : (splice ds p.off cs).take vals.length = splice (ds.take vals.length) p.off cs := by
                unfold splice
                rw [List.take_append, List.take_append, List.take_take]
                simp only [List.length_append, List.length_take]
                rw [Nat.min_eq_right (show p.off ≤ vals.length by omega), List.take_of_length_le (show cs.length ≤ vals.length - min p.off ds.length by omega), List.take_take, List.take_drop]
                congr 2
                · rw [Nat.min_eq_left (by omega)]
                · rw [Nat.min_eq_left (by omega)]; congr 2 <;> omega
              rw [this]
              exact ((hvv.splice hv _).ext he))
            (fun b hb' hne => hw2 b hne) (.inl rfl) (by omega) hw4 hw5 hw6
          exact ⟨_, h2, h3, .tuple [] [] .nil, h4⟩
      · cases hw
end Go.Proofs.YtjjlbfamfioofaaDoor.AM
