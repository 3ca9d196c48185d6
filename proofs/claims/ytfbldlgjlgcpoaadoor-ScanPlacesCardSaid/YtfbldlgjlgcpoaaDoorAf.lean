/-
  AM, part 23: arguments that can be read, of whatever types made of truths, numbers, strings, arrays, structs and slices, as values of the abstract machine over a memory that is read alone.
    Conditions: none; each statement bears its own.
-/
import Derived.Test.YtfbldlgjlgcpoaaDoorAd
import Derived.OpenShut
import Derived.ChangeOld
import Derived.ChangeArms
import Derived.Carry
import Derived.Test.YtfbldlgjlgcpoaaDoorAa
import Derived.Test.YtfbldlgjlgcpoaaDoorAe
namespace Go.Proofs.YtfbldlgjlgcpoaaDoor.AM
open Go.RowKit

set_option linter.unusedSimpArgs false
set_option linter.unusedVariables false

/-- What a cell may hold. -/
inductive Sh where
  | bool
  | int (k : IntKind)
  | str
  | slice (bytes : Nat) (e : List Sh)

/-- The cells of a struct's fields. -/
def leafFs (P : Program) (r : TypeId → Option (List Sh)) : List Field → Nat → Option (List Sh)
  | [], _ => some []
  | f :: fs, off => match r f.type, leafFs P r fs (off + P.cellsOf f.type) with
    | some l, some l' => if f.offset = off ∧ l.length = P.cellsOf f.type then some (l ++ l') else none
    | _, _ => none
/-- The cells of a type. -/
def leafs (P : Program) : Nat → TypeId → Option (List Sh)
  | 0, _ => none
  | d + 1, t => match P.underlying t with
    | some .bool => some [.bool]
    | some (.int k) => some [.int k]
    | some .string => some [.str]
    | some (.slice e) => match leafs P d e with
      | some l => if l.length = P.cellsOf e ∧ 0 < P.cellsOf e then some [.slice (P.bytesOf e) l] else none
      | none => none
    | some (.struct fs) => match leafFs P (leafs P d) fs.toList 0 with
      | some l => if l.length = P.cellsOf t then some l else none
      | none => none
    | some (.array n e) => match leafs P d e with
      | some l => if l.length = P.cellsOf e ∧ P.cellsOf t = n * P.cellsOf e then some (List.replicate n l).flatten else none
      | none => none
    | _ => none

/-- The value lies in the memory h as its cell may hold. -/
inductive Typed (h : Heap) : Sh → Value → Prop
  | bool (b : Bool) : Typed h .bool (.bool b)
  | int (k : IntKind) (n : Int) (hw : (Lit.int k n).wf = true) : Typed h (.int k) (.int k n)
  | str (s : ByteArray) (hs : s.size ≤ reachBytes) : Typed h .str (.string s)
  | nil (b : Nat) (e : List Sh) : Typed h (.slice b e) (.slice none 0 0)
  | slice (b : Nat) (e : List Sh) (i n : Nat) (l : List Value) (hi : h[i]? = some (.cells l 0 true)) (hl : l.length = n * e.length) (hb : n * b ≤ reachBytes)
      (ht : ∀ (j : Nat) s u, e[j % e.length]? = some s → l[j]? = some u → Typed h s u) : Typed h (.slice b e) (.slice (some ⟨i, 0, some 0⟩) n e.length)
def TypedL (h : Heap) (ss : List Sh) (us : List Value) : Prop := ss.length = us.length ∧ ∀ (i : Nat) s u, ss[i]? = some s → us[i]? = some u → Typed h s u

theorem Typed.more {h : Heap} (more : Heap) {s : Sh} {u : Value} (ht : Typed h s u) : Typed (h ++ more) s u := by
  induction ht with
  | bool b => exact .bool b
  | int k n hw => exact .int k n hw
  | str s hs => exact .str s hs
  | nil b e => exact .nil b e
  | slice b e i n l hi hl hb ht ih => exact .slice b e i n l (by rw [List.getElem?_append_left (List.getElem?_eq_some_iff.1 hi).1]; exact hi) hl hb ih
theorem TypedL.more {h : Heap} (more : Heap) {ss : List Sh} {us : List Value} (ht : TypedL h ss us) : TypedL (h ++ more) ss us := ⟨ht.1, fun i s u hs hu => (ht.2 i s u hs hu).more more⟩
theorem TypedL.nil (h : Heap) : TypedL h [] [] := ⟨rfl, fun i s u hs _ => by simp at hs⟩
theorem TypedL.one {h : Heap} {s : Sh} {u : Value} (ht : Typed h s u) : TypedL h [s] [u] := ⟨rfl, fun i s' u' hs hu => by
  cases i with
  | zero => simp at hs hu; subst hs hu; exact ht
  | succ i => simp at hs⟩
theorem TypedL.append {h : Heap} {ss ss' : List Sh} {us us' : List Value} (ht : TypedL h ss us) (ht' : TypedL h ss' us') : TypedL h (ss ++ ss') (us ++ us') := by
  refine ⟨by simp [ht.1, ht'.1], fun i s u hs hu => ?_⟩
  by_cases hi : i < ss.length
  · rw [List.getElem?_append_left hi] at hs
    rw [List.getElem?_append_left (by have := ht.1; omega)] at hu
    exact ht.2 i s u hs hu
  · rw [List.getElem?_append_right (by omega)] at hs
    rw [List.getElem?_append_right (by have := ht.1; omega)] at hu
    have := ht.1
    exact ht'.2 _ s u hs (by rw [this]; exact hu)

section
variable {P : Program} {W : World}
/-- A memory that is read alone, laid over the world's. -/
def Laid (W : World) (h : Heap) (σ : Emb) : Prop := ∀ i o, h[i]? = some o → owns o = false ∧ ObjR W.heap.size σ (fun j => h[j]?) W (σ i) o
/-- How it grows. -/
structure Grow (W : World) (h h' : Heap) (σ σ' : Emb) : Prop where
  pre : ∃ more, h' = h ++ more
  same : ∀ i, i < h.length → σ' i = σ i
  laid : Laid W h' σ'
theorem Grow.ext {h h' : Heap} {σ σ' : Emb} (g : Grow W h h' σ σ') : Ext σ (fun j => h[j]?) σ' (fun j => h'[j]?) := by
  obtain ⟨⟨more, rfl⟩, hs, _⟩ := g
  constructor
  · intro i vals ver ro hi
    have hlt := (List.getElem?_eq_some_iff.1 hi).1
    exact ⟨vals, ver, by rw [List.getElem?_append_left hlt]; exact hi, Nat.le_refl _, fun _ => hs i hlt⟩
  · intro i es hi
    have hlt := (List.getElem?_eq_some_iff.1 hi).1
    exact ⟨es, by rw [List.getElem?_append_left hlt]; exact hi, hs i hlt⟩
theorem Grow.trans {h h' h'' : Heap} {σ σ' σ'' : Emb} (g : Grow W h h' σ σ') (g' : Grow W h' h'' σ' σ'') : Grow W h h'' σ σ'' := by
  obtain ⟨⟨m, rfl⟩, hs, _⟩ := g
  obtain ⟨⟨m', rfl⟩, hs', hl⟩ := g'
  exact ⟨⟨m ++ m', by simp⟩, fun i hi => by rw [hs' i (by simp; omega), hs i hi], hl⟩
theorem Grow.refl {h : Heap} {σ : Emb} (hl : Laid W h σ) : Grow W h h σ σ := ⟨⟨[], by simp⟩, fun _ _ => rfl, hl⟩

/-- A row of cells opened. -/
def Opened (W : World) (h : Heap) (σ : Emb) (ss : List Sh) (cs : List Value) : Prop :=
  ∃ h' σ' us, Grow W h h' σ σ' ∧ VRs σ' (fun j => h'[j]?) us cs ∧ TypedL h' ss us ∧ ∀ u ∈ us, single u = true
theorem Opened.done {h : Heap} {σ : Emb} (hl : Laid W h σ) {s : Sh} {u : Value} (hv : plain1 u = true) (ht : Typed h s u) : Opened W h σ [s] [u] :=
  ⟨h, σ, [u], .refl hl, .cons _ _ _ _ (.plain1 hv) .nil, .one ht, fun x hx => by simp at hx; subst hx; exact single_of_plain1 hv⟩
theorem Opened.none {h : Heap} {σ : Emb} (hl : Laid W h σ) : Opened W h σ [] [] := ⟨h, σ, [], .refl hl, .nil, .nil h, fun x hx => by simp at hx⟩
/-- One behind the other. -/
theorem Opened.append {h : Heap} {σ : Emb} {ss ss' : List Sh} {cs cs' : List Value} (o : Opened W h σ ss cs) (o' : ∀ h σ, Laid W h σ → Opened W h σ ss' cs') : Opened W h σ (ss ++ ss') (cs ++ cs') := by
  obtain ⟨h1, σ1, us, g, hv, ht, hs⟩ := o
  obtain ⟨h2, σ2, us', g', hv', ht', hs'⟩ := o' h1 σ1 g.laid
  refine ⟨h2, σ2, us ++ us', g.trans g', (hv.ext g'.ext).append hv', ?_, fun x hx => ?_⟩
  · obtain ⟨more, rfl⟩ := g'.pre
    exact (ht.more more).append ht'
  · rcases List.mem_append.1 hx with hx | hx
    · exact hs x hx
    · exact hs' x hx

variable {H : Type} {enc : TypeId × Value → H}
theorem opened_pieces {l : List Sh} : ∀ (ps : List (List Value)), (∀ p ∈ ps, ∀ h σ, Laid W h σ → Opened W h σ l p) → ∀ h σ, Laid W h σ → Opened W h σ (List.replicate ps.length l).flatten ps.flatten
  | [], _, h, σ, hl => .none hl
  | p :: ps, hp, h, σ, hl => by
    simp only [List.length_cons, List.replicate_succ, List.flatten_cons]
    exact .append (hp p (by simp) h σ hl) (opened_pieces ps fun q hq => hp q (by simp [hq]))

theorem flatten_rep_get {α : Type} (l : List α) : ∀ (n i : Nat), i < n * l.length → (List.replicate n l).flatten[i]? = l[i % l.length]?
  | 0, i, h => by simp at h
  | n + 1, i, h => by
    rw [List.replicate_succ, List.flatten_cons]
    by_cases hi : i < l.length
    · rw [List.getElem?_append_left hi, Nat.mod_eq_of_lt hi]
    · rw [List.getElem?_append_right (by omega), flatten_rep_get l n _ (by rw [Nat.succ_mul] at h; omega)]
      conv => rhs; rw [Nat.mod_eq_sub_mod (by omega)]
theorem flatten_len {α : Type} (l : List α) (n : Nat) : (List.replicate n l).flatten.length = n * l.length := by
  induction n with
  | zero => simp
  | succ n ih => rw [List.replicate_succ, List.flatten_cons, List.length_append, ih, Nat.succ_mul]; omega

/-- The list cut into pieces of one length. -/
def pieces (cs : List Value) (c : Nat) : Nat → List (List Value)
  | 0 => []
  | n + 1 => pieces cs c n ++ [(cs.drop (n * c)).take c]
theorem pieces_len (cs : List Value) (c n : Nat) : (pieces cs c n).length = n := by
  induction n with
  | zero => rfl
  | succ n ih => simp [pieces, ih]
theorem pieces_flat (cs : List Value) (c n : Nat) (h : n * c ≤ cs.length) : (pieces cs c n).flatten = cs.take (n * c) := by
  induction n with
  | zero => simp [pieces]
  | succ n ih =>
    rw [Nat.succ_mul] at h
    rw [pieces, List.flatten_append, ih (by omega)]
    simp only [List.flatten_cons, List.flatten_nil, List.append_nil]
    rw [Nat.succ_mul, List.take_add]
theorem pieces_mem {cs : List Value} {c n : Nat} {p : List Value} (h : p ∈ pieces cs c n) : ∃ i, i < n ∧ p = (cs.drop (i * c)).take c := by
  induction n with
  | zero => simp [pieces] at h
  | succ n ih =>
    rw [pieces, List.mem_append] at h
    rcases h with h | h
    · obtain ⟨i, hi, e⟩ := ih h; exact ⟨i, by omega, e⟩
    · simp at h; exact ⟨n, by omega, h⟩

theorem opened_fs {r : TypeId → Option (List Sh)} : ∀ (fs : List Field) (off : Nat) (cs : List Value) (l : List Sh), leafFs P r fs off = some l → off + l.length = cs.length →
    (∀ f ∈ fs, ∀ l', r f.type = some l' → ∀ h σ, Laid W h σ → Opened W h σ l' ((cs.drop f.offset).take (P.cellsOf f.type))) → ∀ h σ, Laid W h σ → Opened W h σ l (cs.drop off)
  | [], off, cs, l, hl, hlen, _, h, σ, hL => by
    simp [leafFs] at hl; subst hl
    simp at hlen
    rw [List.drop_eq_nil_of_le (by omega)]
    exact .none hL
  | f :: fs, off, cs, l, hl, hlen, hf, h, σ, hL => by
    simp only [leafFs] at hl
    split at hl
    · rename_i l1 l2 h1 h2
      split at hl
      · rename_i hc
        cases hl
        have e : cs.drop off = (cs.drop f.offset).take (P.cellsOf f.type) ++ cs.drop (off + P.cellsOf f.type) := by
          rw [hc.1, ← List.drop_drop, List.take_append_drop]
        rw [e]
        refine .append (hf f (by simp) l1 h1 h σ hL) (opened_fs fs _ cs l2 h2 (by simp at hlen; omega) fun g hg => hf g (by simp [hg]))
      · cases hl
    · cases hl

theorem weights_each {ts : List TypeId} {ds : List (DataW H)} {i : Nat} {t : TypeId} {d : DataW H} (ht : ts[i]? = some t) (hd : ds[i]? = some d) : ∀ x ∈ d.weights P t, x ∈ DataW.weightsEach P ts ds := by
  induction ts generalizing ds i with
  | nil => simp at ht
  | cons a ts ih =>
    cases ds with
    | nil => simp at hd
    | cons b ds =>
      intro x hx
      rw [DataW.weightsEach]
      cases i with
      | zero => simp at ht hd; subst ht hd; exact List.mem_append_left _ hx
      | succ i => exact List.mem_append_right _ (ih (by simpa using ht) (by simpa using hd) x hx)
theorem weights_all {e : TypeId} {ds : List (DataW H)} {d : DataW H} (hd : d ∈ ds) : ∀ x ∈ d.weights P e, x ∈ DataW.weightsAll P e ds := by
  induction ds with
  | nil => simp at hd
  | cons b ds ih =>
    intro x hx
    rw [DataW.weightsAll]
    rcases List.mem_cons.1 hd with rfl | hd
    · exact List.mem_append_left _ hx
    · exact List.mem_append_right _ (ih hd x hx)

theorem add_off {a : Addr} (hs : a.spot = none) (n : Nat) : a.add n = ⟨a.block, a.off + n, none⟩ := by
  obtain ⟨b, o, s⟩ := a
  simp only at hs
  subst hs
  unfold Addr.add
  split
  · subst n; rfl
  · rfl
theorem cell_spot {a : Addr} {v : Value} (h : W.cell? a = some v) : a.spot = none ∧ a.block < W.heap.size := by
  unfold World.cell? at h
  split at h
  · rename_i c x y hb
    refine ⟨?_, (Array.getElem?_eq_some_iff.1 hb).1⟩
    cases hs : a.spot with
    | none => rfl
    | some s => rw [hs] at h; simp at h
  · cases h

theorem opened (hN : 0 < W.heap.size) : ∀ (fuel : Nat) (t : TypeId) (cs : List Value) (x : DataW H × List MemPlace), DataW.trod enc P W 0 (fun _ => true) true fuel t cs = some x → (∀ w ∈ x.1.weights P t, w ≤ reachBytes) →
    ∀ (d : Nat) (l : List Sh), leafs P d t = some l → ∀ h σ, Laid W h σ → Opened W h σ l cs := by
  intro fuel
  induction fuel with
  | zero => intro t cs x h; simp [DataW.trod] at h
  | succ fuel ih =>
    intro t cs x hx hw d l hl h σ hL
    cases d with
    | zero => simp [leafs] at hl
    | succ d =>
      rw [leafs] at hl
      split at hl
      · rename_i ht
        cases hl
        obtain ⟨b, rfl, rfl⟩ := DataW.trod_bool ht hx
        exact .done hL rfl (.bool b)
      · rename_i k ht
        cases hl
        obtain ⟨n, rfl, rfl, hwf⟩ := DataW.trod_int ht hx
        exact .done hL rfl (.int k n hwf)
      · rename_i ht
        cases hl
        obtain ⟨s, rfl, rfl, hs⟩ := DataW.trod_string ht hx
        refine .done hL rfl (.str s ?_)
        have := hw s.data.toList.length (by simp [DataW.weights])
        simpa using this
      · rename_i e ht
        split at hl
        · rename_i le hle
          split at hl
          · rename_i hc
            cases hl
            rcases DataW.trod_slice ht hx with ⟨rfl, rfl⟩ | ⟨a, len, cap, elems, rest, n, hn, rfl, rfl, _, hlc, hcm, hel, he, hr, _⟩
            · exact .done hL rfl (.nil _ _)
            · cases hn
              obtain ⟨hrl, hr⟩ := hr rfl
              have hwd : ∀ y ∈ elems, ∀ w ∈ y.1.weights P e, w ≤ reachBytes := fun y hy w hyw => hw w (by
                simp only [DataW.weights, ht, List.mem_cons, List.mem_append]
                exact .inr (.inl (weights_all (List.mem_map_of_mem hy) w hyw)))
              have hbig : len * P.bytesOf e ≤ reachBytes := by
                have := hw ((elems.map (·.1)).length * P.bytesOf e + (rest.map (·.1)).length * P.bytesOf e) (by simp [DataW.weights, ht, Nat.add_mul])
                simp only [List.length_map, hel] at this
                omega
              -- each element
              have each : ∀ i, i < len → ∃ ci, W.cells? 0 (a.add (i * P.cellsOf e)) (P.cellsOf e) = some ci ∧ ∀ h σ, Laid W h σ → Opened W h σ le ci := by
                intro i hi
                have h1 := he i hi
                have hi' : i < elems.length := by omega
                rw [List.getElem?_eq_getElem hi'] at h1
                obtain ⟨ci, hci, htr⟩ := Option.bind_eq_some_iff.1 h1
                exact ⟨ci, hci, ih e ci _ htr (hwd _ (List.getElem_mem hi')) d le hle⟩
              have alive : ∀ i, i < cap → (a.add (i * P.cellsOf e)).spot = none ∧ a.block < W.heap.size ∧ a.spot = none := by
                intro i hi
                have hcell : ∃ ci, W.cells? 0 (a.add (i * P.cellsOf e)) (P.cellsOf e) = some ci := by
                  by_cases h1 : i < len
                  · obtain ⟨ci, h2, _⟩ := each i h1; exact ⟨ci, h2⟩
                  · have h2 := hr (i - len) (by omega)
                    rw [show len + (i - len) = i by omega, List.getElem?_eq_getElem (by omega)] at h2
                    obtain ⟨ci, hci, _⟩ := Option.bind_eq_some_iff.1 h2
                    exact ⟨ci, hci⟩
                obtain ⟨ci, hci⟩ := hcell
                obtain ⟨_, hl1, hg⟩ := World.cells?_some hci
                have h3 := hg 0 hc.2
                rw [List.getElem?_eq_getElem (by omega)] at h3
                have h4 := cell_spot h3
                rw [show (a.add (i * P.cellsOf e)).add 0 = a.add (i * P.cellsOf e) by simp [Addr.add]] at h4
                refine ⟨h4.1, by have := h4.2; rwa [Go.ChangeShapes.block_add] at this, ?_⟩
                have hcell0 : ∃ c0, W.cells? 0 (a.add (0 * P.cellsOf e)) (P.cellsOf e) = some c0 := by
                  by_cases h1 : 0 < len
                  · obtain ⟨ci, h2, _⟩ := each 0 h1; exact ⟨ci, h2⟩
                  · have h2 := hr 0 (by omega)
                    rw [show len + 0 = 0 by omega, List.getElem?_eq_getElem (by omega)] at h2
                    obtain ⟨ci, hci, _⟩ := Option.bind_eq_some_iff.1 h2
                    exact ⟨ci, hci⟩
                obtain ⟨c0, hc0⟩ := hcell0
                obtain ⟨_, hl0, hg0⟩ := World.cells?_some hc0
                have h5 := hg0 0 hc.2
                rw [List.getElem?_eq_getElem (by omega)] at h5
                have h6 := (cell_spot h5).1
                simpa [Addr.add] using h6
              -- all of them
              have all : ∀ k, k ≤ len → ∀ h σ, Laid W h σ → ∃ (h' : Heap) (σ' : Emb) (us : List Value), Grow W h h' σ σ' ∧ us.length = k * P.cellsOf e ∧
                  (∀ (j : Nat) u, us[j]? = some u → ∃ c, W.cell? ⟨a.block, a.off + j, none⟩ = some c ∧ VR σ' (fun j => h'[j]?) u c) ∧
                  (∀ (j : Nat) s u, le[j % le.length]? = some s → us[j]? = some u → Typed h' s u) ∧ ∀ u ∈ us, single u = true := by
                intro k
                induction k with
                | zero => intro _ h σ hL; exact ⟨h, σ, [], .refl hL, by simp, fun j u hu => by simp at hu, fun j s u _ hu => by simp at hu, fun u hu => by simp at hu⟩
                | succ k ihk =>
                  intro hk h σ hL
                  obtain ⟨h1, σ1, us, g1, hlen1, hv1, ht1, hs1⟩ := ihk (by omega) h σ hL
                  obtain ⟨ci, hci, hop⟩ := each k (by omega)
                  obtain ⟨_, hcl, hcg⟩ := World.cells?_some hci
                  have hsp := (alive k (by omega)).2.2
                  obtain ⟨h2, σ2, us2, g2, hv2, ht2, hs2⟩ := hop h1 σ1 g1.laid
                  have hul : us2.length = P.cellsOf e := by rw [hv2.length, hcl]
                  refine ⟨h2, σ2, us ++ us2, g1.trans g2, by rw [List.length_append, hlen1, hul, Nat.succ_mul], ?_, ?_, ?_⟩
                  · intro j u hu
                    by_cases hj : j < us.length
                    · rw [List.getElem?_append_left hj] at hu
                      obtain ⟨c, hcc, hvv⟩ := hv1 j u hu
                      exact ⟨c, hcc, hvv.ext g2.ext⟩
                    · rw [List.getElem?_append_right (by omega)] at hu
                      obtain ⟨c, hcc, hvv⟩ := hv2.get hu
                      refine ⟨c, ?_, hvv⟩
                      have hjl : j - us.length < P.cellsOf e := by rw [← hul]; exact (List.getElem?_eq_some_iff.1 hu).1
                      have := hcg (j - us.length) hjl
                      rw [hcc, add_off hsp, add_off rfl] at this
                      rw [← this]
                      have : a.off + j = a.off + k * P.cellsOf e + (j - us.length) := by omega
                      rw [this]
                  · intro j s u hs hu
                    by_cases hj : j < us.length
                    · rw [List.getElem?_append_left hj] at hu
                      obtain ⟨more, rfl⟩ := g2.pre
                      exact (ht1 j s u hs hu).more more
                    · rw [List.getElem?_append_right (by omega)] at hu
                      refine ht2.2 (j - us.length) s u ?_ hu
                      have hjl : j - us.length < P.cellsOf e := by rw [← hul]; exact (List.getElem?_eq_some_iff.1 hu).1
                      rw [← hs, hlen1, hc.1]
                      rw [hlen1] at hjl hj
                      have e1 : j % P.cellsOf e = j - k * P.cellsOf e := by
                        conv => lhs; rw [show j = (j - k * P.cellsOf e) + P.cellsOf e * k by rw [Nat.mul_comm (P.cellsOf e) k]; omega]
                        rw [Nat.add_mul_mod_self_left, Nat.mod_eq_of_lt hjl]
                      rw [e1]
                  · intro u hu
                    rcases List.mem_append.1 hu with hu | hu
                    · exact hs1 u hu
                    · exact hs2 u hu
              obtain ⟨h1, σ1, us, g1, hlen1, hv1, ht1, hs1⟩ := all len (Nat.le_refl _) h σ hL
              -- the object itself
              let σ2 : Emb := fun i => if i = h1.length then (if 0 < cap then ⟨a.block, a.off, 0⟩ else ⟨0, 0, 0⟩) else σ1 i
              have hlast : (h1 ++ [AObj.cells us 0 true])[h1.length]? = some (.cells us 0 true) := by simp
              have hext : Ext σ1 (fun j => h1[j]?) σ2 (fun j => (h1 ++ [AObj.cells us 0 true])[j]?) := by
                constructor
                · intro i vals ver ro hi
                  have hlt := (List.getElem?_eq_some_iff.1 hi).1
                  exact ⟨vals, ver, by rw [List.getElem?_append_left hlt]; exact hi, Nat.le_refl _, fun _ => if_neg (by omega)⟩
                · intro i es hi
                  have hlt := (List.getElem?_eq_some_iff.1 hi).1
                  exact ⟨es, by rw [List.getElem?_append_left hlt]; exact hi, if_neg (by omega)⟩
              have hobj : ObjR W.heap.size σ2 (fun j => (h1 ++ [AObj.cells us 0 true])[j]?) W (σ2 h1.length) (.cells us 0 true) := by
                show ObjR _ _ _ _ (if h1.length = h1.length then _ else _) _
                rw [if_pos rfl]
                by_cases hcap : 0 < cap
                · rw [if_pos hcap]
                  refine .ro us (alive 0 hcap).2.1 (fun i u hu => ?_) hs1
                  obtain ⟨c, hcc, hvv⟩ := hv1 i u hu
                  exact ⟨c, hcc, hvv.ext hext⟩
                · rw [if_neg hcap]
                  refine .ro us hN (fun i u hu => ?_) hs1
                  have : us.length = 0 := by rw [hlen1, show len = 0 by omega]; simp
                  rw [List.length_eq_zero_iff.1 this] at hu
                  simp at hu
              have hL2 : Laid W (h1 ++ [AObj.cells us 0 true]) σ2 := by
                intro i o hi
                by_cases hlt : i < h1.length
                · rw [List.getElem?_append_left hlt] at hi
                  obtain ⟨ho, hr'⟩ := g1.laid i o hi
                  refine ⟨ho, ?_⟩
                  have : σ2 i = σ1 i := if_neg (by omega)
                  rw [this]
                  exact hr'.step hext rfl
                · have hi2 := (List.getElem?_eq_some_iff.1 hi).1
                  simp at hi2
                  have : i = h1.length := by omega
                  subst this
                  rw [hlast] at hi
                  cases hi
                  exact ⟨rfl, hobj⟩
              have g2 : Grow W h1 (h1 ++ [AObj.cells us 0 true]) σ1 σ2 := ⟨⟨_, rfl⟩, fun i hi => if_neg (by omega), hL2⟩
              refine ⟨_, σ2, [.slice (some ⟨h1.length, 0, some 0⟩) len le.length], g1.trans g2, .cons _ _ _ _ ?_ .nil, .one ?_, fun u hu => by simp at hu; subst hu; rfl⟩
              · refine .slice _ a len le.length cap 0 us 0 true rfl hlast (Nat.le_refl _) hlc fun _ => ?_
                by_cases hcap : 0 < cap
                · left
                  refine ⟨?_, fun h => by cases h⟩
                  have hs2 : σ2 h1.length = ⟨a.block, a.off, 0⟩ := by show (if h1.length = h1.length then _ else _) = _; rw [if_pos rfl, if_pos hcap]
                  rw [hs2]
                  have := (alive 0 hcap).2.2
                  obtain ⟨b, o, s⟩ := a
                  simp only at this
                  subst this
                  rfl
                · right; omega
              · refine .slice _ le h1.length len us hlast (by rw [hlen1, hc.1]) hbig fun j s u hs hu => (ht1 j s u hs hu).more _
          · cases hl
        · cases hl
      · rename_i fs ht
        split at hl
        · rename_i l' hl'
          split at hl
          · rename_i hlen
            cases hl
            obtain ⟨xs, n, hn, rfl, hcl, hxl, hf⟩ := DataW.trod_struct ht hx
            cases hn
            have hwd : ∀ i (f : Field), fs[i]? = some f → ∀ (y : DataW H × List MemPlace), xs[i]? = some y → ∀ w ∈ y.1.weights P f.type, w ≤ reachBytes := fun i f hfi y hy w hyw => hw w (by
              simp only [DataW.weights, ht]
              exact weights_each (i := i) (t := f.type) (d := y.1) (by rw [List.getElem?_map, show fs.toList[i]? = some f by simpa using hfi]; rfl) (by rw [List.getElem?_map, hy]; rfl) w hyw)
            have := opened_fs (P := P) (W := W) fs.toList 0 cs l hl' (by omega) (fun f hfm l2 hl2 h σ hL => by
              obtain ⟨i, hi, hfi⟩ := List.getElem_of_mem hfm
              have hfi' : fs[i]? = some f := by
                rw [Array.getElem?_eq_some_iff]; exact ⟨by simpa using hi, by simpa using hfi⟩
              have h1 := hf i f hfi'
              have hi' : i < xs.length := by rw [hxl]; simpa using hi
              rw [List.getElem?_eq_getElem hi'] at h1
              exact ih f.type _ _ h1 (hwd i f hfi' _ (List.getElem?_eq_getElem hi')) d l2 hl2 h σ hL) h σ hL
            simpa using this
          · cases hl
        · cases hl
      · rename_i n e ht
        split at hl
        · rename_i le hle
          split at hl
          · rename_i hc
            cases hl
            obtain ⟨xs, hxl, hcl, hxx, hf⟩ : ∃ xs : List (DataW H × List MemPlace), xs.length = n ∧ cs.length = P.cellsOf t ∧ x = (.agg (xs.map (·.1)), xs.flatMap (·.2)) ∧ ∀ i, i < n → DataW.trod enc P W 0 (fun _ => true) true fuel e ((cs.drop (i * P.cellsOf e)).take (P.cellsOf e)) = xs[i]? := by
              unfold DataW.trod at hx
              rw [ht] at hx
              simp only at hx
              split at hx
              · rename_i hcl
                obtain ⟨xs, hxs, rfl⟩ := Option.map_eq_some_iff.1 hx
                exact ⟨xs, by simpa using mapM_some_length hxs, hcl, rfl, fun i hi => mapM_some_get hxs i i (by simp [hi])⟩
              · cases hx
            subst hxx
            have hwd : ∀ y ∈ xs, ∀ w ∈ y.1.weights P e, w ≤ reachBytes := fun y hy w hyw => hw w (by
              simp only [DataW.weights, ht]
              exact weights_all (List.mem_map_of_mem hy) w hyw)
            have hp := opened_pieces (W := W) (l := le) (pieces cs (P.cellsOf e) n) (fun p hp h σ hL => by
              obtain ⟨i, hi, rfl⟩ := pieces_mem hp
              have h1 := hf i hi
              rw [List.getElem?_eq_getElem (by omega)] at h1
              exact ih e _ _ h1 (hwd _ (List.getElem_mem _)) d le hle h σ hL) h σ hL
            rw [pieces_len, pieces_flat _ _ _ (by rw [hcl, hc.2]; exact Nat.le_refl _)] at hp
            rw [List.take_of_length_le (by rw [hcl, hc.2]; exact Nat.le_refl _)] at hp
            exact hp
          · cases hl
        · cases hl
      · cases hl

/-- An argument: is it a row of cells?, its cells. -/
def leafA (P : Program) (d : Nat) (t : TypeId) : Option (Bool × List Sh) :=
  (leafs P d t).map fun l => (match P.underlying t with | some (.struct _) => true | some (.array _ _) => true | _ => false, l)
def TypedA (h : Heap) : Bool × List Sh → Value → Prop
  | (true, ss), u => ∃ l, u = agg l ∧ TypedL h ss l
  | (false, ss), u => TypedL h ss [u]
def TypedAs (h : Heap) : List (Bool × List Sh) → List Value → Prop
  | [], [] => True
  | s :: ss, u :: us => TypedA h s u ∧ TypedAs h ss us
  | _, _ => False
theorem TypedA.more {h : Heap} (more : Heap) {s : Bool × List Sh} {u : Value} (ht : TypedA h s u) : TypedA (h ++ more) s u := by
  obtain ⟨b, ss⟩ := s
  cases b with
  | true => obtain ⟨l, e, ht⟩ := ht; exact ⟨l, e, ht.more more⟩
  | false => exact TypedL.more more ht

/-- Nothing but a slice's address needs memory. -/
theorem opened_empty : ∀ (fuel : Nat) (t : TypeId) (cs : List Value) (x : DataW H × List MemPlace), DataW.trod enc P W 0 (fun _ => true) true fuel t cs = some x → (∀ w ∈ x.1.weights P t, w ≤ reachBytes) →
    (∀ c ∈ cs, ∀ a n k, c ≠ .slice (some a) n k) →
    ∀ (d : Nat) (l : List Sh), leafs P d t = some l → ∀ h σ, Laid W h σ → Opened W h σ l cs := by
  intro fuel
  induction fuel with
  | zero => intro t cs x h; simp [DataW.trod] at h
  | succ fuel ih =>
    intro t cs x hx hw hns d l hl h σ hL
    cases d with
    | zero => simp [leafs] at hl
    | succ d =>
      rw [leafs] at hl
      split at hl
      · rename_i ht
        cases hl
        obtain ⟨b, rfl, rfl⟩ := DataW.trod_bool ht hx
        exact .done hL rfl (.bool b)
      · rename_i k ht
        cases hl
        obtain ⟨n, rfl, rfl, hwf⟩ := DataW.trod_int ht hx
        exact .done hL rfl (.int k n hwf)
      · rename_i ht
        cases hl
        obtain ⟨s, rfl, rfl, hs⟩ := DataW.trod_string ht hx
        refine .done hL rfl (.str s ?_)
        have := hw s.data.toList.length (by simp [DataW.weights])
        simpa using this
      · rename_i e ht
        split at hl
        · rename_i le hle
          split at hl
          · rename_i hc
            cases hl
            rcases DataW.trod_slice ht hx with ⟨rfl, rfl⟩ | ⟨a, len, cap, elems, rest, n, hn, rfl, rfl, _, hlc, hcm, hel, he, hr, _⟩
            · exact .done hL rfl (.nil _ _)
            · exact absurd rfl (hns _ (by simp) a len cap)
          · cases hl
        · cases hl
      · rename_i fs ht
        split at hl
        · rename_i l' hl'
          split at hl
          · rename_i hlen
            cases hl
            obtain ⟨xs, n, hn, rfl, hcl, hxl, hf⟩ := DataW.trod_struct ht hx
            cases hn
            have hwd : ∀ i (f : Field), fs[i]? = some f → ∀ (y : DataW H × List MemPlace), xs[i]? = some y → ∀ w ∈ y.1.weights P f.type, w ≤ reachBytes := fun i f hfi y hy w hyw => hw w (by
              simp only [DataW.weights, ht]
              exact weights_each (i := i) (t := f.type) (d := y.1) (by rw [List.getElem?_map, show fs.toList[i]? = some f by simpa using hfi]; rfl) (by rw [List.getElem?_map, hy]; rfl) w hyw)
            have := opened_fs (P := P) (W := W) fs.toList 0 cs l hl' (by omega) (fun f hfm l2 hl2 h σ hL => by
              obtain ⟨i, hi, hfi⟩ := List.getElem_of_mem hfm
              have hfi' : fs[i]? = some f := by
                rw [Array.getElem?_eq_some_iff]; exact ⟨by simpa using hi, by simpa using hfi⟩
              have h1 := hf i f hfi'
              have hi' : i < xs.length := by rw [hxl]; simpa using hi
              rw [List.getElem?_eq_getElem hi'] at h1
              exact ih f.type _ _ h1 (hwd i f hfi' _ (List.getElem?_eq_getElem hi')) (fun c hc => hns c (List.mem_of_mem_drop (List.mem_of_mem_take hc))) d l2 hl2 h σ hL) h σ hL
            simpa using this
          · cases hl
        · cases hl
      · rename_i n e ht
        split at hl
        · rename_i le hle
          split at hl
          · rename_i hc
            cases hl
            obtain ⟨xs, hxl, hcl, hxx, hf⟩ : ∃ xs : List (DataW H × List MemPlace), xs.length = n ∧ cs.length = P.cellsOf t ∧ x = (.agg (xs.map (·.1)), xs.flatMap (·.2)) ∧ ∀ i, i < n → DataW.trod enc P W 0 (fun _ => true) true fuel e ((cs.drop (i * P.cellsOf e)).take (P.cellsOf e)) = xs[i]? := by
              unfold DataW.trod at hx
              rw [ht] at hx
              simp only at hx
              split at hx
              · rename_i hcl
                obtain ⟨xs, hxs, rfl⟩ := Option.map_eq_some_iff.1 hx
                exact ⟨xs, by simpa using mapM_some_length hxs, hcl, rfl, fun i hi => mapM_some_get hxs i i (by simp [hi])⟩
              · cases hx
            subst hxx
            have hwd : ∀ y ∈ xs, ∀ w ∈ y.1.weights P e, w ≤ reachBytes := fun y hy w hyw => hw w (by
              simp only [DataW.weights, ht]
              exact weights_all (List.mem_map_of_mem hy) w hyw)
            have hp := opened_pieces (W := W) (l := le) (pieces cs (P.cellsOf e) n) (fun p hp h σ hL => by
              obtain ⟨i, hi, rfl⟩ := pieces_mem hp
              have h1 := hf i hi
              rw [List.getElem?_eq_getElem (by omega)] at h1
              exact ih e _ _ h1 (hwd _ (List.getElem_mem _)) (fun c hc => hns c (List.mem_of_mem_drop (List.mem_of_mem_take hc))) d le hle h σ hL) h σ hL
            rw [pieces_len, pieces_flat _ _ _ (by rw [hcl, hc.2]; exact Nat.le_refl _)] at hp
            rw [List.take_of_length_le (by rw [hcl, hc.2]; exact Nat.le_refl _)] at hp
            exact hp
          · cases hl
        · cases hl
      · cases hl

/-- Without a block there is no slice's address among a value's cells. -/
theorem no_slices (hN : W.heap.size = 0) {b0 : Nat} {t : TypeId} {v : Value} (hv : Value.okWide P W .any b0 t v) : ∀ c ∈ v.cells.toList, ∀ a n k, c ≠ .slice (some a) n k := by
  have cell : ∀ t v, Cell.okWide P W .any b0 t v → ∀ a n k, v ≠ .slice (some a) n k := by
    rintro t v hv a n k rfl
    unfold Cell.okWide at hv
    split at hv <;> rename_i h1 <;> try cases h1
    all_goals try (rename_i h2; cases h2)
    unfold Cell.ok at hv
    split at hv <;> rename_i h1 <;> try (cases h1; done)
    all_goals try (rename_i h2; cases h2)
    all_goals try exact hv
    · obtain ⟨_, _, _, _, row, cells, hs, _⟩ := hv
      unfold World.shape? at hs
      split at hs
      · rename_i hb
        have := (Array.getElem?_eq_some_iff.1 hb).1
        omega
      · cases hs
  intro c hc a n k
  unfold Value.okWide at hv
  split at hv
  · obtain ⟨cs, rfl, _, ts, _, _, hrow⟩ := hv
    obtain ⟨i, hi⟩ := List.getElem?_of_mem hc
    obtain ⟨u, _, hu⟩ := hrow i c (by rw [Array.getElem?_toList] at hi; exact hi)
    exact cell u c hu a n k
  · obtain ⟨cs, rfl, _, ts, _, _, hrow⟩ := hv
    obtain ⟨i, hi⟩ := List.getElem?_of_mem hc
    obtain ⟨u, _, hu⟩ := hrow i c (by rw [Array.getElem?_toList] at hi; exact hi)
    exact cell u c hu a n k
  · have hnot : ∀ cs, v ≠ .agg cs := by
      rintro cs rfl
      unfold Cell.okWide at hv
      split at hv <;> rename_i h1 <;> try cases h1
      all_goals try (rename_i h2; cases h2)
      unfold Cell.ok at hv
      split at hv <;> rename_i h1 <;> try (cases h1; done)
      all_goals try (rename_i h2; cases h2)
      all_goals exact hv
    have : v.cells.toList = [v] := by
      cases v <;> first | rfl | exact absurd rfl (hnot _)
    rw [this] at hc
    simp at hc
    subst hc
    exact cell t c hv a n k

theorem leafs_single {d : Nat} {t : TypeId} {l : List Sh} (hl : leafs P d t = some l) (h : (match P.underlying t with | some (.struct _) => true | some (.array _ _) => true | _ => false) = false) : l.length = 1 := by
  cases d with
  | zero => simp [leafs] at hl
  | succ d =>
    rw [leafs] at hl
    split at hl
    · cases hl; rfl
    · cases hl; rfl
    · cases hl; rfl
    · split at hl
      · split at hl
        · cases hl; rfl
        · cases hl
      · cases hl
    · rename_i ht; rw [ht] at h; cases h
    · rename_i ht; rw [ht] at h; cases h
    · cases hl

theorem opened_args {b0 : Nat} (d : Nat) : ∀ (ts : List TypeId) (vs : List Value) (ds : List (DataW H)) (ps : List MemPlace) (ss : List (Bool × List Sh)), DataW.TrodAll enc P W 0 (fun _ => true) true ts vs ds ps →
    (∀ (j : Nat) t v, ts[j]? = some t → vs[j]? = some v → Value.okWide P W .any b0 t v) → (∀ w ∈ DataW.weightsEach P ts ds, w ≤ reachBytes) → ts.mapM (leafA P d) = some ss →
    ∀ h σ, Laid W h σ → ∃ (h' : Heap) (σ' : Emb) (us : List Value), Grow W h h' σ σ' ∧ VRs σ' (fun j => h'[j]?) us vs ∧ TypedAs h' ss us
  | [], vs, ds, ps, ss, hA, hv, hw, hs, h, σ, hL => by
    obtain ⟨rfl, rfl, rfl⟩ := Go.ChangeShapes.trodAll_nil hA
    simp at hs; subst hs
    exact ⟨h, σ, [], .refl hL, .nil, trivial⟩
  | t :: ts, vs, ds, ps, ss, hA, hv, hw, hs, h, σ, hL => by
    obtain ⟨v, vs', d1, ds', p, q, rfl, rfl, rfl, ⟨fuel, h1⟩, hA'⟩ := Go.ChangeShapes.trodAll_cons hA
    rw [List.mapM_cons] at hs
    obtain ⟨s, hs1, hs⟩ := Option.bind_eq_some_iff.1 hs
    obtain ⟨ss', hs2, hs⟩ := Option.bind_eq_some_iff.1 hs
    cases hs
    obtain ⟨l, hl, rfl⟩ := Option.map_eq_some_iff.1 hs1
    have hw1 : ∀ w ∈ d1.weights P t, w ≤ reachBytes := fun w hx => hw w (by rw [DataW.weightsEach]; exact List.mem_append_left _ hx)
    have hok := hv 0 t v rfl rfl
    have hop : Opened W h σ l v.cells.toList := by
      by_cases hN : 0 < W.heap.size
      · exact opened hN fuel t _ _ h1 hw1 d l hl h σ hL
      · exact opened_empty fuel t _ _ h1 hw1 (no_slices (by omega) hok) d l hl h σ hL
    obtain ⟨h2, σ2, us, g, hvr, hty, hsi⟩ := hop
    obtain ⟨h3, σ3, us', g', hvr', hty'⟩ := opened_args d ts vs' ds' q ss' hA' (fun j t v a b => hv (j + 1) t v (by simpa using a) (by simpa using b)) (fun w hx => hw w (by rw [DataW.weightsEach]; exact List.mem_append_right _ hx)) hs2 h2 σ2 g.laid
    obtain ⟨more, hmore⟩ := g'.pre
    cases hb : (match P.underlying t with | some (.struct _) => true | some (.array _ _) => true | _ => false) with
    | true =>
      have : ∃ cs, v = .agg cs := by
        unfold Value.okWide at hok
        split at hok
        · obtain ⟨cs, e, _⟩ := hok; exact ⟨cs, e⟩
        · obtain ⟨cs, e, _⟩ := hok; exact ⟨cs, e⟩
        · rename_i h1 h2; split at hb
          · exact absurd ‹_› (h1 _)
          · exact absurd ‹_› (h2 _ _)
          · cases hb
      obtain ⟨cs, rfl⟩ := this
      obtain ⟨cl⟩ := cs
      refine ⟨h3, σ3, agg us :: us', g.trans g', .cons _ _ _ _ ?_ hvr', ⟨⟨us, rfl, by rw [hmore]; exact hty.more more⟩, hty'⟩⟩
      exact (VR.agg us cl hvr hsi).ext g'.ext
    | false =>
      have h1l := leafs_single hl hb
      have hul : us.length = 1 := by rw [← hty.1, h1l]
      obtain ⟨u, rfl⟩ := List.length_eq_one_iff.1 hul
      have hcl : v.cells.toList.length = 1 := by rw [← hvr.length]; rfl
      have hv1 : VR σ2 (fun j => h2[j]?) u v := by
        cases v <;> simp [Value.cells] at hcl hvr <;> (try (cases hvr; assumption))
        unfold Value.okWide at hok
        split at hok
        · rename_i ht; rw [ht] at hb; cases hb
        · rename_i ht; rw [ht] at hb; cases hb
        · unfold Cell.okWide at hok
          split at hok <;> rename_i h1 <;> try cases h1
          all_goals try (rename_i h2; cases h2)
          unfold Cell.ok at hok
          split at hok <;> rename_i h1 <;> try (cases h1; done)
          all_goals try (rename_i h2; cases h2)
          all_goals cases hok
      refine ⟨h3, σ3, u :: us', g.trans g', .cons _ _ _ _ (hv1.ext g'.ext) hvr', ⟨?_, hty'⟩⟩
      show TypedL h3 l [u]
      rw [hmore]; exact hty.more more

/-- Each argument reads behind the call as it did. -/
theorem args_again (hl : laidOutB P = true) {W' : World} (hb : Go.RowKit.Below W.heap.size W W') : ∀ (ts : List TypeId) (vs : List Value) (ds : List (DataW H)) (ps : List MemPlace), (∀ t ∈ ts, P.readableRec t = true ∧ t < P.types.size) →
    DataW.TrodAll enc P W 0 (fun _ => true) true ts vs ds ps → DataW.TrodAll enc P W' 0 (fun b => decide (b < W.heap.size)) true ts vs ds ps
  | [], vs, ds, ps, _, hA => by
    obtain ⟨rfl, rfl, rfl⟩ := Go.ChangeShapes.trodAll_nil hA
    exact Go.ChangeShapes.trodAll_mk0
  | t :: ts, vs, ds, ps, hr, hA => by
    have hlt := DataW.TrodAll.lt hA
    obtain ⟨v, vs', d1, ds', p, q, rfl, rfl, rfl, h1, hA'⟩ := Go.ChangeShapes.trodAll_cons hA
    exact trodAll_cons_mk (Go.RowKit.Below.trod hl (hr t (by simp)).1 (hr t (by simp)).2 h1 hb fun x hx => hlt x (List.mem_append_left _ hx)) (args_again hl hb ts vs' ds' q (fun t ht => hr t (by simp [ht])) hA')

/-- As many data as types. -/
theorem args_len : ∀ {ts : List TypeId} {vs : List Value} {ds : List (DataW H)} {ps : List MemPlace}, DataW.TrodAll enc P W 0 (fun _ => true) true ts vs ds ps → ds.length = ts.length
  | [], vs, ds, ps, hA => by
    obtain ⟨rfl, rfl, rfl⟩ := Go.ChangeShapes.trodAll_nil hA; rfl
  | t :: ts, vs, ds, ps, hA => by
    obtain ⟨v, vs', d1, ds', p, q, rfl, rfl, rfl, h1, hA'⟩ := Go.ChangeShapes.trodAll_cons hA
    simp [args_len hA']
/-- A law that is true of whatever can be read. -/
theorem law_calls {b0 : Nat} {F : Funcs} (hm : P.follows .mixedOrders = true) (hr : Reads P 0 F) {f : FuncId} {ts : List TypeId} {args : List Value} {ds : List (DataW H)} {ps : List MemPlace} (d : Nat) {ss : List (Bool × List Sh)}
    (hA : DataW.TrodAll enc P W 0 (fun _ => true) true ts args ds ps) (hv : ∀ (j : Nat) t v, ts[j]? = some t → args[j]? = some v → Value.okWide P W .any b0 t v) (hw : ∀ w ∈ DataW.weightsEach P ts ds, w ≤ reachBytes) (hs : ts.mapM (leafA P d) = some ss)
    (hd : ∀ (h : Heap) (us : List Value), TypedAs h ss us → ∃ h', DF F f us h = some (.bool true, h')) :
    Calls P f ⟨args⟩ W fun e W' => e = .returned (.bool true) ∧ Go.RowKit.Below W.heap.size W W' := by
  obtain ⟨h, σ, us, g, hvr, hty⟩ := opened_args d ts args ds ps ss hA hv hw hs [] (fun _ => ⟨0, 0, 0⟩) (fun i o hi => by simp at hi)
  obtain ⟨h', hd⟩ := hd h us hty
  refine entry (G := 0) hm hr hd rfl σ W ⟨fun i o hi => (g.laid i o hi).2, fun i j o p hi hj ho => ?_, fun i hi => by omega, Nat.le_refl _⟩ hvr fun o ho => ?_
  · rw [(g.laid i o hi).1] at ho; cases ho
  · obtain ⟨i, hi, he⟩ := List.getElem_of_mem ho
    exact (g.laid i o (by rw [List.getElem?_eq_getElem hi, he])).1
end
end Go.Proofs.YtfbldlgjlgcpoaaDoor.AM

namespace Go.Proofs.YtfbldlgjlgcpoaaDoor.AM
open Go.RowKit
/-- A row of whole numbers, or none at all. -/
def IntsN (h : Heap) (s : Value) (ms : List Int) : Prop := (s = nils ∧ ms = []) ∨ Ints h s ms
theorem IntsN.len {h : Heap} {s : Value} {ms : List Int} (e : IntsN h s ms) (H : Heap) : lenO H s = some (.int .i64 ms.length, H) := by
  rcases e with ⟨rfl, rfl⟩ | ⟨p, rfl, _⟩ <;> rfl
theorem IntsN.src {h : Heap} {s : Value} {ms : List Int} (e : IntsN h s ms) (more : Heap) : srcOf (h ++ more) 1 s = some (ms.map (.int .i64 ·), ms.length) := by
  rcases e with ⟨rfl, rfl⟩ | ⟨p, rfl, hr⟩
  · rfl
  · exact src_some _ (by rw [Nat.mul_one]; exact read_more h more hr)
theorem IntsN.at {h : Heap} {s : Value} {ms : List Int} (e : IntsN h s ms) (more : Heap) {k : Nat} (hk : k < ms.length) : ∃ p : Addr, rowO (h ++ more) 1 s (.int .i64 k) = some (.pointer (some p), h ++ more) ∧ Heap.read1 (h ++ more) p = some (.int .i64 ms[k]) := by
  rcases e with ⟨rfl, rfl⟩ | ⟨p, rfl, hr⟩
  · simp at hk
  · refine ⟨_, row_some _ (by omega) (by omega), ?_⟩
    simp only [Int.toNat_natCast, Nat.mul_one]
    exact Ints.get (read_more h more hr) hk
theorem typed_int {h : Heap} {k : IntKind} {u : Value} (ht : TypedA h (false, [.int k]) u) : ∃ n, u = .int k n ∧ (Lit.int k n).wf = true := by
  have := ht.2 0 _ _ rfl rfl
  cases this; exact ⟨_, rfl, ‹_›⟩
theorem typed_bool {h : Heap} {u : Value} (ht : TypedA h (false, [.bool]) u) : ∃ b, u = .bool b := by
  have := ht.2 0 _ _ rfl rfl
  cases this; exact ⟨_, rfl⟩
theorem typed_str {h : Heap} {u : Value} (ht : TypedA h (false, [.str]) u) : ∃ s : ByteArray, u = .string s ∧ s.size ≤ reachBytes := by
  have := ht.2 0 _ _ rfl rfl
  cases this; exact ⟨_, rfl, ‹_›⟩
theorem ints_of {h : Heap} {k : IntKind} : ∀ (l : List Value), (∀ (i : Nat) u, l[i]? = some u → Typed h (.int k) u) → ∃ ms : List Int, l = ms.map (.int k ·) ∧ ∀ m ∈ ms, (Lit.int k m).wf = true
  | [], _ => ⟨[], rfl, fun m hm => by simp at hm⟩
  | u :: l, ht => by
    obtain ⟨ms, rfl, hw⟩ := ints_of l fun i u hu => ht (i + 1) u (by simpa using hu)
    have := ht 0 u rfl
    cases this
    exact ⟨_ :: ms, rfl, fun m hm => by
      rcases List.mem_cons.1 hm with rfl | hm
      · assumption
      · exact hw m hm⟩
theorem typed_ints' {h : Heap} {b : Nat} {u : Value} (ht : Typed h (.slice b [.int .i64]) u) : ∃ ms : List Int, IntsN h u ms ∧ (∀ m ∈ ms, (Lit.int .i64 m).wf = true) ∧ ms.length * b ≤ reachBytes := by
  cases ht with
  | nil => exact ⟨[], .inl ⟨rfl, rfl⟩, fun m hm => by simp at hm, by simp⟩
  | slice b e i n l hi hl hb ht =>
    obtain ⟨ms, rfl, hw⟩ := ints_of (k := .i64) l fun j u hu => ht j _ u (by simp [Nat.mod_one]) hu
    simp at hl
    refine ⟨ms, .inr ⟨⟨i, 0, some 0⟩, by simp [hl], ?_⟩, hw, by rw [hl]; exact hb⟩
    simp [Heap.read, hi]
    rw [List.take_of_length_le (by simp)]
theorem typed_ints {h : Heap} {b : Nat} {u : Value} (ht : TypedA h (false, [.slice b [.int .i64]]) u) : ∃ ms : List Int, IntsN h u ms ∧ (∀ m ∈ ms, (Lit.int .i64 m).wf = true) ∧ ms.length * b ≤ reachBytes := typed_ints' (ht.2 0 _ _ rfl rfl)
end Go.Proofs.YtfbldlgjlgcpoaaDoor.AM

namespace Go.Proofs.YtfbldlgjlgcpoaaDoor.AM
open Go.RowKit
set_option linter.unusedSimpArgs false
set_option linter.unusedVariables false

theorem typed_slice' {h : Heap} {b : Nat} {e : List Sh} {u : Value} (he : 0 < e.length) (ht : Typed h (.slice b e) u) :
    ∃ rows : List (List Value), Sl h u e.length rows ∧ (∀ r ∈ rows, TypedL h e r) ∧ rows.length * b ≤ reachBytes := by
  cases ht with
  | nil => exact ⟨[], ⟨.inl ⟨rfl, rfl⟩, by simp⟩, by simp, by simp⟩
  | slice b e i n l hi hl hb ht =>
    have hpl : ∀ r ∈ pieces l e.length n, r.length = e.length := by
      intro r hr
      obtain ⟨k, hk, rfl⟩ := pieces_mem hr
      rw [List.length_take, List.length_drop, hl]
      have : k * e.length + e.length ≤ n * e.length := by rw [← Nat.succ_mul]; exact Nat.mul_le_mul_right _ hk
      omega
    refine ⟨pieces l e.length n, ⟨.inr ⟨i, 0, 0, by rw [pieces_len], ?_⟩, hpl⟩, ?_, by rw [pieces_len]; exact hb⟩
    · rw [pieces_len, pieces_flat _ _ _ (by omega)]
      unfold Heap.read
      simp only [hi]
      rw [if_pos ⟨trivial, by omega⟩]; simp
    · intro r hr
      refine ⟨(hpl r hr).symm, ?_⟩
      obtain ⟨k, hk, rfl⟩ := pieces_mem hr
      intro j s u hs hu
      have hj : j < e.length := (List.getElem?_eq_some_iff.1 hs).1
      refine ht (k * e.length + j) s u ?_ ?_
      · rw [Nat.mul_comm, Nat.mul_add_mod, Nat.mod_eq_of_lt hj]; exact hs
      · rw [List.getElem?_take, if_pos hj, List.getElem?_drop] at hu; exact hu
theorem typed_slice {h : Heap} {b : Nat} {e : List Sh} {u : Value} (he : 0 < e.length) (ht : TypedA h (false, [.slice b e]) u) :
    ∃ rows : List (List Value), Sl h u e.length rows ∧ (∀ r ∈ rows, TypedL h e r) ∧ rows.length * b ≤ reachBytes := typed_slice' he (ht.2 0 _ _ rfl rfl)
/-- Rows each of which is some datum's. -/
theorem rows_of {α : Type} {p : α → Prop} {f : α → List Value} : ∀ (rows : List (List Value)), (∀ r ∈ rows, ∃ a, r = f a ∧ p a) → ∃ l : List α, rows = l.map f ∧ ∀ a ∈ l, p a
  | [], _ => ⟨[], rfl, by simp⟩
  | r :: rows, h => by
    obtain ⟨l, rfl, hl⟩ := rows_of rows fun q hq => h q (by simp [hq])
    obtain ⟨a, rfl, ha⟩ := h r (by simp)
    exact ⟨a :: l, rfl, fun b hb => by
      rcases List.mem_cons.1 hb with rfl | hb
      · exact ha
      · exact hl b hb⟩
theorem typedL_get {h : Heap} {ss : List Sh} {us : List Value} (ht : TypedL h ss us) {i : Nat} {s : Sh} (hs : ss[i]? = some s) : ∃ u, us[i]? = some u ∧ Typed h s u := by
  have hi := (List.getElem?_eq_some_iff.1 hs).1
  have hu : i < us.length := by rw [← ht.1]; exact hi
  exact ⟨us[i], List.getElem?_eq_getElem hu, ht.2 i s _ hs (List.getElem?_eq_getElem hu)⟩
theorem typed_relL {h : Heap} {l : List Value} (ht : TypedL h (List.replicate 32 (.int .u32)) l) : ∃ f, l = relV f := by
  have key : ∀ k, k < 32 → ∃ x : U, l[k]? = some (.int .u32 (x.toNat : Int)) := by
    intro k hk
    obtain ⟨u, hu, ht⟩ := typedL_get ht (i := k) (s := .int .u32) (by rw [List.getElem?_replicate, if_pos hk])
    cases ht with
    | int k n hw => obtain ⟨x, rfl⟩ := u_of hw; exact ⟨x, hu⟩
  refine ⟨fun k => if h : k < 32 then (key k h).choose else 0#32, ?_⟩
  apply List.ext_getElem?
  intro k
  by_cases hk : k < 32
  · rw [relV_get hk, dif_pos hk]; exact (key k hk).choose_spec
  · rw [List.getElem?_eq_none (by have := ht.1; simp at this; omega), List.getElem?_eq_none (by rw [relV_len]; omega)]
theorem typed_rel {h : Heap} {u : Value} (ht : TypedA h (true, List.replicate 32 (.int .u32)) u) : ∃ f, u = agg (relV f) := by
  obtain ⟨l, rfl, ht⟩ := ht
  obtain ⟨f, rfl⟩ := typed_relL ht
  exact ⟨f, rfl⟩
theorem typed_set {h : Heap} {u : Value} (ht : TypedA h (false, [.int .u32]) u) : ∃ x : U, u = .int .u32 (x.toNat : Int) := by
  obtain ⟨n, rfl, hw⟩ := typed_int ht
  obtain ⟨x, rfl⟩ := u_of hw
  exact ⟨x, rfl⟩
theorem typed_rels {h : Heap} {b : Nat} {u : Value} (ht : TypedA h (false, [.slice b (List.replicate 32 (.int .u32))]) u) : ∃ rs, Rels h u rs ∧ rs.length * b ≤ reachBytes := by
  obtain ⟨rows, h1, h2, h3⟩ := typed_slice (by simp) ht
  obtain ⟨rs, rfl, _⟩ := rows_of (p := fun _ => True) (f := relV) rows fun r hr => by
    obtain ⟨f, hf⟩ := typed_relL (h2 r hr); exact ⟨f, hf, trivial⟩
  refine ⟨rs, ?_, by simpa using h3⟩
  simpa [Rels] using h1
end Go.Proofs.YtfbldlgjlgcpoaaDoor.AM

namespace Go.Proofs.YtfbldlgjlgcpoaaDoor.AM
open Go.RowKit
set_option linter.unusedSimpArgs false
set_option linter.unusedVariables false

/-- The literals of a datum, from the left. -/
def litV : Lit → Value
  | .bool b => .bool b
  | .int k n => .int k n
  | .string bs => .string ⟨bs.toArray⟩
  | _ => undef
mutual
def flatD {H : Type} : DataW H → List Lit
  | .lit l => [l]
  | .agg ds => flatDs ds
  | _ => []
def flatDs {H : Type} : List (DataW H) → List Lit
  | [] => []
  | d :: ds => flatD d ++ flatDs ds
end
/-- Cells of plain data alone. -/
def scal : List Sh → Bool
  | [] => true
  | .slice _ _ :: _ => false
  | _ :: r => scal r
theorem scal_append (a b : List Sh) : scal (a ++ b) = (scal a && scal b) := by
  induction a with
  | nil => rfl
  | cons s a ih => cases s <;> simp [scal, ih]
theorem scal_rep (l : List Sh) (n : Nat) (hn : 0 < n) (h : scal (List.replicate n l).flatten = true) : scal l = true := by
  cases n with
  | zero => omega
  | succ n => rw [List.replicate_succ, List.flatten_cons, scal_append, Bool.and_eq_true] at h; exact h.1
section
variable {H : Type} {enc : TypeId × Value → H} {P : Program} {W : World} {base : Nat} {sp : Nat → Bool} {held : Bool}
theorem flat_fs {r : TypeId → Option (List Sh)} : ∀ (fs : List Field) (off : Nat) (cs : List Value) (l : List Sh) (xs : List (DataW H × List MemPlace)), leafFs P r fs off = some l → off + l.length = cs.length → scal l = true → xs.length = fs.length →
    (∀ (i : Nat) (f : Field) (y : DataW H × List MemPlace) l', fs[i]? = some f → xs[i]? = some y → r f.type = some l' → scal l' = true → (cs.drop f.offset).take (P.cellsOf f.type) = (flatD y.1).map litV) → cs.drop off = (flatDs (xs.map (·.1))).map litV
  | [], off, cs, l, xs, hl, hlen, _, hx, _ => by
    simp [leafFs] at hl; subst hl
    have : xs = [] := List.eq_nil_of_length_eq_zero hx
    subst this
    rw [List.drop_eq_nil_of_le (by simp at hlen; omega)]; rfl
  | f :: fs, off, cs, l, [], hl, hlen, hs, hx, hf => by simp at hx
  | f :: fs, off, cs, l, x :: xs, hl, hlen, hs, hx, hf => by
    simp only [leafFs] at hl
    split at hl
    · rename_i l1 l2 h1 h2
      split at hl
      · rename_i hc
        cases hl
        rw [scal_append, Bool.and_eq_true] at hs
        have e : cs.drop off = (cs.drop f.offset).take (P.cellsOf f.type) ++ cs.drop (off + P.cellsOf f.type) := by
          rw [hc.1, ← List.drop_drop, List.take_append_drop]
        rw [e, hf 0 f x l1 rfl rfl h1 hs.1, flat_fs fs _ cs l2 xs h2 (by simp at hlen; omega) hs.2 (by simpa using hx) fun i g y l' a b => hf (i + 1) g y l' (by simpa using a) (by simpa using b)]
        simp [flatDs]
      · cases hl
    · cases hl
theorem flat_arr {c : Nat} {cs : List Value} : ∀ (n : Nat) (xs : List (DataW H × List MemPlace)), xs.length = n → (∀ (i : Nat) (y : DataW H × List MemPlace), xs[i]? = some y → (cs.drop (i * c)).take c = (flatD y.1).map litV) → (pieces cs c n).flatten = (flatDs (xs.map (·.1))).map litV := by
  intro n xs hn h
  have app : ∀ (a b : List (DataW H)), flatDs (a ++ b) = flatDs a ++ flatDs b := by
    intro a b
    induction a with
    | nil => rfl
    | cons x a ih => simp [flatDs, ih]
  induction n generalizing xs with
  | zero =>
    have : xs = [] := List.eq_nil_of_length_eq_zero hn
    subst this; rfl
  | succ n ih =>
    obtain ⟨ys, y, rfl⟩ : ∃ ys y, xs = ys ++ [y] := ⟨xs.dropLast, xs.getLast (by intro e; rw [e] at hn; simp at hn), (List.dropLast_concat_getLast _).symm⟩
    have hl : ys.length = n := by simpa using hn
    rw [pieces, List.flatten_append, ih ys hl fun i z hz => h i z (by rw [List.getElem?_append_left (List.getElem?_eq_some_iff.1 hz).1]; exact hz)]
    rw [List.map_append, app, List.map_append]
    congr 1
    have := h n y (by rw [List.getElem?_append_right (by omega), hl]; simp)
    simp [flatDs, this]
theorem cells_of_datum : ∀ (d : Nat) (t : TypeId) (l : List Sh), leafs P d t = some l → scal l = true → ∀ (fuel : Nat) (cs : List Value) (x : DataW H × List MemPlace), DataW.trod enc P W base sp held fuel t cs = some x → cs = (flatD x.1).map litV := by
  intro d
  induction d with
  | zero => intro t l hl; simp [leafs] at hl
  | succ d ih =>
    intro t l hl hs fuel cs x hx
    rw [leafs] at hl
    split at hl
    · rename_i ht
      obtain ⟨b, rfl, rfl⟩ := DataW.trod_bool ht hx
      rfl
    · rename_i k ht
      obtain ⟨n, rfl, rfl, hwf⟩ := DataW.trod_int ht hx
      rfl
    · rename_i ht
      obtain ⟨s, rfl, rfl, _⟩ := DataW.trod_string ht hx
      simp [flatD, litV]
    · split at hl
      · split at hl
        · cases hl; simp [scal] at hs
        · cases hl
      · cases hl
    · rename_i fs ht
      split at hl
      · rename_i l' hl'
        split at hl
        · rename_i hlen
          cases hl
          obtain ⟨xs, n, hn, rfl, hcl, hxl, hf⟩ := DataW.trod_struct ht hx
          have := flat_fs (P := P) fs.toList 0 cs l xs hl' (by omega) hs (by simpa using hxl) (fun i f y l2 hfi hy hl2 hs2 => by
            have h1 := hf i f (by simpa using hfi)
            rw [hy] at h1
            exact ih f.type l2 hl2 hs2 n _ y h1)
          simpa [flatD] using this
        · cases hl
      · cases hl
    · rename_i n e ht
      split at hl
      · rename_i le hle
        split at hl
        · rename_i hc
          cases hl
          cases fuel with
          | zero => simp [DataW.trod] at hx
          | succ fuel =>
            obtain ⟨xs, hxl, hcl, hxx, hf⟩ : ∃ xs : List (DataW H × List MemPlace), xs.length = n ∧ cs.length = P.cellsOf t ∧ x = (.agg (xs.map (·.1)), xs.flatMap (·.2)) ∧ ∀ i, i < n → DataW.trod enc P W base sp held fuel e ((cs.drop (i * P.cellsOf e)).take (P.cellsOf e)) = xs[i]? := by
              unfold DataW.trod at hx
              rw [ht] at hx
              simp only at hx
              split at hx
              · rename_i hcl
                obtain ⟨xs, hxs, rfl⟩ := Option.map_eq_some_iff.1 hx
                exact ⟨xs, by simpa using mapM_some_length hxs, hcl, rfl, fun i hi => mapM_some_get hxs i i (by simp [hi])⟩
              · cases hx
            subst hxx
            have h3 := flat_arr (c := P.cellsOf e) (cs := cs) n xs hxl fun i y hy => by
              have hi : i < n := by rw [← hxl]; exact (List.getElem?_eq_some_iff.1 hy).1
              have h1 := hf i hi
              rw [hy] at h1
              exact ih e le hle (scal_rep le n (by omega) hs) fuel _ y h1
            rw [pieces_flat _ _ _ (by rw [hcl, hc.2]; exact Nat.le_refl _), List.take_of_length_le (by rw [hcl, hc.2]; exact Nat.le_refl _)] at h3
            simpa [flatD] using h3
        · cases hl
      · cases hl
    · cases hl
end

section
variable {H : Type} {enc : TypeId × Value → H} {P : Program} {W : World}
/-- The memory of the package's variables: those that are looked at, the first so many. -/
def globH (gl : List (List Value)) : Heap := gl.map fun l => AObj.cells l 0 true
theorem law_callsV {b0 : Nat} {F : Funcs} (gl : List (List Value)) (hm : P.follows .mixedOrders = true) (hr : Reads P gl.length F) {f : FuncId} {ts : List TypeId} {args : List Value} {ds : List (DataW H)} {ps : List MemPlace} (d : Nat) {ss : List (Bool × List Sh)}
    (hg : ∀ (i : Nat) l, gl[i]? = some l → i < W.heap.size ∧ ∀ (j : Nat) v, l[j]? = some v → ∃ c, W.cell? ⟨i, j, none⟩ = some c ∧ (∀ σ g, VR σ g v c) ∧ single v = true)
    (hA : DataW.TrodAll enc P W 0 (fun _ => true) true ts args ds ps) (hv : ∀ (j : Nat) t v, ts[j]? = some t → args[j]? = some v → Value.okWide P W .any b0 t v) (hw : ∀ w ∈ DataW.weightsEach P ts ds, w ≤ reachBytes) (hs : ts.mapM (leafA P d) = some ss)
    (hd : ∀ (h : Heap) (us : List Value), (∀ (i : Nat) (l : List Value), gl[i]? = some l → h[i]? = some (AObj.cells l 0 true)) → TypedAs h ss us → ∃ h', DF F f us h = some (.bool true, h')) :
    Calls P f ⟨args⟩ W fun e W' => e = .returned (.bool true) ∧ Go.RowKit.Below W.heap.size W W' := by
  let σ0 : Emb := fun i => ⟨i, 0, 0⟩
  have hget : ∀ (i : Nat) o, (globH gl)[i]? = some o → ∃ l, gl[i]? = some l ∧ o = AObj.cells l 0 true := by
    intro i o hi
    unfold globH at hi
    rw [List.getElem?_map] at hi
    obtain ⟨l, hl, e⟩ := Option.map_eq_some_iff.1 hi
    exact ⟨l, hl, e.symm⟩
  have hL0 : Laid W (globH gl) σ0 := by
    intro i o hi
    obtain ⟨l, hl, rfl⟩ := hget i o hi
    obtain ⟨h1, h2⟩ := hg i l hl
    refine ⟨rfl, .ro l h1 (fun j u hu => ?_) fun u hu => ?_⟩
    · obtain ⟨c, h3, h4, _⟩ := h2 j u hu
      exact ⟨c, by simpa [σ0] using h3, h4 _ _⟩
    · obtain ⟨j, hj⟩ := List.getElem?_of_mem hu
      obtain ⟨c, _, _, h5⟩ := h2 j u hj
      exact h5
  obtain ⟨h, σ, us, g, hvr, hty⟩ := opened_args d ts args ds ps ss hA hv hw hs (globH gl) σ0 hL0
  have hold : ∀ (i : Nat) (l : List Value), gl[i]? = some l → h[i]? = some (AObj.cells l 0 true) := by
    intro i l hl
    obtain ⟨more, rfl⟩ := g.pre
    have : i < (globH gl).length := by unfold globH; rw [List.length_map]; exact (List.getElem?_eq_some_iff.1 hl).1
    rw [List.getElem?_append_left this]
    unfold globH
    rw [List.getElem?_map, hl]; rfl
  obtain ⟨h', hd⟩ := hd h us hold hty
  refine entry (G := gl.length) hm hr hd rfl σ W ⟨fun i o hi => (g.laid i o hi).2, fun i j o p hi hj ho => ?_, fun i hi => ?_, Nat.le_refl _⟩ hvr fun o ho => ?_
  · rw [(g.laid i o hi).1] at ho; cases ho
  · refine ⟨gl[i], hold i _ (List.getElem?_eq_getElem hi), ?_⟩
    have : σ i = σ0 i := g.same i (by unfold globH; rw [List.length_map]; exact hi)
    rw [this]; exact ⟨rfl, rfl⟩
  · obtain ⟨i, hi, he⟩ := List.getElem_of_mem ho
    exact (g.laid i o (by rw [List.getElem?_eq_getElem hi, he])).1
theorem law_callsG {b0 : Nat} {F : Funcs} (gl : List (List Value)) (hm : P.follows .mixedOrders = true) (hr : Reads P gl.length F) {f : FuncId} {ts : List TypeId} {args : List Value} {ds : List (DataW H)} {ps : List MemPlace} (d : Nat) {ss : List (Bool × List Sh)}
    (hg : ∀ (i : Nat) l, gl[i]? = some l → i < W.heap.size ∧ ∀ (j : Nat) v, l[j]? = some v → W.cell? ⟨i, j, none⟩ = some v ∧ plain1 v = true)
    (hA : DataW.TrodAll enc P W 0 (fun _ => true) true ts args ds ps) (hv : ∀ (j : Nat) t v, ts[j]? = some t → args[j]? = some v → Value.okWide P W .any b0 t v) (hw : ∀ w ∈ DataW.weightsEach P ts ds, w ≤ reachBytes) (hs : ts.mapM (leafA P d) = some ss)
    (hd : ∀ (h : Heap) (us : List Value), (∀ (i : Nat) (l : List Value), gl[i]? = some l → h[i]? = some (AObj.cells l 0 true)) → TypedAs h ss us → ∃ h', DF F f us h = some (.bool true, h')) :
    Calls P f ⟨args⟩ W fun e W' => e = .returned (.bool true) ∧ Go.RowKit.Below W.heap.size W W' :=
  law_callsV gl hm hr d (fun i l hi => ⟨(hg i l hi).1, fun j v hj => ⟨v, ((hg i l hi).2 j v hj).1, fun σ g => .plain1 ((hg i l hi).2 j v hj).2, single_of_plain1 ((hg i l hi).2 j v hj).2⟩⟩) hA hv hw hs hd
end
end Go.Proofs.YtfbldlgjlgcpoaaDoor.AM
