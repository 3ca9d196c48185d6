/-
  AM, part 5: what the model does at each operation that only reckons or reads, where the abstract machine does it too.
  Conditions: none.
-/
import Derived.Test.YtjjlbfamfioofaaDoorAm4
namespace Go.Proofs.YtjjlbfamfioofaaDoor.AM
open Go.RowKit

variable {P : Program} {G N : Nat} {σ : Emb} {g : Mem} {w : World}

/-- What is there is there as in h. -/
def Sub (g : Mem) (h : Heap) : Prop := ∀ i o, g i = some o → h[i]? = some o

theorem addr_add (b o n : Nat) : Addr.add ⟨b, o, none⟩ n = ⟨b, o + n, none⟩ := by
  unfold Addr.add; split
  · subst_vars; rfl
  · rfl

theorem MR.cell (hm : MR G N σ g w) {b : Nat} {vals : List Value} {ver : Nat} {ro : Bool} (hg : g b = some (.cells vals ver ro)) {i : Nat} {u : Value} (hi : vals[i]? = some u) :
    ∃ c, w.cell? ⟨(σ b).blk, (σ b).base + i, none⟩ = some c ∧ VR σ g u c := by
  have ho := hm.obj _ _ hg
  cases ho with
  | own _ cs _ el hb h0 hw hs hv hl h1 =>
    obtain ⟨c, hc, hvr⟩ := hv.get hi
    rw [List.getElem?_take] at hc
    split at hc
    · refine ⟨c, ?_, hvr⟩
      simp only [World.cell?, hw, h0, Nat.zero_add]
      simpa using hc
    · cases hc
  | ro _ hb hv h1 => exact hv i u hi
theorem MR.singles (hm : MR G N σ g w) {b : Nat} {vals : List Value} {ver : Nat} {ro : Bool} (hg : g b = some (.cells vals ver ro)) : ∀ x ∈ vals, single x = true := by
  have ho := hm.obj _ _ hg
  cases ho <;> assumption

theorem loadCellsFrom_run (b o : Nat) (n : Nat) : ∀ (i : Nat) (acc : Array Value) (cs : List Value), cs.length = n →
    (∀ j c, cs[j]? = some c → w.cell? ⟨b, o + (i + j), none⟩ = some c) → (loadCellsFrom ⟨b, o, none⟩ i n acc).run P w = .ok (acc ++ ⟨cs⟩) w := by
  induction n with
  | zero =>
    intro i acc cs hl _
    obtain rfl : cs = [] := List.length_eq_zero_iff.1 hl
    simp [loadCellsFrom]
  | succ n ih =>
    intro i acc cs hl hc
    obtain ⟨c, cs, rfl⟩ : ∃ c r, cs = c :: r := by cases cs with | nil => simp at hl | cons c r => exact ⟨c, r, rfl⟩
    have h0 := hc 0 c (by simp)
    simp only [loadCellsFrom, Sem.run_bind, run_load, addr_add]
    rw [show o + i = o + (i + 0) from rfl, h0]
    simp only [Result.andThen_ok]
    rw [ih (i + 1) (acc.push c) cs (by simpa using hl) (fun j x hx => by
      have := hc (j + 1) x (by simpa using hx)
      rw [show i + 1 + j = i + (j + 1) from by omega]; exact this)]
    congr 1
    apply Array.ext'
    simp
theorem loadCells_run {b o n : Nat} {cs : List Value} (hl : cs.length = n) (hc : ∀ (j : Nat) c, cs[j]? = some c → w.cell? ⟨b, o + j, none⟩ = some c) :
    (loadCells ⟨b, o, none⟩ n).run P w = .ok ⟨cs⟩ w := by
  unfold loadCells
  rw [loadCellsFrom_run b o n 0 #[] cs hl (fun j c h => by rw [Nat.zero_add]; exact hc j c h)]
  simp

/-- A run of cells that may be read. -/
theorem MR.read (hm : MR G N σ g w) {h : Heap} (hs : Sub g h) {p q : Addr} {n : Nat} {l : List Value} (hp : VR σ g (.pointer (some p)) (.pointer (some q))) (hr : h.read p n = some l) :
    ∃ cs, q.spot = none ∧ (loadCells q n).run P w = .ok ⟨cs⟩ w ∧ VRs σ g l cs ∧ l.length = n ∧ ∀ x ∈ l, single x = true := by
  cases hp with
  | ptr _ _ v vals ver ro hv hg hle hq =>
    unfold Heap.read at hr
    rw [hs _ _ hg] at hr
    simp only at hr
    split at hr
    · rename_i hc
      obtain ⟨hsp, hlen⟩ := hc
      rw [hv] at hsp
      cases hsp
      have hq := hq rfl
      subst hq
      cases hr
      have hex : ∀ i, i < n → ∃ c, w.cell? ⟨(σ p.block).blk, (σ p.block).base + p.off + i, none⟩ = some c ∧ ∃ u, vals[p.off + i]? = some u ∧ VR σ g u c := by
        intro i hi
        have hlt : p.off + i < vals.length := by omega
        obtain ⟨c, hc, hvr⟩ := hm.cell hg (List.getElem?_eq_getElem hlt)
        exact ⟨c, by rw [Nat.add_assoc]; exact hc, _, List.getElem?_eq_getElem hlt, hvr⟩
      let cs : List Value := (List.range n).map fun i => (w.cell? ⟨(σ p.block).blk, (σ p.block).base + p.off + i, none⟩).getD undef
      have hcl : cs.length = n := by simp [cs]
      refine ⟨cs, rfl, loadCells_run hcl fun j c hj => ?_, VRs.of_get ?_ fun i u c hu hc => ?_, ?_, fun x hx => ?_⟩
      · have hjn : j < n := by
          have := (List.getElem?_eq_some_iff.1 hj).1; omega
        obtain ⟨c', hc', _⟩ := hex j hjn
        simp only [cs, List.getElem?_map, List.getElem?_range hjn, Option.map_some, hc', Option.getD_some, Option.some.injEq] at hj
        rw [hc', hj]
      · rw [hcl, List.length_take, List.length_drop]; omega
      · have hin : i < n := by
          have := (List.getElem?_eq_some_iff.1 hc).1; omega
        obtain ⟨c', hc', u', hu', hvr⟩ := hex i hin
        simp only [cs, List.getElem?_map, List.getElem?_range hin, Option.map_some, hc', Option.getD_some, Option.some.injEq] at hc
        rw [List.getElem?_take, if_pos hin, List.getElem?_drop, hu'] at hu
        cases hu; rw [← hc]; exact hvr
      · rw [List.length_take, List.length_drop]; omega
      · exact hm.singles hg x (List.mem_of_mem_drop (List.mem_of_mem_take hx))
    · cases hr
theorem MR.read1 (hm : MR G N σ g w) {h : Heap} (hs : Sub g h) {p q : Addr} {u : Value} (hp : VR σ g (.pointer (some p)) (.pointer (some q))) (hr : h.read1 p = some u) :
    ∃ c, q.spot = none ∧ w.cell? q = some c ∧ VR σ g u c ∧ single u = true := by
  cases hp with
  | ptr _ _ v vals ver ro hv hg hle hq =>
    unfold Heap.read1 at hr
    rw [hs _ _ hg] at hr
    simp only at hr
    split at hr
    · rename_i hsp
      rw [hv] at hsp
      cases hsp
      have hq := hq rfl
      subst hq
      obtain ⟨c, hc, hvr⟩ := hm.cell hg hr
      exact ⟨c, rfl, hc, hvr, hm.singles hg _ (List.mem_of_getElem? hr)⟩
    · cases hr

theorem run_und {t : TypeId} {d : TypeDesc} (h : P.underlying t = some d) (w : World) : (underlying t).run P w = .ok d w := by simp [underlying, h]
theorem run_sizeOf {t : TypeId} {n : Nat} (h : sizeT P t = some n) (w : World) : (sizeOf t).run P w = .ok n w := by
  unfold sizeT at h
  cases hi : P.info? t with
  | none => rw [hi] at h; cases h
  | some i => rw [hi] at h; cases h; simp [sizeOf, typeInfo, hi]
theorem run_isAgg {t : TypeId} {b : Bool} (h : aggT P t = some b) (w : World) : (isAgg t).run P w = .ok b w := by
  unfold aggT at h
  cases hu : P.underlying t with
  | none => rw [hu] at h; cases h
  | some d =>
    rw [hu] at h
    simp only [isAgg, Sem.run_bind, run_und hu, Result.andThen_ok]
    cases d <;> simp_all
theorem run_zero {t : TypeId} {v : Value} (h : zeroVal P t = some v) (w : World) : (zeroValue t).run P w = .ok v w ∧ plain v = true := by
  unfold zeroVal at h
  cases hi : P.info? t with
  | none => rw [hi] at h; cases h
  | some i =>
    rw [hi] at h
    simp only [Option.bind_some] at h
    cases hz : i.zero with
    | none => rw [hz] at h; cases h
    | some z =>
      rw [hz] at h
      simp only [Option.bind_some] at h
      split at h
      · cases h; rename_i hp; exact ⟨by simp [zeroValue, typeInfo, hi, hz], hp⟩
      · cases h

theorem load_sound (hm : MR G N σ g w) {h : Heap} (hs : Sub g h) {t : TypeId} {n : Nat} (ht : aggT P t = some true) (hz : sizeT P t = some n) {p : Addr} {c : Value} {l : List Value}
    (hp : VR σ g (.pointer (some p)) c) (hr : h.read p n = some l) : ∃ cv, (Instr.loadAt t c).run P w = .ok cv w ∧ VR σ g (agg l) cv := by
  obtain ⟨q, rfl⟩ : ∃ q, c = .pointer (some q) := by cases hp; exact ⟨_, rfl⟩
  obtain ⟨cs, _, hrun, hv, _, h1⟩ := hm.read (P := P) hs hp hr
  refine ⟨.agg ⟨cs⟩, ?_, .agg _ _ hv h1⟩
  simp [Instr.loadAt, Instr.sureAddr, loadVar, run_isAgg ht, run_sizeOf hz, hrun]
theorem load1_sound (hm : MR G N σ g w) {h : Heap} (hs : Sub g h) {t : TypeId} (ht : aggT P t = some false) {p : Addr} {c : Value} {u : Value}
    (hp : VR σ g (.pointer (some p)) c) (hr : h.read1 p = some u) : ∃ cv, (Instr.loadAt t c).run P w = .ok cv w ∧ VR σ g u cv := by
  obtain ⟨q, rfl⟩ : ∃ q, c = .pointer (some q) := by cases hp; exact ⟨_, rfl⟩
  obtain ⟨c, _, hc, hv, _⟩ := hm.read1 hs hp hr
  exact ⟨c, by simp [Instr.loadAt, Instr.sureAddr, loadVar, run_isAgg ht, hc], hv⟩

theorem VR.int_inv {k : IntKind} {n : Int} {c : Value} (h : VR σ g (.int k n) c) : c = .int k n := by cases h; rfl
theorem VR.bool_inv {b : Bool} {c : Value} (h : VR σ g (.bool b) c) : c = .bool b := by cases h; rfl
theorem VR.string_inv {s : ByteArray} {c : Value} (h : VR σ g (.string s) c) : c = .string s := by cases h; rfl
theorem VR.ptr_inv {p : Addr} {c : Value} (h : VR σ g (.pointer (some p)) c) : ∃ q, c = .pointer (some q) := by cases h; exact ⟨_, rfl⟩
theorem VR.agg_inv {xs : Array Value} {c : Value} (h : VR σ g (.agg xs) c) : ∃ ys, c = .agg ⟨ys⟩ ∧ VRs σ g xs.toList ys ∧ ∀ x ∈ xs.toList, AM.single x = true := by
  cases h with | agg xs ys h h1 => exact ⟨ys, rfl, h, h1⟩
theorem VR.tuple_inv {xs : Array Value} {c : Value} (h : VR σ g (.tuple xs) c) : ∃ ys, c = .tuple ⟨ys⟩ ∧ VRs σ g xs.toList ys := by
  cases h with | tuple xs ys h => exact ⟨ys, rfl, h⟩

/-- An address within an object. -/
theorem VR.off {p : Addr} {c : Value} (h : VR σ g (.pointer (some p)) c) (n : Nat) : ∃ q, c = .pointer (some q) ∧ VR σ g (.pointer (some { p with off := p.off + n })) (.pointer (some (q.add n))) := by
  cases h with
  | ptr _ q v vals ver ro hv hg hle hq =>
    refine ⟨q, rfl, .ptr _ _ v vals ver ro hv hg hle fun e => ?_⟩
    rw [hq e, addr_add, Nat.add_assoc]
theorem off_sound {t : TypeId} {fs : Array Field} {f : Field} {i n : Nat} (ht : P.underlying t = some (.struct fs)) (hf : fs[i]? = some f) (hz : sizeT P f.type = some n) (hn : 0 < n) {p : Addr} {c : Value}
    (h : VR σ g (.pointer (some p)) c) : ∃ cv, (Instr.fieldAt t c i).run P w = .ok cv w ∧ VR σ g (.pointer (some { p with off := p.off + f.offset })) cv := by
  obtain ⟨q, rfl, hv⟩ := h.off f.offset
  refine ⟨_, ?_, hv⟩
  simp [Instr.fieldAt, run_und ht, hf, Instr.sureAddr, fieldPlace, run_sizeOf hz, Nat.ne_of_gt hn]
theorem atArr_sound {t e : TypeId} {len m : Nat} (ht : P.underlying t = some (.array len e)) (hz : sizeT P e = some m) {p : Addr} {c : Value} {k : IntKind} {i : Int}
    (h : VR σ g (.pointer (some p)) c) (h0 : 0 ≤ i) (h1 : i < len) : ∃ cv, (Instr.indexAt t c (.int k i)).run P w = .ok cv w ∧ VR σ g (.pointer (some { p with off := p.off + i.toNat * m })) cv := by
  obtain ⟨q, rfl, hv⟩ := h.off (i.toNat * m)
  refine ⟨_, ?_, hv⟩
  simp [Instr.indexAt, asIntOf, run_und ht, Instr.sureAddr, run_sizeOf hz, h0, h1]
theorem atRow_sound {t e : TypeId} {m n : Nat} (ht : P.underlying t = some (.slice e)) (hz : sizeT P e = some m) {p : Addr} {c : Value} {k : IntKind} {i : Int}
    (h : VR σ g (.slice (some p) n m) c) (h0 : 0 ≤ i) (h1 : i < n) : ∃ cv, (Instr.indexAt t c (.int k i)).run P w = .ok cv w ∧ VR σ g (.pointer (some { p with off := p.off + i.toNat * m })) cv := by
  cases h with
  | slice _ q _ _ cap v vals ver ro hv hg hle hn hq =>
    refine ⟨.pointer (some (q.add (i.toNat * m))), ?_, .ptr _ _ v vals ver ro hv hg hle fun e => ?_⟩
    · simp [Instr.indexAt, asIntOf, run_und ht, run_sizeOf hz, h0, h1]
    · rcases hq e with ⟨hq, _⟩ | ⟨hz, _⟩
      · rw [hq, addr_add, Nat.add_assoc]
      · omega
theorem idxStr_sound {t : TypeId} (ht : P.underlying t = some .string) {s : ByteArray} {k : IntKind} {i : Int} {b : UInt8} (h0 : 0 ≤ i) (hb : s.data.toList[i.toNat]? = some b) :
    (Instr.index t (.string s) (.int k i)).run P w = .ok (.int .u8 b.toNat) w := by
  have : s[i.toNat]? = some b := by
    have hlt : i.toNat < s.size := by
      have := (List.getElem?_eq_some_iff.1 hb).1; simpa using this
    rw [getElem?_pos s i.toNat hlt]
    have h2 := (List.getElem?_eq_some_iff.1 hb).2
    rw [← h2]; rfl
  simp [Instr.index, asIntOf, run_und ht, h0, this]
theorem part_sound {e : TypeId} {l cs : List Value} (hv : VRs σ g l cs) (h1 : ∀ x ∈ l, single x = true) {o : Nat} :
    (∀ n, aggT P e = some true → sizeT P e = some n → ∃ cv, (part e ⟨cs⟩ o).run P w = .ok cv w ∧ VR σ g (agg ((l.drop o).take n)) cv) ∧
    (∀ u, aggT P e = some false → l[o]? = some u → ∃ cv, (part e ⟨cs⟩ o).run P w = .ok cv w ∧ VR σ g u cv) := by
  constructor
  · intro n ha hz
    refine ⟨.agg ⟨(cs.drop o).take n⟩, ?_, .agg _ _ ((hv.drop o).take n) fun x hx => h1 x (List.mem_of_mem_drop (List.mem_of_mem_take hx))⟩
    simp [part, run_isAgg ha, run_sizeOf hz, List.extract_toArray, List.extract_eq_take_drop]
  · intro u ha hu
    obtain ⟨c, hc, hvr⟩ := hv.get hu
    refine ⟨c, ?_, hvr⟩
    simp [part, run_isAgg ha, hc]
end Go.Proofs.YtjjlbfamfioofaaDoor.AM
