/-
  The flow along a path: what an address, a datum, a branch hangs from.
  Conditions: paths no longer than 8.
-/
import Derived.Test.YtjodnadlplicmaaFa2
namespace Go.Proofs.Ytjodnadlplicmaa.AM
open Go.RowKit
set_option linter.unusedSimpArgs false
set_option linter.unusedVariables false

theorem InsSl_row (H : Heap) (i : Ins) : InsSl (H ++ [.cells (insL i) 0 false]) (.slice (some ⟨H.length, 0, some 0⟩) 1 17) [i] := by
  refine ⟨.inr ⟨H.length, 0, 0, rfl, ?_⟩, by simp [insL_len]⟩
  unfold Heap.read
  simp [insL_len]
  exact List.take_of_length_le (by simp [insL_len])
theorem fill_ins (i : Ins) : fillRow [.int .i64 0, .int .i64 0, .int .i64 0, .int .i64 0, .int .i64 0, .int .i64 0, .int .i64 0, .int .i64 0, .int .i64 0, .int .i64 0, .bool false, .bool false, .bool false, .int .i64 0, .int .i64 0, .int .i64 0, .bool false] [(0, 17, agg (insL i))] = some (insL i) := by
  have := fill_whole1 (c := 17) (z := insL zeroI) (l := insL i) rfl rfl
  exact this
def atP (ps : List Ins) (k : Int) (f : Nat → Ins → Nat) : Nat := if k < 0 then 0 else match ps[k.toNat]? with | some i => f k.toNat i | none => 0
theorem atP_in {ps : List Ins} {k : Nat} (hk : k < ps.length) (f : Nat → Ins → Nat) : atP ps (k : Int) f = f k ps[k] := by
  unfold atP; rw [if_neg (by omega), Int.toNat_natCast, List.getElem?_eq_getElem hk]
theorem atP_out {ps : List Ins} {k : Int} (hk : k < 0 ∨ (ps.length : Int) ≤ k) (f : Nat → Ins → Nat) : atP ps k f = 0 := by
  unfold atP
  by_cases h0 : k < 0
  · rw [if_pos h0]
  · rw [if_neg h0, List.getElem?_eq_none (by omega)]
theorem at_cases (ps : List Ins) (k : Int) : (k < 0 ∨ (ps.length : Int) ≤ k) ∨ ∃ n : Nat, k = (n : Int) ∧ n < ps.length := by
  by_cases h0 : k < 0
  · exact .inl (.inl h0)
  · by_cases h1 : (ps.length : Int) ≤ k
    · exact .inl (.inr h1)
    · exact .inr ⟨k.toNat, by omega, by omega⟩
def hangP (ps : List Ins) (k : Nat) (r : Int) : Nat := hangF ps (ps.length + 1) k r
def addrV (ps : List Ins) (k : Int) : Nat := atP ps k fun n i => if memV i then hangP ps n i.index else 0
def dataV (ps : List Ins) (k : Int) : Nat := atP ps k fun n i => if writesV i then hangP ps n i.a else 0
def brAt (ps : List Ins) (k : Nat) : Nat := match ps[k]? with | some i => if i.op == 9 then hangP ps k i.a else 0 | none => 0
def ctrlN (ps : List Ins) : Nat → Nat
  | 0 => 0
  | k + 1 => ctrlN ps k ||| brAt ps k
def ctrlV (ps : List Ins) (k : Int) : Nat := ctrlN ps (cap ps k)
theorem cap_le (ps : List Ins) (k : Int) : cap ps k < ps.length + 1 := by unfold cap; omega
theorem orH_one (ps : List Ins) (f : Nat) (place r : Int) : orH ps f place [r] = hangF ps f place r := by simp [orH]
section
variable {h : Heap} {c p : Value} {code : List Ins} {path : List Int} {ps : List Ins}
theorem uir_Ops_one (i : Ins) (H : Heap) : DF FF n_uir_Ops [.slice (some ⟨H.length, 0, some 0⟩) 1 17] (H ++ [.cells (insL i) 0 false]) = some (.int .i64 (if memV i then 1 else 0), H ++ [.cells (insL i) 0 false]) := by
  have := uir_Ops_c [i] _ _ (InsSl_row H i) (by simp)
  rw [this]
  cases hm : memV i <;> simp [countP, hm]
theorem hangP_lt (h8 : ps.length ≤ 8) (k : Nat) (r : Int) : hangP ps k r < 256 := hangF_lt h8 _ _ _
theorem ctrlN_lt (h8 : ps.length ≤ 8) : ∀ k, ctrlN ps k < 256
  | 0 => by simp [ctrlN]
  | k + 1 => by
    refine Nat.or_lt_two_pow (n := 8) (ctrlN_lt h8 k) ?_
    unfold brAt
    cases ps[k]? with
    | none => simp
    | some i => simp only; split
                · exact hangP_lt h8 _ _
                · omega
theorem ctrl_yes {k : Nat} (hk : k < ps.length) (h9 : (ps[k].op == 9) = true) : ctrlN ps (k + 1) = ctrlN ps k ||| hangP ps k ps[k].a := by
  show ctrlN ps k ||| brAt ps k = _
  unfold brAt; rw [List.getElem?_eq_getElem hk]; simp only; rw [h9, if_pos rfl]
theorem ctrl_no {k : Nat} (hk : k < ps.length) (h9 : (ps[k].op == 9) = false) : ctrlN ps (k + 1) = ctrlN ps k := by
  show ctrlN ps k ||| brAt ps k = _
  unfold brAt; rw [List.getElem?_eq_getElem hk]; simp only; rw [h9, if_neg (by simp), Nat.or_zero]
end
end Go.Proofs.Ytjodnadlplicmaa.AM
