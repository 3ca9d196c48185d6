/-
  What is known of functions of Go's library that the abstract machine does not read: strings.Index's and strings.IndexByte's cores.
  Conditions: strings below 2^32.
-/
import Derived.Test.YtfbldlgjlgcpoaaDoorAd
import Derived.Test.YtfbldlgjlgcpoaaDoorShelf
import Derived.KernelRfl
namespace Go.Proofs.YtfbldlgjlgcpoaaDoor.AM
open Go.RowKit
set_option linter.unusedSimpArgs false
set_option linter.unusedVariables false

def extIndex (args : List Value) (h : Heap) : Option (Value × Heap) :=
  match args, h[0]? with
  | [.string s, .string t], some (AObj.cells [.int .i64 _] 0 true) => if s.size < 4294967281 then some (.int .i64 (Lib.index s.data.toList t.data.toList), h) else none
  | _, _ => none
def extByte (args : List Value) (h : Heap) : Option (Value × Heap) :=
  match args with
  | [.string s, .int .u8 c] => some (.int .i64 (Lib.indexByte s.data.toList c.toNat.toUInt8), h)
  | _ => none
/-- What is known of other functions. -/
def knownS : Caller := fun f args h => if f = 29 then extIndex args h else if f = 33 then extByte args h else none
theorem VRs.two {σ : Emb} {g : Mem} {a b : Value} {cs : List Value} (h : VRs σ g [a, b] cs) : ∃ x y, cs = [x, y] ∧ VR σ g a x ∧ VR σ g b y := by
  cases h with
  | cons _ x _ cs ha hs =>
    cases hs with
    | cons _ y _ cs hb hs => cases hs; exact ⟨x, y, rfl, ha, hb⟩
theorem knownS_ok {G : Nat} (hG : 0 < G) (N : Nat) : CallsOk Tryd.prog G N knownS := by
  intro f args h v h' he σ g w cargs hs hm hv
  unfold knownS at he
  by_cases h1 : f = 29
  · subst h1
    rw [if_pos rfl] at he
    unfold extIndex at he
    split at he
    · rename_i s t m hg
      split at he
      · rename_i hlen
        obtain ⟨rfl, rfl⟩ := Prod.mk.inj (Option.some.inj he)
        obtain ⟨x, y, rfl, hx, hy⟩ := hv.two
        obtain rfl := hx.string_inv
        obtain rfl := hy.string_inv
        obtain ⟨vals, g0, gb, ga⟩ := hm.glob 0 hG
        have hg0 := hs _ _ g0
        rw [hg] at hg0
        cases hg0
        have ho := hm.obj _ _ g0
        have hcell : w.cell? ⟨0, 0, none⟩ = some (.int .i64 m) := by
          cases ho with
          | ro _ hb hv h1 =>
            obtain ⟨c, hc, hr⟩ := hv 0 _ rfl
            rw [gb, ga] at hc
            obtain rfl := hr.int_inv
            exact hc
        refine ⟨by kernel_rfl, (Tryd.stringslite_Index s t m w hlen hcell).mono ?_⟩
        rintro e w' ⟨rfl, rfl⟩
        exact ⟨_, rfl, Done.same hm hs (.int _ _)⟩
      · cases he
    · cases he
  · rw [if_neg h1] at he
    by_cases h2 : f = 33
    · subst h2
      rw [if_pos rfl] at he
      unfold extByte at he
      split at he
      · rename_i s c
        obtain ⟨rfl, rfl⟩ := Prod.mk.inj (Option.some.inj he)
        obtain ⟨x, y, rfl, hx, hy⟩ := hv.two
        obtain rfl := hx.string_inv
        obtain rfl := hy.int_inv
        refine ⟨by kernel_rfl, (Tryd.stringslite_IndexByte s c w).mono ?_⟩
        rintro e w' ⟨rfl, rfl⟩
        exact ⟨_, rfl, Done.same hm hs (.int _ _)⟩
      · cases he
    · rw [if_neg h2] at he; cases he
end Go.Proofs.YtfbldlgjlgcpoaaDoor.AM
