/-
  What Go's library comes to that reads a number of base 16: internal/strconv.ParseUint, of at most 16 digits.
  Conditions: no more than 16 bytes, at least one.
-/
import Derived.Test.YtfbldlgjlgcpoaaDoorShelf
import Derived.Lib.Strings
import Derived.Lib.Walk
import Derived.Lib.ConvBytes
import Derived.Lib.AtoiAllMem
import Derived.Lib.Hide
import Derived.Laws.Strings3
import Derived.Laws.Closers25
import Derived.Laws.Closers25b
import Derived.WalkKit
import Derived.BigCall
import Derived.BigGuard
namespace Go.Proofs.YtfbldlgjlgcpoaaDoor.AM
open Go.Proofs Go.Shelf Go.RowKit

/-- A byte with the bit of small letters. -/
def lowB (c : UInt8) : Int := Go.bits .or .u8 (c.toNat : Int) 32
/-- What a byte is as a digit of base 16. -/
def hexD (c : UInt8) : Option Nat := if 48 ≤ c.toNat ∧ c.toNat ≤ 57 then some (c.toNat - 48) else if 97 ≤ lowB c ∧ lowB c ≤ 102 then some (lowB c - 87).toNat else none
/-- What a row of digits comes to behind others. -/
def hexN (acc : Nat) : List UInt8 → Lib.NumEnd Nat
  | [] => .ok acc
  | c :: r => match hexD c with
    | some d => hexN (acc * 16 + d) r
    | none => .syntax
theorem hexD_lt {c : UInt8} {d : Nat} (h : hexD c = some d) : d < 16 := by
  unfold hexD at h
  split at h
  · cases h; omega
  · split at h
    · cases h; omega
    · cases h
set_option maxHeartbeats 32000000 in
set_option maxRecDepth 100000 in
theorem parse16 {P : Program} {ρ : Ren} (L : Lays.n287 P ρ) (t : ByteArray) (hne : t.size ≠ 0) (hmax : t.size ≤ 16) (w : World) :
    Calls P (ρ.f 287) #[.string t, .int .i64 16, .int .i64 64] w fun e w' => e = .returned (Lib.uintTuple (ρ.t 167) (hexN 0 t.data.toList)) ∧ w' = Lib.bytesWorld w (ρ.t 5) t := by
  have mixed := L.mixed
  have t9 := L.t9; have a9 := L.a9; have z9 := L.z9; have v9 := L.v9
  have t3 := L.t3; have a3 := L.a3; have z3 := L.z3; have v3 := L.v3
  have t53 := L.t53; have a53 := L.a53; have z53 := L.z53; have v53 := L.v53
  have t75 := L.t75; have a75 := L.a75; have z75 := L.z75; have v75 := L.v75
  have t4 := L.t4; have a4 := L.a4; have z4 := L.z4; have v4 := L.v4
  have t167 := L.t167; have a167 := L.a167; have z167 := L.z167; have v167 := L.v167
  have t5 := L.t5; have a5 := L.a5; have z5 := L.z5; have v5 := L.v5
  have t46 := L.t46; have a46 := L.a46; have z46 := L.z46; have v46 := L.v46
  have t37 := L.t37; have a37 := L.a37; have z37 := L.z37; have v37 := L.v37
  have t0 := L.t0; have a0 := L.a0; have z0 := L.z0; have v0 := L.v0
  have e321 : ∀ args w, (callFunc (ρ.f 321) args).run P w = .ok (.enter (ρ.f 321) args) w := enters_of L.f321 (by kernel_rfl) rfl
  have hemp : t.toList.isEmpty = false := by
    rw [← decide_eq_emptyBytes]
    exact decide_eq_false (fun h => hne (by rw [h]; rfl))
  have hcv := Lib.run_convert_string_bytes (P := P) w (ρ.t 9) (ρ.t 37) (ρ.t 5) t (u := .string) L.t9 L.t37 L.t5
  have hB : ∀ j, j < t.size → (Lib.bytesWorld w (ρ.t 5) t).cell? ⟨w.heap.size, j, none⟩ = some (.int .u8 (t.data.toList.getD j 0).toNat) := fun j hj => Lib.bytesWorld_cell w (ρ.t 5) t j hj
  obtain ⟨W1, hW1⟩ : ∃ W1, W1 = Lib.bytesWorld w (ρ.t 5) t := ⟨_, rfl⟩
  rw [← hW1] at hcv hB ⊢
  clear hW1
  obtain ⟨bs, hL⟩ : ∃ bs, bs = t.data.toList := ⟨_, rfl⟩
  have hLn : bs.length = t.size := by rw [hL, Lib.size_eq]
  rw [← hL] at hB ⊢
  clear hL
  have hmv : IntKind.u64.wrap (IntKind.u64.wrap 18446744073709551616 - 1) = 18446744073709551615 := by
    rw [IntKind.wrap_u64, IntKind.wrap_u64]
    decide
  have pw : ∀ k, k ≤ 16 → (16 : Nat) ^ k ≤ 18446744073709551616 := fun k hk => Nat.le_trans (Nat.pow_le_pow_right (by omega) hk) (by decide)
  have pw1 : ∀ k, k < 16 → (16 : Nat) ^ k ≤ 1152921504606846976 := fun k hk => Nat.le_trans (Nat.pow_le_pow_right (by omega) (show k ≤ 15 by omega)) (by decide)
  go_enter L.f287, Body.n287_ntmps ρ
  go_wp2
  go_loop [12, 13, 101] (fun vu vn vi => ∃ (k acc : Nat) (a : Int), vu = .bool false ∧ vn = .int .u64 a ∧ vi = .int .i64 k ∧ k ≤ t.size ∧ Hid (a = (acc : Int) ∧ acc < 16 ^ k ∧ hexN 0 bs = hexN acc (bs.drop k)))
    (fun _ _ vi => t.size - (intOf vi).toNat)
  case atStart => exact ⟨0, 0, 0, rfl, rfl, rfl, by omega, rfl, by decide, rfl⟩
  case round =>
    obtain ⟨k, acc, a, rfl, rfl, rfl, hk, hh⟩ := hrel
    obtain ⟨ha, hacc, hdec⟩ := hh.out
    clear hh
    by_cases hkn : k < t.size
    · have hc := hB k hkn
      have hdrop : bs.drop k = bs[k]'(by omega) :: bs.drop (k + 1) := List.drop_eq_getElem_cons (by omega)
      have hget : bs.getD k 0 = bs[k]'(by omega) := by simp [List.getD, List.getElem?_eq_getElem (show k < bs.length by omega)]
      rw [hdrop] at hdec
      rw [hget] at hc
      generalize bs[k]'(by omega) = c at hc hdec
      have hc256 : c.toNat < 256 := c.toNat_lt
      have hcut := pw1 k (by omega)
      have hps : (16 : Nat) ^ (k + 1) = 16 ^ k * 16 := Nat.pow_succ ..
      have hp1 := pw (k + 1) (by omega)
      have a0 : 0 ≤ a := by omega
      have a1 : a < 1152921504606846976 := by omega
      clear hB hdrop hget pw pw1
      by_cases hdig : 48 ≤ c.toNat ∧ c.toNat ≤ 57
      · obtain ⟨hd0, hd1⟩ := hdig
        have hF : hexN acc (c :: bs.drop (k + 1)) = hexN (acc * 16 + (c.toNat - 48)) (bs.drop (k + 1)) := by simp [hexN, hexD, hd0, hd1]
        have HN : Hid (a * 16 + ((c.toNat : Int) - 48) = ((acc * 16 + (c.toNat - 48) : Nat) : Int) ∧ acc * 16 + (c.toNat - 48) < 16 ^ (k + 1) ∧ hexN 0 bs = hexN (acc * 16 + (c.toNat - 48)) (bs.drop (k + 1))) := Lib.hid ⟨by omega, by omega, hdec.trans hF⟩
        have iov : a * 16 + ((c.toNat : Int) - 48) < 18446744073709551616 := by omega
        clear hacc hF hdec ha hps hcut hp1
        go_wp2
        refine ⟨⟨k + 1, acc * 16 + (c.toNat - 48), a * 16 + ((c.toNat : Int) - 48), rfl, (by first | rfl | (congr 1; omega)), (by first | rfl | (congr 1; omega)), by omega, HN⟩, by simp [intOf]; omega⟩
      · obtain ⟨l, hl⟩ : ∃ l, l = lowB c := ⟨_, rfl⟩
        have hl' : Go.bits .or .u8 (c.toNat : Int) 32 = l := by rw [hl]; rfl
        have l0 : 0 ≤ l := by rw [← hl']; exact bits_lo_u8 .or (c.toNat : Int) 32
        have l1 : l ≤ 255 := by rw [← hl']; exact bits_hi_u8 .or (c.toNat : Int) 32
        by_cases hx : 97 ≤ l ∧ l ≤ 102
        · obtain ⟨hx0, hx1⟩ := hx
          have hF : hexN acc (c :: bs.drop (k + 1)) = hexN (acc * 16 + (l - 87).toNat) (bs.drop (k + 1)) := by simp [hexN, hexD, hdig, ← hl, hx0, hx1]
          have HN : Hid (a * 16 + (l - 87) = ((acc * 16 + (l - 87).toNat : Nat) : Int) ∧ acc * 16 + (l - 87).toNat < 16 ^ (k + 1) ∧ hexN 0 bs = hexN (acc * 16 + (l - 87).toNat) (bs.drop (k + 1))) := Lib.hid ⟨by omega, by omega, hdec.trans hF⟩
          have iov : a * 16 + (l - 87) < 18446744073709551616 := by omega
          have HX : Hid (97 ≤ l ∧ l ≤ 102 ∧ Go.bits .or .u8 (c.toNat : Int) 32 = l) := Lib.hid ⟨hx0, hx1, hl'⟩
          clear hacc hF hdec ha hps hcut hp1 hl
          go_wp2_with (go_at_fn (ρ.f 321); refine (Any.internal_strconv_lower { L with } _ _).mono ?_; rintro e w' ⟨rfl, rfl⟩; try rw [hl'])
          all_goals first
            | exact ⟨⟨k + 1, acc * 16 + (l - 87).toNat, a * 16 + (l - 87), rfl, (by first | rfl | (congr 1; omega)), (by first | rfl | (congr 1; omega)), by omega, HN⟩, by simp [intOf]; omega⟩
            | (exfalso; obtain ⟨p1, p2, p3⟩ := HX.out; omega)
            | (exfalso; obtain ⟨p1, p2, p3⟩ := HX.out; have h127 : Go.bits .or .u8 95 32 = 127 := by decide
               first | (rw [h127] at p3; omega) | (simp_all; omega))
        · have hF : hexN acc (c :: bs.drop (k + 1)) = .syntax := by simp [hexN, hexD, hdig, ← hl, hx]
          rw [hF] at hdec
          clear hacc hF ha hps hcut hp1 hl
          go_wp2_with (go_at_fn (ρ.f 321); refine (Any.internal_strconv_lower { L with } _ _).mono ?_; rintro e w' ⟨rfl, rfl⟩; try rw [hl'])
          all_goals go_ret2
          all_goals first | exact ⟨rfl, rfl⟩ | exact ⟨by rw [hdec]; rfl, rfl⟩
    · have hkk : k = t.size := by omega
      subst hkk
      have hF : hexN acc (bs.drop t.size) = .ok acc := by rw [List.drop_eq_nil_of_le (by omega)]; rfl
      rw [hF] at hdec
      subst ha
      have h1 := pw t.size hmax
      clear pw pw1 hB
      go_wp2
      go_ret2
      exact ⟨rfl, rfl⟩
end Go.Proofs.YtfbldlgjlgcpoaaDoor.AM
