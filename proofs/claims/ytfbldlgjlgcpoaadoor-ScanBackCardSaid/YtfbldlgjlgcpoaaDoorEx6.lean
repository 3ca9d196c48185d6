/-
  What strconv.ParseUint comes to, of base 10 and 16; as functions known to the abstract machine.
  Conditions: strings below 2^32.
-/
import Derived.Test.YtfbldlgjlgcpoaaDoorEx4
import Derived.Test.YtfbldlgjlgcpoaaDoorEx5
import Derived.Shelf.Pu.ParseUintPublic10
namespace Go.Proofs.YtfbldlgjlgcpoaaDoor.AM
open Go.Proofs Go.Shelf Go.RowKit
set_option linter.unusedVariables false
set_option linter.unusedSimpArgs false

section
variable {P : Program} {ρ : Ren}
set_option maxHeartbeats 4000000 in
set_option maxRecDepth 100000 in
theorem pub_ok (L : LaysPu.n14 P ρ) (s : ByteArray) (base : Int) (u : Nat) (w : World)
    (hI : Calls P (ρ.f 16) #[.string s, .int .i64 base, .int .i64 64] w fun e w' => e = .returned (.tuple #[.int .u64 u, .nilIface]) ∧ Go.RowKit.Below w.heap.size w w') :
    Calls P (ρ.f 14) #[.string s, .int .i64 base, .int .i64 64] w fun e w' => e = .returned (.tuple #[.int .u64 u, .nilIface]) ∧ Go.RowKit.Below w.heap.size w w' := by
  have mixed := L.mixed
  have t9 := L.t9; have a9 := L.a9; have z9 := L.z9; have v9 := L.v9
  have t3 := L.t3; have a3 := L.a3; have z3 := L.z3; have v3 := L.v3
  have t22 := L.t22; have a22 := L.a22; have z22 := L.z22; have v22 := L.v22
  have t24 := L.t24; have a24 := L.a24; have z24 := L.z24; have v24 := L.v24
  have t25 := L.t25; have a25 := L.a25; have z25 := L.z25; have v25 := L.v25
  have t4 := L.t4; have a4 := L.a4; have z4 := L.z4; have v4 := L.v4
  have e16 : ∀ args w, (callFunc (ρ.f 16) args).run P w = .ok (.enter (ρ.f 16) args) w := enters_of L.f16 (by kernel_rfl) rfl
  go_enter L.f14, BodyPu.n14_ntmps ρ
  go_wp2_with (go_at_fn (ρ.f 16); refine hI.mono ?_; rintro e W1 ⟨rfl, hW⟩)
  go_wp2
  go_ret2
  exact ⟨rfl, hW⟩
set_option maxHeartbeats 4000000 in
set_option maxRecDepth 100000 in
theorem pub_syntax (L : LaysPu.n14 P ρ) (s : ByteArray) (base : Int) (hlim : s.size ≤ 281474976710656) (ev : Value) (w : World) (hv : w.cell? ⟨(ρ.g 0), 0, none⟩ = some ev) (hev : ev = .nilIface ∨ ∃ te pe, ev = .iface te pe)
    (hI : Calls P (ρ.f 16) #[.string s, .int .i64 base, .int .i64 64] w fun e w' => e = .returned (.tuple #[.int .u64 0, .iface (ρ.t 34) (.int .i64 2)]) ∧ Go.RowKit.Below w.heap.size w w') :
    Calls P (ρ.f 14) #[.string s, .int .i64 base, .int .i64 64] w fun e w' => ∃ N, e = .returned (.tuple #[.int .u64 0, .iface (ρ.t 39) (.pointer (some ⟨N, 0, none⟩))]) ∧ Go.RowKit.Below w.heap.size w w' := by
  have mixed := L.mixed
  have t9 := L.t9; have a9 := L.a9; have z9 := L.z9; have v9 := L.v9
  have t3 := L.t3; have a3 := L.a3; have z3 := L.z3; have v3 := L.v3
  have t22 := L.t22; have a22 := L.a22; have z22 := L.z22; have v22 := L.v22
  have t24 := L.t24; have a24 := L.a24; have z24 := L.z24; have v24 := L.v24
  have t25 := L.t25; have a25 := L.a25; have z25 := L.z25; have v25 := L.v25
  have t4 := L.t4; have a4 := L.a4; have z4 := L.z4; have v4 := L.v4
  have e16 : ∀ args w, (callFunc (ρ.f 16) args).run P w = .ok (.enter (ρ.f 16) args) w := enters_of L.f16 (by kernel_rfl) rfl
  have e17 : ∀ args w, (callFunc (ρ.f 17) args).run P w = .ok (.enter (ρ.f 17) args) w := enters_of L.f17 (by kernel_rfl) rfl
  have hG : (ρ.g 0) < w.heap.size := Lib.lt_of_cell hv
  go_enter L.f14, BodyPu.n14_ntmps ρ
  go_wp2_with (go_at_fn (ρ.f 16); refine hI.mono ?_)
  rintro e W1 ⟨rfl, hb1⟩
  have hv1 : W1.cell? ⟨(ρ.g 0), 0, none⟩ = some ev := (hb1.cell (show (⟨(ρ.g 0), 0, none⟩ : Addr).block < w.heap.size from hG)).trans hv
  go_wp2_with (go_at_fn (ρ.f 17); refine (AnyPu.strconv_toError_syntax { L with } ⟨#[80, 97, 114, 115, 101, 85, 105, 110, 116]⟩ s base 64 ev _ hlim ?_ hev).mono ?_)
  · exact hv1
  rintro e W2 ⟨N, rfl, h1, h2, h3⟩
  go_wp2
  go_ret2
  exact ⟨N, rfl, hb1.trans (h3.mono hb1.size)⟩
end
theorem MR.below {G N : Nat} {σ : Emb} {g : Mem} {w w' : World} (hm : MR G N σ g w) (hb : Go.RowKit.Below w.heap.size w w') : MR G N σ g w' := by
  have same : ∀ (b : Nat) o, w.heap[b]? = some o → w'.heap[b]? = some o := fun b o ho => by
    have hlt : b < w.heap.size := (Array.getElem?_eq_some_iff.1 ho).1
    rw [hb.block b hlt]; exact ho
  refine ⟨fun i o hi => ?_, hm.inj, hm.glob, Nat.le_trans hm.size hb.size⟩
  cases hm.obj i o hi with
  | own vals cs ver el h1 h2 hw h3 h4 h5 h6 => exact .own vals cs ver el h1 h2 (same _ _ hw) h3 h4 h5 h6
  | ro vals h1 h2 h3 =>
    refine .ro vals h1 (fun j u hu => ?_) h3
    obtain ⟨c, hc, hr⟩ := h2 j u hu
    exact ⟨c, by rw [hb.cell (Lib.lt_of_cell hc)]; exact hc, hr⟩
  | map es ms clock h1 hw h2 => exact .map es ms clock h1 (same _ _ hw) h2
theorem Done.below {G N : Nat} {σ : Emb} {g : Mem} {w w' : World} {h : Heap} (hm : MR G N σ g w) (hs : Sub g h) (hb : Go.RowKit.Below w.heap.size w w') {v cv : Value} (hv : VR σ g v cv) : Done G N σ g w h v h cv w' := by
  refine ⟨σ, ?_, ?_, ?_, .refl _ _⟩ <;> rw [grow_same hs]
  · exact ⟨.refl _ _, hb.size, hb.os, hb.tape, hb.output, fun b hlt _ => hb.block b hlt, fun b h => .inl h⟩
  · exact hm.below hb
  · exact hv
/-- An error of the library's of which only that it is one is known. -/
def anyErr : Value := .iface 66 (.chan (some 0))
def isErr : Value → Bool
  | .iface _ (.chan (some _)) => true
  | _ => false
theorem isErr_inv {σ : Emb} {g : Mem} {v c : Value} (h : isErr v = true) (hr : VR σ g v c) : ∃ te pe, c = .iface te pe := by
  unfold isErr at h
  split at h
  · cases hr; exact ⟨_, _, rfl⟩
  · cases h
/-- What is known of a number's text of a base. -/
def parseR (b : Int) (s : ByteArray) : Option (Option Nat) :=
  if b = 10 then match Lib.parseUintB 64 s.data.toList with
    | .ok u => some (some u)
    | .syntax => some none
    | .range => none
  else if b = 16 ∧ s.size ≤ 16 then if s.size = 0 then some none else match hexN 0 s.data.toList with
    | .ok u => some (some u)
    | .syntax => some none
    | .range => none
  else none
def extParse (args : List Value) (h : Heap) : Option (Value × Heap) :=
  match args, h[1]? with
  | [.string s, .int .i64 b, .int .i64 64], some (AObj.cells [E] 0 true) => if isErr E = true ∧ s.size < 4294967281 then match parseR b s with
      | some (some u) => some (.tuple ⟨[.int .u64 u, .nilIface]⟩, h)
      | some none => some (.tuple ⟨[.int .u64 0, anyErr]⟩, h)
      | none => none
    else none
  | _, _ => none
/-- Functions that are not read, for they are known. -/
def skipped : FuncId → Bool := fun f => f == 32
/-- What is known of other functions. -/
def known : Caller := fun f args h => if f = 32 then extParse args h else knownS f args h
theorem VRs.three {σ : Emb} {g : Mem} {a b d : Value} {cs : List Value} (h : VRs σ g [a, b, d] cs) : ∃ x y z, cs = [x, y, z] ∧ VR σ g a x ∧ VR σ g b y ∧ VR σ g d z := by
  cases h with
  | cons _ x _ cs ha hs =>
    obtain ⟨y, z, rfl, hy, hz⟩ := hs.two
    exact ⟨x, y, z, rfl, ha, hy, hz⟩
/-- What it comes to in the model. -/
theorem parseR_10 (s : ByteArray) : parseR 10 s = match Lib.parseUintB 64 s.data.toList with | .ok u => some (some u) | .syntax => some none | .range => none := by unfold parseR; rw [if_pos rfl]
theorem parseR_0 (s : ByteArray) (h0 : s.size = 0) : parseR 16 s = some none := by
  unfold parseR
  rw [if_neg (by decide), if_pos ⟨rfl, by omega⟩, if_pos h0]
theorem parseR_16 (s : ByteArray) (h0 : s.size ≠ 0) (h16 : s.size ≤ 16) : parseR 16 s = match hexN 0 s.data.toList with | .ok u => some (some u) | .syntax => some none | .range => none := by
  unfold parseR
  rw [if_neg (by decide), if_pos ⟨rfl, h16⟩, if_neg h0]
theorem parseR_inv {b : Int} {s : ByteArray} {r : Option Nat} (h : parseR b s = some r) : b = 10 ∨ (b = 16 ∧ s.size ≤ 16) := by
  unfold parseR at h
  by_cases hb : b = 10
  · exact .inl hb
  · rw [if_neg hb] at h
    by_cases hc : b = 16 ∧ s.size ≤ 16
    · exact .inr hc
    · rw [if_neg hc] at h; cases h
theorem parseR_ok (b : Int) (s : ByteArray) (hlen : s.size < 4294967281) (w : World) (ev : Value) (hv : w.cell? ⟨1, 0, none⟩ = some ev) (hev : ∃ te pe, ev = .iface te pe) {r : Option Nat} (hr : parseR b s = some r) :
    Calls Tryd.prog 32 #[.string s, .int .i64 b, .int .i64 64] w fun e w' => (match r with | some u => e = .returned (.tuple #[.int .u64 u, .nilIface]) | none => ∃ N, e = .returned (.tuple #[.int .u64 0, .iface 66 (.pointer (some ⟨N, 0, none⟩))])) ∧ Go.RowKit.Below w.heap.size w w' := by
  have hbw : Go.RowKit.Below w.heap.size w (Lib.bytesWorld w 5 s) := Lib.bytesWorld_below _ _ _
  rcases parseR_inv hr with rfl | ⟨rfl, h16⟩
  · rw [parseR_10] at hr
    cases hp : Lib.parseUintB 64 s.data.toList with
    | ok u =>
      rw [hp] at hr; cases hr
      refine (Tryd.strconv_ParseUint_10_at64_ok s (by omega) u hp w).mono ?_
      rintro e w' ⟨rfl, rfl | rfl⟩
      · exact ⟨rfl, Go.RowKit.Below.refl _ _⟩
      · exact ⟨rfl, hbw⟩
    | «syntax» =>
      rw [hp] at hr; cases hr
      refine (Tryd.strconv_ParseUint_10_at64_syntax s (by omega) hp ev w hv (.inr hev)).mono ?_
      rintro e w' ⟨N, rfl, h1, h2, h3⟩
      exact ⟨⟨N, rfl⟩, h3⟩
    | range => rw [hp] at hr; cases hr
  ·
      have syn : (Calls Tryd.prog 39 #[.string s, .int .i64 16, .int .i64 64] w fun e w' => e = .returned (.tuple #[.int .u64 0, .iface 63 (.int .i64 2)]) ∧ Go.RowKit.Below w.heap.size w w') →
          Calls Tryd.prog 32 #[.string s, .int .i64 16, .int .i64 64] w fun e w' => (∃ N, e = .returned (.tuple #[.int .u64 0, .iface 66 (.pointer (some ⟨N, 0, none⟩))])) ∧ Go.RowKit.Below w.heap.size w w' := by
        intro hI
        refine (pub_syntax Tryd.laysPu14 s 16 (by omega) ev w hv (.inr hev) hI).mono ?_
        rintro e w' ⟨N, rfl, h⟩
        exact ⟨⟨N, rfl⟩, h⟩
      by_cases h0 : s.size = 0
      · rw [parseR_0 s h0] at hr
        cases hr
        refine syn ?_
        have hs : s = ⟨#[]⟩ := by
          have h1 : s.data.size = 0 := h0
          cases s with
          | mk d => simp at h1; simp [h1]
        rw [hs]
        refine (Tryd.internal_strconv_ParseUint_empty 16 64 w).mono ?_
        rintro e w' ⟨rfl, rfl⟩
        exact ⟨rfl, Go.RowKit.Below.refl _ _⟩
      · rw [parseR_16 s h0 h16] at hr
        have hp := parse16 Tryd.lays287 s h0 h16 w
        cases hx : hexN 0 s.data.toList with
        | ok u =>
          rw [hx] at hr hp; cases hr
          refine pub_ok Tryd.laysPu14 s 16 u w (hp.mono ?_)
          rintro e w' ⟨rfl, rfl⟩
          exact ⟨rfl, hbw⟩
        | «syntax» =>
          rw [hx] at hr hp; cases hr
          refine syn (hp.mono ?_)
          rintro e w' ⟨rfl, rfl⟩
          exact ⟨rfl, hbw⟩
        | range => rw [hx] at hr; cases hr
theorem known_ok {G : Nat} (hG : 1 < G) (N : Nat) : CallsOk Tryd.prog G N known := by
  intro f args h v h' he σ g w cargs hs hm hv
  unfold known at he
  by_cases h1 : f = 32
  · subst h1
    rw [if_pos rfl] at he
    unfold extParse at he
    split at he
    · rename_i s b E hg
      split at he
      · rename_i hc
        obtain ⟨hE, hlen⟩ := hc
        obtain ⟨x, y, z, rfl, hx, hy, hz⟩ := hv.three
        obtain rfl := hx.string_inv
        obtain rfl := hy.int_inv
        obtain rfl := hz.int_inv
        obtain ⟨vals, g0, gb, ga⟩ := hm.glob 1 hG
        have hg0 := hs _ _ g0
        rw [hg] at hg0
        cases hg0
        have ho := hm.obj _ _ g0
        obtain ⟨ev, hcell, hev⟩ : ∃ ev, w.cell? ⟨1, 0, none⟩ = some ev ∧ ∃ te pe, ev = .iface te pe := by
          cases ho with
          | ro _ hb hv h1 =>
            obtain ⟨c, hc, hr⟩ := hv 0 _ rfl
            rw [gb, ga] at hc
            exact ⟨c, hc, isErr_inv hE hr⟩
        refine ⟨by kernel_rfl, ?_⟩
        cases hp : parseR b s with
        | none => rw [hp] at he; cases he
        | some r =>
          rw [hp] at he
          refine (parseR_ok b s hlen w ev hcell hev hp).mono ?_
          cases r with
          | some u =>
            cases he
            rintro e w' ⟨rfl, hb⟩
            exact ⟨_, rfl, Done.below hm hs hb (.tuple _ _ (.cons _ _ _ _ (.int _ _) (.cons _ _ _ _ .nilIface .nil)))⟩
          | none =>
            cases he
            rintro e w' ⟨⟨N, rfl⟩, hb⟩
            exact ⟨_, rfl, Done.below hm hs hb (.tuple _ _ (.cons _ _ _ _ (.int _ _) (.cons _ _ _ _ (.iface _ _ _ (.any _ _)) .nil)))⟩
      · cases he
    · cases he
  · rw [if_neg h1] at he
    exact knownS_ok (by omega) N f args h v h' he σ g w cargs hs hm hv
end Go.Proofs.YtfbldlgjlgcpoaaDoor.AM
