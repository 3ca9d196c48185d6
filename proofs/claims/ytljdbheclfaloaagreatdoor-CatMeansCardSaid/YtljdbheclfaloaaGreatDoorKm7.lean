/-
  The machine, the functions, what they come to: part 7.
  Conditions: as each says.
-/
import Derived.Test.YtljdbheclfaloaaGreatDoorKm6
namespace Go.Proofs.YtljdbheclfaloaaGreatDoor.AM
open Go.RowKit
set_option linter.unusedSimpArgs false
set_option linter.unusedVariables false
set_option maxRecDepth 20000

structure LkS (P : RP) (N : Nat → Prop) (h0 K : Heap) (i q km hm b3 n : Nat) (rm : Value) (here : List Bys) (kn : Kn) (row : List Value) (x a : Nat) : Prop where
  rd : Rd P K i 0 x a
  cq : K[q]? = some (.cells [pt P.r, .map (some km), rm, .int .i64 (n : Int)] 0 false)
  ck : K[km]? = some (.map (knE kn))
  ch : K[hm]? = some (.map (rcE here))
  rw : K[b3]? = some (.cells row 0 false)
  kp : KpO P N h0 K
section
variable {P : RP} {N : Nat → Prop} {h0 K : Heap} {i q km hm b3 n : Nat} {rm : Value} {here : List Bys} {kn : Kn} {row : List Value} {x a : Nat}
theorem LkS.more (l : LkS P N h0 K i q km hm b3 n rm here kn row x a) (L : Heap) : LkS P N h0 (K ++ L) i q km hm b3 n rm here kn row x a :=
  ⟨l.rd.more L, y7 L l.cq, y7 L l.ck, y7 L l.ch, y7 L l.rw, (l.kp.trans (KpO.add P (fun _ => False) K L)).weak fun _ _ h => h.elim id False.elim⟩
theorem LkS.weak {N' : Nat → Prop} (l : LkS P N h0 K i q km hm b3 n rm here kn row x a) (hs : ∀ z, N z → N' z) : LkS P N' h0 K i q km hm b3 n rm here kn row x a :=
  ⟨l.rd, l.cq, l.ck, l.ch, l.rw, l.kp.weak fun z _ h => hs z h⟩
theorem LkS.ne (l : LkS P N h0 K i q km hm b3 n rm here kn row x a) (hr : row.length = 4) : q ≠ P.r ∧ km ≠ P.r ∧ hm ≠ P.r ∧ b3 ≠ P.r ∧ q ≠ km ∧ q ≠ hm ∧ b3 ≠ km ∧ b3 ≠ hm := by
  refine ⟨?_, ?_, ?_, ?_, ?_, ?_, ?_, ?_⟩
  · rintro rfl; have := l.rd.hr.symm.trans l.cq; simp at this
  · rintro rfl; have := l.rd.hr.symm.trans l.ck; simp at this
  · rintro rfl; have := l.rd.hr.symm.trans l.ch; simp at this
  · rintro rfl
    have := l.rd.hr.symm.trans l.rw
    simp at this
    rw [← this] at hr; simp at hr
  · rintro rfl; have := l.cq.symm.trans l.ck; simp at this
  · rintro rfl; have := l.cq.symm.trans l.ch; simp at this
  · rintro rfl; have := l.rw.symm.trans l.ck; simp at this
  · rintro rfl; have := l.rw.symm.trans l.ch; simp at this
end
theorem GsP.focus {h : Heap} : ∀ {S : Nat → Prop} {vs : List Value} {gs : List Gv} {k : Nat} {g : Gv}, GsP h S vs gs → gs[k]? = some g → ∃ v Sk, vs[k]? = some v ∧ TreeP h Sk v g.e ∧ (∀ z, Sk z → S z) ∧
    ∀ (h' : Heap) (e' : Ex), TreeP h' Sk v e' → (∀ b o, S b → ¬ Sk b → h[b]? = some o → h'[b]? = some o) → GsP h' S vs (gs.set k ⟨g.name, g.at_, e'⟩)
  | S, [], [], k, g, e, hk => by simp at hk
  | S, v :: vs, g' :: gs, 0, g, e, hk => by
    obtain ⟨S1, S2, t, r, h1, h2⟩ := e
    cases hk
    refine ⟨v, S1, rfl, t, fun z hz => (h1 z hz).1, fun h' e' t' keep => ⟨S1, S2, t', r.keep fun b o hb ho => keep b o (h2 b hb) (fun h3 => (h1 b h3).2 hb) ho, h1, h2⟩⟩
  | S, v :: vs, g' :: gs, k + 1, g, e, hk => by
    obtain ⟨S1, S2, t, r, h1, h2⟩ := e
    obtain ⟨w, Sk, a, b, c, d⟩ := r.focus (k := k) (g := g) (by simpa using hk)
    refine ⟨w, Sk, by simpa using a, b, fun z hz => h2 z (c z hz), fun h' e' t' keep => ⟨S1, S2, t.keep fun z o hz ho => keep z o (h1 z hz).1 (fun h3 => (h1 z hz).2 (c z h3)) ho, d h' e' t' fun z o hz hn ho => keep z o (h2 z hz) hn ho, h1, h2⟩⟩
  | S, [], _ :: _, k, g, e, hk => e.elim
  | S, _ :: _, [], k, g, e, hk => e.elim
theorem zne {kn : Kn} {rc : List Bys} : ∀ {gs l : List Gv}, zf7 kn rc true gs = .ok l → ∀ g ∈ l, g.e.set = false
  | [], l, h, g, hg => by cases h; cases hg
  | g' :: gs, l, h, g, hg => by
    rw [zf7] at h
    split at h
    · cases h
    · rename_i y hx
      split at h
      · cases h
      · rename_i hs
        split at h
        · cases h
        · rename_i m hm
          cases h
          rcases List.mem_cons.1 hg with rfl | hg
          · simpa using hs
          · exact zne hm g hg
theorem zg6 {kn : Kn} {rc : List Bys} {b : Bool} : ∀ {gs l : List Gv}, zf7 kn rc b gs = .ok l → l.map (fun g => (g.name, g.at_)) = gs.map fun g => (g.name, g.at_)
  | [], l, h => by cases h; rfl
  | g' :: gs, l, h => by
    rw [zf7] at h
    split at h
    · cases h
    · split at h
      · cases h
      · split at h
        · cases h
        · rename_i m hm
          cases h
          simp [zg6 hm]
theorem zuf : ∀ {gs l : List Gv} (vs : List Value), l.map (fun g => (g.name, g.at_)) = gs.map (fun g => (g.name, g.at_)) → List.zipWith qd l vs = List.zipWith qd gs vs
  | [], [], vs, h => rfl
  | [], _ :: _, vs, h => by simp at h
  | _ :: _, [], vs, h => by simp at h
  | g :: gs, f :: l, [], h => rfl
  | g :: gs, f :: l, v :: vs, h => by
    simp only [List.map_cons, List.cons.injEq, Prod.mk.injEq] at h
    rw [List.zipWith_cons_cons, List.zipWith_cons_cons, zuf vs h.2]
    unfold qd
    rw [h.1.1, h.1.2]
theorem zxc {gs : List Gv} {vs : List Value} (hl : vs.length = gs.length) {k : Nat} {g : Gv} {v : Value} (hg : gs[k]? = some g) (hv : vs[k]? = some v) : (List.zipWith qd gs vs)[k]? = some (qd g v) := by
  rw [List.getElem?_zipWith, hg, hv]
end Go.Proofs.YtljdbheclfaloaaGreatDoor.AM
namespace Go.Proofs.YtljdbheclfaloaaGreatDoor.AM
open Go.RowKit
set_option linter.unusedSimpArgs false
set_option linter.unusedVariables false
set_option maxRecDepth 20000

section
variable (P : RP) (h h0 : Heap) (i q km n : Nat) (kn : Kn) (rc : Bool) (gs : List Gv) (s : Value) (row : List Value) (N : Nat → Prop) (R0 : CR Stm)
def LkA (rm : Value) (k : Nat) (K : Heap) : Prop := ∃ here x a, LkS P N h0 K i q km (h.length + 1) h.length (n + k) rm here kn row x a ∧
  (x = 0 → a = 0 ∧ here = (gs.take k).map (·.name) ∧ zba kn n [] gs = zba kn (n + k) here (gs.drop k)) ∧ (x ≠ 0 → R0 = .bad x a)
def LkA1 (rm : Value) (k : Nat) (st : St) : Prop := ∃ K, (∃ j : Nat → Value, st = ⟨[pt q, j 1, j 2, pt h.length, .map (some (h.length + 1)), j 5, j 6, j 7, j 8, j 9, j 10, j 11, j 12, j 13, j 14, s, .int .i64 (gs.length : Int), .int .i64 (k : Int), j 18, j 19, j 20, j 21, j 22, j 23, j 24, j 25, j 26, j 27, j 28, j 29, j 30, j 31, j 32, j 33, j 34, j 35, j 36, j 37, j 38, j 39, j 40, j 41, j 42, j 43, j 44, j 45, j 46, j 47, j 48, j 49, j 50, j 51, j 52, j 53, j 54, j 55, j 56, j 57, j 58, j 59, j 60, j 61, j 62, j 63, j 64, j 65, j 66, j 67, j 68, j 69, j 70, j 71, j 72, j 73, j 74, j 75, j 76, j 77, j 78, j 79, j 80, j 81, j 82, j 83, j 84, j 85, j 86, j 87, j 88, j 89, j 90, j 91, j 92, j 93, j 94, j 95, j 96, j 97, j 98, j 99, j 100, j 101, j 102, j 103, j 104, j 105, j 106, j 107, j 108, j 109, j 110, j 111, j 112, j 113, j 114, j 115, j 116, j 117, j 118, j 119, j 120, j 121, j 122, j 123, j 124, j 125, j 126, j 127, j 128, j 129, j 130, j 131, j 132, j 133, j 134, j 135, j 136, j 137], K⟩) ∧ LkA P h h0 i q km n kn gs row N R0 rm k K
def LkA2 (rm : Value) (k : Nat) (st : St) : Prop := ∃ K, (∃ j : Nat → Value, st = ⟨[pt q, j 1, j 2, pt h.length, .map (some (h.length + 1)), j 5, j 6, j 7, j 8, j 9, j 10, j 11, j 12, j 13, j 14, j 15, j 16, j 17, j 18, j 19, j 20, j 21, j 22, j 23, j 24, j 25, j 26, j 27, j 28, j 29, j 30, j 31, j 32, j 33, j 34, j 35, j 36, j 37, j 38, j 39, j 40, j 41, j 42, j 43, j 44, j 45, j 46, j 47, j 48, j 49, j 50, j 51, j 52, j 53, j 54, j 55, j 56, j 57, j 58, j 59, j 60, j 61, j 62, j 63, j 64, j 65, j 66, j 67, j 68, j 69, j 70, j 71, j 72, j 73, j 74, j 75, j 76, j 77, j 78, j 79, j 80, j 81, j 82, j 83, j 84, j 85, j 86, j 87, j 88, j 89, j 90, j 91, j 92, j 93, j 94, j 95, j 96, j 97, j 98, j 99, j 100, j 101, j 102, j 103, j 104, j 105, j 106, j 107, j 108, j 109, j 110, j 111, j 112, j 113, j 114, j 115, j 116, j 117, j 118, j 119, j 120, j 121, j 122, j 123, j 124, j 125, j 126, j 127, j 128, j 129, j 130, j 131, j 132, j 133, j 134, j 135, j 136, j 137], K⟩) ∧ LkA P h h0 i q km n kn gs row N R0 rm k K
def LkB (rm : Value) (k : Nat) (K : Heap) : Prop := ∃ here kn' x a, LkS P N h0 K i q km (h.length + 1) h.length (n + gs.length) rm here kn' row x a ∧
  (x = 0 → a = 0 ∧ here = gs.map (·.name) ∧ kn' = kn ++ (gs.take k).map (fun g => (g.name, false)) ∧ zba kn n [] gs = .ok ()) ∧ (x ≠ 0 → R0 = .bad x a)
def LkB1 (rm : Value) (k : Nat) (st : St) : Prop := ∃ K, (∃ j : Nat → Value, st = ⟨[pt q, j 1, j 2, pt h.length, j 4, j 5, j 6, j 7, j 8, j 9, j 10, j 11, j 12, j 13, j 14, j 15, j 16, j 17, j 18, j 19, j 20, j 21, j 22, j 23, j 24, j 25, j 26, j 27, j 28, j 29, j 30, j 31, j 32, j 33, j 34, j 35, j 36, s, .int .i64 (gs.length : Int), .int .i64 (k : Int), j 40, j 41, j 42, j 43, j 44, j 45, j 46, j 47, j 48, j 49, j 50, j 51, j 52, j 53, j 54, j 55, j 56, j 57, j 58, j 59, j 60, j 61, j 62, j 63, j 64, j 65, j 66, j 67, j 68, j 69, j 70, j 71, j 72, j 73, j 74, j 75, j 76, j 77, j 78, j 79, j 80, j 81, j 82, j 83, j 84, j 85, j 86, j 87, j 88, j 89, j 90, j 91, j 92, j 93, j 94, j 95, j 96, j 97, j 98, j 99, j 100, j 101, j 102, j 103, j 104, j 105, j 106, j 107, j 108, j 109, j 110, j 111, j 112, j 113, j 114, j 115, j 116, j 117, j 118, j 119, j 120, j 121, j 122, j 123, j 124, j 125, j 126, j 127, j 128, j 129, j 130, j 131, j 132, j 133, j 134, j 135, j 136, j 137], K⟩) ∧ LkB P h h0 i q km n kn gs row N R0 rm k K
def LkB2 (rm : Value) (k : Nat) (st : St) : Prop := ∃ K, (∃ j : Nat → Value, st = ⟨[pt q, j 1, j 2, pt h.length, j 4, j 5, j 6, j 7, j 8, j 9, j 10, j 11, j 12, j 13, j 14, j 15, j 16, j 17, j 18, j 19, j 20, j 21, j 22, j 23, j 24, j 25, j 26, j 27, j 28, j 29, j 30, j 31, j 32, j 33, j 34, j 35, j 36, j 37, j 38, j 39, j 40, j 41, j 42, j 43, j 44, j 45, j 46, j 47, j 48, j 49, j 50, j 51, j 52, j 53, j 54, j 55, j 56, j 57, j 58, j 59, j 60, j 61, j 62, j 63, j 64, j 65, j 66, j 67, j 68, j 69, j 70, j 71, j 72, j 73, j 74, j 75, j 76, j 77, j 78, j 79, j 80, j 81, j 82, j 83, j 84, j 85, j 86, j 87, j 88, j 89, j 90, j 91, j 92, j 93, j 94, j 95, j 96, j 97, j 98, j 99, j 100, j 101, j 102, j 103, j 104, j 105, j 106, j 107, j 108, j 109, j 110, j 111, j 112, j 113, j 114, j 115, j 116, j 117, j 118, j 119, j 120, j 121, j 122, j 123, j 124, j 125, j 126, j 127, j 128, j 129, j 130, j 131, j 132, j 133, j 134, j 135, j 136, j 137], K⟩) ∧ LkB P h h0 i q km n kn gs row N R0 rm k K
end
def knIn (kn : Kn) (rc : Bool) (gs : List Gv) : Kn := if rc then kn ++ gs.map fun g => (g.name, false) else kn
def rcIn (rc : Bool) (gs : List Gv) : List Bys := if rc then gs.map (·.name) else []
section
variable (P : RP) (h h0 : Heap) (i q km n : Nat) (kn : Kn) (rc : Bool) (gs : List Gv) (vs : List Value) (S : Nat → Prop) (s : Value) (row : List Value) (N : Nat → Prop) (R0 : CR Stm)
def LkC (rm : Value) (k : Nat) (K : Heap) : Prop := ∃ here kn' x a gs', LkS P N h0 K i q km (h.length + 1) h.length (n + gs.length) rm here kn' row x a ∧ GsP K S vs gs' ∧ (gs'.map fun g => (g.name, g.at_)) = (gs.map fun g => (g.name, g.at_)) ∧
  (x = 0 → a = 0 ∧ (rc = true → here = gs.map (·.name)) ∧ kn' = knIn kn rc gs ∧ zba kn n [] gs = .ok () ∧ ∃ l, l.length = k ∧ gs' = l ++ gs.drop k ∧ R0 = (match zf7 kn' (rcIn rc gs) rc (gs.drop k) with | .bad c a => .bad c a | .ok m => .ok (.lets rc (l ++ m))) ∧ (rc = true → ∀ g ∈ l, g.e.set = false)) ∧ (x ≠ 0 → R0 = .bad x a)
def LkC1 (rm : Value) (k : Nat) (st : St) : Prop := ∃ K, (∃ j : Nat → Value, st = ⟨[pt q, j 1, j 2, pt h.length, j 4, j 5, j 6, j 7, j 8, j 9, j 10, j 11, j 12, j 13, j 14, j 15, j 16, j 17, j 18, j 19, j 20, j 21, j 22, j 23, j 24, j 25, j 26, j 27, j 28, j 29, j 30, j 31, j 32, j 33, j 34, j 35, j 36, j 37, j 38, j 39, j 40, j 41, j 42, j 43, j 44, j 45, j 46, j 47, j 48, j 49, j 50, j 51, j 52, j 53, j 54, j 55, s, .int .i64 (gs.length : Int), .int .i64 (k : Int), j 59, j 60, j 61, j 62, j 63, j 64, j 65, j 66, j 67, j 68, j 69, j 70, j 71, j 72, j 73, j 74, j 75, j 76, j 77, j 78, j 79, j 80, j 81, j 82, j 83, j 84, j 85, j 86, j 87, j 88, j 89, j 90, j 91, j 92, j 93, j 94, j 95, j 96, j 97, j 98, j 99, j 100, j 101, j 102, j 103, j 104, j 105, j 106, j 107, j 108, j 109, j 110, j 111, j 112, j 113, j 114, j 115, j 116, j 117, j 118, j 119, j 120, j 121, j 122, j 123, j 124, j 125, j 126, j 127, j 128, j 129, j 130, j 131, j 132, j 133, j 134, j 135, j 136, j 137], K⟩) ∧ LkC P h h0 i q km n kn rc gs vs S row N R0 rm k K
def LkC2 (rm : Value) (k : Nat) (st : St) : Prop := ∃ K, (∃ j : Nat → Value, st = ⟨[pt q, j 1, j 2, pt h.length, j 4, j 5, j 6, j 7, j 8, j 9, j 10, j 11, j 12, j 13, j 14, j 15, j 16, j 17, j 18, j 19, j 20, j 21, j 22, j 23, j 24, j 25, j 26, j 27, j 28, j 29, j 30, j 31, j 32, j 33, j 34, j 35, j 36, j 37, j 38, j 39, j 40, j 41, j 42, j 43, j 44, j 45, j 46, j 47, j 48, j 49, j 50, j 51, j 52, j 53, j 54, j 55, j 56, j 57, j 58, j 59, j 60, j 61, j 62, j 63, j 64, j 65, j 66, j 67, j 68, j 69, j 70, j 71, j 72, j 73, j 74, j 75, j 76, j 77, j 78, j 79, j 80, j 81, j 82, j 83, j 84, j 85, j 86, j 87, j 88, j 89, j 90, j 91, j 92, j 93, j 94, j 95, j 96, j 97, j 98, j 99, j 100, j 101, j 102, j 103, j 104, j 105, j 106, j 107, j 108, j 109, j 110, j 111, j 112, j 113, j 114, j 115, j 116, j 117, j 118, j 119, j 120, j 121, j 122, j 123, j 124, j 125, j 126, j 127, j 128, j 129, j 130, j 131, j 132, j 133, j 134, j 135, j 136, j 137], K⟩) ∧ LkC P h h0 i q km n kn rc gs vs S row N R0 rm k K
def LkD (rm : Value) (k : Nat) (K : Heap) : Prop := ∃ here kn' x a gs', LkS P N h0 K i q km (h.length + 1) h.length (n + gs.length) rm here kn' row x a ∧ GsP K S vs gs' ∧ (gs'.map fun g => (g.name, g.at_)) = (gs.map fun g => (g.name, g.at_)) ∧
  (x = 0 → a = 0 ∧ zba kn n [] gs = .ok () ∧ R0 = .ok (.lets rc gs') ∧ (rc = true → ∀ g ∈ gs', g.e.set = false) ∧ kn' = (if rc then kn ++ kq gs' else kn ++ kq (gs'.take k))) ∧ (x ≠ 0 → R0 = .bad x a)
def LkD1 (rm : Value) (k : Nat) (st : St) : Prop := ∃ K, (∃ j : Nat → Value, st = ⟨[pt q, j 1, j 2, pt h.length, j 4, j 5, j 6, j 7, j 8, j 9, j 10, j 11, j 12, j 13, j 14, j 15, j 16, j 17, j 18, j 19, j 20, j 21, j 22, j 23, j 24, j 25, j 26, j 27, j 28, j 29, j 30, j 31, j 32, j 33, j 34, j 35, j 36, j 37, j 38, j 39, j 40, j 41, j 42, j 43, j 44, j 45, j 46, j 47, j 48, j 49, j 50, j 51, j 52, j 53, j 54, j 55, j 56, j 57, j 58, j 59, j 60, j 61, j 62, j 63, j 64, j 65, j 66, j 67, j 68, j 69, j 70, j 71, j 72, j 73, j 74, j 75, j 76, j 77, j 78, j 79, j 80, j 81, j 82, j 83, j 84, j 85, j 86, j 87, s, .int .i64 (gs.length : Int), .int .i64 (k : Int), j 91, j 92, j 93, j 94, j 95, j 96, j 97, j 98, j 99, j 100, j 101, j 102, j 103, j 104, j 105, j 106, j 107, j 108, j 109, j 110, j 111, j 112, j 113, j 114, j 115, j 116, j 117, j 118, j 119, j 120, j 121, j 122, j 123, j 124, j 125, j 126, j 127, j 128, j 129, j 130, j 131, j 132, j 133, j 134, j 135, j 136, j 137], K⟩) ∧ LkD P h h0 i q km n kn rc gs vs S row N R0 rm k K
def LkD2 (rm : Value) (k : Nat) (st : St) : Prop := ∃ K, (∃ j : Nat → Value, st = ⟨[pt q, j 1, j 2, pt h.length, j 4, j 5, j 6, j 7, j 8, j 9, j 10, j 11, j 12, j 13, j 14, j 15, j 16, j 17, j 18, j 19, j 20, j 21, j 22, j 23, j 24, j 25, j 26, j 27, j 28, j 29, j 30, j 31, j 32, j 33, j 34, j 35, j 36, j 37, j 38, j 39, j 40, j 41, j 42, j 43, j 44, j 45, j 46, j 47, j 48, j 49, j 50, j 51, j 52, j 53, j 54, j 55, j 56, j 57, j 58, j 59, j 60, j 61, j 62, j 63, j 64, j 65, j 66, j 67, j 68, j 69, j 70, j 71, j 72, j 73, j 74, j 75, j 76, j 77, j 78, j 79, j 80, j 81, j 82, j 83, j 84, j 85, j 86, j 87, j 88, j 89, j 90, j 91, j 92, j 93, j 94, j 95, j 96, j 97, j 98, j 99, j 100, j 101, j 102, j 103, j 104, j 105, j 106, j 107, j 108, j 109, j 110, j 111, j 112, j 113, j 114, j 115, j 116, j 117, j 118, j 119, j 120, j 121, j 122, j 123, j 124, j 125, j 126, j 127, j 128, j 129, j 130, j 131, j 132, j 133, j 134, j 135, j 136, j 137], K⟩) ∧ LkD P h h0 i q km n kn rc gs vs S row N R0 rm k K
end
theorem zp2 (rc : Bool) : (kwOf rc == [114, 101, 99]) = rc := by cases rc <;> rfl
theorem zb7 {α : Type} {l : List α} {k : Nat} {x : α} (h : l[k]? = some x) : l.drop k = x :: l.drop (k + 1) := by
  have hk := (List.getElem?_eq_some_iff.1 h).1
  rw [List.drop_eq_getElem_cons hk]
  rw [List.getElem?_eq_getElem hk] at h
  rw [Option.some.inj h]
theorem zoz {α : Type} {l : List α} {k : Nat} {x : α} (h : l[k]? = some x) : l.take (k + 1) = l.take k ++ [x] := by
  rw [List.take_add_one, h]; rfl
section
variable {kn : Kn} {here : List Bys} {n x a p : Nat} {w : Bys}
theorem zob (h : ¬ x = 0) : zeu kn here n x w = x ∧ zeh kn here n x a p w = a := by unfold zeu zeh; simp [h]
theorem zov (h : x = 0) (t : ((jk kn w).isSome || here.contains w) = true) : zeu kn here n x w = 42 ∧ zeh kn here n x a p w = p := by unfold zeu zeh; rw [t]; simp [h]
theorem zn7 (h : x = 0) (t : ((jk kn w).isSome || here.contains w) = false) (t2 : 64 ≤ n) : zeu kn here n x w = 2 ∧ zeh kn here n x a p w = p := by unfold zeu zeh; rw [t]; simp [h, t2]
theorem zta (h : x = 0) (t : ((jk kn w).isSome || here.contains w) = false) (t2 : ¬ 64 ≤ n) : zeu kn here n x w = 0 ∧ zeh kn here n x a p w = 0 := by unfold zeu zeh; rw [t]; simp [h, t2]
end
theorem yab {P : RP} {hb h h0 K : Heap} {i0 i q km n k : Nat} {kn : Kn} {gs : List Gv} {row : List Value} {N : Nat → Prop} {R0 : CR Stm} {rm : Value} {g : Gv} {b : Nat} (eb : Rd P hb i0 0 0 0) (hqb : hb.length ≤ q) (hhb : hb.length ≤ h.length) (hql : q < h.length) (hkl : km < h.length) (hr : row.length = 4) (hn : n + k < 1000000) (hNq : N q) (hNh : N (h.length + 1)) (hRF : ∀ c a, zba kn n [] gs = .bad c a → R0 = .bad c a) (e : LkA P h h0 i q km n kn gs row N R0 rm k K) (hg : gs[k]? = some g) :
    ∃ K', DF FF gz [pt q, agg (qd g (pt b)), .map (some (h.length + 1))] (K ++ [.cells (qd g (pt b)) 0 false]) = some (tup [], K') ∧ LkA P h h0 i q km n kn gs row N R0 rm (k + 1) K' := by
  obtain ⟨here, x, a, l, f1, f2⟩ := e
  have l' := l.more [.cells (qd g (pt b)) 0 false]
  obtain ⟨nq, nk, nh, n3, qk, qh, b3k, b3h⟩ := l.ne hr
  obtain ⟨K', q', e', cq', ch', k'⟩ := yez (w := g.name) (p := g.at_) (v := pt b) eb hqb (Nat.le_succ_of_le hhb) l'.rd (fun h => (f1 h).1) l'.cq l'.ck l'.ch hn ⟨b, rfl⟩
  have hpure : ∀ (x0 : x = 0), zba kn n [] gs = (if (jk kn g.name).isSome || here.contains g.name then CR.bad 42 g.at_ else if 64 ≤ n + k then .bad 2 g.at_ else zba kn (n + (k + 1)) (here ++ [g.name]) (gs.drop (k + 1))) := fun x0 => by
    rw [(f1 x0).2.2, zb7 hg, zba]
    rfl
  refine ⟨K', q', zl0 here g.name, _, _, ⟨e', cq', k'.1 _ _ l'.ck (fun h => h.elim (Ne.symm qk) (by omega)) nk, ch', k'.1 _ _ l'.rw (fun h => h.elim (by omega) (by omega)) n3, (l'.kp.trans k').weak fun z _ hz => hz.elim id fun h => h.elim (by rintro rfl; exact hNq) (by rintro rfl; exact hNh)⟩, ?_, ?_⟩
  · intro hx
    by_cases x0 : x = 0
    · have hp := hpure x0
      cases t1 : ((jk kn g.name).isSome || here.contains g.name)
      · rw [t1, if_neg Bool.false_ne_true] at hp
        by_cases t2 : 64 ≤ n + k
        · rw [(zn7 (a := a) (p := g.at_) x0 t1 t2).1] at hx; cases hx
        · rw [if_neg t2] at hp
          rw [Bool.or_eq_false_iff] at t1
          refine ⟨(zta (a := a) (p := g.at_) x0 (by rw [Bool.or_eq_false_iff]; exact t1) t2).2, ?_, ?_⟩
          · unfold zl0
            rw [t1.2, if_neg Bool.false_ne_true, (f1 x0).2.1, zoz hg]; simp
          · unfold zl0
            rw [t1.2, if_neg Bool.false_ne_true]; exact hp
      · rw [(zov (a := a) (p := g.at_) x0 t1).1] at hx; cases hx
    · rw [(zob (a := a) (p := g.at_) (kn := kn) (here := here) (n := n + k) (w := g.name) x0).1] at hx; exact absurd hx x0
  · intro hx
    by_cases x0 : x = 0
    · have hp := hpure x0
      cases t1 : ((jk kn g.name).isSome || here.contains g.name)
      · rw [t1, if_neg Bool.false_ne_true] at hp
        by_cases t2 : 64 ≤ n + k
        · rw [(zn7 (a := a) (p := g.at_) x0 t1 t2).1, (zn7 (a := a) (p := g.at_) x0 t1 t2).2]; rw [if_pos t2] at hp; exact hRF _ _ hp
        · rw [(zta (a := a) (p := g.at_) x0 t1 t2).1] at hx; exact absurd rfl hx
      · rw [t1, if_pos rfl] at hp
        rw [(zov (a := a) (p := g.at_) x0 t1).1, (zov (a := a) (p := g.at_) x0 t1).2]; exact hRF _ _ hp
    · rw [(zob (a := a) (p := g.at_) (kn := kn) (here := here) (n := n + k) (w := g.name) x0).1, (zob (a := a) (p := g.at_) (kn := kn) (here := here) (n := n + k) (w := g.name) x0).2]; exact f2 x0
theorem ybn {P : RP} {hb h h0 K : Heap} {i0 i q km n k : Nat} {kn : Kn} {gs : List Gv} {row : List Value} {N : Nat → Prop} {R0 : CR Stm} {rm : Value} {g : Gv} {b : Nat} (eb : Rd P hb i0 0 0 0) (hkb : hb.length ≤ km) (hql : q < h.length) (hkl : km < h.length) (hr : row.length = 4) (hNk : N km) (e : LkB P h h0 i q km n kn gs row N R0 rm k K) (hg : gs[k]? = some g) :
    ∃ x a, Rd P (K ++ [.cells (qd g (pt b)) 0 false]) i 0 x a ∧ Heap.read1 (K ++ [.cells (qd g (pt b)) 0 false]) ⟨q, 0, some 0⟩ = some (pt P.r) ∧ Heap.read1 (K ++ [.cells (qd g (pt b)) 0 false]) ⟨q, 1, some 0⟩ = some (.map (some km)) ∧
      ((x ≠ 0 ∧ LkB P h h0 i q km n kn gs row N R0 rm (k + 1) (K ++ [.cells (qd g (pt b)) 0 false])) ∨ (x = 0 ∧ ∃ K', updO (K ++ [.cells (qd g (pt b)) 0 false]) .str (.map (some km)) (str g.name) (.bool false) = some (undef, K') ∧ LkB P h h0 i q km n kn gs row N R0 rm (k + 1) K')) := by
  obtain ⟨here, kn', x, a, l, f1, f2⟩ := e
  have l' := l.more [.cells (qd g (pt b)) 0 false]
  obtain ⟨nq, nk, nh, n3, qk, qh, b3k, b3h⟩ := l.ne hr
  refine ⟨x, a, l'.rd, xz l'.cq, xz l'.cq, ?_⟩
  by_cases x0 : x = 0
  · right
    refine ⟨x0, ?_⟩
    obtain ⟨a0, h1, h2, h4⟩ := f1 x0
    obtain ⟨g1, g2⟩ := zj5 h4 k g hg
    have hnew : jk kn' g.name = none := by
      rw [h2, gu, g1, zef _ (fun _ => false) _ (by simpa using g2)]; rfl
    have hu := zmw _ l'.ck (zjc hnew false)
    have lk := (List.getElem?_eq_some_iff.1 l'.ck).1
    refine ⟨_, hu, here, kn' ++ [(g.name, false)], x, a, ⟨eb.upd l'.rd hkb _, by rw [List.getElem?_set_ne (Ne.symm qk)]; exact l'.cq, by rw [List.getElem?_set_self lk], by rw [List.getElem?_set_ne (by omega)]; exact l'.ch, by rw [List.getElem?_set_ne (by omega)]; exact l'.rw, l'.kp.set hNk _⟩, fun _ => ⟨a0, h1, ?_, h4⟩, fun h => absurd x0 h⟩
    rw [h2, zoz hg]; simp
  · exact .inl ⟨x0, here, kn', x, a, l', fun h => absurd h x0, f2⟩
theorem LkA.rm {P : RP} {hb h h0 K : Heap} {i0 i q km n k : Nat} {kn : Kn} {gs : List Gv} {row : List Value} {N : Nat → Prop} {R0 : CR Stm} {rm : Value} (eb : Rd P hb i0 0 0 0) (hqb : hb.length ≤ q) (hql : q < h.length) (hr : row.length = 4) (hNq : N q) (e : LkA P h h0 i q km n kn gs row N R0 rm k K) (rm' : Value) :
    ∃ K1, Heap.write1 K ⟨q, 2, some 0⟩ rm' = some K1 ∧ LkA P h h0 i q km n kn gs row N R0 rm' k K1 := by
  obtain ⟨here, x, a, l, f1, f2⟩ := e
  obtain ⟨nq, nk, nh, n3, qk, qh, b3k, b3h⟩ := l.ne hr
  have lq := (List.getElem?_eq_some_iff.1 l.cq).1
  exact ⟨K.set q (.cells [pt P.r, .map (some km), rm', .int .i64 ((n + k : Nat) : Int)] 0 false), by rw [po l.cq (by simp)]; rfl, here, x, a, ⟨eb.upd l.rd hqb _, by rw [List.getElem?_set_self lq], by rw [List.getElem?_set_ne qk]; exact l.ck, by rw [List.getElem?_set_ne (by omega)]; exact l.ch, by rw [List.getElem?_set_ne (by omega)]; exact l.rw, l.kp.set hNq _⟩, f1, f2⟩
theorem LkA.row {P : RP} {h h0 K : Heap} {i q km n k : Nat} {kn : Kn} {gs : List Gv} {row : List Value} {N : Nat → Prop} {R0 : CR Stm} {rm : Value} (e : LkA P h h0 i q km n kn gs row N R0 rm k K) : K[h.length]? = some (.cells row 0 false) ∧ KpO P N h0 K := by
  obtain ⟨here, x, a, l, f1, f2⟩ := e; exact ⟨l.rw, l.kp⟩
theorem LkB.row {P : RP} {h h0 K : Heap} {i q km n k : Nat} {kn : Kn} {gs : List Gv} {row : List Value} {N : Nat → Prop} {R0 : CR Stm} {rm : Value} (e : LkB P h h0 i q km n kn gs row N R0 rm k K) : K[h.length]? = some (.cells row 0 false) ∧ KpO P N h0 K := by
  obtain ⟨here, kn', x, a, l, f1, f2⟩ := e; exact ⟨l.rw, l.kp⟩
theorem LkC.row {P : RP} {h h0 K : Heap} {i q km n k : Nat} {kn : Kn} {rc : Bool} {gs : List Gv} {vs : List Value} {S : Nat → Prop} {row : List Value} {N : Nat → Prop} {R0 : CR Stm} {rm : Value} (e : LkC P h h0 i q km n kn rc gs vs S row N R0 rm k K) : K[h.length]? = some (.cells row 0 false) ∧ KpO P N h0 K := by
  obtain ⟨here, kn', x, a, gs', l, f1, f2⟩ := e; exact ⟨l.rw, l.kp⟩
theorem LkD.row {P : RP} {h h0 K : Heap} {i q km n k : Nat} {kn : Kn} {rc : Bool} {gs : List Gv} {vs : List Value} {S : Nat → Prop} {row : List Value} {N : Nat → Prop} {R0 : CR Stm} {rm : Value} (e : LkD P h h0 i q km n kn rc gs vs S row N R0 rm k K) : K[h.length]? = some (.cells row 0 false) ∧ KpO P N h0 K := by
  obtain ⟨here, kn', x, a, gs', l, f1, f2⟩ := e; exact ⟨l.rw, l.kp⟩
end Go.Proofs.YtljdbheclfaloaaGreatDoor.AM
namespace Go.Proofs.YtljdbheclfaloaaGreatDoor.AM
open Go.RowKit
set_option linter.unusedSimpArgs false
set_option linter.unusedVariables false
set_option maxRecDepth 20000

theorem zuk {P : RP} {hb h h0 K : Heap} {i0 i q km n k : Nat} {kn : Kn} {rc : Bool} {gs : List Gv} {vs : List Value} {S : Nat → Prop} {row : List Value} {N : Nat → Prop} {R0 : CR Stm} {rm : Value} {g : Gv} {v : Value} (eb : Rd P hb i0 0 0 0) (hhb : hb.length ≤ h.length) (hqb : hb.length ≤ q) (hkb : hb.length ≤ km) (hql : q < h.length) (hkl : km < h.length) (hr : row.length = 4) (hNS : ∀ z, S z → N z) (hS : ∀ z, S z → hb.length ≤ z ∧ z ≠ q ∧ z ≠ km ∧ z < h.length) (hrm : rm = if rc then .map (some (h.length + 1)) else .map none) (hK0 : h.length + 1 < h0.length)
    (e : LkC P h h0 i q km n kn rc gs vs S row N R0 rm k K) (hg : gs[k]? = some g) (hv : vs[k]? = some v) :
    ∃ b K2 t pl, v = pt b ∧ DF FF xn [pt q, v, .bool false] (K ++ [.cells (qd g v) 0 false]) = some (tup [], K2) ∧ K2[K.length]? = some (.cells (qd g v) 0 false) ∧ K2[h.length]? = some (.cells row 0 false) ∧ Heap.read1 K2 ⟨q, 0, some 0⟩ = some (pt P.r) ∧ Heap.read1 K2 ⟨b, 5, some 0⟩ = some (.bool t) ∧ Heap.read1 K2 ⟨b, 2, some 0⟩ = some (.int .i64 (pl : Int)) ∧
      (((rc && t) = false ∧ LkC P h h0 i q km n kn rc gs vs S row N R0 rm (k + 1) K2) ∨ ((rc && t) = true ∧ ∃ K3, DF FF x9 [pt P.r, .int .i64 41, .int .i64 (pl : Int)] K2 = some (tup [], K3) ∧ LkC P h h0 i q km n kn rc gs vs S row N R0 rm (k + 1) K3)) := by
  obtain ⟨here, kn', x, a, gs', l, G, hnm, f1, f2⟩ := e
  have lK : h0.length ≤ K.length := l.kp.2
  have hkl' : k < gs.length := (List.getElem?_eq_some_iff.1 hg).1
  have hlen : gs'.length = gs.length := by have := congrArg List.length hnm; simpa using this
  obtain ⟨g', hg'⟩ : ∃ g', gs'[k]? = some g' := ⟨_, List.getElem?_eq_getElem (by omega)⟩
  have hgn : g'.name = g.name ∧ g'.at_ = g.at_ := by
    have := congrArg (·[k]?) hnm
    simp only [List.getElem?_map, hg, hg', Option.map_some] at this
    simpa using this
  obtain ⟨nq, nk, nh, n3, qk, qh, b3k, b3h⟩ := l.ne hr
  have l1 := l.more [.cells (qd g v) 0 false]
  have G1 : GsP (K ++ [.cells (qd g v) 0 false]) S vs gs' := G.keep fun b o _ ho => y7 _ ho
  obtain ⟨v', Sk, hv', tk, hSk, back⟩ := G1.focus hg'
  have : v' = v := by rw [hv] at hv'; exact (Option.some.inj hv').symm
  subst this
  obtain ⟨b, op1, w1, l1', r1, rfl, hbSk, hbo⟩ := tk.root
  have hbS := hSk b hbSk
  have nr : ∀ z, S z → z ≠ P.r := fun z hz => by have := (hS z hz).1; have := eb.lr; omega
  have hlast : (K ++ [AObj.cells (qd g (pt b)) 0 false])[K.length]? = some (.cells (qd g (pt b)) 0 false) := by simp
  -- one more expression, read as it is
  have nm : ∀ e', ((gs'.set k ⟨g'.name, g'.at_, e'⟩).map fun g => (g.name, g.at_)) = gs.map fun g => (g.name, g.at_) := fun e' => by
    rw [← hnm, List.map_set]
    apply List.ext_getElem?
    intro j
    by_cases hj : k = j
    · subst hj
      rw [List.getElem?_set_self (by simp; omega), List.getElem?_map, hg']; rfl
    · rw [List.getElem?_set_ne hj]
  by_cases x0 : x = 0
  · obtain ⟨a0, h1, h2, h3, lst, hll, hgs, hR, hset⟩ := f1 x0
    subst x0 a0
    have hgg : g' = g := by
      have h5 : gs'[k]? = gs[k]? := by
        rw [hgs, List.getElem?_append_right (by omega), hll, Nat.sub_self, List.getElem?_drop, Nat.add_zero]
      rw [hg', hg] at h5; exact Option.some.inj h5
    subst hgg
    have ch : Ch P (K ++ [.cells (qd g' (pt b)) 0 false]) q km rm (n + gs.length) kn' (rcIn rc gs) := ⟨l1.cq, l1.ck, by
      cases hrc : rc
      · rw [hrc] at hrm; exact .inl ⟨hrm, rfl⟩
      · rw [hrc] at hrm; refine .inr ⟨h.length + 1, hrm, ?_⟩
        have := h1 hrc
        have hc := l1.ch
        rw [this] at hc
        exact hc⟩
    obtain ⟨K2, c2, r2, k2⟩ := zg5 P kn' (rcIn rc gs) g'.e false hb _ i0 i q km (n + gs.length) rm Sk (pt b) eb l1.rd ch tk ⟨fun z hz => (hS z (hSk z hz)).1, fun h => (hS _ (hSk _ h)).2.1 rfl, fun h => (hS _ (hSk _ h)).2.2.1 rfl, fun b' hb' h' => by
        cases hrc : rc
        · rw [hrm, hrc] at hb'; cases hb'
        · rw [hrm, hrc] at hb'; simp at hb'; have := (hS _ (hSk _ h')).2.2.2; omega⟩ (fun z hz => by have := (hS z (hSk z hz)).2.2.2; simp; omega)
    have keep := fun z o (hz : ¬ Sk z) (hr : z ≠ P.r) ho => k2.keep z o ho hz hr
    have nSk : ∀ z, h.length ≤ z → ¬ Sk z := fun z hz h' => by have := (hS z (hSk z h')).2.2.2; omega
    have l2 : ∀ x' a', Rd P K2 i 0 x' a' → LkS P N h0 K2 i q km (h.length + 1) h.length (n + gs.length) rm here kn' row x' a' := fun x' a' e2 =>
      ⟨e2, keep _ _ (fun h => (hS _ (hSk _ h)).2.1 rfl) nq l1.cq, keep _ _ (fun h => (hS _ (hSk _ h)).2.2.1 rfl) nk l1.ck, keep _ _ (nSk _ (by omega)) nh l1.ch, keep _ _ (nSk _ (by omega)) n3 l1.rw, (l1.kp.trans k2.o).weak fun z _ hz => hz.elim id fun h => hNS z (hSk z h)⟩
    have row2 := keep _ _ (nSk _ (by have := lK; omega)) (by have := l.rd.lr; omega) hlast
    have hR2 : R0 = (match chkE kn' (rcIn rc gs) false g'.e with | .bad c a => CR.bad c a | .ok x => if rc && x.set then .bad 41 g'.e.pl else (match zf7 kn' (rcIn rc gs) rc (gs.drop (k + 1)) with | .bad c a => .bad c a | .ok m => .ok (.lets rc (lst ++ (⟨g'.name, g'.at_, x⟩ :: m))))) := by
      rw [hR, zb7 hg, zf7]
      cases chkE kn' (rcIn rc gs) false g'.e with
      | bad c a => rfl
      | ok y =>
        simp only
        by_cases t : (rc && y.set) = true
        · rw [if_pos t, if_pos t]
        · rw [if_neg t, if_neg t]
          cases zf7 kn' (rcIn rc gs) rc (gs.drop (k + 1)) <;> rfl
    have GB : ∀ e', TreeP K2 Sk (pt b) e' → GsP K2 S vs (gs'.set k ⟨g'.name, g'.at_, e'⟩) := fun e' t' => back K2 e' t' fun z o hz hn ho => keep z o hn (nr z hz) ho
    cases hc : chkE kn' (rcIn rc gs) false g'.e with
    | bad c ca =>
      rw [hc] at r2 hR2
      obtain ⟨hc0, ⟨e', t', hp⟩, e2⟩ := r2
      obtain ⟨b', op', w', l', r', hpb, _, hbx'⟩ := t'.root
      have hpb : b = b' := by simpa using hpb
      subst hpb
      refine ⟨b, K2, e'.set, e'.pl, rfl, c2, row2, (l2 _ _ e2).rw, xz (l2 _ _ e2).cq, xz hbx', xz hbx', ?_⟩
      have L2 : LkC P h h0 i q km n kn rc gs vs S row N R0 rm (k + 1) K2 := ⟨here, kn', c, ca, _, l2 _ _ e2, GB e' t', nm e', fun h => absurd h hc0, fun _ => hR2⟩
      cases ht : (rc && e'.set)
      · exact .inl ⟨rfl, L2⟩
      · exact .inr ⟨rfl, K2, zkq e2 hc0 _ _, L2⟩
    | ok y =>
      rw [hc] at r2 hR2
      obtain ⟨t', hp, e2⟩ := r2
      obtain ⟨b', op', w', l', r', hpb, _, hbx'⟩ := t'.root
      have hpb : b = b' := by simpa using hpb
      subst hpb
      refine ⟨b, K2, y.set, y.pl, rfl, c2, row2, (l2 _ _ e2).rw, xz (l2 _ _ e2).cq, xz hbx', xz hbx', ?_⟩
      cases ht : (rc && y.set)
      · simp only [ht, Bool.false_eq_true, if_false] at hR2
        refine .inl ⟨rfl, here, kn', 0, 0, _, l2 _ _ e2, GB y t', nm y, fun _ => ⟨rfl, h1, h2, h3, lst ++ [⟨g'.name, g'.at_, y⟩], by simp [hll], ?_, by rw [hR2]; cases zf7 kn' (rcIn rc gs) rc (gs.drop (k + 1)) <;> simp, ?_⟩, fun h => absurd rfl h⟩
        · rw [hgs, List.set_append_right _ _ (by omega), hll, Nat.sub_self, zb7 hg]; simp
        · intro hrc g2 hg2
          rcases List.mem_append.1 hg2 with hg2 | hg2
          · exact hset hrc g2 hg2
          · simp at hg2; subst hg2; rw [hrc, Bool.true_and] at ht; exact ht
      · simp only [ht, if_true] at hR2
        obtain ⟨K3, q3, e3, m3⟩ := zjg e2 41 y.pl (by omega)
        have k3 := (m3.kp fun o ho => by rw [e3.hc, ← e2.hc]; exact ho)
        refine .inr ⟨rfl, K3, q3, here, kn', 41, y.pl, _, ⟨e3, k3.keep _ _ (l2 _ _ e2).cq id nq, k3.keep _ _ (l2 _ _ e2).ck id nk, k3.keep _ _ (l2 _ _ e2).ch id nh, k3.keep _ _ (l2 _ _ e2).rw id n3, ((l2 _ _ e2).kp.trans k3.o).weak fun z _ hz => hz.elim id False.elim⟩, (GB y t').keep fun z o hz ho => k3.keep z o ho id (nr z hz), nm y, fun h => by omega, fun _ => ?_⟩
        rw [hp]; exact hR2
  · refine ⟨b, _, g'.e.set, g'.e.pl, rfl, zt6 l1.rd x0 l1.cq b false, hlast, l1.rw, xz l1.cq, xz hbo, xz hbo, ?_⟩
    have L2 : LkC P h h0 i q km n kn rc gs vs S row N R0 rm (k + 1) (K ++ [.cells (qd g (pt b)) 0 false]) := ⟨here, kn', x, a, gs', l1, G1, hnm, fun h => absurd h x0, f2⟩
    cases ht : (rc && g'.e.set)
    · exact .inl ⟨rfl, L2⟩
    · exact .inr ⟨rfl, _, zkq l1.rd x0 _ _, L2⟩
theorem ztb {P : RP} {hb h h0 K : Heap} {i0 i q km n k : Nat} {kn : Kn} {rc : Bool} {gs : List Gv} {vs : List Value} {S : Nat → Prop} {row : List Value} {N : Nat → Prop} {R0 : CR Stm} {rm : Value} {g : Gv} {v : Value} (eb : Rd P hb i0 0 0 0) (hkb : hb.length ≤ km) (hql : q < h.length) (hkl : km < h.length) (hr : row.length = 4) (hNk : N km) (hS : ∀ z, S z → hb.length ≤ z ∧ z ≠ q ∧ z ≠ km ∧ z < h.length)
    (e : LkD P h h0 i q km n kn rc gs vs S row N R0 rm k K) (hg : gs[k]? = some g) (hv : vs[k]? = some v) :
    ∃ b x a t, v = pt b ∧ Rd P (K ++ [.cells (qd g v) 0 false]) i 0 x a ∧ Heap.read1 (K ++ [.cells (qd g v) 0 false]) ⟨q, 0, some 0⟩ = some (pt P.r) ∧ Heap.read1 (K ++ [.cells (qd g v) 0 false]) ⟨q, 1, some 0⟩ = some (.map (some km)) ∧ Heap.read1 (K ++ [.cells (qd g v) 0 false]) ⟨b, 5, some 0⟩ = some (.bool t) ∧
      ((x ≠ 0 ∧ LkD P h h0 i q km n kn rc gs vs S row N R0 rm (k + 1) (K ++ [.cells (qd g v) 0 false])) ∨ (x = 0 ∧ ∃ K', updO (K ++ [.cells (qd g v) 0 false]) .str (.map (some km)) (str g.name) (.bool t) = some (undef, K') ∧ LkD P h h0 i q km n kn rc gs vs S row N R0 rm (k + 1) K')) := by
  obtain ⟨here, kn', x, a, gs', l, G, hnm, f1, f2⟩ := e
  have hkl' : k < gs.length := (List.getElem?_eq_some_iff.1 hg).1
  have hlen : gs'.length = gs.length := by have := congrArg List.length hnm; simpa using this
  obtain ⟨g', hg'⟩ : ∃ g', gs'[k]? = some g' := ⟨_, List.getElem?_eq_getElem (by omega)⟩
  have hgn : g'.name = g.name ∧ g'.at_ = g.at_ := by
    have := congrArg (·[k]?) hnm
    simp only [List.getElem?_map, hg, hg', Option.map_some] at this
    simpa using this
  obtain ⟨nq, nk, nh, n3, qk, qh, b3k, b3h⟩ := l.ne hr
  have l1 := l.more [.cells (qd g v) 0 false]
  have G1 : GsP (K ++ [.cells (qd g v) 0 false]) S vs gs' := G.keep fun b o _ ho => y7 _ ho
  obtain ⟨v', Sk, hv', tk, hSk⟩ := G1.get k g' hg'
  have : v' = v := by rw [hv] at hv'; exact (Option.some.inj hv').symm
  subst this
  obtain ⟨b, op1, w1, l1', r1, rfl, hbSk, hbo⟩ := tk.root
  refine ⟨b, x, a, g'.e.set, rfl, l1.rd, xz l1.cq, xz l1.cq, xz hbo, ?_⟩
  by_cases x0 : x = 0
  · right
    obtain ⟨a0, h3, h4, h5, h6⟩ := f1 x0
    refine ⟨x0, ?_⟩
    have lk := (List.getElem?_eq_some_iff.1 l1.ck).1
    have hgk := List.mem_of_getElem? hg'
    have fin : ∀ kn2, zaa .str (str g.name) (.bool g'.e.set) (knE kn') = some (knE kn2) → kn2 = (if rc then kn ++ kq gs' else kn ++ kq (gs'.take (k + 1))) → ∃ K', updO (K ++ [.cells (qd g (pt b)) 0 false]) .str (.map (some km)) (str g.name) (.bool g'.e.set) = some (undef, K') ∧ LkD P h h0 i q km n kn rc gs vs S row N R0 rm (k + 1) K' := fun kn2 hs hk2 =>
      ⟨_, zmw _ l1.ck hs, here, kn2, x, a, gs', ⟨eb.upd l1.rd hkb _, by rw [List.getElem?_set_ne (Ne.symm qk)]; exact l1.cq, by rw [List.getElem?_set_self lk], by rw [List.getElem?_set_ne (by omega)]; exact l1.ch, by rw [List.getElem?_set_ne (by omega)]; exact l1.rw, l1.kp.set hNk _⟩, G1.keep fun z o hz ho => by rw [List.getElem?_set_ne (Ne.symm (hS z hz).2.2.1)]; exact ho, hnm, fun _ => ⟨a0, h3, h4, h5, hk2⟩, fun h => absurd x0 h⟩
    cases hrc : rc
    · rw [hrc, if_neg Bool.false_ne_true] at h6
      obtain ⟨g1, g2⟩ := zj5 h3 k g hg
      have hnew : jk kn' g.name = none := by
        rw [h6, gu, g1]
        have hnames : (gs'.take k).map (·.name) = (gs.take k).map (·.name) := by
          have := congrArg (fun l => (l.take k).map (·.1)) hnm
          simpa [List.map_take, List.map_map, Function.comp_def] using this
        have : jk (kq (gs'.take k)) g.name = none := zef _ (fun g => g.e.set) _ (by rw [hnames]; simpa using g2)
        rw [this]; rfl
      rw [hrc] at fin
      refine fin _ (zjc hnew _) ?_
      rw [if_neg Bool.false_ne_true, h6, zoz hg', kq, kq, List.map_append, hgn.1.symm]; simp
    · rw [hrc, if_pos rfl] at h6
      rw [hrc] at fin
      have hs := h5 hrc g' hgk
      refine fin kn' (zmg ?_) (by rw [if_pos rfl, h6])
      obtain ⟨g1, g2⟩ := zj5 h3 k g hg
      rw [h6, gu, g1, hs]
      -- the k-th name stands at the k-th place first
      have hsp : kq gs' = kq (gs'.take k) ++ (g'.name, g'.e.set) :: kq (gs'.drop (k + 1)) := by
        unfold kq
        rw [← List.map_cons (f := fun g : Gv => (g.name, g.e.set)), ← List.map_append, ← zb7 hg', List.take_append_drop]
      have hnames : (gs'.take k).map (·.name) = (gs.take k).map (·.name) := by
        have := congrArg (fun l => (l.take k).map (·.1)) hnm
        simpa [List.map_take, List.map_map, Function.comp_def] using this
      have : jk (kq (gs'.take k)) g.name = none := zef _ (fun g => g.e.set) _ (by rw [hnames]; simpa using g2)
      rw [hsp, gu, this, jk, hgn.1, hs]; simp
  · exact .inl ⟨x0, here, kn', x, a, gs', l1, G1, hnm, fun h => absurd h x0, f2⟩
end Go.Proofs.YtljdbheclfaloaaGreatDoor.AM
namespace Go.Proofs.YtljdbheclfaloaaGreatDoor.AM
open Go.RowKit
set_option linter.unusedSimpArgs false
set_option linter.unusedVariables false
set_option maxRecDepth 20000

theorem ku (g : Gv) (v : Value) : (qd g v).length = 3 := by simp [qd]
theorem zfo (g : Gv) (v : Value) : (qd g v)[0]? = some (str g.name) := rfl
theorem ze0 (g : Gv) (v : Value) : (qd g v)[2]? = some v := rfl
theorem ztc {P : RP} {h h0 K : Heap} {i q km n : Nat} {kn : Kn} {rc : Bool} {gs : List Gv} {vs : List Value} {S : Nat → Prop} {row : List Value} {N N' : Nat → Prop} {rm : Value} (hN : ∀ z, N z → N' z) (hc : GsP K S vs gs)
    (hrc : (rc = true ∧ LkB P h h0 i q km n kn gs row N (chkS kn n (.lets rc gs)) rm gs.length K) ∨ (rc = false ∧ LkA P h h0 i q km n kn gs row N (chkS kn n (.lets rc gs)) rm gs.length K)) : LkC P h h0 i q km n kn rc gs vs S row N' (chkS kn n (.lets rc gs)) rm 0 K := by
  have hR : zba kn n [] gs = .ok () → chkS kn n (.lets rc gs) = (match zf7 (knIn kn rc gs) (rcIn rc gs) rc (gs.drop 0) with | .bad c a => .bad c a | .ok m => .ok (.lets rc ([] ++ m))) := fun hf => by
    rw [chkS, hf, List.drop_zero]
    unfold knIn rcIn
    simp only
    cases zf7 (if rc = true then kn ++ gs.map (fun g => (g.name, false)) else kn) (if rc = true then gs.map (·.name) else []) rc gs <;> rfl
  rcases hrc with ⟨rfl, here, kn', x, a, l, f1, f2⟩ | ⟨rfl, here, x, a, l, f1, f2⟩
  · refine ⟨here, kn', x, a, gs, l.weak hN, hc, rfl, fun x0 => ?_, f2⟩
    obtain ⟨a0, h1, h2, h3⟩ := f1 x0
    have hk : kn' = knIn kn true gs := by rw [h2, List.take_length]; rfl
    exact ⟨a0, fun _ => h1, hk, h3, [], rfl, by simp, by rw [hk]; exact hR h3, fun _ g hg => by cases hg⟩
  · refine ⟨here, kn, x, a, gs, l.weak hN, hc, rfl, fun x0 => ?_, f2⟩
    obtain ⟨a0, h1, h3⟩ := f1 x0
    rw [List.drop_length] at h3
    exact ⟨a0, (fun h => by cases h), rfl, h3, [], rfl, by simp, hR h3, fun _ g hg => by cases hg⟩
theorem zzt {P : RP} {h h0 K : Heap} {i q km n : Nat} {kn : Kn} {rc : Bool} {gs : List Gv} {vs : List Value} {S : Nat → Prop} {row : List Value} {N : Nat → Prop} {R0 : CR Stm} {rm : Value} (e : LkC P h h0 i q km n kn rc gs vs S row N R0 rm gs.length K) : LkD P h h0 i q km n kn rc gs vs S row N R0 rm 0 K := by
  obtain ⟨here, kn', x, a, gs', l, G, hnm, f1, f2⟩ := e
  refine ⟨here, kn', x, a, gs', l, G, hnm, fun x0 => ?_, f2⟩
  obtain ⟨a0, h1, h2, h3, lst, hll, hgs, hR, hset⟩ := f1 x0
  rw [List.drop_length, List.append_nil] at hgs
  rw [List.drop_length, zf7] at hR
  subst hgs
  refine ⟨a0, h3, by rw [hR]; simp, hset, ?_⟩
  rw [h2]
  unfold knIn
  cases hrc : rc
  · simp [kq]
  · rw [if_pos rfl, if_pos rfl]
    have hn : gs.map (·.name) = gs'.map (·.name) := by
      have := congrArg (List.map (·.1)) hnm
      simpa [List.map_map, Function.comp_def] using this.symm
    have : gs.map (fun g => (g.name, false)) = kq gs' := by
      have e1 : gs.map (fun g => (g.name, false)) = (gs.map (·.name)).map fun w => (w, false) := by simp
      have e2 : kq gs' = (gs'.map (·.name)).map fun w => (w, false) := by
        unfold kq
        rw [List.map_map]
        apply List.map_congr_left
        intro g hg
        simp [hset hrc g hg]
      rw [e1, e2, hn]
    rw [this]
set_option maxHeartbeats 8000000 in
theorem zwv (P : RP) (kn : Kn) (rc : Bool) (gs : List Gv) : ydf P kn (.lets rc gs) := by
  intro hb h i0 i q km n rm T row eb eh hq hk st hT hqb hkb hn hgs
  obtain ⟨s, vs, S, rfl, hsl, hG, hS, hbs⟩ := st
  have hlen : gs.length ≤ 8192 := hgs rc gs rfl
  have lq := (List.getElem?_eq_some_iff.1 hq).1
  have lk := (List.getElem?_eq_some_iff.1 hk).1
  have lr := eh.lr
  have hhb : hb.length ≤ h.length := by omega
  have nq : q ≠ P.r := by rintro rfl; have := eh.hr.symm.trans hq; simp at this
  have nk : km ≠ P.r := by rintro rfl; have := eh.hr.symm.trans hk; simp at this
  have hvl := hG.len
  have lens : ∀ K, lenO K s = some (.int .i64 (gs.length : Int), K) := fun K => by rw [hsl.len, zek hvl]
  have hS' : ∀ z, S z → hb.length ≤ z ∧ z ≠ q ∧ z ≠ km ∧ z < h.length := fun z hz => hT z (hS z hz).1
  have : ∃ v' h', DF FF j7 [pt q, agg [str (kwOf rc), s, nilP, str []]] h = some (v', h') ∧ (v' = tup [] ∧ LookR P i q km n kn T [str (kwOf rc), s, nilP, str []] h' (chkS kn n (.lets rc gs)) ∧ KpO P (fun z => T z ∨ z = q ∨ z = km) h h') := by
    refine wz zdj ?_
    obtain ⟨row, hrow⟩ : ∃ row, row = [str (kwOf rc), s, nilP, str []] := ⟨_, rfl⟩
    have hr4 : row.length = 4 := by rw [hrow]; rfl
    obtain ⟨h0, hh0⟩ : ∃ h0, h0 = h ++ [AObj.cells [str (kwOf rc), s, nilP, str []] 0 false, .map []] := ⟨_, rfl⟩
    have e0 : Rd P h0 i 0 0 0 := by rw [hh0]; exact eh.more _
    have k0 : KpO P (fun _ => False) h h0 := by rw [hh0]; exact KpO.add _ _ _ _
    have g0 : h0[h.length]? = some (.cells row 0 false) := by rw [hh0, hrow]; simp
    have gm0 : h0[h.length + 1]? = some (.map []) := by rw [hh0]; simp
    have lh0 : h.length + 1 < h0.length := by rw [hh0]; simp
    obtain ⟨N, hN⟩ : ∃ N : Nat → Prop, N = fun z => z = q ∨ z = km ∨ z = h.length + 1 ∨ S z := ⟨_, rfl⟩
    have hNq : N q := by rw [hN]; exact .inl rfl
    have hNk : N km := by rw [hN]; exact .inr (.inl rfl)
    have hNh : N (h.length + 1) := by rw [hN]; exact .inr (.inr (.inl rfl))
    obtain ⟨M, hM⟩ : ∃ M : Nat → Prop, M = fun z => z = q ∨ z = km ∨ z = h.length + 1 := ⟨_, rfl⟩
    have hMq : M q := by rw [hM]; exact .inl rfl
    have hMk : M km := by rw [hM]; exact .inr (.inl rfl)
    have hMh : M (h.length + 1) := by rw [hM]; exact .inr (.inr rfl)
    have hMN : ∀ z, M z → N z := fun z hz => by rw [hM] at hz; rw [hN]; exact hz.imp id fun h => h.imp id .inl
    have GK : ∀ K, KpO P M h0 K → GsP K S vs gs := fun K kK => hG.keep fun z o hz ho => kK.keep z o (k0.keep z o ho id (by have := (hS' z hz).1; have := eb.lr; omega)) (by
      rw [hM]; have h1 := hS' z hz
      rintro (h2 | h2 | h2)
      · exact h1.2.1 h2
      · exact h1.2.2.1 h2
      · omega) (by have := (hS' z hz).1; have := eb.lr; omega)
    have hNS : ∀ z, S z → N z := fun z hz => by rw [hN]; exact .inr (.inr (.inr hz))
    obtain ⟨R0, hR0⟩ : ∃ R0, R0 = chkS kn n (.lets rc gs) := ⟨_, rfl⟩
    have hRF : ∀ c a, zba kn n [] gs = .bad c a → R0 = .bad c a := fun c a hf => by rw [hR0, chkS, hf]
    have LA0 : LkA P h h0 i q km n kn gs row M R0 rm 0 h0 := ⟨[], 0, 0, ⟨e0, k0.keep _ _ hq id nq, k0.keep _ _ hk id nk, gm0, g0, ⟨fun b o ho _ _ => ho, Nat.le_refl _⟩⟩, fun _ => ⟨rfl, rfl, rfl⟩, fun h => absurd rfl h⟩
    -- the names' row, as it lies
    have slK : ∀ K, KpO P N h0 K → Sl K s 3 (List.zipWith qd gs vs) := fun K kK => hsl.keep fun b hb' o ho => kK.keep b o (k0.keep b o ho id (by have := (hT b (hbs b hb')).1; have := eb.lr; omega)) (by
      rw [hN]
      have h1 := hT b (hbs b hb')
      rintro (h2 | h2 | h2 | h2)
      · exact h1.2.1 h2
      · exact h1.2.2.1 h2
      · omega
      · exact (hS b h2).2 hb') (by have := (hT b (hbs b hb')).1; have := eb.lr; omega)
    have hvb : ∀ k, k < gs.length → ∃ g b, gs[k]? = some g ∧ vs[k]? = some (pt b) ∧ (∀ K, KpO P N h0 K → ∃ b' o v, (∀ H', rowO H' 3 s (.int .i64 (k : Int)) = some (.pointer (some ⟨b', o, some v⟩), H')) ∧ Heap.read K ⟨b', o, some v⟩ 3 = some (qd g (pt b))) := fun k hk => by
      have hg : gs[k]? = some gs[k] := List.getElem?_eq_getElem hk
      obtain ⟨v, Sk, hv, tk, _⟩ := hG.get k gs[k] hg
      obtain ⟨b, _, _, _, _, rfl, _, _⟩ := tk.root
      refine ⟨gs[k], b, hg, hv, fun K kK => ?_⟩
      obtain ⟨b', o, v, a1, a2⟩ := (slK K kK).atH (k := k) (by rw [zek hvl]; exact hk)
      refine ⟨b', o, v, a1, ?_⟩
      rw [a2]
      have := zxc hvl hg hv
      rw [List.getElem?_eq_getElem (by rw [zek hvl]; exact hk)] at this
      exact this
    have rg0 : ∀ j, Heap.read1 h0 ⟨h.length, j, some 0⟩ = ([str (kwOf rc), s, nilP, str []] : List Value)[j]? := fun j => by rw [← hrow]; exact xz g0
    have hrk : ∀ K, K[h.length]? = some (.cells row 0 false) → ∀ j, Heap.read1 K ⟨h.length, j, some 0⟩ = ([str (kwOf rc), s, nilP, str []] : List Value)[j]? := fun K hK j => by rw [← hrow]; exact xz hK
    simp only [q9, ya, zb, yb, zn, zc, zo, zf, ze, zd, List.set_cons_succ, List.set_cons_zero, O_mv, yg, fc, zx, zk, List.cons_append, List.nil_append, List.length_cons, List.length_nil, Nat.reduceAdd, Nat.reduceSub, Nat.zero_add, zm, yc, zy, za, w8, xb, z7, zg, zh, List.append_assoc, List.length_append, List.getElem?_cons_zero, List.getElem?_cons_succ, eq_self, yf, zs, yk, yf, zs, zen, ← hh0, rg0, lens]
    refine bu 0 gs.length (LkA1 P h h0 i q km n kn gs s row M R0 rm) (LkA2 P h h0 i q km n kn gs row M R0 rm gs.length) ?_ ?_ _ ⟨h0, junk rfl, LA0⟩ ?_
    · rintro k st hk' ⟨K, ⟨j, rfl⟩, e⟩
      obtain ⟨g, b, hg, hv, hat⟩ := hvb k hk'
      obtain ⟨b', o, v, a1, a2⟩ := hat K (e.row.2.weak fun z _ h => hMN z h)
      obtain ⟨K', q', e'⟩ := yab (b := b) eb hqb hhb lq lk hr4 (by omega) hMq hMh hRF e hg
      have h1 : ((k : Int) < (gs.length : Int)) = True := by simp; omega
      simp only [ya, zt, yo, zb, zz, yb, zn, zc, zp, zo, zf, ze, zd, List.set_cons_succ, List.set_cons_zero, O_mv, yy, yg, ye, List.map_cons, List.map_nil, vg, xr, y4, vz, wi, List.length_cons, List.length_nil, Nat.reduceAdd, Nat.zero_add, zm, yc, zy, za, zi, yq, zl, yu, z6, xk, xd, yh, zu, zr, Option.map_some, eq_self, yp, Option.map_some, decide_true, h1, a1, a2, ku, q', xp (k := k) (by omega)]
      exact ⟨K', junk rfl, e'⟩
    · rintro st ⟨K, ⟨j, rfl⟩, e⟩
      have h1 : ((gs.length : Int) < (gs.length : Int)) = False := by simp
      simp only [ya, zt, vc, zb, zw, yb, zn, zc, zo, ze, zd, List.set_cons_succ, List.set_cons_zero, yy, yg, wi, zm, yc, za, yz, g7, xm, decide_false, h1, g7]
      exact ⟨K, junk rfl, e⟩
    rintro st ⟨K, ⟨j, rfl⟩, e⟩
    obtain ⟨K1, w1, e1⟩ := e.rm eb hqb lq hr4 hMq (.map none)
    have toLast : ∀ K rm', LkD P h h0 i q km n kn rc gs vs S row N R0 rm' gs.length K → ∀ w, LookR P i q km n kn T [str (kwOf rc), s, nilP, str []] (AM.finish h w K) (chkS kn n (.lets rc gs)) ∧ KpO P (fun z => T z ∨ z = q ∨ z = km) h (AM.finish h w K) := by
      intro K rm' e w
      obtain ⟨here, kn', x, a, gs', l, G, hnm, f1, f2⟩ := e
      have kk : KpO P (fun z => T z ∨ z = q ∨ z = km) h K := (k0.trans l.kp).weak fun z hz hz' => hz'.elim False.elim fun h2 => by
        rw [hN] at h2
        rcases h2 with h2 | h2 | h2 | h2
        · exact .inr (.inl h2)
        · exact .inr (.inr h2)
        · omega
        · exact .inl (hS z h2).1
      refine LookR.fin eh lq lk kk (fun z hz => (hT z hz).2.2.2) ?_ w
      rw [← hR0]
      by_cases x0 : x = 0
      · obtain ⟨a0, h3, h4, h5, h6⟩ := f1 x0
        subst x0 a0
        have hgl : gs'.length = gs.length := by have := congrArg List.length hnm; simpa using this
        have hk6 : kn' = kn ++ kq gs' := by rw [h6, ← hgl, List.take_length]; simp
        rw [h4]
        refine ⟨⟨s, vs, S, rfl, ?_, G, hS, hbs⟩, l.rd, ⟨rm', ?_⟩, ?_⟩
        · rw [zuf vs hnm]; exact slK K l.kp
        · have : (Stm.lets rc gs').given.length = gs.length := by simp [Stm.given, kq, hgl]
          rw [this]; exact l.cq
        · have := l.ck; rw [hk6] at this; exact this
      · rw [f2 x0]; exact ⟨x0, l.rd⟩
    have rm_ok : ∀ K rm', LkC P h h0 i q km n kn rc gs vs S row N R0 rm' 0 K → True := fun _ _ _ => trivial
    cases hrc : rc
    · subst hrc
      have hrg := hrk K1 e1.row.1
      simp only [ya, zt, yo, zb, zw, yb, zn, zc, zp, zo, zf, ze, zd, List.set_cons_succ, List.set_cons_zero, O_mv, yy, yg, fc, zx, zk, Nat.zero_add, zm, yc, zy, za, yj, xb, z7, zl, xc, zap, zq, zj, Nat.add_zero, List.getElem?_cons_zero, List.getElem?_cons_succ, va, (show Heap.write1 K ⟨q, 2, some 0⟩ (.map none) = some K1 from w1), hrg, zp2, lens]
      have e3 : LkC P h h0 i q km n kn false gs vs S row N R0 (.map none) 0 K1 := by
        rw [hR0] at e1 ⊢
        exact ztc hMN (GK K1 e1.row.2) (.inr ⟨rfl, e1⟩)
      have hrm3 : (.map none : Value) = if false then .map (some (h.length + 1)) else .map none := rfl
      refine bu 4 gs.length (LkC1 P h h0 i q km n kn false gs vs S s row N R0 (.map none)) (LkC2 P h h0 i q km n kn false gs vs S row N R0 (.map none) gs.length) ?_ ?_ _ ⟨K1, junk rfl, e3⟩ ?_
      · rintro k st hk' ⟨K, ⟨j, rfl⟩, e⟩
        obtain ⟨g, b, hg, hv, hat⟩ := hvb k hk'
        obtain ⟨b', o, v, a1, a2⟩ := hat K e.row.2
        obtain ⟨b2, K2', t, pl, hpb, c2, row2, rw2, rq2, rt5, rt2, fin⟩ := zuk eb hhb hqb hkb lq lk hr4 hNS hS' hrm3 lh0 e hg hv
        have hpb : b = b2 := by simpa using hpb
        subst hpb
        have h1 : ((k : Int) < (gs.length : Int)) = True := by simp; omega
        rcases fin with ⟨ht, e'⟩ | ⟨ht, K3', hf, e'⟩
        · simp only [ya, zt, yo, zb, zz, zw, yb, zn, yi, zc, zp, vq, zo, zf, ze, zd, List.set_cons_succ, List.set_cons_zero, O_mv, y3, xj, yy, yg, ye, List.map_cons, List.map_nil, vg, zx, zk, xr, y4, vz, wi, List.length_cons, List.length_nil, Nat.reduceAdd, Nat.zero_add, zm, yc, zy, za, zi, yq, xb, z7, zl, yu, z6, yr, ym, yh, zu, zr, Nat.add_zero, Option.map_some, List.getElem?_cons_zero, eq_self, yp, va, Option.map_some, decide_true, h1, a1, a2, ku, ze0, c2, hrk _ rw2, zp2, xp (k := k) (by omega)]
          exact ⟨_, junk rfl, e'⟩
        · rw [Bool.false_and] at ht; cases ht
      · rintro st ⟨K, ⟨j, rfl⟩, e⟩
        have h1 : ((gs.length : Int) < (gs.length : Int)) = False := by simp
        simp only [ya, zt, vc, zb, zw, yb, zn, zc, zo, ze, zd, List.set_cons_succ, List.set_cons_zero, yy, yg, wi, zm, yc, za, yz, g7, xm, decide_false, h1, g7]
        exact ⟨K, junk rfl, e⟩
      rintro st ⟨K4, ⟨j, rfl⟩, eC4⟩
      have hrg4 := hrk K4 eC4.row.1
      have eD := zzt eC4
      simp only [ya, zb, yb, zn, zc, zo, zf, ze, zd, List.set_cons_succ, List.set_cons_zero, O_mv, yg, fc, zx, zk, Nat.zero_add, zm, yc, zy, za, yj, xb, z7, List.getElem?_cons_zero, List.getElem?_cons_succ, hrg4, lens]
      refine bu 6 gs.length (LkD1 P h h0 i q km n kn false gs vs S s row N R0 (.map none)) (LkD2 P h h0 i q km n kn false gs vs S row N R0 (.map none) gs.length) ?_ ?_ _ ⟨K4, junk rfl, eD⟩ ?_
      · rintro k st hk' ⟨K, ⟨j, rfl⟩, e⟩
        obtain ⟨g, b, hg, hv, hat⟩ := hvb k hk'
        obtain ⟨b', o, v, a1, a2⟩ := hat K e.row.2
        obtain ⟨b2, x, a, t, hpb, rd', rq0, rq1, rt5, fin⟩ := ztb eb hkb lq lk hr4 hNk hS' e hg hv
        have hpb : b = b2 := by simpa using hpb
        subst hpb
        have h1 : ((k : Int) < (gs.length : Int)) = True := by simp; omega
        rcases fin with ⟨hx, e'⟩ | ⟨rfl, K', hu, e'⟩
        · simp only [ya, zt, yo, zb, zz, zw, yb, zn, zc, zp, zo, zf, ze, zd, List.set_cons_succ, List.set_cons_zero, O_mv, yy, yg, ye, List.map_cons, List.map_nil, vg, zx, zk, xr, y4, vz, wi, List.length_cons, List.length_nil, Nat.reduceAdd, Nat.zero_add, zm, yc, zy, za, zi, yq, xb, z7, zl, yu, z6, zq, zj, yh, zu, zr, Nat.add_zero, Option.map_some, eq_self, yp, Option.map_some, decide_true, h1, a1, a2, ku, rq0, fd rd' hx, xp (k := k) (by omega)]
          exact ⟨_, junk rfl, e'⟩
        · simp only [ya, zt, yo, zb, zz, yb, zn, zc, zp, zo, zf, ze, zd, List.set_cons_succ, List.set_cons_zero, O_mv, yy, yg, ye, List.map_cons, List.map_nil, vg, zx, zk, xr, y4, vz, wi, List.length_cons, List.length_nil, Nat.reduceAdd, Nat.zero_add, zm, yc, zy, za, zi, yq, xb, z7, zl, yu, z6, zq, zj, yr, ym, yh, zu, zr, Nat.add_zero, Option.map_some, eq_self, yp, Option.map_some, decide_true, h1, a1, a2, ku, rq0, rq1, ok_0 rd', zfo, ze0, rt5, bh, hu, xp (k := k) (by omega)]
          exact ⟨_, junk rfl, e'⟩
      · rintro st ⟨K, ⟨j, rfl⟩, e⟩
        have h1 : ((gs.length : Int) < (gs.length : Int)) = False := by simp
        simp only [ya, zt, vc, zb, zw, yb, zn, zc, zo, ze, zd, List.set_cons_succ, List.set_cons_zero, yy, yg, wi, zm, yc, za, yz, g7, xm, decide_false, h1, g7]
        exact ⟨K, junk rfl, e⟩
      rintro st ⟨K5, ⟨j, rfl⟩, eD5⟩
      have hrg5 := hrk K5 eD5.row.1
      simp only [ya, zt, yo, zb, zw, yb, zn, zc, zo, zf, ze, zd, List.set_cons_succ, List.set_cons_zero, yg, zx, zk, Nat.zero_add, Bool.not_true, zm, yc, za, yj, xb, z7, List.getElem?_cons_zero, List.getElem?_cons_succ, Bool.bne_true, jp, eq_self, hrg5, py, xq, wq]
      exact ⟨trivial, toLast K5 _ eD5 _⟩
    · subst hrc
      obtain ⟨K2, w2, e2⟩ := e1.rm eb hqb lq hr4 hMq (.map (some (h.length + 1)))
      have hrg := hrk K1 e1.row.1
      have hrg2 := hrk K2 e2.row.1
      simp only [ya, zt, zb, zz, yb, zn, zc, zp, zo, zf, ze, zd, List.set_cons_succ, List.set_cons_zero, O_mv, yy, yg, fc, zx, zk, Nat.zero_add, zm, yc, zy, za, yj, xb, z7, zl, xc, zap, zq, zj, Nat.add_zero, List.getElem?_cons_zero, List.getElem?_cons_succ, va, (show Heap.write1 K ⟨q, 2, some 0⟩ (.map none) = some K1 from w1), hrg, hrg2, zp2, w2, lens]
      have eB : LkB P h h0 i q km n kn gs row M R0 (.map (some (h.length + 1))) 0 K2 := by
        obtain ⟨here, x, a, l, f1, f2⟩ := e2
        exact ⟨here, kn, x, a, l, fun x0 => by
          obtain ⟨a0, h1, h2⟩ := f1 x0
          rw [List.take_length] at h1
          rw [List.drop_length] at h2
          exact ⟨a0, h1, by simp, h2⟩, f2⟩
      refine bu 2 gs.length (LkB1 P h h0 i q km n kn gs s row M R0 (.map (some (h.length + 1)))) (LkB2 P h h0 i q km n kn gs row M R0 (.map (some (h.length + 1))) gs.length) ?_ ?_ _ ⟨K2, junk rfl, eB⟩ ?_
      · rintro k st hk' ⟨K, ⟨j, rfl⟩, e⟩
        obtain ⟨g, b, hg, hv, hat⟩ := hvb k hk'
        obtain ⟨b', o, v, a1, a2⟩ := hat K (e.row.2.weak fun z _ h => hMN z h)
        obtain ⟨x, a, rd', rq0, rq1, fin⟩ := ybn (b := b) eb hkb lq lk hr4 hMk e hg
        have h1 : ((k : Int) < (gs.length : Int)) = True := by simp; omega
        rcases fin with ⟨hx, e'⟩ | ⟨rfl, K', hu, e'⟩
        · simp only [ya, zt, yo, zb, zz, zw, yb, zn, zc, zp, zo, zf, ze, zd, List.set_cons_succ, List.set_cons_zero, O_mv, yy, yg, ye, List.map_cons, List.map_nil, vg, zx, zk, xr, y4, vz, wi, List.length_cons, List.length_nil, Nat.reduceAdd, Nat.zero_add, zm, yc, zy, za, zi, yq, xb, z7, zl, yu, z6, zq, zj, yh, zu, zr, Nat.add_zero, Option.map_some, eq_self, yp, Option.map_some, decide_true, h1, a1, a2, ku, rq0, fd rd' hx, xp (k := k) (by omega)]
          exact ⟨_, junk rfl, e'⟩
        · simp only [ya, zt, yo, zb, zz, yb, zn, zc, zp, zo, zf, ze, zd, List.set_cons_succ, List.set_cons_zero, O_mv, yy, yg, ye, List.map_cons, List.map_nil, vg, zx, zk, xr, y4, vz, wi, List.length_cons, List.length_nil, Nat.reduceAdd, Nat.zero_add, zm, yc, zy, za, zi, yq, xb, z7, zl, yu, z6, zq, zj, yr, ym, yh, zu, zr, Nat.add_zero, Option.map_some, eq_self, yp, Option.map_some, decide_true, h1, a1, a2, ku, rq0, rq1, ok_0 rd', zfo, bh, hu, xp (k := k) (by omega)]
          exact ⟨_, junk rfl, e'⟩
      · rintro st ⟨K, ⟨j, rfl⟩, e⟩
        have h1 : ((gs.length : Int) < (gs.length : Int)) = False := by simp
        simp only [ya, zt, vc, zb, zw, yb, zn, zc, zo, ze, zd, List.set_cons_succ, List.set_cons_zero, yy, yg, wi, zm, yc, za, yz, g7, xm, decide_false, h1, g7]
        exact ⟨K, junk rfl, e⟩
      rintro st ⟨K3, ⟨j, rfl⟩, eB3⟩
      have hrg3 := hrk K3 eB3.row.1
      simp only [ya, zb, yb, zn, zc, zo, zf, ze, zd, List.set_cons_succ, List.set_cons_zero, O_mv, yg, fc, zx, zk, Nat.zero_add, zm, yc, zy, za, yj, xb, z7, List.getElem?_cons_zero, List.getElem?_cons_succ, hrg3, lens]
      have e3 : LkC P h h0 i q km n kn true gs vs S row N R0 (.map (some (h.length + 1))) 0 K3 := by
        rw [hR0] at eB3 ⊢
        exact ztc hMN (GK K3 eB3.row.2) (.inl ⟨rfl, eB3⟩)
      have hrm3 : (.map (some (h.length + 1)) : Value) = if true then .map (some (h.length + 1)) else .map none := rfl
      refine bu 4 gs.length (LkC1 P h h0 i q km n kn true gs vs S s row N R0 (.map (some (h.length + 1)))) (LkC2 P h h0 i q km n kn true gs vs S row N R0 (.map (some (h.length + 1))) gs.length) ?_ ?_ _ ⟨K3, junk rfl, e3⟩ ?_
      · rintro k st hk' ⟨K, ⟨j, rfl⟩, e⟩
        obtain ⟨g, b, hg, hv, hat⟩ := hvb k hk'
        obtain ⟨b', o, v, a1, a2⟩ := hat K e.row.2
        obtain ⟨b2, K2', t, pl, hpb, c2, row2, rw2, rq2, rt5, rt2, fin⟩ := zuk eb hhb hqb hkb lq lk hr4 hNS hS' hrm3 lh0 e hg hv
        have hpb : b = b2 := by simpa using hpb
        subst hpb
        have h1 : ((k : Int) < (gs.length : Int)) = True := by simp; omega
        have rr2 : ∀ j, Heap.read1 K2' ⟨K.length, j, some 0⟩ = (qd g (pt b))[j]? := fun j => xz row2
        rw [Bool.true_and] at fin
        rcases fin with ⟨ht, e'⟩ | ⟨ht, K3', hf, e'⟩
        · rw [ht] at rt5
          simp only [ya, zt, yo, zb, zz, zw, yb, zn, yi, zc, zp, xy, zo, zf, ze, zd, List.set_cons_succ, List.set_cons_zero, O_mv, y3, xj, yy, yg, ye, List.map_cons, List.map_nil, vg, zx, zk, xr, y4, vz, wi, List.length_cons, List.length_nil, Nat.reduceAdd, Nat.zero_add, zm, yc, zy, za, zi, yq, xb, z7, zl, yu, z6, zq, zj, yr, ym, yh, zu, zr, Nat.add_zero, Option.map_some, List.getElem?_cons_zero, eq_self, yp, va, Option.map_some, decide_true, h1, a1, a2, ku, ze0, c2, hrk _ rw2, zp2, rr2, rt5, xp (k := k) (by omega)]
          exact ⟨_, junk rfl, e'⟩
        · rw [ht] at rt5
          simp only [ya, zt, yo, zb, zz, yb, zn, yi, zc, zp, xy, zo, zf, ze, zd, List.set_cons_succ, List.set_cons_zero, O_mv, y3, xj, yy, yg, ye, List.map_cons, List.map_nil, vg, zx, zk, xr, y4, vz, wi, List.length_cons, List.length_nil, Nat.reduceAdd, Nat.zero_add, zm, yc, zy, za, zi, yq, xb, z7, zl, yu, z6, zq, zj, yr, ym, yh, zu, zr, Nat.add_zero, Option.map_some, List.getElem?_cons_zero, eq_self, yp, va, Option.map_some, decide_true, h1, a1, a2, ku, ze0, c2, hrk _ rw2, zp2, rr2, rt5, rq2, rt2, hf, xp (k := k) (by omega)]
          exact ⟨_, junk rfl, e'⟩
      · rintro st ⟨K, ⟨j, rfl⟩, e⟩
        have h1 : ((gs.length : Int) < (gs.length : Int)) = False := by simp
        simp only [ya, zt, vc, zb, zw, yb, zn, zc, zo, ze, zd, List.set_cons_succ, List.set_cons_zero, yy, yg, wi, zm, yc, za, yz, g7, xm, decide_false, h1, g7]
        exact ⟨K, junk rfl, e⟩
      rintro st ⟨K4, ⟨j, rfl⟩, eC4⟩
      have hrg4 := hrk K4 eC4.row.1
      have eD := zzt eC4
      simp only [ya, zb, yb, zn, zc, zo, zf, ze, zd, List.set_cons_succ, List.set_cons_zero, O_mv, yg, fc, zx, zk, Nat.zero_add, zm, yc, zy, za, yj, xb, z7, List.getElem?_cons_zero, List.getElem?_cons_succ, hrg4, lens]
      refine bu 6 gs.length (LkD1 P h h0 i q km n kn true gs vs S s row N R0 (.map (some (h.length + 1)))) (LkD2 P h h0 i q km n kn true gs vs S row N R0 (.map (some (h.length + 1))) gs.length) ?_ ?_ _ ⟨K4, junk rfl, eD⟩ ?_
      · rintro k st hk' ⟨K, ⟨j, rfl⟩, e⟩
        obtain ⟨g, b, hg, hv, hat⟩ := hvb k hk'
        obtain ⟨b', o, v, a1, a2⟩ := hat K e.row.2
        obtain ⟨b2, x, a, t, hpb, rd', rq0, rq1, rt5, fin⟩ := ztb eb hkb lq lk hr4 hNk hS' e hg hv
        have hpb : b = b2 := by simpa using hpb
        subst hpb
        have h1 : ((k : Int) < (gs.length : Int)) = True := by simp; omega
        rcases fin with ⟨hx, e'⟩ | ⟨rfl, K', hu, e'⟩
        · simp only [ya, zt, yo, zb, zz, zw, yb, zn, zc, zp, zo, zf, ze, zd, List.set_cons_succ, List.set_cons_zero, O_mv, yy, yg, ye, List.map_cons, List.map_nil, vg, zx, zk, xr, y4, vz, wi, List.length_cons, List.length_nil, Nat.reduceAdd, Nat.zero_add, zm, yc, zy, za, zi, yq, xb, z7, zl, yu, z6, zq, zj, yh, zu, zr, Nat.add_zero, Option.map_some, eq_self, yp, Option.map_some, decide_true, h1, a1, a2, ku, rq0, fd rd' hx, xp (k := k) (by omega)]
          exact ⟨_, junk rfl, e'⟩
        · simp only [ya, zt, yo, zb, zz, yb, zn, zc, zp, zo, zf, ze, zd, List.set_cons_succ, List.set_cons_zero, O_mv, yy, yg, ye, List.map_cons, List.map_nil, vg, zx, zk, xr, y4, vz, wi, List.length_cons, List.length_nil, Nat.reduceAdd, Nat.zero_add, zm, yc, zy, za, zi, yq, xb, z7, zl, yu, z6, zq, zj, yr, ym, yh, zu, zr, Nat.add_zero, Option.map_some, eq_self, yp, Option.map_some, decide_true, h1, a1, a2, ku, rq0, rq1, ok_0 rd', zfo, ze0, rt5, bh, hu, xp (k := k) (by omega)]
          exact ⟨_, junk rfl, e'⟩
      · rintro st ⟨K, ⟨j, rfl⟩, e⟩
        have h1 : ((gs.length : Int) < (gs.length : Int)) = False := by simp
        simp only [ya, zt, vc, zb, zw, yb, zn, zc, zo, ze, zd, List.set_cons_succ, List.set_cons_zero, yy, yg, wi, zm, yc, za, yz, g7, xm, decide_false, h1, g7]
        exact ⟨K, junk rfl, e⟩
      rintro st ⟨K5, ⟨j, rfl⟩, eD5⟩
      have hrg5 := hrk K5 eD5.row.1
      simp only [ya, zt, yo, zb, zw, yb, zn, zc, zo, zf, ze, zd, List.set_cons_succ, List.set_cons_zero, yg, zx, zk, Nat.zero_add, Bool.not_true, zm, yc, za, yj, xb, z7, List.getElem?_cons_zero, List.getElem?_cons_succ, Bool.bne_true, jp, eq_self, hrg5, py, xq, wq]
      exact ⟨trivial, toLast K5 _ eD5 _⟩
  obtain ⟨v', h', r, rfl, g⟩ := this
  exact ⟨h', r, g⟩
end Go.Proofs.YtljdbheclfaloaaGreatDoor.AM
namespace Go.Proofs.YtljdbheclfaloaaGreatDoor.AM
open Go.RowKit
set_option linter.unusedSimpArgs false
set_option linter.unusedVariables false
set_option maxRecDepth 20000

theorem zeq (d : Bys × Bool) : (w5 d).length = 2 := by simp [w5]
theorem zqu (d : Bys × Bool) : (w5 d)[0]? = some (str d.1) := rfl
theorem zz1 (d : Bys × Bool) : (w5 d)[1]? = some (.bool d.2) := rfl
theorem zzy (z0 z1 : Value) (d : Bys × Bool) : wo [z0, z1] [(0, 2, agg (w5 d))] = some (w5 d) := by
  rw [wo, yf]; simp [splice, wo, w5]
theorem StsP.focus {h : Heap} : ∀ {T : Nat → Prop} {rows : List (List Value)} {l : List Stm} {k : Nat} {s : Stm}, StsP h T rows l → l[k]? = some s → ∃ row Tk, rows[k]? = some row ∧ StP h Tk row s ∧ (∀ z, Tk z → T z) ∧
    ∀ (h' : Heap) (s' : Stm), StP h' Tk row s' → (∀ b o, T b → ¬ Tk b → h[b]? = some o → h'[b]? = some o) → StsP h' T rows (l.set k s')
  | T, [], [], k, s, e, hk => by simp at hk
  | T, r :: rows, s' :: l, 0, s, e, hk => by
    obtain ⟨S1, S2, t, q, h1, h2⟩ := e
    cases hk
    exact ⟨r, S1, rfl, t, fun z hz => (h1 z hz).1, fun h' s2 t' keep => ⟨S1, S2, t', q.keep fun b o hb ho => keep b o (h2 b hb) (fun h3 => (h1 b h3).2 hb) ho, h1, h2⟩⟩
  | T, r :: rows, s' :: l, k + 1, s, e, hk => by
    obtain ⟨S1, S2, t, q, h1, h2⟩ := e
    obtain ⟨w, Tk, a, b, c, d⟩ := q.focus (k := k) (s := s) (by simpa using hk)
    exact ⟨w, Tk, by simpa using a, b, fun z hz => h2 z (c z hz), fun h' s2 t' keep => ⟨S1, S2, t.keep fun z o hz ho => keep z o (h1 z hz).1 (fun h3 => (h1 z hz).2 (c z h3)) ho, d h' s2 t' fun z o hz hn ho => keep z o (h2 z hz) hn ho, h1, h2⟩⟩
  | T, [], _ :: _, k, s, e, hk => e.elim
  | T, _ :: _, [], k, s, e, hk => e.elim
structure NmS (P : RP) (mb q km : Nat) (H5 K : Heap) (names : Kn) (k : Nat) (ss : Value) : Prop where
  ex : ∃ kn ks x y z, ks = .slice x y z ∧ K[km]? = some (.map (knE kn)) ∧ K[mb]? = some (.cells [ks, ss] 0 false) ∧ Own [] K ks 2 (kn.map w5) ∧ (∀ b, blk ks = some b → H5.length ≤ b) ∧ pi [] names = pi kn (names.drop k) ∧ kn.length ≤ k
  kp : (∀ (b : Nat) (o : AObj), H5[b]? = some o → b ≠ mb → b ≠ km → K[b]? = some o) ∧ H5.length ≤ K.length
  cq : K[q]? = H5[q]?
def NmI (P : RP) (mb q km : Nat) (H5 : Heap) (names : Kn) (ns ss : Value) (k : Nat) (st : St) : Prop := ∃ K, (∃ j : Nat → Value, st = ⟨[j 0, j 1, j 2, j 3, j 4, j 5, j 6, j 7, j 8, j 9, pt P.r, pt mb, pt q, j 13, j 14, j 15, j 16, j 17, j 18, j 19, j 20, j 21, j 22, j 23, j 24, j 25, j 26, j 27, j 28, j 29, j 30, j 31, j 32, j 33, j 34, j 35, j 36, j 37, j 38, j 39, j 40, j 41, j 42, j 43, j 44, j 45, j 46, j 47, j 48, j 49, j 50, j 51, j 52, j 53, j 54, j 55, j 56, j 57, j 58, j 59, j 60, j 61, j 62, j 63, j 64, j 65, ns, .int .i64 (names.length : Int), .int .i64 (k : Int), j 69, j 70, j 71, j 72, j 73, j 74, j 75, j 76, j 77, j 78, j 79, j 80, j 81, j 82, j 83, j 84, j 85, j 86, j 87, j 88, j 89, j 90, j 91, j 92, j 93, j 94, j 95, j 96, j 97, j 98, j 99, j 100, j 101, j 102, j 103, j 104, j 105, j 106, j 107, j 108, j 109, j 110, j 111, j 112, j 113, j 114, j 115, j 116, j 117, j 118, j 119, j 120, j 121, j 122, j 123, j 124, j 125, j 126, j 127, j 128, j 129, j 130], K⟩) ∧ NmS P mb q km H5 K names k ss
def NmO (P : RP) (mb q km : Nat) (H5 : Heap) (names : Kn) (ss : Value) (k : Nat) (st : St) : Prop := ∃ K, (∃ j : Nat → Value, st = ⟨[j 0, j 1, j 2, j 3, j 4, j 5, j 6, j 7, j 8, j 9, pt P.r, pt mb, pt q, j 13, j 14, j 15, j 16, j 17, j 18, j 19, j 20, j 21, j 22, j 23, j 24, j 25, j 26, j 27, j 28, j 29, j 30, j 31, j 32, j 33, j 34, j 35, j 36, j 37, j 38, j 39, j 40, j 41, j 42, j 43, j 44, j 45, j 46, j 47, j 48, j 49, j 50, j 51, j 52, j 53, j 54, j 55, j 56, j 57, j 58, j 59, j 60, j 61, j 62, j 63, j 64, j 65, j 66, j 67, j 68, j 69, j 70, j 71, j 72, j 73, j 74, j 75, j 76, j 77, j 78, j 79, j 80, j 81, j 82, j 83, j 84, j 85, j 86, j 87, j 88, j 89, j 90, j 91, j 92, j 93, j 94, j 95, j 96, j 97, j 98, j 99, j 100, j 101, j 102, j 103, j 104, j 105, j 106, j 107, j 108, j 109, j 110, j 111, j 112, j 113, j 114, j 115, j 116, j 117, j 118, j 119, j 120, j 121, j 122, j 123, j 124, j 125, j 126, j 127, j 128, j 129, j 130], K⟩) ∧ NmS P mb q km H5 K names k ss
theorem ybf {P : RP} {mb q km : Nat} {H5 K : Heap} {names : Kn} {k : Nat} {ss : Value} {d : Bys × Bool} {nn : Value} (hq : H5[q]? = some (.cells [pt P.r, .map (some km), .map none, nn] 0 false)) (hqm : q ≠ mb) (hqk : q ≠ km) (hmk : mb ≠ km) (hkn : k ≤ 10000) (hlm : mb < H5.length) (hlk : km < H5.length) (e : NmS P mb q km H5 K names k ss) (hd : names[k]? = some d) :
    Heap.read1 (K ++ [.cells (w5 d) 0 false]) ⟨q, 1, some 0⟩ = some (.map (some km)) ∧
    ((∃ b, zon (K ++ [.cells (w5 d) 0 false]) .str (.bool false) true (.map (some km)) (str d.1) = some (tup [.bool b, .bool true], K ++ [.cells (w5 d) 0 false]) ∧ NmS P mb q km H5 (K ++ [.cells (w5 d) 0 false]) names (k + 1) ss) ∨
     (∃ K1 x y z x' y' z' K2 K3, zon (K ++ [.cells (w5 d) 0 false]) .str (.bool false) true (.map (some km)) (str d.1) = some (tup [.bool false, .bool false], K ++ [.cells (w5 d) 0 false]) ∧ updO (K ++ [.cells (w5 d) 0 false]) .str (.map (some km)) (str d.1) (.bool d.2) = some (undef, K1) ∧
      Heap.read1 K1 ⟨mb, 0, some 0⟩ = some (.slice x y z) ∧ Heap.read K1 ⟨K.length, 0, some 0⟩ 2 = some (w5 d) ∧ k9 (K1 ++ [.cells (w5 d) 0 false]) 2 24 (.slice x y z) (zd4 (K1 ++ [.cells (w5 d) 0 false]) 2 (.slice (some ⟨K1.length, 0, some 0⟩) 1 2)) = some (.slice x' y' z', K2) ∧ Heap.write1 K2 ⟨mb, 0, some 0⟩ (.slice x' y' z') = some K3 ∧ NmS P mb q km H5 K3 names (k + 1) ss)) := by
  obtain ⟨⟨kn, ks, x, y, z, rfl, hk, hm, own, hb, hkl, hle⟩, ⟨kp, kl⟩, cq⟩ := e
  rw [hq] at cq
  have lm := (List.getElem?_eq_some_iff.1 hm).1
  have lk := (List.getElem?_eq_some_iff.1 hk).1
  have lq := (List.getElem?_eq_some_iff.1 cq).1
  refine ⟨xz (y7 _ cq), ?_⟩
  have lo := zf5 _ (y7 [.cells (w5 d) 0 false] hk) (.bool false) true (w := d.1) (zsj kn d.1)
  rw [zb7 hd, pi] at hkl
  cases hl : jk kn d.1 with
  | some b =>
    rw [hl] at lo hkl
    simp only [Option.isSome_some, if_true] at hkl
    exact .inl ⟨b, lo, ⟨⟨kn, _, x, y, z, rfl, y7 _ hk, y7 _ hm, own.more _, hb, hkl, by omega⟩, ⟨fun b o ho n1 n2 => y7 _ (kp b o ho n1 n2), by simp; omega⟩, by rw [y7 _ cq, hq]⟩⟩
  | none =>
    rw [hl] at lo hkl
    simp only [Option.isSome_none, Bool.false_eq_true, if_false] at hkl
    right
    have hu := zmw _ (y7 [.cells (w5 d) 0 false] hk) (zjc hl d.2)
    obtain ⟨K1, hK1⟩ : ∃ K1, K1 = (K ++ [AObj.cells (w5 d) 0 false]).set km (.map (knE (kn ++ [(d.1, d.2)]))) := ⟨_, rfl⟩
    rw [← hK1] at hu
    have l1 : K1.length = K.length + 1 := by rw [hK1]; simp
    have g1 : ∀ b o, b ≠ km → K[b]? = some o → K1[b]? = some o := fun b o n ho => by rw [hK1, List.getElem?_set_ne (Ne.symm n)]; exact y7 _ ho
    have gr : K1[K.length]? = some (.cells (w5 d) 0 false) := by rw [hK1, List.getElem?_set_ne (by omega)]; simp
    have own1 : Own [] K1 (.slice x y z) 2 (kn.map w5) := own.keep fun b hb' o ho => g1 b o (by have := hb b hb'; omega) ho
    obtain ⟨s', K2, p1, p2, p3, p4, p5, p6⟩ := own1.push (⟨_, rfl⟩ : Pre [] K1) (row := w5 d) (bytes := 24) (zeq d) (by rw [List.length_map]; unfold fp; omega)
    obtain ⟨x', y', z', rfl⟩ := p2.slice
    have nb : ∀ b, b < H5.length → blk (.slice x y z) ≠ some b := fun b hlt h => by have := hb b h; omega
    have hm2 : K2[mb]? = some (.cells [.slice x y z, ss] 0 false) := p5 _ _ (g1 _ _ hmk hm) (nb _ hlm)
    have lm2 := (List.getElem?_eq_some_iff.1 hm2).1
    have blk2 : ∀ b, blk (.slice x' y' z') = some b → H5.length ≤ b := fun b hb' => by
      rcases p6 with h | ⟨j, h, h'⟩
      · rw [h] at hb'; exact hb b hb'
      · rw [h] at hb'; cases hb'; omega
    have k3 : ∀ b o, b < H5.length → b ≠ mb → b ≠ km → K[b]? = some o → (K2.set mb (.cells [.slice x' y' z', ss] 0 false))[b]? = some o := fun b o hlt n1 n2 ho => by
      rw [List.getElem?_set_ne (Ne.symm n1)]; exact p5 b o (g1 b o n2 ho) (nb b hlt)
    refine ⟨K1, x, y, z, x', y', z', K2, K2.set mb (.cells [.slice x' y' z', ss] 0 false), lo, hu, xz (g1 _ _ hmk hm), zjy gr (zeq d), p1, by rw [po hm2 (by simp)]; rfl, ⟨⟨kn ++ [d], _, x', y', z', rfl, ?_, by rw [List.getElem?_set_self lm2], ?_, blk2, hkl, by simp; omega⟩, ⟨fun b o ho n1 n2 => ?_, by rw [List.length_set]; omega⟩, ?_⟩⟩
    · rw [List.getElem?_set_ne hmk]
      exact p5 _ _ (by rw [hK1, List.getElem?_set_self (by simp; omega)]) (nb _ hlk)
    · rw [List.map_append]
      exact p2.keep fun b hb' o ho => by rw [List.getElem?_set_ne (by have := blk2 b hb'; omega)]; exact ho
    · have hlt := (List.getElem?_eq_some_iff.1 ho).1
      exact k3 b o hlt n1 n2 (kp b o ho n1 n2)
    · rw [hq]; exact k3 q _ (List.getElem?_eq_some_iff.1 hq).1 hqm hqk cq
end Go.Proofs.YtljdbheclfaloaaGreatDoor.AM
namespace Go.Proofs.YtljdbheclfaloaaGreatDoor.AM
open Go.RowKit
set_option linter.unusedSimpArgs false
set_option linter.unusedVariables false
set_option maxRecDepth 20000

theorem yf4 (P : RP) (kn : Kn) : ∀ st, ydf P kn st
  | .lets rc gs => zwv P kn rc gs
  | .chk k x as_ => ybm P kn k x as_
theorem yau {kn : Kn} {n : Nat} {s s' : Stm} (h : chkS kn n s = .ok s') (hn : n ≤ 64) : n + s'.given.length ≤ 64 ∧ ∀ rc gs', s' = .lets rc gs' → ∃ gs, s = .lets rc gs ∧ gs.length = gs'.length := by
  cases s with
  | lets rc gs =>
    rw [chkS] at h
    split at h
    · cases h
    · rename_i u hf
      split at h
      · cases h
      · rename_i l hl
        cases h
        have hlen : l.length = gs.length := by have := congrArg List.length (zg6 hl); simpa using this
        refine ⟨?_, fun rc' gs' hs => by cases hs; exact ⟨gs, rfl, hlen.symm⟩⟩
        simp only [Stm.given, kq, List.length_map, hlen]
        rcases zp3 hf with h | rfl
        · omega
        · simpa using hn
  | chk k x as_ =>
    rw [chkS] at h
    split at h
    · cases h
    · split at h
      · cases h
      · cases h; exact ⟨by simpa [Stm.given] using hn, fun _ _ hs => by cases hs⟩
structure LsS (P : RP) (mb q km i : Nat) (H6 K : Heap) (R0 : CR (List Stm)) (stms : List Stm) (T : Nat → Prop) (rows : List (List Value)) (k x a : Nat) : Prop where
  rd : Rd P K i 0 x a
  ex : (x = 0 → a = 0 ∧ ∃ (kn : Kn) (n : Nat) (rm : Value) (l' : List Stm), K[q]? = some (.cells [pt P.r, .map (some km), rm, .int .i64 (n : Int)] 0 false) ∧ K[km]? = some (.map (knE kn)) ∧ StsP K T rows l' ∧ n ≤ 64 ∧ ∃ done, done.length = k ∧ l' = done ++ stms.drop k ∧ (∀ rc gs, Stm.lets rc gs ∈ done → gs.length ≤ 8192) ∧ R0 = (match chkM kn n (stms.drop k) with | .bad c a => .bad c a | .ok l => .ok (done ++ l))) ∧ (x ≠ 0 → R0 = .bad x a)
  kp : (∀ (b : Nat) (o : AObj), H6[b]? = some o → ¬ T b → b ≠ q → b ≠ km → b ≠ P.r → K[b]? = some o) ∧ H6.length ≤ K.length
def LsI (P : RP) (mb q km i : Nat) (H6 : Heap) (R0 : CR (List Stm)) (stms : List Stm) (T : Nat → Prop) (rows : List (List Value)) (ss : Value) (k : Nat) (st : St) : Prop := ∃ K x a, (∃ j : Nat → Value, st = ⟨[j 0, j 1, j 2, j 3, j 4, j 5, j 6, j 7, j 8, j 9, pt P.r, pt mb, pt q, j 13, j 14, j 15, j 16, j 17, j 18, j 19, j 20, j 21, j 22, j 23, j 24, j 25, j 26, j 27, j 28, j 29, j 30, j 31, j 32, j 33, j 34, j 35, j 36, j 37, j 38, j 39, j 40, j 41, j 42, j 43, j 44, j 45, j 46, j 47, j 48, j 49, j 50, j 51, j 52, j 53, j 54, j 55, j 56, j 57, j 58, j 59, j 60, j 61, j 62, j 63, j 64, j 65, j 66, j 67, j 68, j 69, j 70, j 71, j 72, j 73, j 74, j 75, j 76, j 77, j 78, j 79, j 80, j 81, j 82, j 83, j 84, j 85, j 86, j 87, j 88, j 89, j 90, j 91, j 92, j 93, j 94, j 95, j 96, j 97, j 98, j 99, j 100, j 101, j 102, j 103, j 104, j 105, ss, .int .i64 (rows.length : Int), .int .i64 (k : Int), j 109, j 110, j 111, j 112, j 113, j 114, j 115, j 116, j 117, j 118, j 119, j 120, j 121, j 122, j 123, j 124, j 125, j 126, j 127, j 128, j 129, j 130], K⟩) ∧ LsS P mb q km i H6 K R0 stms T rows k x a
def LsO (P : RP) (mb q km i : Nat) (H6 : Heap) (R0 : CR (List Stm)) (stms : List Stm) (T : Nat → Prop) (rows : List (List Value)) (ss : Value) (st : St) : Prop := ∃ K x a k, (∃ j : Nat → Value, st = ⟨[j 0, j 1, j 2, j 3, j 4, j 5, j 6, j 7, j 8, j 9, pt P.r, pt mb, j 12, j 13, j 14, j 15, j 16, j 17, j 18, j 19, j 20, j 21, j 22, j 23, j 24, j 25, j 26, j 27, j 28, j 29, j 30, j 31, j 32, j 33, j 34, j 35, j 36, j 37, j 38, j 39, j 40, j 41, j 42, j 43, j 44, j 45, j 46, j 47, j 48, j 49, j 50, j 51, j 52, j 53, j 54, j 55, j 56, j 57, j 58, j 59, j 60, j 61, j 62, j 63, j 64, j 65, j 66, j 67, j 68, j 69, j 70, j 71, j 72, j 73, j 74, j 75, j 76, j 77, j 78, j 79, j 80, j 81, j 82, j 83, j 84, j 85, j 86, j 87, j 88, j 89, j 90, j 91, j 92, j 93, j 94, j 95, j 96, j 97, j 98, j 99, j 100, j 101, j 102, j 103, j 104, j 105, j 106, j 107, j 108, j 109, j 110, j 111, j 112, j 113, j 114, j 115, j 116, j 117, j 118, j 119, j 120, j 121, j 122, j 123, j 124, j 125, j 126, j 127, j 128, j 129, j 130], K⟩) ∧ LsS P mb q km i H6 K R0 stms T rows k x a ∧ (x = 0 → k = rows.length)
theorem yb1 {P : RP} {mb q km i i0 k : Nat} {hb H6 K : Heap} {R0 : CR (List Stm)} {stms : List Stm} {T : Nat → Prop} {rows : List (List Value)} {s : Stm} (eb : Rd P hb i0 0 0 0) (hqb : hb.length ≤ q) (hkb : hb.length ≤ km) (hql : q < H6.length) (hkl : km < H6.length) (hT : ∀ z, T z → hb.length ≤ z ∧ z ≠ q ∧ z ≠ km ∧ z < H6.length) (hgs : ∀ rc gs, Stm.lets rc gs ∈ stms → gs.length ≤ 8192) (e : LsS P mb q km i H6 K R0 stms T rows k 0 0) (hs : stms[k]? = some s) :
    ∃ row K', rows[k]? = some row ∧ DF FF j7 [pt q, agg row] (K ++ [.cells row 0 false]) = some (tup [], K') ∧ ∃ x a, LsS P mb q km i H6 K' R0 stms T rows (k + 1) x a := by
  obtain ⟨rd, ⟨f1, f2⟩, kp, kl⟩ := e
  obtain ⟨_, kn, n, rm, l', cq, ck, st, hn, done, hdl, hl', hdg, hR⟩ := f1 rfl
  have hlk : l'[k]? = some s := by rw [hl', List.getElem?_append_right (by omega), hdl, Nat.sub_self, List.getElem?_drop, Nat.add_zero]; exact hs
  obtain ⟨row, Tk, hrow, sp, hTk, back⟩ := st.focus hlk
  have L := [AObj.cells row 0 false]
  have nq : q ≠ P.r := by have := eb.lr; omega
  have nk : km ≠ P.r := by have := eb.lr; omega
  have smem : s ∈ stms := List.mem_of_getElem? hs
  obtain ⟨K', q', r', k'⟩ := yf4 P kn s hb (K ++ [.cells row 0 false]) i0 i q km n rm Tk row eb (rd.more _) (y7 _ cq) (y7 _ ck) (sp.keep fun b o _ ho => y7 _ ho) (fun z hz => by
    have := hT z (hTk z hz); exact ⟨this.1, this.2.1, this.2.2.1, by simp; omega⟩) hqb hkb (by omega) (fun rc gs hs' => hgs rc gs (hs' ▸ smem))
  have keep : ∀ b o, K[b]? = some o → ¬ Tk b → b ≠ q → b ≠ km → b ≠ P.r → K'[b]? = some o := fun b o ho n1 n2 n3 n4 => k'.1 b o (y7 _ ho) (fun h => h.elim n1 fun h => h.elim n2 n3) n4
  have kp' : (∀ (b : Nat) (o : AObj), H6[b]? = some o → ¬ T b → b ≠ q → b ≠ km → b ≠ P.r → K'[b]? = some o) ∧ H6.length ≤ K'.length :=
    ⟨fun b o ho n1 n2 n3 n4 => keep b o (kp b o ho n1 n2 n3 n4) (fun h => n1 (hTk b h)) n2 n3 n4, by have := k'.2; simp at this; omega⟩
  have hR2 : R0 = (match chkS kn n s with | .bad c a => CR.bad c a | .ok s' => (match chkM (kn ++ s'.given) (n + s'.given.length) (stms.drop (k + 1)) with | .bad c a => .bad c a | .ok l => .ok (done ++ (s' :: l)))) := by
    rw [hR, zb7 hs, chkM]
    cases chkS kn n s with
    | bad c a => rfl
    | ok s' => simp only; cases chkM (kn ++ s'.given) (n + s'.given.length) (stms.drop (k + 1)) <;> rfl
  have others : ∀ b o, T b → ¬ Tk b → K[b]? = some o → K'[b]? = some o := fun b o h1 h2 ho => by
    have := hT b h1; have := eb.lr
    exact keep b o ho h2 (by omega) (by omega) (by omega)
  refine ⟨row, K', hrow, q', ?_⟩
  cases hc : chkS kn n s with
  | bad c a =>
    rw [hc] at r' hR2
    obtain ⟨hc0, e'⟩ := r'
    exact ⟨c, a, e', ⟨fun h => absurd h hc0, fun _ => hR2⟩, kp'⟩
  | ok s' =>
    rw [hc] at r' hR2
    obtain ⟨sp', e', ⟨rm', cq'⟩, ck'⟩ := r'
    obtain ⟨h64, hlen⟩ := yau hc hn
    refine ⟨0, 0, e', ⟨fun _ => ⟨rfl, kn ++ s'.given, n + s'.given.length, rm', l'.set k s', cq', ck', back K' s' sp' others, h64, done ++ [s'], by simp [hdl], ?_, ?_, ?_⟩, fun h => absurd rfl h⟩, kp'⟩
    · rw [hl', List.set_append_right _ _ (by omega), hdl, Nat.sub_self, zb7 hs]; simp
    · intro rc gs hm
      rcases List.mem_append.1 hm with hm | hm
      · exact hdg rc gs hm
      · simp at hm
        obtain ⟨gs0, h1, h2⟩ := hlen rc gs hm.symm
        have := hgs rc gs0 (h1 ▸ smem)
        omega
    · rw [hR2]
      simp only
      cases chkM (kn ++ s'.given) (n + s'.given.length) (stms.drop (k + 1)) <;> simp
end Go.Proofs.YtljdbheclfaloaaGreatDoor.AM
namespace Go.Proofs.YtljdbheclfaloaaGreatDoor.AM
open Go.RowKit
set_option linter.unusedSimpArgs false
set_option linter.unusedVariables false
set_option maxRecDepth 20000

structure ModP (K : Heap) (U : Nat → Prop) (mb : Nat) (md : Md) : Prop where
  ex : ∃ ks ss rows T, K[mb]? = some (.cells [ks, ss] 0 false) ∧ Sl K ks 2 (md.known.map w5) ∧ Sl K ss 4 rows ∧ StsP K T rows md.l ∧ (∀ z, T z → U z) ∧ (∀ b, blk ks = some b → U b) ∧ ∀ b, blk ss = some b → U b
  mb : U mb
  len : md.l.length ≤ 8193 ∧ md.known.length ≤ 10000 ∧ ∀ rc gs, Stm.lets rc gs ∈ md.l → gs.length ≤ 8192
theorem ModP.keep {K K' : Heap} {U : Nat → Prop} {mb : Nat} {md : Md} (e : ModP K U mb md) (k : ∀ b o, U b → K[b]? = some o → K'[b]? = some o) : ModP K' U mb md := by
  obtain ⟨⟨ks, ss, rows, T, h1, h2, h3, h4, h5, h6, h7⟩, hm, hl⟩ := e
  exact ⟨⟨ks, ss, rows, T, k _ _ hm h1, h2.keep fun b hb o ho => k b o (h6 b hb) ho, h3.keep fun b hb o ho => k b o (h7 b hb) ho, h4.keep fun b o hb ho => k b o (h5 b hb) ho, h5, h6, h7⟩, hm, hl⟩
def chkR (kn : Kn) : PR (List Stm) → CR (List Stm)
  | .bad c a => .bad c a
  | .ok acc _ => chkM kn 0 acc
def mdR (kn : Kn) : CR (List Stm) → CR Md
  | .bad c a => .bad c a
  | .ok l => .ok ⟨kn, l⟩
theorem zzo {l : List UInt8} {names : Kn} {m : List Tok} (hl : ¬ 4096 < l.length) (hs : p8 l 0 = .ok m) : zb4 l names = mdR (pi [] names) (chkR (pi [] names) (zmy l.length m)) := by
  unfold zb4
  rw [if_neg hl, hs]
  simp only
  cases zmy l.length m with
  | bad c a => rfl
  | ok acc r => simp only [chkR]; cases chkM (pi [] names) 0 acc <;> rfl
def ModR (h h' : Heap) (v : Value) : CR Md → Prop
  | .bad c a => v = tup [nilP, .int .i64 (c : Int), .int .i64 (a : Int)] ∧ h' = h ∧ c ≠ 0
  | .ok md => ∃ mb, v = tup [pt mb, .int .i64 0, .int .i64 0] ∧ ModP h' (fun z => h.length ≤ z ∧ z < h'.length) mb md
theorem ztp {h K : Heap} (p : Pre h K) (c a : Nat) (hc : c ≠ 0) : ModR h (AM.finish h (tup [nilP, .int .i64 (c : Int), .int .i64 (a : Int)]) K) (tup [nilP, .int .i64 (c : Int), .int .i64 (a : Int)]) (.bad c a) ∧ Pre h (AM.finish h (tup [nilP, .int .i64 (c : Int), .int .i64 (a : Int)]) K) := by
  obtain ⟨L, rfl⟩ := p
  rw [g8 h L rfl]
  exact ⟨⟨rfl, rfl, hc⟩, Pre.refl h⟩
theorem zm9 : ∀ (ns kn : Kn), (pi kn ns).length ≤ kn.length + ns.length
  | [], kn => by simp [pi]
  | d :: r, kn => by
    rw [pi]
    have := zm9 r (if (jk kn d.1).isSome then kn else kn ++ [d])
    split at this
    · rename_i h; rw [if_pos h]; simp only [List.length_cons]; omega
    · rename_i h; rw [if_neg h]; simp only [List.length_cons, List.length_append, List.length_nil] at *; omega
set_option maxHeartbeats 16000000 in
theorem zg4 (l : List UInt8) (names : Kn) (ns : Value) {h : Heap} (g : Gl h) (hns : Sl h ns 2 (names.map w5)) (hnl : names.length ≤ 10000) : ∃ v h', DF FF zbi [str l, ns] h = some (v, h') ∧ (ModR h h' v (zb4 l names) ∧ Pre h h') := by
  refine wz zrz ?_
  by_cases hl : 4096 < l.length
  · have c1 : ((4096 : Int) < (l.length : Int)) = True := by simp; omega
    have hR : zb4 l names = .bad 2 0 := by unfold zb4; rw [if_pos hl]
    simp only [zex, ya, zt, xf, zb, zz, yb, zn, zc, zo, zf, ze, zd, List.set_cons_succ, List.set_cons_zero, O_mv, yy, yg, zdl, List.cons_append, List.nil_append, List.length_cons, List.length_nil, Nat.reduceAdd, Nat.reduceSub, Nat.zero_add, zm, yc, za, xa, zg, zh, w4, za2, yk, w9, xl, decide_true, xl, c1, za2]
    rw [hR]
    exact ⟨⟨rfl, rfl, by omega⟩, Pre.refl h⟩
  have c1 : ((4096 : Int) < (l.length : Int)) = False := by simp; omega
  obtain ⟨v1, H1, t1, t2, t3⟩ := zn5 l g
  have htv : ziu l = p8 l 0 := by unfold ziu; rw [if_neg (by omega)]
  rw [htv] at t2
  cases hsc : p8 l 0 with
  | bad c a =>
    rw [hsc] at t2
    have t2 : v1 = tup [.slice none 0 0, .int .i64 (c : Int), .int .i64 (a : Int)] := t2
    subst t2
    have hc := zv1 hsc
    have c2 : ((c : Int) != 0) = true := by rw [bne_iff_ne]; omega
    have hR : zb4 l names = .bad c a := by unfold zb4; rw [if_neg hl, hsc]
    simp only [zex, ya, zt, xf, yo, zb, zz, zw, yb, zn, zc, zo, zf, ze, zd, List.set_cons_succ, List.set_cons_zero, O_mv, yy, yg, ye, List.map_cons, List.map_nil, zoc, zdl, List.cons_append, List.nil_append, List.length_cons, List.length_nil, Nat.reduceAdd, Nat.reduceSub, Nat.zero_add, zm, yc, za, xa, xh, y8, zg, zh, List.getElem?_cons_zero, List.getElem?_cons_succ, za2, yk, w9, xl, decide_false, xl, c1, t1, c2, za2]
    rw [hR]
    exact ztp t3 c a hc
  | ok m =>
    rw [hsc] at t2
    obtain ⟨s, rfl, own1⟩ := t2
    obtain ⟨hok, hml⟩ := yat hsc
    have c2 : ((0 : Int) != 0) = false := rfl
    obtain ⟨s', c, H2, n1, n2, n3, n4, n5, n6⟩ := ygr own1.sl (by rw [List.length_map]; omega)
    have p12 := t3.trans n6
    obtain ⟨sx, sy, sz, rfl⟩ := own1.slice
    have lc2 := (List.getElem?_eq_some_iff.1 n2).1
    obtain ⟨P, hP⟩ : ∃ P : RP, P = { r := H2.length, c := c, en := l.length, ws := .slice sx sy sz, cs := s', L := m, ne := by omega, wr := fun h => by have := (own1.lt h).2; have := n6.le; omega, wc := fun h => by have := (own1.lt h).2; omega, cr := fun h => by have := (n3.lt h).2; omega, cc := n4, ok := hok, len := by omega } := ⟨_, rfl⟩
    have pr : P.r = H2.length := by rw [hP]
    have pc : P.c = c := by rw [hP]
    have pe : P.en = l.length := by rw [hP]
    have pw : P.ws = .slice sx sy sz := by rw [hP]
    have pcs : P.cs = s' := by rw [hP]
    have pL : P.L = m := by rw [hP]
    obtain ⟨H4, hH4⟩ : ∃ H4, H4 = H2 ++ [AObj.cells [pt c, .slice sx sy sz, .int .i64 (l.length : Int), .int .i64 0, .int .i64 0, .int .i64 0] 0 false, .cells [.slice none 0 0, .slice none 0 0] 0 false] := ⟨_, rfl⟩
    obtain ⟨mb, hmb⟩ : ∃ mb, mb = H2.length + 1 := ⟨_, rfl⟩
    have l4 : H4.length = mb + 1 := by rw [hH4, hmb]; simp
    have p4 : Pre h H4 := by rw [hH4]; exact p12.more _
    have e4 : Rd P H4 0 0 0 0 := by
      rw [hH4]
      refine ⟨by rw [pr, pc, pw, pe]; simp, by rw [pc, pcs]; exact y7 _ n2, by rw [pw, pL]; exact (own1.sl.pre n6).more _, by rw [pcs, pL]; exact n3.sl.more _, Nat.zero_le _⟩
    have hm4 : H4[mb]? = some (.cells [nils, nils] 0 false) := by rw [hH4, hmb]; simp [nils]
    have hmr : mb ≠ P.r := by omega
    have hmc : mb ≠ P.c := by omega
    have hwm : blk P.ws ≠ some mb := fun h => by rw [pw] at h; have := (own1.lt h).2; have := n6.le; omega
    have hcm : blk P.cs ≠ some mb := fun h => by rw [pcs] at h; have := (n3.lt h).2; omega
    obtain ⟨R, hRd⟩ : ∃ R, R = zmy l.length m := ⟨_, rfl⟩
    have hlens : ∀ K, lenO K ns = some (.int .i64 (names.length : Int), K) := fun K => by rw [hns.len, List.length_map]
    have toPre : ∀ K, M3 P mb H4 K → Pre h K := fun K k => Pre.of (by have := p4.le; have := k.le; omega) fun b o ho => by
      have hlt := (List.getElem?_eq_some_iff.1 ho).1
      have h1 := p12.le; have h2 := t3.le
      exact k.keep b o (by rw [p4.get hlt]; exact ho) (by omega) (by omega) (by omega)
    have s0 : PaS P mb H4 R (P.L.length - 0 + 1) H4 := .inl ⟨0, nils, fun _ => False, [], [], rfl, e4, hm4, Own.nil _ _ _, trivial, fun z hz => hz.elim, (fun b hb => by simp [blk, nils] at hb), M3.refl _ _ _, Nat.zero_le _, (by simp), by
      rw [hRd, ← pe, ← pL, List.drop_zero]; unfold zmy; cases bn P.en P.L.length P.L <;> rfl⟩
    have hf1 : wo [.pointer none, .slice none 0 0, .int .i64 0, .int .i64 0, .int .i64 0, .int .i64 0] [(0, 1, pt c), (1, 1, .slice sx sy sz), (2, 1, .int .i64 (l.length : Int))] = some [pt c, .slice sx sy sz, .int .i64 (l.length : Int), .int .i64 0, .int .i64 0, .int .i64 0] := by
      rw [ba _ (by simp), zm3 _ (by simp), wt _ (by simp), yx]; rfl
    simp only [zex, ya, zt, yo, zb, zw, yb, zn, zc, zo, zf, ze, zd, List.set_cons_succ, List.set_cons_zero, O_mv, yy, yg, ye, List.map_cons, List.map_nil, wd, y6, yd, z8, yx, zoc, zdl, List.cons_append, List.nil_append, List.length_cons, List.length_nil, Nat.reduceAdd, Nat.reduceSub, Nat.zero_add, zm, yc, zy, za, w8, xh, y8, zg, zh, List.append_assoc, List.length_append, List.getElem?_cons_zero, List.getElem?_cons_succ, eq_self, yf, zs, yk, w9, xl, decide_false, xl, c1, t1, c2, n1, hf1, yf, zs, ← hH4]
    rw [show H2.length + 1 = mb from hmb.symm, ← pr]
    refine zty 0 (PaI P mb H4 ns R) (PaO P mb H4 ns R) ?_ (P.L.length - 0 + 1) _ ⟨H4, junk rfl, s0⟩ ?_
    · rintro k0 st ⟨K, ⟨j, rfl⟩, ⟨k, ss, T, acc, rows, rfl, eK, hm, own, stp, hT, hb, m4, hacc, hgs, hR⟩ | ⟨k, ec, ea, x, y, z, rows, rfl, eK, hc0, hR, hm, m4, own, hb, hrl⟩⟩
      · by_cases hk : k < P.L.length
        · obtain ⟨row, K1, x, y, z, K2, hr4, q1, rd1, ap, w1, m', hlt, pas⟩ := ybz e4 l4 hmr hmc hwm hcm hk eK hm own stp hT hb m4 hacc hgs hR
          have c3 : ((0 : Int) < ((P.L.length - k : Nat) : Int)) = True := by simp; omega
          have rm0 : Heap.read1 K ⟨mb, 1, some 0⟩ = some ss := xz hm
          obtain ⟨ax, ay, az, rfl⟩ := own.slice
          have a1 : zb1 K1 (.pointer (some ⟨mb, 1, some 0⟩)) (.slice ax ay az) = some (undef, K1) := b8 rd1 rfl
          simp only [ya, zt, yo, zb, zz, yb, zn, yi, zc, zp, xy, zo, zf, ze, zd, List.set_cons_succ, List.set_cons_zero, O_mv, y3, xj, yy, yg, ye, List.map_cons, List.map_nil, zx, zk, vd, w6, yd, z8, xe, xg, zdl, List.length_cons, List.length_nil, Nat.reduceAdd, Nat.zero_add, zm, yc, zy, za, zi, vt, slc, gp, xb, z7, zl, xc, ft, zq, zj, List.append_nil, Nat.add_zero, List.getElem?_cons_zero, zdk, decide_true, ok_0 eK, eK.r0, zgt eK, c3, rm0, q1, a1, zxb _ _ _ _ hr4, ap, w1]
          exact ⟨m', hlt, _, junk rfl, pas⟩
        · have c3 : ((0 : Int) < ((P.L.length - k : Nat) : Int)) = False := by simp; omega
          simp only [ya, zt, vc, zb, zw, yb, zn, yi, zc, xy, zo, zf, ze, zd, List.set_cons_succ, List.set_cons_zero, O_mv, y3, xj, yy, yg, ye, List.map_cons, List.map_nil, zx, zk, zdl, zm, yc, za, yz, zaf, xb, z7, zq, zj, Nat.add_zero, List.getElem?_cons_zero, g7, decide_false, ok_0 eK, eK.r0, zgt eK, c3, g7]
          have hk' : k = P.L.length := by have := eK.le; omega
          rw [List.drop_eq_nil_of_le (by omega)] at hR
          have hR' : R = .ok acc [] := by
            cases hq : P.L.length with
            | zero => rw [hq] at hR; simpa [bn] using hR
            | succ q => rw [hq] at hR; simpa [bn] using hR
          exact ⟨K, junk rfl, k, 0, 0, ss, rows, ⟨eK, hm, own, hb, m4, by rw [(stp.len).1]; have := P.len; omega, fun _ => ⟨rfl, T, acc, hR', stp, hT, hgs, by have := P.len; omega⟩, fun h => absurd rfl h⟩⟩
      · simp only [ya, zt, vc, zb, zw, yb, zn, yi, zc, vq, zo, zf, ze, zd, List.set_cons_succ, List.set_cons_zero, O_mv, y3, xj, ye, List.map_cons, List.map_nil, zm, yc, za, yz, zaf, g7, fd eK hc0, g7]
        exact ⟨K, junk rfl, k, ec, ea, .slice x y z, rows, ⟨eK, hm, own, hb, m4, hrl, fun h => absurd h hc0, fun _ => hR⟩⟩
    rintro st ⟨K, ⟨j, rfl⟩, k, x, a, ss, rows, E⟩
    have lK := E.m3.le
    obtain ⟨ax, ay, az, rfl⟩ := E.own.slice
    obtain ⟨K5, hK5⟩ : ∃ K5, K5 = K ++ [AObj.map [], .cells [pt P.r, .map (some K.length), .map none, .int .i64 0] 0 false] := ⟨_, rfl⟩
    have l5 : K5.length = K.length + 2 := by rw [hK5]; simp
    have hq5 : K5[K.length + 1]? = some (.cells [pt P.r, .map (some K.length), .map none, .int .i64 ((0 : Nat) : Int)] 0 false) := by rw [hK5]; simp
    have hk5 : K5[K.length]? = some (.map (knE [])) := by rw [hK5]; simp [knE]
    have hm5 : K5[mb]? = some (.cells [nils, .slice ax ay az] 0 false) := by rw [hK5]; exact y7 _ E.mo
    have hmK := (List.getElem?_eq_some_iff.1 E.mo).1
    have hf2 : wo [.pointer none, .map none, .map none, .int .i64 0] [(0, 1, pt P.r), (1, 1, .map (some K.length))] = some [pt P.r, .map (some K.length), .map none, .int .i64 0] := by
      rw [ba _ (by simp), ztk _ (by simp), yx]; rfl
    have pK := toPre K E.m3
    have p5 : Pre h K5 := by rw [hK5]; exact pK.more _
    have lm3 : h.length ≤ H2.length := p12.le
    have pN : ∀ K6 k6, NmS P mb (K.length + 1) K.length K5 K6 names k6 (.slice ax ay az) → Pre h K6 := fun K6 k6 e => Pre.of (by have := p5.le; have := e.kp.2; omega) fun b o ho => by
      have hlt := (List.getElem?_eq_some_iff.1 ho).1
      exact e.kp.1 b o (by rw [p5.get hlt]; exact ho) (by omega) (by have := pK.le; omega)
    simp only [ya, zb, yb, zn, zc, zo, zf, ze, zd, List.set_cons_succ, List.set_cons_zero, O_mv, fc, wd, y6, yd, z8, List.cons_append, List.nil_append, List.length_cons, List.length_nil, Nat.reduceAdd, Nat.zero_add, zm, yc, zy, za, yj, w8, List.append_assoc, List.length_append, eq_self, yf, zs, yj, hf2, zen, yf, zs, ← hK5, hlens]
    refine bu 2 names.length (NmI P mb (K.length + 1) K.length K5 names ns (.slice ax ay az)) (NmO P mb (K.length + 1) K.length K5 names (.slice ax ay az) names.length) ?_ ?_ _ ⟨K5, junk rfl, ⟨⟨[], nils, _, _, _, rfl, hk5, hm5, Own.nil _ _ _, fun b hb => by simp [blk, nils] at hb, by simp, Nat.le_refl _⟩, ⟨fun b o ho _ _ => ho, Nat.le_refl _⟩, rfl⟩⟩ ?_
    · rintro n st hn ⟨K6, ⟨j, rfl⟩, e⟩
      have hd : names[n]? = some names[n] := List.getElem?_eq_getElem hn
      obtain ⟨b', o, v, a1, a2⟩ := (hns.pre (pN K6 n e)).atH (k := n) (by simpa using hn)
      rw [List.getElem_map] at a2
      have h1 : ((n : Int) < (names.length : Int)) = True := by simp; omega
      obtain ⟨rq, cases_⟩ := ybf hq5 (by omega) (by omega) (by omega) (by omega) (by omega) (by omega) e hd
      rcases cases_ with ⟨b, lo, e'⟩ | ⟨J1, x, y, z, x', y', z', J2, J3, lo, hu, r1, r2, ap, w1, e'⟩
      · simp only [ya, zt, yo, zb, zz, zw, yb, zn, zc, zp, zo, zf, ze, zd, List.set_cons_succ, List.set_cons_zero, O_mv, yy, yg, O_un, vg, zx, zk, xr, y4, vz, wi, v8, List.length_cons, List.length_nil, Nat.reduceAdd, Nat.zero_add, Bool.not_true, zm, yc, zy, za, zi, yq, xb, z7, xh, y8, zl, yu, z6, zq, zj, yr, ym, yh, zu, zr, Nat.add_zero, Option.map_some, List.getElem?_cons_zero, List.getElem?_cons_succ, eq_self, yp, Option.map_some, decide_true, h1, a1, a2, zeq, zqu, rq, k8, lo, xp (k := n) (by omega)]
        exact ⟨_, junk rfl, e'⟩
      · simp only [ya, zt, yo, zb, zz, yb, zn, zc, zp, zo, zf, ze, zd, List.set_cons_succ, List.set_cons_zero, O_mv, yy, yg, O_un, vg, zx, zk, xr, y4, vd, w6, yd, z8, xe, xg, vz, wi, v8, List.length_cons, List.length_nil, Nat.reduceAdd, Nat.zero_add, Bool.not_false, zm, yc, zy, za, zi, slc, gp, yq, xb, z7, xh, y8, zl, xc, ft, yu, z6, zq, zj, yr, ym, yh, zu, zr, List.append_nil, Nat.add_zero, Option.map_some, List.getElem?_cons_zero, List.getElem?_cons_succ, eq_self, yp, Option.map_some, decide_true, h1, a1, a2, zeq, zqu, zz1, rq, k8, bh, lo, hu, r1, r2, zzy, ap, w1, xp (k := n) (by omega)]
        exact ⟨_, junk rfl, e'⟩
    · rintro st ⟨K6, ⟨j, rfl⟩, e⟩
      have h1 : ((names.length : Int) < (names.length : Int)) = False := by simp
      simp only [ya, zt, vc, zb, zw, yb, zn, zc, zo, ze, zd, List.set_cons_succ, List.set_cons_zero, yy, yg, wi, zm, yc, za, yz, g7, xm, decide_false, h1, g7]
      exact ⟨K6, junk rfl, e⟩
    rintro st ⟨K6, ⟨j, rfl⟩, e6⟩
    have p6 := pN K6 _ e6
    obtain ⟨⟨kn, ks, kx, ky, kz, rfl, hk6, hm6, own6, hb6, hkn6, hkl6⟩, ⟨kp6, kl6⟩, cq6⟩ := e6
    rw [hq5] at cq6
    rw [List.drop_length, pi] at hkn6
    subst hkn6
    have g6 : ∀ b o, K[b]? = some o → b ≠ mb → K6[b]? = some o := fun b o ho n1 => by
      have hlt := (List.getElem?_eq_some_iff.1 ho).1
      exact kp6 b o (by rw [hK5]; exact y7 _ ho) n1 (by omega)
    have rd6 : Rd P K6 k 0 x a := ⟨g6 _ _ E.rd.hr (Ne.symm hmr), g6 _ _ E.rd.hc (Ne.symm hmc), E.rd.sw.keep fun b hb o ho => g6 b o ho (by rintro rfl; exact hwm hb), E.rd.sc.keep fun b hb o ho => g6 b o ho (by rintro rfl; exact hcm hb), E.rd.le⟩
    have ownS : Own [] K6 (.slice ax ay az) 4 rows := E.own.keep fun b hb o ho => g6 b o ho (by have := E.lo b hb; omega)
    obtain ⟨T, stms, hx0, hTb⟩ : ∃ (T : Nat → Prop) (stms : List Stm), (x = 0 → a = 0 ∧ R = .ok stms [] ∧ StsP K6 T rows stms ∧ (∀ rc gs, Stm.lets rc gs ∈ stms → gs.length ≤ 8192) ∧ stms.length ≤ 8192) ∧ ((∀ z, T z → mb < z ∧ z < K.length ∧ blk (.slice ax ay az) ≠ some z) ∧ ∀ rc gs, Stm.lets rc gs ∈ stms → gs.length ≤ 8192) := by
      by_cases x0 : x = 0
      · obtain ⟨a0, T, acc, hR, st, hT, hg, hl⟩ := E.ok x0
        exact ⟨T, acc, fun _ => ⟨a0, hR, st.keep fun b o hb ho => g6 b o ho (by have := hT b hb; omega), hg, hl⟩, hT, hg⟩
      · exact ⟨fun _ => False, [], fun h => absurd h x0, fun z hz => hz.elim, by simp⟩
    obtain ⟨hT, hgs⟩ := hTb
    obtain ⟨R0, hR0⟩ : ∃ R0 : CR (List Stm), R0 = chkR (pi [] names) R := ⟨_, rfl⟩
    have hPM : zb4 l names = mdR (pi [] names) R0 := by rw [zzo hl hsc, ← hRd, hR0]
    have hlS : ∀ J, lenO J (.slice ax ay az) = some (.int .i64 (rows.length : Int), J) := fun J => ownS.len J
    have rm6 : Heap.read1 K6 ⟨mb, 1, some 0⟩ = some (.slice ax ay az) := xz hm6
    have L0 : LsS P mb (K.length + 1) K.length k K6 K6 R0 stms T rows 0 x a := ⟨rd6, ⟨fun x0 => by
      obtain ⟨a0, hR, st, hg, hl⟩ := hx0 x0
      exact ⟨a0, pi [] names, 0, .map none, stms, cq6, hk6, st, by omega, [], rfl, by simp, by simp, by rw [hR0, hR, List.drop_zero, chkR]; cases chkM (pi [] names) 0 stms <;> rfl⟩, fun x0 => by rw [hR0, E.bad x0]; rfl⟩, fun b o ho _ _ _ _ => ho, Nat.le_refl _⟩
    have moreL : ∀ J L k' x' a', LsS P mb (K.length + 1) K.length k K6 J R0 stms T rows k' x' a' → LsS P mb (K.length + 1) K.length k K6 (J ++ L) R0 stms T rows k' x' a' := fun J L k' x' a' e =>
      ⟨e.rd.more _, ⟨fun x0 => by
        obtain ⟨a0, kn, n, rm, l', c1, c2, c3, c4⟩ := e.ex.1 x0
        exact ⟨a0, kn, n, rm, l', y7 _ c1, y7 _ c2, c3.keep fun b o _ ho => y7 _ ho, c4⟩, e.ex.2⟩, fun b o ho n1 n2 n3 n4 => y7 _ (e.kp.1 b o ho n1 n2 n3 n4), by have := e.kp.2; simp; omega⟩
    have keepS : ∀ J k' x' a', LsS P mb (K.length + 1) K.length k K6 J R0 stms T rows k' x' a' → Sl J (.slice ax ay az) 4 rows := fun J k' x' a' e => ownS.sl.keep fun b hb o ho => by
      have := E.lo b hb; have := (E.own.lt hb).2
      exact e.kp.1 b o ho (fun h => (hT b h).2.2 hb) (by omega) (by omega) (by omega)
    simp only [ya, zb, yb, zn, zc, zo, zf, ze, zd, List.set_cons_succ, List.set_cons_zero, O_mv, yg, fc, zx, zk, Nat.zero_add, zm, yc, zy, za, yj, xb, z7, zq, zj, yj, rm6, hlS]
    refine bu 4 rows.length (LsI P mb (K.length + 1) K.length k K6 R0 stms T rows (.slice ax ay az)) (LsO P mb (K.length + 1) K.length k K6 R0 stms T rows (.slice ax ay az)) ?_ ?_ _ ⟨K6, x, a, junk rfl, L0⟩ ?_
    · rintro n st hn ⟨J, x', a', ⟨j, rfl⟩, e⟩
      obtain ⟨b', o, v, a1, a2⟩ := (keepS J n x' a' e).atH (k := n) hn
      have h1 : ((n : Int) < (rows.length : Int)) = True := by simp; omega
      have h4 : rows[n].length = 4 := (keepS J n x' a' e).2 _ (List.getElem_mem hn)
      by_cases x0 : x' = 0
      · subst x0
        obtain ⟨a0, kn, n', rm, l', c1, c2, c3, c4, c5, c6, c7, c8⟩ := e.ex.1 rfl
        subst a0
        have hlen : stms.length = rows.length := by
          have := (c3.len).1
          rw [this, c7, List.length_append, List.length_drop, c6]
          have hdl : n ≤ stms.length := by
            rcases Nat.lt_or_ge stms.length n with h | h
            · exfalso
              have h3 := (c3.len).1
              rw [c7, List.length_append, List.length_drop, c6] at h3
              omega
            · exact h
          omega
        have hs : stms[n]? = some stms[n] := List.getElem?_eq_getElem (by omega)
        obtain ⟨row, J', hrow, ql, x'', a'', e'⟩ := yb1 e4 (by omega) (by omega) (by omega) (by omega) (fun z hz => by have := hT z hz; exact ⟨by omega, by omega, by omega, by omega⟩) hgs e hs
        rw [List.getElem?_eq_getElem hn] at hrow
        have hrow := Option.some.inj hrow
        rw [← hrow] at ql
        simp only [ya, zt, yo, zb, zz, zw, yb, zn, zc, zp, zo, zf, ze, zd, List.set_cons_succ, List.set_cons_zero, O_mv, yy, yg, O_un, ye, List.map_cons, List.map_nil, vg, xr, y4, vz, wi, v8, List.length_cons, List.length_nil, Nat.reduceAdd, Nat.zero_add, Bool.not_true, zm, yc, zy, za, zi, yq, zl, yu, z6, xk, xd, yh, zu, zr, Option.map_some, eq_self, yp, Option.map_some, decide_true, h1, a1, a2, h4, ok_0 (moreL J _ _ _ _ e).rd, ql, xp (k := n) (by have := E.rl; omega)]
        exact ⟨J', x'', a'', junk rfl, e'⟩
      · have ob := fun s Q => zop s Q 5 4 (by decide)
        simp only [ya, zt, vc, yo, zb, zz, yb, zn, zc, zp, zo, ze, zd, List.set_cons_succ, List.set_cons_zero, O_mv, yy, yg, O_un, ye, List.map_cons, List.map_nil, vg, xr, y4, wi, v8, List.length_cons, List.length_nil, Nat.reduceAdd, Nat.zero_add, Bool.not_false, zm, yc, zy, za, yz, yq, zl, yu, z6, yh, zu, zr, Option.map_some, g7, eq_self, xm, Option.map_some, decide_true, h1, a1, a2, h4, fd (moreL J _ _ _ _ e).rd x0, ob, g7]
        exact ⟨_, x', a', n, junk rfl, moreL J _ _ _ _ e, fun h => absurd h x0⟩
    · rintro st ⟨J, x', a', ⟨j, rfl⟩, e⟩
      have h1 : ((rows.length : Int) < (rows.length : Int)) = False := by simp
      simp only [ya, zt, vc, zb, zw, yb, zn, zc, zo, ze, zd, List.set_cons_succ, List.set_cons_zero, yy, yg, wi, zm, yc, za, yz, g7, xm, decide_false, h1, g7]
      exact ⟨J, x', a', rows.length, junk rfl, e, fun _ => rfl⟩
    rintro st ⟨J, x', a', k', ⟨j, rfl⟩, e, hk'⟩
    have pJ : Pre h J := Pre.of (by have := p6.le; have := e.kp.2; omega) fun b o ho => by
      have hlt := (List.getElem?_eq_some_iff.1 ho).1
      exact e.kp.1 b o (by rw [p6.get hlt]; exact ho) (fun h => by have := hT b h; omega) (by have := pK.le; omega) (by have := pK.le; omega) (by omega)
    by_cases x0 : x' = 0
    · subst x0
      obtain ⟨a0, kn, n', rm, l', c1, c2, c3, c4, done, c6, c7, c8, c9⟩ := e.ex.1 rfl
      subst a0
      have hkk := hk' rfl
      have hdl : stms.drop k' = [] := by
        have h3 := (c3.len).1
        rw [c7, List.length_append, List.length_drop, c6, hkk] at h3
        exact List.drop_eq_nil_of_le (by omega)
      rw [hdl, List.append_nil] at c7
      rw [hdl, chkM] at c9
      simp only [List.append_nil] at c9
      subst c7
      simp only [ya, zt, xf, yo, zb, zw, yb, zn, zc, zo, zf, ze, zd, List.set_cons_succ, List.set_cons_zero, O_mv, yg, O_un, ye, List.map_cons, List.map_nil, v8, Bool.not_true, zm, yc, za, yj, za2, yj, ok_0 e.rd, za2]
      rw [zgb h rfl, hPM, c9]
      have hmJ : J[mb]? = some (.cells [.slice kx ky kz, .slice ax ay az] 0 false) := e.kp.1 _ _ hm6 (fun h => by have := hT _ h; omega) (by omega) (by omega) hmr
      have lmJ := (List.getElem?_eq_some_iff.1 hmJ).1
      have gJ : ∀ b o, K6[b]? = some o → ¬ T b → b ≠ K.length + 1 → b ≠ K.length → b ≠ P.r → J[b]? = some o := e.kp.1
      have lKJ : K6.length ≤ J.length := e.kp.2
      refine ⟨⟨mb, rfl, ⟨⟨_, _, rows, T, hmJ, own6.sl.keep fun b hb o ho => gJ b o ho (fun h => by have := hT b h; have := hb6 b hb; omega) (by have := hb6 b hb; omega) (by have := hb6 b hb; omega) (by have := hb6 b hb; omega), keepS J _ _ _ e, c3, fun z hz => ?_, fun b hb => ?_, fun b hb => ?_⟩, ?_, ?_⟩⟩, pJ⟩
      · have := hT z hz; exact ⟨by omega, by omega⟩
      · have := hb6 b hb; have := (own6.lt hb).2; exact ⟨by omega, by omega⟩
      · have := E.lo b hb; have := (E.own.lt hb).2; exact ⟨by omega, by omega⟩
      · exact ⟨by omega, lmJ⟩
      · refine ⟨?_, ?_, c8⟩
        · have h3 := (c3.len).1
          show l'.length ≤ 8193
          have := E.rl
          omega
        · have := zm9 names []; simp at this; show (pi [] names).length ≤ 10000; omega
    · simp only [ya, zt, xf, zb, zz, yb, zn, zc, zo, zf, ze, zd, List.set_cons_succ, List.set_cons_zero, O_mv, yg, O_un, ye, List.map_cons, List.map_nil, zx, zk, v8, Nat.zero_add, Bool.not_false, zm, yc, za, xa, yj, xb, z7, zq, zj, List.getElem?_cons_zero, List.getElem?_cons_succ, za2, yj, fd e.rd x0, e.rd.r0, za2]
      rw [hPM, e.ex.2 x0]
      exact ztp pJ x' a' x0
end Go.Proofs.YtljdbheclfaloaaGreatDoor.AM
namespace Go.Proofs.YtljdbheclfaloaaGreatDoor.AM
open Go.RowKit
set_option linter.unusedSimpArgs false
set_option linter.unusedVariables false

theorem zzx (s : U) (e : Int) (he : 0 ≤ e) (h : Heap) : DF FF zcy [.int .u32 s.toNat, .int .i64 e] h = some (.bool (s.getLsbD e.toNat), h) := by
  refine wj zyi ?_
  simp only [zqd, ya, xf, zb, yb, zn, zc, zo, zf, ze, zd, List.set_cons_succ, List.set_cons_zero, O_mv, yy, yg, zqy, ko, yf8, List.cons_append, List.nil_append, List.length_cons, List.length_nil, Nat.reduceAdd, Nat.reduceSub, Nat.zero_add, zm, yc, za, zc3, zg, zh, he, ygm]
theorem zc6 (s : U) (e : Nat) (h : Heap) : DF FF zcy [.int .u32 s.toNat, .int .i64 e] h = some (.bool (s.getLsbD e), h) := zzx s e (by omega) h
theorem lt32 {k : Nat} (hk : k < 32) : (k : Int) < 32 := by omega
theorem zko : ¬ ((32 : Nat) : Int) < 32 := by omega
theorem nat0 (k : Nat) : (0 : Int) ≤ (k : Int) := by omega

def idR (s : U) : Nat → U := fun e => s &&& (1#32 <<< e)
theorem zgj (s : U) (h : Heap) : DF FF zad [.int .u32 s.toNat] h = some (agg (relV (idR s)), h) := by
  refine wj yan ?_
  simp only [zuq, ya, zb, yb, zn, zc, zf, List.set_cons_succ, List.set_cons_zero, O_mv, List.cons_append, List.nil_append, List.length_cons, List.length_nil, Nat.reduceSub, Nat.zero_add, zm, yc, zy, za, yq, zg, zh, List.append_assoc, List.length_append, List.set_cons_zero, qx]
  refine p7 32 (fun k st => ∃ j : Nat → Value, st = ⟨[.int .u32 s.toNat, j 1, .pointer (some ⟨h.length, 0, some 0⟩), .pointer (some ⟨h.length + 1, 0, some 0⟩), j 4, .int .i64 k, j 6, j 7, j 8, j 9, j 10, j 11, j 12, j 13, j 14, j 15],
      h ++ [.cells (relV fun _ => 0#32) 0 false, .cells (relV (mix k (fun e => s &&& (1#32 <<< e)) fun _ => 0#32)) 0 false]⟩) ?_ ?_ _ ?_
  · rintro k st hk ⟨j, rfl⟩
    simp only [ya, zt, yo, zb, zz, yb, zn, zc, zp, zo, zf, ze, zd, List.set_cons_succ, List.set_cons_zero, O_mv, yy, yg, vz, zqy, wi, yci, Nat.zero_add, zm, yc, zy, za, zi, zco, zl, xc, xx, yh, ve, bd, b9, vl, Int.toNat_natCast, Nat.mul_one, List.set_cons_zero, eq_self, zct, y9, pj, yp, zxq, yda, lt32 hk, nat0, hk, decide_true, xp (k := k) (by omega)]
    exact junk rfl
  · rintro st ⟨j, rfl⟩
    simp only [ya, zt, vc, xf, zb, zw, yb, zn, zc, zp, zo, zf, ze, zd, List.set_cons_succ, List.set_cons_zero, yy, yg, xr, y4, wi, zm, yc, za, yz, yj, zl, yu, z6, qg, xk, qy, xd, yh, zu, zr, Option.map_some, List.set_cons_zero, kv, qq, zbm, eq_self, y9, ph, xm, zko, decide_false]
    rfl
  · simp only [zc8]
    exact junk rfl

def zd1 (a b : U) : Nat → U := fun e => if a.getLsbD e then b else 0#32
theorem zg2 (a b : U) (h : Heap) : DF FF zal [.int .u32 a.toNat, .int .u32 b.toNat] h = some (agg (relV (zd1 a b)), h) := by
  refine wj zsp ?_
  simp only [zle, ya, zb, yb, zn, zc, zf, List.set_cons_succ, List.set_cons_zero, O_mv, List.cons_append, List.nil_append, List.length_cons, List.length_nil, Nat.reduceAdd, Nat.reduceSub, Nat.zero_add, zm, yc, zy, za, yq, zg, zh, List.append_assoc, List.length_append, List.set_cons_zero, qx]
  refine p7 32 (fun k st => ∃ j : Nat → Value, st = ⟨[.int .u32 a.toNat, .int .u32 b.toNat, j 2, j 3, .pointer (some ⟨h.length, 0, some 0⟩), .pointer (some ⟨h.length + 1, 0, some 0⟩), j 6, .int .i64 k, j 8, j 9, j 10, j 11, j 12, j 13, j 14, j 15, j 16, j 17],
      h ++ [.cells (relV fun _ => 0#32) 0 false, .cells (relV (mix k (fun e => if a.getLsbD e then b else 0#32) fun _ => 0#32)) 0 false]⟩) ?_ ?_ _ ?_
  · rintro k st hk ⟨j, rfl⟩
    cases hb : a.getLsbD k
    · simp only [ya, zt, yo, zb, zz, zw, yb, zn, zc, zo, zf, ze, zd, List.set_cons_succ, List.set_cons_zero, O_mv, yy, yg, ye, List.map_cons, List.map_nil, vz, wi, zm, yc, zy, za, zi, List.set_cons_zero, yp, lt32 hk, decide_true, xp (k := k) (by omega), zc6, hb]
      rw [zfj (by simp [hb])]
      exact junk rfl
    · simp only [ya, zt, yo, zb, zz, yb, zn, zc, zp, zo, zf, ze, zd, List.set_cons_succ, List.set_cons_zero, O_mv, yy, yg, ye, List.map_cons, List.map_nil, vz, wi, Nat.zero_add, zm, yc, zy, za, zi, zco, zl, xc, xx, yh, ve, bd, b9, vl, Nat.mul_one, List.set_cons_zero, eq_self, zct, y9, pj, yp, lt32 hk, nat0, hk, decide_true, xp (k := k) (by omega), zc6, hb, if_true]
      exact junk rfl
  · rintro st ⟨j, rfl⟩
    simp only [ya, zt, vc, xf, zb, zw, yb, zn, zc, zp, zo, zf, ze, zd, List.set_cons_succ, List.set_cons_zero, yy, yg, xr, y4, wi, zm, yc, za, yz, yj, zl, yu, z6, qg, xk, qy, xd, yh, zu, zr, Option.map_some, List.set_cons_zero, kv, qq, zbm, eq_self, y9, ph, xm, zko, decide_false]
    rfl
  · simp only [zc8]
    exact junk rfl

def zgv (a b : Nat → U) : Nat → U := fun e => a e &&& ~~~ b e
theorem zli (a b : Nat → U) (h : Heap) : DF FF zc1 [agg (relV a), agg (relV b)] h = some (agg (relV (zgv a b)), h) := by
  refine wj zq2 ?_
  simp only [zlc, ya, zb, yb, zn, zc, zo, zf, ze, zd, List.set_cons_succ, List.set_cons_zero, O_mv, List.cons_append, List.nil_append, List.length_cons, List.length_nil, Nat.reduceAdd, Nat.reduceSub, Nat.zero_add, zm, yc, zy, za, yq, w8, zg, zh, List.append_assoc, List.length_append, List.set_cons_zero, eq_self, yf, zs, y9, qx]
  refine p7 32 (fun k st => ∃ j : Nat → Value, st = ⟨[j 0, j 1, .pointer (some ⟨h.length, 0, some 0⟩), .pointer (some ⟨h.length + 1, 0, some 0⟩), .pointer (some ⟨h.length + 2, 0, some 0⟩), j 5, .int .i64 k, j 7, j 8, j 9, j 10, j 11, j 12, j 13, j 14, j 15, j 16, j 17, j 18],
      h ++ [.cells (relV (mix k (fun e => a e &&& ~~~ b e) a)) 0 false, .cells (relV b) 0 false, .cells (relV fun _ => 0#32) 0 false]⟩) ?_ ?_ _ ?_
  · rintro k st hk ⟨j, rfl⟩
    simp only [ya, zt, yo, zb, zz, yb, zn, zc, zp, zo, zf, ze, zd, List.set_cons_succ, List.set_cons_zero, O_mv, yy, yg, zx, zk, vz, zkg, wi, Nat.zero_add, zm, yc, zy, za, zi, zco, zl, xc, xx, fk, yr, bo, ym, yh, j4, vl, Nat.mul_one, List.set_cons_zero, eq_self, zct, y9, zbn, pj, zlo, yp, znp, lt32 hk, nat0, hk, decide_true, xp (k := k) (by omega)]
    exact junk rfl
  · rintro st ⟨j, rfl⟩
    simp only [ya, zt, vc, xf, zb, zw, yb, zn, zc, zp, zo, zf, ze, zd, List.set_cons_succ, List.set_cons_zero, yy, yg, xr, y4, wi, zm, yc, za, yz, yj, zl, yu, z6, qg, xk, qy, xd, yh, ve, vk, vp, zr, Option.map_some, List.set_cons_zero, kv, qq, zbm, eq_self, y9, ph, xm, zko, decide_false]
    rfl
  · simp only [zc8]
    exact junk rfl

def zjb (s : U) (r : Nat → U) : Nat → U
  | 0 => 0#32
  | k + 1 => if s.getLsbD k then zjb s r k ||| r k else zjb s r k
def zzj (s : U) (r : Nat → U) : U := zjb s r 32
theorem zvn (s : U) (r : Nat → U) (h : Heap) : DF FF zir [.int .u32 s.toNat, agg (relV r)] h = some (.int .u32 (zzj s r).toNat, h) := by
  refine wj zvs ?_
  simp only [zmx, ya, zb, yb, zn, zc, zo, zf, ze, zd, List.set_cons_succ, List.set_cons_zero, O_mv, List.cons_append, List.nil_append, List.length_cons, List.length_nil, Nat.reduceAdd, Nat.reduceSub, Nat.zero_add, zm, yc, zy, za, w8, zg, zh, List.set_cons_zero, eq_self, yf, zs, y9]
  refine p7 32 (fun k st => ∃ j : Nat → Value, st = ⟨[.int .u32 s.toNat, j 1, j 2, .pointer (some ⟨h.length, 0, some 0⟩), j 4, .int .u32 (zjb s r k).toNat, j 6, .int .i64 k, j 8, j 9, j 10, j 11, j 12, j 13, j 14, j 15, j 16, j 17, j 18, j 19],
      h ++ [.cells (relV r) 0 false]⟩) ?_ ?_ _ ?_
  · rintro k st hk ⟨j, rfl⟩
    cases hb : s.getLsbD k
    · simp only [ya, zt, yo, zb, zz, zw, yb, zn, zc, zo, zf, ze, zd, List.set_cons_succ, List.set_cons_zero, O_mv, yy, yg, ye, List.map_cons, List.map_nil, vz, wi, zm, yc, zy, za, zi, List.set_cons_zero, yp, lt32 hk, decide_true, xp (k := k) (by omega), zc6, hb]
      have : zjb s r (k + 1) = zjb s r k := by rw [zjb, hb]; rfl
      rw [this]
      exact junk rfl
    · simp only [ya, zt, yo, zb, zz, yb, zn, zc, zo, zf, ze, zd, List.set_cons_succ, List.set_cons_zero, O_mv, yy, yg, ye, List.map_cons, List.map_nil, zx, zk, vz, zu7, wi, Nat.zero_add, zm, yc, zy, za, zi, zco, yr, ym, Nat.mul_one, List.set_cons_zero, zct, zbn, yp, u_or, lt32 hk, nat0, hk, decide_true, xp (k := k) (by omega), zc6, hb]
      have : zjb s r (k + 1) = zjb s r k ||| r k := by rw [zjb, hb]; rfl
      rw [this]
      exact junk rfl
  · rintro st ⟨j, rfl⟩
    simp only [ya, zt, vc, xf, zb, zw, yb, zn, zc, zo, zf, ze, zd, List.set_cons_succ, List.set_cons_zero, O_mv, yy, yg, wi, zm, yc, za, yz, yj, List.set_cons_zero, xm, zko, decide_false]
    rw [zf8 _ _ _ _ _ rfl]
    rfl
  · exact junk rfl

def invK (r : Nat → U) : Nat → Nat → U
  | 0 => fun _ => 0#32
  | a + 1 => fun b => if (r a).getLsbD b then invK r a b ||| (1#32 <<< a) else invK r a b
def invR (r : Nat → U) : Nat → U := invK r 32
theorem zhr (r : Nat → U) (h : Heap) : DF FF zb9 [agg (relV r)] h = some (agg (relV (invR r)), h) := by
  refine wj zn1 ?_
  simp only [zh5, ya, zb, yb, zn, zc, zo, zf, zd, List.set_cons_succ, List.set_cons_zero, O_mv, List.cons_append, List.nil_append, List.length_cons, List.length_nil, Nat.reduceAdd, Nat.reduceSub, Nat.zero_add, zm, yc, zy, za, yq, w8, zg, zh, List.append_assoc, List.length_append, List.set_cons_zero, eq_self, yf, zs, y9, qx]
  refine p7 32 (fun a st => ∃ j : Nat → Value, st = ⟨[j 0, .pointer (some ⟨h.length, 0, some 0⟩), .pointer (some ⟨h.length + 1, 0, some 0⟩), .pointer (some ⟨h.length + 2, 0, some 0⟩), j 4, j 5, .int .i64 a, j 7, j 8, j 9, j 10, j 11, j 12, j 13, j 14, j 15, j 16, j 17, j 18, j 19, j 20, j 21, j 22, j 23, j 24, j 25, j 26],
      h ++ [.cells (relV r) 0 false, .cells (relV fun _ => 0#32) 0 false, .cells (relV (invK r a)) 0 false]⟩) ?_ ?_ _ ?_
  · rintro a st ha ⟨j, rfl⟩
    simp only [ya, zt, yo, zb, zz, yb, zn, zc, zo, zf, ze, zd, List.set_cons_succ, List.set_cons_zero, O_mv, yy, yg, wi, zm, yc, zy, za, List.set_cons_zero, lt32 ha, decide_true]
    refine p7 32 (fun b st => ∃ j : Nat → Value, st = ⟨[j 0, .pointer (some ⟨h.length, 0, some 0⟩), .pointer (some ⟨h.length + 1, 0, some 0⟩), .pointer (some ⟨h.length + 2, 0, some 0⟩), .int .i64 a, j 5, .int .i64 a, j 7, j 8, .int .i64 b, j 10, j 11, j 12, j 13, j 14, j 15, j 16, j 17, j 18, j 19, j 20, j 21, j 22, j 23, j 24, j 25, j 26],
      h ++ [.cells (relV r) 0 false, .cells (relV fun _ => 0#32) 0 false, .cells (relV (mix b (fun b => if (r a).getLsbD b then invK r a b ||| (1#32 <<< a) else invK r a b) (invK r a))) 0 false]⟩) ?_ ?_ _ ?_
    · rintro b st hb ⟨j, rfl⟩
      cases hc : (r a).getLsbD b
      · simp only [ya, zt, yo, zb, zz, zw, yb, zn, zc, zo, zf, ze, zd, List.set_cons_succ, List.set_cons_zero, O_mv, yy, yg, ye, List.map_cons, List.map_nil, zx, zk, vz, wi, Nat.zero_add, zm, yc, zy, za, zi, zco, yr, ym, Nat.mul_one, List.set_cons_zero, zct, zbn, yp, lt32 hb, nat0, ha, decide_true, xp (k := b) (by omega), zc6, hc]
        rw [zfj (by simp [hc])]
        exact junk rfl
      · simp only [ya, zt, yo, zb, zz, yb, zn, zc, zp, zo, zf, ze, zd, List.set_cons_succ, List.set_cons_zero, O_mv, yy, yg, ye, List.map_cons, List.map_nil, zx, zk, vz, zu7, wi, yci, Nat.zero_add, zm, yc, zy, za, zi, zco, zl, xc, xx, fk, yr, bo, ym, yh, ve, bd, b9, vl, Int.toNat_natCast, Nat.mul_one, List.set_cons_zero, eq_self, zct, y9, zbn, pj, zlo, yp, u_or, yda, lt32 hb, nat0, ha, hb, decide_true, xp (k := b) (by omega), zc6, hc, if_true]
        exact junk rfl
    · rintro st ⟨j, rfl⟩
      simp only [ya, zt, vc, zb, zw, yb, zn, zc, zo, zf, ze, zd, List.set_cons_succ, List.set_cons_zero, O_mv, yy, yg, vz, wi, zm, yc, za, yz, zi, yj, List.set_cons_zero, ph, yp, xm, zko, decide_false, xp (k := a) (by omega)]
      exact junk rfl
    · simp only [zc8]
      exact junk rfl
  · rintro st ⟨j, rfl⟩
    simp only [ya, zt, vc, xf, zb, zw, yb, zn, zc, zp, zo, zf, ze, zd, List.set_cons_succ, List.set_cons_zero, yy, yg, xr, y4, wi, zm, yc, za, yz, yj, zl, yu, z6, qg, qy, xd, yh, ve, vk, vp, zr, Option.map_some, List.set_cons_zero, kv, qq, zbm, eq_self, y9, xm, zko, decide_false]
    rfl
  · exact junk rfl

def zdz (r : Nat → U) : Nat → Nat → U
  | 0 => r
  | b + 1 => fun a => if (zdz r b a).getLsbD b then zdz r b a ||| zdz r b b else zdz r b a
def zgr (r : Nat → U) : Nat → U := zdz r 32
theorem zim (r : Nat → U) (h : Heap) : DF FF zdy [agg (relV r)] h = some (agg (relV (zgr r)), h) := by
  refine wj zvh ?_
  simp only [zmp, ya, zb, yb, zn, zc, zo, zf, zd, List.set_cons_succ, List.set_cons_zero, O_mv, List.cons_append, List.nil_append, List.length_cons, List.length_nil, Nat.reduceSub, Nat.zero_add, zm, yc, zy, za, yq, w8, zg, zh, List.append_assoc, List.length_append, List.set_cons_zero, eq_self, yf, zs, y9, qx]
  refine p7 32 (fun b st => ∃ j : Nat → Value, st = ⟨[j 0, .pointer (some ⟨h.length, 0, some 0⟩), .pointer (some ⟨h.length + 1, 0, some 0⟩), j 3, j 4, .int .i64 b, j 6, j 7, j 8, j 9, j 10, j 11, j 12, j 13, j 14, j 15, j 16, j 17, j 18, j 19, j 20, j 21, j 22, j 23, j 24, j 25, j 26],
      h ++ [.cells (relV (zdz r b)) 0 false, .cells (relV fun _ => 0#32) 0 false]⟩) ?_ ?_ _ ?_
  · rintro b st hb ⟨j, rfl⟩
    simp only [ya, zt, yo, zb, zz, yb, zn, zc, zo, zf, ze, zd, List.set_cons_succ, List.set_cons_zero, O_mv, yy, yg, wi, zm, yc, zy, za, List.set_cons_zero, lt32 hb, decide_true]
    refine p7 32 (fun a st => ∃ j : Nat → Value, st = ⟨[j 0, .pointer (some ⟨h.length, 0, some 0⟩), .pointer (some ⟨h.length + 1, 0, some 0⟩), .int .i64 b, j 4, .int .i64 b, j 6, j 7, .int .i64 a, j 9, j 10, j 11, j 12, j 13, j 14, j 15, j 16, j 17, j 18, j 19, j 20, j 21, j 22, j 23, j 24, j 25, j 26],
      h ++ [.cells (relV (mix a (fun a => if (zdz r b a).getLsbD b then zdz r b a ||| zdz r b b else zdz r b a) (zdz r b))) 0 false, .cells (relV fun _ => 0#32) 0 false]⟩) ?_ ?_ _ ?_
    · rintro a st ha ⟨j, rfl⟩
      have hmid : mix a (fun a => if (zdz r b a).getLsbD b then zdz r b a ||| zdz r b b else zdz r b a) (zdz r b) b = zdz r b b := by
        unfold mix
        by_cases hq : b < a
        · simp only [if_pos hq, BitVec.or_self, ite_self]
        · rw [if_neg hq]
      cases hc : (zdz r b a).getLsbD b
      · simp only [ya, zt, yo, zb, zz, zw, yb, zn, zc, zo, zf, ze, zd, List.set_cons_succ, List.set_cons_zero, O_mv, yy, yg, ye, List.map_cons, List.map_nil, zx, zk, vz, wi, Nat.zero_add, zm, yc, zy, za, zi, zco, yr, ym, Nat.mul_one, List.set_cons_zero, zct, zbn, zlo, yp, lt32 ha, nat0, ha, decide_true, xp (k := a) (by omega), zc6, hc]
        rw [zfj (by simp [hc])]
        exact junk rfl
      · simp only [ya, zt, yo, zb, zz, yb, zn, zc, zp, zo, zf, ze, zd, List.set_cons_succ, List.set_cons_zero, O_mv, yy, yg, ye, List.map_cons, List.map_nil, zx, zk, vz, zu7, wi, Nat.zero_add, zm, yc, zy, za, zi, zco, zl, xc, xx, yr, ym, yh, j4, vl, Nat.mul_one, List.set_cons_zero, eq_self, zct, y9, zbn, pj, zlo, yp, u_or, lt32 ha, nat0, ha, hb, decide_true, xp (k := a) (by omega), zc6, hc, if_true, hmid]
        exact junk rfl
    · rintro st ⟨j, rfl⟩
      simp only [ya, zt, vc, zb, zw, yb, zn, zc, zo, zf, ze, zd, List.set_cons_succ, List.set_cons_zero, O_mv, yy, yg, vz, wi, zm, yc, za, yz, zi, yj, List.set_cons_zero, ph, yp, xm, zko, decide_false, xp (k := b) (by omega)]
      exact junk rfl
    · simp only [zc8]
      exact junk rfl
  · rintro st ⟨j, rfl⟩
    simp only [ya, zt, vc, xf, zb, zw, yb, zn, zc, zp, zo, zf, ze, zd, List.set_cons_succ, List.set_cons_zero, yy, yg, xr, y4, wi, zm, yc, za, yz, yj, zl, yu, z6, qg, xk, qy, xd, yh, ve, vk, vp, zr, Option.map_some, List.set_cons_zero, kv, qq, zbm, eq_self, y9, xm, zko, decide_false]
    rfl
  · exact junk rfl
def zt0 (r : Nat → U) : Bool := zjw r fun _ => 0#32
theorem zly (r : Nat → U) (h : Heap) : DF FF zei [agg (relV r)] h = some (.bool (zt0 r), h) := by
  refine wj zrr ?_
  simp only [zkv, ya, xf, zb, yb, zn, zc, zo, zf, ze, zd, List.set_cons_succ, List.set_cons_zero, O_mv, yg, xr, y4, wd, y6, yd, yx, List.cons_append, List.nil_append, List.length_cons, List.length_nil, Nat.reduceSub, Nat.zero_add, zm, yc, za, w8, xk, xd, zg, zh, Option.map_some, List.set_cons_zero, Bool.bne_false, eq_self, yf, zs, zos, ycv, y9, qx]
  rw [zf8 _ _ _ _ _ rfl]
  simp [zt0]
end Go.Proofs.YtljdbheclfaloaaGreatDoor.AM

namespace Go.Proofs.YtljdbheclfaloaaGreatDoor.AM
open Go.RowKit
set_option linter.unusedSimpArgs false
set_option linter.unusedVariables false

theorem Rels.len {h : Heap} {s : Value} {rs : List (Nat → U)} (e : Rels h s rs) (H : Heap) : lenO H s = some (.int .i64 rs.length, H) := by
  have := Sl.len e H
  rwa [List.length_map] at this
theorem Rels.at {h : Heap} {s : Value} {rs : List (Nat → U)} (e : Rels h s rs) {k : Nat} (hk : k < rs.length) : ∃ b o v, (∀ H, rowO H 32 s (.int .i64 (k : Int)) = some (.pointer (some ⟨b, o, some v⟩), H)) ∧ ∀ L, Heap.read (h ++ L) ⟨b, o, some v⟩ 32 = some (relV rs[k]) := by
  obtain ⟨b, o, v, h1, h2⟩ := Sl.at e (k := k) (by rw [List.length_map]; exact hk)
  exact ⟨b, o, v, h1, fun L => by rw [h2, List.getElem_map]⟩

def b6 (rs : List (Nat → U)) : Nat → U := fun e => rs.foldl (fun acc r => acc ||| r e) 0#32
theorem zrq (rs : List (Nat → U)) {k : Nat} (hk : k < rs.length) : b6 (rs.take (k + 1)) = fun e => b6 (rs.take k) e ||| rs[k] e := by
  funext e; unfold b6; rw [List.take_succ_eq_append_getElem hk, List.foldl_append]; rfl
theorem zej (rs : List (Nat → U)) (s : Value) (h : Heap) (hs : Rels h s rs) (hl : rs.length < 4611686018427387904) : DF FF gk [s] h = some (agg (relV (b6 rs)), h) := by
  refine wj zrs ?_
  simp only [zkw, ya, zb, yb, zn, zc, zo, zf, ze, zd, List.set_cons_succ, List.set_cons_zero, O_mv, fc, List.cons_append, List.nil_append, List.length_cons, List.length_nil, Nat.reduceSub, Nat.zero_add, zm, yc, zy, za, yq, zg, zh, List.append_assoc, List.length_append, List.set_cons_zero, qx, hs.len]
  refine p7 rs.length (fun k st => ∃ (J : Heap) (j : Nat → Value), st = ⟨[j 0, j 1, .pointer (some ⟨h.length, 0, some 0⟩), .pointer (some ⟨h.length + 1, 0, some 0⟩), j 4, j 5, j 6, s, .int .i64 rs.length, .int .i64 k, j 10, j 11, j 12, j 13, j 14, j 15, j 16, j 17, j 18, j 19, j 20, j 21, j 22, j 23, j 24, j 25, j 26],
      h ++ (.cells (relV fun _ => 0#32) 0 false :: .cells (relV (b6 (rs.take k))) 0 false :: J)⟩) ?_ ?_ _ ?_
  · rintro k st hk ⟨J, j, rfl⟩
    obtain ⟨b, o, v, hp1, hp2⟩ := hs.at hk
    have h1 : (k : Int) < rs.length := by omega
    simp only [ya, zt, yo, zb, zz, yb, zn, zc, zp, zo, zf, ze, zd, List.set_cons_succ, List.set_cons_zero, O_mv, yy, yg, vg, xr, y4, wi, List.cons_append, List.length_cons, zm, yc, zy, za, yq, zl, yu, z6, yh, ve, vk, zu, vp, zr, List.append_assoc, List.length_append, Option.map_some, List.set_cons_zero, eq_self, y9, h1, decide_true, hp1, hp2]
    refine p7 32 (fun e st => ∃ j : Nat → Value, st = ⟨[j 0, j 1, .pointer (some ⟨h.length, 0, some 0⟩), .pointer (some ⟨h.length + 1, 0, some 0⟩), j 4, .pointer (some ⟨h.length + (J.length + 1 + 1), 0, some 0⟩), j 6, s, .int .i64 rs.length, .int .i64 k, j 10, j 11, j 12, .int .i64 e, j 14, j 15, j 16, j 17, j 18, j 19, j 20, j 21, j 22, j 23, j 24, j 25, j 26],
      h ++ (.cells (relV fun _ => 0#32) 0 false :: .cells (relV (mix e (fun e => b6 (rs.take k) e ||| rs[k] e) (b6 (rs.take k)))) 0 false :: (J ++ [.cells (relV rs[k]) 0 false]))⟩) ?_ ?_ _ ?_
    · rintro e st he ⟨j, rfl⟩
      simp only [ya, zt, yo, zb, zz, yb, zn, zc, zp, zo, zf, ze, zd, List.set_cons_succ, List.set_cons_zero, O_mv, yy, yg, zx, zk, vz, zu7, wi, Nat.zero_add, zm, yc, zy, za, zi, zco, zl, xc, xx, fk, yr, bo, ym, yh, ve, bd, b9, vl, Nat.mul_one, List.set_cons_zero, eq_self, zct, y9, zbn, pj, zlo, yp, u_or, lt32 he, nat0, he, decide_true, xp (k := e) (by omega)]
      exact junk rfl
    · rintro st ⟨j, rfl⟩
      simp only [ya, zt, vc, zb, zw, yb, zn, zc, zo, zf, ze, zd, List.set_cons_succ, List.set_cons_zero, O_mv, yy, yg, vz, wi, zm, yc, za, yz, zi, yj, List.set_cons_zero, ph, yp, xm, zko, decide_false, xp (k := k) (by omega), zrq rs hk]
      exact ⟨_, junk rfl⟩
    · simp only [zc8]
      exact junk rfl
  · rintro st ⟨J, j, rfl⟩
    have h1 : ¬ ((rs.length : Nat) : Int) < rs.length := by omega
    simp only [ya, zt, vc, xf, zb, zw, yb, zn, zc, zp, zo, ze, zd, List.set_cons_succ, List.set_cons_zero, yy, yg, xr, y4, wi, zm, yc, za, yz, yj, zl, yu, z6, qg, xk, qy, xd, yh, zu, zr, Option.map_some, List.set_cons_zero, kv, qq, zbm, eq_self, y9, xm, h1, decide_false, List.take_length]
  · exact ⟨[], junk rfl⟩
def zb8 (rs : List (Nat → U)) : Nat → U := fun e => rs.foldl (fun acc r => acc &&& r e) (zd1 (BitVec.allOnes 32) (BitVec.allOnes 32) e)
theorem zu5 (rs : List (Nat → U)) {k : Nat} (hk : k < rs.length) : zb8 (rs.take (k + 1)) = fun e => zb8 (rs.take k) e &&& rs[k] e := by
  funext e; unfold zb8; rw [List.take_succ_eq_append_getElem hk, List.foldl_append]; rfl
theorem zix (rs : List (Nat → U)) (s : Value) (h : Heap) (hs : Rels h s rs) (hl : rs.length < 4611686018427387904) : DF FF bp [s] h = some (agg (relV (zb8 rs)), h) := by
  have key : ∀ H, DF FF zal [.int .u32 4294967295, .int .u32 4294967295] H = some (agg (relV (zd1 (BitVec.allOnes 32) (BitVec.allOnes 32))), H) := fun H => zg2 (BitVec.allOnes 32) (BitVec.allOnes 32) H
  refine wj zva ?_
  simp only [zme, ya, zb, yb, zn, zc, zp, zo, zf, ze, zd, List.set_cons_succ, List.set_cons_zero, O_mv, ye, List.map_cons, List.map_nil, fc, List.cons_append, List.nil_append, List.length_cons, List.length_nil, Nat.reduceSub, Nat.zero_add, zm, yc, zy, za, yq, zl, yu, z6, yh, ve, vk, vp, zr, zg, zh, List.append_assoc, List.length_append, List.set_cons_zero, eq_self, y9, qx, hs.len, key]
  refine p7 rs.length (fun k st => ∃ (J : Heap) (j : Nat → Value), st = ⟨[j 0, j 1, .pointer (some ⟨h.length, 0, some 0⟩), .pointer (some ⟨h.length + 1, 0, some 0⟩), j 4, j 5, j 6, j 7, s, .int .i64 rs.length, .int .i64 k, j 11, j 12, j 13, j 14, j 15, j 16, j 17, j 18, j 19, j 20, j 21, j 22, j 23, j 24, j 25, j 26, j 27],
      h ++ (.cells (relV fun _ => 0#32) 0 false :: .cells (relV (zb8 (rs.take k))) 0 false :: J)⟩) ?_ ?_ _ ?_
  · rintro k st hk ⟨J, j, rfl⟩
    obtain ⟨b, o, v, hp1, hp2⟩ := hs.at hk
    have h1 : (k : Int) < rs.length := by omega
    simp only [ya, zt, yo, zb, zz, yb, zn, zc, zp, zo, zf, ze, zd, List.set_cons_succ, List.set_cons_zero, O_mv, yy, yg, vg, xr, y4, wi, List.cons_append, List.length_cons, zm, yc, zy, za, yq, zl, yu, z6, yh, ve, vk, zu, vp, zr, List.append_assoc, List.length_append, Option.map_some, List.set_cons_zero, eq_self, y9, h1, decide_true, hp1, hp2]
    refine p7 32 (fun e st => ∃ j : Nat → Value, st = ⟨[j 0, j 1, .pointer (some ⟨h.length, 0, some 0⟩), .pointer (some ⟨h.length + 1, 0, some 0⟩), j 4, .pointer (some ⟨h.length + (J.length + 1 + 1), 0, some 0⟩), j 6, j 7, s, .int .i64 rs.length, .int .i64 k, j 11, j 12, j 13, .int .i64 e, j 15, j 16, j 17, j 18, j 19, j 20, j 21, j 22, j 23, j 24, j 25, j 26, j 27],
      h ++ (.cells (relV fun _ => 0#32) 0 false :: .cells (relV (mix e (fun e => zb8 (rs.take k) e &&& rs[k] e) (zb8 (rs.take k)))) 0 false :: (J ++ [.cells (relV rs[k]) 0 false]))⟩) ?_ ?_ _ ?_
    · rintro e st he ⟨j, rfl⟩
      simp only [ya, zt, yo, zb, zz, yb, zn, zc, zp, zo, zf, ze, zd, List.set_cons_succ, List.set_cons_zero, O_mv, yy, yg, zx, zk, vz, zqy, wi, Nat.zero_add, zm, yc, zy, za, zi, zco, zl, xc, xx, fk, yr, bo, ym, yh, ve, bd, b9, vl, Nat.mul_one, List.set_cons_zero, eq_self, zct, y9, zbn, pj, zlo, yp, zxq, lt32 he, nat0, he, decide_true, xp (k := e) (by omega)]
      exact junk rfl
    · rintro st ⟨j, rfl⟩
      simp only [ya, zt, vc, zb, zw, yb, zn, zc, zo, zf, ze, zd, List.set_cons_succ, List.set_cons_zero, O_mv, yy, yg, vz, wi, zm, yc, za, yz, zi, yj, List.set_cons_zero, ph, yp, xm, zko, decide_false, xp (k := k) (by omega), zu5 rs hk]
      exact ⟨_, junk rfl⟩
    · simp only [zc8]
      exact junk rfl
  · rintro st ⟨J, j, rfl⟩
    have h1 : ¬ ((rs.length : Nat) : Int) < rs.length := by omega
    simp only [ya, zt, vc, xf, zb, zw, yb, zn, zc, zp, zo, ze, zd, List.set_cons_succ, List.set_cons_zero, yy, yg, xr, y4, wi, zm, yc, za, yz, yj, zl, yu, z6, qg, xk, qy, xd, yh, zu, zr, Option.map_some, List.set_cons_zero, kv, qq, zbm, eq_self, y9, xm, h1, decide_false, List.take_length]
  · exact ⟨[], junk rfl⟩
def twoR (a b : Nat → U) : Nat → U := fun e => zzj (a e) b
def seqK (rs : List (Nat → U)) : Nat → U := rs.foldl twoR (idR (BitVec.allOnes 32))
theorem zz2 (rs : List (Nat → U)) {k : Nat} (hk : k < rs.length) : seqK (rs.take (k + 1)) = fun e => zzj (seqK (rs.take k) e) rs[k] := by
  unfold seqK; rw [List.take_succ_eq_append_getElem hk, List.foldl_append]; rfl
theorem zij (rs : List (Nat → U)) (s : Value) (h : Heap) (hs : Rels h s rs) (hl : rs.length < 4611686018427387904) : DF FF zab [s] h = some (agg (relV (seqK rs)), h) := by
  have key : ∀ H, DF FF zad [.int .u32 4294967295] H = some (agg (relV (idR (BitVec.allOnes 32))), H) := fun H => zgj (BitVec.allOnes 32) H
  refine wj zwc ?_
  simp only [zqm, ya, zb, yb, zn, zc, zp, zo, zf, ze, zd, List.set_cons_succ, List.set_cons_zero, O_mv, ye, List.map_cons, List.map_nil, fc, List.cons_append, List.nil_append, List.length_cons, List.length_nil, Nat.reduceSub, Nat.zero_add, zm, yc, zy, za, yq, zl, yu, z6, yh, ve, vk, vp, zr, zg, zh, List.append_assoc, List.length_append, List.set_cons_zero, eq_self, y9, qx, hs.len, key]
  refine p7 rs.length (fun k st => ∃ (J : Heap) (j : Nat → Value), st = ⟨[j 0, j 1, .pointer (some ⟨h.length, 0, some 0⟩), .pointer (some ⟨h.length + 1, 0, some 0⟩), j 4, j 5, j 6, j 7, s, .int .i64 rs.length, .int .i64 k, j 11, j 12, j 13, j 14, j 15, j 16, j 17, j 18, j 19, j 20, j 21, j 22, j 23, j 24, j 25, j 26],
      h ++ (.cells (relV fun _ => 0#32) 0 false :: .cells (relV (seqK (rs.take k))) 0 false :: J)⟩) ?_ ?_ _ ?_
  · rintro k st hk ⟨J, j, rfl⟩
    obtain ⟨b, o, v, hp1, hp2⟩ := hs.at hk
    have h1 : (k : Int) < rs.length := by omega
    simp only [ya, zt, yo, zb, zz, yb, zn, zc, zp, zo, zf, ze, zd, List.set_cons_succ, List.set_cons_zero, O_mv, yy, yg, vg, xr, y4, wi, List.cons_append, List.length_cons, zm, yc, zy, za, yq, zl, yu, z6, yh, ve, vk, zu, vp, zr, List.append_assoc, List.length_append, Option.map_some, List.set_cons_zero, eq_self, y9, h1, decide_true, hp1, hp2]
    refine p7 32 (fun e st => ∃ j : Nat → Value, st = ⟨[j 0, j 1, .pointer (some ⟨h.length, 0, some 0⟩), .pointer (some ⟨h.length + 1, 0, some 0⟩), j 4, .pointer (some ⟨h.length + (J.length + 1 + 1), 0, some 0⟩), j 6, j 7, s, .int .i64 rs.length, .int .i64 k, j 11, j 12, j 13, .int .i64 e, j 15, j 16, j 17, j 18, j 19, j 20, j 21, j 22, j 23, j 24, j 25, j 26],
      h ++ (.cells (relV fun _ => 0#32) 0 false :: .cells (relV (mix e (fun e => zzj (seqK (rs.take k) e) rs[k]) (seqK (rs.take k)))) 0 false :: (J ++ [.cells (relV rs[k]) 0 false]))⟩) ?_ ?_ _ ?_
    · rintro e st he ⟨j, rfl⟩
      simp only [ya, zt, yo, zb, zz, yb, zn, zc, zp, zo, zf, ze, zd, List.set_cons_succ, List.set_cons_zero, O_mv, yy, yg, ye, List.map_cons, List.map_nil, zx, zk, xr, y4, vz, wi, Nat.zero_add, zm, yc, zy, za, zi, zco, zl, xc, xx, fk, bo, ym, qg, xk, qy, xd, yh, ve, bd, b9, vl, Nat.mul_one, Option.map_some, List.set_cons_zero, eq_self, zct, y9, zbn, pj, zlo, yp, lt32 he, nat0, he, decide_true, xp (k := e) (by omega), zvn]
      exact junk rfl
    · rintro st ⟨j, rfl⟩
      simp only [ya, zt, vc, zb, zw, yb, zn, zc, zo, zf, ze, zd, List.set_cons_succ, List.set_cons_zero, O_mv, yy, yg, vz, wi, zm, yc, za, yz, zi, yj, List.set_cons_zero, ph, yp, xm, zko, decide_false, xp (k := k) (by omega), zz2 rs hk]
      exact ⟨_, junk rfl⟩
    · simp only [zc8]
      exact junk rfl
  · rintro st ⟨J, j, rfl⟩
    have h1 : ¬ ((rs.length : Nat) : Int) < rs.length := by omega
    simp only [ya, zt, vc, xf, zb, zw, yb, zn, zc, zp, zo, ze, zd, List.set_cons_succ, List.set_cons_zero, yy, yg, xr, y4, wi, zm, yc, za, yz, yj, zl, yu, z6, qg, xk, qy, xd, yh, zu, zr, Option.map_some, List.set_cons_zero, kv, qq, zbm, eq_self, y9, xm, h1, decide_false, List.take_length]
  · exact ⟨[], junk rfl⟩

/-! Two, three of them, just laid. -/
theorem Rels.last2 (h : Heap) (f g : Nat → U) : Rels (h ++ [.cells (relV f ++ relV g) 0 false]) (.slice (some ⟨h.length, 0, some 0⟩) 2 32) [f, g] :=
  Sl.last (rows := [relV f, relV g]) h (by simp) rfl (by simp [y9]) 0 false
theorem Rels.last3 (h : Heap) (f g k : Nat → U) : Rels (h ++ [.cells (relV f ++ relV g ++ relV k) 0 false]) (.slice (some ⟨h.length, 0, some 0⟩) 3 32) [f, g, k] :=
  Sl.last (rows := [relV f, relV g, relV k]) h (by simp) rfl (by simp [y9]) 0 false
theorem yas (h : Heap)  (L : Heap) (f g : Nat → U) : DF FF gk [.slice (some ⟨h.length, 0, some 0⟩) 2 32] (h ++ (AObj.cells (relV f ++ relV g) 0 false :: L)) = some (agg (relV (b6 [f, g])), h ++ (AObj.cells (relV f ++ relV g) 0 false :: L)) := by
  have := zej [f, g] _ _ ((Rels.last2 (h ++ []) f g).more L) (by simp)
  simpa using this
theorem zx3 (h : Heap) (a0 : AObj) (L : Heap) (f g : Nat → U) : DF FF bp [.slice (some ⟨h.length + 1, 0, some 0⟩) 2 32] (h ++ (a0 :: AObj.cells (relV f ++ relV g) 0 false :: L)) = some (agg (relV (zb8 [f, g])), h ++ (a0 :: AObj.cells (relV f ++ relV g) 0 false :: L)) := by
  have := zix [f, g] _ _ ((Rels.last2 (h ++ [a0]) f g).more L) (by simp)
  simpa using this
theorem zue (h : Heap) (a0 a1 : AObj) (L : Heap) (f g : Nat → U) : DF FF gk [.slice (some ⟨h.length + 2, 0, some 0⟩) 2 32] (h ++ (a0 :: a1 :: AObj.cells (relV f ++ relV g) 0 false :: L)) = some (agg (relV (b6 [f, g])), h ++ (a0 :: a1 :: AObj.cells (relV f ++ relV g) 0 false :: L)) := by
  have := zej [f, g] _ _ ((Rels.last2 (h ++ [a0, a1]) f g).more L) (by simp)
  simpa using this
theorem yes (h : Heap) (a0 a1 : AObj) (L : Heap) (f g : Nat → U) : DF FF zab [.slice (some ⟨h.length + 2, 0, some 0⟩) 2 32] (h ++ (a0 :: a1 :: AObj.cells (relV f ++ relV g) 0 false :: L)) = some (agg (relV (seqK [f, g])), h ++ (a0 :: a1 :: AObj.cells (relV f ++ relV g) 0 false :: L)) := by
  have := zij [f, g] _ _ ((Rels.last2 (h ++ [a0, a1]) f g).more L) (by simp)
  simpa using this
theorem yfl (h : Heap) (a0 a1 a2 : AObj) (L : Heap) (f g : Nat → U) : DF FF zab [.slice (some ⟨h.length + 3, 0, some 0⟩) 2 32] (h ++ (a0 :: a1 :: a2 :: AObj.cells (relV f ++ relV g) 0 false :: L)) = some (agg (relV (seqK [f, g])), h ++ (a0 :: a1 :: a2 :: AObj.cells (relV f ++ relV g) 0 false :: L)) := by
  have := zij [f, g] _ _ ((Rels.last2 (h ++ [a0, a1, a2]) f g).more L) (by simp)
  simpa using this
theorem yav (h : Heap) (a0 a1 a2 a3 : AObj) (L : Heap) (f g : Nat → U) : DF FF gk [.slice (some ⟨h.length + 4, 0, some 0⟩) 2 32] (h ++ (a0 :: a1 :: a2 :: a3 :: AObj.cells (relV f ++ relV g) 0 false :: L)) = some (agg (relV (b6 [f, g])), h ++ (a0 :: a1 :: a2 :: a3 :: AObj.cells (relV f ++ relV g) 0 false :: L)) := by
  have := zej [f, g] _ _ ((Rels.last2 (h ++ [a0, a1, a2, a3]) f g).more L) (by simp)
  simpa using this
theorem zwn (h : Heap) (a0 a1 a2 a3 : AObj) (L : Heap) (f g : Nat → U) : DF FF bp [.slice (some ⟨h.length + 4, 0, some 0⟩) 2 32] (h ++ (a0 :: a1 :: a2 :: a3 :: AObj.cells (relV f ++ relV g) 0 false :: L)) = some (agg (relV (zb8 [f, g])), h ++ (a0 :: a1 :: a2 :: a3 :: AObj.cells (relV f ++ relV g) 0 false :: L)) := by
  have := zix [f, g] _ _ ((Rels.last2 (h ++ [a0, a1, a2, a3]) f g).more L) (by simp)
  simpa using this
theorem ye2 (h : Heap) (a0 a1 a2 a3 : AObj) (L : Heap) (f g : Nat → U) : DF FF zab [.slice (some ⟨h.length + 4, 0, some 0⟩) 2 32] (h ++ (a0 :: a1 :: a2 :: a3 :: AObj.cells (relV f ++ relV g) 0 false :: L)) = some (agg (relV (seqK [f, g])), h ++ (a0 :: a1 :: a2 :: a3 :: AObj.cells (relV f ++ relV g) 0 false :: L)) := by
  have := zij [f, g] _ _ ((Rels.last2 (h ++ [a0, a1, a2, a3]) f g).more L) (by simp)
  simpa using this
theorem ybb (h : Heap) (a0 a1 a2 a3 a4 : AObj) (L : Heap) (f g : Nat → U) : DF FF gk [.slice (some ⟨h.length + 5, 0, some 0⟩) 2 32] (h ++ (a0 :: a1 :: a2 :: a3 :: a4 :: AObj.cells (relV f ++ relV g) 0 false :: L)) = some (agg (relV (b6 [f, g])), h ++ (a0 :: a1 :: a2 :: a3 :: a4 :: AObj.cells (relV f ++ relV g) 0 false :: L)) := by
  have := zej [f, g] _ _ ((Rels.last2 (h ++ [a0, a1, a2, a3, a4]) f g).more L) (by simp)
  simpa using this
theorem yfh (h : Heap) (a0 a1 a2 a3 a4 a5 : AObj) (L : Heap) (f g k : Nat → U) : DF FF zab [.slice (some ⟨h.length + 6, 0, some 0⟩) 3 32] (h ++ (a0 :: a1 :: a2 :: a3 :: a4 :: a5 :: AObj.cells (relV f ++ (relV g ++ relV k)) 0 false :: L)) = some (agg (relV (seqK [f, g, k])), h ++ (a0 :: a1 :: a2 :: a3 :: a4 :: a5 :: AObj.cells (relV f ++ (relV g ++ relV k)) 0 false :: L)) := by
  have := zij [f, g, k] _ _ ((Rels.last3 (h ++ [a0, a1, a2, a3, a4, a5]) f g k).more L) (by simp)
  simpa using this
theorem ydo (h : Heap) (a0 a1 a2 a3 a4 a5 a6 : AObj) (L : Heap) (f g : Nat → U) : DF FF bp [.slice (some ⟨h.length + 7, 0, some 0⟩) 2 32] (h ++ (a0 :: a1 :: a2 :: a3 :: a4 :: a5 :: a6 :: AObj.cells (relV f ++ relV g) 0 false :: L)) = some (agg (relV (zb8 [f, g])), h ++ (a0 :: a1 :: a2 :: a3 :: a4 :: a5 :: a6 :: AObj.cells (relV f ++ relV g) 0 false :: L)) := by
  have := zix [f, g] _ _ ((Rels.last2 (h ++ [a0, a1, a2, a3, a4, a5, a6]) f g).more L) (by simp)
  simpa using this
end Go.Proofs.YtljdbheclfaloaaGreatDoor.AM

namespace Go.Proofs.YtljdbheclfaloaaGreatDoor.AM
open Go.RowKit
set_option linter.unusedSimpArgs false
set_option linter.unusedVariables false

def ygo (r : Nat → U) : Nat → Nat → Bool := fun a b => (r a).getLsbD b
def zgz (t : Nat → Nat → Bool) : Nat → Nat → Nat → Bool
  | 0 => t
  | k + 1 => fun a b => zgz t k a b || (zgz t k a k && zgz t k k b)
end Go.Proofs.YtljdbheclfaloaaGreatDoor.AM

namespace Go.Proofs.YtljdbheclfaloaaGreatDoor.AM
open Go.RowKit
set_option linter.unusedSimpArgs false
set_option linter.unusedVariables false

theorem zu9 (u : U) (r : Nat → U) (h : Heap) : DF FF zi1 [.int .u32 u.toNat, agg (relV r)] h = some (agg (relV (b6 [zgr r, idR u])), h) := by
  refine wj zvt ?_
  simp only [znl, ya, xf, zb, yb, zn, zc, zp, zo, ze, zd, List.set_cons_succ, List.set_cons_zero, O_mv, yg, ye, List.map_cons, List.map_nil, xr, y4, vd, w6, yd, z8, xe, xg, List.cons_append, List.nil_append, List.length_cons, List.length_nil, Nat.reduceAdd, Nat.reduceSub, Nat.zero_add, zm, yc, za, slc, yq, w8, zl, yu, z6, qg, xk, qy, xd, yh, ve, vk, vp, zr, zg, zh, List.append_assoc, List.length_append, List.append_nil, Option.map_some, List.set_cons_zero, zfk, kv, qq, zbm, eq_self, yf, zs, y9, qx, zim, zgj, zue]
theorem zq3 (u : U) (r : Nat → U) (h : Heap) : DF FF zg8 [.int .u32 u.toNat, agg (relV r)] h = some (agg (relV (b6 [r, idR u])), h) := by
  refine wj zrh ?_
  simp only [zky, ya, xf, zb, yb, zn, zc, zp, zo, ze, zd, List.set_cons_succ, List.set_cons_zero, O_mv, yg, ye, List.map_cons, List.map_nil, xr, y4, vd, w6, yd, z8, xe, xg, List.cons_append, List.nil_append, List.length_cons, List.length_nil, Nat.reduceAdd, Nat.reduceSub, Nat.zero_add, zm, yc, za, slc, yq, w8, zl, yu, z6, qg, xk, qy, xd, yh, ve, vk, vp, zr, zg, zh, List.append_assoc, List.length_append, List.append_nil, Option.map_some, List.set_cons_zero, zfk, kv, qq, zbm, eq_self, yf, zs, zrn, zlg, y9, qx, zgj, zue]
def zrf (r : Nat → U) : Bool := zt0 (zb8 [r, idR (BitVec.allOnes 32)])
theorem zd7 (r : Nat → U) (h : Heap) : DF FF pq [agg (relV r)] h = some (.bool (zrf r), h) := by
  have key : ∀ H, DF FF zad [.int .u32 4294967295] H = some (agg (relV (idR (BitVec.allOnes 32))), H) := fun H => zgj (BitVec.allOnes 32) H
  refine wj zi0 ?_
  simp only [zdr, ya, xf, zb, yb, zn, zc, zp, zo, zf, ze, zd, List.set_cons_succ, List.set_cons_zero, O_mv, yg, ye, List.map_cons, List.map_nil, xr, y4, vd, w6, yd, z8, xe, xg, List.cons_append, List.nil_append, List.length_cons, List.length_nil, Nat.reduceSub, Nat.zero_add, zm, yc, za, slc, w8, xk, xd, zg, zh, List.append_assoc, List.length_append, List.append_nil, Option.map_some, List.set_cons_zero, zfk, eq_self, yf, zs, zrn, zlg, y9, qx, key, zx3, zly]
  rw [zf8 _ _ _ _ _ rfl]
  rfl
def ztl (r : Nat → U) : Bool := zrf (zgr r)
theorem znv (r : Nat → U) (h : Heap) : DF FF zey [agg (relV r)] h = some (.bool (ztl r), h) := by
  refine wj zns ?_
  simp only [zhq, ya, xf, zb, yb, zn, zc, zo, zf, ze, zd, List.set_cons_succ, List.set_cons_zero, O_mv, yg, ye, List.map_cons, List.map_nil, xr, y4, List.cons_append, List.nil_append, List.length_cons, List.length_nil, Nat.reduceSub, Nat.zero_add, zm, yc, za, w8, xk, xd, zg, zh, Option.map_some, List.set_cons_zero, eq_self, yf, zs, y9, zim, zd7]
  rw [zf8 _ _ _ _ _ rfl]
  rfl
/-! Bits counted. -/
end Go.Proofs.YtljdbheclfaloaaGreatDoor.AM

namespace Go.Proofs.YtljdbheclfaloaaGreatDoor.AM
open Go.RowKit
set_option linter.unusedSimpArgs false
set_option linter.unusedVariables false

/-! Sets of events. -/
/-! Pairs. -/
end Go.Proofs.YtljdbheclfaloaaGreatDoor.AM

namespace Go.Proofs.YtljdbheclfaloaaGreatDoor.AM
open Go.RowKit
set_option linter.unusedSimpArgs false
set_option linter.unusedVariables false

abbrev Bt (r : Nat → U) (a b : Nat) : Prop := (r a).getLsbD b = true
theorem bool_iff {x y : Bool} : x = y ↔ (x = true ↔ y = true) := by cases x <;> cases y <;> simp
theorem zwx {f g : Nat → U} (h : ∀ a b, a < 32 → b < 32 → (Bt f a b ↔ Bt g a b)) : zjw f g = true :=
  sameR_iff.2 fun k hk => yeh fun i hi => bool_iff.2 (h k i hk hi)
theorem zhn {i : Nat} (hi : i < 32) : (BitVec.allOnes 32).getLsbD i = true := by rw [BitVec.getLsbD_allOnes]; simp [hi]
theorem yc0 (s : U) (a : Nat) {b : Nat} (hb : b < 32) : Bt (idR s) a b ↔ s.getLsbD b = true ∧ b = a := by
  unfold Bt idR; rw [BitVec.getLsbD_and, ye1 hb, Bool.and_eq_true, decide_eq_true_eq]
theorem zxd (s t : U) (a b : Nat) : Bt (zd1 s t) a b ↔ s.getLsbD a = true ∧ t.getLsbD b = true := by
  unfold Bt zd1; cases h : s.getLsbD a <;> simp
theorem zza (f g : Nat → U) (a : Nat) {b : Nat} (hb : b < 32) : Bt (zgv f g) a b ↔ Bt f a b ∧ ¬ Bt g a b := by
  unfold Bt zgv; rw [BitVec.getLsbD_and, BitVec.getLsbD_not]; simp [hb]
theorem zz8 (rs : List (Nat → U)) (e : Nat) (x : U) (b : Nat) : ((rs.foldl (fun acc r => acc ||| r e) x).getLsbD b = true) ↔ (x.getLsbD b = true ∨ ∃ r ∈ rs, Bt r e b) := by
  induction rs generalizing x with
  | nil => simp
  | cons r rs ih =>
    rw [List.foldl_cons, ih, BitVec.getLsbD_or, Bool.or_eq_true]
    simp only [List.mem_cons, exists_eq_or_imp, or_assoc]
theorem zy6 (rs : List (Nat → U)) (a b : Nat) : Bt (b6 rs) a b ↔ ∃ r ∈ rs, Bt r a b := by
  unfold Bt b6; rw [zz8]; simp
theorem zy3 (rs : List (Nat → U)) (e : Nat) (x : U) (b : Nat) : ((rs.foldl (fun acc r => acc &&& r e) x).getLsbD b = true) ↔ (x.getLsbD b = true ∧ ∀ r ∈ rs, Bt r e b) := by
  induction rs generalizing x with
  | nil => simp
  | cons r rs ih =>
    rw [List.foldl_cons, ih, BitVec.getLsbD_and, Bool.and_eq_true]
    simp only [List.forall_mem_cons, and_assoc]
theorem zoq (rs : List (Nat → U)) {a b : Nat} (ha : a < 32) (hb : b < 32) : Bt (zb8 rs) a b ↔ ∀ r ∈ rs, Bt r a b := by
  unfold Bt zb8; rw [zy3]
  have : Bt (zd1 (BitVec.allOnes 32) (BitVec.allOnes 32)) a b := (zxd _ _ a b).2 ⟨zhn ha, zhn hb⟩
  exact ⟨fun h => h.2, fun h => ⟨this, h⟩⟩
theorem zxr (s : U) (r : Nat → U) (k b : Nat) : (zjb s r k).getLsbD b = true ↔ ∃ e, e < k ∧ s.getLsbD e = true ∧ Bt r e b := by
  induction k with
  | zero => simp [zjb]
  | succ k ih =>
    rw [zjb]
    constructor
    · intro h
      split at h
      · rename_i hs
        rw [BitVec.getLsbD_or, Bool.or_eq_true, ih] at h
        rcases h with ⟨e, he, h1, h2⟩ | h
        · exact ⟨e, by omega, h1, h2⟩
        · exact ⟨k, by omega, hs, h⟩
      · obtain ⟨e, he, h1, h2⟩ := ih.1 h
        exact ⟨e, by omega, h1, h2⟩
    · rintro ⟨e, he, h1, h2⟩
      by_cases hk : e = k
      · subst hk; rw [if_pos h1, BitVec.getLsbD_or, Bool.or_eq_true]; exact .inr h2
      · have := ih.2 ⟨e, by omega, h1, h2⟩
        split
        · rw [BitVec.getLsbD_or, this]; rfl
        · exact this
theorem ya1 (s : U) (r : Nat → U) (b : Nat) : (zzj s r).getLsbD b = true ↔ ∃ e, e < 32 ∧ s.getLsbD e = true ∧ Bt r e b := zxr s r 32 b
theorem zlj (f g : Nat → U) (a b : Nat) : Bt (twoR f g) a b ↔ ∃ e, e < 32 ∧ Bt f a e ∧ Bt g e b := ya1 _ _ _
theorem yfq (f : Nat → U) {a : Nat} (ha : a < 32) : twoR (idR (BitVec.allOnes 32)) f a = f a := by
  refine yeh fun i hi => bool_iff.2 ?_
  rw [show ((twoR (idR (BitVec.allOnes 32)) f a).getLsbD i = true) = Bt (twoR (idR (BitVec.allOnes 32)) f) a i from rfl, zlj]
  constructor
  · rintro ⟨e, he, h1, h2⟩
    rw [yc0 _ _ he] at h1
    rw [← h1.2]; exact h2
  · intro h
    exact ⟨a, ha, (yc0 _ _ ha).2 ⟨zhn ha, rfl⟩, h⟩
theorem zzl {f f' g g' : Nat → U} {a : Nat} (ha : f a = f' a) (hg : ∀ e, e < 32 → g e = g' e) : twoR f g a = twoR f' g' a := by
  refine yeh fun i hi => bool_iff.2 ?_
  rw [show ((twoR f g a).getLsbD i = true) = Bt (twoR f g) a i from rfl, show ((twoR f' g' a).getLsbD i = true) = Bt (twoR f' g') a i from rfl, zlj, zlj]
  unfold Bt
  rw [ha]
  exact ⟨fun ⟨e, he, h1, h2⟩ => ⟨e, he, h1, by rw [← hg e he]; exact h2⟩, fun ⟨e, he, h1, h2⟩ => ⟨e, he, h1, by rw [hg e he]; exact h2⟩⟩
theorem zn3 (f g : Nat → U) {a : Nat} (ha : a < 32) (b : Nat) : Bt (seqK [f, g]) a b ↔ ∃ e, e < 32 ∧ Bt f a e ∧ Bt g e b := by
  have : seqK [f, g] a = twoR f g a := zzl (yfq f ha) fun _ _ => rfl
  unfold Bt; rw [this]; exact zlj f g a b
theorem yah (f g k : Nat → U) {a : Nat} (ha : a < 32) (b : Nat) : Bt (seqK [f, g, k]) a b ↔ ∃ e, e < 32 ∧ (∃ d, d < 32 ∧ Bt f a d ∧ Bt g d e) ∧ Bt k e b := by
  have : seqK [f, g, k] = twoR (seqK [f, g]) k := rfl
  rw [this, zlj]
  simp only [zn3 f g ha]
theorem zz6 (r : Nat → U) (k : Nat) (hk : k ≤ 32) (b : Nat) {a : Nat} (ha : a < 32) : Bt (invK r k) b a ↔ a < k ∧ Bt r a b := by
  induction k with
  | zero => simp [invK, Bt]
  | succ k ih =>
    have ih := ih (by omega)
    unfold Bt at ih ⊢
    rw [invK]
    simp only
    by_cases hc : (r k).getLsbD b = true
    · rw [if_pos hc, BitVec.getLsbD_or, Bool.or_eq_true, ih, ye1 ha, decide_eq_true_eq]
      constructor
      · rintro (⟨h1, h2⟩ | h)
        · exact ⟨by omega, h2⟩
        · subst h; exact ⟨by omega, hc⟩
      · rintro ⟨h1, h2⟩
        by_cases h : a = k
        · exact .inr h
        · exact .inl ⟨by omega, h2⟩
    · rw [if_neg hc, ih]
      constructor
      · rintro ⟨h1, h2⟩; exact ⟨by omega, h2⟩
      · rintro ⟨h1, h2⟩
        have : a ≠ k := by rintro rfl; exact hc h2
        exact ⟨by omega, h2⟩
theorem yef (r : Nat → U) (b : Nat) {a : Nat} (ha : a < 32) : Bt (invR r) b a ↔ Bt r a b := by
  unfold invR; rw [zz6 r 32 (Nat.le_refl _) b ha]; simp [ha]
theorem zo0 (r : Nat → U) (k : Nat) (hk : k ≤ 32) (a b : Nat) : (zdz r k a).getLsbD b = zgz (ygo r) k a b := by
  induction k generalizing a b with
  | zero => rfl
  | succ k ih =>
    have ih := ih (by omega)
    rw [zdz, zgz]
    simp only
    rw [← ih a b, ← ih a k, ← ih k b]
    split
    · rename_i h; rw [h, BitVec.getLsbD_or]; rfl
    · rename_i h; simp at h; rw [h]; simp

/-! The closure. -/
theorem ybj (t : Nat → Nat → Bool) (k : Nat) {a b : Nat} (h : t a b = true) : zgz t k a b = true := by
  induction k with
  | zero => exact h
  | succ k ih => rw [zgz]; simp only; rw [ih]; rfl
theorem zr8 (t : Nat → Nat → Bool) (k : Nat) : ∀ a m b, m < k → zgz t k a m = true → zgz t k m b = true → zgz t k a b = true := by
  induction k with
  | zero => intro a m b h; omega
  | succ k ih =>
    intro a m b hm h1 h2
    rw [zgz] at h1 h2 ⊢
    simp only [Bool.or_eq_true, Bool.and_eq_true] at h1 h2 ⊢
    by_cases e : m = k
    · subst e
      have g1 : zgz t m a m = true := by
          rcases h1 with h | h
          · exact h
          · exact h.1
      have g2 : zgz t m m b = true := by
          rcases h2 with h | h
          · exact h
          · exact h.2
      exact .inr ⟨g1, g2⟩
    · have hmk : m < k := by omega
      rcases h1 with h1 | ⟨h1, h1'⟩
      · rcases h2 with h2 | ⟨h2, h2'⟩
        · exact .inl (ih a m b hmk h1 h2)
        · exact .inr ⟨ih a m k hmk h1 h2, h2'⟩
      · rcases h2 with h2 | ⟨h2, h2'⟩
        · exact .inr ⟨h1, ih k m b hmk h1' h2⟩
        · exact .inr ⟨h1, h2'⟩
theorem zsu (t : Nat → Nat → Bool) (S : Nat → Nat → Prop) (hs : ∀ a b, t a b = true → S a b) (k : Nat) (ht : ∀ a m b, m < k → S a m → S m b → S a b) : ∀ a b, zgz t k a b = true → S a b := by
  induction k with
  | zero => exact hs
  | succ k ih =>
    intro a b h
    have ih := ih fun a m b hm => ht a m b (by omega)
    rw [zgz] at h
    simp only [Bool.or_eq_true, Bool.and_eq_true] at h
    rcases h with h | ⟨h1, h2⟩
    · exact ih a b h
    · exact ht a k b (by omega) (ih a k h1) (ih k b h2)
theorem yd9 (r : Nat → U) {a b : Nat} (h : Bt r a b) : Bt (zgr r) a b := by
  unfold Bt zgr; rw [zo0 r 32 (Nat.le_refl _)]; exact ybj _ _ h
theorem zu0 (r : Nat → U) {a m b : Nat} (hm : m < 32) (h1 : Bt (zgr r) a m) (h2 : Bt (zgr r) m b) : Bt (zgr r) a b := by
  unfold Bt zgr at *; rw [zo0 r 32 (Nat.le_refl _)] at *; exact zr8 _ _ a m b hm h1 h2
theorem zuw (r : Nat → U) (S : Nat → Nat → Prop) (hs : ∀ a b, Bt r a b → S a b) (ht : ∀ a m b, m < 32 → S a m → S m b → S a b) {a b : Nat} (h : Bt (zgr r) a b) : S a b := by
  unfold Bt zgr at h; rw [zo0 r 32 (Nat.le_refl _)] at h
  exact zsu _ S hs 32 ht a b h
theorem yew (x : U) : (((x.toNat : Int) == 0) : Bool) = (x == 0#32) := u_eq x 0#32
end Go.Proofs.YtljdbheclfaloaaGreatDoor.AM
namespace Go.Proofs.YtljdbheclfaloaaGreatDoor.AM
open Go.RowKit
set_option linter.unusedSimpArgs false
set_option linter.unusedVariables false
set_option maxRecDepth 20000

structure Vv where
  s : U
  r : Nat → U
def v0 : Vv := ⟨0#32, fun _ => 0#32⟩
abbrev En := List (Bys × Bool × Vv)
def jl (w : Bys) : En → Option (Bool × Vv)
  | [] => none
  | (k, b, v) :: r => if w == k then some (b, v) else jl w r
def evU (u : U) (o : Op1) (v : Vv) : Vv := match o with
  | .plus => ⟨0#32, zgr v.r⟩
  | .star => ⟨0#32, b6 [zgr v.r, idR u]⟩
  | .maybe => ⟨0#32, b6 [v.r, idR u]⟩
  | .inv => ⟨0#32, invR v.r⟩
def evB (o : Op2) (a b : Vv) : Vv := match o with
  | .or => ⟨a.s ||| b.s, b6 [a.r, b.r]⟩
  | .and => ⟨a.s &&& b.s, zb8 [a.r, b.r]⟩
  | .minus => ⟨a.s &&& ~~~ b.s, zgv a.r b.r⟩
  | .seq => ⟨0#32, seqK [a.r, b.r]⟩
  | .cross => ⟨0#32, zd1 a.s b.s⟩
def evE (u : U) (env : En) : Ex → Vv
  | .name _ _ w => ((jl w env).map (·.2)).getD v0
  | .zero _ => v0
  | .par _ _ e => evE u env e
  | .box _ e => ⟨0#32, idR (evE u env e).s⟩
  | .un o e => evU u o (evE u env e)
  | .bin _ o l r => evB o (evE u env l) (evE u env r)
def Typ (kn : Kn) : Ex → Prop
  | .name s _ w => jk kn w = some s
  | .zero _ => True
  | .par s _ e => s = e.set ∧ Typ kn e
  | .box _ e => e.set = true ∧ Typ kn e
  | .un _ e => e.set = false ∧ Typ kn e
  | .bin s o l r => Typ kn l ∧ Typ kn r ∧ (match o with | .seq => l.set = false ∧ r.set = false | .cross => l.set = true ∧ r.set = true | _ => s = l.set ∧ r.set = l.set)
theorem zed {kn : Kn} {rc : List Bys} : ∀ {e e' : Ex} {rt : Bool}, chkE kn rc rt e = .ok e' → Typ kn e'
  | .name s a w, e', rt, h => by
    rw [chkE] at h
    split at h
    · cases h
    · rename_i t ht
      split at h
      · cases h
      · cases h; exact ht
  | .zero a, e', rt, h => by rw [chkE] at h; cases h; trivial
  | .par s a e, e', rt, h => by
    rw [chkE] at h
    split at h
    · cases h
    · rename_i x hx
      cases h; exact ⟨rfl, zed hx⟩
  | .box a e, e', rt, h => by
    rw [chkE] at h
    split at h
    · cases h
    · rename_i x hx
      split at h
      · rename_i hs; cases h; exact ⟨hs, zed hx⟩
      · cases h
  | .un o e, e', rt, h => by
    rw [chkE] at h
    split at h
    · cases h
    · rename_i x hx
      split at h
      · cases h
      · rename_i hs; cases h; exact ⟨by simpa using hs, zed hx⟩
  | .bin s o l r, e', rt, h => by
    rw [chkE] at h
    cases hl : chkE kn rc rt l with
    | bad c a => rw [hl] at h; cases h
    | ok l' =>
      rw [hl] at h
      simp only at h
      cases hr : chkE kn rc (rt || o == .minus) r with
      | bad c a => rw [hr] at h; cases h
      | ok r' =>
        rw [hr] at h
        have tl := zed hl
        have tr := zed hr
        cases o
        case seq =>
          simp only at h
          split at h
          · cases h
          · split at h
            · cases h
            · rename_i h1 h2; cases h; exact ⟨tl, tr, by simpa using h1, by simpa using h2⟩
        case cross =>
          simp only at h
          split at h
          · cases h
          · split at h
            · cases h
            · rename_i h1 h2; cases h; exact ⟨tl, tr, by simpa using h1, by simpa using h2⟩
        all_goals
          simp only at h
          split at h
          · cases h
          · rename_i h1; cases h; exact ⟨tl, tr, rfl, by simpa using h1⟩

/-! Bounds in memory. -/
def wu (nm : Bys) (st : Bool) (v : Vv) : List Value := str nm :: .bool st :: .int .u32 (v.s.toNat : Int) :: relV v.r
theorem qe (nm : Bys) (st : Bool) (v : Vv) : (wu nm st v).length = 35 := by simp [wu, y9]
theorem bd_0 (nm : Bys) (st : Bool) (v : Vv) : (wu nm st v)[0]? = some (str nm) := rfl
theorem bd_1 (nm : Bys) (st : Bool) (v : Vv) : (wu nm st v)[1]? = some (.bool st) := rfl
theorem bd_2 (nm : Bys) (st : Bool) (v : Vv) : (wu nm st v)[2]? = some (.int .u32 (v.s.toNat : Int)) := rfl
theorem zv6 (nm : Bys) (st : Bool) (v : Vv) : ((wu nm st v).drop 3).take 32 = relV v.r := by
  show (relV v.r).take 32 = relV v.r
  exact List.take_of_length_le (by rw [y9]; exact Nat.le_refl _)
theorem zt9 (nm : Bys) (st : Bool) (v : Vv) : (wu nm st v).all plain1 = true := by
  have := znh v.r
  unfold wu
  rw [List.all_cons, List.all_cons, List.all_cons, this]; rfl
theorem fy : (str [] :: .bool false :: List.replicate 33 (.int .u32 0) : List Value) = wu [] false v0 := by
  unfold wu
  rw [show List.replicate 33 (Value.int .u32 0) = .int .u32 0 :: List.replicate 32 (.int .u32 0) from rfl, qx]; rfl
theorem zg1 (nm nm' : Bys) (st : Bool) (v : Vv) : (wu nm st v).set 0 (str nm') = wu nm' st v := rfl
theorem zc2 (nm : Bys) (st st' : Bool) (v : Vv) : (wu nm st v).set 1 (.bool st') = wu nm st' v := rfl
theorem zs3 (nm : Bys) (st : Bool) (v : Vv) (x : U) : (wu nm st v).set 2 (.int .u32 (x.toNat : Int)) = wu nm st ⟨x, v.r⟩ := rfl
theorem yar (nm : Bys) (st : Bool) (v : Vv) (L : Heap) : Heap.read (.cells (wu nm st v) 0 false :: L) ⟨0, 3, some 0⟩ 32 = some (relV v.r) := by
  simp only [Heap.read, List.getElem?_cons_zero]
  rw [if_pos ⟨trivial, by rw [qe]; decide⟩, zv6]
theorem yao (nm : Bys) (st : Bool) (v : Vv) (r : Nat → U) (L : Heap) : Heap.write (.cells (wu nm st v) 0 false :: L) ⟨0, 3, some 0⟩ (relV r) = some (.cells (wu nm st ⟨v.s, r⟩) 0 false :: L) := by
  simp only [Heap.write, List.getElem?_cons_zero, List.set_cons_zero]
  rw [if_pos ⟨trivial, by rw [qe, y9]; decide⟩]
  have : splice (wu nm st v) 3 (relV r) = wu nm st ⟨v.s, r⟩ := by
    unfold splice
    rw [y9]
    show (str nm :: .bool st :: .int .u32 (v.s.toNat : Int) :: ([] ++ relV r ++ (relV v.r).drop 32)) = _
    rw [List.drop_eq_nil_of_le (by rw [y9]; exact Nat.le_refl _)]
    simp [wu]
  rw [this]
theorem zha (h L : Heap) (nm : Bys) (st : Bool) (v : Vv) : outE h (h ++ L) (some (wu nm st v)) = some (agg (wu nm st v), h) := zmd h L (zt9 nm st v)
theorem zzh (f g : Nat → U) : zbj (List.replicate 32 .int) (relV f) (relV g) = some (zjw f g) := by
  have := zpn (zbw 32 f) (zbw 32 g) (by rw [bk, bk])
  rw [bk] at this
  have e : ∀ f : Nat → U, (zbw 32 f).map (fun x => Value.int .u32 (x.toNat : Int)) = relV f := fun f => by unfold relV zbw; rw [List.map_map]; rfl
  rw [e, e] at this
  exact this
def zyd (a b : Vv) : Bool := a.s == b.s && zjw a.r b.r
theorem ybe (a b : Bys) : q8 .str (str a) (str b) = some (a == b) := by
  show some ((⟨a.toArray⟩ : ByteArray) == ⟨b.toArray⟩) = _
  rw [zk4]
theorem ygg (h : Heap) (neg : Bool) (n1 n2 : Bys) (s1 s2 : Bool) (v1 v2 : Vv) : zm8 h neg (.str :: .bool :: .int :: List.replicate 32 .int) (agg (wu n1 s1 v1)) (agg (wu n2 s2 v2)) = some (.bool ((n1 == n2 && (s1 == s2 && zyd v1 v2)) != neg), h) := by
  refine znb h (by rw [qe]; simp) (by rw [qe]; simp) ?_
  unfold wu zyd
  rw [zbj, ybe]
  cases h1 : n1 == n2
  · simp
  · simp only [Bool.true_and]
    rw [zbj]
    simp only [q8]
    cases h2 : s1 == s2
    · simp
    · simp only [Bool.true_and]
      rw [zbj]
      simp only [q8, if_true]
      rw [u_eq]
      cases h3 : v1.s == v2.s
      · simp
      · simp only [Bool.true_and]
        exact zzh _ _
end Go.Proofs.YtljdbheclfaloaaGreatDoor.AM
namespace Go.Proofs.YtljdbheclfaloaaGreatDoor.AM
open Go.RowKit
set_option linter.unusedSimpArgs false
set_option linter.unusedVariables false
set_option maxRecDepth 20000

/-! Names' values in memory. -/
def enE (env : En) : List (Value × Value) := env.map fun p => (str p.1, agg (wu p.1 p.2.1 p.2.2))
theorem zse (env : En) (w : Bys) : findKey .str (str w) (enE env) = some ((jl w env).map fun p => agg (wu w p.1 p.2)) := by
  induction env with
  | nil => rfl
  | cons p r ih =>
    obtain ⟨k, b, v⟩ := p
    show findKey .str (str w) ((str k, agg (wu k b v)) :: enE r) = _
    rw [findKey, zmn, jl]
    cases h : w == k
    · simpa using ih
    · have : w = k := eq_of_beq h
      subst this
      simp
def setE (w : Bys) (b : Bool) (v : Vv) : En → En
  | [] => [(w, b, v)]
  | (k, c, x) :: r => if w == k then (w, b, v) :: r else (k, c, x) :: setE w b v r
theorem ycs (w : Bys) (b : Bool) (v : Vv) (env : En) : zaa .str (str w) (agg (wu w b v)) (enE env) = some (enE (setE w b v env)) := by
  induction env with
  | nil => rfl
  | cons p r ih =>
    obtain ⟨k, c, x⟩ := p
    show zaa .str (str w) (agg (wu w b v)) ((str k, agg (wu k c x)) :: enE r) = _
    rw [zaa, zmn, setE]
    cases h : w == k
    · simp only [enE] at ih ⊢; simp [ih]
    · have : w = k := eq_of_beq h
      subst this
      simp [enE]
def kdE (env : En) : Ex → Bool
  | .name _ _ w => ((jl w env).map (·.1)).getD false
  | .zero _ => false
  | .par _ _ e => kdE env e
  | .box _ _ => false
  | .un _ _ => false
  | .bin s _ _ _ => s
def nmE (env : En) : Ex → Bys
  | .name _ _ w => ((jl w env).map fun _ => w).getD []
  | .par _ _ e => nmE env e
  | _ => []
structure Wd (h : Heap) (q km : Nat) (u : U) (env : En) : Prop where
  hq : h[q]? = some (.cells [.int .u32 (u.toNat : Int), .map (some km)] 0 false)
  hk : h[km]? = some (.map (enE env))
theorem Wd.more {h : Heap} {q km : Nat} {u : U} {env : En} (W : Wd h q km u env) (L : Heap) : Wd (h ++ L) q km u env := ⟨y7 L W.hq, y7 L W.hk⟩
def ze7 (u : U) (env : En) (e : Ex) : Prop := ∀ (h : Heap) (q km : Nat) (S : Nat → Prop) (v : Value), Wd h q km u env → TreeP h S v e →
  DF FF vw [pt q, v] h = some (agg (wu (nmE env e) (kdE env e) (evE u env e)), h)
set_option maxHeartbeats 4000000 in
theorem zvg (u : U) (env : En) (s : Bool) (a : Nat) (w : Bys) : ze7 u env (.name s a w) := by
  intro h q km S v W tr
  obtain ⟨b, rfl, hbS, hbo⟩ := tr
  refine wj gf ?_
  have rb : ∀ L j, Heap.read1 (h ++ L) ⟨b, j, some 0⟩ = (vh zfy w a nilP nilP s)[j]? := fun L j => xz (y7 L hbo)
  have rq : ∀ L j, Heap.read1 (h ++ L) ⟨q, j, some 0⟩ = ([.int .u32 (u.toNat : Int), .map (some km)] : List Value)[j]? := fun L j => xz (W.more L).hq
  have lk : ∀ L, zon (h ++ L) .str (agg (wu [] false v0)) false (.map (some km)) (str w) = _ := fun L => zf5 _ (W.more L).hk (agg (wu [] false v0)) false (w := w) (zse env w)
  cases hl : jl w env with
  | none =>
    simp only [hl, Option.map_none, zg0, Bool.false_eq_true, if_false] at lk
    simp only [evE, kdE, nmE, hl, Option.map_none, Option.getD_none]
    simp only [jh, ya, zt, xf, yo, zb, zz, zw, yb, zn, zc, zp, zo, zf, ze, zd, List.set_cons_succ, List.set_cons_zero, O_mv, yy, yg, zx, zk, wd, y6, yd, z8, yx, fm, Nat.reduceLT, List.cons_append, List.nil_append, List.length_cons, List.length_nil, Nat.reduceAdd, Nat.reduceSub, Nat.zero_add, Bool.not_true, zm, yc, zy, za, xa, wg, yq, xb, z7, zl, yu, z6, zq, zj, xk, xd, yh, ve, vk, zu, vp, zr, zg, zh, List.append_assoc, List.length_append, Nat.add_zero, List.getElem?_cons_zero, List.getElem?_cons_succ, Bool.bne_true, beq_self_eq_true, jp, eq_self, yk, va, kv, qq, qx, fy, qe, zc2, zha, rb, rq, jb, zhi, qv, qp, zbv, k8, lk, py, xq, zfy]
  | some p =>
    simp only [hl, Option.map_some, zg0, Bool.false_eq_true, if_false] at lk
    simp only [evE, kdE, nmE, hl, Option.map_some, Option.getD_some]
    simp only [jh, ya, zt, xf, yo, zb, zz, zw, yb, zn, zc, zp, zo, zf, ze, zd, List.set_cons_succ, List.set_cons_zero, O_mv, yy, yg, zx, zk, wd, y6, yd, z8, yx, fm, Nat.reduceLT, List.cons_append, List.nil_append, List.length_cons, List.length_nil, Nat.reduceAdd, Nat.reduceSub, Nat.zero_add, Bool.not_true, zm, yc, zy, za, xa, wg, yq, xb, z7, zl, yu, z6, zq, zj, xk, xd, yh, ve, vk, zu, vp, zr, zg, zh, List.append_assoc, List.length_append, Nat.add_zero, List.getElem?_cons_zero, List.getElem?_cons_succ, Bool.bne_true, beq_self_eq_true, jp, eq_self, yk, va, kv, qq, qx, fy, qe, zc2, zha, rb, rq, jb, zhi, qv, qp, zbv, k8, lk, py, xq, zfy]
set_option maxHeartbeats 4000000 in
theorem zvq (u : U) (env : En) (a : Nat) : ze7 u env (.zero a) := by
  intro h q km S v W tr
  obtain ⟨b, rfl, hbS, hbo⟩ := tr
  refine wj gf ?_
  have rb : ∀ L j, Heap.read1 (h ++ L) ⟨b, j, some 0⟩ = (vh [48] [] a nilP nilP false)[j]? := fun L j => xz (y7 L hbo)
  have rq : ∀ L j, Heap.read1 (h ++ L) ⟨q, j, some 0⟩ = ([.int .u32 (u.toNat : Int), .map (some km)] : List Value)[j]? := fun L j => xz (W.more L).hq
  simp only [jh, ya, zt, xf, yo, zb, zw, yb, zn, zc, zp, zo, zf, ze, zd, List.set_cons_succ, List.set_cons_zero, O_mv, yy, yg, zx, zk, xr, y4, wd, y6, yd, z8, yx, fm, Nat.reduceLT, List.cons_append, List.nil_append, List.length_cons, List.length_nil, Nat.reduceAdd, Nat.reduceSub, Nat.zero_add, Bool.not_true, zm, yc, zy, za, zi, yq, xb, z7, zl, yu, z6, zq, zj, qg, xk, qy, xd, yh, ve, vk, zu, vp, zr, zg, zh, List.append_assoc, List.length_append, Nat.add_zero, Option.map_some, Bool.bne_true, jp, eq_self, yk, va, kv, qq, qx, fy, qe, zc2, zha, rb, jb, qv, qp, zbv, py, xq, zre, zrm, zs6, zr1, zrk, zqz, zr4, zsr, zsi, zsx, znn, zoo]
  rfl
set_option maxHeartbeats 8000000 in
theorem zwp (u : U) (env : En) (s : Bool) (a : Nat) (e : Ex) (ih : ze7 u env e) : ze7 u env (.par s a e) := by
  intro h q km S v W tr
  obtain ⟨b, S', x, rfl, hbS, hbo, tx, -⟩ := tr
  have q1 := fun L => ih (h ++ L) q km S' x (W.more L) (tx.keep fun _ _ _ ho => y7 L ho)
  refine wj gf ?_
  have rb : ∀ L j, Heap.read1 (h ++ L) ⟨b, j, some 0⟩ = (vh [40] [] a x nilP s)[j]? := fun L j => xz (y7 L hbo)
  have rq : ∀ L j, Heap.read1 (h ++ L) ⟨q, j, some 0⟩ = ([.int .u32 (u.toNat : Int), .map (some km)] : List Value)[j]? := fun L j => xz (W.more L).hq
  obtain ⟨bx, op', w', p', r', hxb, _, _⟩ := tx.root
  subst hxb
  simp only [jh, ya, zt, xf, yo, zb, zz, zw, yb, zn, zc, zp, zo, zf, ze, zd, List.set_cons_succ, List.set_cons_zero, O_mv, yy, yg, ye, List.map_cons, List.map_nil, zx, zk, xr, y4, wd, y6, yd, z8, yx, fm, Nat.reduceLT, List.cons_append, List.nil_append, List.length_cons, List.length_nil, Nat.reduceAdd, Nat.reduceSub, Nat.zero_add, Bool.not_true, Bool.not_false, zm, yc, zy, za, xa, wg, yq, xb, z7, zl, yu, z6, zq, zj, qg, xk, qy, xd, yh, ve, vk, zu, vp, zr, zg, zh, List.append_assoc, List.length_append, Nat.add_zero, Option.map_some, Bool.bne_true, beq_self_eq_true, jp, eq_self, yk, va, kv, qq, qx, fy, qe, zc2, zha, rb, jb, qv, qp, zbv, py, xo, xq, zxa, q1]
  rfl
set_option maxHeartbeats 8000000 in
theorem zy7 (u : U) (env : En) (a : Nat) (e : Ex) (ih : ze7 u env e) : ze7 u env (.box a e) := by
  intro h q km S v W tr
  obtain ⟨b, S', x, rfl, hbS, hbo, tx, -⟩ := tr
  have q1 := fun L => ih (h ++ L) q km S' x (W.more L) (tx.keep fun _ _ _ ho => y7 L ho)
  refine wj gf ?_
  have rb : ∀ L j, Heap.read1 (h ++ L) ⟨b, j, some 0⟩ = (vh [91] [] a x nilP false)[j]? := fun L j => xz (y7 L hbo)
  have rq : ∀ L j, Heap.read1 (h ++ L) ⟨q, j, some 0⟩ = ([.int .u32 (u.toNat : Int), .map (some km)] : List Value)[j]? := fun L j => xz (W.more L).hq
  obtain ⟨bx, op', w', p', r', hxb, _, _⟩ := tx.root
  subst hxb
  simp only [jh, ya, zt, xf, yo, zb, zz, zw, yb, zn, zc, zp, zo, zf, ze, zd, List.set_cons_succ, List.set_cons_zero, O_mv, yy, yg, ye, List.map_cons, List.map_nil, zx, zk, xr, y4, wd, y6, yd, z8, yx, fm, Nat.reduceLT, List.cons_append, List.nil_append, List.length_cons, List.length_nil, Nat.reduceAdd, Nat.reduceSub, Nat.zero_add, Bool.not_true, Bool.not_false, zm, yc, zy, za, zi, yq, xb, z7, zl, yu, z6, zq, zj, fk, bo, ym, qg, xk, qy, xd, yh, ve, vk, zu, vp, zr, zg, zh, List.append_assoc, List.length_append, Nat.add_zero, Option.map_some, Bool.bne_true, beq_self_eq_true, jp, eq_self, yk, va, kv, qq, qx, y9, fy, qe, bd_2, zc2, yao, zha, rb, jb, qv, qp, zbv, py, xo, xq, zqp, zqx, zpt, zmf, zpo, zo9, ygd, q1, zgj]
  rfl
set_option maxHeartbeats 8000000 in
theorem yax (u : U) (env : En) (o : Op1) (e : Ex) (ih : ze7 u env e) : ze7 u env (.un o e) := by
  intro h q km S v W tr
  obtain ⟨b, S', x, rfl, hbS, hbo, tx, -⟩ := tr
  have q1 := fun L => ih (h ++ L) q km S' x (W.more L) (tx.keep fun _ _ _ ho => y7 L ho)
  refine wj gf ?_
  have rb : ∀ L j, Heap.read1 (h ++ L) ⟨b, j, some 0⟩ = (vh (op1S o) [] e.pl x nilP false)[j]? := fun L j => xz (y7 L hbo)
  have rq : ∀ L j, Heap.read1 (h ++ L) ⟨q, j, some 0⟩ = ([.int .u32 (u.toNat : Int), .map (some km)] : List Value)[j]? := fun L j => xz (W.more L).hq
  obtain ⟨bx, op', w', p', r', hxb, _, _⟩ := tx.root
  subst hxb
  cases o
  all_goals
    simp only [jh, ya, zt, xf, yo, zb, zz, zw, yb, zn, zc, zp, zo, zf, ze, zd, List.set_cons_succ, List.set_cons_zero, O_mv, yy, yg, ye, List.map_cons, List.map_nil, zx, zk, xr, y4, wd, y6, yd, z8, yx, fm, Nat.reduceLT, List.cons_append, List.nil_append, List.length_cons, List.length_nil, Nat.reduceAdd, Nat.reduceSub, Nat.zero_add, Bool.not_true, Bool.not_false, zm, yc, zy, za, zi, yq, xb, z7, zl, yu, z6, zq, zj, qg, xk, qy, xd, yh, ve, vk, zu, vp, zr, zg, zh, List.append_assoc, List.length_append, Nat.add_zero, Option.map_some, List.getElem?_cons_zero, Bool.bne_true, beq_self_eq_true, jp, eq_self, yk, va, kv, qq, qx, y9, fy, qe, zc2, yar, yao, zha, rb, rq, jb, qv, qp, zbv, py, xo, xq, op1S, zxl, zzw, zwz, ztj, zwe, zxz, zy5, zw8, zzg, zwl, zyh, zs8, zyt, zxe, zyr, zw4, zxk, zq0, zrx, zso, zoi, zs0, zrl, zs2, zsy, zr0, zs1, zs5, zr5, zq9, znx, zrj, zsv, zrg, zrd, zst, zsg, zoa, q1, zim, zu9, zq3, zhr]
    rfl
set_option maxHeartbeats 8000000 in
theorem zw0 (u : U) (env : En) (s : Bool) (o : Op2) (l r : Ex) (ihl : ze7 u env l) (ihr : ze7 u env r) : ze7 u env (.bin s o l r) := by
  intro h q km S v W tr
  obtain ⟨b, S1, S2, xv, yv, rfl, hbS, hbo, tx, ty, hs1, hs2⟩ := tr
  have q1 := fun L => ihl (h ++ L) q km S1 xv (W.more L) (tx.keep fun _ _ _ ho => y7 L ho)
  have q2 := fun L => ihr (h ++ L) q km S2 yv (W.more L) (ty.keep fun _ _ _ ho => y7 L ho)
  refine wj gf ?_
  have rb : ∀ L j, Heap.read1 (h ++ L) ⟨b, j, some 0⟩ = (vh (op2S o) [] l.pl xv yv s)[j]? := fun L j => xz (y7 L hbo)
  have rq : ∀ L j, Heap.read1 (h ++ L) ⟨q, j, some 0⟩ = ([.int .u32 (u.toNat : Int), .map (some km)] : List Value)[j]? := fun L j => xz (W.more L).hq
  obtain ⟨bx, _, _, _, _, hxb, _, _⟩ := tx.root
  subst hxb
  obtain ⟨by_, _, _, _, _, hyb, _, _⟩ := ty.root
  subst hyb
  cases o
  all_goals
    simp only [jh, ya, zt, xf, zb, zz, zw, yb, zn, zc, zp, zo, zf, ze, zd, List.set_cons_succ, List.set_cons_zero, O_mv, yy, yg, ye, List.map_cons, List.map_nil, zx, zk, xr, y4, vd, wd, w6, y6, yd, z8, xe, xg, yx, fm, Nat.reduceLT, zqy, zu7, zkg, List.cons_append, List.nil_append, List.length_cons, List.length_nil, Nat.reduceAdd, Nat.reduceSub, Nat.zero_add, Bool.not_false, zm, yc, zy, za, zi, slc, yq, xb, z7, zl, xc, xx, yu, z6, zq, zj, fk, bo, ym, qg, xk, qy, xd, yh, ve, bd, b9, vl, vk, zu, vp, zr, zg, zh, List.append_assoc, List.length_append, List.append_nil, Nat.add_zero, Option.map_some, zvj, Bool.bne_true, beq_self_eq_true, jp, eq_self, zdk, yk, va, kv, qq, u_or, zxq, znp, zfk, qx, y9, fy, qe, bd_2, zc2, zs3, yar, yao, zha, rb, jb, qv, qp, zbv, xo, xq, op2S, ycq, yga, yca, ycw, yex, ycn, ycm, yc3, yfb, yce, yco, yc4, ztv, yey, ycc, ycp, ycj, ztz, yck, yf5, q1, q2, zli, zg2, yav, zwn, ye2]
    rfl
theorem zfu (u : U) (env : En) : ∀ e, ze7 u env e
  | .name s a w => zvg u env s a w
  | .zero a => zvq u env a
  | .par s a e => zwp u env s a e (zfu u env e)
  | .box a e => zy7 u env a e (zfu u env e)
  | .un o e => yax u env o e (zfu u env e)
  | .bin s o l r => zw0 u env s o l r (zfu u env l) (zfu u env r)
end Go.Proofs.YtljdbheclfaloaaGreatDoor.AM
namespace Go.Proofs.YtljdbheclfaloaaGreatDoor.AM
open Go.RowKit
set_option linter.unusedSimpArgs false
set_option linter.unusedVariables false
set_option maxRecDepth 20000

theorem pd (w k : Bys) (b : Bool) (v : Vv) : ∀ env : En, jl w (setE k b v env) = if w == k then some (b, v) else jl w env
  | [] => by simp only [setE, jl]
  | (c, d, x) :: r => by
    rw [setE]
    by_cases h : k = c
    · subst h
      rw [if_pos (by simp), jl, jl]
      cases w == k <;> rfl
    · rw [if_neg (by simpa using h), jl, jl, pd w k b v r]
      by_cases h2 : w = c
      · subst h2
        have e1 : (w == w) = true := by simp
        have e2 : (w == k) = false := by simpa using fun e => h e.symm
        rw [e1, e2]; rfl
      · have e1 : (w == c) = false := by simpa using h2
        rw [e1]; cases w == k <;> rfl
def chg (o : Option (Bool × Vv)) (st : Bool) (v : Vv) : Bool := match o with
  | none => true
  | some (b, x) => !(b == st && zyd x v)
def zod (u : U) (p : En × Bool) (g : Gv) : En × Bool := (setE g.name g.e.set (evE u p.1 g.e) p.1, p.2 || chg (jl g.name p.1) g.e.set (evE u p.1 g.e))
def zda (u : U) (gs : List Gv) (env : En) : En × Bool := gs.foldl (zod u) (env, false)
def recN (u : U) (gs : List Gv) : Nat → En → En
  | 0, env => env
  | n + 1, env => if (zda u gs env).2 then recN u gs n (zda u gs env).1 else (zda u gs env).1
def Ends (u : U) (gs : List Gv) : Nat → En → Prop
  | 0, _ => False
  | n + 1, env => (zda u gs env).2 = false ∨ ((zda u gs env).2 = true ∧ Ends u gs n (zda u gs env).1)
def ze9 (gs : List Gv) (env : En) : En := gs.foldl (fun en g => setE g.name false v0 en) env
def ya7 (u : U) (gs : List Gv) (env : En) : En := gs.foldl (fun en g => setE g.name g.e.set (evE u env g.e) en) env
def recK (gs : List Gv) : Nat := gs.length * 1024 + 1
def doE (u : U) (env : En) : Stm → En
  | .lets false gs => ya7 u gs env
  | .lets true gs => recN u gs (recK gs) (ze9 gs env)
  | .chk _ _ _ => env
def yba (u : U) (env : En) (k : Ck) (x : Ex) : Bool := match k with
  | .acyclic => ztl (evE u env x).r
  | .irr => zrf (evE u env x).r
  | .empty => (evE u env x).s == 0#32 && zt0 (evE u env x).r
def zyp (u : U) (env : En) : Stm → Bool
  | .lets _ _ => true
  | .chk k x _ => yba u env k x
def zvl : Stm → Bys
  | .lets _ _ => []
  | .chk _ _ a => a
def envM (u : U) (env : En) (l : List Stm) : En := l.foldl (doE u) env
def zgu (u : U) : En → List Stm → Option Bys
  | _, [] => none
  | env, s :: l => if zyp u env s then zgu u (doE u env s) l else some (zvl s)

/-! Relations within relations. -/
def leR (a b : Nat → U) : Prop := ∀ i j, i < 32 → j < 32 → Bt a i j → Bt b i j
theorem leR.refl (a : Nat → U) : leR a a := fun _ _ _ _ h => h
theorem leR.trans {a b c : Nat → U} (h : leR a b) (k : leR b c) : leR a c := fun i j hi hj x => k i j hi hj (h i j hi hj x)
theorem yap (a : Nat → U) : leR (fun _ => 0#32) a := fun i j _ _ h => by unfold Bt at h; simp at h
theorem zd2 {a b a' b' : Nat → U} (h : leR a a') (k : leR b b') : leR (b6 [a, b]) (b6 [a', b']) := fun i j hi hj x => by
  rw [zy6] at x ⊢
  obtain ⟨r, hr, hx⟩ := x
  simp only [List.mem_cons, List.not_mem_nil, or_false] at hr
  rcases hr with rfl | rfl
  · exact ⟨a', by simp, h i j hi hj hx⟩
  · exact ⟨b', by simp, k i j hi hj hx⟩
theorem zt4 {a b a' b' : Nat → U} (h : leR a a') (k : leR b b') : leR (zb8 [a, b]) (zb8 [a', b']) := fun i j hi hj x => by
  rw [zoq _ hi hj] at x ⊢
  intro r hr
  simp only [List.mem_cons, List.not_mem_nil, or_false] at hr
  rcases hr with rfl | rfl
  · exact h i j hi hj (x a (by simp))
  · exact k i j hi hj (x b (by simp))
theorem zo1 {a b a' b' : Nat → U} (h : leR a a') (k : leR b' b) : leR (zgv a b) (zgv a' b') := fun i j hi hj x => by
  rw [zza _ _ _ hj] at x ⊢
  exact ⟨h i j hi hj x.1, fun y => x.2 (k i j hi hj y)⟩
theorem zwy {a b a' b' : Nat → U} (h : leR a a') (k : leR b b') : leR (seqK [a, b]) (seqK [a', b']) := fun i j hi hj x => by
  rw [zn3 _ _ hi] at x ⊢
  obtain ⟨e, he, x1, x2⟩ := x
  exact ⟨e, he, h i e hi he x1, k e j he hj x2⟩
theorem zkb {a a' : Nat → U} (h : leR a a') : leR (zgr a) (zgr a') := fun i j hi hj x =>
  zuw a (fun i j => i < 32 → j < 32 → Bt (zgr a') i j) (fun i j x hi hj => yd9 a' (h i j hi hj x)) (fun i m j hm x y hi hj => zu0 a' hm (x hi hm) (y hm hj)) x hi hj
theorem zx7 {a a' : Nat → U} (h : leR a a') : leR (invR a) (invR a') := fun i j hi hj x => by
  rw [yef _ _ hj] at x ⊢
  exact h j i hj hi x

/-! What an expression stands for grows with its names. -/
def NoR (rc : List Bys) : Bool → Ex → Prop
  | rt, .name _ _ w => rt = true → w ∉ rc
  | _, .zero _ => True
  | rt, .par _ _ e => NoR rc rt e
  | rt, .box _ e => NoR rc rt e
  | rt, .un _ e => NoR rc rt e
  | rt, .bin _ o l r => NoR rc rt l ∧ NoR rc (rt || o == .minus) r
def LeE (rc : List Bys) (env env' : En) : Prop := ∀ w, (jl w env = none ∧ jl w env' = none) ∨ ∃ b v v', jl w env = some (b, v) ∧ jl w env' = some (b, v') ∧ v.s = v'.s ∧ leR v.r v'.r ∧ (w ∉ rc → leR v'.r v.r)
theorem LeE.refl (rc : List Bys) (env : En) : LeE rc env env := fun w => by
  cases h : jl w env with
  | none => exact .inl ⟨rfl, rfl⟩
  | some p => exact .inr ⟨p.1, p.2, p.2, rfl, rfl, rfl, leR.refl _, fun _ => leR.refl _⟩
theorem LeE.trans {rc : List Bys} {a b c : En} (h : LeE rc a b) (k : LeE rc b c) : LeE rc a c := fun w => by
  rcases h w with ⟨h1, h2⟩ | ⟨x, v, v', h1, h2, h3, h4, h5⟩
  · rcases k w with ⟨k1, k2⟩ | ⟨y, u, u', k1, k2, k3, k4, k5⟩
    · exact .inl ⟨h1, k2⟩
    · rw [h2] at k1; cases k1
  · rcases k w with ⟨k1, k2⟩ | ⟨y, u, u', k1, k2, k3, k4, k5⟩
    · rw [h2] at k1; cases k1
    · rw [h2] at k1; cases k1
      exact .inr ⟨x, v, u', h1, k2, h3.trans k3, h4.trans k4, fun hw => (k5 hw).trans (h5 hw)⟩
theorem zgo (u : U) {rc : List Bys} {env env' : En} (L : LeE rc env env') : ∀ (e : Ex) (rt : Bool), NoR rc rt e → (evE u env e).s = (evE u env' e).s ∧ leR (evE u env e).r (evE u env' e).r ∧ (rt = true → leR (evE u env' e).r (evE u env e).r)
  | .name s a w, rt, n => by
    rcases L w with ⟨h1, h2⟩ | ⟨x, v, v', h1, h2, h3, h4, h5⟩
    · simp only [evE, h1, h2]; exact ⟨trivial, leR.refl _, fun _ => leR.refl _⟩
    · simp only [evE, h1, h2, Option.map_some, Option.getD_some]; exact ⟨h3, h4, fun h => h5 (n h)⟩
  | .zero a, rt, n => ⟨rfl, leR.refl _, fun _ => leR.refl _⟩
  | .par s a e, rt, n => zgo u L e rt n
  | .box a e, rt, n => by
    obtain ⟨h1, h2, h3⟩ := zgo u L e rt n
    simp only [evE, h1]; exact ⟨trivial, leR.refl _, fun _ => leR.refl _⟩
  | .un o e, rt, n => by
    obtain ⟨h1, h2, h3⟩ := zgo u L e rt n
    cases o <;> simp only [evE, evU]
    · exact ⟨trivial, zkb h2, fun h => zkb (h3 h)⟩
    · exact ⟨trivial, zd2 (zkb h2) (leR.refl _), fun h => zd2 (zkb (h3 h)) (leR.refl _)⟩
    · exact ⟨trivial, zd2 h2 (leR.refl _), fun h => zd2 (h3 h) (leR.refl _)⟩
    · exact ⟨trivial, zx7 h2, fun h => zx7 (h3 h)⟩
  | .bin s o l r, rt, n => by
    obtain ⟨h1, h2, h3⟩ := zgo u L l rt n.1
    obtain ⟨k1, k2, k3⟩ := zgo u L r _ n.2
    cases o <;> simp only [evE, evB, h1, k1]
    · exact ⟨trivial, zd2 h2 k2, fun h => zd2 (h3 h) (k3 (by simp [h]))⟩
    · exact ⟨trivial, zt4 h2 k2, fun h => zt4 (h3 h) (k3 (by simp [h]))⟩
    · exact ⟨trivial, zo1 h2 (k3 (by simp)), fun h => zo1 (h3 h) k2⟩
    · exact ⟨trivial, zwy h2 k2, fun h => zwy (h3 h) (k3 (by simp [h]))⟩
    · exact ⟨trivial, leR.refl _, fun _ => leR.refl _⟩

/-! Kinds as they were looked at. -/
def KdOk (kn : Kn) (env : En) : Prop := ∀ w, (jl w env).map (·.1) = jk kn w
theorem zrt {kn : Kn} {env : En} (k : KdOk kn env) : ∀ {e : Ex}, Typ kn e → kdE env e = e.set
  | .name s a w, t => by
    have := k w
    rw [kdE]
    rw [show jk kn w = some s from t] at this
    rw [this]; rfl
  | .zero a, t => rfl
  | .par s a e, t => by rw [kdE, zrt k t.2]; exact t.1.symm
  | .box a e, t => rfl
  | .un o e, t => rfl
  | .bin s o l r, t => rfl
def S0 (env : En) : Prop := ∀ w v, jl w env = some (false, v) → v.s = 0#32
theorem zpw {u : U} {kn : Kn} {env : En} (k : KdOk kn env) (z : S0 env) : ∀ {e : Ex}, Typ kn e → e.set = false → (evE u env e).s = 0#32
  | .name s a w, t, h => by
    have kw := k w
    rw [show jk kn w = some s from t] at kw
    rw [evE]
    cases hl : jl w env with
    | none => rfl
    | some p =>
      obtain ⟨b, v⟩ := p
      rw [hl] at kw
      have : b = s := by simpa using kw
      have hs : s = false := h
      subst this hs
      exact z w v hl
  | .zero a, t, h => rfl
  | .par s a e, t, h => by rw [evE]; exact zpw k z t.2 (t.1.symm.trans h)
  | .box a e, t, h => rfl
  | .un o e, t, h => by cases o <;> rfl
  | .bin s o l r, t, h => by
    have hs : s = false := h
    obtain ⟨tl, tr, t⟩ := t
    cases o
    case seq => rfl
    case cross => rfl
    all_goals
      simp only at t
      have hl := zpw (u := u) k z tl (t.1.symm.trans hs)
      have hr := zpw (u := u) k z tr (t.2.trans (t.1.symm.trans hs))
      simp only [evE, evB, hl, hr]
      rfl
theorem zgh {kn : Kn} {rc : List Bys} : ∀ {e e' : Ex} {rt : Bool}, chkE kn rc rt e = .ok e' → NoR rc rt e'
  | .name s a w, e', rt, h => by
    rw [chkE] at h
    split at h
    · cases h
    · split at h
      · cases h
      · rename_i hc
        cases h
        intro hrt hw
        exact hc (by simp [hrt, hw])
  | .zero a, e', rt, h => by rw [chkE] at h; cases h; trivial
  | .par s a e, e', rt, h => by
    rw [chkE] at h
    split at h
    · cases h
    · rename_i x hx
      cases h; exact zgh (e' := x) hx
  | .box a e, e', rt, h => by
    rw [chkE] at h
    split at h
    · cases h
    · rename_i x hx
      split at h
      · cases h; exact zgh (e' := x) hx
      · cases h
  | .un o e, e', rt, h => by
    rw [chkE] at h
    split at h
    · cases h
    · rename_i x hx
      split at h
      · cases h
      · cases h; exact zgh (e' := x) hx
  | .bin s o l r, e', rt, h => by
    rw [chkE] at h
    cases hl : chkE kn rc rt l with
    | bad c a => rw [hl] at h; cases h
    | ok l' =>
      rw [hl] at h
      simp only at h
      cases hr : chkE kn rc (rt || o == .minus) r with
      | bad c a => rw [hr] at h; cases h
      | ok r' =>
        rw [hr] at h
        have tl := zgh hl
        have tr := zgh hr
        cases o <;> simp only at h <;> split at h <;> first | cases h; done | skip
        all_goals first | (cases h; exact ⟨tl, tr⟩) | (split at h <;> first | (cases h; done) | (cases h; exact ⟨tl, tr⟩))
end Go.Proofs.YtljdbheclfaloaaGreatDoor.AM
namespace Go.Proofs.YtljdbheclfaloaaGreatDoor.AM
open Go.RowKit
set_option linter.unusedSimpArgs false
set_option linter.unusedVariables false
set_option maxRecDepth 20000

structure KC (km : Nat) (h h' : Heap) : Prop where
  keep : ∀ (b : Nat) (l : List Value) (n : Nat) (ro : Bool), h[b]? = some (AObj.cells l n ro) → h'[b]? = some (AObj.cells l n ro)
  oth : ∀ (b : Nat) (o : AObj), h[b]? = some o → b ≠ km → h'[b]? = some o
  le : h.length ≤ h'.length
theorem KC.refl {km : Nat} (h : Heap) : KC km h h := ⟨fun _ _ _ _ e => e, fun _ _ e _ => e, Nat.le_refl _⟩
theorem KC.trans {km : Nat} {a b c : Heap} (h : KC km a b) (k : KC km b c) : KC km a c := ⟨fun i l n ro e => k.keep i l n ro (h.keep i l n ro e), fun i o e n => k.oth i o (h.oth i o e n) n, Nat.le_trans h.le k.le⟩
theorem KC.more {km : Nat} (h L : Heap) : KC km h (h ++ L) := ⟨fun _ _ _ _ e => y7 L e, fun _ _ e _ => y7 L e, by simp⟩
theorem KC.map {h : Heap} {km : Nat} {es : List (Value × Value)} (e : h[km]? = some (.map es)) (es' : List (Value × Value)) : KC km h (h.set km (.map es')) := ⟨fun b l n ro hb => by
  rw [List.getElem?_set_ne (by rintro rfl; rw [e] at hb; cases hb)]; exact hb, fun b o hb n => by rw [List.getElem?_set_ne (Ne.symm n)]; exact hb, by simp⟩
theorem KC.fin {km : Nat} {h H : Heap} (k : KC km h H) (v : Value) : KC km h (AM.finish h v H) := by
  rcases zaj h H v with hf | ⟨hf, hk⟩
  · rw [hf]; exact k
  · rw [hf]; exact KC.refl h
theorem zwj {h H : Heap} {b : Nat} {o : AObj} (v : Value) (hb : b < h.length) (e : H[b]? = some o) : (AM.finish h v H)[b]? = some o := by
  rcases zaj h H v with hf | ⟨hf, hk⟩
  · rw [hf]; exact e
  · rw [hf, ← hk, List.getElem?_take, if_pos hb]; exact e
theorem zcd {h : Heap} {b : Nat} {o : AObj} (e : h[b]? = some o) : b < h.length := (List.getElem?_eq_some_iff.1 e).1
theorem Wd.fin {h H : Heap} {q km : Nat} {u : U} {env env0 : En} (W0 : Wd h q km u env0) (W : Wd H q km u env) (v : Value) : Wd (AM.finish h v H) q km u env :=
  ⟨zwj v (zcd W0.hq) W.hq, zwj v (zcd W0.hk) W.hk⟩
theorem Wd.ne {h : Heap} {q km : Nat} {u : U} {env : En} (W : Wd h q km u env) : q ≠ km := by
  rintro rfl; have := W.hq.symm.trans W.hk; simp at this
theorem Wd.set {h : Heap} {q km : Nat} {u : U} {env : En} (W : Wd h q km u env) (env' : En) : Wd (h.set km (.map (enE env'))) q km u env' :=
  ⟨by rw [List.getElem?_set_ne (Ne.symm W.ne)]; exact W.hq, by rw [List.getElem?_set_self (zcd W.hk)]⟩
theorem yd1 {km : Nat} {h h' : Heap} (k : KC km h h') {p : Addr} {n : Nat} {l : List Value} (e : h.read p n = some l) : h'.read p n = some l := by
  unfold Heap.read at e ⊢
  cases hb : h[p.block]? with
  | none => rw [hb] at e; cases e
  | some o =>
    cases o with
    | cells c m ro => rw [k.keep _ _ _ _ hb]; rw [hb] at e; exact e
    | map es => rw [hb] at e; cases e
    | gone => rw [hb] at e; cases e
theorem Sl.kc {km : Nat} {h h' : Heap} {s : Value} {c : Nat} {rows : List (List Value)} (e : Sl h s c rows) (k : KC km h h') : Sl h' s c rows := by
  obtain ⟨hs | ⟨b, o, v, hs, hr⟩, hc⟩ := e
  · exact ⟨.inl hs, hc⟩
  · exact ⟨.inr ⟨b, o, v, hs, yd1 k hr⟩, hc⟩
theorem TreeP.kc {km : Nat} {h h' : Heap} (k : KC km h h') : ∀ {S : Nat → Prop} {v : Value} {e : Ex}, TreeP h S v e → TreeP h' S v e
  | S, v, .name s a w, t => by obtain ⟨b, hv, hb, ho⟩ := t; exact ⟨b, hv, hb, k.keep _ _ _ _ ho⟩
  | S, v, .zero a, t => by obtain ⟨b, hv, hb, ho⟩ := t; exact ⟨b, hv, hb, k.keep _ _ _ _ ho⟩
  | S, v, .par s a e, t => by obtain ⟨b, S', x, hv, hb, ho, t', hs⟩ := t; exact ⟨b, S', x, hv, hb, k.keep _ _ _ _ ho, t'.kc k, hs⟩
  | S, v, .box a e, t => by obtain ⟨b, S', x, hv, hb, ho, t', hs⟩ := t; exact ⟨b, S', x, hv, hb, k.keep _ _ _ _ ho, t'.kc k, hs⟩
  | S, v, .un o' e, t => by obtain ⟨b, S', x, hv, hb, ho, t', hs⟩ := t; exact ⟨b, S', x, hv, hb, k.keep _ _ _ _ ho, t'.kc k, hs⟩
  | S, v, .bin s o' l r, t => by obtain ⟨b, S1, S2, x, y, hv, hb, ho, t1, t2, h1, h2⟩ := t; exact ⟨b, S1, S2, x, y, hv, hb, k.keep _ _ _ _ ho, t1.kc k, t2.kc k, h1, h2⟩
theorem ycx (h : Heap) (neg : Bool) (n1 n2 : Bys) (s1 s2 : Bool) (v1 v2 : Vv) : zm8 h neg (.str :: .bool :: List.replicate 33 .int) (agg (wu n1 s1 v1)) (agg (wu n2 s2 v2)) = some (.bool ((n1 == n2 && (s1 == s2 && zyd v1 v2)) != neg), h) := ygg h neg n1 n2 s1 s2 v1 v2
set_option maxHeartbeats 4000000 in
theorem zzi {h : Heap} {q km : Nat} {u : U} {env : En} (W : Wd h q km u env) (w nm : Bys) (st : Bool) (v : Vv) :
    ∃ c h', DF FF jv [pt q, str w, agg (wu nm st v)] h = some (.bool c, h') ∧ Wd h' q km u (setE w st v env) ∧ KC km h h' ∧ ∀ p, jl w env = some p → c = chg (some p) st v := by
  have : ∃ x h', DF FF jv [pt q, str w, agg (wu nm st v)] h = some (x, h') ∧ ∃ c, x = .bool c ∧ Wd h' q km u (setE w st v env) ∧ KC km h h' ∧ ∀ p, jl w env = some p → c = chg (some p) st v := by
    refine wz zjr ?_
    have rq : ∀ L j, Heap.read1 (h ++ L) ⟨q, j, some 0⟩ = ([.int .u32 (u.toNat : Int), .map (some km)] : List Value)[j]? := fun L j => xz (W.more L).hq
    have lk : ∀ L, zon (h ++ L) .str (agg (wu [] false v0)) false (.map (some km)) (str w) = _ := fun L => zf5 _ (W.more L).hk (agg (wu [] false v0)) false (w := w) (zse env w)
    have up : ∀ L, updO (h ++ L) .str (.map (some km)) (str w) (agg (wu w st v)) = some (undef, (h ++ L).set km (.map (enE (setE w st v env)))) := fun L => zmw _ (W.more L).hk (ycs w st v env)
    have fin : ∀ L x, Wd (AM.finish h x ((h ++ L).set km (.map (enE (setE w st v env))))) q km u (setE w st v env) ∧ KC km h (AM.finish h x ((h ++ L).set km (.map (enE (setE w st v env))))) := fun L x =>
      ⟨W.fin ((W.more L).set _) x, ((KC.more h L).trans (KC.map (W.more L).hk _)).fin x⟩
    cases hl : jl w env with
    | none =>
      simp only [hl, Option.map_none, zg0, Bool.false_eq_true, if_false] at lk
      simp only [zby, ya, xf, zb, yb, zn, zc, zp, zo, zf, ze, zd, List.set_cons_succ, List.set_cons_zero, O_mv, yg, zx, zk, xr, y4, Nat.zero_lt_succ, List.cons_append, List.nil_append, List.length_cons, List.length_nil, Nat.reduceAdd, Nat.reduceSub, Nat.zero_add, zm, yc, za, w8, xb, z7, zl, xc, zq, zj, xk, xd, yh, j4, vl, zg, zh, Nat.add_zero, Option.map_some, List.getElem?_cons_zero, List.getElem?_cons_succ, wh, Bool.bne_true, Bool.false_beq, eq_self, yf, zs, zos, yk, wm, fy, qe, zg1, rq, k8, lk, bh, up, ycx]
      exact ⟨_, rfl, (fin _ _).1, (fin _ _).2, fun p h => by cases h⟩
    | some p =>
      simp only [hl, Option.map_some, zg0, Bool.false_eq_true, if_false] at lk
      simp only [zby, ya, xf, zb, yb, zn, zc, zp, zo, zf, ze, zd, List.set_cons_succ, List.set_cons_zero, O_mv, yg, zx, zk, xr, y4, Nat.zero_lt_succ, List.cons_append, List.nil_append, List.length_cons, List.length_nil, Nat.reduceAdd, Nat.reduceSub, Nat.zero_add, Bool.true_and, zm, yc, za, w8, xb, z7, zl, xc, zq, zj, xk, xd, yh, j4, vl, zg, zh, Nat.add_zero, Option.map_some, List.getElem?_cons_zero, List.getElem?_cons_succ, wh, Bool.bne_true, beq_self_eq_true, eq_self, yf, zs, zos, yk, wm, fy, qe, zg1, rq, k8, lk, bh, up, ycx]
      exact ⟨_, rfl, (fin _ _).1, (fin _ _).2, fun p' h => by cases h; simp [chg]⟩
  obtain ⟨x, h', hq, c, rfl, hw, hk, hc⟩ := this
  exact ⟨c, h', hq, hw, hk, hc⟩
end Go.Proofs.YtljdbheclfaloaaGreatDoor.AM
namespace Go.Proofs.YtljdbheclfaloaaGreatDoor.AM
open Go.RowKit
set_option linter.unusedSimpArgs false
set_option linter.unusedVariables false
set_option maxRecDepth 20000

/-! A statement's words. -/
theorem yf6 : (([114, 101, 99] : Bys) == [108, 101, 116]) = false := by decide
theorem ye6 : (([97, 99, 121, 99, 108, 105, 99] : Bys) == [108, 101, 116]) = false := by decide
theorem yfm : (([97, 99, 121, 99, 108, 105, 99] : Bys) == [114, 101, 99]) = false := by decide
theorem yf0 : (([105, 114, 114, 101, 102, 108, 101, 120, 105, 118, 101] : Bys) == [108, 101, 116]) = false := by decide
theorem yf9 : (([105, 114, 114, 101, 102, 108, 101, 120, 105, 118, 101] : Bys) == [114, 101, 99]) = false := by decide
theorem yf1 : (([105, 114, 114, 101, 102, 108, 101, 120, 105, 118, 101] : Bys) == [97, 99, 121, 99, 108, 105, 99]) = false := by decide
theorem yc2 : (([101, 109, 112, 116, 121] : Bys) == [108, 101, 116]) = false := by decide
theorem ycu : (([101, 109, 112, 116, 121] : Bys) == [114, 101, 99]) = false := by decide
theorem yc7 : (([101, 109, 112, 116, 121] : Bys) == [97, 99, 121, 99, 108, 105, 99]) = false := by decide
theorem ycf : (([101, 109, 112, 116, 121] : Bys) == [105, 114, 114, 101, 102, 108, 101, 120, 105, 118, 101]) = false := by decide
theorem zv2 {h : Heap} {p : Addr} {w : Bys} (hr : h.read1 p = some (str w)) : zb1 h (.pointer (some p)) (str w) = some (undef, h) := b8 hr rfl
theorem zul (h : Heap) (nm : Bys) (st : Bool) (v : Vv) : zto h 32 3 (agg (wu nm st v)) = some (agg (relV v.r), h) := by
  rw [zwk h (by rw [qe]; decide), zv6]
theorem zzd (n : Bys) (b : Bool) (v : Vv) : wo (wu [] false v0) [(0, 35, agg (wu n b v))] = some (wu n b v) := by
  have := zk0 (qe [] false v0) (qe n b v)
  simpa [fq] using this
set_option maxHeartbeats 8000000 in
theorem yb4 {h : Heap} {q km : Nat} {u : U} {env : En} {S : Nat → Prop} {v : Value} {x : Ex} (W : Wd h q km u env) (t : TreeP h S v x) (k : Ck) (as_ : Bys) :
    DF FF qj [pt q, agg [str (ckS k), nils, v, str as_]] h = some (.bool (yba u env k x), h) := by
  refine wj zbu ?_
  obtain ⟨b, _, _, _, _, rfl, _, _⟩ := t.root
  have q1 := fun L => zfu u env x (h ++ L) q km S (pt b) (W.more L) (t.keep fun _ _ _ ho => y7 L ho)
  cases k
  · simp only [kf, ya, zt, xf, zb, zz, zw, yb, zn, zc, zo, zf, ze, zd, List.set_cons_succ, List.set_cons_zero, O_mv, yy, yg, ye, List.map_cons, List.map_nil, zx, zk, List.cons_append, List.nil_append, List.length_cons, List.length_nil, Nat.reduceAdd, Nat.reduceSub, Nat.zero_add, zm, yc, zy, za, xa, wg, w8, xb, z7, zys, yr, ym, zg, zh, Nat.add_zero, List.getElem?_cons_zero, List.getElem?_cons_succ, beq_self_eq_true, eq_self, yf, zs, yk, va, fy, ckS, zae, ye6, yfm, yf, q1, zul, znv]
    rw [zf8 _ _ _ _ _ rfl]
    rfl
  · simp only [kf, ya, zt, xf, zb, zz, zw, yb, zn, zc, zo, zf, ze, zd, List.set_cons_succ, List.set_cons_zero, O_mv, yy, yg, ye, List.map_cons, List.map_nil, zx, zk, List.cons_append, List.nil_append, List.length_cons, List.length_nil, Nat.reduceAdd, Nat.reduceSub, Nat.zero_add, zm, yc, zy, za, xa, wg, w8, xb, z7, zys, yr, ym, zg, zh, Nat.add_zero, List.getElem?_cons_zero, List.getElem?_cons_succ, beq_self_eq_true, eq_self, yf, zs, yk, va, fy, ckS, wIrr, yf0, yf9, yf1, yf, q1, zul, zd7]
    rw [zf8 _ _ _ _ _ rfl]
    rfl
  · cases hs : (evE u env x).s == 0#32
    · simp only [kf, ya, zt, xf, zb, zz, zw, yb, zn, yi, zc, zp, vq, zo, zf, ze, zd, List.set_cons_succ, List.set_cons_zero, O_mv, y3, xj, yy, yg, ye, List.map_cons, List.map_nil, zx, zk, ko, List.cons_append, List.nil_append, List.length_cons, List.length_nil, Nat.reduceAdd, Nat.reduceSub, Nat.zero_add, zm, yc, zy, za, xa, wg, yq, w8, xb, z7, zl, yu, z6, fk, yr, bo, ym, yh, ve, vk, vp, zr, zg, zh, List.append_assoc, List.length_append, Nat.add_zero, List.getElem?_cons_zero, List.getElem?_cons_succ, beq_self_eq_true, eq_self, yf, zs, yk, va, fy, qe, bd_2, ckS, zd8, yc2, ycu, yc7, ycf, yf, q1, yew, hs]
      rw [zf8 _ _ _ _ _ rfl]
      simp only [yba, hs]
      rfl
    · simp only [kf, ya, zt, xf, zb, zz, zw, yb, zn, yi, zc, zp, xy, zo, zf, ze, zd, List.set_cons_succ, List.set_cons_zero, O_mv, y3, xj, yy, yg, ye, List.map_cons, List.map_nil, zx, zk, xr, y4, ko, List.cons_append, List.nil_append, List.length_cons, List.length_nil, Nat.reduceAdd, Nat.reduceSub, Nat.zero_add, zm, yc, zy, za, xa, wg, yq, w8, xb, z7, zl, yu, z6, fk, yr, bo, ym, qg, qy, yh, ve, vk, vp, zr, zg, zh, List.append_assoc, List.length_append, Nat.add_zero, Option.map_some, List.getElem?_cons_zero, List.getElem?_cons_succ, beq_self_eq_true, eq_self, yf, zs, yk, va, fy, qe, bd_2, yar, ckS, zd8, yc2, ycu, yc7, ycf, yf, q1, zly, yew, hs]
      rw [zf8 _ _ _ _ _ rfl]
      simp only [yba, hs]
      rfl
end Go.Proofs.YtljdbheclfaloaaGreatDoor.AM
