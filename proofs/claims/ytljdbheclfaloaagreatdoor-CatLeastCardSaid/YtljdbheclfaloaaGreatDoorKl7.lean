/-
  The machine, the functions, what they come to: part 7.
  Conditions: as each says.
-/
import Derived.Test.YtljdbheclfaloaaGreatDoorKl6
namespace Go.Proofs.YtljdbheclfaloaaGreatDoor.AM
open Go.RowKit
set_option linter.unusedSimpArgs false
set_option linter.unusedVariables false
set_option maxRecDepth 20000

section
variable (P : RP) (h h0 : Heap) (i q km n : Nat) (kn : Kn) (rc : Bool) (gs : List Gv) (s : Value) (row : List Value) (N : Nat → Prop) (R0 : CR Stm)
def LkA (rm : Value) (k : Nat) (K : Heap) : Prop := ∃ here x a, LkS P N h0 K i q km (h.length + 1) h.length (n + k) rm here kn row x a ∧
  (x = 0 → a = 0 ∧ here = (gs.take k).map (·.name) ∧ zan kn n [] gs = zan kn (n + k) here (gs.drop k)) ∧ (x ≠ 0 → R0 = .bad x a)
def LkA1 (rm : Value) (k : Nat) (st : St) : Prop := ∃ K, (∃ j : Nat → Value, st = ⟨[pt q, j 1, j 2, pt h.length, .map (some (h.length + 1)), j 5, j 6, j 7, j 8, j 9, j 10, j 11, j 12, j 13, j 14, s, .int .i64 (gs.length : Int), .int .i64 (k : Int), j 18, j 19, j 20, j 21, j 22, j 23, j 24, j 25, j 26, j 27, j 28, j 29, j 30, j 31, j 32, j 33, j 34, j 35, j 36, j 37, j 38, j 39, j 40, j 41, j 42, j 43, j 44, j 45, j 46, j 47, j 48, j 49, j 50, j 51, j 52, j 53, j 54, j 55, j 56, j 57, j 58, j 59, j 60, j 61, j 62, j 63, j 64, j 65, j 66, j 67, j 68, j 69, j 70, j 71, j 72, j 73, j 74, j 75, j 76, j 77, j 78, j 79, j 80, j 81, j 82, j 83, j 84, j 85, j 86, j 87, j 88, j 89, j 90, j 91, j 92, j 93, j 94, j 95, j 96, j 97, j 98, j 99, j 100, j 101, j 102, j 103, j 104, j 105, j 106, j 107, j 108, j 109, j 110, j 111, j 112, j 113, j 114, j 115, j 116, j 117, j 118, j 119, j 120, j 121, j 122, j 123, j 124, j 125, j 126, j 127, j 128, j 129, j 130, j 131, j 132, j 133, j 134, j 135, j 136, j 137], K⟩) ∧ LkA P h h0 i q km n kn gs row N R0 rm k K
def LkA2 (rm : Value) (k : Nat) (st : St) : Prop := ∃ K, (∃ j : Nat → Value, st = ⟨[pt q, j 1, j 2, pt h.length, .map (some (h.length + 1)), j 5, j 6, j 7, j 8, j 9, j 10, j 11, j 12, j 13, j 14, j 15, j 16, j 17, j 18, j 19, j 20, j 21, j 22, j 23, j 24, j 25, j 26, j 27, j 28, j 29, j 30, j 31, j 32, j 33, j 34, j 35, j 36, j 37, j 38, j 39, j 40, j 41, j 42, j 43, j 44, j 45, j 46, j 47, j 48, j 49, j 50, j 51, j 52, j 53, j 54, j 55, j 56, j 57, j 58, j 59, j 60, j 61, j 62, j 63, j 64, j 65, j 66, j 67, j 68, j 69, j 70, j 71, j 72, j 73, j 74, j 75, j 76, j 77, j 78, j 79, j 80, j 81, j 82, j 83, j 84, j 85, j 86, j 87, j 88, j 89, j 90, j 91, j 92, j 93, j 94, j 95, j 96, j 97, j 98, j 99, j 100, j 101, j 102, j 103, j 104, j 105, j 106, j 107, j 108, j 109, j 110, j 111, j 112, j 113, j 114, j 115, j 116, j 117, j 118, j 119, j 120, j 121, j 122, j 123, j 124, j 125, j 126, j 127, j 128, j 129, j 130, j 131, j 132, j 133, j 134, j 135, j 136, j 137], K⟩) ∧ LkA P h h0 i q km n kn gs row N R0 rm k K
def LkB (rm : Value) (k : Nat) (K : Heap) : Prop := ∃ here kn' x a, LkS P N h0 K i q km (h.length + 1) h.length (n + gs.length) rm here kn' row x a ∧
  (x = 0 → a = 0 ∧ here = gs.map (·.name) ∧ kn' = kn ++ (gs.take k).map (fun g => (g.name, false)) ∧ zan kn n [] gs = .ok ()) ∧ (x ≠ 0 → R0 = .bad x a)
def LkB1 (rm : Value) (k : Nat) (st : St) : Prop := ∃ K, (∃ j : Nat → Value, st = ⟨[pt q, j 1, j 2, pt h.length, j 4, j 5, j 6, j 7, j 8, j 9, j 10, j 11, j 12, j 13, j 14, j 15, j 16, j 17, j 18, j 19, j 20, j 21, j 22, j 23, j 24, j 25, j 26, j 27, j 28, j 29, j 30, j 31, j 32, j 33, j 34, j 35, j 36, s, .int .i64 (gs.length : Int), .int .i64 (k : Int), j 40, j 41, j 42, j 43, j 44, j 45, j 46, j 47, j 48, j 49, j 50, j 51, j 52, j 53, j 54, j 55, j 56, j 57, j 58, j 59, j 60, j 61, j 62, j 63, j 64, j 65, j 66, j 67, j 68, j 69, j 70, j 71, j 72, j 73, j 74, j 75, j 76, j 77, j 78, j 79, j 80, j 81, j 82, j 83, j 84, j 85, j 86, j 87, j 88, j 89, j 90, j 91, j 92, j 93, j 94, j 95, j 96, j 97, j 98, j 99, j 100, j 101, j 102, j 103, j 104, j 105, j 106, j 107, j 108, j 109, j 110, j 111, j 112, j 113, j 114, j 115, j 116, j 117, j 118, j 119, j 120, j 121, j 122, j 123, j 124, j 125, j 126, j 127, j 128, j 129, j 130, j 131, j 132, j 133, j 134, j 135, j 136, j 137], K⟩) ∧ LkB P h h0 i q km n kn gs row N R0 rm k K
def LkB2 (rm : Value) (k : Nat) (st : St) : Prop := ∃ K, (∃ j : Nat → Value, st = ⟨[pt q, j 1, j 2, pt h.length, j 4, j 5, j 6, j 7, j 8, j 9, j 10, j 11, j 12, j 13, j 14, j 15, j 16, j 17, j 18, j 19, j 20, j 21, j 22, j 23, j 24, j 25, j 26, j 27, j 28, j 29, j 30, j 31, j 32, j 33, j 34, j 35, j 36, j 37, j 38, j 39, j 40, j 41, j 42, j 43, j 44, j 45, j 46, j 47, j 48, j 49, j 50, j 51, j 52, j 53, j 54, j 55, j 56, j 57, j 58, j 59, j 60, j 61, j 62, j 63, j 64, j 65, j 66, j 67, j 68, j 69, j 70, j 71, j 72, j 73, j 74, j 75, j 76, j 77, j 78, j 79, j 80, j 81, j 82, j 83, j 84, j 85, j 86, j 87, j 88, j 89, j 90, j 91, j 92, j 93, j 94, j 95, j 96, j 97, j 98, j 99, j 100, j 101, j 102, j 103, j 104, j 105, j 106, j 107, j 108, j 109, j 110, j 111, j 112, j 113, j 114, j 115, j 116, j 117, j 118, j 119, j 120, j 121, j 122, j 123, j 124, j 125, j 126, j 127, j 128, j 129, j 130, j 131, j 132, j 133, j 134, j 135, j 136, j 137], K⟩) ∧ LkB P h h0 i q km n kn gs row N R0 rm k K
end
def knIn (kn : Kn) (rc : Bool) (gs : List Gv) : Kn := if rc then kn ++ gs.map fun g => (g.name, false) else kn
def rcIn (rc : Bool) (gs : List Gv) : List Bys := if rc then gs.map (·.name) else []
section
variable (P : RP) (h h0 : Heap) (i q km n : Nat) (kn : Kn) (rc : Bool) (gs : List Gv) (vs : List Value) (S : Nat → Prop) (s : Value) (row : List Value) (N : Nat → Prop) (R0 : CR Stm)
def LkC (rm : Value) (k : Nat) (K : Heap) : Prop := ∃ here kn' x a gs', LkS P N h0 K i q km (h.length + 1) h.length (n + gs.length) rm here kn' row x a ∧ GsP K S vs gs' ∧ (gs'.map fun g => (g.name, g.at_)) = (gs.map fun g => (g.name, g.at_)) ∧
  (x = 0 → a = 0 ∧ (rc = true → here = gs.map (·.name)) ∧ kn' = knIn kn rc gs ∧ zan kn n [] gs = .ok () ∧ ∃ l, l.length = k ∧ gs' = l ++ gs.drop k ∧ R0 = (match zf2 kn' (rcIn rc gs) rc (gs.drop k) with | .bad c a => .bad c a | .ok m => .ok (.lets rc (l ++ m))) ∧ (rc = true → ∀ g ∈ l, g.e.set = false)) ∧ (x ≠ 0 → R0 = .bad x a)
def LkC1 (rm : Value) (k : Nat) (st : St) : Prop := ∃ K, (∃ j : Nat → Value, st = ⟨[pt q, j 1, j 2, pt h.length, j 4, j 5, j 6, j 7, j 8, j 9, j 10, j 11, j 12, j 13, j 14, j 15, j 16, j 17, j 18, j 19, j 20, j 21, j 22, j 23, j 24, j 25, j 26, j 27, j 28, j 29, j 30, j 31, j 32, j 33, j 34, j 35, j 36, j 37, j 38, j 39, j 40, j 41, j 42, j 43, j 44, j 45, j 46, j 47, j 48, j 49, j 50, j 51, j 52, j 53, j 54, j 55, s, .int .i64 (gs.length : Int), .int .i64 (k : Int), j 59, j 60, j 61, j 62, j 63, j 64, j 65, j 66, j 67, j 68, j 69, j 70, j 71, j 72, j 73, j 74, j 75, j 76, j 77, j 78, j 79, j 80, j 81, j 82, j 83, j 84, j 85, j 86, j 87, j 88, j 89, j 90, j 91, j 92, j 93, j 94, j 95, j 96, j 97, j 98, j 99, j 100, j 101, j 102, j 103, j 104, j 105, j 106, j 107, j 108, j 109, j 110, j 111, j 112, j 113, j 114, j 115, j 116, j 117, j 118, j 119, j 120, j 121, j 122, j 123, j 124, j 125, j 126, j 127, j 128, j 129, j 130, j 131, j 132, j 133, j 134, j 135, j 136, j 137], K⟩) ∧ LkC P h h0 i q km n kn rc gs vs S row N R0 rm k K
def LkC2 (rm : Value) (k : Nat) (st : St) : Prop := ∃ K, (∃ j : Nat → Value, st = ⟨[pt q, j 1, j 2, pt h.length, j 4, j 5, j 6, j 7, j 8, j 9, j 10, j 11, j 12, j 13, j 14, j 15, j 16, j 17, j 18, j 19, j 20, j 21, j 22, j 23, j 24, j 25, j 26, j 27, j 28, j 29, j 30, j 31, j 32, j 33, j 34, j 35, j 36, j 37, j 38, j 39, j 40, j 41, j 42, j 43, j 44, j 45, j 46, j 47, j 48, j 49, j 50, j 51, j 52, j 53, j 54, j 55, j 56, j 57, j 58, j 59, j 60, j 61, j 62, j 63, j 64, j 65, j 66, j 67, j 68, j 69, j 70, j 71, j 72, j 73, j 74, j 75, j 76, j 77, j 78, j 79, j 80, j 81, j 82, j 83, j 84, j 85, j 86, j 87, j 88, j 89, j 90, j 91, j 92, j 93, j 94, j 95, j 96, j 97, j 98, j 99, j 100, j 101, j 102, j 103, j 104, j 105, j 106, j 107, j 108, j 109, j 110, j 111, j 112, j 113, j 114, j 115, j 116, j 117, j 118, j 119, j 120, j 121, j 122, j 123, j 124, j 125, j 126, j 127, j 128, j 129, j 130, j 131, j 132, j 133, j 134, j 135, j 136, j 137], K⟩) ∧ LkC P h h0 i q km n kn rc gs vs S row N R0 rm k K
def LkD (rm : Value) (k : Nat) (K : Heap) : Prop := ∃ here kn' x a gs', LkS P N h0 K i q km (h.length + 1) h.length (n + gs.length) rm here kn' row x a ∧ GsP K S vs gs' ∧ (gs'.map fun g => (g.name, g.at_)) = (gs.map fun g => (g.name, g.at_)) ∧
  (x = 0 → a = 0 ∧ zan kn n [] gs = .ok () ∧ R0 = .ok (.lets rc gs') ∧ (rc = true → ∀ g ∈ gs', g.e.set = false) ∧ kn' = (if rc then kn ++ k7 gs' else kn ++ k7 (gs'.take k))) ∧ (x ≠ 0 → R0 = .bad x a)
def LkD1 (rm : Value) (k : Nat) (st : St) : Prop := ∃ K, (∃ j : Nat → Value, st = ⟨[pt q, j 1, j 2, pt h.length, j 4, j 5, j 6, j 7, j 8, j 9, j 10, j 11, j 12, j 13, j 14, j 15, j 16, j 17, j 18, j 19, j 20, j 21, j 22, j 23, j 24, j 25, j 26, j 27, j 28, j 29, j 30, j 31, j 32, j 33, j 34, j 35, j 36, j 37, j 38, j 39, j 40, j 41, j 42, j 43, j 44, j 45, j 46, j 47, j 48, j 49, j 50, j 51, j 52, j 53, j 54, j 55, j 56, j 57, j 58, j 59, j 60, j 61, j 62, j 63, j 64, j 65, j 66, j 67, j 68, j 69, j 70, j 71, j 72, j 73, j 74, j 75, j 76, j 77, j 78, j 79, j 80, j 81, j 82, j 83, j 84, j 85, j 86, j 87, s, .int .i64 (gs.length : Int), .int .i64 (k : Int), j 91, j 92, j 93, j 94, j 95, j 96, j 97, j 98, j 99, j 100, j 101, j 102, j 103, j 104, j 105, j 106, j 107, j 108, j 109, j 110, j 111, j 112, j 113, j 114, j 115, j 116, j 117, j 118, j 119, j 120, j 121, j 122, j 123, j 124, j 125, j 126, j 127, j 128, j 129, j 130, j 131, j 132, j 133, j 134, j 135, j 136, j 137], K⟩) ∧ LkD P h h0 i q km n kn rc gs vs S row N R0 rm k K
def LkD2 (rm : Value) (k : Nat) (st : St) : Prop := ∃ K, (∃ j : Nat → Value, st = ⟨[pt q, j 1, j 2, pt h.length, j 4, j 5, j 6, j 7, j 8, j 9, j 10, j 11, j 12, j 13, j 14, j 15, j 16, j 17, j 18, j 19, j 20, j 21, j 22, j 23, j 24, j 25, j 26, j 27, j 28, j 29, j 30, j 31, j 32, j 33, j 34, j 35, j 36, j 37, j 38, j 39, j 40, j 41, j 42, j 43, j 44, j 45, j 46, j 47, j 48, j 49, j 50, j 51, j 52, j 53, j 54, j 55, j 56, j 57, j 58, j 59, j 60, j 61, j 62, j 63, j 64, j 65, j 66, j 67, j 68, j 69, j 70, j 71, j 72, j 73, j 74, j 75, j 76, j 77, j 78, j 79, j 80, j 81, j 82, j 83, j 84, j 85, j 86, j 87, j 88, j 89, j 90, j 91, j 92, j 93, j 94, j 95, j 96, j 97, j 98, j 99, j 100, j 101, j 102, j 103, j 104, j 105, j 106, j 107, j 108, j 109, j 110, j 111, j 112, j 113, j 114, j 115, j 116, j 117, j 118, j 119, j 120, j 121, j 122, j 123, j 124, j 125, j 126, j 127, j 128, j 129, j 130, j 131, j 132, j 133, j 134, j 135, j 136, j 137], K⟩) ∧ LkD P h h0 i q km n kn rc gs vs S row N R0 rm k K
end
theorem zp8 (rc : Bool) : (kwOf rc == [114, 101, 99]) = rc := by cases rc <;> rfl
theorem zbv {α : Type} {l : List α} {k : Nat} {x : α} (h : l[k]? = some x) : l.drop k = x :: l.drop (k + 1) := by
  have hk := (List.getElem?_eq_some_iff.1 h).1
  rw [List.drop_eq_getElem_cons hk]
  rw [List.getElem?_eq_getElem hk] at h
  rw [Option.some.inj h]
theorem zoa {α : Type} {l : List α} {k : Nat} {x : α} (h : l[k]? = some x) : l.take (k + 1) = l.take k ++ [x] := by
  rw [List.take_add_one, h]; rfl
section
variable {kn : Kn} {here : List Bys} {n x a p : Nat} {w : Bys}
theorem zoy (h : ¬ x = 0) : zd8 kn here n x w = x ∧ zd9 kn here n x a p w = a := by unfold zd8 zd9; simp [h]
theorem zou (h : x = 0) (t : ((jo kn w).isSome || here.contains w) = true) : zd8 kn here n x w = 42 ∧ zd9 kn here n x a p w = p := by unfold zd8 zd9; rw [t]; simp [h]
theorem zn7 (h : x = 0) (t : ((jo kn w).isSome || here.contains w) = false) (t2 : 64 ≤ n) : zd8 kn here n x w = 2 ∧ zd9 kn here n x a p w = p := by unfold zd8 zd9; rw [t]; simp [h, t2]
theorem zt2 (h : x = 0) (t : ((jo kn w).isSome || here.contains w) = false) (t2 : ¬ 64 ≤ n) : zd8 kn here n x w = 0 ∧ zd9 kn here n x a p w = 0 := by unfold zd8 zd9; rw [t]; simp [h, t2]
end
theorem ya0 {P : RP} {hb h h0 K : Heap} {i0 i q km n k : Nat} {kn : Kn} {gs : List Gv} {row : List Value} {N : Nat → Prop} {R0 : CR Stm} {rm : Value} {g : Gv} {b : Nat} (eb : Rd P hb i0 0 0 0) (hqb : hb.length ≤ q) (hhb : hb.length ≤ h.length) (hql : q < h.length) (hkl : km < h.length) (hr : row.length = 4) (hn : n + k < 1000000) (hNq : N q) (hNh : N (h.length + 1)) (hRF : ∀ c a, zan kn n [] gs = .bad c a → R0 = .bad c a) (e : LkA P h h0 i q km n kn gs row N R0 rm k K) (hg : gs[k]? = some g) :
    ∃ K', DF FF g7 [pt q, agg (qi g (pt b)), .map (some (h.length + 1))] (K ++ [.cells (qi g (pt b)) 0 false]) = some (tup [], K') ∧ LkA P h h0 i q km n kn gs row N R0 rm (k + 1) K' := by
  obtain ⟨here, x, a, l, f1, f2⟩ := e
  have l' := l.more [.cells (qi g (pt b)) 0 false]
  obtain ⟨nq, nk, nh, n3, qk, qh, b3k, b3h⟩ := l.ne hr
  obtain ⟨K', q', e', cq', ch', k'⟩ := yfz (w := g.name) (p := g.at_) (v := pt b) eb hqb (Nat.le_succ_of_le hhb) l'.rd (fun h => (f1 h).1) l'.cq l'.ck l'.ch hn ⟨b, rfl⟩
  have hpure : ∀ (x0 : x = 0), zan kn n [] gs = (if (jo kn g.name).isSome || here.contains g.name then CR.bad 42 g.at_ else if 64 ≤ n + k then .bad 2 g.at_ else zan kn (n + (k + 1)) (here ++ [g.name]) (gs.drop (k + 1))) := fun x0 => by
    rw [(f1 x0).2.2, zbv hg, zan]
    rfl
  refine ⟨K', q', zks here g.name, _, _, ⟨e', cq', k'.1 _ _ l'.ck (fun h => h.elim (Ne.symm qk) (by omega)) nk, ch', k'.1 _ _ l'.rw (fun h => h.elim (by omega) (by omega)) n3, (l'.kp.trans k').weak fun z _ hz => hz.elim id fun h => h.elim (by rintro rfl; exact hNq) (by rintro rfl; exact hNh)⟩, ?_, ?_⟩
  · intro hx
    by_cases x0 : x = 0
    · have hp := hpure x0
      cases t1 : ((jo kn g.name).isSome || here.contains g.name)
      · rw [t1, if_neg Bool.false_ne_true] at hp
        by_cases t2 : 64 ≤ n + k
        · rw [(zn7 (a := a) (p := g.at_) x0 t1 t2).1] at hx; cases hx
        · rw [if_neg t2] at hp
          rw [Bool.or_eq_false_iff] at t1
          refine ⟨(zt2 (a := a) (p := g.at_) x0 (by rw [Bool.or_eq_false_iff]; exact t1) t2).2, ?_, ?_⟩
          · unfold zks
            rw [t1.2, if_neg Bool.false_ne_true, (f1 x0).2.1, zoa hg]; simp
          · unfold zks
            rw [t1.2, if_neg Bool.false_ne_true]; exact hp
      · rw [(zou (a := a) (p := g.at_) x0 t1).1] at hx; cases hx
    · rw [(zoy (a := a) (p := g.at_) (kn := kn) (here := here) (n := n + k) (w := g.name) x0).1] at hx; exact absurd hx x0
  · intro hx
    by_cases x0 : x = 0
    · have hp := hpure x0
      cases t1 : ((jo kn g.name).isSome || here.contains g.name)
      · rw [t1, if_neg Bool.false_ne_true] at hp
        by_cases t2 : 64 ≤ n + k
        · rw [(zn7 (a := a) (p := g.at_) x0 t1 t2).1, (zn7 (a := a) (p := g.at_) x0 t1 t2).2]; rw [if_pos t2] at hp; exact hRF _ _ hp
        · rw [(zt2 (a := a) (p := g.at_) x0 t1 t2).1] at hx; exact absurd rfl hx
      · rw [t1, if_pos rfl] at hp
        rw [(zou (a := a) (p := g.at_) x0 t1).1, (zou (a := a) (p := g.at_) x0 t1).2]; exact hRF _ _ hp
    · rw [(zoy (a := a) (p := g.at_) (kn := kn) (here := here) (n := n + k) (w := g.name) x0).1, (zoy (a := a) (p := g.at_) (kn := kn) (here := here) (n := n + k) (w := g.name) x0).2]; exact f2 x0
theorem ybs {P : RP} {hb h h0 K : Heap} {i0 i q km n k : Nat} {kn : Kn} {gs : List Gv} {row : List Value} {N : Nat → Prop} {R0 : CR Stm} {rm : Value} {g : Gv} {b : Nat} (eb : Rd P hb i0 0 0 0) (hkb : hb.length ≤ km) (hql : q < h.length) (hkl : km < h.length) (hr : row.length = 4) (hNk : N km) (e : LkB P h h0 i q km n kn gs row N R0 rm k K) (hg : gs[k]? = some g) :
    ∃ x a, Rd P (K ++ [.cells (qi g (pt b)) 0 false]) i 0 x a ∧ Heap.read1 (K ++ [.cells (qi g (pt b)) 0 false]) ⟨q, 0, some 0⟩ = some (pt P.r) ∧ Heap.read1 (K ++ [.cells (qi g (pt b)) 0 false]) ⟨q, 1, some 0⟩ = some (.map (some km)) ∧
      ((x ≠ 0 ∧ LkB P h h0 i q km n kn gs row N R0 rm (k + 1) (K ++ [.cells (qi g (pt b)) 0 false])) ∨ (x = 0 ∧ ∃ K', updO (K ++ [.cells (qi g (pt b)) 0 false]) .str (.map (some km)) (str g.name) (.bool false) = some (undef, K') ∧ LkB P h h0 i q km n kn gs row N R0 rm (k + 1) K')) := by
  obtain ⟨here, kn', x, a, l, f1, f2⟩ := e
  have l' := l.more [.cells (qi g (pt b)) 0 false]
  obtain ⟨nq, nk, nh, n3, qk, qh, b3k, b3h⟩ := l.ne hr
  refine ⟨x, a, l'.rd, x8 l'.cq, x8 l'.cq, ?_⟩
  by_cases x0 : x = 0
  · right
    refine ⟨x0, ?_⟩
    obtain ⟨a0, h1, h2, h4⟩ := f1 x0
    obtain ⟨g1, g2⟩ := zj1 h4 k g hg
    have hnew : jo kn' g.name = none := by
      rw [h2, gx, g1, zen _ (fun _ => false) _ (by simpa using g2)]; rfl
    have hu := zni _ l'.ck (zi8 hnew false)
    have lk := (List.getElem?_eq_some_iff.1 l'.ck).1
    refine ⟨_, hu, here, kn' ++ [(g.name, false)], x, a, ⟨eb.upd l'.rd hkb _, by rw [List.getElem?_set_ne (Ne.symm qk)]; exact l'.cq, by rw [List.getElem?_set_self lk], by rw [List.getElem?_set_ne (by omega)]; exact l'.ch, by rw [List.getElem?_set_ne (by omega)]; exact l'.rw, l'.kp.set hNk _⟩, fun _ => ⟨a0, h1, ?_, h4⟩, fun h => absurd x0 h⟩
    rw [h2, zoa hg]; simp
  · exact .inl ⟨x0, here, kn', x, a, l', fun h => absurd h x0, f2⟩
theorem LkA.rm {P : RP} {hb h h0 K : Heap} {i0 i q km n k : Nat} {kn : Kn} {gs : List Gv} {row : List Value} {N : Nat → Prop} {R0 : CR Stm} {rm : Value} (eb : Rd P hb i0 0 0 0) (hqb : hb.length ≤ q) (hql : q < h.length) (hr : row.length = 4) (hNq : N q) (e : LkA P h h0 i q km n kn gs row N R0 rm k K) (rm' : Value) :
    ∃ K1, Heap.write1 K ⟨q, 2, some 0⟩ rm' = some K1 ∧ LkA P h h0 i q km n kn gs row N R0 rm' k K1 := by
  obtain ⟨here, x, a, l, f1, f2⟩ := e
  obtain ⟨nq, nk, nh, n3, qk, qh, b3k, b3h⟩ := l.ne hr
  have lq := (List.getElem?_eq_some_iff.1 l.cq).1
  exact ⟨K.set q (.cells [pt P.r, .map (some km), rm', .int .i64 ((n + k : Nat) : Int)] 0 false), by rw [b9 l.cq (by simp)]; rfl, here, x, a, ⟨eb.upd l.rd hqb _, by rw [List.getElem?_set_self lq], by rw [List.getElem?_set_ne qk]; exact l.ck, by rw [List.getElem?_set_ne (by omega)]; exact l.ch, by rw [List.getElem?_set_ne (by omega)]; exact l.rw, l.kp.set hNq _⟩, f1, f2⟩
theorem LkA.row {P : RP} {h h0 K : Heap} {i q km n k : Nat} {kn : Kn} {gs : List Gv} {row : List Value} {N : Nat → Prop} {R0 : CR Stm} {rm : Value} (e : LkA P h h0 i q km n kn gs row N R0 rm k K) : K[h.length]? = some (.cells row 0 false) ∧ KpO P N h0 K := by
  obtain ⟨here, x, a, l, f1, f2⟩ := e; exact ⟨l.rw, l.kp⟩
theorem LkB.row {P : RP} {h h0 K : Heap} {i q km n k : Nat} {kn : Kn} {gs : List Gv} {row : List Value} {N : Nat → Prop} {R0 : CR Stm} {rm : Value} (e : LkB P h h0 i q km n kn gs row N R0 rm k K) : K[h.length]? = some (.cells row 0 false) ∧ KpO P N h0 K := by
  obtain ⟨here, kn', x, a, l, f1, f2⟩ := e; exact ⟨l.rw, l.kp⟩
theorem LkC.row {P : RP} {h h0 K : Heap} {i q km n k : Nat} {kn : Kn} {rc : Bool} {gs : List Gv} {vs : List Value} {S : Nat → Prop} {row : List Value} {N : Nat → Prop} {R0 : CR Stm} {rm : Value} (e : LkC P h h0 i q km n kn rc gs vs S row N R0 rm k K) : K[h.length]? = some (.cells row 0 false) ∧ KpO P N h0 K := by
  obtain ⟨here, kn', x, a, gs', l, f1, f2⟩ := e; exact ⟨l.rw, l.kp⟩
theorem LkD.row {P : RP} {h h0 K : Heap} {i q km n k : Nat} {kn : Kn} {rc : Bool} {gs : List Gv} {vs : List Value} {S : Nat → Prop} {row : List Value} {N : Nat → Prop} {R0 : CR Stm} {rm : Value} (e : LkD P h h0 i q km n kn rc gs vs S row N R0 rm k K) : K[h.length]? = some (.cells row 0 false) ∧ KpO P N h0 K := by
  obtain ⟨here, kn', x, a, gs', l, f1, f2⟩ := e; exact ⟨l.rw, l.kp⟩
end Go.Proofs.YtljdbheclfaloaaGreatDoor.AM
namespace Go.Proofs.YtljdbheclfaloaaGreatDoor.AM
open Go.RowKit
set_option linter.unusedSimpArgs false
set_option linter.unusedVariables false
set_option maxRecDepth 20000

theorem ztn {P : RP} {hb h h0 K : Heap} {i0 i q km n k : Nat} {kn : Kn} {rc : Bool} {gs : List Gv} {vs : List Value} {S : Nat → Prop} {row : List Value} {N : Nat → Prop} {R0 : CR Stm} {rm : Value} {g : Gv} {v : Value} (eb : Rd P hb i0 0 0 0) (hhb : hb.length ≤ h.length) (hqb : hb.length ≤ q) (hkb : hb.length ≤ km) (hql : q < h.length) (hkl : km < h.length) (hr : row.length = 4) (hNS : ∀ z, S z → N z) (hS : ∀ z, S z → hb.length ≤ z ∧ z ≠ q ∧ z ≠ km ∧ z < h.length) (hrm : rm = if rc then .map (some (h.length + 1)) else .map none) (hK0 : h.length + 1 < h0.length)
    (e : LkC P h h0 i q km n kn rc gs vs S row N R0 rm k K) (hg : gs[k]? = some g) (hv : vs[k]? = some v) :
    ∃ b K2 t pl, v = pt b ∧ DF FF xl [pt q, v, .bool false] (K ++ [.cells (qi g v) 0 false]) = some (tup [], K2) ∧ K2[K.length]? = some (.cells (qi g v) 0 false) ∧ K2[h.length]? = some (.cells row 0 false) ∧ Heap.read1 K2 ⟨q, 0, some 0⟩ = some (pt P.r) ∧ Heap.read1 K2 ⟨b, 5, some 0⟩ = some (.bool t) ∧ Heap.read1 K2 ⟨b, 2, some 0⟩ = some (.int .i64 (pl : Int)) ∧
      (((rc && t) = false ∧ LkC P h h0 i q km n kn rc gs vs S row N R0 rm (k + 1) K2) ∨ ((rc && t) = true ∧ ∃ K3, DF FF x7 [pt P.r, .int .i64 41, .int .i64 (pl : Int)] K2 = some (tup [], K3) ∧ LkC P h h0 i q km n kn rc gs vs S row N R0 rm (k + 1) K3)) := by
  obtain ⟨here, kn', x, a, gs', l, G, hnm, f1, f2⟩ := e
  have lK : h0.length ≤ K.length := l.kp.2
  have hkl' : k < gs.length := (List.getElem?_eq_some_iff.1 hg).1
  have hlen : gs'.length = gs.length := by have := congrArg List.length hnm; simpa using this
  obtain ⟨g', hg'⟩ : ∃ g', gs'[k]? = some g' := ⟨_, List.getElem?_eq_getElem (by omega)⟩
  have hgn : g'.name = g.name ∧ g'.at_ = g.at_ := by
    have := congrArg (·[k]?) hnm
    simp only [List.getElem?_map, hg, hg', Option.map_some] at this
    simpa using this
  obtain ⟨nq, nk, nh, n3, qk, qh, b3k, b3h⟩ := l.ne hr
  have l1 := l.more [.cells (qi g v) 0 false]
  have G1 : GsP (K ++ [.cells (qi g v) 0 false]) S vs gs' := G.keep fun b o _ ho => y6 _ ho
  obtain ⟨v', Sk, hv', tk, hSk, back⟩ := G1.focus hg'
  have : v' = v := by rw [hv] at hv'; exact (Option.some.inj hv').symm
  subst this
  obtain ⟨b, op1, w1, l1', r1, rfl, hbSk, hbo⟩ := tk.root
  have hbS := hSk b hbSk
  have nr : ∀ z, S z → z ≠ P.r := fun z hz => by have := (hS z hz).1; have := eb.lr; omega
  have hlast : (K ++ [AObj.cells (qi g (pt b)) 0 false])[K.length]? = some (.cells (qi g (pt b)) 0 false) := by simp
  -- one more expression, read as it is
  have nm : ∀ e', ((gs'.set k ⟨g'.name, g'.at_, e'⟩).map fun g => (g.name, g.at_)) = gs.map fun g => (g.name, g.at_) := fun e' => by
    rw [← hnm, List.map_set]
    apply List.ext_getElem?
    intro j
    by_cases hj : k = j
    · subst hj
      rw [List.getElem?_set_self (by simp; omega), List.getElem?_map, hg']; rfl
    · rw [List.getElem?_set_ne hj]
  by_cases x0 : x = 0
  · obtain ⟨a0, h1, h2, h3, lst, hll, hgs, hR, hset⟩ := f1 x0
    subst x0 a0
    have hgg : g' = g := by
      have h5 : gs'[k]? = gs[k]? := by
        rw [hgs, List.getElem?_append_right (by omega), hll, Nat.sub_self, List.getElem?_drop, Nat.add_zero]
      rw [hg', hg] at h5; exact Option.some.inj h5
    subst hgg
    have ch : Ch P (K ++ [.cells (qi g' (pt b)) 0 false]) q km rm (n + gs.length) kn' (rcIn rc gs) := ⟨l1.cq, l1.ck, by
      cases hrc : rc
      · rw [hrc] at hrm; exact .inl ⟨hrm, rfl⟩
      · rw [hrc] at hrm; refine .inr ⟨h.length + 1, hrm, ?_⟩
        have := h1 hrc
        have hc := l1.ch
        rw [this] at hc
        exact hc⟩
    obtain ⟨K2, c2, r2, k2⟩ := zhi P kn' (rcIn rc gs) g'.e false hb _ i0 i q km (n + gs.length) rm Sk (pt b) eb l1.rd ch tk ⟨fun z hz => (hS z (hSk z hz)).1, fun h => (hS _ (hSk _ h)).2.1 rfl, fun h => (hS _ (hSk _ h)).2.2.1 rfl, fun b' hb' h' => by
        cases hrc : rc
        · rw [hrm, hrc] at hb'; cases hb'
        · rw [hrm, hrc] at hb'; simp at hb'; have := (hS _ (hSk _ h')).2.2.2; omega⟩ (fun z hz => by have := (hS z (hSk z hz)).2.2.2; simp; omega)
    have keep := fun z o (hz : ¬ Sk z) (hr : z ≠ P.r) ho => k2.keep z o ho hz hr
    have nSk : ∀ z, h.length ≤ z → ¬ Sk z := fun z hz h' => by have := (hS z (hSk z h')).2.2.2; omega
    have l2 : ∀ x' a', Rd P K2 i 0 x' a' → LkS P N h0 K2 i q km (h.length + 1) h.length (n + gs.length) rm here kn' row x' a' := fun x' a' e2 =>
      ⟨e2, keep _ _ (fun h => (hS _ (hSk _ h)).2.1 rfl) nq l1.cq, keep _ _ (fun h => (hS _ (hSk _ h)).2.2.1 rfl) nk l1.ck, keep _ _ (nSk _ (by omega)) nh l1.ch, keep _ _ (nSk _ (by omega)) n3 l1.rw, (l1.kp.trans k2.o).weak fun z _ hz => hz.elim id fun h => hNS z (hSk z h)⟩
    have row2 := keep _ _ (nSk _ (by have := lK; omega)) (by have := l.rd.lr; omega) hlast
    have hR2 : R0 = (match chkE kn' (rcIn rc gs) false g'.e with | .bad c a => CR.bad c a | .ok x => if rc && x.set then .bad 41 g'.e.pl else (match zf2 kn' (rcIn rc gs) rc (gs.drop (k + 1)) with | .bad c a => .bad c a | .ok m => .ok (.lets rc (lst ++ (⟨g'.name, g'.at_, x⟩ :: m))))) := by
      rw [hR, zbv hg, zf2]
      cases chkE kn' (rcIn rc gs) false g'.e with
      | bad c a => rfl
      | ok y =>
        simp only
        by_cases t : (rc && y.set) = true
        · rw [if_pos t, if_pos t]
        · rw [if_neg t, if_neg t]
          cases zf2 kn' (rcIn rc gs) rc (gs.drop (k + 1)) <;> rfl
    have GB : ∀ e', TreeP K2 Sk (pt b) e' → GsP K2 S vs (gs'.set k ⟨g'.name, g'.at_, e'⟩) := fun e' t' => back K2 e' t' fun z o hz hn ho => keep z o hn (nr z hz) ho
    cases hc : chkE kn' (rcIn rc gs) false g'.e with
    | bad c ca =>
      rw [hc] at r2 hR2
      obtain ⟨hc0, ⟨e', t', hp⟩, e2⟩ := r2
      obtain ⟨b', op', w', l', r', hpb, _, hbx'⟩ := t'.root
      have hpb : b = b' := by simpa using hpb
      subst hpb
      refine ⟨b, K2, e'.set, e'.pl, rfl, c2, row2, (l2 _ _ e2).rw, x8 (l2 _ _ e2).cq, x8 hbx', x8 hbx', ?_⟩
      have L2 : LkC P h h0 i q km n kn rc gs vs S row N R0 rm (k + 1) K2 := ⟨here, kn', c, ca, _, l2 _ _ e2, GB e' t', nm e', fun h => absurd h hc0, fun _ => hR2⟩
      cases ht : (rc && e'.set)
      · exact .inl ⟨rfl, L2⟩
      · exact .inr ⟨rfl, K2, zly e2 hc0 _ _, L2⟩
    | ok y =>
      rw [hc] at r2 hR2
      obtain ⟨t', hp, e2⟩ := r2
      obtain ⟨b', op', w', l', r', hpb, _, hbx'⟩ := t'.root
      have hpb : b = b' := by simpa using hpb
      subst hpb
      refine ⟨b, K2, y.set, y.pl, rfl, c2, row2, (l2 _ _ e2).rw, x8 (l2 _ _ e2).cq, x8 hbx', x8 hbx', ?_⟩
      cases ht : (rc && y.set)
      · simp only [ht, Bool.false_eq_true, if_false] at hR2
        refine .inl ⟨rfl, here, kn', 0, 0, _, l2 _ _ e2, GB y t', nm y, fun _ => ⟨rfl, h1, h2, h3, lst ++ [⟨g'.name, g'.at_, y⟩], by simp [hll], ?_, by rw [hR2]; cases zf2 kn' (rcIn rc gs) rc (gs.drop (k + 1)) <;> simp, ?_⟩, fun h => absurd rfl h⟩
        · rw [hgs, List.set_append_right _ _ (by omega), hll, Nat.sub_self, zbv hg]; simp
        · intro hrc g2 hg2
          rcases List.mem_append.1 hg2 with hg2 | hg2
          · exact hset hrc g2 hg2
          · simp at hg2; subst hg2; rw [hrc, Bool.true_and] at ht; exact ht
      · simp only [ht, if_true] at hR2
        obtain ⟨K3, q3, e3, m3⟩ := zje e2 41 y.pl (by omega)
        have k3 := (m3.kp fun o ho => by rw [e3.hc, ← e2.hc]; exact ho)
        refine .inr ⟨rfl, K3, q3, here, kn', 41, y.pl, _, ⟨e3, k3.keep _ _ (l2 _ _ e2).cq id nq, k3.keep _ _ (l2 _ _ e2).ck id nk, k3.keep _ _ (l2 _ _ e2).ch id nh, k3.keep _ _ (l2 _ _ e2).rw id n3, ((l2 _ _ e2).kp.trans k3.o).weak fun z _ hz => hz.elim id False.elim⟩, (GB y t').keep fun z o hz ho => k3.keep z o ho id (nr z hz), nm y, fun h => by omega, fun _ => ?_⟩
        rw [hp]; exact hR2
  · refine ⟨b, _, g'.e.set, g'.e.pl, rfl, ztz l1.rd x0 l1.cq b false, hlast, l1.rw, x8 l1.cq, x8 hbo, x8 hbo, ?_⟩
    have L2 : LkC P h h0 i q km n kn rc gs vs S row N R0 rm (k + 1) (K ++ [.cells (qi g (pt b)) 0 false]) := ⟨here, kn', x, a, gs', l1, G1, hnm, fun h => absurd h x0, f2⟩
    cases ht : (rc && g'.e.set)
    · exact .inl ⟨rfl, L2⟩
    · exact .inr ⟨rfl, _, zly l1.rd x0 _ _, L2⟩
theorem zts {P : RP} {hb h h0 K : Heap} {i0 i q km n k : Nat} {kn : Kn} {rc : Bool} {gs : List Gv} {vs : List Value} {S : Nat → Prop} {row : List Value} {N : Nat → Prop} {R0 : CR Stm} {rm : Value} {g : Gv} {v : Value} (eb : Rd P hb i0 0 0 0) (hkb : hb.length ≤ km) (hql : q < h.length) (hkl : km < h.length) (hr : row.length = 4) (hNk : N km) (hS : ∀ z, S z → hb.length ≤ z ∧ z ≠ q ∧ z ≠ km ∧ z < h.length)
    (e : LkD P h h0 i q km n kn rc gs vs S row N R0 rm k K) (hg : gs[k]? = some g) (hv : vs[k]? = some v) :
    ∃ b x a t, v = pt b ∧ Rd P (K ++ [.cells (qi g v) 0 false]) i 0 x a ∧ Heap.read1 (K ++ [.cells (qi g v) 0 false]) ⟨q, 0, some 0⟩ = some (pt P.r) ∧ Heap.read1 (K ++ [.cells (qi g v) 0 false]) ⟨q, 1, some 0⟩ = some (.map (some km)) ∧ Heap.read1 (K ++ [.cells (qi g v) 0 false]) ⟨b, 5, some 0⟩ = some (.bool t) ∧
      ((x ≠ 0 ∧ LkD P h h0 i q km n kn rc gs vs S row N R0 rm (k + 1) (K ++ [.cells (qi g v) 0 false])) ∨ (x = 0 ∧ ∃ K', updO (K ++ [.cells (qi g v) 0 false]) .str (.map (some km)) (str g.name) (.bool t) = some (undef, K') ∧ LkD P h h0 i q km n kn rc gs vs S row N R0 rm (k + 1) K')) := by
  obtain ⟨here, kn', x, a, gs', l, G, hnm, f1, f2⟩ := e
  have hkl' : k < gs.length := (List.getElem?_eq_some_iff.1 hg).1
  have hlen : gs'.length = gs.length := by have := congrArg List.length hnm; simpa using this
  obtain ⟨g', hg'⟩ : ∃ g', gs'[k]? = some g' := ⟨_, List.getElem?_eq_getElem (by omega)⟩
  have hgn : g'.name = g.name ∧ g'.at_ = g.at_ := by
    have := congrArg (·[k]?) hnm
    simp only [List.getElem?_map, hg, hg', Option.map_some] at this
    simpa using this
  obtain ⟨nq, nk, nh, n3, qk, qh, b3k, b3h⟩ := l.ne hr
  have l1 := l.more [.cells (qi g v) 0 false]
  have G1 : GsP (K ++ [.cells (qi g v) 0 false]) S vs gs' := G.keep fun b o _ ho => y6 _ ho
  obtain ⟨v', Sk, hv', tk, hSk⟩ := G1.get k g' hg'
  have : v' = v := by rw [hv] at hv'; exact (Option.some.inj hv').symm
  subst this
  obtain ⟨b, op1, w1, l1', r1, rfl, hbSk, hbo⟩ := tk.root
  refine ⟨b, x, a, g'.e.set, rfl, l1.rd, x8 l1.cq, x8 l1.cq, x8 hbo, ?_⟩
  by_cases x0 : x = 0
  · right
    obtain ⟨a0, h3, h4, h5, h6⟩ := f1 x0
    refine ⟨x0, ?_⟩
    have lk := (List.getElem?_eq_some_iff.1 l1.ck).1
    have hgk := List.mem_of_getElem? hg'
    have fin : ∀ kn2, pm .str (str g.name) (.bool g'.e.set) (knE kn') = some (knE kn2) → kn2 = (if rc then kn ++ k7 gs' else kn ++ k7 (gs'.take (k + 1))) → ∃ K', updO (K ++ [.cells (qi g (pt b)) 0 false]) .str (.map (some km)) (str g.name) (.bool g'.e.set) = some (undef, K') ∧ LkD P h h0 i q km n kn rc gs vs S row N R0 rm (k + 1) K' := fun kn2 hs hk2 =>
      ⟨_, zni _ l1.ck hs, here, kn2, x, a, gs', ⟨eb.upd l1.rd hkb _, by rw [List.getElem?_set_ne (Ne.symm qk)]; exact l1.cq, by rw [List.getElem?_set_self lk], by rw [List.getElem?_set_ne (by omega)]; exact l1.ch, by rw [List.getElem?_set_ne (by omega)]; exact l1.rw, l1.kp.set hNk _⟩, G1.keep fun z o hz ho => by rw [List.getElem?_set_ne (Ne.symm (hS z hz).2.2.1)]; exact ho, hnm, fun _ => ⟨a0, h3, h4, h5, hk2⟩, fun h => absurd x0 h⟩
    cases hrc : rc
    · rw [hrc, if_neg Bool.false_ne_true] at h6
      obtain ⟨g1, g2⟩ := zj1 h3 k g hg
      have hnew : jo kn' g.name = none := by
        rw [h6, gx, g1]
        have hnames : (gs'.take k).map (·.name) = (gs.take k).map (·.name) := by
          have := congrArg (fun l => (l.take k).map (·.1)) hnm
          simpa [List.map_take, List.map_map, Function.comp_def] using this
        have : jo (k7 (gs'.take k)) g.name = none := zen _ (fun g => g.e.set) _ (by rw [hnames]; simpa using g2)
        rw [this]; rfl
      rw [hrc] at fin
      refine fin _ (zi8 hnew _) ?_
      rw [if_neg Bool.false_ne_true, h6, zoa hg', k7, k7, List.map_append, hgn.1.symm]; simp
    · rw [hrc, if_pos rfl] at h6
      rw [hrc] at fin
      have hs := h5 hrc g' hgk
      refine fin kn' (zm4 ?_) (by rw [if_pos rfl, h6])
      obtain ⟨g1, g2⟩ := zj1 h3 k g hg
      rw [h6, gx, g1, hs]
      -- the k-th name stands at the k-th place first
      have hsp : k7 gs' = k7 (gs'.take k) ++ (g'.name, g'.e.set) :: k7 (gs'.drop (k + 1)) := by
        unfold k7
        rw [← List.map_cons (f := fun g : Gv => (g.name, g.e.set)), ← List.map_append, ← zbv hg', List.take_append_drop]
      have hnames : (gs'.take k).map (·.name) = (gs.take k).map (·.name) := by
        have := congrArg (fun l => (l.take k).map (·.1)) hnm
        simpa [List.map_take, List.map_map, Function.comp_def] using this
      have : jo (k7 (gs'.take k)) g.name = none := zen _ (fun g => g.e.set) _ (by rw [hnames]; simpa using g2)
      rw [hsp, gx, this, jo, hgn.1, hs]; simp
  · exact .inl ⟨x0, here, kn', x, a, gs', l1, G1, hnm, fun h => absurd h x0, f2⟩
end Go.Proofs.YtljdbheclfaloaaGreatDoor.AM
namespace Go.Proofs.YtljdbheclfaloaaGreatDoor.AM
open Go.RowKit
set_option linter.unusedSimpArgs false
set_option linter.unusedVariables false
set_option maxRecDepth 20000

theorem gc (g : Gv) (v : Value) : (qi g v).length = 3 := by simp [qi]
theorem zfi (g : Gv) (v : Value) : (qi g v)[0]? = some (str g.name) := rfl
theorem zej (g : Gv) (v : Value) : (qi g v)[2]? = some v := rfl
theorem ztc {P : RP} {h h0 K : Heap} {i q km n : Nat} {kn : Kn} {rc : Bool} {gs : List Gv} {vs : List Value} {S : Nat → Prop} {row : List Value} {N N' : Nat → Prop} {rm : Value} (hN : ∀ z, N z → N' z) (hc : GsP K S vs gs)
    (hrc : (rc = true ∧ LkB P h h0 i q km n kn gs row N (chkS kn n (.lets rc gs)) rm gs.length K) ∨ (rc = false ∧ LkA P h h0 i q km n kn gs row N (chkS kn n (.lets rc gs)) rm gs.length K)) : LkC P h h0 i q km n kn rc gs vs S row N' (chkS kn n (.lets rc gs)) rm 0 K := by
  have hR : zan kn n [] gs = .ok () → chkS kn n (.lets rc gs) = (match zf2 (knIn kn rc gs) (rcIn rc gs) rc (gs.drop 0) with | .bad c a => .bad c a | .ok m => .ok (.lets rc ([] ++ m))) := fun hf => by
    rw [chkS, hf, List.drop_zero]
    unfold knIn rcIn
    simp only
    cases zf2 (if rc = true then kn ++ gs.map (fun g => (g.name, false)) else kn) (if rc = true then gs.map (·.name) else []) rc gs <;> rfl
  rcases hrc with ⟨rfl, here, kn', x, a, l, f1, f2⟩ | ⟨rfl, here, x, a, l, f1, f2⟩
  · refine ⟨here, kn', x, a, gs, l.weak hN, hc, rfl, fun x0 => ?_, f2⟩
    obtain ⟨a0, h1, h2, h3⟩ := f1 x0
    have hk : kn' = knIn kn true gs := by rw [h2, List.take_length]; rfl
    exact ⟨a0, fun _ => h1, hk, h3, [], rfl, by simp, by rw [hk]; exact hR h3, fun _ g hg => by cases hg⟩
  · refine ⟨here, kn, x, a, gs, l.weak hN, hc, rfl, fun x0 => ?_, f2⟩
    obtain ⟨a0, h1, h3⟩ := f1 x0
    rw [List.drop_length] at h3
    exact ⟨a0, (fun h => by cases h), rfl, h3, [], rfl, by simp, hR h3, fun _ g hg => by cases hg⟩
theorem zwm {P : RP} {h h0 K : Heap} {i q km n : Nat} {kn : Kn} {rc : Bool} {gs : List Gv} {vs : List Value} {S : Nat → Prop} {row : List Value} {N : Nat → Prop} {R0 : CR Stm} {rm : Value} (e : LkC P h h0 i q km n kn rc gs vs S row N R0 rm gs.length K) : LkD P h h0 i q km n kn rc gs vs S row N R0 rm 0 K := by
  obtain ⟨here, kn', x, a, gs', l, G, hnm, f1, f2⟩ := e
  refine ⟨here, kn', x, a, gs', l, G, hnm, fun x0 => ?_, f2⟩
  obtain ⟨a0, h1, h2, h3, lst, hll, hgs, hR, hset⟩ := f1 x0
  rw [List.drop_length, List.append_nil] at hgs
  rw [List.drop_length, zf2] at hR
  subst hgs
  refine ⟨a0, h3, by rw [hR]; simp, hset, ?_⟩
  rw [h2]
  unfold knIn
  cases hrc : rc
  · simp [k7]
  · rw [if_pos rfl, if_pos rfl]
    have hn : gs.map (·.name) = gs'.map (·.name) := by
      have := congrArg (List.map (·.1)) hnm
      simpa [List.map_map, Function.comp_def] using this.symm
    have : gs.map (fun g => (g.name, false)) = k7 gs' := by
      have e1 : gs.map (fun g => (g.name, false)) = (gs.map (·.name)).map fun w => (w, false) := by simp
      have e2 : k7 gs' = (gs'.map (·.name)).map fun w => (w, false) := by
        unfold k7
        rw [List.map_map]
        apply List.map_congr_left
        intro g hg
        simp [hset hrc g hg]
      rw [e1, e2, hn]
    rw [this]
set_option maxHeartbeats 8000000 in
theorem zx4 (P : RP) (kn : Kn) (rc : Bool) (gs : List Gv) : ydo P kn (.lets rc gs) := by
  intro hb h i0 i q km n rm T row eb eh hq hk st hT hqb hkb hn hgs
  obtain ⟨s, vs, S, rfl, hsl, hG, hS, hbs⟩ := st
  have hlen : gs.length ≤ 8192 := hgs rc gs rfl
  have lq := (List.getElem?_eq_some_iff.1 hq).1
  have lk := (List.getElem?_eq_some_iff.1 hk).1
  have lr := eh.lr
  have hhb : hb.length ≤ h.length := by omega
  have nq : q ≠ P.r := by rintro rfl; have := eh.hr.symm.trans hq; simp at this
  have nk : km ≠ P.r := by rintro rfl; have := eh.hr.symm.trans hk; simp at this
  have hvl := hG.len
  have lens : ∀ K, lenO K s = some (.int .i64 (gs.length : Int), K) := fun K => by rw [hsl.len, zet hvl]
  have hS' : ∀ z, S z → hb.length ≤ z ∧ z ≠ q ∧ z ≠ km ∧ z < h.length := fun z hz => hT z (hS z hz).1
  have : ∃ v' h', DF FF ko [pt q, agg [str (kwOf rc), s, nilP, str []]] h = some (v', h') ∧ (v' = tup [] ∧ LookR P i q km n kn T [str (kwOf rc), s, nilP, str []] h' (chkS kn n (.lets rc gs)) ∧ KpO P (fun z => T z ∨ z = q ∨ z = km) h h') := by
    refine wx zdb ?_
    obtain ⟨row, hrow⟩ : ∃ row, row = [str (kwOf rc), s, nilP, str []] := ⟨_, rfl⟩
    have hr4 : row.length = 4 := by rw [hrow]; rfl
    obtain ⟨h0, hh0⟩ : ∃ h0, h0 = h ++ [AObj.cells [str (kwOf rc), s, nilP, str []] 0 false, .map []] := ⟨_, rfl⟩
    have e0 : Rd P h0 i 0 0 0 := by rw [hh0]; exact eh.more _
    have k0 : KpO P (fun _ => False) h h0 := by rw [hh0]; exact KpO.add _ _ _ _
    have g0 : h0[h.length]? = some (.cells row 0 false) := by rw [hh0, hrow]; simp
    have gm0 : h0[h.length + 1]? = some (.map []) := by rw [hh0]; simp
    have lh0 : h.length + 1 < h0.length := by rw [hh0]; simp
    obtain ⟨N, hN⟩ : ∃ N : Nat → Prop, N = fun z => z = q ∨ z = km ∨ z = h.length + 1 ∨ S z := ⟨_, rfl⟩
    have hNq : N q := by rw [hN]; exact .inl rfl
    have hNk : N km := by rw [hN]; exact .inr (.inl rfl)
    have hNh : N (h.length + 1) := by rw [hN]; exact .inr (.inr (.inl rfl))
    obtain ⟨M, hM⟩ : ∃ M : Nat → Prop, M = fun z => z = q ∨ z = km ∨ z = h.length + 1 := ⟨_, rfl⟩
    have hMq : M q := by rw [hM]; exact .inl rfl
    have hMk : M km := by rw [hM]; exact .inr (.inl rfl)
    have hMh : M (h.length + 1) := by rw [hM]; exact .inr (.inr rfl)
    have hMN : ∀ z, M z → N z := fun z hz => by rw [hM] at hz; rw [hN]; exact hz.imp id fun h => h.imp id .inl
    have GK : ∀ K, KpO P M h0 K → GsP K S vs gs := fun K kK => hG.keep fun z o hz ho => kK.keep z o (k0.keep z o ho id (by have := (hS' z hz).1; have := eb.lr; omega)) (by
      rw [hM]; have h1 := hS' z hz
      rintro (h2 | h2 | h2)
      · exact h1.2.1 h2
      · exact h1.2.2.1 h2
      · omega) (by have := (hS' z hz).1; have := eb.lr; omega)
    have hNS : ∀ z, S z → N z := fun z hz => by rw [hN]; exact .inr (.inr (.inr hz))
    obtain ⟨R0, hR0⟩ : ∃ R0, R0 = chkS kn n (.lets rc gs) := ⟨_, rfl⟩
    have hRF : ∀ c a, zan kn n [] gs = .bad c a → R0 = .bad c a := fun c a hf => by rw [hR0, chkS, hf]
    have LA0 : LkA P h h0 i q km n kn gs row M R0 rm 0 h0 := ⟨[], 0, 0, ⟨e0, k0.keep _ _ hq id nq, k0.keep _ _ hk id nk, gm0, g0, ⟨fun b o ho _ _ => ho, Nat.le_refl _⟩⟩, fun _ => ⟨rfl, rfl, rfl⟩, fun h => absurd rfl h⟩
    -- the names' row, as it lies
    have slK : ∀ K, KpO P N h0 K → Sl K s 3 (List.zipWith qi gs vs) := fun K kK => hsl.keep fun b hb' o ho => kK.keep b o (k0.keep b o ho id (by have := (hT b (hbs b hb')).1; have := eb.lr; omega)) (by
      rw [hN]
      have h1 := hT b (hbs b hb')
      rintro (h2 | h2 | h2 | h2)
      · exact h1.2.1 h2
      · exact h1.2.2.1 h2
      · omega
      · exact (hS b h2).2 hb') (by have := (hT b (hbs b hb')).1; have := eb.lr; omega)
    have hvb : ∀ k, k < gs.length → ∃ g b, gs[k]? = some g ∧ vs[k]? = some (pt b) ∧ (∀ K, KpO P N h0 K → ∃ b' o v, (∀ H', rowO H' 3 s (.int .i64 (k : Int)) = some (.pointer (some ⟨b', o, some v⟩), H')) ∧ Heap.read K ⟨b', o, some v⟩ 3 = some (qi g (pt b))) := fun k hk => by
      have hg : gs[k]? = some gs[k] := List.getElem?_eq_getElem hk
      obtain ⟨v, Sk, hv, tk, _⟩ := hG.get k gs[k] hg
      obtain ⟨b, _, _, _, _, rfl, _, _⟩ := tk.root
      refine ⟨gs[k], b, hg, hv, fun K kK => ?_⟩
      obtain ⟨b', o, v, a1, a2⟩ := (slK K kK).atH (k := k) (by rw [zet hvl]; exact hk)
      refine ⟨b', o, v, a1, ?_⟩
      rw [a2]
      have := zw4 hvl hg hv
      rw [List.getElem?_eq_getElem (by rw [zet hvl]; exact hk)] at this
      exact this
    have rg0 : ∀ j, Heap.read1 h0 ⟨h.length, j, some 0⟩ = ([str (kwOf rc), s, nilP, str []] : List Value)[j]? := fun j => by rw [← hrow]; exact x8 g0
    have hrk : ∀ K, K[h.length]? = some (.cells row 0 false) → ∀ j, Heap.read1 K ⟨h.length, j, some 0⟩ = ([str (kwOf rc), s, nilP, str []] : List Value)[j]? := fun K hK j => by rw [← hrow]; exact x8 hK
    simp only [jd, ya, zb, yb, zm, zc, zo, zf, ze, zd, List.set_cons_succ, List.set_cons_zero, O_mv, yg, fq, zx, zk, List.cons_append, List.nil_append, List.length_cons, List.length_nil, Nat.reduceAdd, Nat.reduceSub, Nat.zero_add, zn, yc, zy, za, w6, xa, z7, zh, zg, List.append_assoc, List.length_append, List.getElem?_cons_zero, List.getElem?_cons_succ, eq_self, yf, zs, yj, yf, zs, zes, ← hh0, rg0, lens]
    refine bz 0 gs.length (LkA1 P h h0 i q km n kn gs s row M R0 rm) (LkA2 P h h0 i q km n kn gs row M R0 rm gs.length) ?_ ?_ _ ⟨h0, junk rfl, LA0⟩ ?_
    · rintro k st hk' ⟨K, ⟨j, rfl⟩, e⟩
      obtain ⟨g, b, hg, hv, hat⟩ := hvb k hk'
      obtain ⟨b', o, v, a1, a2⟩ := hat K (e.row.2.weak fun z _ h => hMN z h)
      obtain ⟨K', q', e'⟩ := ya0 (b := b) eb hqb hhb lq lk hr4 (by omega) hMq hMh hRF e hg
      have h1 : ((k : Int) < (gs.length : Int)) = True := by simp; omega
      simp only [ya, zt, ym, zb, zz, yb, zm, zc, zp, zo, zf, ze, zd, List.set_cons_succ, List.set_cons_zero, O_mv, yy, yg, ye, List.map_cons, List.map_nil, vt, xt, y5, qf, wm, List.length_cons, List.length_nil, Nat.reduceAdd, Nat.zero_add, zn, yc, zy, za, zi, yp, zl, yr, z6, xn, xd, yh, zu, zr, Option.map_some, eq_self, yq, Option.map_some, decide_true, h1, a1, a2, gc, q', xq (k := k) (by omega)]
      exact ⟨K', junk rfl, e'⟩
    · rintro st ⟨K, ⟨j, rfl⟩, e⟩
      have h1 : ((gs.length : Int) < (gs.length : Int)) = False := by simp
      simp only [ya, zt, vj, zb, zw, yb, zm, zc, zo, ze, zd, List.set_cons_succ, List.set_cons_zero, yy, yg, wm, zn, yc, za, yz, fi, xo, decide_false, h1, fi]
      exact ⟨K, junk rfl, e⟩
    rintro st ⟨K, ⟨j, rfl⟩, e⟩
    obtain ⟨K1, w1, e1⟩ := e.rm eb hqb lq hr4 hMq (.map none)
    have toLast : ∀ K rm', LkD P h h0 i q km n kn rc gs vs S row N R0 rm' gs.length K → ∀ w, LookR P i q km n kn T [str (kwOf rc), s, nilP, str []] (AM.finish h w K) (chkS kn n (.lets rc gs)) ∧ KpO P (fun z => T z ∨ z = q ∨ z = km) h (AM.finish h w K) := by
      intro K rm' e w
      obtain ⟨here, kn', x, a, gs', l, G, hnm, f1, f2⟩ := e
      have kk : KpO P (fun z => T z ∨ z = q ∨ z = km) h K := (k0.trans l.kp).weak fun z hz hz' => hz'.elim False.elim fun h2 => by
        rw [hN] at h2
        rcases h2 with h2 | h2 | h2 | h2
        · exact .inr (.inl h2)
        · exact .inr (.inr h2)
        · omega
        · exact .inl (hS z h2).1
      refine LookR.fin eh lq lk kk (fun z hz => (hT z hz).2.2.2) ?_ w
      rw [← hR0]
      by_cases x0 : x = 0
      · obtain ⟨a0, h3, h4, h5, h6⟩ := f1 x0
        subst x0 a0
        have hgl : gs'.length = gs.length := by have := congrArg List.length hnm; simpa using this
        have hk6 : kn' = kn ++ k7 gs' := by rw [h6, ← hgl, List.take_length]; simp
        rw [h4]
        refine ⟨⟨s, vs, S, rfl, ?_, G, hS, hbs⟩, l.rd, ⟨rm', ?_⟩, ?_⟩
        · rw [zt3 vs hnm]; exact slK K l.kp
        · have : (Stm.lets rc gs').given.length = gs.length := by simp [Stm.given, k7, hgl]
          rw [this]; exact l.cq
        · have := l.ck; rw [hk6] at this; exact this
      · rw [f2 x0]; exact ⟨x0, l.rd⟩
    have rm_ok : ∀ K rm', LkC P h h0 i q km n kn rc gs vs S row N R0 rm' 0 K → True := fun _ _ _ => trivial
    cases hrc : rc
    · subst hrc
      have hrg := hrk K1 e1.row.1
      simp only [ya, zt, ym, zb, zw, yb, zm, zc, zp, zo, zf, ze, zd, List.set_cons_succ, List.set_cons_zero, O_mv, yy, yg, fq, zx, zk, Nat.zero_add, zn, yc, zy, za, yk, xa, z7, zl, xb, zae, zq, zj, Nat.add_zero, List.getElem?_cons_zero, List.getElem?_cons_succ, va, (show Heap.write1 K ⟨q, 2, some 0⟩ (.map none) = some K1 from w1), hrg, zp8, lens]
      have e3 : LkC P h h0 i q km n kn false gs vs S row N R0 (.map none) 0 K1 := by
        rw [hR0] at e1 ⊢
        exact ztc hMN (GK K1 e1.row.2) (.inr ⟨rfl, e1⟩)
      have hrm3 : (.map none : Value) = if false then .map (some (h.length + 1)) else .map none := rfl
      refine bz 4 gs.length (LkC1 P h h0 i q km n kn false gs vs S s row N R0 (.map none)) (LkC2 P h h0 i q km n kn false gs vs S row N R0 (.map none) gs.length) ?_ ?_ _ ⟨K1, junk rfl, e3⟩ ?_
      · rintro k st hk' ⟨K, ⟨j, rfl⟩, e⟩
        obtain ⟨g, b, hg, hv, hat⟩ := hvb k hk'
        obtain ⟨b', o, v, a1, a2⟩ := hat K e.row.2
        obtain ⟨b2, K2', t, pl, hpb, c2, row2, rw2, rq2, rt5, rt2, fin⟩ := ztn eb hhb hqb hkb lq lk hr4 hNS hS' hrm3 lh0 e hg hv
        have hpb : b = b2 := by simpa using hpb
        subst hpb
        have h1 : ((k : Int) < (gs.length : Int)) = True := by simp; omega
        rcases fin with ⟨ht, e'⟩ | ⟨ht, K3', hf, e'⟩
        · simp only [ya, zt, ym, zb, zz, zw, yb, zm, yi, zc, zp, vw, zo, zf, ze, zd, List.set_cons_succ, List.set_cons_zero, O_mv, y0, xi, yy, yg, ye, List.map_cons, List.map_nil, vt, zx, zk, xt, y5, qf, wm, List.length_cons, List.length_nil, Nat.reduceAdd, Nat.zero_add, zn, yc, zy, za, zi, yp, xa, z7, zl, yr, z6, yu, yo, yh, zu, zr, Nat.add_zero, Option.map_some, List.getElem?_cons_zero, eq_self, yq, va, Option.map_some, decide_true, h1, a1, a2, gc, zej, c2, hrk _ rw2, zp8, xq (k := k) (by omega)]
          exact ⟨_, junk rfl, e'⟩
        · rw [Bool.false_and] at ht; cases ht
      · rintro st ⟨K, ⟨j, rfl⟩, e⟩
        have h1 : ((gs.length : Int) < (gs.length : Int)) = False := by simp
        simp only [ya, zt, vj, zb, zw, yb, zm, zc, zo, ze, zd, List.set_cons_succ, List.set_cons_zero, yy, yg, wm, zn, yc, za, yz, fi, xo, decide_false, h1, fi]
        exact ⟨K, junk rfl, e⟩
      rintro st ⟨K4, ⟨j, rfl⟩, eC4⟩
      have hrg4 := hrk K4 eC4.row.1
      have eD := zwm eC4
      simp only [ya, zb, yb, zm, zc, zo, zf, ze, zd, List.set_cons_succ, List.set_cons_zero, O_mv, yg, fq, zx, zk, Nat.zero_add, zn, yc, zy, za, yk, xa, z7, List.getElem?_cons_zero, List.getElem?_cons_succ, hrg4, lens]
      refine bz 6 gs.length (LkD1 P h h0 i q km n kn false gs vs S s row N R0 (.map none)) (LkD2 P h h0 i q km n kn false gs vs S row N R0 (.map none) gs.length) ?_ ?_ _ ⟨K4, junk rfl, eD⟩ ?_
      · rintro k st hk' ⟨K, ⟨j, rfl⟩, e⟩
        obtain ⟨g, b, hg, hv, hat⟩ := hvb k hk'
        obtain ⟨b', o, v, a1, a2⟩ := hat K e.row.2
        obtain ⟨b2, x, a, t, hpb, rd', rq0, rq1, rt5, fin⟩ := zts eb hkb lq lk hr4 hNk hS' e hg hv
        have hpb : b = b2 := by simpa using hpb
        subst hpb
        have h1 : ((k : Int) < (gs.length : Int)) = True := by simp; omega
        rcases fin with ⟨hx, e'⟩ | ⟨rfl, K', hu, e'⟩
        · simp only [ya, zt, ym, zb, zz, zw, yb, zm, zc, zp, zo, zf, ze, zd, List.set_cons_succ, List.set_cons_zero, O_mv, yy, yg, ye, List.map_cons, List.map_nil, vt, zx, zk, xt, y5, qf, wm, List.length_cons, List.length_nil, Nat.reduceAdd, Nat.zero_add, zn, yc, zy, za, zi, yp, xa, z7, zl, yr, z6, zq, zj, yh, zu, zr, Nat.add_zero, Option.map_some, eq_self, yq, Option.map_some, decide_true, h1, a1, a2, gc, rq0, fe rd' hx, xq (k := k) (by omega)]
          exact ⟨_, junk rfl, e'⟩
        · simp only [ya, zt, ym, zb, zz, yb, zm, zc, zp, zo, zf, ze, zd, List.set_cons_succ, List.set_cons_zero, O_mv, yy, yg, ye, List.map_cons, List.map_nil, vt, zx, zk, xt, y5, qf, wm, List.length_cons, List.length_nil, Nat.reduceAdd, Nat.zero_add, zn, yc, zy, za, zi, yp, xa, z7, zl, yr, z6, zq, zj, yu, yo, yh, zu, zr, Nat.add_zero, Option.map_some, eq_self, yq, Option.map_some, decide_true, h1, a1, a2, gc, rq0, rq1, ok_0 rd', zfi, zej, rt5, fx, hu, xq (k := k) (by omega)]
          exact ⟨_, junk rfl, e'⟩
      · rintro st ⟨K, ⟨j, rfl⟩, e⟩
        have h1 : ((gs.length : Int) < (gs.length : Int)) = False := by simp
        simp only [ya, zt, vj, zb, zw, yb, zm, zc, zo, ze, zd, List.set_cons_succ, List.set_cons_zero, yy, yg, wm, zn, yc, za, yz, fi, xo, decide_false, h1, fi]
        exact ⟨K, junk rfl, e⟩
      rintro st ⟨K5, ⟨j, rfl⟩, eD5⟩
      have hrg5 := hrk K5 eD5.row.1
      simp only [ya, zt, ym, zb, zw, yb, zm, zc, zo, zf, ze, zd, List.set_cons_succ, List.set_cons_zero, yg, zx, zk, Nat.zero_add, Bool.not_true, zn, yc, za, yk, xa, z7, List.getElem?_cons_zero, List.getElem?_cons_succ, Bool.bne_true, jw, eq_self, hrg5, po, xp, wn]
      exact ⟨trivial, toLast K5 _ eD5 _⟩
    · subst hrc
      obtain ⟨K2, w2, e2⟩ := e1.rm eb hqb lq hr4 hMq (.map (some (h.length + 1)))
      have hrg := hrk K1 e1.row.1
      have hrg2 := hrk K2 e2.row.1
      simp only [ya, zt, zb, zz, yb, zm, zc, zp, zo, zf, ze, zd, List.set_cons_succ, List.set_cons_zero, O_mv, yy, yg, fq, zx, zk, Nat.zero_add, zn, yc, zy, za, yk, xa, z7, zl, xb, zae, zq, zj, Nat.add_zero, List.getElem?_cons_zero, List.getElem?_cons_succ, va, (show Heap.write1 K ⟨q, 2, some 0⟩ (.map none) = some K1 from w1), hrg, hrg2, zp8, w2, lens]
      have eB : LkB P h h0 i q km n kn gs row M R0 (.map (some (h.length + 1))) 0 K2 := by
        obtain ⟨here, x, a, l, f1, f2⟩ := e2
        exact ⟨here, kn, x, a, l, fun x0 => by
          obtain ⟨a0, h1, h2⟩ := f1 x0
          rw [List.take_length] at h1
          rw [List.drop_length] at h2
          exact ⟨a0, h1, by simp, h2⟩, f2⟩
      refine bz 2 gs.length (LkB1 P h h0 i q km n kn gs s row M R0 (.map (some (h.length + 1)))) (LkB2 P h h0 i q km n kn gs row M R0 (.map (some (h.length + 1))) gs.length) ?_ ?_ _ ⟨K2, junk rfl, eB⟩ ?_
      · rintro k st hk' ⟨K, ⟨j, rfl⟩, e⟩
        obtain ⟨g, b, hg, hv, hat⟩ := hvb k hk'
        obtain ⟨b', o, v, a1, a2⟩ := hat K (e.row.2.weak fun z _ h => hMN z h)
        obtain ⟨x, a, rd', rq0, rq1, fin⟩ := ybs (b := b) eb hkb lq lk hr4 hMk e hg
        have h1 : ((k : Int) < (gs.length : Int)) = True := by simp; omega
        rcases fin with ⟨hx, e'⟩ | ⟨rfl, K', hu, e'⟩
        · simp only [ya, zt, ym, zb, zz, zw, yb, zm, zc, zp, zo, zf, ze, zd, List.set_cons_succ, List.set_cons_zero, O_mv, yy, yg, ye, List.map_cons, List.map_nil, vt, zx, zk, xt, y5, qf, wm, List.length_cons, List.length_nil, Nat.reduceAdd, Nat.zero_add, zn, yc, zy, za, zi, yp, xa, z7, zl, yr, z6, zq, zj, yh, zu, zr, Nat.add_zero, Option.map_some, eq_self, yq, Option.map_some, decide_true, h1, a1, a2, gc, rq0, fe rd' hx, xq (k := k) (by omega)]
          exact ⟨_, junk rfl, e'⟩
        · simp only [ya, zt, ym, zb, zz, yb, zm, zc, zp, zo, zf, ze, zd, List.set_cons_succ, List.set_cons_zero, O_mv, yy, yg, ye, List.map_cons, List.map_nil, vt, zx, zk, xt, y5, qf, wm, List.length_cons, List.length_nil, Nat.reduceAdd, Nat.zero_add, zn, yc, zy, za, zi, yp, xa, z7, zl, yr, z6, zq, zj, yu, yo, yh, zu, zr, Nat.add_zero, Option.map_some, eq_self, yq, Option.map_some, decide_true, h1, a1, a2, gc, rq0, rq1, ok_0 rd', zfi, fx, hu, xq (k := k) (by omega)]
          exact ⟨_, junk rfl, e'⟩
      · rintro st ⟨K, ⟨j, rfl⟩, e⟩
        have h1 : ((gs.length : Int) < (gs.length : Int)) = False := by simp
        simp only [ya, zt, vj, zb, zw, yb, zm, zc, zo, ze, zd, List.set_cons_succ, List.set_cons_zero, yy, yg, wm, zn, yc, za, yz, fi, xo, decide_false, h1, fi]
        exact ⟨K, junk rfl, e⟩
      rintro st ⟨K3, ⟨j, rfl⟩, eB3⟩
      have hrg3 := hrk K3 eB3.row.1
      simp only [ya, zb, yb, zm, zc, zo, zf, ze, zd, List.set_cons_succ, List.set_cons_zero, O_mv, yg, fq, zx, zk, Nat.zero_add, zn, yc, zy, za, yk, xa, z7, List.getElem?_cons_zero, List.getElem?_cons_succ, hrg3, lens]
      have e3 : LkC P h h0 i q km n kn true gs vs S row N R0 (.map (some (h.length + 1))) 0 K3 := by
        rw [hR0] at eB3 ⊢
        exact ztc hMN (GK K3 eB3.row.2) (.inl ⟨rfl, eB3⟩)
      have hrm3 : (.map (some (h.length + 1)) : Value) = if true then .map (some (h.length + 1)) else .map none := rfl
      refine bz 4 gs.length (LkC1 P h h0 i q km n kn true gs vs S s row N R0 (.map (some (h.length + 1)))) (LkC2 P h h0 i q km n kn true gs vs S row N R0 (.map (some (h.length + 1))) gs.length) ?_ ?_ _ ⟨K3, junk rfl, e3⟩ ?_
      · rintro k st hk' ⟨K, ⟨j, rfl⟩, e⟩
        obtain ⟨g, b, hg, hv, hat⟩ := hvb k hk'
        obtain ⟨b', o, v, a1, a2⟩ := hat K e.row.2
        obtain ⟨b2, K2', t, pl, hpb, c2, row2, rw2, rq2, rt5, rt2, fin⟩ := ztn eb hhb hqb hkb lq lk hr4 hNS hS' hrm3 lh0 e hg hv
        have hpb : b = b2 := by simpa using hpb
        subst hpb
        have h1 : ((k : Int) < (gs.length : Int)) = True := by simp; omega
        have rr2 : ∀ j, Heap.read1 K2' ⟨K.length, j, some 0⟩ = (qi g (pt b))[j]? := fun j => x8 row2
        rw [Bool.true_and] at fin
        rcases fin with ⟨ht, e'⟩ | ⟨ht, K3', hf, e'⟩
        · rw [ht] at rt5
          simp only [ya, zt, ym, zb, zz, zw, yb, zm, yi, zc, zp, xx, zo, zf, ze, zd, List.set_cons_succ, List.set_cons_zero, O_mv, y0, xi, yy, yg, ye, List.map_cons, List.map_nil, vt, zx, zk, xt, y5, qf, wm, List.length_cons, List.length_nil, Nat.reduceAdd, Nat.zero_add, zn, yc, zy, za, zi, yp, xa, z7, zl, yr, z6, zq, zj, yu, yo, yh, zu, zr, Nat.add_zero, Option.map_some, List.getElem?_cons_zero, eq_self, yq, va, Option.map_some, decide_true, h1, a1, a2, gc, zej, c2, hrk _ rw2, zp8, rr2, rt5, xq (k := k) (by omega)]
          exact ⟨_, junk rfl, e'⟩
        · rw [ht] at rt5
          simp only [ya, zt, ym, zb, zz, yb, zm, yi, zc, zp, xx, zo, zf, ze, zd, List.set_cons_succ, List.set_cons_zero, O_mv, y0, xi, yy, yg, ye, List.map_cons, List.map_nil, vt, zx, zk, xt, y5, qf, wm, List.length_cons, List.length_nil, Nat.reduceAdd, Nat.zero_add, zn, yc, zy, za, zi, yp, xa, z7, zl, yr, z6, zq, zj, yu, yo, yh, zu, zr, Nat.add_zero, Option.map_some, List.getElem?_cons_zero, eq_self, yq, va, Option.map_some, decide_true, h1, a1, a2, gc, zej, c2, hrk _ rw2, zp8, rr2, rt5, rq2, rt2, hf, xq (k := k) (by omega)]
          exact ⟨_, junk rfl, e'⟩
      · rintro st ⟨K, ⟨j, rfl⟩, e⟩
        have h1 : ((gs.length : Int) < (gs.length : Int)) = False := by simp
        simp only [ya, zt, vj, zb, zw, yb, zm, zc, zo, ze, zd, List.set_cons_succ, List.set_cons_zero, yy, yg, wm, zn, yc, za, yz, fi, xo, decide_false, h1, fi]
        exact ⟨K, junk rfl, e⟩
      rintro st ⟨K4, ⟨j, rfl⟩, eC4⟩
      have hrg4 := hrk K4 eC4.row.1
      have eD := zwm eC4
      simp only [ya, zb, yb, zm, zc, zo, zf, ze, zd, List.set_cons_succ, List.set_cons_zero, O_mv, yg, fq, zx, zk, Nat.zero_add, zn, yc, zy, za, yk, xa, z7, List.getElem?_cons_zero, List.getElem?_cons_succ, hrg4, lens]
      refine bz 6 gs.length (LkD1 P h h0 i q km n kn true gs vs S s row N R0 (.map (some (h.length + 1)))) (LkD2 P h h0 i q km n kn true gs vs S row N R0 (.map (some (h.length + 1))) gs.length) ?_ ?_ _ ⟨K4, junk rfl, eD⟩ ?_
      · rintro k st hk' ⟨K, ⟨j, rfl⟩, e⟩
        obtain ⟨g, b, hg, hv, hat⟩ := hvb k hk'
        obtain ⟨b', o, v, a1, a2⟩ := hat K e.row.2
        obtain ⟨b2, x, a, t, hpb, rd', rq0, rq1, rt5, fin⟩ := zts eb hkb lq lk hr4 hNk hS' e hg hv
        have hpb : b = b2 := by simpa using hpb
        subst hpb
        have h1 : ((k : Int) < (gs.length : Int)) = True := by simp; omega
        rcases fin with ⟨hx, e'⟩ | ⟨rfl, K', hu, e'⟩
        · simp only [ya, zt, ym, zb, zz, zw, yb, zm, zc, zp, zo, zf, ze, zd, List.set_cons_succ, List.set_cons_zero, O_mv, yy, yg, ye, List.map_cons, List.map_nil, vt, zx, zk, xt, y5, qf, wm, List.length_cons, List.length_nil, Nat.reduceAdd, Nat.zero_add, zn, yc, zy, za, zi, yp, xa, z7, zl, yr, z6, zq, zj, yh, zu, zr, Nat.add_zero, Option.map_some, eq_self, yq, Option.map_some, decide_true, h1, a1, a2, gc, rq0, fe rd' hx, xq (k := k) (by omega)]
          exact ⟨_, junk rfl, e'⟩
        · simp only [ya, zt, ym, zb, zz, yb, zm, zc, zp, zo, zf, ze, zd, List.set_cons_succ, List.set_cons_zero, O_mv, yy, yg, ye, List.map_cons, List.map_nil, vt, zx, zk, xt, y5, qf, wm, List.length_cons, List.length_nil, Nat.reduceAdd, Nat.zero_add, zn, yc, zy, za, zi, yp, xa, z7, zl, yr, z6, zq, zj, yu, yo, yh, zu, zr, Nat.add_zero, Option.map_some, eq_self, yq, Option.map_some, decide_true, h1, a1, a2, gc, rq0, rq1, ok_0 rd', zfi, zej, rt5, fx, hu, xq (k := k) (by omega)]
          exact ⟨_, junk rfl, e'⟩
      · rintro st ⟨K, ⟨j, rfl⟩, e⟩
        have h1 : ((gs.length : Int) < (gs.length : Int)) = False := by simp
        simp only [ya, zt, vj, zb, zw, yb, zm, zc, zo, ze, zd, List.set_cons_succ, List.set_cons_zero, yy, yg, wm, zn, yc, za, yz, fi, xo, decide_false, h1, fi]
        exact ⟨K, junk rfl, e⟩
      rintro st ⟨K5, ⟨j, rfl⟩, eD5⟩
      have hrg5 := hrk K5 eD5.row.1
      simp only [ya, zt, ym, zb, zw, yb, zm, zc, zo, zf, ze, zd, List.set_cons_succ, List.set_cons_zero, yg, zx, zk, Nat.zero_add, Bool.not_true, zn, yc, za, yk, xa, z7, List.getElem?_cons_zero, List.getElem?_cons_succ, Bool.bne_true, jw, eq_self, hrg5, po, xp, wn]
      exact ⟨trivial, toLast K5 _ eD5 _⟩
  obtain ⟨v', h', r, rfl, g⟩ := this
  exact ⟨h', r, g⟩
end Go.Proofs.YtljdbheclfaloaaGreatDoor.AM
namespace Go.Proofs.YtljdbheclfaloaaGreatDoor.AM
open Go.RowKit
set_option linter.unusedSimpArgs false
set_option linter.unusedVariables false
set_option maxRecDepth 20000

theorem zea (d : Bys × Bool) : (wz d).length = 2 := by simp [wz]
theorem zpg (d : Bys × Bool) : (wz d)[0]? = some (str d.1) := rfl
theorem zyx (d : Bys × Bool) : (wz d)[1]? = some (.bool d.2) := rfl
theorem zy9 (z0 z1 : Value) (d : Bys × Bool) : wo [z0, z1] [(0, 2, agg (wz d))] = some (wz d) := by
  rw [wo, yf]; simp [splice, wo, wz]
theorem StsP.focus {h : Heap} : ∀ {T : Nat → Prop} {rows : List (List Value)} {l : List Stm} {k : Nat} {s : Stm}, StsP h T rows l → l[k]? = some s → ∃ row Tk, rows[k]? = some row ∧ StP h Tk row s ∧ (∀ z, Tk z → T z) ∧
    ∀ (h' : Heap) (s' : Stm), StP h' Tk row s' → (∀ b o, T b → ¬ Tk b → h[b]? = some o → h'[b]? = some o) → StsP h' T rows (l.set k s')
  | T, [], [], k, s, e, hk => by simp at hk
  | T, r :: rows, s' :: l, 0, s, e, hk => by
    obtain ⟨S1, S2, t, q, h1, h2⟩ := e
    cases hk
    exact ⟨r, S1, rfl, t, fun z hz => (h1 z hz).1, fun h' s2 t' keep => ⟨S1, S2, t', q.keep fun b o hb ho => keep b o (h2 b hb) (fun h3 => (h1 b h3).2 hb) ho, h1, h2⟩⟩
  | T, r :: rows, s' :: l, k + 1, s, e, hk => by
    obtain ⟨S1, S2, t, q, h1, h2⟩ := e
    obtain ⟨w, Tk, a, b, c, d⟩ := q.focus (k := k) (s := s) (by simpa using hk)
    exact ⟨w, Tk, by simpa using a, b, fun z hz => h2 z (c z hz), fun h' s2 t' keep => ⟨S1, S2, t.keep fun z o hz ho => keep z o (h1 z hz).1 (fun h3 => (h1 z hz).2 (c z h3)) ho, d h' s2 t' fun z o hz hn ho => keep z o (h2 z hz) hn ho, h1, h2⟩⟩
  | T, [], _ :: _, k, s, e, hk => e.elim
  | T, _ :: _, [], k, s, e, hk => e.elim
structure NmS (P : RP) (mb q km : Nat) (H5 K : Heap) (names : Kn) (k : Nat) (ss : Value) : Prop where
  ex : ∃ kn ks x y z, ks = .slice x y z ∧ K[km]? = some (.map (knE kn)) ∧ K[mb]? = some (.cells [ks, ss] 0 false) ∧ Own [] K ks 2 (kn.map wz) ∧ (∀ b, blk ks = some b → H5.length ≤ b) ∧ b7 [] names = b7 kn (names.drop k) ∧ kn.length ≤ k
  kp : (∀ (b : Nat) (o : AObj), H5[b]? = some o → b ≠ mb → b ≠ km → K[b]? = some o) ∧ H5.length ≤ K.length
  cq : K[q]? = H5[q]?
def NmI (P : RP) (mb q km : Nat) (H5 : Heap) (names : Kn) (ns ss : Value) (k : Nat) (st : St) : Prop := ∃ K, (∃ j : Nat → Value, st = ⟨[j 0, j 1, j 2, j 3, j 4, j 5, j 6, j 7, j 8, j 9, pt P.r, pt mb, pt q, j 13, j 14, j 15, j 16, j 17, j 18, j 19, j 20, j 21, j 22, j 23, j 24, j 25, j 26, j 27, j 28, j 29, j 30, j 31, j 32, j 33, j 34, j 35, j 36, j 37, j 38, j 39, j 40, j 41, j 42, j 43, j 44, j 45, j 46, j 47, j 48, j 49, j 50, j 51, j 52, j 53, j 54, j 55, j 56, j 57, j 58, j 59, j 60, j 61, j 62, j 63, j 64, j 65, ns, .int .i64 (names.length : Int), .int .i64 (k : Int), j 69, j 70, j 71, j 72, j 73, j 74, j 75, j 76, j 77, j 78, j 79, j 80, j 81, j 82, j 83, j 84, j 85, j 86, j 87, j 88, j 89, j 90, j 91, j 92, j 93, j 94, j 95, j 96, j 97, j 98, j 99, j 100, j 101, j 102, j 103, j 104, j 105, j 106, j 107, j 108, j 109, j 110, j 111, j 112, j 113, j 114, j 115, j 116, j 117, j 118, j 119, j 120, j 121, j 122, j 123, j 124, j 125, j 126, j 127, j 128, j 129, j 130], K⟩) ∧ NmS P mb q km H5 K names k ss
def NmO (P : RP) (mb q km : Nat) (H5 : Heap) (names : Kn) (ss : Value) (k : Nat) (st : St) : Prop := ∃ K, (∃ j : Nat → Value, st = ⟨[j 0, j 1, j 2, j 3, j 4, j 5, j 6, j 7, j 8, j 9, pt P.r, pt mb, pt q, j 13, j 14, j 15, j 16, j 17, j 18, j 19, j 20, j 21, j 22, j 23, j 24, j 25, j 26, j 27, j 28, j 29, j 30, j 31, j 32, j 33, j 34, j 35, j 36, j 37, j 38, j 39, j 40, j 41, j 42, j 43, j 44, j 45, j 46, j 47, j 48, j 49, j 50, j 51, j 52, j 53, j 54, j 55, j 56, j 57, j 58, j 59, j 60, j 61, j 62, j 63, j 64, j 65, j 66, j 67, j 68, j 69, j 70, j 71, j 72, j 73, j 74, j 75, j 76, j 77, j 78, j 79, j 80, j 81, j 82, j 83, j 84, j 85, j 86, j 87, j 88, j 89, j 90, j 91, j 92, j 93, j 94, j 95, j 96, j 97, j 98, j 99, j 100, j 101, j 102, j 103, j 104, j 105, j 106, j 107, j 108, j 109, j 110, j 111, j 112, j 113, j 114, j 115, j 116, j 117, j 118, j 119, j 120, j 121, j 122, j 123, j 124, j 125, j 126, j 127, j 128, j 129, j 130], K⟩) ∧ NmS P mb q km H5 K names k ss
theorem yb2 {P : RP} {mb q km : Nat} {H5 K : Heap} {names : Kn} {k : Nat} {ss : Value} {d : Bys × Bool} {nn : Value} (hq : H5[q]? = some (.cells [pt P.r, .map (some km), .map none, nn] 0 false)) (hqm : q ≠ mb) (hqk : q ≠ km) (hmk : mb ≠ km) (hkn : k ≤ 10000) (hlm : mb < H5.length) (hlk : km < H5.length) (e : NmS P mb q km H5 K names k ss) (hd : names[k]? = some d) :
    Heap.read1 (K ++ [.cells (wz d) 0 false]) ⟨q, 1, some 0⟩ = some (.map (some km)) ∧
    ((∃ b, znn (K ++ [.cells (wz d) 0 false]) .str (.bool false) true (.map (some km)) (str d.1) = some (tup [.bool b, .bool true], K ++ [.cells (wz d) 0 false]) ∧ NmS P mb q km H5 (K ++ [.cells (wz d) 0 false]) names (k + 1) ss) ∨
     (∃ K1 x y z x' y' z' K2 K3, znn (K ++ [.cells (wz d) 0 false]) .str (.bool false) true (.map (some km)) (str d.1) = some (tup [.bool false, .bool false], K ++ [.cells (wz d) 0 false]) ∧ updO (K ++ [.cells (wz d) 0 false]) .str (.map (some km)) (str d.1) (.bool d.2) = some (undef, K1) ∧
      Heap.read1 K1 ⟨mb, 0, some 0⟩ = some (.slice x y z) ∧ Heap.read K1 ⟨K.length, 0, some 0⟩ 2 = some (wz d) ∧ ge (K1 ++ [.cells (wz d) 0 false]) 2 24 (.slice x y z) (zdl (K1 ++ [.cells (wz d) 0 false]) 2 (.slice (some ⟨K1.length, 0, some 0⟩) 1 2)) = some (.slice x' y' z', K2) ∧ Heap.write1 K2 ⟨mb, 0, some 0⟩ (.slice x' y' z') = some K3 ∧ NmS P mb q km H5 K3 names (k + 1) ss)) := by
  obtain ⟨⟨kn, ks, x, y, z, rfl, hk, hm, own, hb, hkl, hle⟩, ⟨kp, kl⟩, cq⟩ := e
  rw [hq] at cq
  have lm := (List.getElem?_eq_some_iff.1 hm).1
  have lk := (List.getElem?_eq_some_iff.1 hk).1
  have lq := (List.getElem?_eq_some_iff.1 cq).1
  refine ⟨x8 (y6 _ cq), ?_⟩
  have lo := zfb _ (y6 [.cells (wz d) 0 false] hk) (.bool false) true (w := d.1) (zrh kn d.1)
  rw [zbv hd, b7] at hkl
  cases hl : jo kn d.1 with
  | some b =>
    rw [hl] at lo hkl
    simp only [Option.isSome_some, if_true] at hkl
    exact .inl ⟨b, lo, ⟨⟨kn, _, x, y, z, rfl, y6 _ hk, y6 _ hm, own.more _, hb, hkl, by omega⟩, ⟨fun b o ho n1 n2 => y6 _ (kp b o ho n1 n2), by simp; omega⟩, by rw [y6 _ cq, hq]⟩⟩
  | none =>
    rw [hl] at lo hkl
    simp only [Option.isSome_none, Bool.false_eq_true, if_false] at hkl
    right
    have hu := zni _ (y6 [.cells (wz d) 0 false] hk) (zi8 hl d.2)
    obtain ⟨K1, hK1⟩ : ∃ K1, K1 = (K ++ [AObj.cells (wz d) 0 false]).set km (.map (knE (kn ++ [(d.1, d.2)]))) := ⟨_, rfl⟩
    rw [← hK1] at hu
    have l1 : K1.length = K.length + 1 := by rw [hK1]; simp
    have g1 : ∀ b o, b ≠ km → K[b]? = some o → K1[b]? = some o := fun b o n ho => by rw [hK1, List.getElem?_set_ne (Ne.symm n)]; exact y6 _ ho
    have gr : K1[K.length]? = some (.cells (wz d) 0 false) := by rw [hK1, List.getElem?_set_ne (by omega)]; simp
    have own1 : Own [] K1 (.slice x y z) 2 (kn.map wz) := own.keep fun b hb' o ho => g1 b o (by have := hb b hb'; omega) ho
    obtain ⟨s', K2, p1, p2, p3, p4, p5, p6⟩ := own1.push (⟨_, rfl⟩ : Pre [] K1) (row := wz d) (bytes := 24) (zea d) (by rw [List.length_map]; unfold fm; omega)
    obtain ⟨x', y', z', rfl⟩ := p2.slice
    have nb : ∀ b, b < H5.length → blk (.slice x y z) ≠ some b := fun b hlt h => by have := hb b h; omega
    have hm2 : K2[mb]? = some (.cells [.slice x y z, ss] 0 false) := p5 _ _ (g1 _ _ hmk hm) (nb _ hlm)
    have lm2 := (List.getElem?_eq_some_iff.1 hm2).1
    have blk2 : ∀ b, blk (.slice x' y' z') = some b → H5.length ≤ b := fun b hb' => by
      rcases p6 with h | ⟨j, h, h'⟩
      · rw [h] at hb'; exact hb b hb'
      · rw [h] at hb'; cases hb'; omega
    have k3 : ∀ b o, b < H5.length → b ≠ mb → b ≠ km → K[b]? = some o → (K2.set mb (.cells [.slice x' y' z', ss] 0 false))[b]? = some o := fun b o hlt n1 n2 ho => by
      rw [List.getElem?_set_ne (Ne.symm n1)]; exact p5 b o (g1 b o n2 ho) (nb b hlt)
    refine ⟨K1, x, y, z, x', y', z', K2, K2.set mb (.cells [.slice x' y' z', ss] 0 false), lo, hu, x8 (g1 _ _ hmk hm), zjt gr (zea d), p1, by rw [b9 hm2 (by simp)]; rfl, ⟨⟨kn ++ [d], _, x', y', z', rfl, ?_, by rw [List.getElem?_set_self lm2], ?_, blk2, hkl, by simp; omega⟩, ⟨fun b o ho n1 n2 => ?_, by rw [List.length_set]; omega⟩, ?_⟩⟩
    · rw [List.getElem?_set_ne hmk]
      exact p5 _ _ (by rw [hK1, List.getElem?_set_self (by simp; omega)]) (nb _ hlk)
    · rw [List.map_append]
      exact p2.keep fun b hb' o ho => by rw [List.getElem?_set_ne (by have := blk2 b hb'; omega)]; exact ho
    · have hlt := (List.getElem?_eq_some_iff.1 ho).1
      exact k3 b o hlt n1 n2 (kp b o ho n1 n2)
    · rw [hq]; exact k3 q _ (List.getElem?_eq_some_iff.1 hq).1 hqm hqk cq
end Go.Proofs.YtljdbheclfaloaaGreatDoor.AM
namespace Go.Proofs.YtljdbheclfaloaaGreatDoor.AM
open Go.RowKit
set_option linter.unusedSimpArgs false
set_option linter.unusedVariables false
set_option maxRecDepth 20000

theorem yfb (P : RP) (kn : Kn) : ∀ st, ydo P kn st
  | .lets rc gs => zx4 P kn rc gs
  | .chk k x as_ => yb4 P kn k x as_
theorem ybb {kn : Kn} {n : Nat} {s s' : Stm} (h : chkS kn n s = .ok s') (hn : n ≤ 64) : n + s'.given.length ≤ 64 ∧ ∀ rc gs', s' = .lets rc gs' → ∃ gs, s = .lets rc gs ∧ gs.length = gs'.length := by
  cases s with
  | lets rc gs =>
    rw [chkS] at h
    split at h
    · cases h
    · rename_i u hf
      split at h
      · cases h
      · rename_i l hl
        cases h
        have hlen : l.length = gs.length := by have := congrArg List.length (zg9 hl); simpa using this
        refine ⟨?_, fun rc' gs' hs => by cases hs; exact ⟨gs, rfl, hlen.symm⟩⟩
        simp only [Stm.given, k7, List.length_map, hlen]
        rcases zqa hf with h | rfl
        · omega
        · simpa using hn
  | chk k x as_ =>
    rw [chkS] at h
    split at h
    · cases h
    · split at h
      · cases h
      · cases h; exact ⟨by simpa [Stm.given] using hn, fun _ _ hs => by cases hs⟩
structure LsS (P : RP) (mb q km i : Nat) (H6 K : Heap) (R0 : CR (List Stm)) (stms : List Stm) (T : Nat → Prop) (rows : List (List Value)) (k x a : Nat) : Prop where
  rd : Rd P K i 0 x a
  ex : (x = 0 → a = 0 ∧ ∃ (kn : Kn) (n : Nat) (rm : Value) (l' : List Stm), K[q]? = some (.cells [pt P.r, .map (some km), rm, .int .i64 (n : Int)] 0 false) ∧ K[km]? = some (.map (knE kn)) ∧ StsP K T rows l' ∧ n ≤ 64 ∧ ∃ done, done.length = k ∧ l' = done ++ stms.drop k ∧ (∀ rc gs, Stm.lets rc gs ∈ done → gs.length ≤ 8192) ∧ R0 = (match chkM kn n (stms.drop k) with | .bad c a => .bad c a | .ok l => .ok (done ++ l))) ∧ (x ≠ 0 → R0 = .bad x a)
  kp : (∀ (b : Nat) (o : AObj), H6[b]? = some o → ¬ T b → b ≠ q → b ≠ km → b ≠ P.r → K[b]? = some o) ∧ H6.length ≤ K.length
def LsI (P : RP) (mb q km i : Nat) (H6 : Heap) (R0 : CR (List Stm)) (stms : List Stm) (T : Nat → Prop) (rows : List (List Value)) (ss : Value) (k : Nat) (st : St) : Prop := ∃ K x a, (∃ j : Nat → Value, st = ⟨[j 0, j 1, j 2, j 3, j 4, j 5, j 6, j 7, j 8, j 9, pt P.r, pt mb, pt q, j 13, j 14, j 15, j 16, j 17, j 18, j 19, j 20, j 21, j 22, j 23, j 24, j 25, j 26, j 27, j 28, j 29, j 30, j 31, j 32, j 33, j 34, j 35, j 36, j 37, j 38, j 39, j 40, j 41, j 42, j 43, j 44, j 45, j 46, j 47, j 48, j 49, j 50, j 51, j 52, j 53, j 54, j 55, j 56, j 57, j 58, j 59, j 60, j 61, j 62, j 63, j 64, j 65, j 66, j 67, j 68, j 69, j 70, j 71, j 72, j 73, j 74, j 75, j 76, j 77, j 78, j 79, j 80, j 81, j 82, j 83, j 84, j 85, j 86, j 87, j 88, j 89, j 90, j 91, j 92, j 93, j 94, j 95, j 96, j 97, j 98, j 99, j 100, j 101, j 102, j 103, j 104, j 105, ss, .int .i64 (rows.length : Int), .int .i64 (k : Int), j 109, j 110, j 111, j 112, j 113, j 114, j 115, j 116, j 117, j 118, j 119, j 120, j 121, j 122, j 123, j 124, j 125, j 126, j 127, j 128, j 129, j 130], K⟩) ∧ LsS P mb q km i H6 K R0 stms T rows k x a
def LsO (P : RP) (mb q km i : Nat) (H6 : Heap) (R0 : CR (List Stm)) (stms : List Stm) (T : Nat → Prop) (rows : List (List Value)) (ss : Value) (st : St) : Prop := ∃ K x a k, (∃ j : Nat → Value, st = ⟨[j 0, j 1, j 2, j 3, j 4, j 5, j 6, j 7, j 8, j 9, pt P.r, pt mb, j 12, j 13, j 14, j 15, j 16, j 17, j 18, j 19, j 20, j 21, j 22, j 23, j 24, j 25, j 26, j 27, j 28, j 29, j 30, j 31, j 32, j 33, j 34, j 35, j 36, j 37, j 38, j 39, j 40, j 41, j 42, j 43, j 44, j 45, j 46, j 47, j 48, j 49, j 50, j 51, j 52, j 53, j 54, j 55, j 56, j 57, j 58, j 59, j 60, j 61, j 62, j 63, j 64, j 65, j 66, j 67, j 68, j 69, j 70, j 71, j 72, j 73, j 74, j 75, j 76, j 77, j 78, j 79, j 80, j 81, j 82, j 83, j 84, j 85, j 86, j 87, j 88, j 89, j 90, j 91, j 92, j 93, j 94, j 95, j 96, j 97, j 98, j 99, j 100, j 101, j 102, j 103, j 104, j 105, j 106, j 107, j 108, j 109, j 110, j 111, j 112, j 113, j 114, j 115, j 116, j 117, j 118, j 119, j 120, j 121, j 122, j 123, j 124, j 125, j 126, j 127, j 128, j 129, j 130], K⟩) ∧ LsS P mb q km i H6 K R0 stms T rows k x a ∧ (x = 0 → k = rows.length)
theorem ybw {P : RP} {mb q km i i0 k : Nat} {hb H6 K : Heap} {R0 : CR (List Stm)} {stms : List Stm} {T : Nat → Prop} {rows : List (List Value)} {s : Stm} (eb : Rd P hb i0 0 0 0) (hqb : hb.length ≤ q) (hkb : hb.length ≤ km) (hql : q < H6.length) (hkl : km < H6.length) (hT : ∀ z, T z → hb.length ≤ z ∧ z ≠ q ∧ z ≠ km ∧ z < H6.length) (hgs : ∀ rc gs, Stm.lets rc gs ∈ stms → gs.length ≤ 8192) (e : LsS P mb q km i H6 K R0 stms T rows k 0 0) (hs : stms[k]? = some s) :
    ∃ row K', rows[k]? = some row ∧ DF FF ko [pt q, agg row] (K ++ [.cells row 0 false]) = some (tup [], K') ∧ ∃ x a, LsS P mb q km i H6 K' R0 stms T rows (k + 1) x a := by
  obtain ⟨rd, ⟨f1, f2⟩, kp, kl⟩ := e
  obtain ⟨_, kn, n, rm, l', cq, ck, st, hn, done, hdl, hl', hdg, hR⟩ := f1 rfl
  have hlk : l'[k]? = some s := by rw [hl', List.getElem?_append_right (by omega), hdl, Nat.sub_self, List.getElem?_drop, Nat.add_zero]; exact hs
  obtain ⟨row, Tk, hrow, sp, hTk, back⟩ := st.focus hlk
  have L := [AObj.cells row 0 false]
  have nq : q ≠ P.r := by have := eb.lr; omega
  have nk : km ≠ P.r := by have := eb.lr; omega
  have smem : s ∈ stms := List.mem_of_getElem? hs
  obtain ⟨K', q', r', k'⟩ := yfb P kn s hb (K ++ [.cells row 0 false]) i0 i q km n rm Tk row eb (rd.more _) (y6 _ cq) (y6 _ ck) (sp.keep fun b o _ ho => y6 _ ho) (fun z hz => by
    have := hT z (hTk z hz); exact ⟨this.1, this.2.1, this.2.2.1, by simp; omega⟩) hqb hkb (by omega) (fun rc gs hs' => hgs rc gs (hs' ▸ smem))
  have keep : ∀ b o, K[b]? = some o → ¬ Tk b → b ≠ q → b ≠ km → b ≠ P.r → K'[b]? = some o := fun b o ho n1 n2 n3 n4 => k'.1 b o (y6 _ ho) (fun h => h.elim n1 fun h => h.elim n2 n3) n4
  have kp' : (∀ (b : Nat) (o : AObj), H6[b]? = some o → ¬ T b → b ≠ q → b ≠ km → b ≠ P.r → K'[b]? = some o) ∧ H6.length ≤ K'.length :=
    ⟨fun b o ho n1 n2 n3 n4 => keep b o (kp b o ho n1 n2 n3 n4) (fun h => n1 (hTk b h)) n2 n3 n4, by have := k'.2; simp at this; omega⟩
  have hR2 : R0 = (match chkS kn n s with | .bad c a => CR.bad c a | .ok s' => (match chkM (kn ++ s'.given) (n + s'.given.length) (stms.drop (k + 1)) with | .bad c a => .bad c a | .ok l => .ok (done ++ (s' :: l)))) := by
    rw [hR, zbv hs, chkM]
    cases chkS kn n s with
    | bad c a => rfl
    | ok s' => simp only; cases chkM (kn ++ s'.given) (n + s'.given.length) (stms.drop (k + 1)) <;> rfl
  have others : ∀ b o, T b → ¬ Tk b → K[b]? = some o → K'[b]? = some o := fun b o h1 h2 ho => by
    have := hT b h1; have := eb.lr
    exact keep b o ho h2 (by omega) (by omega) (by omega)
  refine ⟨row, K', hrow, q', ?_⟩
  cases hc : chkS kn n s with
  | bad c a =>
    rw [hc] at r' hR2
    obtain ⟨hc0, e'⟩ := r'
    exact ⟨c, a, e', ⟨fun h => absurd h hc0, fun _ => hR2⟩, kp'⟩
  | ok s' =>
    rw [hc] at r' hR2
    obtain ⟨sp', e', ⟨rm', cq'⟩, ck'⟩ := r'
    obtain ⟨h64, hlen⟩ := ybb hc hn
    refine ⟨0, 0, e', ⟨fun _ => ⟨rfl, kn ++ s'.given, n + s'.given.length, rm', l'.set k s', cq', ck', back K' s' sp' others, h64, done ++ [s'], by simp [hdl], ?_, ?_, ?_⟩, fun h => absurd rfl h⟩, kp'⟩
    · rw [hl', List.set_append_right _ _ (by omega), hdl, Nat.sub_self, zbv hs]; simp
    · intro rc gs hm
      rcases List.mem_append.1 hm with hm | hm
      · exact hdg rc gs hm
      · simp at hm
        obtain ⟨gs0, h1, h2⟩ := hlen rc gs hm.symm
        have := hgs rc gs0 (h1 ▸ smem)
        omega
    · rw [hR2]
      simp only
      cases chkM (kn ++ s'.given) (n + s'.given.length) (stms.drop (k + 1)) <;> simp
end Go.Proofs.YtljdbheclfaloaaGreatDoor.AM
namespace Go.Proofs.YtljdbheclfaloaaGreatDoor.AM
open Go.RowKit
set_option linter.unusedSimpArgs false
set_option linter.unusedVariables false
set_option maxRecDepth 20000

structure ModP (K : Heap) (U : Nat → Prop) (mb : Nat) (md : Md) : Prop where
  ex : ∃ ks ss rows T, K[mb]? = some (.cells [ks, ss] 0 false) ∧ Sl K ks 2 (md.known.map wz) ∧ Sl K ss 4 rows ∧ StsP K T rows md.l ∧ (∀ z, T z → U z) ∧ (∀ b, blk ks = some b → U b) ∧ ∀ b, blk ss = some b → U b
  mb : U mb
  len : md.l.length ≤ 8193 ∧ md.known.length ≤ 10000 ∧ ∀ rc gs, Stm.lets rc gs ∈ md.l → gs.length ≤ 8192
theorem ModP.keep {K K' : Heap} {U : Nat → Prop} {mb : Nat} {md : Md} (e : ModP K U mb md) (k : ∀ b o, U b → K[b]? = some o → K'[b]? = some o) : ModP K' U mb md := by
  obtain ⟨⟨ks, ss, rows, T, h1, h2, h3, h4, h5, h6, h7⟩, hm, hl⟩ := e
  exact ⟨⟨ks, ss, rows, T, k _ _ hm h1, h2.keep fun b hb o ho => k b o (h6 b hb) ho, h3.keep fun b hb o ho => k b o (h7 b hb) ho, h4.keep fun b o hb ho => k b o (h5 b hb) ho, h5, h6, h7⟩, hm, hl⟩
def chkR (kn : Kn) : PR (List Stm) → CR (List Stm)
  | .bad c a => .bad c a
  | .ok acc _ => chkM kn 0 acc
def mdR (kn : Kn) : CR (List Stm) → CR Md
  | .bad c a => .bad c a
  | .ok l => .ok ⟨kn, l⟩
theorem zx2 {l : List UInt8} {names : Kn} {m : List Tok} (hl : ¬ 4096 < l.length) (hs : pk l 0 = .ok m) : zcs l names = mdR (b7 [] names) (chkR (b7 [] names) (zmp l.length m)) := by
  unfold zcs
  rw [if_neg hl, hs]
  simp only
  cases zmp l.length m with
  | bad c a => rfl
  | ok acc r => simp only [chkR]; cases chkM (b7 [] names) 0 acc <;> rfl
def ModR (h h' : Heap) (v : Value) : CR Md → Prop
  | .bad c a => v = tup [nilP, .int .i64 (c : Int), .int .i64 (a : Int)] ∧ h' = h ∧ c ≠ 0
  | .ok md => ∃ mb, v = tup [pt mb, .int .i64 0, .int .i64 0] ∧ ModP h' (fun z => h.length ≤ z ∧ z < h'.length) mb md
theorem zt7 {h K : Heap} (p : Pre h K) (c a : Nat) (hc : c ≠ 0) : ModR h (AM.finish h (tup [nilP, .int .i64 (c : Int), .int .i64 (a : Int)]) K) (tup [nilP, .int .i64 (c : Int), .int .i64 (a : Int)]) (.bad c a) ∧ Pre h (AM.finish h (tup [nilP, .int .i64 (c : Int), .int .i64 (a : Int)]) K) := by
  obtain ⟨L, rfl⟩ := p
  rw [fd h L rfl]
  exact ⟨⟨rfl, rfl, hc⟩, Pre.refl h⟩
theorem zmc : ∀ (ns kn : Kn), (b7 kn ns).length ≤ kn.length + ns.length
  | [], kn => by simp [b7]
  | d :: r, kn => by
    rw [b7]
    have := zmc r (if (jo kn d.1).isSome then kn else kn ++ [d])
    split at this
    · rename_i h; rw [if_pos h]; simp only [List.length_cons]; omega
    · rename_i h; rw [if_neg h]; simp only [List.length_cons, List.length_append, List.length_nil] at *; omega
set_option maxHeartbeats 16000000 in
theorem zg4 (l : List UInt8) (names : Kn) (ns : Value) {h : Heap} (g : Gl h) (hns : Sl h ns 2 (names.map wz)) (hnl : names.length ≤ 10000) : ∃ v h', DF FF za3 [str l, ns] h = some (v, h') ∧ (ModR h h' v (zcs l names) ∧ Pre h h') := by
  refine wx zrp ?_
  by_cases hl : 4096 < l.length
  · have c1 : ((4096 : Int) < (l.length : Int)) = True := by simp; omega
    have hR : zcs l names = .bad 2 0 := by unfold zcs; rw [if_pos hl]
    simp only [zex, ya, zt, xc, zb, zz, yb, zm, zc, zo, zf, ze, zd, List.set_cons_succ, List.set_cons_zero, O_mv, yy, yg, zde, List.cons_append, List.nil_append, List.length_cons, List.length_nil, Nat.reduceAdd, Nat.reduceSub, Nat.zero_add, zn, yc, za, y9, zh, zg, wy, zap, yj, w9, xk, decide_true, xk, c1, zap]
    rw [hR]
    exact ⟨⟨rfl, rfl, by omega⟩, Pre.refl h⟩
  have c1 : ((4096 : Int) < (l.length : Int)) = False := by simp; omega
  obtain ⟨v1, H1, t1, t2, t3⟩ := zno l g
  have htv : zim l = pk l 0 := by unfold zim; rw [if_neg (by omega)]
  rw [htv] at t2
  cases hsc : pk l 0 with
  | bad c a =>
    rw [hsc] at t2
    have t2 : v1 = tup [.slice none 0 0, .int .i64 (c : Int), .int .i64 (a : Int)] := t2
    subst t2
    have hc := zvy hsc
    have c2 : ((c : Int) != 0) = true := by rw [bne_iff_ne]; omega
    have hR : zcs l names = .bad c a := by unfold zcs; rw [if_neg hl, hsc]
    simp only [zex, ya, zt, xc, ym, zb, zz, zw, yb, zm, zc, zo, zf, ze, zd, List.set_cons_succ, List.set_cons_zero, O_mv, yy, yg, ye, List.map_cons, List.map_nil, zse, zde, List.cons_append, List.nil_append, List.length_cons, List.length_nil, Nat.reduceAdd, Nat.reduceSub, Nat.zero_add, zn, yc, za, y9, xj, y8, zh, zg, List.getElem?_cons_zero, List.getElem?_cons_succ, zap, yj, w9, xk, decide_false, xk, c1, t1, c2, zap]
    rw [hR]
    exact zt7 t3 c a hc
  | ok m =>
    rw [hsc] at t2
    obtain ⟨s, rfl, own1⟩ := t2
    obtain ⟨hok, hml⟩ := ybf hsc
    have c2 : ((0 : Int) != 0) = false := rfl
    obtain ⟨s', c, H2, n1, n2, n3, n4, n5, n6⟩ := ygp own1.sl (by rw [List.length_map]; omega)
    have p12 := t3.trans n6
    obtain ⟨sx, sy, sz, rfl⟩ := own1.slice
    have lc2 := (List.getElem?_eq_some_iff.1 n2).1
    obtain ⟨P, hP⟩ : ∃ P : RP, P = { r := H2.length, c := c, en := l.length, ws := .slice sx sy sz, cs := s', L := m, ne := by omega, wr := fun h => by have := (own1.lt h).2; have := n6.le; omega, wc := fun h => by have := (own1.lt h).2; omega, cr := fun h => by have := (n3.lt h).2; omega, cc := n4, ok := hok, len := by omega } := ⟨_, rfl⟩
    have pr : P.r = H2.length := by rw [hP]
    have pc : P.c = c := by rw [hP]
    have pe : P.en = l.length := by rw [hP]
    have pw : P.ws = .slice sx sy sz := by rw [hP]
    have pcs : P.cs = s' := by rw [hP]
    have pL : P.L = m := by rw [hP]
    obtain ⟨H4, hH4⟩ : ∃ H4, H4 = H2 ++ [AObj.cells [pt c, .slice sx sy sz, .int .i64 (l.length : Int), .int .i64 0, .int .i64 0, .int .i64 0] 0 false, .cells [.slice none 0 0, .slice none 0 0] 0 false] := ⟨_, rfl⟩
    obtain ⟨mb, hmb⟩ : ∃ mb, mb = H2.length + 1 := ⟨_, rfl⟩
    have l4 : H4.length = mb + 1 := by rw [hH4, hmb]; simp
    have p4 : Pre h H4 := by rw [hH4]; exact p12.more _
    have e4 : Rd P H4 0 0 0 0 := by
      rw [hH4]
      refine ⟨by rw [pr, pc, pw, pe]; simp, by rw [pc, pcs]; exact y6 _ n2, by rw [pw, pL]; exact (own1.sl.pre n6).more _, by rw [pcs, pL]; exact n3.sl.more _, Nat.zero_le _⟩
    have hm4 : H4[mb]? = some (.cells [nils, nils] 0 false) := by rw [hH4, hmb]; simp [nils]
    have hmr : mb ≠ P.r := by omega
    have hmc : mb ≠ P.c := by omega
    have hwm : blk P.ws ≠ some mb := fun h => by rw [pw] at h; have := (own1.lt h).2; have := n6.le; omega
    have hcm : blk P.cs ≠ some mb := fun h => by rw [pcs] at h; have := (n3.lt h).2; omega
    obtain ⟨R, hRd⟩ : ∃ R, R = zmp l.length m := ⟨_, rfl⟩
    have hlens : ∀ K, lenO K ns = some (.int .i64 (names.length : Int), K) := fun K => by rw [hns.len, List.length_map]
    have toPre : ∀ K, M3 P mb H4 K → Pre h K := fun K k => Pre.of (by have := p4.le; have := k.le; omega) fun b o ho => by
      have hlt := (List.getElem?_eq_some_iff.1 ho).1
      have h1 := p12.le; have h2 := t3.le
      exact k.keep b o (by rw [p4.get hlt]; exact ho) (by omega) (by omega) (by omega)
    have s0 : PaS P mb H4 R (P.L.length - 0 + 1) H4 := .inl ⟨0, nils, fun _ => False, [], [], rfl, e4, hm4, Own.nil _ _ _, trivial, fun z hz => hz.elim, (fun b hb => by simp [blk, nils] at hb), M3.refl _ _ _, Nat.zero_le _, (by simp), by
      rw [hRd, ← pe, ← pL, List.drop_zero]; unfold zmp; cases bg P.en P.L.length P.L <;> rfl⟩
    have hf1 : wo [.pointer none, .slice none 0 0, .int .i64 0, .int .i64 0, .int .i64 0, .int .i64 0] [(0, 1, pt c), (1, 1, .slice sx sy sz), (2, 1, .int .i64 (l.length : Int))] = some [pt c, .slice sx sy sz, .int .i64 (l.length : Int), .int .i64 0, .int .i64 0, .int .i64 0] := by
      rw [f8 _ (by simp), zme _ (by simp), wt _ (by simp), yx]; rfl
    simp only [zex, ya, zt, ym, zb, zw, yb, zm, zc, zo, zf, ze, zd, List.set_cons_succ, List.set_cons_zero, O_mv, yy, yg, ye, List.map_cons, List.map_nil, x9, y7, yd, z8, yx, zse, zde, List.cons_append, List.nil_append, List.length_cons, List.length_nil, Nat.reduceAdd, Nat.reduceSub, Nat.zero_add, zn, yc, zy, za, w6, xj, y8, zh, zg, List.append_assoc, List.length_append, List.getElem?_cons_zero, List.getElem?_cons_succ, eq_self, yf, zs, yj, w9, xk, decide_false, xk, c1, t1, c2, n1, hf1, yf, zs, ← hH4]
    rw [show H2.length + 1 = mb from hmb.symm, ← pr]
    refine zue 0 (PaI P mb H4 ns R) (PaO P mb H4 ns R) ?_ (P.L.length - 0 + 1) _ ⟨H4, junk rfl, s0⟩ ?_
    · rintro k0 st ⟨K, ⟨j, rfl⟩, ⟨k, ss, T, acc, rows, rfl, eK, hm, own, stp, hT, hb, m4, hacc, hgs, hR⟩ | ⟨k, ec, ea, x, y, z, rows, rfl, eK, hc0, hR, hm, m4, own, hb, hrl⟩⟩
      · by_cases hk : k < P.L.length
        · obtain ⟨row, K1, x, y, z, K2, hr4, q1, rd1, ap, w1, m', hlt, pas⟩ := ybg e4 l4 hmr hmc hwm hcm hk eK hm own stp hT hb m4 hacc hgs hR
          have c3 : ((0 : Int) < ((P.L.length - k : Nat) : Int)) = True := by simp; omega
          have rm0 : Heap.read1 K ⟨mb, 1, some 0⟩ = some ss := x8 hm
          obtain ⟨ax, ay, az, rfl⟩ := own.slice
          have a1 : zbo K1 (.pointer (some ⟨mb, 1, some 0⟩)) (.slice ax ay az) = some (undef, K1) := bw rd1 rfl
          simp only [ya, zt, ym, zb, zz, yb, zm, yi, zc, zp, xx, zo, zf, ze, zd, List.set_cons_succ, List.set_cons_zero, O_mv, y0, xi, yy, yg, ye, List.map_cons, List.map_nil, zx, zk, vf, w7, yd, z8, xe, xf, zde, List.length_cons, List.length_nil, Nat.reduceAdd, Nat.zero_add, zn, yc, zy, za, zi, vz, slc, gu, xa, z7, zl, xb, fv, zq, zj, List.append_nil, Nat.add_zero, List.getElem?_cons_zero, zcw, decide_true, ok_0 eK, eK.r0, zgt eK, c3, rm0, q1, a1, zz1 _ _ _ _ hr4, ap, w1]
          exact ⟨m', hlt, _, junk rfl, pas⟩
        · have c3 : ((0 : Int) < ((P.L.length - k : Nat) : Int)) = False := by simp; omega
          simp only [ya, zt, vj, zb, zw, yb, zm, yi, zc, xx, zo, zf, ze, zd, List.set_cons_succ, List.set_cons_zero, O_mv, y0, xi, yy, yg, ye, List.map_cons, List.map_nil, zx, zk, zde, zn, yc, za, yz, py, xa, z7, zq, zj, Nat.add_zero, List.getElem?_cons_zero, fi, decide_false, ok_0 eK, eK.r0, zgt eK, c3, fi]
          have hk' : k = P.L.length := by have := eK.le; omega
          rw [List.drop_eq_nil_of_le (by omega)] at hR
          have hR' : R = .ok acc [] := by
            cases hq : P.L.length with
            | zero => rw [hq] at hR; simpa [bg] using hR
            | succ q => rw [hq] at hR; simpa [bg] using hR
          exact ⟨K, junk rfl, k, 0, 0, ss, rows, ⟨eK, hm, own, hb, m4, by rw [(stp.len).1]; have := P.len; omega, fun _ => ⟨rfl, T, acc, hR', stp, hT, hgs, by have := P.len; omega⟩, fun h => absurd rfl h⟩⟩
      · simp only [ya, zt, vj, zb, zw, yb, zm, yi, zc, vw, zo, zf, ze, zd, List.set_cons_succ, List.set_cons_zero, O_mv, y0, xi, ye, List.map_cons, List.map_nil, zn, yc, za, yz, py, fi, fe eK hc0, fi]
        exact ⟨K, junk rfl, k, ec, ea, .slice x y z, rows, ⟨eK, hm, own, hb, m4, hrl, fun h => absurd h hc0, fun _ => hR⟩⟩
    rintro st ⟨K, ⟨j, rfl⟩, k, x, a, ss, rows, E⟩
    have lK := E.m3.le
    obtain ⟨ax, ay, az, rfl⟩ := E.own.slice
    obtain ⟨K5, hK5⟩ : ∃ K5, K5 = K ++ [AObj.map [], .cells [pt P.r, .map (some K.length), .map none, .int .i64 0] 0 false] := ⟨_, rfl⟩
    have l5 : K5.length = K.length + 2 := by rw [hK5]; simp
    have hq5 : K5[K.length + 1]? = some (.cells [pt P.r, .map (some K.length), .map none, .int .i64 ((0 : Nat) : Int)] 0 false) := by rw [hK5]; simp
    have hk5 : K5[K.length]? = some (.map (knE [])) := by rw [hK5]; simp [knE]
    have hm5 : K5[mb]? = some (.cells [nils, .slice ax ay az] 0 false) := by rw [hK5]; exact y6 _ E.mo
    have hmK := (List.getElem?_eq_some_iff.1 E.mo).1
    have hf2 : wo [.pointer none, .map none, .map none, .int .i64 0] [(0, 1, pt P.r), (1, 1, .map (some K.length))] = some [pt P.r, .map (some K.length), .map none, .int .i64 0] := by
      rw [f8 _ (by simp), zun _ (by simp), yx]; rfl
    have pK := toPre K E.m3
    have p5 : Pre h K5 := by rw [hK5]; exact pK.more _
    have lm3 : h.length ≤ H2.length := p12.le
    have pN : ∀ K6 k6, NmS P mb (K.length + 1) K.length K5 K6 names k6 (.slice ax ay az) → Pre h K6 := fun K6 k6 e => Pre.of (by have := p5.le; have := e.kp.2; omega) fun b o ho => by
      have hlt := (List.getElem?_eq_some_iff.1 ho).1
      exact e.kp.1 b o (by rw [p5.get hlt]; exact ho) (by omega) (by have := pK.le; omega)
    simp only [ya, zb, yb, zm, zc, zo, zf, ze, zd, List.set_cons_succ, List.set_cons_zero, O_mv, fq, x9, y7, yd, z8, List.cons_append, List.nil_append, List.length_cons, List.length_nil, Nat.reduceAdd, Nat.zero_add, zn, yc, zy, za, yk, w6, List.append_assoc, List.length_append, eq_self, yf, zs, yk, hf2, zes, yf, zs, ← hK5, hlens]
    refine bz 2 names.length (NmI P mb (K.length + 1) K.length K5 names ns (.slice ax ay az)) (NmO P mb (K.length + 1) K.length K5 names (.slice ax ay az) names.length) ?_ ?_ _ ⟨K5, junk rfl, ⟨⟨[], nils, _, _, _, rfl, hk5, hm5, Own.nil _ _ _, fun b hb => by simp [blk, nils] at hb, by simp, Nat.le_refl _⟩, ⟨fun b o ho _ _ => ho, Nat.le_refl _⟩, rfl⟩⟩ ?_
    · rintro n st hn ⟨K6, ⟨j, rfl⟩, e⟩
      have hd : names[n]? = some names[n] := List.getElem?_eq_getElem hn
      obtain ⟨b', o, v, a1, a2⟩ := (hns.pre (pN K6 n e)).atH (k := n) (by simpa using hn)
      rw [List.getElem_map] at a2
      have h1 : ((n : Int) < (names.length : Int)) = True := by simp; omega
      obtain ⟨rq, cases_⟩ := yb2 hq5 (by omega) (by omega) (by omega) (by omega) (by omega) (by omega) e hd
      rcases cases_ with ⟨b, lo, e'⟩ | ⟨J1, x, y, z, x', y', z', J2, J3, lo, hu, r1, r2, ap, w1, e'⟩
      · simp only [ya, zt, ym, zb, zz, zw, yb, zm, zc, zp, zo, zf, ze, zd, List.set_cons_succ, List.set_cons_zero, O_mv, yy, yg, O_un, vt, zx, zk, xt, y5, qf, wm, qe, List.length_cons, List.length_nil, Nat.reduceAdd, Nat.zero_add, Bool.not_true, zn, yc, zy, za, zi, yp, xa, z7, xj, y8, zl, yr, z6, zq, zj, yu, yo, yh, zu, zr, Nat.add_zero, Option.map_some, List.getElem?_cons_zero, List.getElem?_cons_succ, eq_self, yq, Option.map_some, decide_true, h1, a1, a2, zea, zpg, rq, gf, lo, xq (k := n) (by omega)]
        exact ⟨_, junk rfl, e'⟩
      · simp only [ya, zt, ym, zb, zz, yb, zm, zc, zp, zo, zf, ze, zd, List.set_cons_succ, List.set_cons_zero, O_mv, yy, yg, O_un, vt, zx, zk, xt, y5, vf, w7, yd, z8, xe, xf, qf, wm, qe, List.length_cons, List.length_nil, Nat.reduceAdd, Nat.zero_add, Bool.not_false, zn, yc, zy, za, zi, slc, gu, yp, xa, z7, xj, y8, zl, xb, fv, yr, z6, zq, zj, yu, yo, yh, zu, zr, List.append_nil, Nat.add_zero, Option.map_some, List.getElem?_cons_zero, List.getElem?_cons_succ, eq_self, yq, Option.map_some, decide_true, h1, a1, a2, zea, zpg, zyx, rq, gf, fx, lo, hu, r1, r2, zy9, ap, w1, xq (k := n) (by omega)]
        exact ⟨_, junk rfl, e'⟩
    · rintro st ⟨K6, ⟨j, rfl⟩, e⟩
      have h1 : ((names.length : Int) < (names.length : Int)) = False := by simp
      simp only [ya, zt, vj, zb, zw, yb, zm, zc, zo, ze, zd, List.set_cons_succ, List.set_cons_zero, yy, yg, wm, zn, yc, za, yz, fi, xo, decide_false, h1, fi]
      exact ⟨K6, junk rfl, e⟩
    rintro st ⟨K6, ⟨j, rfl⟩, e6⟩
    have p6 := pN K6 _ e6
    obtain ⟨⟨kn, ks, kx, ky, kz, rfl, hk6, hm6, own6, hb6, hkn6, hkl6⟩, ⟨kp6, kl6⟩, cq6⟩ := e6
    rw [hq5] at cq6
    rw [List.drop_length, b7] at hkn6
    subst hkn6
    have g6 : ∀ b o, K[b]? = some o → b ≠ mb → K6[b]? = some o := fun b o ho n1 => by
      have hlt := (List.getElem?_eq_some_iff.1 ho).1
      exact kp6 b o (by rw [hK5]; exact y6 _ ho) n1 (by omega)
    have rd6 : Rd P K6 k 0 x a := ⟨g6 _ _ E.rd.hr (Ne.symm hmr), g6 _ _ E.rd.hc (Ne.symm hmc), E.rd.sw.keep fun b hb o ho => g6 b o ho (by rintro rfl; exact hwm hb), E.rd.sc.keep fun b hb o ho => g6 b o ho (by rintro rfl; exact hcm hb), E.rd.le⟩
    have ownS : Own [] K6 (.slice ax ay az) 4 rows := E.own.keep fun b hb o ho => g6 b o ho (by have := E.lo b hb; omega)
    obtain ⟨T, stms, hx0, hTb⟩ : ∃ (T : Nat → Prop) (stms : List Stm), (x = 0 → a = 0 ∧ R = .ok stms [] ∧ StsP K6 T rows stms ∧ (∀ rc gs, Stm.lets rc gs ∈ stms → gs.length ≤ 8192) ∧ stms.length ≤ 8192) ∧ ((∀ z, T z → mb < z ∧ z < K.length ∧ blk (.slice ax ay az) ≠ some z) ∧ ∀ rc gs, Stm.lets rc gs ∈ stms → gs.length ≤ 8192) := by
      by_cases x0 : x = 0
      · obtain ⟨a0, T, acc, hR, st, hT, hg, hl⟩ := E.ok x0
        exact ⟨T, acc, fun _ => ⟨a0, hR, st.keep fun b o hb ho => g6 b o ho (by have := hT b hb; omega), hg, hl⟩, hT, hg⟩
      · exact ⟨fun _ => False, [], fun h => absurd h x0, fun z hz => hz.elim, by simp⟩
    obtain ⟨hT, hgs⟩ := hTb
    obtain ⟨R0, hR0⟩ : ∃ R0 : CR (List Stm), R0 = chkR (b7 [] names) R := ⟨_, rfl⟩
    have hPM : zcs l names = mdR (b7 [] names) R0 := by rw [zx2 hl hsc, ← hRd, hR0]
    have hlS : ∀ J, lenO J (.slice ax ay az) = some (.int .i64 (rows.length : Int), J) := fun J => ownS.len J
    have rm6 : Heap.read1 K6 ⟨mb, 1, some 0⟩ = some (.slice ax ay az) := x8 hm6
    have L0 : LsS P mb (K.length + 1) K.length k K6 K6 R0 stms T rows 0 x a := ⟨rd6, ⟨fun x0 => by
      obtain ⟨a0, hR, st, hg, hl⟩ := hx0 x0
      exact ⟨a0, b7 [] names, 0, .map none, stms, cq6, hk6, st, by omega, [], rfl, by simp, by simp, by rw [hR0, hR, List.drop_zero, chkR]; cases chkM (b7 [] names) 0 stms <;> rfl⟩, fun x0 => by rw [hR0, E.bad x0]; rfl⟩, fun b o ho _ _ _ _ => ho, Nat.le_refl _⟩
    have moreL : ∀ J L k' x' a', LsS P mb (K.length + 1) K.length k K6 J R0 stms T rows k' x' a' → LsS P mb (K.length + 1) K.length k K6 (J ++ L) R0 stms T rows k' x' a' := fun J L k' x' a' e =>
      ⟨e.rd.more _, ⟨fun x0 => by
        obtain ⟨a0, kn, n, rm, l', c1, c2, c3, c4⟩ := e.ex.1 x0
        exact ⟨a0, kn, n, rm, l', y6 _ c1, y6 _ c2, c3.keep fun b o _ ho => y6 _ ho, c4⟩, e.ex.2⟩, fun b o ho n1 n2 n3 n4 => y6 _ (e.kp.1 b o ho n1 n2 n3 n4), by have := e.kp.2; simp; omega⟩
    have keepS : ∀ J k' x' a', LsS P mb (K.length + 1) K.length k K6 J R0 stms T rows k' x' a' → Sl J (.slice ax ay az) 4 rows := fun J k' x' a' e => ownS.sl.keep fun b hb o ho => by
      have := E.lo b hb; have := (E.own.lt hb).2
      exact e.kp.1 b o ho (fun h => (hT b h).2.2 hb) (by omega) (by omega) (by omega)
    simp only [ya, zb, yb, zm, zc, zo, zf, ze, zd, List.set_cons_succ, List.set_cons_zero, O_mv, yg, fq, zx, zk, Nat.zero_add, zn, yc, zy, za, yk, xa, z7, zq, zj, yk, rm6, hlS]
    refine bz 4 rows.length (LsI P mb (K.length + 1) K.length k K6 R0 stms T rows (.slice ax ay az)) (LsO P mb (K.length + 1) K.length k K6 R0 stms T rows (.slice ax ay az)) ?_ ?_ _ ⟨K6, x, a, junk rfl, L0⟩ ?_
    · rintro n st hn ⟨J, x', a', ⟨j, rfl⟩, e⟩
      obtain ⟨b', o, v, a1, a2⟩ := (keepS J n x' a' e).atH (k := n) hn
      have h1 : ((n : Int) < (rows.length : Int)) = True := by simp; omega
      have h4 : rows[n].length = 4 := (keepS J n x' a' e).2 _ (List.getElem_mem hn)
      by_cases x0 : x' = 0
      · subst x0
        obtain ⟨a0, kn, n', rm, l', c1, c2, c3, c4, c5, c6, c7, c8⟩ := e.ex.1 rfl
        subst a0
        have hlen : stms.length = rows.length := by
          have := (c3.len).1
          rw [this, c7, List.length_append, List.length_drop, c6]
          have hdl : n ≤ stms.length := by
            rcases Nat.lt_or_ge stms.length n with h | h
            · exfalso
              have h3 := (c3.len).1
              rw [c7, List.length_append, List.length_drop, c6] at h3
              omega
            · exact h
          omega
        have hs : stms[n]? = some stms[n] := List.getElem?_eq_getElem (by omega)
        obtain ⟨row, J', hrow, ql, x'', a'', e'⟩ := ybw e4 (by omega) (by omega) (by omega) (by omega) (fun z hz => by have := hT z hz; exact ⟨by omega, by omega, by omega, by omega⟩) hgs e hs
        rw [List.getElem?_eq_getElem hn] at hrow
        have hrow := Option.some.inj hrow
        rw [← hrow] at ql
        simp only [ya, zt, ym, zb, zz, zw, yb, zm, zc, zp, zo, zf, ze, zd, List.set_cons_succ, List.set_cons_zero, O_mv, yy, yg, O_un, ye, List.map_cons, List.map_nil, vt, xt, y5, qf, wm, qe, List.length_cons, List.length_nil, Nat.reduceAdd, Nat.zero_add, Bool.not_true, zn, yc, zy, za, zi, yp, zl, yr, z6, xn, xd, yh, zu, zr, Option.map_some, eq_self, yq, Option.map_some, decide_true, h1, a1, a2, h4, ok_0 (moreL J _ _ _ _ e).rd, ql, xq (k := n) (by have := E.rl; omega)]
        exact ⟨J', x'', a'', junk rfl, e'⟩
      · have ob := fun s Q => zow s Q 5 4 (by decide)
        simp only [ya, zt, vj, ym, zb, zz, yb, zm, zc, zp, zo, ze, zd, List.set_cons_succ, List.set_cons_zero, O_mv, yy, yg, O_un, ye, List.map_cons, List.map_nil, vt, xt, y5, wm, qe, List.length_cons, List.length_nil, Nat.reduceAdd, Nat.zero_add, Bool.not_false, zn, yc, zy, za, yz, yp, zl, yr, z6, yh, zu, zr, Option.map_some, fi, eq_self, xo, Option.map_some, decide_true, h1, a1, a2, h4, fe (moreL J _ _ _ _ e).rd x0, ob, fi]
        exact ⟨_, x', a', n, junk rfl, moreL J _ _ _ _ e, fun h => absurd h x0⟩
    · rintro st ⟨J, x', a', ⟨j, rfl⟩, e⟩
      have h1 : ((rows.length : Int) < (rows.length : Int)) = False := by simp
      simp only [ya, zt, vj, zb, zw, yb, zm, zc, zo, ze, zd, List.set_cons_succ, List.set_cons_zero, yy, yg, wm, zn, yc, za, yz, fi, xo, decide_false, h1, fi]
      exact ⟨J, x', a', rows.length, junk rfl, e, fun _ => rfl⟩
    rintro st ⟨J, x', a', k', ⟨j, rfl⟩, e, hk'⟩
    have pJ : Pre h J := Pre.of (by have := p6.le; have := e.kp.2; omega) fun b o ho => by
      have hlt := (List.getElem?_eq_some_iff.1 ho).1
      exact e.kp.1 b o (by rw [p6.get hlt]; exact ho) (fun h => by have := hT b h; omega) (by have := pK.le; omega) (by have := pK.le; omega) (by omega)
    by_cases x0 : x' = 0
    · subst x0
      obtain ⟨a0, kn, n', rm, l', c1, c2, c3, c4, done, c6, c7, c8, c9⟩ := e.ex.1 rfl
      subst a0
      have hkk := hk' rfl
      have hdl : stms.drop k' = [] := by
        have h3 := (c3.len).1
        rw [c7, List.length_append, List.length_drop, c6, hkk] at h3
        exact List.drop_eq_nil_of_le (by omega)
      rw [hdl, List.append_nil] at c7
      rw [hdl, chkM] at c9
      simp only [List.append_nil] at c9
      subst c7
      simp only [ya, zt, xc, ym, zb, zw, yb, zm, zc, zo, zf, ze, zd, List.set_cons_succ, List.set_cons_zero, O_mv, yg, O_un, ye, List.map_cons, List.map_nil, qe, Bool.not_true, zn, yc, za, yk, zap, yk, ok_0 e.rd, zap]
      rw [zgc h rfl, hPM, c9]
      have hmJ : J[mb]? = some (.cells [.slice kx ky kz, .slice ax ay az] 0 false) := e.kp.1 _ _ hm6 (fun h => by have := hT _ h; omega) (by omega) (by omega) hmr
      have lmJ := (List.getElem?_eq_some_iff.1 hmJ).1
      have gJ : ∀ b o, K6[b]? = some o → ¬ T b → b ≠ K.length + 1 → b ≠ K.length → b ≠ P.r → J[b]? = some o := e.kp.1
      have lKJ : K6.length ≤ J.length := e.kp.2
      refine ⟨⟨mb, rfl, ⟨⟨_, _, rows, T, hmJ, own6.sl.keep fun b hb o ho => gJ b o ho (fun h => by have := hT b h; have := hb6 b hb; omega) (by have := hb6 b hb; omega) (by have := hb6 b hb; omega) (by have := hb6 b hb; omega), keepS J _ _ _ e, c3, fun z hz => ?_, fun b hb => ?_, fun b hb => ?_⟩, ?_, ?_⟩⟩, pJ⟩
      · have := hT z hz; exact ⟨by omega, by omega⟩
      · have := hb6 b hb; have := (own6.lt hb).2; exact ⟨by omega, by omega⟩
      · have := E.lo b hb; have := (E.own.lt hb).2; exact ⟨by omega, by omega⟩
      · exact ⟨by omega, lmJ⟩
      · refine ⟨?_, ?_, c8⟩
        · have h3 := (c3.len).1
          show l'.length ≤ 8193
          have := E.rl
          omega
        · have := zmc names []; simp at this; show (b7 [] names).length ≤ 10000; omega
    · simp only [ya, zt, xc, zb, zz, yb, zm, zc, zo, zf, ze, zd, List.set_cons_succ, List.set_cons_zero, O_mv, yg, O_un, ye, List.map_cons, List.map_nil, zx, zk, qe, Nat.zero_add, Bool.not_false, zn, yc, za, y9, yk, xa, z7, zq, zj, List.getElem?_cons_zero, List.getElem?_cons_succ, zap, yk, fe e.rd x0, e.rd.r0, zap]
      rw [hPM, e.ex.2 x0]
      exact zt7 pJ x' a' x0
end Go.Proofs.YtljdbheclfaloaaGreatDoor.AM
namespace Go.Proofs.YtljdbheclfaloaaGreatDoor.AM
open Go.RowKit
set_option linter.unusedSimpArgs false
set_option linter.unusedVariables false

theorem zzu (s : U) (e : Int) (he : 0 ≤ e) (h : Heap) : DF FF zcm [.int .u32 s.toNat, .int .i64 e] h = some (.bool (s.getLsbD e.toNat), h) := by
  refine wh zyh ?_
  simp only [zo5, ya, xc, zb, yb, zm, zc, zo, zf, ze, zd, List.set_cons_succ, List.set_cons_zero, O_mv, yy, yg, ztr, k9, yfr, List.cons_append, List.nil_append, List.length_cons, List.length_nil, Nat.reduceAdd, Nat.reduceSub, Nat.zero_add, zn, yc, za, zcu, zh, zg, he, ygj]
theorem zc3 (s : U) (e : Nat) (h : Heap) : DF FF zcm [.int .u32 s.toNat, .int .i64 e] h = some (.bool (s.getLsbD e), h) := zzu s e (by omega) h
theorem lt32 {k : Nat} (hk : k < 32) : (k : Int) < 32 := by omega
theorem zkm : ¬ ((32 : Nat) : Int) < 32 := by omega
theorem nat0 (k : Nat) : (0 : Int) ≤ (k : Int) := by omega

def idR (s : U) : Nat → U := fun e => s &&& (1#32 <<< e)
theorem zht (s : U) (h : Heap) : DF FF zbx [.int .u32 s.toNat] h = some (agg (relV (idR s)), h) := by
  refine wh ybi ?_
  simp only [zt9, ya, zb, yb, zm, zc, zf, List.set_cons_succ, List.set_cons_zero, O_mv, List.cons_append, List.nil_append, List.length_cons, List.length_nil, Nat.reduceSub, Nat.zero_add, zn, yc, zy, za, yp, zh, zg, List.append_assoc, List.length_append, List.set_cons_zero, ja]
  refine zac 32 (fun k st => ∃ j : Nat → Value, st = ⟨[.int .u32 s.toNat, j 1, .pointer (some ⟨h.length, 0, some 0⟩), .pointer (some ⟨h.length + 1, 0, some 0⟩), j 4, .int .i64 k, j 6, j 7, j 8, j 9, j 10, j 11, j 12, j 13, j 14, j 15],
      h ++ [.cells (relV fun _ => 0#32) 0 false, .cells (relV (mix k (fun e => s &&& (1#32 <<< e)) fun _ => 0#32)) 0 false]⟩) ?_ ?_ _ ?_
  · rintro k st hk ⟨j, rfl⟩
    simp only [ya, zt, ym, zb, zz, yb, zm, zc, zp, zo, zf, ze, zd, List.set_cons_succ, List.set_cons_zero, O_mv, yy, yg, qf, ztr, wm, yc1, Nat.zero_add, zn, yc, zy, za, zi, zcn, zl, xb, xz, yh, w8, ba, b5, vo, Int.toNat_natCast, Nat.mul_one, List.set_cons_zero, eq_self, zcp, xr, b6, yq, yai, ycp, lt32 hk, nat0, hk, decide_true, xq (k := k) (by omega)]
    exact junk rfl
  · rintro st ⟨j, rfl⟩
    simp only [ya, zt, vj, xc, zb, zw, yb, zm, zc, zp, zo, zf, ze, zd, List.set_cons_succ, List.set_cons_zero, yy, yg, xt, y5, wm, zn, yc, za, yz, yk, zl, yr, z6, qp, xn, jb, xd, yh, zu, zr, Option.map_some, List.set_cons_zero, gg, qu, zba, eq_self, xr, b8, xo, zkm, decide_false]
    rfl
  · simp only [zc2]
    exact junk rfl

def zll (a b : U) : Nat → U := fun e => if a.getLsbD e then b else 0#32
theorem zk0 (a b : U) (h : Heap) : DF FF zct [.int .u32 a.toNat, .int .u32 b.toNat] h = some (agg (relV (zll a b)), h) := by
  refine wh zrq ?_
  simp only [zlw, ya, zb, yb, zm, zc, zf, List.set_cons_succ, List.set_cons_zero, O_mv, List.cons_append, List.nil_append, List.length_cons, List.length_nil, Nat.reduceAdd, Nat.reduceSub, Nat.zero_add, zn, yc, zy, za, yp, zh, zg, List.append_assoc, List.length_append, List.set_cons_zero, ja]
  refine zac 32 (fun k st => ∃ j : Nat → Value, st = ⟨[.int .u32 a.toNat, .int .u32 b.toNat, j 2, j 3, .pointer (some ⟨h.length, 0, some 0⟩), .pointer (some ⟨h.length + 1, 0, some 0⟩), j 6, .int .i64 k, j 8, j 9, j 10, j 11, j 12, j 13, j 14, j 15, j 16, j 17],
      h ++ [.cells (relV fun _ => 0#32) 0 false, .cells (relV (mix k (fun e => if a.getLsbD e then b else 0#32) fun _ => 0#32)) 0 false]⟩) ?_ ?_ _ ?_
  · rintro k st hk ⟨j, rfl⟩
    cases hb : a.getLsbD k
    · simp only [ya, zt, ym, zb, zz, zw, yb, zm, zc, zo, zf, ze, zd, List.set_cons_succ, List.set_cons_zero, O_mv, yy, yg, ye, List.map_cons, List.map_nil, qf, wm, zn, yc, zy, za, zi, List.set_cons_zero, yq, lt32 hk, decide_true, xq (k := k) (by omega), zc3, hb]
      rw [zfg (by simp [hb])]
      exact junk rfl
    · simp only [ya, zt, ym, zb, zz, yb, zm, zc, zp, zo, zf, ze, zd, List.set_cons_succ, List.set_cons_zero, O_mv, yy, yg, ye, List.map_cons, List.map_nil, qf, wm, Nat.zero_add, zn, yc, zy, za, zi, zcn, zl, xb, xz, yh, w8, ba, b5, vo, Nat.mul_one, List.set_cons_zero, eq_self, zcp, xr, b6, yq, lt32 hk, nat0, hk, decide_true, xq (k := k) (by omega), zc3, hb, if_true]
      exact junk rfl
  · rintro st ⟨j, rfl⟩
    simp only [ya, zt, vj, xc, zb, zw, yb, zm, zc, zp, zo, zf, ze, zd, List.set_cons_succ, List.set_cons_zero, yy, yg, xt, y5, wm, zn, yc, za, yz, yk, zl, yr, z6, qp, xn, jb, xd, yh, zu, zr, Option.map_some, List.set_cons_zero, gg, qu, zba, eq_self, xr, b8, xo, zkm, decide_false]
    rfl
  · simp only [zc2]
    exact junk rfl

def zmd (a b : Nat → U) : Nat → U := fun e => a e &&& ~~~ b e
theorem zsz (a b : Nat → U) (h : Heap) : DF FF zgw [agg (relV a), agg (relV b)] h = some (agg (relV (zmd a b)), h) := by
  refine wh zso ?_
  simp only [zlh, ya, zb, yb, zm, zc, zo, zf, ze, zd, List.set_cons_succ, List.set_cons_zero, O_mv, List.cons_append, List.nil_append, List.length_cons, List.length_nil, Nat.reduceAdd, Nat.reduceSub, Nat.zero_add, zn, yc, zy, za, yp, w6, zh, zg, List.append_assoc, List.length_append, List.set_cons_zero, eq_self, yf, zs, xr, ja]
  refine zac 32 (fun k st => ∃ j : Nat → Value, st = ⟨[j 0, j 1, .pointer (some ⟨h.length, 0, some 0⟩), .pointer (some ⟨h.length + 1, 0, some 0⟩), .pointer (some ⟨h.length + 2, 0, some 0⟩), j 5, .int .i64 k, j 7, j 8, j 9, j 10, j 11, j 12, j 13, j 14, j 15, j 16, j 17, j 18],
      h ++ [.cells (relV (mix k (fun e => a e &&& ~~~ b e) a)) 0 false, .cells (relV b) 0 false, .cells (relV fun _ => 0#32) 0 false]⟩) ?_ ?_ _ ?_
  · rintro k st hk ⟨j, rfl⟩
    simp only [ya, zt, ym, zb, zz, yb, zm, zc, zp, zo, zf, ze, zd, List.set_cons_succ, List.set_cons_zero, O_mv, yy, yg, zx, zk, qf, zpb, wm, Nat.zero_add, zn, yc, zy, za, zi, zcn, zl, xb, xz, fk, yu, bk, yo, yh, j9, vo, Nat.mul_one, List.set_cons_zero, eq_self, zcp, xr, zbb, b6, zk8, yq, zt5, lt32 hk, nat0, hk, decide_true, xq (k := k) (by omega)]
    exact junk rfl
  · rintro st ⟨j, rfl⟩
    simp only [ya, zt, vj, xc, zb, zw, yb, zm, zc, zp, zo, zf, ze, zd, List.set_cons_succ, List.set_cons_zero, yy, yg, xt, y5, wm, zn, yc, za, yz, yk, zl, yr, z6, qp, xn, jb, xd, yh, w8, ve, vk, zr, Option.map_some, List.set_cons_zero, gg, qu, zba, eq_self, xr, b8, xo, zkm, decide_false]
    rfl
  · simp only [zc2]
    exact junk rfl

def zi1 (s : U) (r : Nat → U) : Nat → U
  | 0 => 0#32
  | k + 1 => if s.getLsbD k then zi1 s r k ||| r k else zi1 s r k
def zy6 (s : U) (r : Nat → U) : U := zi1 s r 32
theorem zvk (s : U) (r : Nat → U) (h : Heap) : DF FF ziv [.int .u32 s.toNat, agg (relV r)] h = some (.int .u32 (zy6 s r).toNat, h) := by
  refine wh zv0 ?_
  simp only [zm0, ya, zb, yb, zm, zc, zo, zf, ze, zd, List.set_cons_succ, List.set_cons_zero, O_mv, List.cons_append, List.nil_append, List.length_cons, List.length_nil, Nat.reduceAdd, Nat.reduceSub, Nat.zero_add, zn, yc, zy, za, w6, zh, zg, List.set_cons_zero, eq_self, yf, zs, xr]
  refine zac 32 (fun k st => ∃ j : Nat → Value, st = ⟨[.int .u32 s.toNat, j 1, j 2, .pointer (some ⟨h.length, 0, some 0⟩), j 4, .int .u32 (zi1 s r k).toNat, j 6, .int .i64 k, j 8, j 9, j 10, j 11, j 12, j 13, j 14, j 15, j 16, j 17, j 18, j 19],
      h ++ [.cells (relV r) 0 false]⟩) ?_ ?_ _ ?_
  · rintro k st hk ⟨j, rfl⟩
    cases hb : s.getLsbD k
    · simp only [ya, zt, ym, zb, zz, zw, yb, zm, zc, zo, zf, ze, zd, List.set_cons_succ, List.set_cons_zero, O_mv, yy, yg, ye, List.map_cons, List.map_nil, qf, wm, zn, yc, zy, za, zi, List.set_cons_zero, yq, lt32 hk, decide_true, xq (k := k) (by omega), zc3, hb]
      have : zi1 s r (k + 1) = zi1 s r k := by rw [zi1, hb]; rfl
      rw [this]
      exact junk rfl
    · simp only [ya, zt, ym, zb, zz, yb, zm, zc, zo, zf, ze, zd, List.set_cons_succ, List.set_cons_zero, O_mv, yy, yg, ye, List.map_cons, List.map_nil, zx, zk, qf, zwn, wm, Nat.zero_add, zn, yc, zy, za, zi, zcn, yu, yo, Nat.mul_one, List.set_cons_zero, zcp, zbb, yq, u_or, lt32 hk, nat0, hk, decide_true, xq (k := k) (by omega), zc3, hb]
      have : zi1 s r (k + 1) = zi1 s r k ||| r k := by rw [zi1, hb]; rfl
      rw [this]
      exact junk rfl
  · rintro st ⟨j, rfl⟩
    simp only [ya, zt, vj, xc, zb, zw, yb, zm, zc, zo, zf, ze, zd, List.set_cons_succ, List.set_cons_zero, O_mv, yy, yg, wm, zn, yc, za, yz, yk, List.set_cons_zero, xo, zkm, decide_false]
    rw [zfk _ _ _ _ _ rfl]
    rfl
  · exact junk rfl

def invK (r : Nat → U) : Nat → Nat → U
  | 0 => fun _ => 0#32
  | a + 1 => fun b => if (r a).getLsbD b then invK r a b ||| (1#32 <<< a) else invK r a b
def invR (r : Nat → U) : Nat → U := invK r 32
theorem zn9 (r : Nat → U) (h : Heap) : DF FF zep [agg (relV r)] h = some (agg (relV (invR r)), h) := by
  refine wh zoe ?_
  simp only [zhw, ya, zb, yb, zm, zc, zo, zf, zd, List.set_cons_succ, List.set_cons_zero, O_mv, List.cons_append, List.nil_append, List.length_cons, List.length_nil, Nat.reduceAdd, Nat.reduceSub, Nat.zero_add, zn, yc, zy, za, yp, w6, zh, zg, List.append_assoc, List.length_append, List.set_cons_zero, eq_self, yf, zs, xr, ja]
  refine zac 32 (fun a st => ∃ j : Nat → Value, st = ⟨[j 0, .pointer (some ⟨h.length, 0, some 0⟩), .pointer (some ⟨h.length + 1, 0, some 0⟩), .pointer (some ⟨h.length + 2, 0, some 0⟩), j 4, j 5, .int .i64 a, j 7, j 8, j 9, j 10, j 11, j 12, j 13, j 14, j 15, j 16, j 17, j 18, j 19, j 20, j 21, j 22, j 23, j 24, j 25, j 26],
      h ++ [.cells (relV r) 0 false, .cells (relV fun _ => 0#32) 0 false, .cells (relV (invK r a)) 0 false]⟩) ?_ ?_ _ ?_
  · rintro a st ha ⟨j, rfl⟩
    simp only [ya, zt, ym, zb, zz, yb, zm, zc, zo, zf, ze, zd, List.set_cons_succ, List.set_cons_zero, O_mv, yy, yg, wm, zn, yc, zy, za, List.set_cons_zero, lt32 ha, decide_true]
    refine zac 32 (fun b st => ∃ j : Nat → Value, st = ⟨[j 0, .pointer (some ⟨h.length, 0, some 0⟩), .pointer (some ⟨h.length + 1, 0, some 0⟩), .pointer (some ⟨h.length + 2, 0, some 0⟩), .int .i64 a, j 5, .int .i64 a, j 7, j 8, .int .i64 b, j 10, j 11, j 12, j 13, j 14, j 15, j 16, j 17, j 18, j 19, j 20, j 21, j 22, j 23, j 24, j 25, j 26],
      h ++ [.cells (relV r) 0 false, .cells (relV fun _ => 0#32) 0 false, .cells (relV (mix b (fun b => if (r a).getLsbD b then invK r a b ||| (1#32 <<< a) else invK r a b) (invK r a))) 0 false]⟩) ?_ ?_ _ ?_
    · rintro b st hb ⟨j, rfl⟩
      cases hc : (r a).getLsbD b
      · simp only [ya, zt, ym, zb, zz, zw, yb, zm, zc, zo, zf, ze, zd, List.set_cons_succ, List.set_cons_zero, O_mv, yy, yg, ye, List.map_cons, List.map_nil, zx, zk, qf, wm, Nat.zero_add, zn, yc, zy, za, zi, zcn, yu, yo, Nat.mul_one, List.set_cons_zero, zcp, zbb, yq, lt32 hb, nat0, ha, decide_true, xq (k := b) (by omega), zc3, hc]
        rw [zfg (by simp [hc])]
        exact junk rfl
      · simp only [ya, zt, ym, zb, zz, yb, zm, zc, zp, zo, zf, ze, zd, List.set_cons_succ, List.set_cons_zero, O_mv, yy, yg, ye, List.map_cons, List.map_nil, zx, zk, qf, zwn, wm, yc1, Nat.zero_add, zn, yc, zy, za, zi, zcn, zl, xb, xz, fk, yu, bk, yo, yh, w8, ba, b5, vo, Int.toNat_natCast, Nat.mul_one, List.set_cons_zero, eq_self, zcp, xr, zbb, b6, zk8, yq, u_or, ycp, lt32 hb, nat0, ha, hb, decide_true, xq (k := b) (by omega), zc3, hc, if_true]
        exact junk rfl
    · rintro st ⟨j, rfl⟩
      simp only [ya, zt, vj, zb, zw, yb, zm, zc, zo, zf, ze, zd, List.set_cons_succ, List.set_cons_zero, O_mv, yy, yg, qf, wm, zn, yc, za, yz, zi, yk, List.set_cons_zero, b8, yq, xo, zkm, decide_false, xq (k := a) (by omega)]
      exact junk rfl
    · simp only [zc2]
      exact junk rfl
  · rintro st ⟨j, rfl⟩
    simp only [ya, zt, vj, xc, zb, zw, yb, zm, zc, zp, zo, zf, ze, zd, List.set_cons_succ, List.set_cons_zero, yy, yg, xt, y5, wm, zn, yc, za, yz, yk, zl, yr, z6, qp, jb, xd, yh, w8, ve, vk, zr, Option.map_some, List.set_cons_zero, gg, qu, zba, eq_self, xr, xo, zkm, decide_false]
    rfl
  · exact junk rfl

def zd4 (r : Nat → U) : Nat → Nat → U
  | 0 => r
  | b + 1 => fun a => if (zd4 r b a).getLsbD b then zd4 r b a ||| zd4 r b b else zd4 r b a
def zbp (r : Nat → U) : Nat → U := zd4 r 32
theorem zgl (r : Nat → U) (h : Heap) : DF FF zab [agg (relV r)] h = some (agg (relV (zbp r)), h) := by
  refine wh zu9 ?_
  simp only [znk, ya, zb, yb, zm, zc, zo, zf, zd, List.set_cons_succ, List.set_cons_zero, O_mv, List.cons_append, List.nil_append, List.length_cons, List.length_nil, Nat.reduceSub, Nat.zero_add, zn, yc, zy, za, yp, w6, zh, zg, List.append_assoc, List.length_append, List.set_cons_zero, eq_self, yf, zs, xr, ja]
  refine zac 32 (fun b st => ∃ j : Nat → Value, st = ⟨[j 0, .pointer (some ⟨h.length, 0, some 0⟩), .pointer (some ⟨h.length + 1, 0, some 0⟩), j 3, j 4, .int .i64 b, j 6, j 7, j 8, j 9, j 10, j 11, j 12, j 13, j 14, j 15, j 16, j 17, j 18, j 19, j 20, j 21, j 22, j 23, j 24, j 25, j 26],
      h ++ [.cells (relV (zd4 r b)) 0 false, .cells (relV fun _ => 0#32) 0 false]⟩) ?_ ?_ _ ?_
  · rintro b st hb ⟨j, rfl⟩
    simp only [ya, zt, ym, zb, zz, yb, zm, zc, zo, zf, ze, zd, List.set_cons_succ, List.set_cons_zero, O_mv, yy, yg, wm, zn, yc, zy, za, List.set_cons_zero, lt32 hb, decide_true]
    refine zac 32 (fun a st => ∃ j : Nat → Value, st = ⟨[j 0, .pointer (some ⟨h.length, 0, some 0⟩), .pointer (some ⟨h.length + 1, 0, some 0⟩), .int .i64 b, j 4, .int .i64 b, j 6, j 7, .int .i64 a, j 9, j 10, j 11, j 12, j 13, j 14, j 15, j 16, j 17, j 18, j 19, j 20, j 21, j 22, j 23, j 24, j 25, j 26],
      h ++ [.cells (relV (mix a (fun a => if (zd4 r b a).getLsbD b then zd4 r b a ||| zd4 r b b else zd4 r b a) (zd4 r b))) 0 false, .cells (relV fun _ => 0#32) 0 false]⟩) ?_ ?_ _ ?_
    · rintro a st ha ⟨j, rfl⟩
      have hmid : mix a (fun a => if (zd4 r b a).getLsbD b then zd4 r b a ||| zd4 r b b else zd4 r b a) (zd4 r b) b = zd4 r b b := by
        unfold mix
        by_cases hq : b < a
        · simp only [if_pos hq, BitVec.or_self, ite_self]
        · rw [if_neg hq]
      cases hc : (zd4 r b a).getLsbD b
      · simp only [ya, zt, ym, zb, zz, zw, yb, zm, zc, zo, zf, ze, zd, List.set_cons_succ, List.set_cons_zero, O_mv, yy, yg, ye, List.map_cons, List.map_nil, zx, zk, qf, wm, Nat.zero_add, zn, yc, zy, za, zi, zcn, yu, yo, Nat.mul_one, List.set_cons_zero, zcp, zbb, zk8, yq, lt32 ha, nat0, ha, decide_true, xq (k := a) (by omega), zc3, hc]
        rw [zfg (by simp [hc])]
        exact junk rfl
      · simp only [ya, zt, ym, zb, zz, yb, zm, zc, zp, zo, zf, ze, zd, List.set_cons_succ, List.set_cons_zero, O_mv, yy, yg, ye, List.map_cons, List.map_nil, zx, zk, qf, zwn, wm, Nat.zero_add, zn, yc, zy, za, zi, zcn, zl, xb, xz, yu, yo, yh, j9, vo, Nat.mul_one, List.set_cons_zero, eq_self, zcp, xr, zbb, b6, zk8, yq, u_or, lt32 ha, nat0, ha, hb, decide_true, xq (k := a) (by omega), zc3, hc, if_true, hmid]
        exact junk rfl
    · rintro st ⟨j, rfl⟩
      simp only [ya, zt, vj, zb, zw, yb, zm, zc, zo, zf, ze, zd, List.set_cons_succ, List.set_cons_zero, O_mv, yy, yg, qf, wm, zn, yc, za, yz, zi, yk, List.set_cons_zero, b8, yq, xo, zkm, decide_false, xq (k := b) (by omega)]
      exact junk rfl
    · simp only [zc2]
      exact junk rfl
  · rintro st ⟨j, rfl⟩
    simp only [ya, zt, vj, xc, zb, zw, yb, zm, zc, zp, zo, zf, ze, zd, List.set_cons_succ, List.set_cons_zero, yy, yg, xt, y5, wm, zn, yc, za, yz, yk, zl, yr, z6, qp, xn, jb, xd, yh, w8, ve, vk, zr, Option.map_some, List.set_cons_zero, gg, qu, zba, eq_self, xr, xo, zkm, decide_false]
    rfl
  · exact junk rfl
def zum (r : Nat → U) : Bool := zf4 r fun _ => 0#32
theorem zk4 (r : Nat → U) (h : Heap) : DF FF zeq [agg (relV r)] h = some (.bool (zum r), h) := by
  refine wh zrf ?_
  simp only [zj6, ya, xc, zb, yb, zm, zc, zo, zf, ze, zd, List.set_cons_succ, List.set_cons_zero, O_mv, yg, xt, y5, x9, y7, yd, yx, List.cons_append, List.nil_append, List.length_cons, List.length_nil, Nat.reduceSub, Nat.zero_add, zn, yc, za, w6, xn, xd, zh, zg, Option.map_some, List.set_cons_zero, Bool.bne_false, eq_self, yf, zs, zof, ydg, xr, ja]
  rw [zfk _ _ _ _ _ rfl]
  simp [zum]
end Go.Proofs.YtljdbheclfaloaaGreatDoor.AM

namespace Go.Proofs.YtljdbheclfaloaaGreatDoor.AM
open Go.RowKit
set_option linter.unusedSimpArgs false
set_option linter.unusedVariables false

theorem Rels.len {h : Heap} {s : Value} {rs : List (Nat → U)} (e : Rels h s rs) (H : Heap) : lenO H s = some (.int .i64 rs.length, H) := by
  have := Sl.len e H
  rwa [List.length_map] at this
theorem Rels.at {h : Heap} {s : Value} {rs : List (Nat → U)} (e : Rels h s rs) {k : Nat} (hk : k < rs.length) : ∃ b o v, (∀ H, rowO H 32 s (.int .i64 (k : Int)) = some (.pointer (some ⟨b, o, some v⟩), H)) ∧ ∀ L, Heap.read (h ++ L) ⟨b, o, some v⟩ 32 = some (relV rs[k]) := by
  obtain ⟨b, o, v, h1, h2⟩ := Sl.at e (k := k) (by rw [List.length_map]; exact hk)
  exact ⟨b, o, v, h1, fun L => by rw [h2, List.getElem_map]⟩

def ft (rs : List (Nat → U)) : Nat → U := fun e => rs.foldl (fun acc r => acc ||| r e) 0#32
theorem zr0 (rs : List (Nat → U)) {k : Nat} (hk : k < rs.length) : ft (rs.take (k + 1)) = fun e => ft (rs.take k) e ||| rs[k] e := by
  funext e; unfold ft; rw [List.take_succ_eq_append_getElem hk, List.foldl_append]; rfl
theorem zgx (rs : List (Nat → U)) (s : Value) (h : Heap) (hs : Rels h s rs) (hl : rs.length < 4611686018427387904) : DF FF f4 [s] h = some (agg (relV (ft rs)), h) := by
  refine wh zr6 ?_
  simp only [zky, ya, zb, yb, zm, zc, zo, zf, ze, zd, List.set_cons_succ, List.set_cons_zero, O_mv, fq, List.cons_append, List.nil_append, List.length_cons, List.length_nil, Nat.reduceSub, Nat.zero_add, zn, yc, zy, za, yp, zh, zg, List.append_assoc, List.length_append, List.set_cons_zero, ja, hs.len]
  refine zac rs.length (fun k st => ∃ (J : Heap) (j : Nat → Value), st = ⟨[j 0, j 1, .pointer (some ⟨h.length, 0, some 0⟩), .pointer (some ⟨h.length + 1, 0, some 0⟩), j 4, j 5, j 6, s, .int .i64 rs.length, .int .i64 k, j 10, j 11, j 12, j 13, j 14, j 15, j 16, j 17, j 18, j 19, j 20, j 21, j 22, j 23, j 24, j 25, j 26],
      h ++ (.cells (relV fun _ => 0#32) 0 false :: .cells (relV (ft (rs.take k))) 0 false :: J)⟩) ?_ ?_ _ ?_
  · rintro k st hk ⟨J, j, rfl⟩
    obtain ⟨b, o, v, hp1, hp2⟩ := hs.at hk
    have h1 : (k : Int) < rs.length := by omega
    simp only [ya, zt, ym, zb, zz, yb, zm, zc, zp, zo, zf, ze, zd, List.set_cons_succ, List.set_cons_zero, O_mv, yy, yg, vt, xt, y5, wm, List.cons_append, List.length_cons, zn, yc, zy, za, yp, zl, yr, z6, yh, w8, ve, zu, vk, zr, List.append_assoc, List.length_append, Option.map_some, List.set_cons_zero, eq_self, xr, h1, decide_true, hp1, hp2]
    refine zac 32 (fun e st => ∃ j : Nat → Value, st = ⟨[j 0, j 1, .pointer (some ⟨h.length, 0, some 0⟩), .pointer (some ⟨h.length + 1, 0, some 0⟩), j 4, .pointer (some ⟨h.length + (J.length + 1 + 1), 0, some 0⟩), j 6, s, .int .i64 rs.length, .int .i64 k, j 10, j 11, j 12, .int .i64 e, j 14, j 15, j 16, j 17, j 18, j 19, j 20, j 21, j 22, j 23, j 24, j 25, j 26],
      h ++ (.cells (relV fun _ => 0#32) 0 false :: .cells (relV (mix e (fun e => ft (rs.take k) e ||| rs[k] e) (ft (rs.take k)))) 0 false :: (J ++ [.cells (relV rs[k]) 0 false]))⟩) ?_ ?_ _ ?_
    · rintro e st he ⟨j, rfl⟩
      simp only [ya, zt, ym, zb, zz, yb, zm, zc, zp, zo, zf, ze, zd, List.set_cons_succ, List.set_cons_zero, O_mv, yy, yg, zx, zk, qf, zwn, wm, Nat.zero_add, zn, yc, zy, za, zi, zcn, zl, xb, xz, fk, yu, bk, yo, yh, w8, ba, b5, vo, Nat.mul_one, List.set_cons_zero, eq_self, zcp, xr, zbb, b6, zk8, yq, u_or, lt32 he, nat0, he, decide_true, xq (k := e) (by omega)]
      exact junk rfl
    · rintro st ⟨j, rfl⟩
      simp only [ya, zt, vj, zb, zw, yb, zm, zc, zo, zf, ze, zd, List.set_cons_succ, List.set_cons_zero, O_mv, yy, yg, qf, wm, zn, yc, za, yz, zi, yk, List.set_cons_zero, b8, yq, xo, zkm, decide_false, xq (k := k) (by omega), zr0 rs hk]
      exact ⟨_, junk rfl⟩
    · simp only [zc2]
      exact junk rfl
  · rintro st ⟨J, j, rfl⟩
    have h1 : ¬ ((rs.length : Nat) : Int) < rs.length := by omega
    simp only [ya, zt, vj, xc, zb, zw, yb, zm, zc, zp, zo, ze, zd, List.set_cons_succ, List.set_cons_zero, yy, yg, xt, y5, wm, zn, yc, za, yz, yk, zl, yr, z6, qp, xn, jb, xd, yh, zu, zr, Option.map_some, List.set_cons_zero, gg, qu, zba, eq_self, xr, xo, h1, decide_false, List.take_length]
  · exact ⟨[], junk rfl⟩
def zgy (rs : List (Nat → U)) : Nat → U := fun e => rs.foldl (fun acc r => acc &&& r e) (zll (BitVec.allOnes 32) (BitVec.allOnes 32) e)
theorem zvc (rs : List (Nat → U)) {k : Nat} (hk : k < rs.length) : zgy (rs.take (k + 1)) = fun e => zgy (rs.take k) e &&& rs[k] e := by
  funext e; unfold zgy; rw [List.take_succ_eq_append_getElem hk, List.foldl_append]; rfl
theorem zm1 (rs : List (Nat → U)) (s : Value) (h : Heap) (hs : Rels h s rs) (hl : rs.length < 4611686018427387904) : DF FF zb2 [s] h = some (agg (relV (zgy rs)), h) := by
  have key : ∀ H, DF FF zct [.int .u32 4294967295, .int .u32 4294967295] H = some (agg (relV (zll (BitVec.allOnes 32) (BitVec.allOnes 32))), H) := fun H => zk0 (BitVec.allOnes 32) (BitVec.allOnes 32) H
  refine wh zv8 ?_
  simp only [znb, ya, zb, yb, zm, zc, zp, zo, zf, ze, zd, List.set_cons_succ, List.set_cons_zero, O_mv, ye, List.map_cons, List.map_nil, fq, List.cons_append, List.nil_append, List.length_cons, List.length_nil, Nat.reduceSub, Nat.zero_add, zn, yc, zy, za, yp, zl, yr, z6, yh, w8, ve, vk, zr, zh, zg, List.append_assoc, List.length_append, List.set_cons_zero, eq_self, xr, ja, hs.len, key]
  refine zac rs.length (fun k st => ∃ (J : Heap) (j : Nat → Value), st = ⟨[j 0, j 1, .pointer (some ⟨h.length, 0, some 0⟩), .pointer (some ⟨h.length + 1, 0, some 0⟩), j 4, j 5, j 6, j 7, s, .int .i64 rs.length, .int .i64 k, j 11, j 12, j 13, j 14, j 15, j 16, j 17, j 18, j 19, j 20, j 21, j 22, j 23, j 24, j 25, j 26, j 27],
      h ++ (.cells (relV fun _ => 0#32) 0 false :: .cells (relV (zgy (rs.take k))) 0 false :: J)⟩) ?_ ?_ _ ?_
  · rintro k st hk ⟨J, j, rfl⟩
    obtain ⟨b, o, v, hp1, hp2⟩ := hs.at hk
    have h1 : (k : Int) < rs.length := by omega
    simp only [ya, zt, ym, zb, zz, yb, zm, zc, zp, zo, zf, ze, zd, List.set_cons_succ, List.set_cons_zero, O_mv, yy, yg, vt, xt, y5, wm, List.cons_append, List.length_cons, zn, yc, zy, za, yp, zl, yr, z6, yh, w8, ve, zu, vk, zr, List.append_assoc, List.length_append, Option.map_some, List.set_cons_zero, eq_self, xr, h1, decide_true, hp1, hp2]
    refine zac 32 (fun e st => ∃ j : Nat → Value, st = ⟨[j 0, j 1, .pointer (some ⟨h.length, 0, some 0⟩), .pointer (some ⟨h.length + 1, 0, some 0⟩), j 4, .pointer (some ⟨h.length + (J.length + 1 + 1), 0, some 0⟩), j 6, j 7, s, .int .i64 rs.length, .int .i64 k, j 11, j 12, j 13, .int .i64 e, j 15, j 16, j 17, j 18, j 19, j 20, j 21, j 22, j 23, j 24, j 25, j 26, j 27],
      h ++ (.cells (relV fun _ => 0#32) 0 false :: .cells (relV (mix e (fun e => zgy (rs.take k) e &&& rs[k] e) (zgy (rs.take k)))) 0 false :: (J ++ [.cells (relV rs[k]) 0 false]))⟩) ?_ ?_ _ ?_
    · rintro e st he ⟨j, rfl⟩
      simp only [ya, zt, ym, zb, zz, yb, zm, zc, zp, zo, zf, ze, zd, List.set_cons_succ, List.set_cons_zero, O_mv, yy, yg, zx, zk, qf, ztr, wm, Nat.zero_add, zn, yc, zy, za, zi, zcn, zl, xb, xz, fk, yu, bk, yo, yh, w8, ba, b5, vo, Nat.mul_one, List.set_cons_zero, eq_self, zcp, xr, zbb, b6, zk8, yq, yai, lt32 he, nat0, he, decide_true, xq (k := e) (by omega)]
      exact junk rfl
    · rintro st ⟨j, rfl⟩
      simp only [ya, zt, vj, zb, zw, yb, zm, zc, zo, zf, ze, zd, List.set_cons_succ, List.set_cons_zero, O_mv, yy, yg, qf, wm, zn, yc, za, yz, zi, yk, List.set_cons_zero, b8, yq, xo, zkm, decide_false, xq (k := k) (by omega), zvc rs hk]
      exact ⟨_, junk rfl⟩
    · simp only [zc2]
      exact junk rfl
  · rintro st ⟨J, j, rfl⟩
    have h1 : ¬ ((rs.length : Nat) : Int) < rs.length := by omega
    simp only [ya, zt, vj, xc, zb, zw, yb, zm, zc, zp, zo, ze, zd, List.set_cons_succ, List.set_cons_zero, yy, yg, xt, y5, wm, zn, yc, za, yz, yk, zl, yr, z6, qp, xn, jb, xd, yh, zu, zr, Option.map_some, List.set_cons_zero, gg, qu, zba, eq_self, xr, xo, h1, decide_false, List.take_length]
  · exact ⟨[], junk rfl⟩
def twoR (a b : Nat → U) : Nat → U := fun e => zy6 (a e) b
def seqK (rs : List (Nat → U)) : Nat → U := rs.foldl twoR (idR (BitVec.allOnes 32))
theorem zzv (rs : List (Nat → U)) {k : Nat} (hk : k < rs.length) : seqK (rs.take (k + 1)) = fun e => zy6 (seqK (rs.take k) e) rs[k] := by
  unfold seqK; rw [List.take_succ_eq_append_getElem hk, List.foldl_append]; rfl
theorem zpt (rs : List (Nat → U)) (s : Value) (h : Heap) (hs : Rels h s rs) (hl : rs.length < 4611686018427387904) : DF FF zd0 [s] h = some (agg (relV (seqK rs)), h) := by
  have key : ∀ H, DF FF zbx [.int .u32 4294967295] H = some (agg (relV (idR (BitVec.allOnes 32))), H) := fun H => zht (BitVec.allOnes 32) H
  refine wh zyg ?_
  simp only [zpa, ya, zb, yb, zm, zc, zp, zo, zf, ze, zd, List.set_cons_succ, List.set_cons_zero, O_mv, ye, List.map_cons, List.map_nil, fq, List.cons_append, List.nil_append, List.length_cons, List.length_nil, Nat.reduceSub, Nat.zero_add, zn, yc, zy, za, yp, zl, yr, z6, yh, w8, ve, vk, zr, zh, zg, List.append_assoc, List.length_append, List.set_cons_zero, eq_self, xr, ja, hs.len, key]
  refine zac rs.length (fun k st => ∃ (J : Heap) (j : Nat → Value), st = ⟨[j 0, j 1, .pointer (some ⟨h.length, 0, some 0⟩), .pointer (some ⟨h.length + 1, 0, some 0⟩), j 4, j 5, j 6, j 7, s, .int .i64 rs.length, .int .i64 k, j 11, j 12, j 13, j 14, j 15, j 16, j 17, j 18, j 19, j 20, j 21, j 22, j 23, j 24, j 25, j 26],
      h ++ (.cells (relV fun _ => 0#32) 0 false :: .cells (relV (seqK (rs.take k))) 0 false :: J)⟩) ?_ ?_ _ ?_
  · rintro k st hk ⟨J, j, rfl⟩
    obtain ⟨b, o, v, hp1, hp2⟩ := hs.at hk
    have h1 : (k : Int) < rs.length := by omega
    simp only [ya, zt, ym, zb, zz, yb, zm, zc, zp, zo, zf, ze, zd, List.set_cons_succ, List.set_cons_zero, O_mv, yy, yg, vt, xt, y5, wm, List.cons_append, List.length_cons, zn, yc, zy, za, yp, zl, yr, z6, yh, w8, ve, zu, vk, zr, List.append_assoc, List.length_append, Option.map_some, List.set_cons_zero, eq_self, xr, h1, decide_true, hp1, hp2]
    refine zac 32 (fun e st => ∃ j : Nat → Value, st = ⟨[j 0, j 1, .pointer (some ⟨h.length, 0, some 0⟩), .pointer (some ⟨h.length + 1, 0, some 0⟩), j 4, .pointer (some ⟨h.length + (J.length + 1 + 1), 0, some 0⟩), j 6, j 7, s, .int .i64 rs.length, .int .i64 k, j 11, j 12, j 13, .int .i64 e, j 15, j 16, j 17, j 18, j 19, j 20, j 21, j 22, j 23, j 24, j 25, j 26],
      h ++ (.cells (relV fun _ => 0#32) 0 false :: .cells (relV (mix e (fun e => zy6 (seqK (rs.take k) e) rs[k]) (seqK (rs.take k)))) 0 false :: (J ++ [.cells (relV rs[k]) 0 false]))⟩) ?_ ?_ _ ?_
    · rintro e st he ⟨j, rfl⟩
      simp only [ya, zt, ym, zb, zz, yb, zm, zc, zp, zo, zf, ze, zd, List.set_cons_succ, List.set_cons_zero, O_mv, yy, yg, ye, List.map_cons, List.map_nil, zx, zk, xt, y5, qf, wm, Nat.zero_add, zn, yc, zy, za, zi, zcn, zl, xb, xz, fk, bk, yo, qp, xn, jb, xd, yh, w8, ba, b5, vo, Nat.mul_one, Option.map_some, List.set_cons_zero, eq_self, zcp, xr, zbb, b6, zk8, yq, lt32 he, nat0, he, decide_true, xq (k := e) (by omega), zvk]
      exact junk rfl
    · rintro st ⟨j, rfl⟩
      simp only [ya, zt, vj, zb, zw, yb, zm, zc, zo, zf, ze, zd, List.set_cons_succ, List.set_cons_zero, O_mv, yy, yg, qf, wm, zn, yc, za, yz, zi, yk, List.set_cons_zero, b8, yq, xo, zkm, decide_false, xq (k := k) (by omega), zzv rs hk]
      exact ⟨_, junk rfl⟩
    · simp only [zc2]
      exact junk rfl
  · rintro st ⟨J, j, rfl⟩
    have h1 : ¬ ((rs.length : Nat) : Int) < rs.length := by omega
    simp only [ya, zt, vj, xc, zb, zw, yb, zm, zc, zp, zo, ze, zd, List.set_cons_succ, List.set_cons_zero, yy, yg, xt, y5, wm, zn, yc, za, yz, yk, zl, yr, z6, qp, xn, jb, xd, yh, zu, zr, Option.map_some, List.set_cons_zero, gg, qu, zba, eq_self, xr, xo, h1, decide_false, List.take_length]
  · exact ⟨[], junk rfl⟩

/-! Two, three of them, just laid. -/
theorem Rels.last2 (h : Heap) (f g : Nat → U) : Rels (h ++ [.cells (relV f ++ relV g) 0 false]) (.slice (some ⟨h.length, 0, some 0⟩) 2 32) [f, g] :=
  Sl.last (rows := [relV f, relV g]) h (by simp) rfl (by simp [xr]) 0 false
theorem yeb (h : Heap) (a0 : AObj) (L : Heap) (f g : Nat → U) : DF FF zb2 [.slice (some ⟨h.length + 1, 0, some 0⟩) 2 32] (h ++ (a0 :: AObj.cells (relV f ++ relV g) 0 false :: L)) = some (agg (relV (zgy [f, g])), h ++ (a0 :: AObj.cells (relV f ++ relV g) 0 false :: L)) := by
  have := zm1 [f, g] _ _ ((Rels.last2 (h ++ [a0]) f g).more L) (by simp)
  simpa using this
theorem zup (h : Heap) (a0 a1 : AObj) (L : Heap) (f g : Nat → U) : DF FF f4 [.slice (some ⟨h.length + 2, 0, some 0⟩) 2 32] (h ++ (a0 :: a1 :: AObj.cells (relV f ++ relV g) 0 false :: L)) = some (agg (relV (ft [f, g])), h ++ (a0 :: a1 :: AObj.cells (relV f ++ relV g) 0 false :: L)) := by
  have := zgx [f, g] _ _ ((Rels.last2 (h ++ [a0, a1]) f g).more L) (by simp)
  simpa using this
theorem ya1 (h : Heap) (a0 a1 a2 a3 : AObj) (L : Heap) (f g : Nat → U) : DF FF f4 [.slice (some ⟨h.length + 4, 0, some 0⟩) 2 32] (h ++ (a0 :: a1 :: a2 :: a3 :: AObj.cells (relV f ++ relV g) 0 false :: L)) = some (agg (relV (ft [f, g])), h ++ (a0 :: a1 :: a2 :: a3 :: AObj.cells (relV f ++ relV g) 0 false :: L)) := by
  have := zgx [f, g] _ _ ((Rels.last2 (h ++ [a0, a1, a2, a3]) f g).more L) (by simp)
  simpa using this
theorem yd3 (h : Heap) (a0 a1 a2 a3 : AObj) (L : Heap) (f g : Nat → U) : DF FF zb2 [.slice (some ⟨h.length + 4, 0, some 0⟩) 2 32] (h ++ (a0 :: a1 :: a2 :: a3 :: AObj.cells (relV f ++ relV g) 0 false :: L)) = some (agg (relV (zgy [f, g])), h ++ (a0 :: a1 :: a2 :: a3 :: AObj.cells (relV f ++ relV g) 0 false :: L)) := by
  have := zm1 [f, g] _ _ ((Rels.last2 (h ++ [a0, a1, a2, a3]) f g).more L) (by simp)
  simpa using this
theorem ye9 (h : Heap) (a0 a1 a2 a3 : AObj) (L : Heap) (f g : Nat → U) : DF FF zd0 [.slice (some ⟨h.length + 4, 0, some 0⟩) 2 32] (h ++ (a0 :: a1 :: a2 :: a3 :: AObj.cells (relV f ++ relV g) 0 false :: L)) = some (agg (relV (seqK [f, g])), h ++ (a0 :: a1 :: a2 :: a3 :: AObj.cells (relV f ++ relV g) 0 false :: L)) := by
  have := zpt [f, g] _ _ ((Rels.last2 (h ++ [a0, a1, a2, a3]) f g).more L) (by simp)
  simpa using this
theorem yf4 (h : Heap) (a0 a1 a2 a3 a4 a5 : AObj) (L : Heap) (f g : Nat → U) : DF FF zd0 [.slice (some ⟨h.length + 6, 0, some 0⟩) 2 32] (h ++ (a0 :: a1 :: a2 :: a3 :: a4 :: a5 :: AObj.cells (relV f ++ relV g) 0 false :: L)) = some (agg (relV (seqK [f, g])), h ++ (a0 :: a1 :: a2 :: a3 :: a4 :: a5 :: AObj.cells (relV f ++ relV g) 0 false :: L)) := by
  have := zpt [f, g] _ _ ((Rels.last2 (h ++ [a0, a1, a2, a3, a4, a5]) f g).more L) (by simp)
  simpa using this
theorem yaw (h : Heap) (a0 a1 a2 a3 a4 a5 a6 : AObj) (L : Heap) (f g : Nat → U) : DF FF f4 [.slice (some ⟨h.length + 7, 0, some 0⟩) 2 32] (h ++ (a0 :: a1 :: a2 :: a3 :: a4 :: a5 :: a6 :: AObj.cells (relV f ++ relV g) 0 false :: L)) = some (agg (relV (ft [f, g])), h ++ (a0 :: a1 :: a2 :: a3 :: a4 :: a5 :: a6 :: AObj.cells (relV f ++ relV g) 0 false :: L)) := by
  have := zgx [f, g] _ _ ((Rels.last2 (h ++ [a0, a1, a2, a3, a4, a5, a6]) f g).more L) (by simp)
  simpa using this
end Go.Proofs.YtljdbheclfaloaaGreatDoor.AM

namespace Go.Proofs.YtljdbheclfaloaaGreatDoor.AM
open Go.RowKit
set_option linter.unusedSimpArgs false
set_option linter.unusedVariables false

def ygr (r : Nat → U) : Nat → Nat → Bool := fun a b => (r a).getLsbD b
def zg2 (t : Nat → Nat → Bool) : Nat → Nat → Nat → Bool
  | 0 => t
  | k + 1 => fun a b => zg2 t k a b || (zg2 t k a k && zg2 t k k b)
end Go.Proofs.YtljdbheclfaloaaGreatDoor.AM

namespace Go.Proofs.YtljdbheclfaloaaGreatDoor.AM
open Go.RowKit
set_option linter.unusedSimpArgs false
set_option linter.unusedVariables false

theorem zmi (u : U) (r : Nat → U) (h : Heap) : DF FF zgh [.int .u32 u.toNat, agg (relV r)] h = some (agg (relV (ft [zbp r, idR u])), h) := by
  refine wh zv3 ?_
  simp only [znf, ya, xc, zb, yb, zm, zc, zp, zo, ze, zd, List.set_cons_succ, List.set_cons_zero, O_mv, yg, ye, List.map_cons, List.map_nil, xt, y5, vf, w7, yd, z8, xe, xf, List.cons_append, List.nil_append, List.length_cons, List.length_nil, Nat.reduceAdd, Nat.reduceSub, Nat.zero_add, zn, yc, za, slc, yp, w6, zl, yr, z6, qp, xn, jb, xd, yh, w8, ve, vk, zr, zh, zg, List.append_assoc, List.length_append, List.append_nil, Option.map_some, List.set_cons_zero, zfn, gg, qu, zba, eq_self, yf, zs, xr, ja, zgl, zht, zup]
theorem zlt (u : U) (r : Nat → U) (h : Heap) : DF FF zeh [.int .u32 u.toNat, agg (relV r)] h = some (agg (relV (ft [r, idR u])), h) := by
  refine wh zrk ?_
  simp only [zkw, ya, xc, zb, yb, zm, zc, zp, zo, ze, zd, List.set_cons_succ, List.set_cons_zero, O_mv, yg, ye, List.map_cons, List.map_nil, xt, y5, vf, w7, yd, z8, xe, xf, List.cons_append, List.nil_append, List.length_cons, List.length_nil, Nat.reduceAdd, Nat.reduceSub, Nat.zero_add, zn, yc, za, slc, yp, w6, zl, yr, z6, qp, xn, jb, xd, yh, w8, ve, vk, zr, zh, zg, List.append_assoc, List.length_append, List.append_nil, Option.map_some, List.set_cons_zero, zfn, gg, qu, zba, eq_self, yf, zs, zsf, zl1, xr, ja, zht, zup]
def zq3 (r : Nat → U) : Bool := zum (zgy [r, idR (BitVec.allOnes 32)])
theorem zd5 (r : Nat → U) (h : Heap) : DF FF pa [agg (relV r)] h = some (.bool (zq3 r), h) := by
  have key : ∀ H, DF FF zbx [.int .u32 4294967295] H = some (agg (relV (idR (BitVec.allOnes 32))), H) := fun H => zht (BitVec.allOnes 32) H
  refine wh zi6 ?_
  simp only [zdn, ya, xc, zb, yb, zm, zc, zp, zo, zf, ze, zd, List.set_cons_succ, List.set_cons_zero, O_mv, yg, ye, List.map_cons, List.map_nil, xt, y5, vf, w7, yd, z8, xe, xf, List.cons_append, List.nil_append, List.length_cons, List.length_nil, Nat.reduceSub, Nat.zero_add, zn, yc, za, slc, w6, xn, xd, zh, zg, List.append_assoc, List.length_append, List.append_nil, Option.map_some, List.set_cons_zero, zfn, eq_self, yf, zs, zsf, zl1, xr, ja, key, yeb, zk4]
  rw [zfk _ _ _ _ _ rfl]
  rfl
def ztl (r : Nat → U) : Bool := zq3 (zbp r)
theorem znv (r : Nat → U) (h : Heap) : DF FF zeb [agg (relV r)] h = some (.bool (ztl r), h) := by
  refine wh zo1 ?_
  simp only [zic, ya, xc, zb, yb, zm, zc, zo, zf, ze, zd, List.set_cons_succ, List.set_cons_zero, O_mv, yg, ye, List.map_cons, List.map_nil, xt, y5, List.cons_append, List.nil_append, List.length_cons, List.length_nil, Nat.reduceSub, Nat.zero_add, zn, yc, za, w6, xn, xd, zh, zg, Option.map_some, List.set_cons_zero, eq_self, yf, zs, xr, zgl, zd5]
  rw [zfk _ _ _ _ _ rfl]
  rfl
/-! Bits counted. -/
end Go.Proofs.YtljdbheclfaloaaGreatDoor.AM

namespace Go.Proofs.YtljdbheclfaloaaGreatDoor.AM
open Go.RowKit
set_option linter.unusedSimpArgs false
set_option linter.unusedVariables false

/-! Sets of events. -/
/-! Pairs. -/
end Go.Proofs.YtljdbheclfaloaaGreatDoor.AM

namespace Go.Proofs.YtljdbheclfaloaaGreatDoor.AM
open Go.RowKit
set_option linter.unusedSimpArgs false
set_option linter.unusedVariables false

abbrev Bt (r : Nat → U) (a b : Nat) : Prop := (r a).getLsbD b = true
theorem bool_iff {x y : Bool} : x = y ↔ (x = true ↔ y = true) := by cases x <;> cases y <;> simp
theorem zwu {f g : Nat → U} (h : ∀ a b, a < 32 → b < 32 → (Bt f a b ↔ Bt g a b)) : zf4 f g = true :=
  sameR_iff.2 fun k hk => yee fun i hi => bool_iff.2 (h k i hk hi)
theorem zxn {f g : Nat → U} (h : zf4 f g = true) {a : Nat} (ha : a < 32) (b : Nat) : Bt f a b ↔ Bt g a b := by
  unfold Bt; rw [sameR_iff.1 h a ha]
theorem zhh {i : Nat} (hi : i < 32) : (BitVec.allOnes 32).getLsbD i = true := by rw [BitVec.getLsbD_allOnes]; simp [hi]
theorem yc2 (s : U) (a : Nat) {b : Nat} (hb : b < 32) : Bt (idR s) a b ↔ s.getLsbD b = true ∧ b = a := by
  unfold Bt idR; rw [BitVec.getLsbD_and, yez hb, Bool.and_eq_true, decide_eq_true_eq]
theorem zyt (s t : U) (a b : Nat) : Bt (zll s t) a b ↔ s.getLsbD a = true ∧ t.getLsbD b = true := by
  unfold Bt zll; cases h : s.getLsbD a <;> simp
theorem zzi (f g : Nat → U) (a : Nat) {b : Nat} (hb : b < 32) : Bt (zmd f g) a b ↔ Bt f a b ∧ ¬ Bt g a b := by
  unfold Bt zmd; rw [BitVec.getLsbD_and, BitVec.getLsbD_not]; simp [hb]
theorem yal (rs : List (Nat → U)) (e : Nat) (x : U) (b : Nat) : ((rs.foldl (fun acc r => acc ||| r e) x).getLsbD b = true) ↔ (x.getLsbD b = true ∨ ∃ r ∈ rs, Bt r e b) := by
  induction rs generalizing x with
  | nil => simp
  | cons r rs ih =>
    rw [List.foldl_cons, ih, BitVec.getLsbD_or, Bool.or_eq_true]
    simp only [List.mem_cons, exists_eq_or_imp, or_assoc]
theorem zbi (rs : List (Nat → U)) (a b : Nat) : Bt (ft rs) a b ↔ ∃ r ∈ rs, Bt r a b := by
  unfold Bt ft; rw [yal]; simp
theorem zyr (rs : List (Nat → U)) (e : Nat) (x : U) (b : Nat) : ((rs.foldl (fun acc r => acc &&& r e) x).getLsbD b = true) ↔ (x.getLsbD b = true ∧ ∀ r ∈ rs, Bt r e b) := by
  induction rs generalizing x with
  | nil => simp
  | cons r rs ih =>
    rw [List.foldl_cons, ih, BitVec.getLsbD_and, Bool.and_eq_true]
    simp only [List.forall_mem_cons, and_assoc]
theorem ycc (rs : List (Nat → U)) {a b : Nat} (ha : a < 32) (hb : b < 32) : Bt (zgy rs) a b ↔ ∀ r ∈ rs, Bt r a b := by
  unfold Bt zgy; rw [zyr]
  have : Bt (zll (BitVec.allOnes 32) (BitVec.allOnes 32)) a b := (zyt _ _ a b).2 ⟨zhh ha, zhh hb⟩
  exact ⟨fun h => h.2, fun h => ⟨this, h⟩⟩
theorem zzk (s : U) (r : Nat → U) (k b : Nat) : (zi1 s r k).getLsbD b = true ↔ ∃ e, e < k ∧ s.getLsbD e = true ∧ Bt r e b := by
  induction k with
  | zero => simp [zi1]
  | succ k ih =>
    rw [zi1]
    constructor
    · intro h
      split at h
      · rename_i hs
        rw [BitVec.getLsbD_or, Bool.or_eq_true, ih] at h
        rcases h with ⟨e, he, h1, h2⟩ | h
        · exact ⟨e, by omega, h1, h2⟩
        · exact ⟨k, by omega, hs, h⟩
      · obtain ⟨e, he, h1, h2⟩ := ih.1 h
        exact ⟨e, by omega, h1, h2⟩
    · rintro ⟨e, he, h1, h2⟩
      by_cases hk : e = k
      · subst hk; rw [if_pos h1, BitVec.getLsbD_or, Bool.or_eq_true]; exact .inr h2
      · have := ih.2 ⟨e, by omega, h1, h2⟩
        split
        · rw [BitVec.getLsbD_or, this]; rfl
        · exact this
theorem yb7 (s : U) (r : Nat → U) (b : Nat) : (zy6 s r).getLsbD b = true ↔ ∃ e, e < 32 ∧ s.getLsbD e = true ∧ Bt r e b := zzk s r 32 b
theorem zob (f g : Nat → U) (a b : Nat) : Bt (twoR f g) a b ↔ ∃ e, e < 32 ∧ Bt f a e ∧ Bt g e b := yb7 _ _ _
theorem yfn (f : Nat → U) {a : Nat} (ha : a < 32) : twoR (idR (BitVec.allOnes 32)) f a = f a := by
  refine yee fun i hi => bool_iff.2 ?_
  rw [show ((twoR (idR (BitVec.allOnes 32)) f a).getLsbD i = true) = Bt (twoR (idR (BitVec.allOnes 32)) f) a i from rfl, zob]
  constructor
  · rintro ⟨e, he, h1, h2⟩
    rw [yc2 _ _ he] at h1
    rw [← h1.2]; exact h2
  · intro h
    exact ⟨a, ha, (yc2 _ _ ha).2 ⟨zhh ha, rfl⟩, h⟩
theorem zz3 {f f' g g' : Nat → U} {a : Nat} (ha : f a = f' a) (hg : ∀ e, e < 32 → g e = g' e) : twoR f g a = twoR f' g' a := by
  refine yee fun i hi => bool_iff.2 ?_
  rw [show ((twoR f g a).getLsbD i = true) = Bt (twoR f g) a i from rfl, show ((twoR f' g' a).getLsbD i = true) = Bt (twoR f' g') a i from rfl, zob, zob]
  unfold Bt
  rw [ha]
  exact ⟨fun ⟨e, he, h1, h2⟩ => ⟨e, he, h1, by rw [← hg e he]; exact h2⟩, fun ⟨e, he, h1, h2⟩ => ⟨e, he, h1, by rw [hg e he]; exact h2⟩⟩
theorem zgi (f g : Nat → U) {a : Nat} (ha : a < 32) (b : Nat) : Bt (seqK [f, g]) a b ↔ ∃ e, e < 32 ∧ Bt f a e ∧ Bt g e b := by
  have : seqK [f, g] a = twoR f g a := zz3 (yfn f ha) fun _ _ => rfl
  unfold Bt; rw [this]; exact zob f g a b
theorem yao (r : Nat → U) (k : Nat) (hk : k ≤ 32) (b : Nat) {a : Nat} (ha : a < 32) : Bt (invK r k) b a ↔ a < k ∧ Bt r a b := by
  induction k with
  | zero => simp [invK, Bt]
  | succ k ih =>
    have ih := ih (by omega)
    unfold Bt at ih ⊢
    rw [invK]
    simp only
    by_cases hc : (r k).getLsbD b = true
    · rw [if_pos hc, BitVec.getLsbD_or, Bool.or_eq_true, ih, yez ha, decide_eq_true_eq]
      constructor
      · rintro (⟨h1, h2⟩ | h)
        · exact ⟨by omega, h2⟩
        · subst h; exact ⟨by omega, hc⟩
      · rintro ⟨h1, h2⟩
        by_cases h : a = k
        · exact .inr h
        · exact .inl ⟨by omega, h2⟩
    · rw [if_neg hc, ih]
      constructor
      · rintro ⟨h1, h2⟩; exact ⟨by omega, h2⟩
      · rintro ⟨h1, h2⟩
        have : a ≠ k := by rintro rfl; exact hc h2
        exact ⟨by omega, h2⟩
theorem ydr (r : Nat → U) (b : Nat) {a : Nat} (ha : a < 32) : Bt (invR r) b a ↔ Bt r a b := by
  unfold invR; rw [yao r 32 (Nat.le_refl _) b ha]; simp [ha]
theorem zoi (r : Nat → U) (k : Nat) (hk : k ≤ 32) (a b : Nat) : (zd4 r k a).getLsbD b = zg2 (ygr r) k a b := by
  induction k generalizing a b with
  | zero => rfl
  | succ k ih =>
    have ih := ih (by omega)
    rw [zd4, zg2]
    simp only
    rw [← ih a b, ← ih a k, ← ih k b]
    split
    · rename_i h; rw [h, BitVec.getLsbD_or]; rfl
    · rename_i h; simp at h; rw [h]; simp

/-! The closure. -/
theorem yae (t : Nat → Nat → Bool) (k : Nat) {a b : Nat} (h : t a b = true) : zg2 t k a b = true := by
  induction k with
  | zero => exact h
  | succ k ih => rw [zg2]; simp only; rw [ih]; rfl
theorem zrv (t : Nat → Nat → Bool) (k : Nat) : ∀ a m b, m < k → zg2 t k a m = true → zg2 t k m b = true → zg2 t k a b = true := by
  induction k with
  | zero => intro a m b h; omega
  | succ k ih =>
    intro a m b hm h1 h2
    rw [zg2] at h1 h2 ⊢
    simp only [Bool.or_eq_true, Bool.and_eq_true] at h1 h2 ⊢
    by_cases e : m = k
    · subst e
      have g1 : zg2 t m a m = true := by
          rcases h1 with h | h
          · exact h
          · exact h.1
      have g2 : zg2 t m m b = true := by
          rcases h2 with h | h
          · exact h
          · exact h.2
      exact .inr ⟨g1, g2⟩
    · have hmk : m < k := by omega
      rcases h1 with h1 | ⟨h1, h1'⟩
      · rcases h2 with h2 | ⟨h2, h2'⟩
        · exact .inl (ih a m b hmk h1 h2)
        · exact .inr ⟨ih a m k hmk h1 h2, h2'⟩
      · rcases h2 with h2 | ⟨h2, h2'⟩
        · exact .inr ⟨h1, ih k m b hmk h1' h2⟩
        · exact .inr ⟨h1, h2'⟩
theorem zrw (t : Nat → Nat → Bool) (S : Nat → Nat → Prop) (hs : ∀ a b, t a b = true → S a b) (k : Nat) (ht : ∀ a m b, m < k → S a m → S m b → S a b) : ∀ a b, zg2 t k a b = true → S a b := by
  induction k with
  | zero => exact hs
  | succ k ih =>
    intro a b h
    have ih := ih fun a m b hm => ht a m b (by omega)
    rw [zg2] at h
    simp only [Bool.or_eq_true, Bool.and_eq_true] at h
    rcases h with h | ⟨h1, h2⟩
    · exact ih a b h
    · exact ht a k b (by omega) (ih a k h1) (ih k b h2)
theorem zn6 (r : Nat → U) {a b : Nat} (h : Bt r a b) : Bt (zbp r) a b := by
  unfold Bt zbp; rw [zoi r 32 (Nat.le_refl _)]; exact yae _ _ h
theorem ziq (r : Nat → U) {a m b : Nat} (hm : m < 32) (h1 : Bt (zbp r) a m) (h2 : Bt (zbp r) m b) : Bt (zbp r) a b := by
  unfold Bt zbp at *; rw [zoi r 32 (Nat.le_refl _)] at *; exact zrv _ _ a m b hm h1 h2
theorem ziz (r : Nat → U) (S : Nat → Nat → Prop) (hs : ∀ a b, Bt r a b → S a b) (ht : ∀ a m b, m < 32 → S a m → S m b → S a b) {a b : Nat} (h : Bt (zbp r) a b) : S a b := by
  unfold Bt zbp at h; rw [zoi r 32 (Nat.le_refl _)] at h
  exact zrw _ S hs 32 ht a b h
theorem yfa (x : U) : (((x.toNat : Int) == 0) : Bool) = (x == 0#32) := u_eq x 0#32
end Go.Proofs.YtljdbheclfaloaaGreatDoor.AM
namespace Go.Proofs.YtljdbheclfaloaaGreatDoor.AM
open Go.RowKit
set_option linter.unusedSimpArgs false
set_option linter.unusedVariables false
set_option maxRecDepth 20000

structure Vv where
  s : U
  r : Nat → U
def v0 : Vv := ⟨0#32, fun _ => 0#32⟩
abbrev En := List (Bys × Bool × Vv)
def vx (w : Bys) : En → Option (Bool × Vv)
  | [] => none
  | (k, b, v) :: r => if w == k then some (b, v) else vx w r
def evU (u : U) (o : Op1) (v : Vv) : Vv := match o with
  | .plus => ⟨0#32, zbp v.r⟩
  | .star => ⟨0#32, ft [zbp v.r, idR u]⟩
  | .maybe => ⟨0#32, ft [v.r, idR u]⟩
  | .inv => ⟨0#32, invR v.r⟩
def evB (o : Op2) (a b : Vv) : Vv := match o with
  | .or => ⟨a.s ||| b.s, ft [a.r, b.r]⟩
  | .and => ⟨a.s &&& b.s, zgy [a.r, b.r]⟩
  | .minus => ⟨a.s &&& ~~~ b.s, zmd a.r b.r⟩
  | .seq => ⟨0#32, seqK [a.r, b.r]⟩
  | .cross => ⟨0#32, zll a.s b.s⟩
def evE (u : U) (env : En) : Ex → Vv
  | .name _ _ w => ((vx w env).map (·.2)).getD v0
  | .zero _ => v0
  | .par _ _ e => evE u env e
  | .box _ e => ⟨0#32, idR (evE u env e).s⟩
  | .un o e => evU u o (evE u env e)
  | .bin _ o l r => evB o (evE u env l) (evE u env r)
def Typ (kn : Kn) : Ex → Prop
  | .name s _ w => jo kn w = some s
  | .zero _ => True
  | .par s _ e => s = e.set ∧ Typ kn e
  | .box _ e => e.set = true ∧ Typ kn e
  | .un _ e => e.set = false ∧ Typ kn e
  | .bin s o l r => Typ kn l ∧ Typ kn r ∧ (match o with | .seq => l.set = false ∧ r.set = false | .cross => l.set = true ∧ r.set = true | _ => s = l.set ∧ r.set = l.set)
theorem zeg {kn : Kn} {rc : List Bys} : ∀ {e e' : Ex} {rt : Bool}, chkE kn rc rt e = .ok e' → Typ kn e'
  | .name s a w, e', rt, h => by
    rw [chkE] at h
    split at h
    · cases h
    · rename_i t ht
      split at h
      · cases h
      · cases h; exact ht
  | .zero a, e', rt, h => by rw [chkE] at h; cases h; trivial
  | .par s a e, e', rt, h => by
    rw [chkE] at h
    split at h
    · cases h
    · rename_i x hx
      cases h; exact ⟨rfl, zeg hx⟩
  | .box a e, e', rt, h => by
    rw [chkE] at h
    split at h
    · cases h
    · rename_i x hx
      split at h
      · rename_i hs; cases h; exact ⟨hs, zeg hx⟩
      · cases h
  | .un o e, e', rt, h => by
    rw [chkE] at h
    split at h
    · cases h
    · rename_i x hx
      split at h
      · cases h
      · rename_i hs; cases h; exact ⟨by simpa using hs, zeg hx⟩
  | .bin s o l r, e', rt, h => by
    rw [chkE] at h
    cases hl : chkE kn rc rt l with
    | bad c a => rw [hl] at h; cases h
    | ok l' =>
      rw [hl] at h
      simp only at h
      cases hr : chkE kn rc (rt || o == .minus) r with
      | bad c a => rw [hr] at h; cases h
      | ok r' =>
        rw [hr] at h
        have tl := zeg hl
        have tr := zeg hr
        cases o
        case seq =>
          simp only at h
          split at h
          · cases h
          · split at h
            · cases h
            · rename_i h1 h2; cases h; exact ⟨tl, tr, by simpa using h1, by simpa using h2⟩
        case cross =>
          simp only at h
          split at h
          · cases h
          · split at h
            · cases h
            · rename_i h1 h2; cases h; exact ⟨tl, tr, by simpa using h1, by simpa using h2⟩
        all_goals
          simp only at h
          split at h
          · cases h
          · rename_i h1; cases h; exact ⟨tl, tr, rfl, by simpa using h1⟩

/-! Bounds in memory. -/
def w4 (nm : Bys) (st : Bool) (v : Vv) : List Value := str nm :: .bool st :: .int .u32 (v.s.toNat : Int) :: relV v.r
theorem jp (nm : Bys) (st : Bool) (v : Vv) : (w4 nm st v).length = 35 := by simp [w4, xr]
theorem bd_0 (nm : Bys) (st : Bool) (v : Vv) : (w4 nm st v)[0]? = some (str nm) := rfl
theorem bd_1 (nm : Bys) (st : Bool) (v : Vv) : (w4 nm st v)[1]? = some (.bool st) := rfl
theorem bd_2 (nm : Bys) (st : Bool) (v : Vv) : (w4 nm st v)[2]? = some (.int .u32 (v.s.toNat : Int)) := rfl
theorem zya (nm : Bys) (st : Bool) (v : Vv) : ((w4 nm st v).drop 3).take 32 = relV v.r := by
  show (relV v.r).take 32 = relV v.r
  exact List.take_of_length_le (by rw [xr]; exact Nat.le_refl _)
theorem zus (nm : Bys) (st : Bool) (v : Vv) : (w4 nm st v).all plain1 = true := by
  have := znd v.r
  unfold w4
  rw [List.all_cons, List.all_cons, List.all_cons, this]; rfl
theorem f6 : (str [] :: .bool false :: List.replicate 33 (.int .u32 0) : List Value) = w4 [] false v0 := by
  unfold w4
  rw [show List.replicate 33 (Value.int .u32 0) = .int .u32 0 :: List.replicate 32 (.int .u32 0) from rfl, ja]; rfl
theorem zhd (nm nm' : Bys) (st : Bool) (v : Vv) : (w4 nm st v).set 0 (str nm') = w4 nm' st v := rfl
theorem zdf (nm : Bys) (st st' : Bool) (v : Vv) : (w4 nm st v).set 1 (.bool st') = w4 nm st' v := rfl
theorem zy7 (nm : Bys) (st : Bool) (v : Vv) (x : U) : (w4 nm st v).set 2 (.int .u32 (x.toNat : Int)) = w4 nm st ⟨x, v.r⟩ := rfl
theorem ya4 (nm : Bys) (st : Bool) (v : Vv) (L : Heap) : Heap.read (.cells (w4 nm st v) 0 false :: L) ⟨0, 3, some 0⟩ 32 = some (relV v.r) := by
  simp only [Heap.read, List.getElem?_cons_zero]
  rw [if_pos ⟨trivial, by rw [jp]; decide⟩, zya]
theorem ya8 (nm : Bys) (st : Bool) (v : Vv) (r : Nat → U) (L : Heap) : Heap.write (.cells (w4 nm st v) 0 false :: L) ⟨0, 3, some 0⟩ (relV r) = some (.cells (w4 nm st ⟨v.s, r⟩) 0 false :: L) := by
  simp only [Heap.write, List.getElem?_cons_zero, List.set_cons_zero]
  rw [if_pos ⟨trivial, by rw [jp, xr]; decide⟩]
  have : splice (w4 nm st v) 3 (relV r) = w4 nm st ⟨v.s, r⟩ := by
    unfold splice
    rw [xr]
    show (str nm :: .bool st :: .int .u32 (v.s.toNat : Int) :: ([] ++ relV r ++ (relV v.r).drop 32)) = _
    rw [List.drop_eq_nil_of_le (by rw [xr]; exact Nat.le_refl _)]
    simp [w4]
  rw [this]
theorem zhc (h L : Heap) (nm : Bys) (st : Bool) (v : Vv) : outE h (h ++ L) (some (w4 nm st v)) = some (agg (w4 nm st v), h) := zm3 h L (zus nm st v)
theorem zwf (f g : Nat → U) : za7 (List.replicate 32 .int) (relV f) (relV g) = some (zf4 f g) := by
  have := zqy (zbr 32 f) (zbr 32 g) (by rw [bh, bh])
  rw [bh] at this
  have e : ∀ f : Nat → U, (zbr 32 f).map (fun x => Value.int .u32 (x.toNat : Int)) = relV f := fun f => by unfold relV zbr; rw [List.map_map]; rfl
  rw [e, e] at this
  exact this
def zvi (a b : Vv) : Bool := a.s == b.s && zf4 a.r b.r
theorem ybe (a b : Bys) : jf .str (str a) (str b) = some (a == b) := by
  show some ((⟨a.toArray⟩ : ByteArray) == ⟨b.toArray⟩) = _
  rw [zkb]
theorem ygg (h : Heap) (neg : Bool) (n1 n2 : Bys) (s1 s2 : Bool) (v1 v2 : Vv) : zm7 h neg (.str :: .bool :: .int :: List.replicate 32 .int) (agg (w4 n1 s1 v1)) (agg (w4 n2 s2 v2)) = some (.bool ((n1 == n2 && (s1 == s2 && zvi v1 v2)) != neg), h) := by
  refine zmf h (by rw [jp]; simp) (by rw [jp]; simp) ?_
  unfold w4 zvi
  rw [za7, ybe]
  cases h1 : n1 == n2
  · simp
  · simp only [Bool.true_and]
    rw [za7]
    simp only [jf]
    cases h2 : s1 == s2
    · simp
    · simp only [Bool.true_and]
      rw [za7]
      simp only [jf, if_true]
      rw [u_eq]
      cases h3 : v1.s == v2.s
      · simp
      · simp only [Bool.true_and]
        exact zwf _ _
end Go.Proofs.YtljdbheclfaloaaGreatDoor.AM
namespace Go.Proofs.YtljdbheclfaloaaGreatDoor.AM
open Go.RowKit
set_option linter.unusedSimpArgs false
set_option linter.unusedVariables false
set_option maxRecDepth 20000

/-! Names' values in memory. -/
def enE (env : En) : List (Value × Value) := env.map fun p => (str p.1, agg (w4 p.1 p.2.1 p.2.2))
theorem zsj (env : En) (w : Bys) : findKey .str (str w) (enE env) = some ((vx w env).map fun p => agg (w4 w p.1 p.2)) := by
  induction env with
  | nil => rfl
  | cons p r ih =>
    obtain ⟨k, b, v⟩ := p
    show findKey .str (str w) ((str k, agg (w4 k b v)) :: enE r) = _
    rw [findKey, zms, vx]
    cases h : w == k
    · simpa using ih
    · have : w = k := eq_of_beq h
      subst this
      simp
def setE (w : Bys) (b : Bool) (v : Vv) : En → En
  | [] => [(w, b, v)]
  | (k, c, x) :: r => if w == k then (w, b, v) :: r else (k, c, x) :: setE w b v r
theorem ydb (w : Bys) (b : Bool) (v : Vv) (env : En) : pm .str (str w) (agg (w4 w b v)) (enE env) = some (enE (setE w b v env)) := by
  induction env with
  | nil => rfl
  | cons p r ih =>
    obtain ⟨k, c, x⟩ := p
    show pm .str (str w) (agg (w4 w b v)) ((str k, agg (w4 k c x)) :: enE r) = _
    rw [pm, zms, setE]
    cases h : w == k
    · simp only [enE] at ih ⊢; simp [ih]
    · have : w = k := eq_of_beq h
      subst this
      simp [enE]
def kdE (env : En) : Ex → Bool
  | .name _ _ w => ((vx w env).map (·.1)).getD false
  | .zero _ => false
  | .par _ _ e => kdE env e
  | .box _ _ => false
  | .un _ _ => false
  | .bin s _ _ _ => s
def nmE (env : En) : Ex → Bys
  | .name _ _ w => ((vx w env).map fun _ => w).getD []
  | .par _ _ e => nmE env e
  | _ => []
structure Wd (h : Heap) (q km : Nat) (u : U) (env : En) : Prop where
  hq : h[q]? = some (.cells [.int .u32 (u.toNat : Int), .map (some km)] 0 false)
  hk : h[km]? = some (.map (enE env))
theorem Wd.more {h : Heap} {q km : Nat} {u : U} {env : En} (W : Wd h q km u env) (L : Heap) : Wd (h ++ L) q km u env := ⟨y6 L W.hq, y6 L W.hk⟩
def ze2 (u : U) (env : En) (e : Ex) : Prop := ∀ (h : Heap) (q km : Nat) (S : Nat → Prop) (v : Value), Wd h q km u env → TreeP h S v e →
  DF FF v6 [pt q, v] h = some (agg (w4 (nmE env e) (kdE env e) (evE u env e)), h)
set_option maxHeartbeats 4000000 in
theorem zvt (u : U) (env : En) (s : Bool) (a : Nat) (w : Bys) : ze2 u env (.name s a w) := by
  intro h q km S v W tr
  obtain ⟨b, rfl, hbS, hbo⟩ := tr
  refine wh gj ?_
  have rb : ∀ L j, Heap.read1 (h ++ L) ⟨b, j, some 0⟩ = (vm zf0 w a nilP nilP s)[j]? := fun L j => x8 (y6 L hbo)
  have rq : ∀ L j, Heap.read1 (h ++ L) ⟨q, j, some 0⟩ = ([.int .u32 (u.toNat : Int), .map (some km)] : List Value)[j]? := fun L j => x8 (W.more L).hq
  have lk : ∀ L, znn (h ++ L) .str (agg (w4 [] false v0)) false (.map (some km)) (str w) = _ := fun L => zfb _ (W.more L).hk (agg (w4 [] false v0)) false (w := w) (zsj env w)
  cases hl : vx w env with
  | none =>
    simp only [hl, Option.map_none, zg1, Bool.false_eq_true, if_false] at lk
    simp only [evE, kdE, nmE, hl, Option.map_none, Option.getD_none]
    simp only [jj, ya, zt, xc, ym, zb, zz, zw, yb, zm, zc, zp, zo, zf, ze, zd, List.set_cons_succ, List.set_cons_zero, O_mv, yy, yg, zx, zk, x9, y7, yd, z8, yx, bf, Nat.reduceLT, List.cons_append, List.nil_append, List.length_cons, List.length_nil, Nat.reduceAdd, Nat.reduceSub, Nat.zero_add, Bool.not_true, zn, yc, zy, za, y9, wd, yp, xa, z7, zl, yr, z6, zq, zj, xn, xd, yh, w8, ve, zu, vk, zr, zh, zg, List.append_assoc, List.length_append, Nat.add_zero, List.getElem?_cons_zero, List.getElem?_cons_succ, Bool.bne_true, beq_self_eq_true, jw, eq_self, yj, va, gg, qu, ja, f6, jp, zdf, zhc, rb, rq, jg, zg7, q9, q8, zbm, gf, lk, po, xp, zf0]
  | some p =>
    simp only [hl, Option.map_some, zg1, Bool.false_eq_true, if_false] at lk
    simp only [evE, kdE, nmE, hl, Option.map_some, Option.getD_some]
    simp only [jj, ya, zt, xc, ym, zb, zz, zw, yb, zm, zc, zp, zo, zf, ze, zd, List.set_cons_succ, List.set_cons_zero, O_mv, yy, yg, zx, zk, x9, y7, yd, z8, yx, bf, Nat.reduceLT, List.cons_append, List.nil_append, List.length_cons, List.length_nil, Nat.reduceAdd, Nat.reduceSub, Nat.zero_add, Bool.not_true, zn, yc, zy, za, y9, wd, yp, xa, z7, zl, yr, z6, zq, zj, xn, xd, yh, w8, ve, zu, vk, zr, zh, zg, List.append_assoc, List.length_append, Nat.add_zero, List.getElem?_cons_zero, List.getElem?_cons_succ, Bool.bne_true, beq_self_eq_true, jw, eq_self, yj, va, gg, qu, ja, f6, jp, zdf, zhc, rb, rq, jg, zg7, q9, q8, zbm, gf, lk, po, xp, zf0]
set_option maxHeartbeats 4000000 in
theorem zu0 (u : U) (env : En) (a : Nat) : ze2 u env (.zero a) := by
  intro h q km S v W tr
  obtain ⟨b, rfl, hbS, hbo⟩ := tr
  refine wh gj ?_
  have rb : ∀ L j, Heap.read1 (h ++ L) ⟨b, j, some 0⟩ = (vm [48] [] a nilP nilP false)[j]? := fun L j => x8 (y6 L hbo)
  have rq : ∀ L j, Heap.read1 (h ++ L) ⟨q, j, some 0⟩ = ([.int .u32 (u.toNat : Int), .map (some km)] : List Value)[j]? := fun L j => x8 (W.more L).hq
  simp only [jj, ya, zt, xc, ym, zb, zw, yb, zm, zc, zp, zo, zf, ze, zd, List.set_cons_succ, List.set_cons_zero, O_mv, yy, yg, zx, zk, xt, y5, x9, y7, yd, z8, yx, bf, Nat.reduceLT, List.cons_append, List.nil_append, List.length_cons, List.length_nil, Nat.reduceAdd, Nat.reduceSub, Nat.zero_add, Bool.not_true, zn, yc, zy, za, zi, yp, xa, z7, zl, yr, z6, zq, zj, qp, xn, jb, xd, yh, w8, ve, zu, vk, zr, zh, zg, List.append_assoc, List.length_append, Nat.add_zero, Option.map_some, Bool.bne_true, jw, eq_self, yj, va, gg, qu, ja, f6, jp, zdf, zhc, rb, jg, q9, q8, zbm, po, xp, zs5, zri, zsy, zsi, zre, zq4, zrt, zry, zrm, zsx, zn8, zoc]
  rfl
set_option maxHeartbeats 8000000 in
theorem zzy (u : U) (env : En) (s : Bool) (a : Nat) (e : Ex) (ih : ze2 u env e) : ze2 u env (.par s a e) := by
  intro h q km S v W tr
  obtain ⟨b, S', x, rfl, hbS, hbo, tx, -⟩ := tr
  have q1 := fun L => ih (h ++ L) q km S' x (W.more L) (tx.keep fun _ _ _ ho => y6 L ho)
  refine wh gj ?_
  have rb : ∀ L j, Heap.read1 (h ++ L) ⟨b, j, some 0⟩ = (vm [40] [] a x nilP s)[j]? := fun L j => x8 (y6 L hbo)
  have rq : ∀ L j, Heap.read1 (h ++ L) ⟨q, j, some 0⟩ = ([.int .u32 (u.toNat : Int), .map (some km)] : List Value)[j]? := fun L j => x8 (W.more L).hq
  obtain ⟨bx, op', w', p', r', hxb, _, _⟩ := tx.root
  subst hxb
  simp only [jj, ya, zt, xc, ym, zb, zz, zw, yb, zm, zc, zp, zo, zf, ze, zd, List.set_cons_succ, List.set_cons_zero, O_mv, yy, yg, ye, List.map_cons, List.map_nil, zx, zk, xt, y5, x9, y7, yd, z8, yx, bf, Nat.reduceLT, List.cons_append, List.nil_append, List.length_cons, List.length_nil, Nat.reduceAdd, Nat.reduceSub, Nat.zero_add, Bool.not_true, Bool.not_false, zn, yc, zy, za, y9, wd, yp, xa, z7, zl, yr, z6, zq, zj, qp, xn, jb, xd, yh, w8, ve, zu, vk, zr, zh, zg, List.append_assoc, List.length_append, Nat.add_zero, Option.map_some, Bool.bne_true, beq_self_eq_true, jw, eq_self, yj, va, gg, qu, ja, f6, jp, zdf, zhc, rb, jg, q9, q8, zbm, po, xm, xp, zw1, q1]
  rfl
set_option maxHeartbeats 8000000 in
theorem zzt (u : U) (env : En) (a : Nat) (e : Ex) (ih : ze2 u env e) : ze2 u env (.box a e) := by
  intro h q km S v W tr
  obtain ⟨b, S', x, rfl, hbS, hbo, tx, -⟩ := tr
  have q1 := fun L => ih (h ++ L) q km S' x (W.more L) (tx.keep fun _ _ _ ho => y6 L ho)
  refine wh gj ?_
  have rb : ∀ L j, Heap.read1 (h ++ L) ⟨b, j, some 0⟩ = (vm [91] [] a x nilP false)[j]? := fun L j => x8 (y6 L hbo)
  have rq : ∀ L j, Heap.read1 (h ++ L) ⟨q, j, some 0⟩ = ([.int .u32 (u.toNat : Int), .map (some km)] : List Value)[j]? := fun L j => x8 (W.more L).hq
  obtain ⟨bx, op', w', p', r', hxb, _, _⟩ := tx.root
  subst hxb
  simp only [jj, ya, zt, xc, ym, zb, zz, zw, yb, zm, zc, zp, zo, zf, ze, zd, List.set_cons_succ, List.set_cons_zero, O_mv, yy, yg, ye, List.map_cons, List.map_nil, zx, zk, xt, y5, x9, y7, yd, z8, yx, bf, Nat.reduceLT, List.cons_append, List.nil_append, List.length_cons, List.length_nil, Nat.reduceAdd, Nat.reduceSub, Nat.zero_add, Bool.not_true, Bool.not_false, zn, yc, zy, za, zi, yp, xa, z7, zl, yr, z6, zq, zj, fk, bk, yo, qp, xn, jb, xd, yh, w8, ve, zu, vk, zr, zh, zg, List.append_assoc, List.length_append, Nat.add_zero, Option.map_some, Bool.bne_true, beq_self_eq_true, jw, eq_self, yj, va, gg, qu, ja, xr, f6, jp, bd_2, zdf, ya8, zhc, rb, jg, q9, q8, zbm, po, xm, xp, zph, zp7, zpf, zmz, zqo, zqx, yfv, q1, zht]
  rfl
set_option maxHeartbeats 8000000 in
theorem yab (u : U) (env : En) (o : Op1) (e : Ex) (ih : ze2 u env e) : ze2 u env (.un o e) := by
  intro h q km S v W tr
  obtain ⟨b, S', x, rfl, hbS, hbo, tx, -⟩ := tr
  have q1 := fun L => ih (h ++ L) q km S' x (W.more L) (tx.keep fun _ _ _ ho => y6 L ho)
  refine wh gj ?_
  have rb : ∀ L j, Heap.read1 (h ++ L) ⟨b, j, some 0⟩ = (vm (op1S o) [] e.pl x nilP false)[j]? := fun L j => x8 (y6 L hbo)
  have rq : ∀ L j, Heap.read1 (h ++ L) ⟨q, j, some 0⟩ = ([.int .u32 (u.toNat : Int), .map (some km)] : List Value)[j]? := fun L j => x8 (W.more L).hq
  obtain ⟨bx, op', w', p', r', hxb, _, _⟩ := tx.root
  subst hxb
  cases o
  all_goals
    simp only [jj, ya, zt, xc, ym, zb, zz, zw, yb, zm, zc, zp, zo, zf, ze, zd, List.set_cons_succ, List.set_cons_zero, O_mv, yy, yg, ye, List.map_cons, List.map_nil, zx, zk, xt, y5, x9, y7, yd, z8, yx, bf, Nat.reduceLT, List.cons_append, List.nil_append, List.length_cons, List.length_nil, Nat.reduceAdd, Nat.reduceSub, Nat.zero_add, Bool.not_true, Bool.not_false, zn, yc, zy, za, zi, yp, xa, z7, zl, yr, z6, zq, zj, qp, xn, jb, xd, yh, w8, ve, zu, vk, zr, zh, zg, List.append_assoc, List.length_append, Nat.add_zero, Option.map_some, List.getElem?_cons_zero, Bool.bne_true, beq_self_eq_true, jw, eq_self, yj, va, gg, qu, ja, xr, f6, jp, zdf, ya4, ya8, zhc, rb, rq, jg, q9, q8, zbm, po, xm, xp, op1S, zxp, zy0, zxa, zuo, zx9, zwt, zxo, zxq, zxv, zwx, zwb, ztx, zzb, zy5, zxw, zwc, zzx, zrr, zq5, zs1, znz, zsh, zrc, zsq, zrd, zr8, zs9, zs0, zrx, zr2, zod, zsk, zrz, zr9, zta, zr3, zru, znt, q1, zgl, zmi, zlt, zn9]
    rfl
set_option maxHeartbeats 8000000 in
theorem zy3 (u : U) (env : En) (s : Bool) (o : Op2) (l r : Ex) (ihl : ze2 u env l) (ihr : ze2 u env r) : ze2 u env (.bin s o l r) := by
  intro h q km S v W tr
  obtain ⟨b, S1, S2, xv, yv, rfl, hbS, hbo, tx, ty, hs1, hs2⟩ := tr
  have q1 := fun L => ihl (h ++ L) q km S1 xv (W.more L) (tx.keep fun _ _ _ ho => y6 L ho)
  have q2 := fun L => ihr (h ++ L) q km S2 yv (W.more L) (ty.keep fun _ _ _ ho => y6 L ho)
  refine wh gj ?_
  have rb : ∀ L j, Heap.read1 (h ++ L) ⟨b, j, some 0⟩ = (vm (op2S o) [] l.pl xv yv s)[j]? := fun L j => x8 (y6 L hbo)
  have rq : ∀ L j, Heap.read1 (h ++ L) ⟨q, j, some 0⟩ = ([.int .u32 (u.toNat : Int), .map (some km)] : List Value)[j]? := fun L j => x8 (W.more L).hq
  obtain ⟨bx, _, _, _, _, hxb, _, _⟩ := tx.root
  subst hxb
  obtain ⟨by_, _, _, _, _, hyb, _, _⟩ := ty.root
  subst hyb
  cases o
  all_goals
    simp only [jj, ya, zt, xc, zb, zz, zw, yb, zm, zc, zp, zo, zf, ze, zd, List.set_cons_succ, List.set_cons_zero, O_mv, yy, yg, ye, List.map_cons, List.map_nil, zx, zk, xt, y5, vf, x9, w7, y7, yd, z8, xe, xf, yx, bf, Nat.reduceLT, ztr, zwn, zpb, List.cons_append, List.nil_append, List.length_cons, List.length_nil, Nat.reduceAdd, Nat.reduceSub, Nat.zero_add, Bool.not_false, zn, yc, zy, za, zi, slc, yp, xa, z7, zl, xb, xz, yr, z6, zq, zj, fk, bk, yo, qp, xn, jb, xd, yh, w8, ba, b5, vo, ve, zu, vk, zr, zh, zg, List.append_assoc, List.length_append, List.append_nil, Nat.add_zero, Option.map_some, zv1, Bool.bne_true, beq_self_eq_true, jw, eq_self, zcw, yj, va, gg, qu, u_or, yai, zt5, zfn, ja, xr, f6, jp, bd_2, zdf, zy7, ya4, ya8, zhc, rb, jg, q9, q8, zbm, xm, xp, op2S, ycs, yf0, yde, ycw, yfs, ycr, ycq, yco, ye3, yc0, ydf, ydj, zut, yfw, yc5, ycy, ydh, ztd, yda, yfj, q1, q2, zsz, zk0, ya1, yd3, ye9]
    rfl
theorem zfh (u : U) (env : En) : ∀ e, ze2 u env e
  | .name s a w => zvt u env s a w
  | .zero a => zu0 u env a
  | .par s a e => zzy u env s a e (zfh u env e)
  | .box a e => zzt u env a e (zfh u env e)
  | .un o e => yab u env o e (zfh u env e)
  | .bin s o l r => zy3 u env s o l r (zfh u env l) (zfh u env r)
end Go.Proofs.YtljdbheclfaloaaGreatDoor.AM
namespace Go.Proofs.YtljdbheclfaloaaGreatDoor.AM
open Go.RowKit
set_option linter.unusedSimpArgs false
set_option linter.unusedVariables false
set_option maxRecDepth 20000

theorem xh (w k : Bys) (b : Bool) (v : Vv) : ∀ env : En, vx w (setE k b v env) = if w == k then some (b, v) else vx w env
  | [] => by simp only [setE, vx]
  | (c, d, x) :: r => by
    rw [setE]
    by_cases h : k = c
    · subst h
      rw [if_pos (by simp), vx, vx]
      cases w == k <;> rfl
    · rw [if_neg (by simpa using h), vx, vx, xh w k b v r]
      by_cases h2 : w = c
      · subst h2
        have e1 : (w == w) = true := by simp
        have e2 : (w == k) = false := by simpa using fun e => h e.symm
        rw [e1, e2]; rfl
      · have e1 : (w == c) = false := by simpa using h2
        rw [e1]; cases w == k <;> rfl
def chg (o : Option (Bool × Vv)) (st : Bool) (v : Vv) : Bool := match o with
  | none => true
  | some (b, x) => !(b == st && zvi x v)
def zdv (u : U) (p : En × Bool) (g : Gv) : En × Bool := (setE g.name g.e.set (evE u p.1 g.e) p.1, p.2 || chg (vx g.name p.1) g.e.set (evE u p.1 g.e))
def zca (u : U) (gs : List Gv) (env : En) : En × Bool := gs.foldl (zdv u) (env, false)
def recN (u : U) (gs : List Gv) : Nat → En → En
  | 0, env => env
  | n + 1, env => if (zca u gs env).2 then recN u gs n (zca u gs env).1 else (zca u gs env).1
def Ends (u : U) (gs : List Gv) : Nat → En → Prop
  | 0, _ => False
  | n + 1, env => (zca u gs env).2 = false ∨ ((zca u gs env).2 = true ∧ Ends u gs n (zca u gs env).1)
def zdm (gs : List Gv) (env : En) : En := gs.foldl (fun en g => setE g.name false v0 en) env
def yah (u : U) (gs : List Gv) (env : En) : En := gs.foldl (fun en g => setE g.name g.e.set (evE u env g.e) en) env
def recK (gs : List Gv) : Nat := gs.length * 1024 + 1
def doE (u : U) (env : En) : Stm → En
  | .lets false gs => yah u gs env
  | .lets true gs => recN u gs (recK gs) (zdm gs env)
  | .chk _ _ _ => env
def zz8 (u : U) (env : En) (k : Ck) (x : Ex) : Bool := match k with
  | .acyclic => ztl (evE u env x).r
  | .irr => zq3 (evE u env x).r
  | .empty => (evE u env x).s == 0#32 && zum (evE u env x).r
def zx8 (u : U) (env : En) : Stm → Bool
  | .lets _ _ => true
  | .chk k x _ => zz8 u env k x
def zvg : Stm → Bys
  | .lets _ _ => []
  | .chk _ _ a => a
def envM (u : U) (env : En) (l : List Stm) : En := l.foldl (doE u) env
def zgs (u : U) : En → List Stm → Option Bys
  | _, [] => none
  | env, s :: l => if zx8 u env s then zgs u (doE u env s) l else some (zvg s)

/-! Relations within relations. -/
def leR (a b : Nat → U) : Prop := ∀ i j, i < 32 → j < 32 → Bt a i j → Bt b i j
theorem leR.refl (a : Nat → U) : leR a a := fun _ _ _ _ h => h
theorem leR.trans {a b c : Nat → U} (h : leR a b) (k : leR b c) : leR a c := fun i j hi hj x => k i j hi hj (h i j hi hj x)
theorem zef (a : Nat → U) : leR (fun _ => 0#32) a := fun i j _ _ h => by unfold Bt at h; simp at h
theorem zd1 {a b a' b' : Nat → U} (h : leR a a') (k : leR b b') : leR (ft [a, b]) (ft [a', b']) := fun i j hi hj x => by
  rw [zbi] at x ⊢
  obtain ⟨r, hr, hx⟩ := x
  simp only [List.mem_cons, List.not_mem_nil, or_false] at hr
  rcases hr with rfl | rfl
  · exact ⟨a', by simp, h i j hi hj hx⟩
  · exact ⟨b', by simp, k i j hi hj hx⟩
theorem zty {a b a' b' : Nat → U} (h : leR a a') (k : leR b b') : leR (zgy [a, b]) (zgy [a', b']) := fun i j hi hj x => by
  rw [ycc _ hi hj] at x ⊢
  intro r hr
  simp only [List.mem_cons, List.not_mem_nil, or_false] at hr
  rcases hr with rfl | rfl
  · exact h i j hi hj (x a (by simp))
  · exact k i j hi hj (x b (by simp))
theorem zqk {a b a' b' : Nat → U} (h : leR a a') (k : leR b' b) : leR (zmd a b) (zmd a' b') := fun i j hi hj x => by
  rw [zzi _ _ _ hj] at x ⊢
  exact ⟨h i j hi hj x.1, fun y => x.2 (k i j hi hj y)⟩
theorem zw3 {a b a' b' : Nat → U} (h : leR a a') (k : leR b b') : leR (seqK [a, b]) (seqK [a', b']) := fun i j hi hj x => by
  rw [zgi _ _ hi] at x ⊢
  obtain ⟨e, he, x1, x2⟩ := x
  exact ⟨e, he, h i e hi he x1, k e j he hj x2⟩
theorem zj3 {a a' : Nat → U} (h : leR a a') : leR (zbp a) (zbp a') := fun i j hi hj x =>
  ziz a (fun i j => i < 32 → j < 32 → Bt (zbp a') i j) (fun i j x hi hj => zn6 a' (h i j hi hj x)) (fun i m j hm x y hi hj => ziq a' hm (x hi hm) (y hm hj)) x hi hj
theorem zxr {a a' : Nat → U} (h : leR a a') : leR (invR a) (invR a') := fun i j hi hj x => by
  rw [ydr _ _ hj] at x ⊢
  exact h j i hj hi x

/-! What an expression stands for grows with its names. -/
def NoR (rc : List Bys) : Bool → Ex → Prop
  | rt, .name _ _ w => rt = true → w ∉ rc
  | _, .zero _ => True
  | rt, .par _ _ e => NoR rc rt e
  | rt, .box _ e => NoR rc rt e
  | rt, .un _ e => NoR rc rt e
  | rt, .bin _ o l r => NoR rc rt l ∧ NoR rc (rt || o == .minus) r
def LeE (rc : List Bys) (env env' : En) : Prop := ∀ w, (vx w env = none ∧ vx w env' = none) ∨ ∃ b v v', vx w env = some (b, v) ∧ vx w env' = some (b, v') ∧ v.s = v'.s ∧ leR v.r v'.r ∧ (w ∉ rc → leR v'.r v.r)
theorem LeE.refl (rc : List Bys) (env : En) : LeE rc env env := fun w => by
  cases h : vx w env with
  | none => exact .inl ⟨rfl, rfl⟩
  | some p => exact .inr ⟨p.1, p.2, p.2, rfl, rfl, rfl, leR.refl _, fun _ => leR.refl _⟩
theorem LeE.trans {rc : List Bys} {a b c : En} (h : LeE rc a b) (k : LeE rc b c) : LeE rc a c := fun w => by
  rcases h w with ⟨h1, h2⟩ | ⟨x, v, v', h1, h2, h3, h4, h5⟩
  · rcases k w with ⟨k1, k2⟩ | ⟨y, u, u', k1, k2, k3, k4, k5⟩
    · exact .inl ⟨h1, k2⟩
    · rw [h2] at k1; cases k1
  · rcases k w with ⟨k1, k2⟩ | ⟨y, u, u', k1, k2, k3, k4, k5⟩
    · rw [h2] at k1; cases k1
    · rw [h2] at k1; cases k1
      exact .inr ⟨x, v, u', h1, k2, h3.trans k3, h4.trans k4, fun hw => (k5 hw).trans (h5 hw)⟩
theorem zec (u : U) {rc : List Bys} {env env' : En} (L : LeE rc env env') : ∀ (e : Ex) (rt : Bool), NoR rc rt e → (evE u env e).s = (evE u env' e).s ∧ leR (evE u env e).r (evE u env' e).r ∧ (rt = true → leR (evE u env' e).r (evE u env e).r)
  | .name s a w, rt, n => by
    rcases L w with ⟨h1, h2⟩ | ⟨x, v, v', h1, h2, h3, h4, h5⟩
    · simp only [evE, h1, h2]; exact ⟨trivial, leR.refl _, fun _ => leR.refl _⟩
    · simp only [evE, h1, h2, Option.map_some, Option.getD_some]; exact ⟨h3, h4, fun h => h5 (n h)⟩
  | .zero a, rt, n => ⟨rfl, leR.refl _, fun _ => leR.refl _⟩
  | .par s a e, rt, n => zec u L e rt n
  | .box a e, rt, n => by
    obtain ⟨h1, h2, h3⟩ := zec u L e rt n
    simp only [evE, h1]; exact ⟨trivial, leR.refl _, fun _ => leR.refl _⟩
  | .un o e, rt, n => by
    obtain ⟨h1, h2, h3⟩ := zec u L e rt n
    cases o <;> simp only [evE, evU]
    · exact ⟨trivial, zj3 h2, fun h => zj3 (h3 h)⟩
    · exact ⟨trivial, zd1 (zj3 h2) (leR.refl _), fun h => zd1 (zj3 (h3 h)) (leR.refl _)⟩
    · exact ⟨trivial, zd1 h2 (leR.refl _), fun h => zd1 (h3 h) (leR.refl _)⟩
    · exact ⟨trivial, zxr h2, fun h => zxr (h3 h)⟩
  | .bin s o l r, rt, n => by
    obtain ⟨h1, h2, h3⟩ := zec u L l rt n.1
    obtain ⟨k1, k2, k3⟩ := zec u L r _ n.2
    cases o <;> simp only [evE, evB, h1, k1]
    · exact ⟨trivial, zd1 h2 k2, fun h => zd1 (h3 h) (k3 (by simp [h]))⟩
    · exact ⟨trivial, zty h2 k2, fun h => zty (h3 h) (k3 (by simp [h]))⟩
    · exact ⟨trivial, zqk h2 (k3 (by simp)), fun h => zqk (h3 h) k2⟩
    · exact ⟨trivial, zw3 h2 k2, fun h => zw3 (h3 h) (k3 (by simp [h]))⟩
    · exact ⟨trivial, leR.refl _, fun _ => leR.refl _⟩

/-! Kinds as they were looked at. -/
def KdOk (kn : Kn) (env : En) : Prop := ∀ w, (vx w env).map (·.1) = jo kn w
theorem zs6 {kn : Kn} {env : En} (k : KdOk kn env) : ∀ {e : Ex}, Typ kn e → kdE env e = e.set
  | .name s a w, t => by
    have := k w
    rw [kdE]
    rw [show jo kn w = some s from t] at this
    rw [this]; rfl
  | .zero a, t => rfl
  | .par s a e, t => by rw [kdE, zs6 k t.2]; exact t.1.symm
  | .box a e, t => rfl
  | .un o e, t => rfl
  | .bin s o l r, t => rfl
def S0 (env : En) : Prop := ∀ w v, vx w env = some (false, v) → v.s = 0#32
theorem zpx {u : U} {kn : Kn} {env : En} (k : KdOk kn env) (z : S0 env) : ∀ {e : Ex}, Typ kn e → e.set = false → (evE u env e).s = 0#32
  | .name s a w, t, h => by
    have kw := k w
    rw [show jo kn w = some s from t] at kw
    rw [evE]
    cases hl : vx w env with
    | none => rfl
    | some p =>
      obtain ⟨b, v⟩ := p
      rw [hl] at kw
      have : b = s := by simpa using kw
      have hs : s = false := h
      subst this hs
      exact z w v hl
  | .zero a, t, h => rfl
  | .par s a e, t, h => by rw [evE]; exact zpx k z t.2 (t.1.symm.trans h)
  | .box a e, t, h => rfl
  | .un o e, t, h => by cases o <;> rfl
  | .bin s o l r, t, h => by
    have hs : s = false := h
    obtain ⟨tl, tr, t⟩ := t
    cases o
    case seq => rfl
    case cross => rfl
    all_goals
      simp only at t
      have hl := zpx (u := u) k z tl (t.1.symm.trans hs)
      have hr := zpx (u := u) k z tr (t.2.trans (t.1.symm.trans hs))
      simp only [evE, evB, hl, hr]
      rfl
theorem zf9 {kn : Kn} {rc : List Bys} : ∀ {e e' : Ex} {rt : Bool}, chkE kn rc rt e = .ok e' → NoR rc rt e'
  | .name s a w, e', rt, h => by
    rw [chkE] at h
    split at h
    · cases h
    · split at h
      · cases h
      · rename_i hc
        cases h
        intro hrt hw
        exact hc (by simp [hrt, hw])
  | .zero a, e', rt, h => by rw [chkE] at h; cases h; trivial
  | .par s a e, e', rt, h => by
    rw [chkE] at h
    split at h
    · cases h
    · rename_i x hx
      cases h; exact zf9 (e' := x) hx
  | .box a e, e', rt, h => by
    rw [chkE] at h
    split at h
    · cases h
    · rename_i x hx
      split at h
      · cases h; exact zf9 (e' := x) hx
      · cases h
  | .un o e, e', rt, h => by
    rw [chkE] at h
    split at h
    · cases h
    · rename_i x hx
      split at h
      · cases h
      · cases h; exact zf9 (e' := x) hx
  | .bin s o l r, e', rt, h => by
    rw [chkE] at h
    cases hl : chkE kn rc rt l with
    | bad c a => rw [hl] at h; cases h
    | ok l' =>
      rw [hl] at h
      simp only at h
      cases hr : chkE kn rc (rt || o == .minus) r with
      | bad c a => rw [hr] at h; cases h
      | ok r' =>
        rw [hr] at h
        have tl := zf9 hl
        have tr := zf9 hr
        cases o <;> simp only at h <;> split at h <;> first | cases h; done | skip
        all_goals first | (cases h; exact ⟨tl, tr⟩) | (split at h <;> first | (cases h; done) | (cases h; exact ⟨tl, tr⟩))
end Go.Proofs.YtljdbheclfaloaaGreatDoor.AM
namespace Go.Proofs.YtljdbheclfaloaaGreatDoor.AM
open Go.RowKit
set_option linter.unusedSimpArgs false
set_option linter.unusedVariables false
set_option maxRecDepth 20000

structure KC (km : Nat) (h h' : Heap) : Prop where
  keep : ∀ (b : Nat) (l : List Value) (n : Nat) (ro : Bool), h[b]? = some (AObj.cells l n ro) → h'[b]? = some (AObj.cells l n ro)
  oth : ∀ (b : Nat) (o : AObj), h[b]? = some o → b ≠ km → h'[b]? = some o
  le : h.length ≤ h'.length
theorem KC.refl {km : Nat} (h : Heap) : KC km h h := ⟨fun _ _ _ _ e => e, fun _ _ e _ => e, Nat.le_refl _⟩
theorem KC.trans {km : Nat} {a b c : Heap} (h : KC km a b) (k : KC km b c) : KC km a c := ⟨fun i l n ro e => k.keep i l n ro (h.keep i l n ro e), fun i o e n => k.oth i o (h.oth i o e n) n, Nat.le_trans h.le k.le⟩
theorem KC.more {km : Nat} (h L : Heap) : KC km h (h ++ L) := ⟨fun _ _ _ _ e => y6 L e, fun _ _ e _ => y6 L e, by simp⟩
theorem KC.map {h : Heap} {km : Nat} {es : List (Value × Value)} (e : h[km]? = some (.map es)) (es' : List (Value × Value)) : KC km h (h.set km (.map es')) := ⟨fun b l n ro hb => by
  rw [List.getElem?_set_ne (by rintro rfl; rw [e] at hb; cases hb)]; exact hb, fun b o hb n => by rw [List.getElem?_set_ne (Ne.symm n)]; exact hb, by simp⟩
theorem KC.fin {km : Nat} {h H : Heap} (k : KC km h H) (v : Value) : KC km h (AM.finish h v H) := by
  rcases pz h H v with hf | ⟨hf, hk⟩
  · rw [hf]; exact k
  · rw [hf]; exact KC.refl h
theorem zwl {h H : Heap} {b : Nat} {o : AObj} (v : Value) (hb : b < h.length) (e : H[b]? = some o) : (AM.finish h v H)[b]? = some o := by
  rcases pz h H v with hf | ⟨hf, hk⟩
  · rw [hf]; exact e
  · rw [hf, ← hk, List.getElem?_take, if_pos hb]; exact e
theorem zb3 {h : Heap} {b : Nat} {o : AObj} (e : h[b]? = some o) : b < h.length := (List.getElem?_eq_some_iff.1 e).1
theorem Wd.fin {h H : Heap} {q km : Nat} {u : U} {env env0 : En} (W0 : Wd h q km u env0) (W : Wd H q km u env) (v : Value) : Wd (AM.finish h v H) q km u env :=
  ⟨zwl v (zb3 W0.hq) W.hq, zwl v (zb3 W0.hk) W.hk⟩
theorem Wd.ne {h : Heap} {q km : Nat} {u : U} {env : En} (W : Wd h q km u env) : q ≠ km := by
  rintro rfl; have := W.hq.symm.trans W.hk; simp at this
theorem Wd.set {h : Heap} {q km : Nat} {u : U} {env : En} (W : Wd h q km u env) (env' : En) : Wd (h.set km (.map (enE env'))) q km u env' :=
  ⟨by rw [List.getElem?_set_ne (Ne.symm W.ne)]; exact W.hq, by rw [List.getElem?_set_self (zb3 W.hk)]⟩
theorem ydl {km : Nat} {h h' : Heap} (k : KC km h h') {p : Addr} {n : Nat} {l : List Value} (e : h.read p n = some l) : h'.read p n = some l := by
  unfold Heap.read at e ⊢
  cases hb : h[p.block]? with
  | none => rw [hb] at e; cases e
  | some o =>
    cases o with
    | cells c m ro => rw [k.keep _ _ _ _ hb]; rw [hb] at e; exact e
    | map es => rw [hb] at e; cases e
    | gone => rw [hb] at e; cases e
theorem Sl.kc {km : Nat} {h h' : Heap} {s : Value} {c : Nat} {rows : List (List Value)} (e : Sl h s c rows) (k : KC km h h') : Sl h' s c rows := by
  obtain ⟨hs | ⟨b, o, v, hs, hr⟩, hc⟩ := e
  · exact ⟨.inl hs, hc⟩
  · exact ⟨.inr ⟨b, o, v, hs, ydl k hr⟩, hc⟩
theorem TreeP.kc {km : Nat} {h h' : Heap} (k : KC km h h') : ∀ {S : Nat → Prop} {v : Value} {e : Ex}, TreeP h S v e → TreeP h' S v e
  | S, v, .name s a w, t => by obtain ⟨b, hv, hb, ho⟩ := t; exact ⟨b, hv, hb, k.keep _ _ _ _ ho⟩
  | S, v, .zero a, t => by obtain ⟨b, hv, hb, ho⟩ := t; exact ⟨b, hv, hb, k.keep _ _ _ _ ho⟩
  | S, v, .par s a e, t => by obtain ⟨b, S', x, hv, hb, ho, t', hs⟩ := t; exact ⟨b, S', x, hv, hb, k.keep _ _ _ _ ho, t'.kc k, hs⟩
  | S, v, .box a e, t => by obtain ⟨b, S', x, hv, hb, ho, t', hs⟩ := t; exact ⟨b, S', x, hv, hb, k.keep _ _ _ _ ho, t'.kc k, hs⟩
  | S, v, .un o' e, t => by obtain ⟨b, S', x, hv, hb, ho, t', hs⟩ := t; exact ⟨b, S', x, hv, hb, k.keep _ _ _ _ ho, t'.kc k, hs⟩
  | S, v, .bin s o' l r, t => by obtain ⟨b, S1, S2, x, y, hv, hb, ho, t1, t2, h1, h2⟩ := t; exact ⟨b, S1, S2, x, y, hv, hb, k.keep _ _ _ _ ho, t1.kc k, t2.kc k, h1, h2⟩
theorem ydk (h : Heap) (neg : Bool) (n1 n2 : Bys) (s1 s2 : Bool) (v1 v2 : Vv) : zm7 h neg (.str :: .bool :: List.replicate 33 .int) (agg (w4 n1 s1 v1)) (agg (w4 n2 s2 v2)) = some (.bool ((n1 == n2 && (s1 == s2 && zvi v1 v2)) != neg), h) := ygg h neg n1 n2 s1 s2 v1 v2
set_option maxHeartbeats 4000000 in
theorem zwi {h : Heap} {q km : Nat} {u : U} {env : En} (W : Wd h q km u env) (w nm : Bys) (st : Bool) (v : Vv) :
    ∃ c h', DF FF jz [pt q, str w, agg (w4 nm st v)] h = some (.bool c, h') ∧ Wd h' q km u (setE w st v env) ∧ KC km h h' ∧ ∀ p, vx w env = some p → c = chg (some p) st v := by
  have : ∃ x h', DF FF jz [pt q, str w, agg (w4 nm st v)] h = some (x, h') ∧ ∃ c, x = .bool c ∧ Wd h' q km u (setE w st v env) ∧ KC km h h' ∧ ∀ p, vx w env = some p → c = chg (some p) st v := by
    refine wx zjs ?_
    have rq : ∀ L j, Heap.read1 (h ++ L) ⟨q, j, some 0⟩ = ([.int .u32 (u.toNat : Int), .map (some km)] : List Value)[j]? := fun L j => x8 (W.more L).hq
    have lk : ∀ L, znn (h ++ L) .str (agg (w4 [] false v0)) false (.map (some km)) (str w) = _ := fun L => zfb _ (W.more L).hk (agg (w4 [] false v0)) false (w := w) (zsj env w)
    have up : ∀ L, updO (h ++ L) .str (.map (some km)) (str w) (agg (w4 w st v)) = some (undef, (h ++ L).set km (.map (enE (setE w st v env)))) := fun L => zni _ (W.more L).hk (ydb w st v env)
    have fin : ∀ L x, Wd (AM.finish h x ((h ++ L).set km (.map (enE (setE w st v env))))) q km u (setE w st v env) ∧ KC km h (AM.finish h x ((h ++ L).set km (.map (enE (setE w st v env))))) := fun L x =>
      ⟨W.fin ((W.more L).set _) x, ((KC.more h L).trans (KC.map (W.more L).hk _)).fin x⟩
    cases hl : vx w env with
    | none =>
      simp only [hl, Option.map_none, zg1, Bool.false_eq_true, if_false] at lk
      simp only [zbk, ya, xc, zb, yb, zm, zc, zp, zo, zf, ze, zd, List.set_cons_succ, List.set_cons_zero, O_mv, yg, zx, zk, xt, y5, Nat.zero_lt_succ, List.cons_append, List.nil_append, List.length_cons, List.length_nil, Nat.reduceAdd, Nat.reduceSub, Nat.zero_add, zn, yc, za, w6, xa, z7, zl, xb, zq, zj, xn, xd, yh, j9, vo, zh, zg, Nat.add_zero, Option.map_some, List.getElem?_cons_zero, List.getElem?_cons_succ, wg, Bool.bne_true, Bool.false_beq, eq_self, yf, zs, zof, yj, wj, f6, jp, zhd, rq, gf, lk, fx, up, ydk]
      exact ⟨_, rfl, (fin _ _).1, (fin _ _).2, fun p h => by cases h⟩
    | some p =>
      simp only [hl, Option.map_some, zg1, Bool.false_eq_true, if_false] at lk
      simp only [zbk, ya, xc, zb, yb, zm, zc, zp, zo, zf, ze, zd, List.set_cons_succ, List.set_cons_zero, O_mv, yg, zx, zk, xt, y5, Nat.zero_lt_succ, List.cons_append, List.nil_append, List.length_cons, List.length_nil, Nat.reduceAdd, Nat.reduceSub, Nat.zero_add, Bool.true_and, zn, yc, za, w6, xa, z7, zl, xb, zq, zj, xn, xd, yh, j9, vo, zh, zg, Nat.add_zero, Option.map_some, List.getElem?_cons_zero, List.getElem?_cons_succ, wg, Bool.bne_true, beq_self_eq_true, eq_self, yf, zs, zof, yj, wj, f6, jp, zhd, rq, gf, lk, fx, up, ydk]
      exact ⟨_, rfl, (fin _ _).1, (fin _ _).2, fun p' h => by cases h; simp [chg]⟩
  obtain ⟨x, h', hq, c, rfl, hw, hk, hc⟩ := this
  exact ⟨c, h', hq, hw, hk, hc⟩
end Go.Proofs.YtljdbheclfaloaaGreatDoor.AM
namespace Go.Proofs.YtljdbheclfaloaaGreatDoor.AM
open Go.RowKit
set_option linter.unusedSimpArgs false
set_option linter.unusedVariables false
set_option maxRecDepth 20000

/-! A statement's words. -/
theorem yfe : (([114, 101, 99] : Bys) == [108, 101, 116]) = false := by decide
theorem ye5 : (([97, 99, 121, 99, 108, 105, 99] : Bys) == [108, 101, 116]) = false := by decide
theorem yfp : (([97, 99, 121, 99, 108, 105, 99] : Bys) == [114, 101, 99]) = false := by decide
theorem ye4 : (([105, 114, 114, 101, 102, 108, 101, 120, 105, 118, 101] : Bys) == [108, 101, 116]) = false := by decide
theorem ye8 : (([105, 114, 114, 101, 102, 108, 101, 120, 105, 118, 101] : Bys) == [114, 101, 99]) = false := by decide
theorem yfc : (([105, 114, 114, 101, 102, 108, 101, 120, 105, 118, 101] : Bys) == [97, 99, 121, 99, 108, 105, 99]) = false := by decide
theorem ycm : (([101, 109, 112, 116, 121] : Bys) == [108, 101, 116]) = false := by decide
theorem ycz : (([101, 109, 112, 116, 121] : Bys) == [114, 101, 99]) = false := by decide
theorem yc4 : (([101, 109, 112, 116, 121] : Bys) == [97, 99, 121, 99, 108, 105, 99]) = false := by decide
theorem yc7 : (([101, 109, 112, 116, 121] : Bys) == [105, 114, 114, 101, 102, 108, 101, 120, 105, 118, 101]) = false := by decide
theorem zux {h : Heap} {p : Addr} {w : Bys} (hr : h.read1 p = some (str w)) : zbo h (.pointer (some p)) (str w) = some (undef, h) := bw hr rfl
theorem ztk (h : Heap) (nm : Bys) (st : Bool) (v : Vv) : zt6 h 32 3 (agg (w4 nm st v)) = some (agg (relV v.r), h) := by
  rw [zwp h (by rw [jp]; decide), zya]
theorem zww (n : Bys) (b : Bool) (v : Vv) : wo (w4 [] false v0) [(0, 35, agg (w4 n b v))] = some (w4 n b v) := by
  have := zlx (jp [] false v0) (jp n b v)
  simpa [bo] using this
set_option maxHeartbeats 8000000 in
theorem ya2 {h : Heap} {q km : Nat} {u : U} {env : En} {S : Nat → Prop} {v : Value} {x : Ex} (W : Wd h q km u env) (t : TreeP h S v x) (k : Ck) (as_ : Bys) :
    DF FF qr [pt q, agg [str (ckS k), nils, v, str as_]] h = some (.bool (zz8 u env k x), h) := by
  refine wh zbq ?_
  obtain ⟨b, _, _, _, _, rfl, _, _⟩ := t.root
  have q1 := fun L => zfh u env x (h ++ L) q km S (pt b) (W.more L) (t.keep fun _ _ _ ho => y6 L ho)
  cases k
  · simp only [kq, ya, zt, xc, zb, zz, zw, yb, zm, zc, zo, zf, ze, zd, List.set_cons_succ, List.set_cons_zero, O_mv, yy, yg, ye, List.map_cons, List.map_nil, zx, zk, List.cons_append, List.nil_append, List.length_cons, List.length_nil, Nat.reduceAdd, Nat.reduceSub, Nat.zero_add, zn, yc, zy, za, y9, wd, w6, xa, z7, zx6, yu, yo, zh, zg, Nat.add_zero, List.getElem?_cons_zero, List.getElem?_cons_succ, beq_self_eq_true, eq_self, yf, zs, yj, va, f6, ckS, pq, ye5, yfp, yf, q1, ztk, znv]
    rw [zfk _ _ _ _ _ rfl]
    rfl
  · simp only [kq, ya, zt, xc, zb, zz, zw, yb, zm, zc, zo, zf, ze, zd, List.set_cons_succ, List.set_cons_zero, O_mv, yy, yg, ye, List.map_cons, List.map_nil, zx, zk, List.cons_append, List.nil_append, List.length_cons, List.length_nil, Nat.reduceAdd, Nat.reduceSub, Nat.zero_add, zn, yc, zy, za, y9, wd, w6, xa, z7, zx6, yu, yo, zh, zg, Nat.add_zero, List.getElem?_cons_zero, List.getElem?_cons_succ, beq_self_eq_true, eq_self, yf, zs, yj, va, f6, ckS, wIrr, ye4, ye8, yfc, yf, q1, ztk, zd5]
    rw [zfk _ _ _ _ _ rfl]
    rfl
  · cases hs : (evE u env x).s == 0#32
    · simp only [kq, ya, zt, xc, zb, zz, zw, yb, zm, yi, zc, zp, vw, zo, zf, ze, zd, List.set_cons_succ, List.set_cons_zero, O_mv, y0, xi, yy, yg, ye, List.map_cons, List.map_nil, zx, zk, k9, List.cons_append, List.nil_append, List.length_cons, List.length_nil, Nat.reduceAdd, Nat.reduceSub, Nat.zero_add, zn, yc, zy, za, y9, wd, yp, w6, xa, z7, zl, yr, z6, fk, yu, bk, yo, yh, w8, ve, vk, zr, zh, zg, List.append_assoc, List.length_append, Nat.add_zero, List.getElem?_cons_zero, List.getElem?_cons_succ, beq_self_eq_true, eq_self, yf, zs, yj, va, f6, jp, bd_2, ckS, zdt, ycm, ycz, yc4, yc7, yf, q1, yfa, hs]
      rw [zfk _ _ _ _ _ rfl]
      simp only [zz8, hs]
      rfl
    · simp only [kq, ya, zt, xc, zb, zz, zw, yb, zm, yi, zc, zp, xx, zo, zf, ze, zd, List.set_cons_succ, List.set_cons_zero, O_mv, y0, xi, yy, yg, ye, List.map_cons, List.map_nil, zx, zk, xt, y5, k9, List.cons_append, List.nil_append, List.length_cons, List.length_nil, Nat.reduceAdd, Nat.reduceSub, Nat.zero_add, zn, yc, zy, za, y9, wd, yp, w6, xa, z7, zl, yr, z6, fk, yu, bk, yo, qp, jb, yh, w8, ve, vk, zr, zh, zg, List.append_assoc, List.length_append, Nat.add_zero, Option.map_some, List.getElem?_cons_zero, List.getElem?_cons_succ, beq_self_eq_true, eq_self, yf, zs, yj, va, f6, jp, bd_2, ya4, ckS, zdt, ycm, ycz, yc4, yc7, yf, q1, zk4, yfa, hs]
      rw [zfk _ _ _ _ _ rfl]
      simp only [zz8, hs]
      rfl
end Go.Proofs.YtljdbheclfaloaaGreatDoor.AM
namespace Go.Proofs.YtljdbheclfaloaaGreatDoor.AM
open Go.RowKit
set_option linter.unusedSimpArgs false
set_option linter.unusedVariables false
set_option maxRecDepth 20000

def vrow (u : U) (env : En) (g : Gv) : List Value := w4 (nmE env g.e) (kdE env g.e) (evE u env g.e)
structure VlS (h0 : Heap) (q km : Nat) (u : U) (env : En) (gs : List Gv) (k : Nat) (sv : Value) (K : Heap) : Prop where
  w : Wd K q km u env
  kc : KC km h0 K
  own : Own [] K sv 35 ((gs.take k).map (vrow u env))
  b : ∀ b, blk sv = some b → h0.length ≤ b
theorem zxi {km : Nat} {h K : Heap} {s : Value} {S : Nat → Prop} {gs : List Gv} {vs : List Value} (hs : Sl h s 3 (List.zipWith qi gs vs)) (G : GsP h S vs gs) (kc : KC km h K) {k : Nat} {g : Gv} (hg : gs[k]? = some g) :
    ∃ b S' b' o v, (∀ H', rowO H' 3 s (.int .i64 (k : Int)) = some (.pointer (some ⟨b', o, some v⟩), H')) ∧ Heap.read K ⟨b', o, some v⟩ 3 = some (qi g (pt b)) ∧ TreeP K S' (pt b) g.e := by
  obtain ⟨x, S', hx, t, _⟩ := G.get k g hg
  obtain ⟨b, _, _, _, _, rfl, _, _⟩ := t.root
  have hk := (List.getElem?_eq_some_iff.1 hg).1
  obtain ⟨b', o, v, a1, a2⟩ := (hs.kc kc).atH (k := k) (by rw [zet G.len]; exact hk)
  refine ⟨b, S', b', o, v, a1, ?_, t.kc kc⟩
  rw [a2]
  have := zw4 G.len hg hx
  rw [List.getElem?_eq_getElem (by rw [zet G.len]; exact hk)] at this
  exact this
theorem zuf {α β : Type} {l : List α} {k : Nat} {x : α} (h : l[k]? = some x) (f : α → β) : (l.take (k + 1)).map f = (l.take k).map f ++ [f x] := by
  rw [List.take_add_one, h]; simp
theorem zaf {α β : Type} {l : List α} {k : Nat} {x : α} (h : l[k]? = some x) (f : β → α → β) (a : β) : (l.take (k + 1)).foldl f a = f ((l.take k).foldl f a) x := by
  rw [List.take_add_one, h, List.foldl_append]; rfl
theorem ydz {h0 K : Heap} {q km : Nat} {u : U} {env : En} {gs : List Gv} {k : Nat} {sv : Value} (W0 : Wd h0 q km u env) (e : VlS h0 q km u env gs k sv K) {g : Gv} (hg : gs[k]? = some g) (hl : gs.length ≤ 8192) {b : Nat} {S' : Nat → Prop} (t : TreeP K S' (pt b) g.e) :
    DF FF v6 [pt q, pt b] (K ++ [.cells (qi g (pt b)) 0 false]) = some (agg (w4 (nmE env g.e) (kdE env g.e) (evE u env g.e)), K ++ [.cells (qi g (pt b)) 0 false]) ∧
    ∃ s' K2, ge (K ++ [.cells (qi g (pt b)) 0 false, .cells (w4 (nmE env g.e) (kdE env g.e) (evE u env g.e)) 0 false]) 35 152 sv (zdl (K ++ [.cells (qi g (pt b)) 0 false, .cells (w4 (nmE env g.e) (kdE env g.e) (evE u env g.e)) 0 false]) 35 (.slice (some ⟨K.length + 1, 0, some 0⟩) 1 35)) = some (s', K2) ∧
      VlS h0 q km u env gs (k + 1) s' K2 := by
  refine ⟨zfh u env g.e _ q km S' (pt b) (e.w.more _) (t.keep fun _ _ _ ho => y6 _ ho), ?_⟩
  have hk := (List.getElem?_eq_some_iff.1 hg).1
  have hlen : ((gs.take k).map (vrow u env)).length = k := by simp; omega
  obtain ⟨s', K2, p1, p2, _, p4, p5, p6⟩ := (e.own.more [.cells (qi g (pt b)) 0 false]).push (⟨_, rfl⟩ : Pre [] (K ++ [.cells (qi g (pt b)) 0 false])) (row := vrow u env g) (bytes := 152) (jp _ _ _) (by rw [hlen]; unfold fm; omega)
  have p1' := p1
  rw [List.append_assoc, List.length_append] at p1'
  have nb : ∀ z o, h0[z]? = some o → blk sv ≠ some z := fun z o ho hz => by have := e.b z hz; have := zb3 ho; omega
  refine ⟨s', K2, p1', ⟨p5 _ _ (y6 _ e.w.hq) (nb _ _ W0.hq), p5 _ _ (y6 _ e.w.hk) (nb _ _ W0.hk)⟩, ⟨fun z l n ro ho => p5 _ _ (y6 _ (e.kc.keep _ _ _ _ ho)) (nb _ _ ho), fun z o ho n => p5 _ _ (y6 _ (e.kc.oth _ _ ho n)) (nb _ _ ho), by have := e.kc.le; simp at p4; omega⟩, by rw [zuf hg]; exact p2, fun z hz => ?_⟩
  rcases p6 with h | ⟨j, h, h'⟩
  · rw [h] at hz; exact e.b z hz
  · rw [h] at hz; cases hz; have := e.kc.le; simp at h'; omega
def VlI (h h0 : Heap) (q km : Nat) (u : U) (env : En) (gs : List Gv) (s : Value) (k : Nat) (st : St) : Prop := ∃ K sv, (∃ j : Nat → Value, st = ⟨[pt q, j 1, j 2, pt h.length, j 4, sv, j 6, j 7, j 8, j 9, j 10, j 11, j 12, j 13, j 14, j 15, j 16, j 17, j 18, j 19, j 20, s, .int .i64 (gs.length : Int), .int .i64 (k : Int), j 24, j 25, j 26, j 27, j 28, j 29, j 30, j 31, j 32, j 33, j 34, j 35, j 36, j 37, j 38, j 39, j 40, j 41, j 42, j 43, j 44, j 45, j 46, j 47, j 48, j 49, j 50, j 51, j 52, j 53, j 54, j 55, j 56, j 57, j 58, j 59, j 60, j 61, j 62, j 63, j 64, j 65, j 66, j 67, j 68, j 69, j 70, j 71, j 72, j 73, j 74, j 75, j 76, j 77, j 78, j 79, j 80, j 81, j 82, j 83, j 84, j 85, j 86, j 87, j 88, j 89, j 90, j 91, j 92, j 93, j 94, j 95, j 96, j 97, j 98, j 99, j 100, j 101, j 102, j 103, j 104, j 105, j 106, j 107, j 108, j 109, j 110, j 111, j 112, j 113, j 114, j 115, j 116], K⟩) ∧ VlS h0 q km u env gs k sv K
def VlO (h h0 : Heap) (q km : Nat) (u : U) (env : En) (gs : List Gv) (st : St) : Prop := ∃ K sv, (∃ j : Nat → Value, st = ⟨[pt q, j 1, j 2, pt h.length, j 4, sv, j 6, j 7, j 8, j 9, j 10, j 11, j 12, j 13, j 14, j 15, j 16, j 17, j 18, j 19, j 20, j 21, j 22, j 23, j 24, j 25, j 26, j 27, j 28, j 29, j 30, j 31, j 32, j 33, j 34, j 35, j 36, j 37, j 38, j 39, j 40, j 41, j 42, j 43, j 44, j 45, j 46, j 47, j 48, j 49, j 50, j 51, j 52, j 53, j 54, j 55, j 56, j 57, j 58, j 59, j 60, j 61, j 62, j 63, j 64, j 65, j 66, j 67, j 68, j 69, j 70, j 71, j 72, j 73, j 74, j 75, j 76, j 77, j 78, j 79, j 80, j 81, j 82, j 83, j 84, j 85, j 86, j 87, j 88, j 89, j 90, j 91, j 92, j 93, j 94, j 95, j 96, j 97, j 98, j 99, j 100, j 101, j 102, j 103, j 104, j 105, j 106, j 107, j 108, j 109, j 110, j 111, j 112, j 113, j 114, j 115, j 116], K⟩) ∧ VlS h0 q km u env gs gs.length sv K
structure GvS (h0 : Heap) (q km : Nat) (u : U) (env env' : En) (gs : List Gv) (sv : Value) (K : Heap) : Prop where
  w : Wd K q km u env'
  kc : KC km h0 K
  sl : Sl K sv 35 (gs.map (vrow u env))
def gvE (u : U) (env : En) (gs : List Gv) (k : Nat) : En := (gs.take k).foldl (fun en g => setE g.name g.e.set (evE u env g.e) en) env
theorem yas {h0 K : Heap} {q km : Nat} {u : U} {env : En} {gs : List Gv} {k : Nat} {sv : Value} (e : GvS h0 q km u env (gvE u env gs k) gs sv K) {g : Gv} (hg : gs[k]? = some g) (hkd : kdE env g.e = g.e.set) (b : Nat) :
    ∃ b' o v c K2, (∀ H', rowO H' 35 sv (.int .i64 (k : Int)) = some (.pointer (some ⟨b', o, some v⟩), H')) ∧ Heap.read (K ++ [.cells (qi g (pt b)) 0 false]) ⟨b', o, some v⟩ 35 = some (vrow u env g) ∧
      DF FF jz [pt q, str g.name, agg (vrow u env g)] (K ++ [.cells (qi g (pt b)) 0 false]) = some (.bool c, K2) ∧ GvS h0 q km u env (gvE u env gs (k + 1)) gs sv K2 := by
  have hk := (List.getElem?_eq_some_iff.1 hg).1
  obtain ⟨b', o, v, a1, a2⟩ := (e.sl.kc (KC.more (km := km) K [.cells (qi g (pt b)) 0 false])).atH (k := k) (by simpa using hk)
  obtain ⟨c, K2, q1, w2, k2, _⟩ := zwi (e.w.more [.cells (qi g (pt b)) 0 false]) g.name (nmE env g.e) (kdE env g.e) (evE u env g.e)
  refine ⟨b', o, v, c, K2, a1, ?_, q1, ⟨?_, (e.kc.trans (KC.more _ _)).trans k2, (e.sl.kc (KC.more (km := km) _ _)).kc k2⟩⟩
  · rw [a2, List.getElem_map, (List.getElem?_eq_some_iff.1 hg).2]
  · rw [gvE, zaf hg]; rw [hkd] at w2; exact w2
def GvI (h h0 : Heap) (q km : Nat) (u : U) (env : En) (gs : List Gv) (s : Value) (k : Nat) (st : St) : Prop := ∃ K sv, (∃ j : Nat → Value, st = ⟨[pt q, j 1, j 2, j 3, j 4, sv, j 6, j 7, j 8, j 9, j 10, j 11, j 12, j 13, j 14, j 15, j 16, j 17, j 18, j 19, j 20, j 21, j 22, j 23, j 24, j 25, j 26, j 27, j 28, j 29, j 30, j 31, j 32, j 33, j 34, j 35, s, .int .i64 (gs.length : Int), .int .i64 (k : Int), j 39, j 40, j 41, j 42, j 43, j 44, j 45, j 46, j 47, j 48, j 49, j 50, j 51, j 52, j 53, j 54, j 55, j 56, j 57, j 58, j 59, j 60, j 61, j 62, j 63, j 64, j 65, j 66, j 67, j 68, j 69, j 70, j 71, j 72, j 73, j 74, j 75, j 76, j 77, j 78, j 79, j 80, j 81, j 82, j 83, j 84, j 85, j 86, j 87, j 88, j 89, j 90, j 91, j 92, j 93, j 94, j 95, j 96, j 97, j 98, j 99, j 100, j 101, j 102, j 103, j 104, j 105, j 106, j 107, j 108, j 109, j 110, j 111, j 112, j 113, j 114, j 115, j 116], K⟩) ∧ GvS h0 q km u env (gvE u env gs k) gs sv K
def GvO (h h0 : Heap) (q km : Nat) (u : U) (env : En) (gs : List Gv) (st : St) : Prop := ∃ K, (∃ j : Nat → Value, st = ⟨[j 0, j 1, j 2, j 3, j 4, j 5, j 6, j 7, j 8, j 9, j 10, j 11, j 12, j 13, j 14, j 15, j 16, j 17, j 18, j 19, j 20, j 21, j 22, j 23, j 24, j 25, j 26, j 27, j 28, j 29, j 30, j 31, j 32, j 33, j 34, j 35, j 36, j 37, j 38, j 39, j 40, j 41, j 42, j 43, j 44, j 45, j 46, j 47, j 48, j 49, j 50, j 51, j 52, j 53, j 54, j 55, j 56, j 57, j 58, j 59, j 60, j 61, j 62, j 63, j 64, j 65, j 66, j 67, j 68, j 69, j 70, j 71, j 72, j 73, j 74, j 75, j 76, j 77, j 78, j 79, j 80, j 81, j 82, j 83, j 84, j 85, j 86, j 87, j 88, j 89, j 90, j 91, j 92, j 93, j 94, j 95, j 96, j 97, j 98, j 99, j 100, j 101, j 102, j 103, j 104, j 105, j 106, j 107, j 108, j 109, j 110, j 111, j 112, j 113, j 114, j 115, j 116], K⟩) ∧ Wd K q km u (yah u gs env) ∧ KC km h0 K
set_option maxHeartbeats 8000000 in
theorem ycb {h : Heap} {q km : Nat} {u : U} {env : En} {kn : Kn} {S : Nat → Prop} {vs : List Value} {s : Value} {gs : List Gv} (W : Wd h q km u env) (hs : Sl h s 3 (List.zipWith qi gs vs)) (G : GsP h S vs gs) (hl : gs.length ≤ 8192) (kd : KdOk kn env) (ty : ∀ g ∈ gs, Typ kn g.e) :
    ∃ h', DF FF qr [pt q, agg [str wLet, s, nilP, str []]] h = some (.bool true, h') ∧ Wd h' q km u (yah u gs env) ∧ KC km h h' := by
  have : ∃ v h', DF FF qr [pt q, agg [str wLet, s, nilP, str []]] h = some (v, h') ∧ (v = .bool true ∧ Wd h' q km u (yah u gs env) ∧ KC km h h') := by
    refine wx zbq ?_
    have lens : ∀ K, lenO K s = some (.int .i64 (gs.length : Int), K) := fun K => by rw [hs.len, zet G.len]
    obtain ⟨h0, hh0⟩ : ∃ h0, h0 = h ++ [AObj.cells [str [108, 101, 116], s, nilP, str []] 0 false] := ⟨_, rfl⟩
    have k0 : KC km h h0 := by rw [hh0]; exact KC.more _ _
    have W0 : Wd h0 q km u env := by rw [hh0]; exact W.more _
    have g0 : h0[h.length]? = some (.cells [str [108, 101, 116], s, nilP, str []] 0 false) := by rw [hh0]; simp
    have rg : ∀ K, KC km h0 K → ∀ j, Heap.read1 K ⟨h.length, j, some 0⟩ = ([str [108, 101, 116], s, nilP, str []] : List Value)[j]? := fun K kc j => x8 (kc.keep _ _ _ _ g0)
    have rg0 := rg h0 (KC.refl _)
    simp only [kq, ya, zt, zb, zz, yb, zm, zc, zo, zf, ze, zd, List.set_cons_succ, List.set_cons_zero, O_mv, yy, yg, fq, zx, zk, List.cons_append, List.nil_append, List.length_cons, List.length_nil, Nat.reduceAdd, Nat.reduceSub, Nat.zero_add, zn, yc, zy, za, w6, xa, z7, zh, zg, Nat.add_zero, List.getElem?_cons_zero, List.getElem?_cons_succ, beq_self_eq_true, eq_self, yf, zs, yj, va, f6, wLet, yf, ← hh0, rg0, lens]
    refine bz 1 gs.length (VlI h h0 q km u env gs s) (VlO h h0 q km u env gs) ?_ ?_ _ ⟨h0, _, junk rfl, W0, KC.refl _, Own.nil _ _ _, fun b hb => by simp [blk] at hb⟩ ?_
    · rintro k st hk ⟨K, sv, ⟨j, rfl⟩, e⟩
      have hg : gs[k]? = some gs[k] := List.getElem?_eq_getElem hk
      obtain ⟨b, S', b', o, v, a1, a2, t⟩ := zxi hs G (k0.trans e.kc) hg
      obtain ⟨q1, s', K2, p1, e'⟩ := ydz W0 e hg hl t
      have h1 : ((k : Int) < (gs.length : Int)) = True := by simp; omega
      simp only [ya, zt, ym, zb, zz, yb, zm, zc, zp, zo, zf, ze, zd, List.set_cons_succ, List.set_cons_zero, O_mv, yy, yg, ye, List.map_cons, List.map_nil, vt, zx, zk, xt, y5, vf, w7, yd, z8, xe, xf, qf, wm, List.cons_append, List.nil_append, List.length_cons, List.length_nil, Nat.reduceAdd, Nat.zero_add, zn, yc, zy, za, zi, slc, gu, yp, xa, z7, zl, yr, z6, yu, yo, yh, zu, zr, List.append_assoc, List.length_append, List.append_nil, Option.map_some, eq_self, yq, decide_true, jp, h1, a1, a2, gc, zej, q1, zww, p1, xq (k := k) (by omega)]
      exact ⟨K2, s', junk rfl, e'⟩
    · rintro st ⟨K, sv, ⟨j, rfl⟩, e⟩
      have h1 : ((gs.length : Int) < (gs.length : Int)) = False := by simp
      simp only [ya, zt, vj, zb, zw, yb, zm, zc, zo, ze, zd, List.set_cons_succ, List.set_cons_zero, yy, yg, wm, zn, yc, za, yz, fi, xo, decide_false, h1, fi]
      exact ⟨K, sv, junk rfl, e⟩
    rintro st ⟨K, sv, ⟨j, rfl⟩, e⟩
    have rgK := rg K e.kc
    simp only [ya, zb, yb, zm, zc, zo, zf, ze, zd, List.set_cons_succ, List.set_cons_zero, O_mv, yg, fq, zx, zk, Nat.zero_add, zn, yc, zy, za, yk, xa, z7, List.getElem?_cons_zero, List.getElem?_cons_succ, rgK, lens]
    refine bz 3 gs.length (GvI h h0 q km u env gs s) (GvO h h0 q km u env gs) ?_ ?_ _ ⟨K, sv, junk rfl, e.w, e.kc, by have := e.own.sl; rwa [List.take_length] at this⟩ ?_
    · rintro k st hk ⟨K, sv, ⟨j, rfl⟩, e⟩
      have hg : gs[k]? = some gs[k] := List.getElem?_eq_getElem hk
      obtain ⟨b, S', b', o, v, a1, a2, t⟩ := zxi hs G (k0.trans e.kc) hg
      obtain ⟨b2, o2, v2, c, K2, r1, r2, q1, e'⟩ := yas e hg (zs6 kd (ty _ (List.getElem_mem hk))) b
      have h1 : ((k : Int) < (gs.length : Int)) = True := by simp; omega
      simp only [ya, zt, ym, zb, zz, yb, zm, zc, zp, zo, zf, ze, zd, List.set_cons_succ, List.set_cons_zero, O_mv, yy, yg, ye, List.map_cons, List.map_nil, vt, zx, zk, xt, y5, qf, wm, List.length_cons, List.length_nil, Nat.reduceAdd, Nat.zero_add, zn, yc, zy, za, zi, yp, xa, z7, zl, yr, z6, yu, yo, yh, zu, zr, Nat.add_zero, Option.map_some, eq_self, yq, decide_true, h1, a1, a2, gc, zfi, r1, r2, q1, xq (k := k) (by omega)]
      exact ⟨K2, sv, junk rfl, e'⟩
    · rintro st ⟨K, sv, ⟨j, rfl⟩, e⟩
      have h1 : ((gs.length : Int) < (gs.length : Int)) = False := by simp
      simp only [ya, zt, vj, zb, zw, yb, zm, zc, zo, ze, zd, List.set_cons_succ, List.set_cons_zero, yy, yg, wm, zn, yc, za, yz, fi, xo, decide_false, h1, fi]
      have w := e.w
      rw [gvE, List.take_length] at w
      exact ⟨K, junk rfl, w, e.kc⟩
    rintro st ⟨K, ⟨j, rfl⟩, w, k⟩
    simp only [ya, xc, zb, yb, zm, zc, zf, ze, zd, List.set_cons_succ, List.set_cons_zero, O_mv, zn, yc, za, zi, yk, wg, eq_self]
    exact ⟨trivial, W.fin w _, (k0.trans k).fin _⟩
  obtain ⟨v, h', hq, rfl, hw, hk⟩ := this
  exact ⟨h', hq, hw, hk⟩
end Go.Proofs.YtljdbheclfaloaaGreatDoor.AM
