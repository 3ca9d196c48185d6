/-
  The flow law on what a value needs: the plain part.
  Conditions: none.
-/
import Derived.Test.YtoeoahpngmhkdaaFb4
namespace Go.Proofs.Ytoeoahpngmhkdaa.AM
open Go.RowKit
set_option linter.unusedSimpArgs false
set_option linter.unusedVariables false

theorem bi_at {u : Int} (hu : W u) {k : Nat} (hk : k < 64) : bi (shr .i64 u (k : Int)) 0 = bi u k := by
  rw [b_shr u k hu (by omega) (by omega)]
  simp [show k < 64 from hk]
theorem bi_nat (n : Nat) {k : Nat} (hk : k < 64) : bi (n : Int) k = n.testBit k := by
  unfold bi B
  rw [BitVec.ofInt_natCast, BitVec.getLsbD_ofNat]
  simp [hk]
/-- A register, or none. -/
def regOk (r : Int) : Prop := r = -1 ∨ (0 ≤ r ∧ r < 8)
theorem regV_ok {r : Int} (h : regV r = true) : regOk r := by
  unfold regV at h; simp at h; exact .inr h
/-- Its registers are registers. -/
def GoodI (i : Ins) : Prop := (i.op = 2 → regOk i.a) ∧ (i.op = 3 → regOk i.a ∧ regOk i.b) ∧ (memV i = true → regOk i.index)
theorem okI_good {i : Ins} (h : okI i = true) : GoodI i := by
  refine ⟨fun h2 => ?_, fun h3 => ?_, fun hm => ?_⟩
  · unfold okI at h
    simp [h2] at h
    exact regV_ok h.2.1
  · unfold okI at h
    simp [h3] at h
    refine ⟨regV_ok h.2.1, ?_⟩
    rcases h.2.2.2.2.1 with hb | hb
    · exact .inl hb
    · exact regV_ok hb.1
  · have acc : accessV i = true := by
      unfold memV readsV writesV at hm
      simp only [Bool.or_eq_true, beq_iff_eq] at hm
      have hm' : i.op = 4 ∨ i.op = 5 ∨ i.op = 6 := by omega
      unfold okI at h
      rcases hm' with h4 | h4 | h4
      · simp [h4] at h; exact h.2.1
      · simp [h4] at h; exact h.1
      · simp [h4] at h; exact h.2.2.1
    unfold accessV accessF at acc
    simp only [Bool.and_eq_true, Bool.or_eq_true, beq_iff_eq] at acc
    rcases acc.2.2 with h1 | h1
    · exact .inl h1
    · exact regV_ok h1
theorem value_holds {ps : List Ins} {R v1 v2 : List Int} {k1 k2 : Int} (good : ∀ i ∈ ps, GoodI i) (h8 : ps.length ≤ 8) (l1 : 8 ≤ v1.length) (l2 : 8 ≤ v2.length) (A : Nat)
    (hA : ∀ d, d < 8 → A.testBit d = true → bi (shr .i64 k1 (d : Int)) 0 = true ∧ bi (shr .i64 k2 (d : Int)) 0 = true ∧ v1.getD d 0 = v2.getD d 0) :
    ∀ (f : Nat) (place r : Int), cap ps place < f → regOk r → (∀ d, (hangF ps f place r).testBit d = true → A.testBit d = true) →
      (valueF ps R v1 k1 f place r).2 = true ∧ valueF ps R v1 k1 f place r = valueF ps R v2 k2 f place r
  | 0, _, _, h, _, _ => by omega
  | f + 1, place, r, hf, hr, hd => by
    rcases hr with rfl | ⟨r0, r8⟩
    · rw [valueF_m1, valueF_m1]; exact ⟨rfl, rfl⟩
    · obtain ⟨n, rfl⟩ : ∃ n : Nat, r = (n : Int) := ⟨r.toNat, by omega⟩
      have hn : n < 8 := by omega
      rcases defP_cases ps place (n : Int) with hp | ⟨d, hp, hd1, hd2⟩
      · rw [valueF_reg hn hp, valueF_reg hn hp]; exact ⟨rfl, rfl⟩
      · have ih := value_holds (R := R) good h8 l1 l2 A hA f
        have hcap := cap_lt hp hd1 hd2
        have g := good _ (List.getElem_mem hd1)
        rw [hangF_some hp hd1] at hd
        rw [valueF_at hn hd1 hp, valueF_at hn hd1 hp]
        rcases gives_cases (i := ps[d]) (by rw [defP_gives hd1 hp]; omega) with ⟨hr, n1⟩ | ⟨hr, n1, n2⟩ | ⟨hr, n1, n2, n3⟩ | ⟨hr, n1, n2, n3⟩
        · rw [hr, n1, if_neg (by simp), if_pos rfl, if_neg (by simp), if_pos rfl]; exact ⟨rfl, rfl⟩
        · rw [hr, if_neg (by simp), n2, Bool.true_or, if_pos rfl] at hd
          rw [hr, n1, n2, if_neg (by simp), if_neg (by simp), if_pos rfl, if_neg (by simp), if_neg (by simp), if_pos rfl]
          exact ih d _ (by omega) (g.1 (by simpa using n2)) fun e he => hd e (by simp [Nat.testBit_or, he])
        · rw [hr, if_neg (by simp), n3, Bool.or_true, if_pos rfl] at hd
          simp only [hr, n1, n2, Bool.false_eq_true, if_false]
          obtain ⟨ga, gb⟩ := g.2.1 (by simpa using n3)
          obtain ⟨a1, a2⟩ := ih d _ (by omega) ga fun e he => hd e (by simp [Nat.testBit_or, he])
          obtain ⟨b1, b2⟩ := ih d _ (by omega) gb fun e he => hd e (by simp [Nat.testBit_or, he])
          rw [← a2, ← b2, a1]
          cases hb : (ps[d].b == -1)
          · simp [b1]
          · simp
        · rw [hr, if_pos rfl] at hd
          have hd8 : d < 8 := by omega
          obtain ⟨q1, q2, q3⟩ := hA d hd8 (hd d (by rw [Nat.testBit_two_pow_self]))
          rw [hr, if_pos rfl, if_pos rfl, q1, q2, q3]
          have c1 : decide (d < v1.length) = true := by simp; omega
          have c2 : decide (d < v2.length) = true := by simp; omega
          rw [c1, c2]; exact ⟨rfl, rfl⟩
theorem intR_flat (l : List Int) : (l.map intR).flatten = l.map fun e => Value.int .i64 e := by
  induction l with
  | nil => rfl
  | cons a l ih => simp [intR] at ih ⊢; exact ih
/-- A place of a slice of one's own is written. -/
theorem Own.put {h H : Heap} {s : Value} {l : List Int} (e : Own h H s 1 (l.map intR)) (p : Pre h H) {k : Nat} (hk : k < l.length) (x : Int) :
    ∃ b ver H', (∀ K, rowO K 1 s (.int .i64 (k : Int)) = some (.pointer (some ⟨b, k, some ver⟩), K)) ∧ Heap.write1 H ⟨b, k, some ver⟩ (.int .i64 x) = some H' ∧
      Own h H' s 1 ((l.set k x).map intR) ∧ Pre h H' ∧ blk s = some b ∧ H'.length = H.length ∧ ∀ (i : Nat) (o : AObj), i ≠ b → H[i]? = some o → H'[i]? = some o := by
  rcases e with ⟨⟨rfl, hr⟩ | ⟨b, ver, hb, rfl, ho⟩, hc⟩
  · have : l = [] := by simpa using hr
    subst this; simp at hk
  · have hlt := (List.getElem?_eq_some_iff.1 ho).1
    rw [intR_flat] at ho
    refine ⟨b, ver, H.set b (.cells ((l.set k x).map fun e => Value.int .i64 e) ver false), fun K => ?_, ?_, ⟨.inr ⟨b, ver, hb, by simp, ?_⟩, by intro r hr; simp only [List.mem_map] at hr; obtain ⟨y, _, rfl⟩ := hr; rfl⟩, p.set hb _, rfl, by simp, fun i o hi ho' => ?_⟩
    · rw [row_nat K (by simpa using hk)]; simp
    · simp [Heap.write1, ho, hk]
    · rw [List.getElem?_set_self hlt, intR_flat]
    · rw [List.getElem?_set_ne (Ne.symm hi)]; exact ho'
end Go.Proofs.Ytoeoahpngmhkdaa.AM
