/-
  All paths through a code, as the program walks them.
  Conditions: codes no longer than 8, their branches within.
-/
import Derived.Test.YtoeoahpngmhkdaaFa7
namespace Go.Proofs.Ytoeoahpngmhkdaa.AM
open Go.RowKit
set_option linter.unusedSimpArgs false
set_option linter.unusedVariables false

def closV (pc po pw : Nat) : Value := .func (.func n_flow_Paths_1) ([] : List Value).toArray [.pointer (some ⟨pc, 0, some 0⟩), .pointer (some ⟨po, 0, some 0⟩), .pointer (some ⟨pw, 0, some 0⟩)].toArray
/-- What the closure holds. -/
structure Env (h1 : Heap) (c : Value) (pc po pw : Nat) (H : Heap) (out : Value) : Prop where
  pre : Pre h1 H
  le : h1.length ≤ po
  n1 : pc ≠ po
  n2 : pw ≠ po
  cc : H[pc]? = some (.cells [c] 0 false)
  oo : H[po]? = some (.cells [out] 0 false)
  ww : H[pw]? = some (.cells [closV pc po pw] 0 false)
theorem one_read {H : Heap} {i : Nat} {v : Value} (e : H[i]? = some (.cells [v] 0 false)) : Heap.read1 H ⟨i, 0, some 0⟩ = some v := by simp [Heap.read1, e]
theorem one_write {H : Heap} {i : Nat} {v w : Value} (e : H[i]? = some (.cells [v] 0 false)) : Heap.write1 H ⟨i, 0, some 0⟩ w = some (H.set i (.cells [w] 0 false)) := by simp [Heap.write1, e]
theorem Env.kept {h1 : Heap} {c : Value} {pc po pw : Nat} {H H' : Heap} {out : Value} (e : Env h1 c pc po pw H out) (p : Pre H H') : Env h1 c pc po pw H' out :=
  ⟨e.pre.trans p, e.le, e.n1, e.n2, p.kept _ _ e.cc, p.kept _ _ e.oo, p.kept _ _ e.ww⟩
theorem paths_some (code : List Ins) : ∀ f k, code.length - k < f → 0 < (pathsN code f k).length
  | 0, k, h => by omega
  | f + 1, k, h => by
    rw [pathsN]
    cases hi : code[k]? with
    | none => simp
    | some i =>
      have hk := (List.getElem?_eq_some_iff.1 hi).1
      have := paths_some code f (k + 1) (by omega)
      simp only [List.length_append, List.length_map]; omega
set_option maxHeartbeats 2000000 in
theorem walk_c {code : List Ins} {c : Value} {h1 : Heap} {pc po pw : Nat} (hc : InsSl h1 c code) (hc8 : code.length ≤ 8) (hto : ∀ i ∈ code, i.op = 9 → i.to ≤ code.length) : ∀ (f : Nat), f ≤ 9 → ∀ (k : Nat), k ≤ code.length → code.length - k < f →
    ∀ (H : Heap) (path out : Value) (pre : List Int) (L : List (List Int)) (N : Nat → Prop), Env h1 c pc po pw H out → PN (fun b => N b ∨ blk path = some b) h1 H out L → Own h1 H path 1 (pre.map intR) → (∀ b, N b → b < H.length) → (∀ b, N b → blk path ≠ some b) → N pc → N po → N pw →
    L.length + 2 ^ f < 1099511627776 → pre.length + f < 1099511627776 →
    ∃ v H', DF FF n_flow_Paths_1 [path, .int .i64 (k : Int), .pointer (some ⟨pc, 0, some 0⟩), .pointer (some ⟨po, 0, some 0⟩), .pointer (some ⟨pw, 0, some 0⟩)] H = some (v, H') ∧
      ∃ out', Env h1 c pc po pw H' out' ∧ PN (fun b => N b ∨ (k < code.length ∧ blk path = some b)) h1 H' out' (L ++ (pathsN code f k).map (pre ++ ·)) ∧ H.length ≤ H'.length ∧
        (∀ (i : Nat) (o : AObj), i ≠ po → blk out ≠ some i → H[i]? = some o → H'[i]? = some o) ∧ (blk out' = blk out ∨ ∃ i, blk out' = some i ∧ H.length ≤ i)
  | 0, _, k, _, hf => by omega
  | f + 1, hf9, k, hkl, hf => by
    intro H path out pre L N env pn own hN hNp npc npo npw hL hpre
    have ih := walk_c (pc := pc) (po := po) (pw := pw) hc hc8 hto f (by omega)
    have hp2 : 2 ^ (f + 1) = 2 ^ f * 2 := Nat.pow_succ ..
    have hp1 : 0 < 2 ^ f := Nat.pos_of_ne_zero (by simp)
    have hlen : ∀ K, lenO K c = some (.int .i64 code.length, K) := fun K => hc.len K
    refine fun_wpE F_flow_Paths_1 ?_
    have rc := one_read env.cc
    have ro := one_read env.oo
    have n0 : ¬ ((k : Int) < 0) := by omega
    by_cases hk : code.length ≤ k
    · have h1' : ((code.length : Int) ≤ (k : Int)) := by omega
      obtain ⟨v', K, u1, u2, u3, u4, u5, u6⟩ := pn.push hN hNp env.pre own (by omega)
      obtain ⟨pa, pn', pc', hshape⟩ := own.shape
      obtain ⟨va, vn, vc, hv⟩ := u2.shape
      have ok : K[po]? = some (.cells [out] 0 false) := u5 _ _ env.oo (pn.clear (.inl npo))
      have wo := one_write (w := v') ok
      subst hshape
      subst hv
      have ep : pathsN code (f + 1) k = [[]] := by rw [pathsN, List.getElem?_eq_none hk]
      rw [ep]
      simp only [c_flow_Paths_1, C_ops, C_cond, D_ret, normal_some, cond_tt, E_nil, E_cons, E_guard, next_some, next_none, guard_ff, ev_tmp, ev_const, get_succ, get_zero, List.set_cons_succ, List.set_cons_zero, O_mv, O_pick, pickO, O_bin, pairO, List.map_cons, List.map_nil, O_len, O_load1, load1_ptr, O_mkRow, mk_some, partsV_nil, partsV_cons, zeros_zero, zeros_succ, fill_nil, fill_slice, Nat.lt_add_one, B_lss, B_geq, List.cons_append, List.nil_append, List.length_cons, List.length_nil, Nat.reduceAdd, Nat.reduceSub, Nat.zero_add, W_some, W_seq, Q_cont_normal, Q_cont_ret, slc, O_append, wrote_some, O_store1, store1_slice, fillU_zero, fillU_succ, List.append_assoc, List.append_nil, rc, ro, hlen, n0, h1', decide_true, decide_false, u1, wo, Q_retE0]
      have hlt : po < K.length := (List.getElem?_eq_some_iff.1 ok).1
      have hfin : AM.finish H (tup []) (K.set po (.cells [.slice va vn vc] 0 false)) = K.set po (.cells [.slice va vn vc] 0 false) := by
        unfold AM.finish
        rw [if_neg]
        rintro ⟨_, h2⟩
        have hpo : po < H.length := hN _ npo
        have h3 : H[po]? = some (.cells [.slice va vn vc] 0 false) := by
          rw [← h2, List.getElem?_take, if_pos hpo, List.getElem?_set_self hlt]
        rw [env.oo] at h3
        have h4 : out = .slice va vn vc := by simpa using h3
        have l1 := pn.len []
        have l2 := u2.len []
        rw [h4, l2] at l1
        simp at l1; omega
      rw [hfin]
      have hset : ∀ (i : Nat) (o : AObj), i ≠ po → K[i]? = some o → (K.set po (.cells [.slice va vn vc] 0 false))[i]? = some o := fun i o hi ho => by rw [List.getElem?_set_ne (Ne.symm hi)]; exact ho
      refine ⟨.slice va vn vc, ⟨u3.set env.le _, env.le, env.n1, env.n2, hset _ _ env.n1 (u5 _ _ env.cc (pn.clear (.inl npc))), by rw [List.getElem?_set_self hlt], hset _ _ env.n2 (u5 _ _ env.ww (pn.clear (.inl npw)))⟩, ?_, by simp; exact u4, fun i o hi hne ho => hset i o hi (u5 i o ho hne), u6⟩
      have : PN N h1 (K.set po (.cells [.slice va vn vc] 0 false)) (.slice va vn vc) (L ++ [pre]) := u2.keep fun i o hi ho => hset i o (fun h => hi (h ▸ npo)) ho
      refine this.grow ?_
      rintro b (hb | ⟨hb, _⟩)
      · exact .inl hb
      · omega
    · have hk' : k < code.length := by omega
      have h1' : ¬ ((code.length : Int) ≤ (k : Int)) := by omega
      have hcH : InsSl H c code := hc.pre env.pre
      obtain ⟨b, o, v, a1, a2, a3⟩ := hcH.at hk'
      have hw : IntKind.i64.wrap ((k : Int) + 1) = ((k + 1 : Nat) : Int) := wrap_nat (by omega)
      obtain ⟨s, H2, w1, ownS, pS⟩ := clone_c (own.more [.cells (insL code[k]) 0 false]).sl (by rw [List.length_map]; omega)
      obtain ⟨s3, H3, q1, q2, q3, q4, q5, q6⟩ := ownS.push pS (row := [.int .i64 (k : Int)]) (bytes := 8) rfl (by rw [List.length_map]; unfold roomFor; omega)
      have own3 : Own (H ++ [.cells (insL code[k]) 0 false]) H3 s3 1 ((pre ++ [(k : Int)]).map intR) := by rw [List.map_append]; exact q2
      have pH3 : Pre H H3 := ((Pre.refl H).more _).trans q3
      have l3 : H.length + 1 ≤ H3.length := by have := q3.le; simpa using this
      have b3 : ∀ b, blk s3 = some b → H.length + 1 ≤ b := fun b hb => by have := (own3.lt hb).1; simpa using this
      have env3 := env.kept pH3
      have hpo : po < H.length := hN _ npo
      have hout : ∀ b, blk out = some b → b < H.length := fun b hb => (pn.lt hb).2
      have hpa : ∀ b, blk path = some b → b < H.length := fun b hb => (own.lt hb).2
      have pn3 : PN (fun b => (N b ∨ blk path = some b) ∨ blk s3 = some b) h1 H3 out L := by
        refine PN.keep (H := H) (pn.grow ?_) fun i o _ ho => pH3.kept i o ho
        rintro b (hb | hb)
        · exact .inl hb
        · have := b3 b hb; right; omega
      have o3 : Own h1 H3 s3 1 ((pre ++ [(k : Int)]).map intR) := own3.weak (by have := env.pre.le; simp; omega)
      obtain ⟨v4, H4, y1, out4, env4, pn4, l4, keep4, b4⟩ := ih (k + 1) (by omega) (by omega) H3 s3 out (pre ++ [(k : Int)]) L (fun b => N b ∨ blk path = some b) env3 pn3 o3
        (by rintro b (hb | hb)
            · have := hN b hb; omega
            · have := hpa b hb; omega)
        (by rintro b (hb | hb) h
            · have := hN b hb; have := b3 b h; omega
            · have := hpa b hb; have := b3 b h; omega)
        (.inl npc) (.inl npo) (.inl npw) (by omega) (by simp; omega)
      have h7 : H4[H.length]? = some (.cells (insL code[k]) 0 false) := by
        refine keep4 _ _ (by omega) (fun h => by have := hout _ h; omega) (q3.kept _ _ ?_)
        simp
      have r0 : Heap.read1 H4 ⟨H.length, 0, some 0⟩ = some (.int .i64 code[k].op) := by simp [Heap.read1, h7, insL_0]
      have r15 : Heap.read1 H4 ⟨H.length, 15, some 0⟩ = some (.int .i64 code[k].to) := by simp [Heap.read1, h7, insL_15]
      have rw3 := one_read env3.ww
      have rw4 := one_read env4.ww
      have many := paths_some code f (k + 1) (by omega)
      have fin : ∀ (K : Heap) (o' : Value) (N' : Nat → Prop) (L' : List (List Int)), Env h1 c pc po pw K o' → PN N' h1 K o' L' → L.length < L'.length → AM.finish H (tup []) K = K := by
        intro K o' N' L' envK pnK hl
        unfold AM.finish
        rw [if_neg]
        rintro ⟨_, h2⟩
        have h3 : H[po]? = some (.cells [o'] 0 false) := by
          rw [← h2, List.getElem?_take, if_pos hpo]; exact envK.oo
        rw [env.oo] at h3
        have h4 : out = o' := by simpa using h3
        have l1 := pn.len []
        have l2 := pnK.len []
        rw [h4, l2] at l1
        simp at l1; omega
      have hfuse : ∀ T : List (List Int), (T.map ((k : Int) :: ·)).map (pre ++ ·) = T.map ((pre ++ [(k : Int)]) ++ ·) := by
        intro T; rw [List.map_map]; apply List.map_congr_left; intro l _; simp
      have hpN : pathsN code (f + 1) k = (pathsN code f (k + 1)).map ((k : Int) :: ·) ++ if (code[k].op == 9) && (decide ((k : Int) + 1 < code[k].to) && decide (code[k].to ≤ (code.length : Int))) then (pathsN code f code[k].to.toNat).map ((k : Int) :: ·) else [] := by
        rw [pathsN, List.getElem?_eq_getElem hk']
      have keepA : ∀ (i : Nat) (o : AObj), i ≠ po → blk out ≠ some i → H[i]? = some o → H4[i]? = some o := fun i o hi hne ho => keep4 i o hi hne (pH3.kept i o ho)
      have bA : blk out4 = blk out ∨ ∃ i, blk out4 = some i ∧ H.length ≤ i := by
        rcases b4 with h | ⟨i, h, h'⟩
        · exact .inl h
        · exact .inr ⟨i, h, by omega⟩
      have done4 : (code[k].op == 9 && (decide ((k : Int) + 1 < code[k].to) && decide (code[k].to ≤ (code.length : Int)))) = false → ∃ out', Env h1 c pc po pw (AM.finish H (tup []) H4) out' ∧ PN (fun b => N b ∨ (k < code.length ∧ blk path = some b)) h1 (AM.finish H (tup []) H4) out' (L ++ (pathsN code (f + 1) k).map (pre ++ ·)) ∧ H.length ≤ (AM.finish H (tup []) H4).length ∧
        (∀ (i : Nat) (o : AObj), i ≠ po → blk out ≠ some i → H[i]? = some o → (AM.finish H (tup []) H4)[i]? = some o) ∧ (blk out' = blk out ∨ ∃ i, blk out' = some i ∧ H.length ≤ i) := by
        intro hz
        rw [fin H4 out4 _ _ env4 pn4 (by simp; omega), hpN, hz, if_neg (by simp), List.append_nil, hfuse]
        refine ⟨out4, env4, pn4.grow ?_, by omega, keepA, bA⟩
        rintro b (hb | ⟨_, hb⟩)
        · exact .inl (.inl (.inl hb))
        · exact .inl (.inl (.inr hb))
      cases h9 : (code[k].op == 9)
      · simp only [c_flow_Paths_1, C_ops, C_cond, D_skip, normal_some, cond_ff, E_nil, E_cons, E_guard, next_some, next_none, guard_ff, guard_tf, ev_tmp, ev_const, get_succ, get_zero, List.set_cons_succ, List.set_cons_zero, O_mv, O_pick, pickO, O_bin, pairO, O_call, List.map_cons, List.map_nil, O_len, O_atRow, O_load1, load1_ptr, O_load, load_ptr, O_mkRow, mk_some, partsV_nil, partsV_cons, zeros_zero, zeros_succ, fill_nil, fill_int, Nat.lt_add_one, B_add, B_eql, B_lss, B_geq, List.cons_append, List.nil_append, List.length_cons, List.length_nil, Nat.reduceAdd, Nat.reduceSub, Nat.zero_add, W_some, W_seq, Q_cont_normal, slc, O_append, O_alloc, O_off, off_ptr, wrote_some, O_store, store_agg, pre_some, write_skip0, write_there, fillU_zero, fillU_succ, List.append_nil, Nat.add_zero, Option.map_some, eq_self, rc, hlen, n0, h1', decide_false, a1, a3, insL_len, List.replicate_succ, List.replicate_zero, w1, q1, rw3, O_callv, closV, callv_func, hw, y1, r0, h9, Q_retE0']
        exact done4 (by rw [h9]; rfl)
      · by_cases g1 : ((k + 1 : Nat) : Int) < code[k].to
        · have g1' : (k : Int) + 1 < code[k].to := by omega
          have g2 : code[k].to ≤ (code.length : Int) := hto _ (List.getElem_mem _) (by simpa using h9)
          obtain ⟨m, hm⟩ : ∃ m : Nat, code[k].to = (m : Int) := ⟨code[k].to.toNat, by omega⟩
          have hk1 : k + 1 < code.length := by omega
          have o4 : Own h1 H4 s3 1 ((pre ++ [(k : Int)]).map intR) := o3.keep fun b hb o ho => keep4 b o (by have := b3 b hb; omega) (fun h => by have := hout b h; have := b3 b hb; omega) ho
          have many2 := pathsN_many code f (k + 1)
          obtain ⟨v5, H5, z1, out5, env5, pn5, l5, keep5, b5⟩ := ih m (by omega) (by omega) H4 s3 out4 (pre ++ [(k : Int)]) _ (fun b => N b ∨ blk path = some b) env4 (pn4.grow (by
              rintro b (hb | hb)
              · exact .inl (.inl hb)
              · exact .inl (.inr ⟨hk1, hb⟩))) o4
            (by rintro b (hb | hb)
                · have := hN b hb; omega
                · have := hpa b hb; omega)
            (by rintro b (hb | hb) h
                · have := hN b hb; have := b3 b h; omega
                · have := hpa b hb; have := b3 b h; omega)
            (.inl npc) (.inl npo) (.inl npw) (by simp only [List.length_append, List.length_map]; omega) (by simp; omega)
          rw [hm] at r15 g1
          simp only [c_flow_Paths_1, C_ops, C_cond, D_skip, normal_some, cond_tt, cond_ff, E_nil, E_cons, E_guard, next_some, next_none, guard_tt, guard_ff, ev_tmp, ev_const, get_succ, get_zero, List.set_cons_succ, List.set_cons_zero, O_mv, O_pick, pickO, O_bin, pairO, O_call, List.map_cons, List.map_nil, O_len, O_atRow, O_load1, load1_ptr, O_load, load_ptr, O_mkRow, mk_some, partsV_nil, partsV_cons, zeros_zero, zeros_succ, fill_nil, fill_int, Nat.lt_add_one, B_add, B_eql, B_lss, B_gtr, B_geq, List.cons_append, List.nil_append, List.length_cons, List.length_nil, Nat.reduceAdd, Nat.reduceSub, Nat.zero_add, W_some, W_seq, Q_cont_normal, slc, O_append, O_alloc, O_off, off_ptr, wrote_some, O_store, store_agg, pre_some, write_skip0, write_there, fillU_zero, fillU_succ, List.append_nil, Nat.add_zero, Option.map_some, eq_self, rc, hlen, n0, h1', decide_true, decide_false, a1, a3, insL_len, List.replicate_succ, List.replicate_zero, w1, q1, rw3, rw4, O_callv, closV, callv_func, hw, y1, r0, r15, h9, g1, z1, Q_retE0']
          rw [fin H5 out5 _ _ env5 pn5 (by simp; omega), hpN, h9]
          simp only [g1', g2, decide_true, Bool.and_self, if_true, List.map_append, hfuse]
          rw [hm, Int.toNat_natCast]
          rw [List.append_assoc] at pn5
          refine ⟨out5, env5, pn5.grow ?_, by omega, fun i o hi hne ho => keep5 i o hi ?_ (keepA i o hi hne ho), ?_⟩
          · rintro b (hb | ⟨_, hb⟩)
            · exact .inl (.inl (.inl hb))
            · exact .inl (.inl (.inr hb))
          · rcases bA with h | ⟨j, h, h'⟩
            · rw [h]; exact hne
            · rw [h]
              have := (List.getElem?_eq_some_iff.1 ho).1
              simp; omega
          · rcases b5 with h | ⟨j, h, h'⟩
            · rcases bA with h2 | ⟨j, h2, h'⟩
              · exact .inl (h.trans h2)
              · exact .inr ⟨j, h.trans h2, h'⟩
            · exact .inr ⟨j, h, by omega⟩
        · have g1' : ¬ ((k : Int) + 1 < code[k].to) := by omega
          simp only [c_flow_Paths_1, C_ops, C_cond, D_skip, normal_some, cond_ff, E_nil, E_cons, E_guard, next_some, next_none, guard_tt, guard_ff, ev_tmp, ev_const, get_succ, get_zero, List.set_cons_succ, List.set_cons_zero, O_mv, O_pick, pickO, O_bin, pairO, O_call, List.map_cons, List.map_nil, O_len, O_atRow, O_load1, load1_ptr, O_load, load_ptr, O_mkRow, mk_some, partsV_nil, partsV_cons, zeros_zero, zeros_succ, fill_nil, fill_int, Nat.lt_add_one, B_add, B_eql, B_lss, B_gtr, B_geq, List.cons_append, List.nil_append, List.length_cons, List.length_nil, Nat.reduceAdd, Nat.reduceSub, Nat.zero_add, W_some, W_seq, Q_cont_normal, slc, O_append, O_alloc, O_off, off_ptr, wrote_some, O_store, store_agg, pre_some, write_skip0, write_there, fillU_zero, fillU_succ, List.append_nil, Nat.add_zero, Option.map_some, eq_self, rc, hlen, n0, h1', decide_false, a1, a3, insL_len, List.replicate_succ, List.replicate_zero, w1, q1, rw3, O_callv, closV, callv_func, hw, y1, r0, r15, h9, g1, Q_retE0']
          exact done4 (by rw [h9]; simp [g1'])
end Go.Proofs.Ytoeoahpngmhkdaa.AM
