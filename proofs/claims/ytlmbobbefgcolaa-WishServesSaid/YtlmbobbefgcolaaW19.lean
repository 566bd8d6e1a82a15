/- Wishes: what 'WishServes' does. No conditions. -/
import Derived.Test.YtlmbobbefgcolaaW18
import Derived.Test.YtlmbobbefgcolaaW13
namespace Go.Proofs.Ytlmbobbefgcolaa
open Go Go.Eng

theorem take_mem' {l : List Int} {i : Nat} {z y : Int} (hz : l[i]? = some z) : y ∈ l.take (i + 1) ↔ y ∈ l.take i ∨ y = z := by
  rw [List.take_add_one, hz, List.mem_append]
  simp

/-- Who is sure is served by each giving that serves the most. -/
theorem sure_served {P : Int} {ls : List (List Int)} (hv : Val P ls) {g : List Int} (hg : Good P ls g) (hs : srv g = most P ls) {i : Nat} (hi : i < ls.length) (hb : sureB P ls i = true) : 0 ≤ has g i := by
  have hP : 0 ≤ P := by have := hv.hP; omega
  refine Classical.byContradiction fun hn => ?_
  have hin : ∀ l ∈ ls, ∀ q ∈ l, inP P q := fun l hl => (hv.l l hl).1
  unfold sureB at hb
  rw [decide_eq_true_iff] at hb
  have hgd : Good P (drp ls i) g := by
    have hl := drp_len ls (i : Int)
    refine ⟨by rw [hg.len, hl], fun k hk => hg.rng k (by rw [← hl]; exact hk), fun k hk h0 => ?_, fun a b ha hb => hg.inj a b (by rw [← hl]; exact ha) (by rw [← hl]; exact hb)⟩
    rw [hl] at hk
    rw [drp_lst hk]
    rw [if_neg (fun e => ?_)]
    · exact hg.wish k hk h0
    · have : k = i := by omega
      rw [this] at h0
      exact hn h0
  have := (most_spec hP (drp_in hin i)).2 g hgd
  omega

theorem mem_sureL {P : Int} {ls : List (List Int)} {i : Int} (h : i ∈ sureL P ls) : vW P ls = 0 ∧ (0 ≤ i ∧ i < ls.length) ∧ sureB P ls i = true := by
  unfold sureL at h
  split at h
  · rename_i h0
    obtain ⟨h1, h2⟩ := List.mem_filter.1 h
    exact ⟨h0, mem_nums.1 h1, h2⟩
  · simp at h
theorem mem_needL {P : Int} {ls : List (List Int)} {i : Int} (h : i ∈ needL P ls) : vW P ls = 0 ∧ 0 ≤ i ∧ needB P ls i = true := by
  unfold needL at h
  split at h
  · rename_i h0
    obtain ⟨h1, h2⟩ := List.mem_filter.1 h
    exact ⟨h0, (mem_nums.1 h1).1, h2⟩
  · simp at h

set_option maxRecDepth 100000 in
set_option maxHeartbeats 4000000 in
theorem s6 {P : Int} {ws : List (AV × List Int)} {v : AV} {g : List Int} {u : AV} {A : AHeap} (hw : LL A v ws) (hl : ws.length ≤ 9223372036854775807) (hg : L1 A u g) : ACalls Try.prog 6 [.agg [I P, v], u] A (B true) A := by
  refine acalls hmix Try.func6 (by kernel_rfl) t6 2 rfl (by decide) ?_
  dsimp only [m6]
  simp (maxSteps := 4000000) -implicitDefEqProofs -dsimp (disch := omega) only [↓AW_ops, ↓AW_seq, ↓AOps_nil, ↓AOps_pu, ↓AOps_call, on_some, ↓then_normal, pval, rd_S, rd_C, put_S, chkd, bgot, AV.cells?, partA, eq_self, List.replicate_succ, List.replicate_zero, List.set_cons_zero, List.set_cons_succ, List.getElem?_cons_zero, List.getElem?_cons_succ, List.drop_zero, List.take_succ_cons, List.take_nil, Option.getD_some, map_c, map_n, List.length_cons, List.length_nil, Nat.reduceAdd, Nat.reduceSub, Nat.reduceLeDiff, Nat.reduceEqDiff, Nat.zero_add, List.cons_append, List.nil_append, if_true, if_false]
  refine CallK.of (s17 hw hl) ?_
  by_cases h : longW ws
  · rw [decide_eq_true h]
    simp (maxSteps := 4000000) -implicitDefEqProofs -dsimp (disch := omega) only [↓AW_ops, ↓AW_seq, ↓AW_cond, ↓AOps_nil, ↓AOps_pu, ↓AOps_call, ↓AOps_guard, on_some, extK_same, guardB_tf, skipS_some, condB_t, ↓then_normal, pval, rd_S, rd_C, put_S, eq_self, List.replicate_succ, List.replicate_zero, List.set_cons_zero, List.set_cons_succ, List.getElem?_cons_zero, List.getElem?_cons_succ, Option.getD_some, map_n, Nat.reduceSub, List.cons_append, List.nil_append, if_true]
    refine CallK.of (known A) ?_
    simp (maxSteps := 4000000) -implicitDefEqProofs -dsimp (disch := omega) only [↓AW_ret, ↓AOps_nil, ↓AOps_pu, on_some, extK_same, skipS_some, ↓then_normal, ↓then_ret, ↓Fin_ret, pval, rd_S, put_S, resV, resL, List.replicate_succ, List.replicate_zero, List.set_cons_zero, List.set_cons_succ, List.getElem?_cons_zero, List.getElem?_cons_succ, Option.getD_some, Nat.reduceSub, List.cons_append, List.nil_append]
    exact gc_same rfl
  · have hs := Sz_of h
    have hs1 := hs.1
    have l1 := sureL_le (P := P) (ls := lists ws)
    have l2 := needL_le (P := P) (ls := lists ws)
    rw [List.length_map] at l1
    rw [decide_eq_false h]
    simp (maxSteps := 4000000) -implicitDefEqProofs -dsimp (disch := omega) only [↓AOps_pu, ↓AOps_call, ↓AOps_guard, on_some, extK_same, guardB_ff, pval, rd_S, put_S, List.replicate_succ, List.replicate_zero, List.set_cons_zero, List.set_cons_succ, List.getElem?_cons_zero, List.getElem?_cons_succ, Option.getD_some, map_c, map_n, Nat.reduceSub, List.cons_append, List.nil_append]
    refine CallK.of (s32 hg) ?_
    by_cases hgl : (40 : Int) < g.length
    · simp (maxSteps := 4000000) -implicitDefEqProofs -dsimp (disch := omega) only [↓AW_ops, ↓AW_seq, ↓AW_cond, ↓AOps_nil, ↓AOps_pu, ↓AOps_call, on_some, extK_same, condB_t, ↓then_normal, pval, rd_S, rd_C, put_S, List.replicate_succ, List.replicate_zero, List.set_cons_zero, List.set_cons_succ, List.getElem?_cons_zero, List.getElem?_cons_succ, Option.getD_some, map_n, Nat.reduceSub, List.cons_append, List.nil_append, if_false, Bool.false_eq_true, decide_true, hgl]
      refine CallK.of (known A) ?_
      simp (maxSteps := 4000000) -implicitDefEqProofs -dsimp (disch := omega) only [↓AW_ret, ↓AOps_nil, ↓AOps_pu, on_some, extK_same, ↓then_normal, ↓then_ret, ↓Fin_ret, pval, rd_S, put_S, resV, resL, List.replicate_succ, List.replicate_zero, List.set_cons_zero, List.set_cons_succ, List.getElem?_cons_zero, List.getElem?_cons_succ, Option.getD_some, Nat.reduceSub, List.cons_append, List.nil_append]
      exact gc_same rfl
    · simp (maxSteps := 4000000) -implicitDefEqProofs -dsimp (disch := omega) only [↓AW_skip, ↓AW_ops, ↓AW_seq, ↓AW_cond, ↓AOps_nil, ↓AOps_pu, ↓AOps_call, on_some, extK_same, condB_f, ↓then_normal, pval, rd_S, rd_C, put_S, chkd, bgot, partA, eq_self, List.replicate_succ, List.replicate_zero, List.set_cons_zero, List.set_cons_succ, List.getElem?_cons_zero, List.getElem?_cons_succ, List.drop_zero, List.take_succ_cons, List.take_nil, Option.getD_some, map_c, map_n, List.length_cons, List.length_nil, Nat.reduceAdd, Nat.reduceSub, Nat.reduceLeDiff, Nat.reduceEqDiff, Nat.zero_add, List.cons_append, List.nil_append, if_true, if_false, Bool.false_eq_true, decide_false, hgl]
      refine CallK.of (s33 hw hs hg (by omega)) ?_
      simp (maxSteps := 4000000) -implicitDefEqProofs -dsimp (disch := omega) only [↓AW_ops, ↓AW_seq, ↓AOps_nil, ↓AOps_pu, ↓AOps_call, on_some, extK_same, ↓then_normal, pval, rd_S, put_S, chkd, bgot, partA, eq_self, List.replicate_succ, List.replicate_zero, List.set_cons_zero, List.set_cons_succ, List.getElem?_cons_zero, List.getElem?_cons_succ, List.drop_zero, List.take_succ_cons, List.take_nil, Option.getD_some, map_c, map_n, List.length_cons, List.length_nil, Nat.reduceAdd, Nat.reduceSub, Nat.reduceLeDiff, Nat.reduceEqDiff, Nat.zero_add, List.cons_append, List.nil_append, if_true, if_false]
      refine CallK.of (s24 hw hs) ?_
      by_cases hE : gE P (lists ws) g = 0
      · obtain ⟨h0, hgood⟩ := good_iff.1 hE
        have hv := val_of h0
        have hP : 0 ≤ P := by have := hv.hP; omega
        have hin : ∀ l ∈ lists ws, ∀ q ∈ l, inP P q := fun l hl => (hv.l l hl).1
        have hle := (most_spec hP hin).2 g hgood
        have hN : gN P (lists ws) g = srv g := by unfold gN; rw [if_pos hE]
        have hM : mostN P (lists ws) = most P (lists ws) := by unfold mostN; rw [if_pos h0]
        have hle' : ((srv g : Nat) : Int) ≤ ((most P (lists ws) : Nat) : Int) := by omega
        rw [hN, hM]
        by_cases hlt : ((srv g : Nat) : Int) < ((most P (lists ws) : Nat) : Int)
        · simp (maxSteps := 4000000) -implicitDefEqProofs -dsimp (disch := omega) only [↓AW_ops, ↓AW_seq, ↓AW_cond, ↓AOps_nil, ↓AOps_pu, ↓AOps_call, ↓AOps_guard, on_some, extK_same, guardB_tt, guardB_ff, condB_t, ↓then_normal, pval, rd_S, rd_C, put_S, eq_self, List.replicate_succ, List.replicate_zero, List.set_cons_zero, List.set_cons_succ, List.getElem?_cons_zero, List.getElem?_cons_succ, Option.getD_some, map_n, Nat.reduceSub, List.cons_append, List.nil_append, bin_neq, bin_lss, bin_leq, if_false, Bool.false_eq_true, decide_true, decide_false, not_true_eq_false, hE, h0, hlt, hle']
          refine CallK.of (known A) ?_
          simp (maxSteps := 4000000) -implicitDefEqProofs -dsimp (disch := omega) only [↓AW_ret, ↓AOps_nil, ↓AOps_pu, on_some, extK_same, ↓then_normal, ↓then_ret, ↓Fin_ret, pval, rd_S, rd_C, put_S, resV, resL, eq_self, List.replicate_succ, List.replicate_zero, List.set_cons_zero, List.set_cons_succ, List.getElem?_cons_zero, List.getElem?_cons_succ, Option.getD_some, Nat.reduceSub, List.cons_append, List.nil_append, if_true]
          exact gc_same rfl
        · have hgt : ¬ ((most P (lists ws) : Nat) : Int) < ((srv g : Nat) : Int) := by omega
          have hsm : srv g = most P (lists ws) := by omega
          have hlen : g.length = ws.length := by simpa using hgood.len
          simp (maxSteps := 4000000) -implicitDefEqProofs -dsimp (disch := omega) only [↓AW_skip, ↓AW_ops, ↓AW_seq, ↓AW_cond, ↓AOps_nil, ↓AOps_pu, ↓AOps_call, ↓AOps_guard, on_some, extK_same, guardB_ff, condB_f, ↓then_normal, pval, rd_S, rd_C, put_S, chkd, bgot, partA, eq_self, List.replicate_succ, List.replicate_zero, List.set_cons_zero, List.set_cons_succ, List.getElem?_cons_zero, List.getElem?_cons_succ, List.drop_zero, List.take_succ_cons, List.take_nil, Option.getD_some, map_c, map_n, List.length_cons, List.length_nil, Nat.reduceAdd, Nat.reduceSub, Nat.reduceLeDiff, Nat.reduceEqDiff, Nat.zero_add, List.cons_append, List.nil_append, bin_neq, bin_lss, if_true, if_false, Bool.false_eq_true, decide_false, not_true_eq_false, hE, h0, hlt]
          refine CallK.of (s19 hw hs) ?_
          have p1 := pre_out A ((sureL P (lists ws)).flatMap Go.Eng.e1) (sureL P (lists ws)).length
          have hL1 := Ls_out A e1_len (sureL P (lists ws))
          generalize outH A ((sureL P (lists ws)).flatMap Go.Eng.e1) (sureL P (lists ws)).length = A1 at *
          generalize outV 1 A (sureL P (lists ws)).length = y1 at *
          simp (maxSteps := 4000000) -implicitDefEqProofs -dsimp (disch := omega) only [↓AW_ops, ↓AW_seq, ↓AOps_nil, ↓AOps_pu, ↓AOps_call, on_some, extK_false, ↓then_normal, pval, rd_S, put_S, chkd, bgot, partA, eq_self, List.replicate_succ, List.replicate_zero, List.set_cons_zero, List.set_cons_succ, List.getElem?_cons_zero, List.getElem?_cons_succ, List.drop_zero, List.take_succ_cons, List.take_nil, Option.getD_some, map_c, map_n, List.length_cons, List.length_nil, Nat.reduceAdd, Nat.reduceSub, Nat.reduceLeDiff, Nat.reduceEqDiff, Nat.zero_add, List.cons_append, List.nil_append, if_true, if_false]
          refine CallK.of (s21 (hw.mono p1) hs) ?_
          have p2 := pre_out A1 ((needL P (lists ws)).flatMap Go.Eng.e1) (needL P (lists ws)).length
          have hL2 := Ls_out A1 e1_len (needL P (lists ws))
          generalize outH A1 ((needL P (lists ws)).flatMap Go.Eng.e1) (needL P (lists ws)).length = A2 at *
          generalize outV 1 A1 (needL P (lists ws)).length = y2 at *
          have hL1' := hL1.mono p2
          have hg2 := hg.mono (p1.trans p2)
          simp (maxSteps := 4000000) -implicitDefEqProofs -dsimp (disch := omega) only [↓AW_skip, ↓AW_ops, ↓AW_seq, ↓AW_cond, ↓AW_block, ↓AOps_nil, ↓AOps_pu, ↓AOps_guard, on_some, extK_false, guardB_ff, condB_f, ↓then_normal, pval, rd_S, rd_C, put_S, ↓AW_toLoop, eq_self, List.replicate_succ, List.replicate_zero, List.set_cons_zero, List.set_cons_succ, List.getElem?_cons_zero, List.getElem?_cons_succ, Option.getD_some, Nat.reduceSub, List.cons_append, List.nil_append, bin_neq, bin_gtr, if_false, Bool.false_eq_true, decide_false, not_true_eq_false, h0, hgt]
          refine LoopK.by 134 (fun i : Nat => i ≤ (sureL P (lists ws)).length) (fun i => [(1, u), (9, y1), (11, y2), (13, I i)]) (fun _ => A2) (fun i => (sureL P (lists ws)).length - i) 0 (by omega) rfl (by simp [Has, rd_s]) rfl ?_
          intro i hi
          by_cases hlti : i < (sureL P (lists ws)).length
          · have hlti' : (i : Int) < (sureL P (lists ws)).length := by omega
            obtain ⟨z, hz⟩ : ∃ z, (sureL P (lists ws))[i]? = some z := ⟨_, List.getElem?_eq_getElem hlti⟩
            obtain ⟨_, ⟨z0, z1⟩, zb⟩ := mem_sureL (List.mem_of_getElem? hz)
            rw [List.length_map] at z1
            obtain ⟨k, rfl⟩ : ∃ k : Nat, z = k := ⟨z.toNat, by omega⟩
            have hkl : k < g.length := by omega
            have hsv := sure_served hv hgood hsm (i := k) (by simp; omega) zb
            obtain ⟨q, hq⟩ : ∃ q, g[k]? = some q := ⟨_, List.getElem?_eq_getElem hkl⟩
            rw [has_get hq] at hsv
            have n1 : ¬ (k : Int) < 0 := by omega
            have n2 : ¬ (g.length : Int) ≤ (k : Int) := by omega
            have n3 : ¬ q < 0 := by omega
            simp (maxSteps := 4000000) -implicitDefEqProofs -dsimp (disch := omega) only [↓AW_skip, ↓AW_ops, ↓AW_seq, ↓AW_cond, ↓AW_block, ↓AOps_nil, ↓AOps_pu, ↓AOps_ld, ↓AOps_guard, on_some, guardB_ff, condB_t, condB_f, ↓then_normal, ↓inBlock_normal, pval, lval, rd_S, rd_C, put_S, partA, eq_self, mk, List.foldl_cons, List.foldl_nil, List.replicate_succ, List.replicate_zero, List.set_cons_zero, List.set_cons_succ, List.getElem?_cons_zero, List.getElem?_cons_succ, List.drop_zero, List.take_succ_cons, List.take_nil, Option.getD_some, List.length_cons, List.length_nil, Nat.reduceAdd, Nat.reduceLeDiff, Nat.zero_add, bin_add, bin_lss, bin_geq, w64, if_true, if_false, Bool.false_eq_true, decide_true, decide_false, Go.Eng.e1, true_and, hlti', hL1'.len, hL1'.idx hlti, hL1'.ld0 hz 1 false (by decide), n1, hg2.len, n2, hg2.idx hkl, hg2.ld0 hq 1 false (by decide), n3]
            exact ⟨i + 1, hlti, by simp [Has, rd_s], by omega⟩
          · have hlti' : ¬ ((i : Int) < (sureL P (lists ws)).length) := by omega
            simp (maxSteps := 4000000) -implicitDefEqProofs -dsimp (disch := omega) only [↓AW_ops, ↓AW_seq, ↓AW_cond, ↓AW_block, ↓AW_exit, ↓AOps_nil, ↓AOps_pu, on_some, condB_f, ↓then_normal, ↓then_exit, ↓inBlock_exit, pval, rd_S, rd_C, put_S, ↓AW_toLoop, eq_self, mk, List.foldl_cons, List.foldl_nil, List.replicate_succ, List.replicate_zero, List.set_cons_zero, List.set_cons_succ, List.getElem?_cons_zero, List.getElem?_cons_succ, Option.getD_some, bin_lss, if_true, decide_false, hlti', hL1'.len]
            refine LoopK.by 134 (fun i : Nat => i ≤ (needL P (lists ws)).length) (fun i => [(1, u), (11, y2), (14, I i)]) (fun _ => A2) (fun i => (needL P (lists ws)).length - i) 0 (by omega) rfl (by simp [Has, rd_s]) rfl ?_
            intro j hj
            by_cases hltj : j < (needL P (lists ws)).length
            · have hltj' : (j : Int) < (needL P (lists ws)).length := by omega
              obtain ⟨z, hz⟩ : ∃ z, (needL P (lists ws))[j]? = some z := ⟨_, List.getElem?_eq_getElem hltj⟩
              obtain ⟨_, z0, zb⟩ := mem_needL (List.mem_of_getElem? hz)
              have hmem := (need_iff hv z0).1 zb g hgood hsm
              simp (maxSteps := 4000000) -implicitDefEqProofs -dsimp (disch := omega) only [↓AW_skip, ↓AW_ops, ↓AW_seq, ↓AW_cond, ↓AW_block, ↓AOps_nil, ↓AOps_pu, on_some, condB_t, ↓then_normal, pval, rd_S, rd_C, put_S, ↓AW_toLoop, mk, List.foldl_cons, List.foldl_nil, List.replicate_succ, List.replicate_zero, List.set_cons_zero, List.set_cons_succ, List.getElem?_cons_zero, List.getElem?_cons_succ, Option.getD_some, bin_lss, decide_true, hltj', hL2.len]
              refine LoopK.by 134 (fun k : Nat => k ≤ g.length) (fun k => [(1, u), (11, y2), (14, I j), (15, B (decide (z ∈ g.take k))), (16, I k)]) (fun _ => A2) (fun k => g.length - k) 0 (by omega) rfl (by simp [Has, rd_s]) rfl ?_
              intro k hk
              by_cases hltk : k < g.length
              · have hltk' : (k : Int) < g.length := by omega
                obtain ⟨q, hq⟩ : ∃ q, g[k]? = some q := ⟨_, List.getElem?_eq_getElem hltk⟩
                have htm := take_mem' (y := z) hq
                by_cases hm : z ∈ g.take k
                · simp (maxSteps := 4000000) -implicitDefEqProofs -dsimp (disch := omega) only [↓AW_skip, ↓AW_ops, ↓AW_seq, ↓AW_cond, ↓AW_block, ↓AOps_nil, ↓AOps_pu, ↓AOps_guard, on_some, guardB_tf, skipS_some, condB_t, ↓then_normal, ↓inBlock_normal, pval, rd_S, rd_C, put_S, eq_self, mk, List.foldl_cons, List.foldl_nil, List.replicate_succ, List.replicate_zero, List.set_cons_zero, List.set_cons_succ, List.getElem?_cons_zero, List.getElem?_cons_succ, Option.getD_some, List.length_cons, List.length_nil, Nat.reduceAdd, Nat.zero_add, bin_add, bin_lss, w64, if_true, decide_true, true_and, hltk', hg2.len, hm]
                  exact ⟨k + 1, hltk, by simp [Has, rd_s, htm, hm], by omega⟩
                · have hdd : decide (z ∈ g.take k) = false := decide_eq_false hm
                  rw [hdd]
                  by_cases hqz : q = z
                  · subst hqz
                    simp (maxSteps := 4000000) -implicitDefEqProofs -dsimp (disch := omega) only [↓AW_skip, ↓AW_ops, ↓AW_seq, ↓AW_cond, ↓AW_block, ↓AOps_nil, ↓AOps_pu, ↓AOps_ld, ↓AOps_guard, on_some, guardB_ff, condB_t, ↓then_normal, ↓inBlock_normal, pval, lval, rd_S, rd_C, put_S, partA, eq_self, mk, List.foldl_cons, List.foldl_nil, List.replicate_succ, List.replicate_zero, List.set_cons_zero, List.set_cons_succ, List.getElem?_cons_zero, List.getElem?_cons_succ, List.drop_zero, List.take_succ_cons, List.take_nil, Option.getD_some, List.length_cons, List.length_nil, Nat.reduceAdd, Nat.reduceLeDiff, Nat.zero_add, bin_add, bin_eql, bin_lss, w64, if_true, if_false, Bool.false_eq_true, decide_true, Go.Eng.e1, true_and, hltk', hg2.len, hg2.idx hltk, hg2.ld0 hq 1 false (by decide), hL2.idx hltj, hL2.ld0 hz 1 false (by decide)]
                    exact ⟨k + 1, hltk, by simp [Has, rd_s, htm], by omega⟩
                  · have hzq : ¬ z = q := fun e => hqz e.symm
                    simp (maxSteps := 4000000) -implicitDefEqProofs -dsimp (disch := omega) only [↓AW_skip, ↓AW_ops, ↓AW_seq, ↓AW_cond, ↓AW_block, ↓AOps_nil, ↓AOps_pu, ↓AOps_ld, ↓AOps_guard, on_some, guardB_ff, condB_t, ↓then_normal, ↓inBlock_normal, pval, lval, rd_S, rd_C, put_S, partA, eq_self, mk, List.foldl_cons, List.foldl_nil, List.replicate_succ, List.replicate_zero, List.set_cons_zero, List.set_cons_succ, List.getElem?_cons_zero, List.getElem?_cons_succ, List.drop_zero, List.take_succ_cons, List.take_nil, Option.getD_some, List.length_cons, List.length_nil, Nat.reduceAdd, Nat.reduceLeDiff, Nat.zero_add, bin_add, bin_eql, bin_lss, w64, if_true, if_false, Bool.false_eq_true, decide_true, decide_false, Go.Eng.e1, true_and, hltk', hg2.len, hg2.idx hltk, hg2.ld0 hq 1 false (by decide), hL2.idx hltj, hL2.ld0 hz 1 false (by decide), hqz]
                    exact ⟨k + 1, hltk, by simp [Has, rd_s, htm, hm, hzq], by omega⟩
              · have hltk' : ¬ ((k : Int) < g.length) := by omega
                rw [List.take_of_length_le (by omega), decide_eq_true hmem]
                simp (maxSteps := 4000000) -implicitDefEqProofs -dsimp (disch := omega) only [↓AW_skip, ↓AW_ops, ↓AW_seq, ↓AW_cond, ↓AW_exit, ↓AOps_nil, ↓AOps_pu, ↓AOps_call, on_some, condB_f, ↓then_normal, ↓then_exit, ↓inBlock_normal, ↓inBlock_exit, pval, rd_S, rd_C, put_S, eq_self, mk, List.foldl_cons, List.foldl_nil, List.replicate_succ, List.replicate_zero, List.set_cons_zero, List.set_cons_succ, List.getElem?_cons_zero, List.getElem?_cons_succ, Option.getD_some, map_n, List.length_cons, List.length_nil, Nat.reduceAdd, Nat.reduceEqDiff, Nat.zero_add, bin_add, bin_lss, w64, if_true, if_false, Bool.not_true, decide_false, true_and, hltk', hg2.len]
                exact ⟨j + 1, hltj, by simp [Has, rd_s], by omega⟩
            · have hltj' : ¬ ((j : Int) < (needL P (lists ws)).length) := by omega
              simp (maxSteps := 4000000) -implicitDefEqProofs -dsimp (disch := omega) only [↓AW_ops, ↓AW_seq, ↓AW_cond, ↓AW_exit, ↓AOps_nil, ↓AOps_pu, ↓AOps_call, on_some, condB_f, ↓then_normal, ↓then_exit, ↓inBlock_exit, pval, rd_S, put_S, eq_self, mk, List.foldl_cons, List.foldl_nil, List.replicate_succ, List.replicate_zero, List.set_cons_zero, List.set_cons_succ, List.getElem?_cons_zero, List.getElem?_cons_succ, Option.getD_some, map_n, bin_lss, if_true, decide_false, hltj', hL2.len]
              refine CallK.of (known _) ?_
              simp (maxSteps := 4000000) -implicitDefEqProofs -dsimp (disch := omega) only [↓AW_ret, ↓AOps_nil, ↓AOps_pu, on_some, extK_same, ↓then_normal, ↓Fin_ret, pval, rd_S, put_S, resV, resL, mk, List.foldl_cons, List.foldl_nil, List.replicate_succ, List.replicate_zero, List.set_cons_zero, List.set_cons_succ, List.getElem?_cons_zero, List.getElem?_cons_succ, Option.getD_some]
              exact gc_val (p1.trans p2) rfl
      · simp (maxSteps := 4000000) -implicitDefEqProofs -dsimp (disch := omega) only [↓AW_ops, ↓AW_seq, ↓AW_cond, ↓AOps_nil, ↓AOps_pu, ↓AOps_call, ↓AOps_guard, on_some, extK_same, guardB_tt, guardB_tf, skipS_some, condB_t, ↓then_normal, pval, rd_S, rd_C, put_S, eq_self, List.replicate_succ, List.replicate_zero, List.set_cons_zero, List.set_cons_succ, List.getElem?_cons_zero, List.getElem?_cons_succ, Option.getD_some, map_n, Nat.reduceSub, List.cons_append, List.nil_append, bin_neq, if_true, decide_true, not_false_eq_true, hE]
        refine CallK.of (known A) ?_
        simp (maxSteps := 4000000) -implicitDefEqProofs -dsimp (disch := omega) only [↓AW_ret, ↓AOps_nil, ↓AOps_pu, on_some, extK_same, skipS_some, ↓then_normal, ↓then_ret, ↓Fin_ret, pval, rd_S, rd_C, put_S, resV, resL, eq_self, List.replicate_succ, List.replicate_zero, List.set_cons_zero, List.set_cons_succ, List.getElem?_cons_zero, List.getElem?_cons_succ, Option.getD_some, Nat.reduceSub, List.cons_append, List.nil_append, if_true]
        exact gc_same rfl

end Go.Proofs.Ytlmbobbefgcolaa
