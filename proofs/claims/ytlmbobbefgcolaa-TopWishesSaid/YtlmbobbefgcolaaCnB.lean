/- What the law's proof rests on, part 4: for all that is said in each line. No conditions. -/
import Derived.Test.YtlmbobbefgcolaaRows
import Derived.Test.YtlmbobbefgcolaaCnA
namespace Go.Proofs.Ytlmbobbefgcolaa
open Go Go.Eng
theorem s27 {P : Int} {ws : List (AV × List Int)} {v : AV} {g : List Int} {u : AV} {A : AHeap} (hw : LL A v ws) (hs : Sz ws) (hg : L1 A u g) (hgl : g.length ≤ 1000000) : ACalls Try.prog 27 [.agg [I P, v], u] A (.tuple [I (gN P (lists ws) g), I (gE P (lists ws) g)]) A := by
  refine acalls hmix Try.func27 (by kernel_rfl) t27 2 rfl (by decide) ?_
  dsimp only [m27]
  simp (maxSteps := 4000000) -implicitDefEqProofs -dsimp (disch := omega) only [↓AW_ops, ↓AW_seq, ↓AOps_nil, ↓AOps_pu, ↓AOps_call, on_some, ↓then_normal, pval, rd_S, rd_C, put_S, chkd, bgot, AV.cells?, partA, eq_self, List.replicate_succ, List.replicate_zero, List.set_cons_zero, List.set_cons_succ, List.getElem?_cons_zero, List.getElem?_cons_succ, List.drop_zero, List.take_succ_cons, List.take_nil, Option.getD_some, map_c, map_n, List.length_cons, List.length_nil, Nat.reduceAdd, Nat.reduceSub, Nat.reduceLeDiff, Nat.reduceEqDiff, Nat.zero_add, List.cons_append, List.nil_append, if_true, if_false]
  refine CallK.of (s40 hw hs) ?_
  by_cases h0 : vW P (lists ws) = 0
  · by_cases hlen : g.length = ws.length
    · have hlen' : (g.length : Int) = ws.length := by omega
      have hP : 1 ≤ P ∧ P ≤ 7 := by
        rcases Decidable.em (1 ≤ P ∧ P ≤ 7) with h | h
        · exact h
        · rw [vW_P h] at h0; cases h0
      simp (maxSteps := 4000000) -implicitDefEqProofs -dsimp (disch := omega) only [↓AW_skip, ↓AW_ops, ↓AW_seq, ↓AW_cond, ↓AW_block, ↓AOps_nil, ↓AOps_pu, on_some, extK_same, condB_f, ↓then_normal, pval, rd_S, rd_C, put_S, ↓AW_toLoop, chkd, isAdr, bgot, AV.cells?, partA, eq_self, List.replicate_succ, List.replicate_zero, List.set_cons_zero, List.set_cons_succ, List.getElem?_cons_zero, List.getElem?_cons_succ, List.drop_zero, List.drop_succ_cons, List.take_succ_cons, List.take_nil, Option.getD_some, List.length_cons, List.length_nil, Nat.reduceAdd, Nat.reduceSub, Nat.reduceLeDiff, Nat.zero_add, List.cons_append, List.nil_append, bin_neq, if_true, if_false, Bool.false_eq_true, decide_false, not_true_eq_false, h0, hg.len, hw.ls.len, hlen']
      refine LoopK.by 83 (fun i : Nat => i ≤ g.length ∧ ∀ p ∈ g.take i, gR P p) (fun i => [(1, u), (2, .agg [I P, v]), (7, I i)]) (fun _ => A) (fun i => g.length - i) 0 ⟨by omega, by simp⟩ rfl (by simp [Has, rd_s]) rfl ?_
      rintro i ⟨hi, hr⟩
      by_cases hlt : i < g.length
      · obtain ⟨z, hz⟩ : ∃ z, g[i]? = some z := ⟨_, List.getElem?_eq_getElem hlt⟩
        have hlt' : (i : Int) < g.length := by omega
        simp (maxSteps := 4000000) -implicitDefEqProofs -dsimp (disch := omega) only [↓AW_skip, ↓AW_ops, ↓AW_seq, ↓AW_cond, ↓AW_block, ↓AOps_nil, ↓AOps_pu, ↓AOps_ld, ↓AOps_call, on_some, condB_t, ↓then_normal, pval, lval, rd_S, rd_C, put_S, chkd, isAdr, bgot, AV.cells?, partA, eq_self, mk, List.foldl_cons, List.foldl_nil, List.replicate_succ, List.replicate_zero, List.set_cons_zero, List.set_cons_succ, List.getElem?_cons_zero, List.getElem?_cons_succ, List.drop_zero, List.take_zero, List.take_succ_cons, List.take_nil, Option.getD_some, map_c, map_n, List.length_cons, List.length_nil, Nat.reduceAdd, Nat.reduceLeDiff, Nat.zero_add, bin_sub, bin_lss, w64, if_true, if_false, Bool.false_eq_true, decide_true, Go.Eng.e1, Int.reduceNeg, hlt', hg.len, hg.idx hlt, hg.ld0 hz 1 false (by decide)]
        refine CallK.of (s64 _ _ _ _) ?_
        by_cases hc : -1 ≤ z ∧ z ≤ P - 1
        · simp (maxSteps := 4000000) -implicitDefEqProofs -dsimp (disch := omega) only [↓AW_skip, ↓AW_ops, ↓AW_cond, ↓AOps_nil, ↓AOps_pu, on_some, extK_same, condB_f, ↓then_normal, ↓inBlock_normal, pval, rd_S, rd_C, put_S, eq_self, mk, List.foldl_cons, List.foldl_nil, List.replicate_succ, List.replicate_zero, List.set_cons_zero, List.set_cons_succ, List.getElem?_cons_zero, List.getElem?_cons_succ, Option.getD_some, List.length_cons, List.length_nil, Nat.reduceAdd, Nat.zero_add, bin_add, w64, Bool.not_true, decide_true, true_and, and_true, Int.reduceNeg, hc]
          exact ⟨i + 1, ⟨hlt, all_take hr hz ⟨by omega, by omega⟩⟩, by simp [Has, rd_s], by omega⟩
        · simp (maxSteps := 4000000) -implicitDefEqProofs -dsimp (disch := omega) only [↓AW_ops, ↓AW_seq, ↓AW_cond, ↓AW_ret, ↓AOps_nil, ↓AOps_pu, on_some, extK_same, condB_t, ↓then_normal, ↓then_ret, ↓inBlock_ret, ↓Fin_ret, pval, rd_S, rd_C, put_S, resV, resL, mk, List.foldl_cons, List.foldl_nil, List.replicate_succ, List.replicate_zero, List.set_cons_zero, List.set_cons_succ, List.getElem?_cons_zero, List.getElem?_cons_succ, Option.getD_some, Bool.not_false, decide_false, Int.reduceNeg, hc]
          have hE := gE_1 (g := g) h0 (fun h => hc (by have := h.2 z (List.mem_of_getElem? hz); exact ⟨this.1, by have := this.2; omega⟩))
          exact gc_same (by simp [gN, hE])
      · have hlt' : ¬ ((i : Int) < g.length) := by omega
        rw [List.take_of_length_le (by omega)] at hr
        have h1 : g.length = (lists ws).length ∧ ∀ p ∈ g, gR P p := ⟨by simp [hlen], hr⟩
        simp (maxSteps := 4000000) -implicitDefEqProofs -dsimp (disch := omega) only [↓AW_ops, ↓AW_seq, ↓AW_cond, ↓AW_block, ↓AW_exit, ↓AOps_nil, ↓AOps_pu, on_some, condB_f, ↓then_normal, ↓then_exit, ↓inBlock_exit, pval, rd_S, rd_C, put_S, ↓AW_toLoop, eq_self, mk, List.foldl_cons, List.foldl_nil, List.replicate_succ, List.replicate_zero, List.set_cons_zero, List.set_cons_succ, List.getElem?_cons_zero, List.getElem?_cons_succ, Option.getD_some, bin_lss, if_true, decide_false, hlt', hg.len]
        refine LoopK.by 83 (fun i : Nat => i ≤ g.length ∧ ∀ x ∈ (g.zip (lists ws)).take i, okP x) (fun i => [(1, u), (2, .agg [I P, v]), (8, I i)]) (fun _ => A) (fun i => g.length - i) 0 ⟨by omega, by simp⟩ rfl (by simp [Has, rd_s]) rfl ?_
        rintro i ⟨hi, he⟩
        by_cases hlt : i < g.length
        · obtain ⟨z, hz⟩ : ∃ z, g[i]? = some z := ⟨_, List.getElem?_eq_getElem hlt⟩
          have hlt' : (i : Int) < g.length := by omega
          have hltw : i < ws.length := by omega
          obtain ⟨x, hx⟩ : ∃ x, ws[i]? = some x := ⟨_, List.getElem?_eq_getElem hltw⟩
          have hm := List.mem_of_getElem? hx
          have hzx := zip_get hz (ws_get hx)
          by_cases hz0 : 0 ≤ z
          · simp (maxSteps := 4000000) -implicitDefEqProofs -dsimp (disch := omega) only [↓AW_skip, ↓AW_ops, ↓AW_seq, ↓AW_cond, ↓AW_block, ↓AOps_nil, ↓AOps_pu, ↓AOps_ld, ↓AOps_call, ↓AOps_guard, on_some, guardB_tt, condB_t, ↓then_normal, pval, lval, rd_S, rd_C, put_S, chkd, isAdr, bgot, AV.cells?, partA, eq_self, mk, List.foldl_cons, List.foldl_nil, List.replicate_succ, List.replicate_zero, List.set_cons_zero, List.set_cons_succ, List.getElem?_cons_zero, List.getElem?_cons_succ, List.drop_zero, List.drop_succ_cons, List.take_succ_cons, List.take_nil, Option.getD_some, map_c, map_n, List.length_cons, List.length_nil, Nat.reduceAdd, Nat.reduceLeDiff, Nat.zero_add, bin_lss, bin_geq, if_true, if_false, Bool.false_eq_true, decide_true, Go.Eng.e1, hlt', hg.len, hg.idx hlt, hg.ld0 hz 1 false (by decide), hz0, hw.ls.idx hltw, hw.ls.ld0 hx 1 false (by decide), e0]
            refine CallK.of (s65 (hw.inn x hm) (by have := hs.2 x hm; omega) z) ?_
            by_cases hc : z ∈ x.2
            · simp (maxSteps := 4000000) -implicitDefEqProofs -dsimp (disch := omega) only [↓AW_skip, ↓AW_ops, ↓AW_cond, ↓AOps_nil, ↓AOps_pu, ↓AOps_guard, on_some, extK_same, guardB_tt, condB_f, ↓then_normal, ↓inBlock_normal, pval, rd_S, rd_C, put_S, eq_self, mk, List.foldl_cons, List.foldl_nil, List.replicate_succ, List.replicate_zero, List.set_cons_zero, List.set_cons_succ, List.getElem?_cons_zero, List.getElem?_cons_succ, Option.getD_some, List.length_cons, List.length_nil, Nat.reduceAdd, Nat.zero_add, bin_add, w64, if_true, Bool.not_true, decide_true, true_and, hc]
              exact ⟨i + 1, ⟨hlt, all_take he hzx (fun _ => hc)⟩, by simp [Has, rd_s], by omega⟩
            · simp (maxSteps := 4000000) -implicitDefEqProofs -dsimp (disch := omega) only [↓AW_ops, ↓AW_seq, ↓AW_cond, ↓AW_ret, ↓AOps_nil, ↓AOps_pu, ↓AOps_guard, on_some, extK_same, guardB_tt, condB_t, ↓then_normal, ↓then_ret, ↓inBlock_ret, ↓Fin_ret, pval, rd_S, rd_C, put_S, resV, resL, eq_self, mk, List.foldl_cons, List.foldl_nil, List.replicate_succ, List.replicate_zero, List.set_cons_zero, List.set_cons_succ, List.getElem?_cons_zero, List.getElem?_cons_succ, Option.getD_some, if_true, Bool.not_false, decide_false, hc]
              have hE := gE_8 h0 h1 (fun h => hc (h _ (List.mem_of_getElem? hzx) hz0))
              exact gc_same (by simp [gN, hE])
          · simp (maxSteps := 4000000) -implicitDefEqProofs -dsimp (disch := omega) only [↓AW_skip, ↓AW_ops, ↓AW_seq, ↓AW_cond, ↓AW_block, ↓AOps_nil, ↓AOps_pu, ↓AOps_ld, ↓AOps_guard, on_some, guardB_ft, skipS_some, condB_t, condB_f, ↓then_normal, ↓inBlock_normal, pval, lval, rd_S, rd_C, put_S, partA, eq_self, mk, List.foldl_cons, List.foldl_nil, List.replicate_succ, List.replicate_zero, List.set_cons_zero, List.set_cons_succ, List.getElem?_cons_zero, List.getElem?_cons_succ, List.drop_zero, List.take_succ_cons, List.take_nil, Option.getD_some, List.length_cons, List.length_nil, Nat.reduceAdd, Nat.reduceLeDiff, Nat.zero_add, bin_add, bin_lss, bin_geq, w64, if_true, if_false, Bool.false_eq_true, decide_true, decide_false, Go.Eng.e1, true_and, hlt', hg.len, hg.idx hlt, hg.ld0 hz 1 false (by decide), hz0]
            exact ⟨i + 1, ⟨hlt, all_take he hzx (fun h => absurd h hz0)⟩, by simp [Has, rd_s], by omega⟩
        · have hlt' : ¬ ((i : Int) < g.length) := by omega
          rw [List.take_of_length_le (by rw [List.length_zip]; omega)] at he
          simp (maxSteps := 4000000) -implicitDefEqProofs -dsimp (disch := omega) only [↓AW_ops, ↓AW_seq, ↓AW_cond, ↓AW_block, ↓AW_exit, ↓AOps_nil, ↓AOps_pu, on_some, condB_f, ↓then_normal, ↓then_exit, ↓inBlock_exit, pval, rd_S, rd_C, put_S, ↓AW_toLoop, eq_self, mk, List.foldl_cons, List.foldl_nil, List.replicate_succ, List.replicate_zero, List.set_cons_zero, List.set_cons_succ, List.getElem?_cons_zero, List.getElem?_cons_succ, Option.getD_some, bin_lss, if_true, decide_false, hlt', hg.len]
          refine LoopK.by 83 (fun i : Nat => i ≤ g.length ∧ (given (g.take i)).Nodup) (fun i => [(1, u), (9, I i)]) (fun _ => A) (fun i => g.length - i) 0 ⟨by omega, by simp [given]⟩ rfl (by simp [Has, rd_s]) rfl ?_
          rintro i ⟨hi, hnd⟩
          by_cases hlt : i < g.length
          · obtain ⟨z, hz⟩ : ∃ z, g[i]? = some z := ⟨_, List.getElem?_eq_getElem hlt⟩
            have hlt' : (i : Int) < g.length := by omega
            by_cases hz0 : 0 ≤ z
            · obtain ⟨v', hv', hL⟩ := Ls_takeS hg i (by omega)
              simp (maxSteps := 4000000) -implicitDefEqProofs -dsimp (disch := omega) only [↓AW_skip, ↓AW_ops, ↓AW_seq, ↓AW_cond, ↓AW_block, ↓AOps_nil, ↓AOps_pu, ↓AOps_ld, ↓AOps_call, ↓AOps_guard, on_some, guardB_tt, condB_t, ↓then_normal, pval, lval, rd_S, rd_C, put_S, partA, eq_self, mk, List.foldl_cons, List.foldl_nil, List.replicate_succ, List.replicate_zero, List.set_cons_zero, List.set_cons_succ, List.getElem?_cons_zero, List.getElem?_cons_succ, List.drop_zero, List.take_succ_cons, List.take_nil, Option.getD_some, Option.map_some, Option.map_none, map_c, map_n, List.length_cons, List.length_nil, Nat.reduceLeDiff, Nat.zero_add, bin_lss, bin_geq, if_true, if_false, Bool.false_eq_true, decide_true, Go.Eng.e1, hlt', hg.len, hg.idx hlt, hg.ld0 hz 1 false (by decide), hz0, hv']
              refine CallK.of (s65 hL (by rw [List.length_take]; omega) z) ?_
              by_cases hc : z ∈ g.take i
              · simp (maxSteps := 4000000) -implicitDefEqProofs -dsimp (disch := omega) only [↓AW_ops, ↓AW_seq, ↓AW_cond, ↓AW_ret, ↓AOps_nil, ↓AOps_pu, on_some, extK_same, condB_t, ↓then_normal, ↓then_ret, ↓inBlock_ret, ↓Fin_ret, pval, rd_S, rd_C, put_S, resV, resL, eq_self, mk, List.foldl_cons, List.foldl_nil, List.replicate_succ, List.replicate_zero, List.set_cons_zero, List.set_cons_succ, List.getElem?_cons_zero, List.getElem?_cons_succ, Option.getD_some, if_true, decide_true, hc]
                have hE := gE_6 h0 h1 he (given_bad hz hz0 hc)
                exact gc_same (by simp [gN, hE])
              · simp (maxSteps := 4000000) -implicitDefEqProofs -dsimp (disch := omega) only [↓AW_skip, ↓AW_ops, ↓AW_cond, ↓AOps_nil, ↓AOps_pu, on_some, extK_same, condB_f, ↓then_normal, ↓inBlock_normal, pval, rd_S, rd_C, put_S, eq_self, mk, List.foldl_cons, List.foldl_nil, List.replicate_succ, List.replicate_zero, List.set_cons_zero, List.set_cons_succ, List.getElem?_cons_zero, List.getElem?_cons_succ, Option.getD_some, List.length_cons, List.length_nil, Nat.reduceAdd, Nat.zero_add, bin_add, w64, if_true, decide_false, true_and, hc]
                refine ⟨i + 1, ⟨hlt, ?_⟩, by simp [Has, rd_s], by omega⟩
                rw [given_take hz, if_pos hz0, List.nodup_append]
                refine ⟨hnd, by simp, fun a ha b hb => ?_⟩
                have hbz : b = z := by simpa using hb
                rw [hbz]
                rintro rfl
                exact hc ((given_mem hz0).1 ha)
            · simp (maxSteps := 4000000) -implicitDefEqProofs -dsimp (disch := omega) only [↓AW_skip, ↓AW_ops, ↓AW_seq, ↓AW_cond, ↓AW_block, ↓AOps_nil, ↓AOps_pu, ↓AOps_ld, ↓AOps_guard, on_some, guardB_ft, skipS_some, condB_t, condB_f, ↓then_normal, ↓inBlock_normal, pval, lval, rd_S, rd_C, put_S, partA, eq_self, mk, List.foldl_cons, List.foldl_nil, List.replicate_succ, List.replicate_zero, List.set_cons_zero, List.set_cons_succ, List.getElem?_cons_zero, List.getElem?_cons_succ, List.drop_zero, List.take_succ_cons, List.take_nil, Option.getD_some, List.length_cons, List.length_nil, Nat.reduceAdd, Nat.reduceLeDiff, Nat.zero_add, bin_add, bin_lss, bin_geq, w64, if_true, if_false, Bool.false_eq_true, decide_true, decide_false, Go.Eng.e1, true_and, hlt', hg.len, hg.idx hlt, hg.ld0 hz 1 false (by decide), hz0]
              exact ⟨i + 1, ⟨hlt, by rw [given_take hz, if_neg hz0, List.append_nil]; exact hnd⟩, by simp [Has, rd_s], by omega⟩
          · have hlt' : ¬ ((i : Int) < g.length) := by omega
            rw [List.take_of_length_le (by omega)] at hnd
            simp (maxSteps := 4000000) -implicitDefEqProofs -dsimp (disch := omega) only [↓AW_ops, ↓AW_seq, ↓AW_cond, ↓AW_exit, ↓AOps_nil, ↓AOps_pu, ↓AOps_call, on_some, condB_f, ↓then_normal, ↓then_exit, ↓inBlock_exit, pval, rd_S, put_S, eq_self, mk, List.foldl_cons, List.foldl_nil, List.replicate_succ, List.replicate_zero, List.set_cons_zero, List.set_cons_succ, List.getElem?_cons_zero, List.getElem?_cons_succ, Option.getD_some, map_c, map_n, bin_lss, if_true, decide_false, hlt', hg.len]
            refine CallK.of (s66 hg hgl) ?_
            simp (maxSteps := 4000000) -implicitDefEqProofs -dsimp (disch := omega) only [↓AW_ret, ↓AOps_nil, ↓AOps_pu, on_some, extK_same, ↓then_normal, ↓Fin_ret, pval, rd_S, rd_C, put_S, resV, resL, mk, List.foldl_cons, List.foldl_nil, List.replicate_succ, List.replicate_zero, List.set_cons_zero, List.set_cons_succ, List.getElem?_cons_zero, List.getElem?_cons_succ, Option.getD_some]
            have hE := gE_0 h0 h1 he hnd
            exact gc_same (by simp [gN, hE])
    · have hlen' : ¬ (g.length : Int) = ws.length := by omega
      simp (maxSteps := 4000000) -implicitDefEqProofs -dsimp (disch := omega) only [↓AW_skip, ↓AW_ops, ↓AW_seq, ↓AW_cond, ↓AW_ret, ↓AOps_nil, ↓AOps_pu, on_some, extK_same, condB_t, condB_f, ↓then_normal, ↓then_ret, ↓Fin_ret, pval, rd_S, rd_C, put_S, resV, resL, chkd, isAdr, bgot, AV.cells?, partA, eq_self, List.replicate_succ, List.replicate_zero, List.set_cons_zero, List.set_cons_succ, List.getElem?_cons_zero, List.getElem?_cons_succ, List.drop_zero, List.drop_succ_cons, List.take_succ_cons, List.take_nil, Option.getD_some, List.length_cons, List.length_nil, Nat.reduceAdd, Nat.reduceSub, Nat.reduceLeDiff, Nat.zero_add, List.cons_append, List.nil_append, bin_neq, if_true, if_false, Bool.false_eq_true, decide_true, decide_false, not_true_eq_false, not_false_eq_true, h0, hg.len, hw.ls.len, hlen']
      have hE := gE_1 (g := g) h0 (fun h => hlen (by simpa using h.1))
      exact gc_same (by simp [gN, hE])
  · simp (maxSteps := 4000000) -implicitDefEqProofs -dsimp (disch := omega) only [↓AW_ops, ↓AW_seq, ↓AW_cond, ↓AW_ret, ↓AOps_nil, ↓AOps_pu, on_some, extK_same, condB_t, ↓then_normal, ↓then_ret, ↓Fin_ret, pval, rd_S, rd_C, put_S, resV, resL, List.replicate_succ, List.replicate_zero, List.set_cons_zero, List.set_cons_succ, List.getElem?_cons_zero, List.getElem?_cons_succ, Option.getD_some, Nat.reduceSub, List.cons_append, List.nil_append, bin_neq, decide_true, not_false_eq_true, h0]
    have hE := gE_v (g := g) h0
    exact gc_same (by simp [gN, hE, h0])
/-- A set of numbers from 0 to n - 1. -/
def isS (n : Int) (l : List Int) : Prop := (∀ p ∈ l, inP n p) ∧ Up l
instance (n : Int) (l : List Int) : Decidable (isS n l) := by unfold isS; exact inferInstance
theorem s78 {xs : List Int} {v : AV} {A : AHeap} (hx : L1 A v xs) (hl : xs.length ≤ 1000000) (n : Int) : ACalls Try.prog 78 [v, I n] A (B (decide (isS n xs))) A := by
  refine acalls hmix Try.func78 (by kernel_rfl) t78 2 rfl (by decide) ?_
  dsimp only [m78]
  simp (maxSteps := 4000000) -implicitDefEqProofs -dsimp (disch := omega) only [↓AW_ops, ↓AW_seq, ↓AW_block, ↓AOps_nil, ↓AOps_pu, on_some, ↓then_normal, pval, rd_C, put_S, ↓AW_toLoop, List.replicate_succ, List.replicate_zero, List.set_cons_zero, List.set_cons_succ, Nat.reduceSub, List.cons_append, List.nil_append]
  refine LoopK.by 25 (fun i : Nat => 1 ≤ i ∧ (i ≤ xs.length ∨ i = 1) ∧ Up (xs.take i)) (fun i => [(0, v), (1, I n), (5, I i)]) (fun _ => A) (fun i => xs.length - i) 1 ⟨by omega, .inr rfl, up_one⟩ rfl (by simp [Has, rd_s]) rfl ?_
  rintro i ⟨h1, hi, hu⟩
  by_cases hlt : i < xs.length
  · obtain ⟨b, hz⟩ : ∃ z, xs[i]? = some z := ⟨_, List.getElem?_eq_getElem hlt⟩
    have hlt' : (i : Int) < xs.length := by omega
    obtain ⟨k, rfl⟩ : ∃ k, i = k + 1 := ⟨i - 1, by omega⟩
    have hltk : k < xs.length := by omega
    obtain ⟨a, hza⟩ : ∃ a, xs[k]? = some a := ⟨_, List.getElem?_eq_getElem hltk⟩
    have hidx := hx.idxI (k := .i64) (i := ((k + 1 : Nat) : Int) - 1) (by omega) (by omega)
    have ek : (((k + 1 : Nat) : Int) - 1).toNat = k := by omega
    rw [ek] at hidx
    by_cases hab : b ≤ a
    · simp (maxSteps := 4000000) -implicitDefEqProofs -dsimp (disch := omega) only [↓AW_skip, ↓AW_ops, ↓AW_seq, ↓AW_cond, ↓AW_block, ↓AW_ret, ↓AOps_nil, ↓AOps_pu, ↓AOps_ld, on_some, condB_t, ↓then_normal, ↓then_ret, ↓inBlock_ret, ↓Fin_ret, pval, lval, rd_S, rd_C, put_S, resV, resL, partA, eq_self, mk, List.foldl_cons, List.foldl_nil, List.replicate_succ, List.replicate_zero, List.set_cons_zero, List.set_cons_succ, List.getElem?_cons_zero, List.getElem?_cons_succ, List.drop_zero, List.take_succ_cons, List.take_nil, Option.getD_some, List.length_cons, List.length_nil, Nat.reduceLeDiff, Nat.zero_add, bin_sub, bin_lss, bin_geq, w64, if_true, if_false, Bool.false_eq_true, decide_true, Go.Eng.e1, hlt', hx.len, hx.idx hlt, hx.ld0 hz 1 false (by decide), hidx, hx.ld0 hza 1 false (by decide), hab]
      exact gc_same (by rw [decide_eq_false (fun h : isS n xs => up_bad hza hz hab h.2)])
    · simp (maxSteps := 4000000) -implicitDefEqProofs -dsimp (disch := omega) only [↓AW_skip, ↓AW_ops, ↓AW_seq, ↓AW_cond, ↓AW_block, ↓AOps_nil, ↓AOps_pu, ↓AOps_ld, on_some, condB_t, condB_f, ↓then_normal, ↓inBlock_normal, pval, lval, rd_S, rd_C, put_S, partA, eq_self, mk, List.foldl_cons, List.foldl_nil, List.replicate_succ, List.replicate_zero, List.set_cons_zero, List.set_cons_succ, List.getElem?_cons_zero, List.getElem?_cons_succ, List.drop_zero, List.take_succ_cons, List.take_nil, Option.getD_some, List.length_cons, List.length_nil, Nat.reduceAdd, Nat.reduceLeDiff, Nat.zero_add, bin_add, bin_sub, bin_lss, bin_geq, w64, if_true, if_false, Bool.false_eq_true, decide_true, decide_false, Go.Eng.e1, true_and, hlt', hx.len, hx.idx hlt, hx.ld0 hz 1 false (by decide), hidx, hx.ld0 hza 1 false (by decide), hab]
      exact ⟨k + 1 + 1, ⟨by omega, .inl (by omega), up_step hza hz hu (by omega)⟩, by simp [Has, rd_s], by omega⟩
  · have hlt' : ¬ ((i : Int) < xs.length) := by omega
    simp (maxSteps := 4000000) -implicitDefEqProofs -dsimp (disch := omega) only [↓AW_ops, ↓AW_seq, ↓AW_cond, ↓AW_exit, ↓AOps_nil, ↓AOps_pu, ↓AOps_call, on_some, condB_f, ↓then_normal, ↓then_exit, ↓inBlock_exit, pval, rd_S, put_S, eq_self, mk, List.foldl_cons, List.foldl_nil, List.replicate_succ, List.replicate_zero, List.set_cons_zero, List.set_cons_succ, List.getElem?_cons_zero, List.getElem?_cons_succ, Option.getD_some, map_c, map_n, bin_lss, if_true, decide_false, hlt', hx.len]
    have hu2 : Up xs := by
      rwa [List.take_of_length_le (by omega)] at hu
    refine CallK.of (s73 hx hl n) ?_
    simp (maxSteps := 4000000) -implicitDefEqProofs -dsimp (disch := omega) only [↓AW_ret, ↓AOps_nil, ↓AOps_pu, on_some, extK_same, ↓then_normal, ↓Fin_ret, pval, rd_S, put_S, resV, resL, mk, List.foldl_cons, List.foldl_nil, List.replicate_succ, List.replicate_zero, List.set_cons_zero, List.set_cons_succ, List.getElem?_cons_zero, List.getElem?_cons_succ, Option.getD_some]
    refine gc_same ?_
    congr 1
    rw [decide_eq_decide]
    exact ⟨fun h => ⟨h, hu2⟩, fun h => h.1⟩
/-- What an owner wishes. -/
def lst (ls : List (List Int)) (i : Int) : List Int := (ls[i.toNat]?).getD []
def nums (n : Nat) : List Int := (List.range n).map (fun k : Nat => (k : Int))
theorem nums_succ (n : Nat) : nums (n + 1) = nums n ++ [(n : Int)] := by simp [nums, List.range_succ]
theorem mem_nums {n : Nat} {p : Int} : p ∈ nums n ↔ 0 ≤ p ∧ p < n := by
  simp only [nums, List.mem_map, List.mem_range]
  constructor
  · rintro ⟨k, h, rfl⟩; omega
  · intro h; exact ⟨p.toNat, by omega, by omega⟩
def wants (ls : List (List Int)) (os : List Int) (p : Int) : Bool := os.any fun i => decide (p ∈ lst ls i)
/-- What some owners wish. -/
def wsh (ls : List (List Int)) (os : List Int) (n : Nat) : List Int := (nums n).filter (wants ls os)
theorem wsh_succ (ls : List (List Int)) (os : List Int) (n : Nat) : wsh ls os (n + 1) = wsh ls os n ++ if wants ls os n = true then [(n : Int)] else [] := by
  unfold wsh
  rw [nums_succ, List.filter_append]
  simp only [List.filter_cons, List.filter_nil]
theorem wsh_le (ls : List (List Int)) (os : List Int) (n : Nat) : (wsh ls os n).length ≤ n := by
  have := List.length_filter_le (wants ls os) (nums n)
  simp only [nums, List.length_map, List.length_range] at this
  exact this
theorem lst_get {ws : List (AV × List Int)} {i : Int} (h : inP ws.length i) : ∃ x, ws[i.toNat]? = some x ∧ lst (lists ws) i = x.2 := by
  have hlt : i.toNat < ws.length := by have := h.1; have := h.2; omega
  exact ⟨ws[i.toNat], List.getElem?_eq_getElem hlt, by simp [lst, hlt]⟩
theorem s96 {P p i : Int} {ws : List (AV × List Int)} {v : AV} {A : AHeap} {a b : Nat} (hw : LL A v ws) (hs : Sz ws) (hi : inP ws.length i) (h1 : ldA 1 false (.ptr a 1) A = some v) (h2 : ldA 1 false (.ptr b 0) A = some (I p)) : ACalls Try.prog 96 [I i, .ptr a 0, .ptr b 0] A (B (decide (p ∈ lst (lists ws) i))) A := by
  refine acalls hmix Try.func96 (by kernel_rfl) t96 3 rfl (by decide) ?_
  obtain ⟨x, hx, he⟩ := lst_get hi
  have hm := List.mem_of_getElem? hx
  have hlt : i.toNat < ws.length := by have := hi.1; have := hi.2; omega
  have hidx := hw.ls.idxI (k := .i64) hi.1 hi.2
  dsimp only [m96]
  simp (maxSteps := 4000000) -implicitDefEqProofs -dsimp (disch := omega) only [↓AW_ops, ↓AW_seq, ↓AOps_nil, ↓AOps_pu, ↓AOps_ld, ↓AOps_call, on_some, ↓then_normal, pval, lval, rd_S, rd_C, put_S, partA, eq_self, List.replicate_succ, List.replicate_zero, List.set_cons_zero, List.set_cons_succ, List.getElem?_cons_zero, List.getElem?_cons_succ, List.drop_zero, List.take_succ_cons, List.take_nil, Option.getD_some, map_c, map_n, List.length_cons, List.length_nil, Nat.reduceSub, Nat.reduceLeDiff, Nat.zero_add, List.cons_append, List.nil_append, if_true, if_false, Bool.false_eq_true, h1, h2, hidx, hw.ls.ld0 hx 1 false (by decide), e0]
  refine CallK.of (c_Contains (hw.inn x hm) (by have := hs.2 x hm; omega) p) ?_
  simp (maxSteps := 4000000) -implicitDefEqProofs -dsimp (disch := omega) only [↓AW_ret, ↓AOps_nil, ↓AOps_pu, on_some, extK_same, ↓then_normal, ↓Fin_ret, pval, rd_S, put_S, resV, resL, List.replicate_succ, List.replicate_zero, List.set_cons_zero, List.set_cons_succ, List.getElem?_cons_zero, List.getElem?_cons_succ, Option.getD_some, Nat.reduceSub, List.cons_append, List.nil_append]
  exact gc_same (by rw [he])
theorem s75 {P : Int} {ws : List (AV × List Int)} {v : AV} {os : List Int} {u : AV} {A : AHeap} (hw : LL A v ws) (hs : Sz ws) (ho : L1 A u os) (hol : os.length ≤ 1000000) (hos : ∀ i ∈ os, inP ws.length i) (hP : 0 ≤ P ∧ P ≤ 1000000) :
    ACalls Try.prog 75 [.agg [I P, v], u] A (outV 1 A (wsh (lists ws) os P.toNat).length) (outH A ((wsh (lists ws) os P.toNat).flatMap e1) (wsh (lists ws) os P.toNat).length) := by
  refine acalls hmix Try.func75 (by kernel_rfl) t75 2 rfl (by decide) ?_
  dsimp only [m75]
  simp (maxSteps := 4000000) -implicitDefEqProofs -dsimp (disch := omega) only [↓AW_ops, ↓AW_seq, ↓AW_block, ↓AOps_nil, ↓AOps_pu, ↓AOps_ld, ↓AOps_ha, on_some, extK_app, ↓then_normal, pval, lval, hval, rd_S, rd_C, put_S, ↓AW_toLoop, AV.cells?, List.replicate_succ, List.replicate_zero, List.set_cons_zero, List.set_cons_succ, List.getElem?_cons_zero, List.getElem?_cons_succ, Option.getD_some, Nat.reduceSub, Nat.add_zero, List.cons_append, List.nil_append, ld_new]
  refine LoopK.by 21 (fun x : Nat × AV × AHeap => (x.1 : Int) ≤ P ∧ AccL 1 e1 (A ++ [.cells true [I P, v]]) x.2.2 x.2.1 (wsh (lists ws) os x.1)) (fun x => [(1, u), (2, .ptr A.length 0), (5, x.2.1), (8, I P), (9, I x.1)]) (fun x => x.2.2) (fun x => P.toNat - x.1) (0, .nilS, A ++ [.cells true [I P, v]]) ⟨by simp only; omega, AccL.nil (List.prefix_refl _)⟩ rfl (by simp [Has, rd_s]) rfl ?_
  rintro ⟨i, y, A1⟩ ⟨hi, hy⟩
  simp only at hi hy
  by_cases hlt : (i : Int) < P
  · have hp1 := hy.pre
    have hp2 := hp1.trans (pre_app A1 [.cells true [I (i : Int)]])
    have hpA := (pre_app A [.cells true [I P, v]]).trans hp2
    have hv2 := ld_mono hp2 (ld_new1 A (I P) v [])
    simp (maxSteps := 4000000) -implicitDefEqProofs -dsimp (disch := omega) only [↓AW_skip, ↓AW_ops, ↓AW_seq, ↓AW_cond, ↓AW_block, ↓AOps_nil, ↓AOps_pu, ↓AOps_ha, ↓AOps_call, on_some, extK_false, extK_app, condB_t, ↓then_normal, pval, hval, rd_S, rd_C, put_S, putS_none, AV.cells?, splice, eq_self, mk, List.foldl_cons, List.foldl_nil, List.replicate_succ, List.replicate_zero, List.set_cons_zero, List.set_cons_succ, List.getElem?_cons_zero, List.getElem?_cons_succ, List.drop_succ_cons, List.drop_nil, List.take_zero, Option.getD_some, map_c, map_n, List.length_cons, List.length_nil, Nat.reduceLeDiff, Nat.zero_add, List.nil_append, List.append_nil, bin_lss, if_true, decide_true, and_true, hlt, get_new, set_new]
    refine CallK.of (c_ContainsFunc (ho.mono hpA) hol 96 [.ptr A.length 0, .ptr A1.length 0] (fun k => decide ((i : Int) ∈ lst (lists ws) k)) (fun k hk => s96 (P := P) (hw.mono hpA) hs (hos k hk) hv2 (ld_new A1 _ []))) ?_
    by_cases hc : wants (lists ws) os i = true
    · have hc' : (os.any fun k => decide ((i : Int) ∈ lst (lists ws) k)) = true := hc
      obtain ⟨v3, A3, happ, h3⟩ := (hy.mono (pre_app A1 [.cells true [I (i : Int)]])).push e1_len (i : Int) (by have := wsh_le (lists ws) os i; simp [lim]; omega)
      simp only [Go.Eng.e1] at happ
      simp (maxSteps := 4000000) -implicitDefEqProofs -dsimp (disch := omega) only [↓AW_ops, ↓AW_cond, ↓AOps_nil, ↓AOps_pu, ↓AOps_ld, ↓AOps_ha, on_some, extK_false, extK_app, extK_same, condB_t, ↓then_normal, ↓inBlock_normal, pval, lval, hval, rd_S, rd_C, put_S, putS_none, AV.cells?, splice, fillA, repl, eq_self, mk, List.foldl_cons, List.foldl_nil, List.replicate_succ, List.replicate_zero, List.set_cons_zero, List.set_cons_succ, List.getElem?_cons_zero, List.getElem?_cons_succ, List.drop_succ_cons, List.drop_nil, List.take_zero, Option.getD_some, map_c, map_n, List.length_cons, List.length_nil, Nat.reduceAdd, Nat.reduceLeDiff, Nat.zero_add, List.nil_append, List.append_nil, bin_add, w64, if_true, true_and, and_true, hc', ld_new, happ]
      refine ⟨(i + 1, v3, A3), ⟨by simp only; omega, ?_⟩, by simp [Has, rd_s], rfl, by simp only; omega⟩
      simp only
      rw [wsh_succ, if_pos hc]
      exact h3
    · have hc' : (os.any fun k => decide ((i : Int) ∈ lst (lists ws) k)) = false := Bool.eq_false_iff.2 hc
      simp (maxSteps := 4000000) -implicitDefEqProofs -dsimp (disch := omega) only [↓AW_skip, ↓AW_ops, ↓AW_cond, ↓AOps_nil, ↓AOps_pu, on_some, extK_same, condB_f, ↓then_normal, ↓inBlock_normal, pval, rd_S, rd_C, put_S, putS_none, eq_self, mk, List.foldl_cons, List.foldl_nil, List.replicate_succ, List.replicate_zero, List.set_cons_zero, List.set_cons_succ, List.getElem?_cons_zero, List.getElem?_cons_succ, Option.getD_some, List.length_cons, List.length_nil, Nat.reduceAdd, Nat.zero_add, bin_add, w64, true_and, hc']
      refine ⟨(i + 1, y, A1 ++ [.cells true [I (i : Int)]]), ⟨by simp only; omega, ?_⟩, by simp [Has, rd_s], rfl, by simp only; omega⟩
      simp only
      rw [wsh_succ, if_neg hc, List.append_nil]
      exact hy.mono (pre_app _ _)
  · have hiP : i = P.toNat := by omega
    subst hiP
    simp (maxSteps := 4000000) -implicitDefEqProofs -dsimp (disch := omega) only [↓AW_ops, ↓AW_seq, ↓AW_cond, ↓AW_exit, ↓AW_ret, ↓AOps_nil, ↓AOps_pu, on_some, condB_f, ↓then_normal, ↓then_exit, ↓inBlock_exit, ↓Fin_ret, pval, rd_S, put_S, resV, resL, eq_self, mk, List.foldl_cons, List.foldl_nil, List.replicate_succ, List.replicate_zero, List.set_cons_zero, List.set_cons_succ, List.getElem?_cons_zero, List.getElem?_cons_succ, Option.getD_some, bin_lss, if_true, decide_false, hlt]
    exact (AccL_base (pre_app _ _) hy).gc flat_e1
end Go.Proofs.Ytlmbobbefgcolaa

namespace Go.Proofs.Ytlmbobbefgcolaa
open Go Go.Eng
theorem cells_agg (l : List AV) : (AV.agg l).cells? = some l := rfl
theorem cells_int (k : IntKind) (n : Int) : (AV.int k n).cells? = some [.int k n] := rfl
theorem cells_sl (a b c d : Nat) (e : Bool) : (AV.sl a b c d e).cells? = some [.sl a b c d e] := rfl
theorem cells_nilS : AV.nilS.cells? = some [.nilS] := rfl
theorem cells_nilF : AV.nilF.cells? = some [.nilF] := rfl
/-- A store. -/
def stA (sz : Nat) (p x : AV) (H : AHeap) : Option AHeap :=
  match p, x.cells? with
  | .ptr n off, some c => match H[n]? with
    | some (.cells true l) => if c.length = sz ∧ off + sz ≤ l.length then some (H.set n (.cells true (splice l off c))) else none
    | _ => none
  | _, _ => none
theorem hval_st (sz : Nat) (p x : Opd) (S : List AV) (H : AHeap) : hval (.st sz p x) S H = (stA sz (rd S p) (rd S x) H).map (fun H' => (undefA, H')) := by
  simp only [hval, stA]
  cases rd S p with
  | ptr n off =>
    cases (rd S x).cells? with
    | none => rfl
    | some c =>
      simp only
      cases H[n]? with
      | none => rfl
      | some o =>
        cases o with
        | cells rw l =>
          cases rw
          · rfl
          · simp only
            split <;> rfl
        | _ => rfl
  | _ => rfl
theorem hval_newv (x : Opd) (S : List AV) (H : AHeap) : hval (.newv x) S H = match (rd S x).cells? with | some c => some (.ptr H.length 0, H ++ [.cells true c]) | none => none := rfl
theorem hval_mks (es : Nat) (zero : List AV) (len cap : Opd) (S : List AV) (H : AHeap) : hval (.mks es zero len cap) S H = match rd S len, rd S cap with | .int _ l, .int _ c => if 0 ≤ l ∧ l ≤ c ∧ c ≤ lim then some (.sl es H.length 0 l.toNat (l == c), H ++ [.cells true (repl zero c.toNat)]) else none | _, _ => none := rfl
theorem hval_blds (es n : Nat) (zero : List AV) (parts : List (Nat × Nat × Opd)) (S : List AV) (H : AHeap) : hval (.blds es n zero parts) S H = match fillA (parts.map fun p => (p.1, p.2.1, rd S p.2.2)) (repl zero n) with | some l => some (.sl es H.length 0 n true, H ++ [.cells true l]) | none => none := rfl
theorem hval_app (es : Nat) (x y : Opd) (S : List AV) (H : AHeap) : hval (.app es x y) S H = appA es H (rd S x) (rd S y) := rfl
/-- A copy. -/
def cpA (es : Nat) (x y : AV) (H : AHeap) : Option (AV × AHeap) :=
  match x, slCells es H y with
    | .nilS, some _ => some (I 0, H)
    | .sl es' n off len _, some (k, new) => if es' = es then match H[n]? with
        | some (.cells true l) => if off + len * es ≤ l.length then some (I (min k len : Nat), H.set n (.cells true (splice l off (new.take (min k len * es))))) else none
        | _ => none
      else none
    | _, _ => none
theorem hval_cpy (es : Nat) (x y : Opd) (S : List AV) (H : AHeap) : hval (.cpy es x y) S H = cpA es (rd S x) (rd S y) H := rfl
theorem splice_flat {α : Type} {es : Nat} {e : α → List AV} (he : ∀ x, (e x).length = es) {xs : List α} {i : Nat} (hi : i < xs.length) (z : α) : splice (xs.flatMap e) (i * es) (e z) = (xs.set i z).flatMap e := by
  unfold splice
  have h1 := flatMap_length he (xs.take i)
  rw [List.length_take, Nat.min_eq_left (by omega)] at h1
  have h2 := flatMap_length he (xs.take (i + 1))
  rw [List.length_take, Nat.min_eq_left (by omega)] at h2
  have e1 : (xs.flatMap e).take (i * es) = (xs.take i).flatMap e := by
    conv => lhs; rw [← List.take_append_drop i xs, List.flatMap_append]
    rw [← h1, List.take_left]
  have e2 : (xs.flatMap e).drop (i * es + (e z).length) = (xs.drop (i + 1)).flatMap e := by
    conv => lhs; rw [← List.take_append_drop (i + 1) xs, List.flatMap_append]
    rw [he z, ← Nat.succ_mul, Nat.succ_eq_add_one, ← h2, List.drop_left]
  rw [e1, e2, List.set_eq_take_append_cons_drop, if_pos hi, List.flatMap_append, List.flatMap_cons, List.append_assoc]
/-- A list that the call itself has made and may write. -/
structure OL {α : Type} (es : Nat) (e : α → List AV) (A H : AHeap) (n : Nat) (v : AV) (xs : List α) : Prop where
  he : ∀ x, (e x).length = es
  pre : A <+: H
  new : A.length ≤ n
  ob : H[n]? = some (.cells true (xs.flatMap e))
  v : ∃ full, v = .sl es n 0 xs.length full
section
variable {α : Type} {es : Nat} {e : α → List AV} {A H : AHeap} {n : Nat} {v : AV} {xs : List α}
theorem OL.ls (h : OL es e A H n v xs) : Ls es e H v xs := by
  obtain ⟨he, h1, h2, h3, full, rfl⟩ := h
  refine ⟨he, ?_⟩
  have hl := flatMap_length he xs
  simp only [slCells, cellsAt, h3, if_true, Nat.zero_add]
  rw [if_pos (by omega)]
  simp only [List.drop_zero, Option.map_some, Option.some.injEq, Prod.mk.injEq, true_and]
  rw [← hl, List.take_length]
theorem OL.lt (h : OL es e A H n v xs) : n < H.length := (List.getElem?_eq_some_iff.1 h.ob).1
theorem OL.set (h : OL es e A H n v xs) (i : Nat) (z : α) : OL es e A (H.set n (.cells true ((xs.set i z).flatMap e))) n v (xs.set i z) := by
  have hn := h.lt
  obtain ⟨he, h1, h2, h3, full, rfl⟩ := h
  exact ⟨he, pre_set h1 h2 _, h2, by rw [List.getElem?_set_self hn], full, by simp⟩
theorem OL.st (h : OL es e A H n v xs) {i : Nat} (hi : i < xs.length) (x : AV) (z : α) (hx : x.cells? = some (e z)) : stA es (.ptr (nm v) (of v + i * es)) x H = some (H.set n (.cells true ((xs.set i z).flatMap e))) := by
  obtain ⟨he, h1, h2, h3, full, rfl⟩ := h
  have hl := flatMap_length he xs
  have hle : i * es + es ≤ xs.length * es := by
    rw [← Nat.succ_mul]; exact Nat.mul_le_mul_right _ hi
  simp only [stA, nm, of, hx, h3, Nat.zero_add]
  rw [if_pos ⟨he z, by omega⟩, splice_flat he hi z]
theorem OL.mono {H' : AHeap} (h : OL es e A H n v xs) (hp : H <+: H') : OL es e A H' n v xs := ⟨h.he, h.pre.trans hp, h.new, pre_get hp h.ob, h.v⟩
theorem OL.new_mk (he : ∀ x, (e x).length = es) (A : AHeap) (xs : List α) (full : Bool) : OL es e A (A ++ [.cells true (xs.flatMap e)]) A.length (.sl es A.length 0 xs.length full) xs :=
  ⟨he, pre_app _ _, Nat.le_refl _, by simp, full, rfl⟩
theorem gc_weak {v1 v1' v : AV} {H1 H' : AHeap} (h : ∀ ρ c, VR ρ v1 c → VR ρ v1' c) (g : GC A v1' H1 v H') : GC A v1 H1 v H' :=
  fun ρ w ρ1 w1 cv s0 s1 st hv => g ρ w ρ1 w1 cv s0 s1 st (h ρ1 cv hv)
theorem VR.unfull {ρ : Ren} {es n off len : Nat} {full : Bool} {c : Value} (h : VR ρ (.sl es n off len full) c) : VR ρ (.sl es n off len false) c := by
  cases h with
  | sl _ _ _ _ _ L a cap h1 h2 h3 h4 h5 => exact .sl es n off len false L a cap h1 h2 (fun e => by cases e) h4 h5
theorem OL.acc (h : OL es e A H n v xs) (h0 : 0 < xs.length) : AccL es e A H (.sl es n 0 xs.length false) xs :=
  ⟨h.pre, flatMap_length h.he xs, .inr ⟨h0, n, rfl, h.new, h.ob⟩⟩
theorem OL.gc (h : OL es e A H n v xs) (h0 : 0 < xs.length) (hf : ∀ x, ∀ y ∈ e x, flat y = true) : GC A v H (outV es A xs.length) (outH A (xs.flatMap e) xs.length) := by
  have h1 := (h.acc h0).gc hf
  obtain ⟨_, _, _, _, full, rfl⟩ := h
  exact gc_weak (fun ρ c => VR.unfull) h1
end
end Go.Proofs.Ytlmbobbefgcolaa

namespace Go.Proofs.Ytlmbobbefgcolaa
open Go Go.Eng
/-- The error of wishes and a set of owners. -/
def chE (P : Int) (ls : List (List Int)) (os : List Int) : Int := if vW P ls = 0 then (if isS ls.length os then 0 else 1) else vW P ls
theorem chE_0 {P : Int} {ls : List (List Int)} {os : List Int} : chE P ls os = 0 ↔ vW P ls = 0 ∧ isS ls.length os := by
  unfold chE
  split
  · rename_i h; split <;> simp [*]
  · rename_i h; simp [h]
theorem s74 {P : Int} {ws : List (AV × List Int)} {v : AV} {os : List Int} {u : AV} {A : AHeap} (hw : LL A v ws) (hs : Sz ws) (ho : L1 A u os) (hol : os.length ≤ 1000000) : ACalls Try.prog 74 [.agg [I P, v], u] A (I (chE P (lists ws) os)) A := by
  refine acalls hmix Try.func74 (by kernel_rfl) t74 2 rfl (by decide) ?_
  dsimp only [m74]
  simp (maxSteps := 4000000) -implicitDefEqProofs -dsimp (disch := omega) only [↓AW_ops, ↓AW_seq, ↓AOps_nil, ↓AOps_pu, ↓AOps_call, on_some, ↓then_normal, pval, rd_S, rd_C, put_S, chkd, bgot, AV.cells?, partA, eq_self, List.replicate_succ, List.replicate_zero, List.set_cons_zero, List.set_cons_succ, List.getElem?_cons_zero, List.getElem?_cons_succ, List.drop_zero, List.take_succ_cons, List.take_nil, Option.getD_some, map_c, map_n, List.length_cons, List.length_nil, Nat.reduceAdd, Nat.reduceSub, Nat.reduceLeDiff, Nat.reduceEqDiff, Nat.zero_add, List.cons_append, List.nil_append, if_true, if_false]
  refine CallK.of (s39 hw hs) ?_
  by_cases h0 : vW P (lists ws) = 0
  · simp (maxSteps := 4000000) -implicitDefEqProofs -dsimp (disch := omega) only [↓AW_skip, ↓AW_ops, ↓AW_seq, ↓AW_cond, ↓AOps_nil, ↓AOps_pu, ↓AOps_call, on_some, extK_same, condB_f, ↓then_normal, pval, rd_S, rd_C, put_S, chkd, isAdr, bgot, AV.cells?, partA, eq_self, List.replicate_succ, List.replicate_zero, List.set_cons_zero, List.set_cons_succ, List.getElem?_cons_zero, List.getElem?_cons_succ, List.drop_zero, List.drop_succ_cons, List.take_succ_cons, List.take_nil, Option.getD_some, map_c, map_n, List.length_cons, List.length_nil, Nat.reduceAdd, Nat.reduceSub, Nat.reduceLeDiff, Nat.zero_add, List.cons_append, List.nil_append, bin_neq, if_true, if_false, Bool.false_eq_true, decide_false, not_true_eq_false, h0, hw.ls.len]
    refine CallK.of (s78 ho hol _) ?_
    by_cases h1 : isS ws.length os
    · simp (maxSteps := 4000000) -implicitDefEqProofs -dsimp (disch := omega) only [↓AW_skip, ↓AW_ops, ↓AW_seq, ↓AW_cond, ↓AW_ret, ↓AOps_nil, ↓AOps_pu, on_some, extK_same, condB_f, ↓then_normal, ↓Fin_ret, pval, rd_S, rd_C, put_S, resV, resL, List.replicate_succ, List.replicate_zero, List.set_cons_zero, List.set_cons_succ, List.getElem?_cons_zero, List.getElem?_cons_succ, Option.getD_some, Nat.reduceSub, List.cons_append, List.nil_append, Bool.not_true, decide_true, h1]
      exact gc_same (by simp [chE, h0, h1])
    · simp (maxSteps := 4000000) -implicitDefEqProofs -dsimp (disch := omega) only [↓AW_ops, ↓AW_seq, ↓AW_cond, ↓AW_ret, ↓AOps_nil, ↓AOps_pu, on_some, extK_same, condB_t, ↓then_normal, ↓then_ret, ↓Fin_ret, pval, rd_S, rd_C, put_S, resV, resL, List.replicate_succ, List.replicate_zero, List.set_cons_zero, List.set_cons_succ, List.getElem?_cons_zero, List.getElem?_cons_succ, Option.getD_some, Nat.reduceSub, List.cons_append, List.nil_append, Bool.not_false, decide_false, h1]
      exact gc_same (by simp [chE, h0, h1])
  · simp (maxSteps := 4000000) -implicitDefEqProofs -dsimp (disch := omega) only [↓AW_ops, ↓AW_seq, ↓AW_cond, ↓AW_ret, ↓AOps_nil, ↓AOps_pu, on_some, extK_same, condB_t, ↓then_normal, ↓then_ret, ↓Fin_ret, pval, rd_S, rd_C, put_S, resV, resL, List.replicate_succ, List.replicate_zero, List.set_cons_zero, List.set_cons_succ, List.getElem?_cons_zero, List.getElem?_cons_succ, Option.getD_some, Nat.reduceSub, List.cons_append, List.nil_append, bin_neq, decide_true, not_false_eq_true, h0]
    exact gc_same (by simp [chE, h0])
theorem vW_P7 {P : Int} {ls : List (List Int)} (h : vW P ls = 0) : 1 ≤ P ∧ P ≤ 7 := by
  rcases Decidable.em (1 ≤ P ∧ P ≤ 7) with h1 | h1
  · exact h1
  · rw [vW_P h1] at h; cases h
def lackN (P : Int) (ls : List (List Int)) (os : List Int) : Int := if chE P ls os = 0 then os.length - (wsh ls os P.toNat).length else 0
theorem s44 {P : Int} {ws : List (AV × List Int)} {v : AV} {os : List Int} {u : AV} {A : AHeap} (hw : LL A v ws) (hs : Sz ws) (ho : L1 A u os) (hol : os.length ≤ 1000000) :
    ACalls Try.prog 44 [.agg [I P, v], u] A (.tuple [I (lackN P (lists ws) os), I (chE P (lists ws) os)]) A := by
  refine acalls hmix Try.func44 (by kernel_rfl) t44 2 rfl (by decide) ?_
  dsimp only [m44]
  simp (maxSteps := 4000000) -implicitDefEqProofs -dsimp (disch := omega) only [↓AW_ops, ↓AW_seq, ↓AOps_nil, ↓AOps_pu, ↓AOps_call, on_some, ↓then_normal, pval, rd_S, rd_C, put_S, chkd, bgot, AV.cells?, partA, eq_self, List.replicate_succ, List.replicate_zero, List.set_cons_zero, List.set_cons_succ, List.getElem?_cons_zero, List.getElem?_cons_succ, List.drop_zero, List.take_succ_cons, List.take_nil, Option.getD_some, map_c, map_n, List.length_cons, List.length_nil, Nat.reduceAdd, Nat.reduceSub, Nat.reduceLeDiff, Nat.reduceEqDiff, Nat.zero_add, List.cons_append, List.nil_append, if_true, if_false]
  refine CallK.of (s74 hw hs ho hol) ?_
  by_cases h0 : chE P (lists ws) os = 0
  · have h1 := chE_0.1 h0
    have hP := vW_P7 h1.1
    have hwl := wsh_le (lists ws) os P.toNat
    simp (maxSteps := 4000000) -implicitDefEqProofs -dsimp (disch := omega) only [↓AW_skip, ↓AW_ops, ↓AW_seq, ↓AW_cond, ↓AOps_nil, ↓AOps_pu, ↓AOps_call, on_some, extK_same, condB_f, ↓then_normal, pval, rd_S, rd_C, put_S, chkd, bgot, partA, eq_self, List.replicate_succ, List.replicate_zero, List.set_cons_zero, List.set_cons_succ, List.getElem?_cons_zero, List.getElem?_cons_succ, List.drop_zero, List.take_succ_cons, List.take_nil, Option.getD_some, map_c, map_n, List.length_cons, List.length_nil, Nat.reduceAdd, Nat.reduceSub, Nat.reduceLeDiff, Nat.reduceEqDiff, Nat.zero_add, List.cons_append, List.nil_append, bin_neq, if_true, if_false, decide_false, not_true_eq_false, h0, ho.len]
    refine CallK.of (s75 hw hs ho hol (fun i hi => by simpa using h1.2.1 i hi) (by omega)) ?_
    simp (maxSteps := 4000000) -implicitDefEqProofs -dsimp (disch := omega) only [↓AW_ret, ↓AOps_nil, ↓AOps_pu, on_some, extK_false, ↓then_normal, ↓Fin_ret, pval, rd_S, rd_C, put_S, resV, resL, List.replicate_succ, List.replicate_zero, List.set_cons_zero, List.set_cons_succ, List.getElem?_cons_zero, List.getElem?_cons_succ, Option.getD_some, Nat.reduceSub, List.cons_append, List.nil_append, bin_sub, w64, (Ls_out A e1_len (wsh (lists ws) os P.toNat)).len]
    exact gc_val (pre_out _ _ _) (by simp [lackN, h0, ren])
  · simp (maxSteps := 4000000) -implicitDefEqProofs -dsimp (disch := omega) only [↓AW_ops, ↓AW_seq, ↓AW_cond, ↓AW_ret, ↓AOps_nil, ↓AOps_pu, on_some, extK_same, condB_t, ↓then_normal, ↓then_ret, ↓Fin_ret, pval, rd_S, rd_C, put_S, resV, resL, List.replicate_succ, List.replicate_zero, List.set_cons_zero, List.set_cons_succ, List.getElem?_cons_zero, List.getElem?_cons_succ, Option.getD_some, Nat.reduceSub, List.cons_append, List.nil_append, bin_neq, decide_true, not_false_eq_true, h0]
    exact gc_same (by simp [lackN, h0])
def covOk (ls : List (List Int)) (os ps : List Int) (i : Nat) : Prop := (i : Int) ∈ os ∨ ∀ p ∈ lst ls i, p ∈ ps
instance (ls : List (List Int)) (os ps : List Int) (i : Nat) : Decidable (covOk ls os ps i) := by unfold covOk; exact inferInstance
def cov (ls : List (List Int)) (os ps : List Int) : Prop := ∀ i, i < ls.length → covOk ls os ps i
instance (ls : List (List Int)) (os ps : List Int) : Decidable (cov ls os ps) := by unfold cov; exact inferInstance
/-- The error of a cover. -/
def cvE (P : Int) (ls : List (List Int)) (os ps : List Int) : Int := if chE P ls os = 0 then (if isS P ps then (if cov ls os ps then 0 else 7) else 1) else chE P ls os
def cvN (P : Int) (ls : List (List Int)) (os ps : List Int) : Int := if cvE P ls os ps = 0 then os.length + ps.length else 0
theorem lst_at {ws : List (AV × List Int)} {i : Nat} {x : AV × List Int} (h : ws[i]? = some x) : lst (lists ws) i = x.2 := by
  simp [lst, h]
theorem s79 {ps : List Int} {u : AV} {A : AHeap} {a : Nat} (hp : L1 A u ps) (hl : ps.length ≤ 1000000) (h : ldA 1 false (.ptr a 0) A = some u) (p : Int) : ACalls Try.prog 79 [I p, .ptr a 0] A (B (!decide (p ∈ ps))) A := by
  refine acalls hmix Try.func79 (by kernel_rfl) t79 2 rfl (by decide) ?_
  dsimp only [m79]
  simp (maxSteps := 4000000) -implicitDefEqProofs -dsimp (disch := omega) only [↓AW_ops, ↓AW_seq, ↓AOps_nil, ↓AOps_pu, ↓AOps_ld, ↓AOps_call, on_some, ↓then_normal, pval, lval, rd_S, rd_C, put_S, List.replicate_succ, List.replicate_zero, List.set_cons_zero, List.set_cons_succ, List.getElem?_cons_zero, List.getElem?_cons_succ, Option.getD_some, map_c, map_n, Nat.reduceSub, List.cons_append, List.nil_append, h]
  refine CallK.of (c_Contains hp hl p) ?_
  simp (maxSteps := 4000000) -implicitDefEqProofs -dsimp (disch := omega) only [↓AW_ret, ↓AOps_nil, ↓AOps_pu, on_some, extK_same, ↓then_normal, ↓Fin_ret, pval, rd_S, put_S, resV, resL, List.replicate_succ, List.replicate_zero, List.set_cons_zero, List.set_cons_succ, List.getElem?_cons_zero, List.getElem?_cons_succ, Option.getD_some, Nat.reduceSub, List.cons_append, List.nil_append]
  exact gc_same rfl
theorem L1_cells {A : AHeap} {u : AV} {xs : List Int} (h : L1 A u xs) : u.cells? = some [u] := by
  rcases h.inv with ⟨rfl, _⟩ | ⟨n, off, full, rw, l, rfl, _⟩ <;> rfl
theorem s46 {P : Int} {ws : List (AV × List Int)} {v : AV} {os ps : List Int} {u t : AV} {A : AHeap} (hw : LL A v ws) (hs : Sz ws) (ho : L1 A u os) (hol : os.length ≤ 1000000) (hp : L1 A t ps) (hpl : ps.length ≤ 1000000) :
    ACalls Try.prog 46 [.agg [I P, v], u, t] A (.tuple [I (cvN P (lists ws) os ps), I (cvE P (lists ws) os ps)]) A := by
  refine acalls hmix Try.func46 (by kernel_rfl) t46 3 rfl (by decide) ?_
  have hw2 := hw.mono (pre_app A [.cells true [t]])
  have ho2 := ho.mono (pre_app A [.cells true [t]])
  have hp2 := hp.mono (pre_app A [.cells true [t]])
  dsimp only [m46]
  simp (maxSteps := 4000000) -implicitDefEqProofs -dsimp (disch := omega) only [↓AW_ops, ↓AW_seq, ↓AOps_nil, ↓AOps_pu, ↓AOps_ha, ↓AOps_call, on_some, extK_app, ↓then_normal, pval, hval_newv, rd_S, rd_C, put_S, chkd, bgot, cells_agg, partA, eq_self, List.replicate_succ, List.replicate_zero, List.set_cons_zero, List.set_cons_succ, List.getElem?_cons_zero, List.getElem?_cons_succ, List.drop_zero, List.take_succ_cons, List.take_nil, Option.getD_some, map_c, map_n, List.length_cons, List.length_nil, Nat.reduceAdd, Nat.reduceSub, Nat.reduceLeDiff, Nat.reduceEqDiff, Nat.zero_add, List.cons_append, List.nil_append, if_true, if_false, L1_cells hp]
  refine CallK.of (s74 hw2 hs ho2 hol) ?_
  by_cases h0 : chE P (lists ws) os = 0
  · simp (maxSteps := 4000000) -implicitDefEqProofs -dsimp (disch := omega) only [↓AW_skip, ↓AW_ops, ↓AW_seq, ↓AW_cond, ↓AOps_nil, ↓AOps_pu, ↓AOps_ld, ↓AOps_call, on_some, extK_same, condB_f, ↓then_normal, pval, lval, rd_S, rd_C, put_S, chkd, isAdr, bgot, AV.cells?, partA, eq_self, List.replicate_succ, List.replicate_zero, List.set_cons_zero, List.set_cons_succ, List.getElem?_cons_zero, List.getElem?_cons_succ, List.drop_zero, List.take_zero, List.take_succ_cons, Option.getD_some, map_c, map_n, List.length_cons, List.length_nil, Nat.reduceAdd, Nat.reduceSub, Nat.reduceLeDiff, Nat.zero_add, List.cons_append, List.nil_append, bin_neq, if_true, if_false, Bool.false_eq_true, decide_false, not_true_eq_false, h0, ld_new]
    refine CallK.of (s78 hp2 hpl _) ?_
    by_cases h1 : isS P ps
    · simp (maxSteps := 4000000) -implicitDefEqProofs -dsimp (disch := omega) only [↓AW_skip, ↓AW_ops, ↓AW_seq, ↓AW_cond, ↓AW_block, ↓AOps_nil, ↓AOps_pu, on_some, extK_same, condB_f, ↓then_normal, pval, rd_S, rd_C, put_S, ↓AW_toLoop, chkd, isAdr, bgot, AV.cells?, partA, eq_self, List.replicate_succ, List.replicate_zero, List.set_cons_zero, List.set_cons_succ, List.getElem?_cons_zero, List.getElem?_cons_succ, List.drop_zero, List.drop_succ_cons, List.take_succ_cons, List.take_nil, Option.getD_some, List.length_cons, List.length_nil, Nat.reduceAdd, Nat.reduceSub, Nat.reduceLeDiff, Nat.zero_add, List.cons_append, List.nil_append, if_true, if_false, Bool.false_eq_true, Bool.not_true, decide_true, h1, hw2.ls.len]
      refine LoopK.by 45 (fun i : Nat => i ≤ ws.length ∧ ∀ k, k < i → covOk (lists ws) os ps k) (fun i => [(1, u), (5, .ptr A.length 0), (23, v), (24, I ws.length), (25, I i)]) (fun _ => A ++ [.cells true [t]]) (fun i => ws.length - i) 0 ⟨by omega, by omega⟩ rfl (by simp [Has, rd_s]) rfl ?_
      rintro i ⟨hi, he⟩
      by_cases hlt : i < ws.length
      · obtain ⟨x, hz⟩ : ∃ z, ws[i]? = some z := ⟨_, List.getElem?_eq_getElem hlt⟩
        have hlt' : (i : Int) < ws.length := by omega
        have hs1 := hs.1
        have hm := List.mem_of_getElem? hz
        have hlx := lst_at hz
        have hbad : ¬ covOk (lists ws) os ps i → cvE P (lists ws) os ps = 7 := fun h => by
          unfold cvE; rw [if_pos h0, if_pos h1, if_neg]
          exact fun hc => h (hc i (by simpa using hlt))
        simp (maxSteps := 4000000) -implicitDefEqProofs -dsimp (disch := omega) only [↓AW_skip, ↓AW_ops, ↓AW_seq, ↓AW_cond, ↓AW_block, ↓AOps_nil, ↓AOps_pu, ↓AOps_ld, ↓AOps_call, on_some, condB_t, ↓then_normal, pval, lval, rd_S, put_S, partA, eq_self, mk, List.foldl_cons, List.foldl_nil, List.replicate_succ, List.replicate_zero, List.set_cons_zero, List.set_cons_succ, List.getElem?_cons_zero, List.getElem?_cons_succ, List.drop_zero, List.take_succ_cons, List.take_nil, Option.getD_some, map_c, map_n, List.length_cons, List.length_nil, Nat.reduceLeDiff, Nat.zero_add, bin_lss, if_true, if_false, Bool.false_eq_true, decide_true, hlt', hw2.ls.idx hlt, hw2.ls.ld0 hz 1 false (by decide), e0]
        refine CallK.of (c_Contains ho2 hol i) ?_
        by_cases hc : (i : Int) ∈ os
        · simp (maxSteps := 4000000) -implicitDefEqProofs -dsimp (disch := omega) only [↓AW_skip, ↓AW_ops, ↓AW_cond, ↓AOps_nil, ↓AOps_pu, ↓AOps_guard, on_some, extK_same, guardB_ft, skipS_some, condB_f, ↓then_normal, ↓inBlock_normal, pval, rd_S, rd_C, put_S, eq_self, mk, List.foldl_cons, List.foldl_nil, List.replicate_succ, List.replicate_zero, List.set_cons_zero, List.set_cons_succ, List.getElem?_cons_zero, List.getElem?_cons_succ, Option.getD_some, List.length_cons, List.length_nil, Nat.reduceAdd, Nat.zero_add, bin_add, w64, if_false, Bool.false_eq_true, Bool.not_true, decide_true, true_and, hc]
          refine ⟨i + 1, ⟨hlt, fun k hk => ?_⟩, by simp [Has, rd_s], by omega⟩
          by_cases hki : k = i
          · subst hki; exact .inl hc
          · exact he k (by omega)
        · simp (maxSteps := 4000000) -implicitDefEqProofs -dsimp (disch := omega) only [↓AOps_pu, ↓AOps_call, ↓AOps_guard, on_some, extK_same, guardB_tt, pval, rd_S, put_S, mk, List.foldl_cons, List.foldl_nil, List.replicate_succ, List.replicate_zero, List.set_cons_zero, List.set_cons_succ, List.getElem?_cons_zero, List.getElem?_cons_succ, Option.getD_some, map_c, map_n, Bool.not_false, decide_false, hc]
          refine CallK.of (c_ContainsFunc (hw2.inn x hm) (by have := hs.2 x hm; omega) 79 [.ptr A.length 0] (fun p => !decide (p ∈ ps)) (fun p _ => s79 hp2 hpl (ld_new A t []) p)) ?_
          by_cases hc2 : ∀ p ∈ x.2, p ∈ ps
          · have hc2' : (x.2.any fun p => !decide (p ∈ ps)) = false := by simpa using hc2
            simp (maxSteps := 4000000) -implicitDefEqProofs -dsimp (disch := omega) only [↓AW_skip, ↓AW_ops, ↓AW_cond, ↓AOps_nil, ↓AOps_pu, on_some, extK_same, condB_f, ↓then_normal, ↓inBlock_normal, pval, rd_S, rd_C, put_S, eq_self, mk, List.foldl_cons, List.foldl_nil, List.replicate_succ, List.replicate_zero, List.set_cons_zero, List.set_cons_succ, List.getElem?_cons_zero, List.getElem?_cons_succ, Option.getD_some, List.length_cons, List.length_nil, Nat.reduceAdd, Nat.zero_add, bin_add, w64, if_true, true_and, hc2']
            refine ⟨i + 1, ⟨hlt, fun k hk => ?_⟩, by simp [Has, rd_s], by omega⟩
            by_cases hki : k = i
            · subst hki; exact .inr (by rw [hlx]; exact hc2)
            · exact he k (by omega)
          · have hc2' : (x.2.any fun p => !decide (p ∈ ps)) = true := by simpa using hc2
            simp (maxSteps := 4000000) -implicitDefEqProofs -dsimp (disch := omega) only [↓AW_ops, ↓AW_seq, ↓AW_cond, ↓AW_ret, ↓AOps_nil, ↓AOps_pu, on_some, extK_same, condB_t, ↓then_normal, ↓then_ret, ↓inBlock_ret, ↓Fin_ret, pval, rd_S, rd_C, put_S, resV, resL, eq_self, mk, List.foldl_cons, List.foldl_nil, List.replicate_succ, List.replicate_zero, List.set_cons_zero, List.set_cons_succ, List.getElem?_cons_zero, List.getElem?_cons_succ, Option.getD_some, if_true, hc2']
            have h7 := hbad (fun h => by
              rcases h with h | h
              · exact hc h
              · rw [hlx] at h; exact hc2 h)
            exact gc_val (pre_app _ _) (by simp [cvN, h7, ren])
      · have hlt' : ¬ ((i : Int) < ws.length) := by omega
        have hii : i = ws.length := by omega
        subst hii
        have hE : cvE P (lists ws) os ps = 0 := by
          unfold cvE; rw [if_pos h0, if_pos h1, if_pos]
          exact fun k hk => he k (by simpa using hk)
        simp (maxSteps := 4000000) -implicitDefEqProofs -dsimp (disch := omega) only [↓AW_ops, ↓AW_seq, ↓AW_cond, ↓AW_exit, ↓AW_ret, ↓AOps_nil, ↓AOps_pu, ↓AOps_ld, on_some, condB_f, ↓then_normal, ↓then_exit, ↓inBlock_exit, ↓Fin_ret, pval, lval, rd_S, rd_C, put_S, resV, resL, eq_self, mk, List.foldl_cons, List.foldl_nil, List.replicate_succ, List.replicate_zero, List.set_cons_zero, List.set_cons_succ, List.getElem?_cons_zero, List.getElem?_cons_succ, Option.getD_some, bin_add, bin_lss, w64, if_true, decide_false, Int.lt_irrefl, ho2.len, ld_new, hp2.len]
        exact gc_val (pre_app _ _) (by simp [cvN, hE, ren])
    · simp (maxSteps := 4000000) -implicitDefEqProofs -dsimp (disch := omega) only [↓AW_ops, ↓AW_seq, ↓AW_cond, ↓AW_ret, ↓AOps_nil, ↓AOps_pu, on_some, extK_same, condB_t, ↓then_normal, ↓then_ret, ↓Fin_ret, pval, rd_S, rd_C, put_S, resV, resL, List.replicate_succ, List.replicate_zero, List.set_cons_zero, List.set_cons_succ, List.getElem?_cons_zero, List.getElem?_cons_succ, Option.getD_some, Nat.reduceSub, List.cons_append, List.nil_append, Bool.not_false, decide_false, h1]
      have hE : cvE P (lists ws) os ps = 1 := by unfold cvE; rw [if_pos h0, if_neg h1]
      exact gc_val (pre_app _ _) (by simp [cvN, hE, ren])
  · simp (maxSteps := 4000000) -implicitDefEqProofs -dsimp (disch := omega) only [↓AW_ops, ↓AW_seq, ↓AW_cond, ↓AW_ret, ↓AOps_nil, ↓AOps_pu, on_some, extK_same, condB_t, ↓then_normal, ↓then_ret, ↓Fin_ret, pval, rd_S, rd_C, put_S, resV, resL, List.replicate_succ, List.replicate_zero, List.set_cons_zero, List.set_cons_succ, List.getElem?_cons_zero, List.getElem?_cons_succ, Option.getD_some, Nat.reduceSub, List.cons_append, List.nil_append, bin_neq, decide_true, not_false_eq_true, h0]
    have hE : cvE P (lists ws) os ps = chE P (lists ws) os := by unfold cvE; rw [if_neg h0]
    exact gc_val (pre_app _ _) (by simp [cvN, hE, h0, ren])
end Go.Proofs.Ytlmbobbefgcolaa

namespace Go.Proofs.Ytlmbobbefgcolaa
open Go Go.Eng
/-- A list without repetition in another one is no longer. -/
theorem nodup_len {α : Type} [DecidableEq α] : ∀ {l m : List α}, l.Nodup → (∀ x ∈ l, x ∈ m) → l.length ≤ m.length
  | [], _, _, _ => by simp
  | a :: l, m, hn, h => by
    rw [List.nodup_cons] at hn
    have ha := h a (by simp)
    have ih := nodup_len (l := l) (m := m.erase a) hn.2 (fun x hx => by
      have : x ≠ a := fun e => hn.1 (e ▸ hx)
      exact (List.mem_erase_of_ne this).2 (h x (by simp [hx])))
    rw [List.length_erase_of_mem ha] at ih
    have : 0 < m.length := List.length_pos_of_mem ha
    simp only [List.length_cons]
    omega
/-- What an owner has. -/
def has (g : List Int) (k : Nat) : Int := (g[k]?).getD (-1)
theorem has_get {g : List Int} {k : Nat} {p : Int} (h : g[k]? = some p) : has g k = p := by simp [has, h]
theorem map_has (g : List Int) : (List.range g.length).map (has g) = g := by
  apply List.ext_getElem?
  intro i
  rw [List.getElem?_map]
  by_cases h : i < g.length
  · simp [h, has]
  · simp [h]
/-- The owners who are served. -/
def sv (g : List Int) : List Nat := (List.range g.length).filter (fun k => decide (0 ≤ has g k))
theorem mem_sv {g : List Int} {k : Nat} : k ∈ sv g ↔ k < g.length ∧ 0 ≤ has g k := by simp [sv]
theorem given_sv (g : List Int) : given g = (sv g).map (has g) := by
  unfold given sv
  conv => lhs; rw [← map_has g]
  rw [List.filter_map]
  rfl
theorem srv_sv (g : List Int) : srv g = (sv g).length := by
  unfold srv
  rw [List.countP_eq_length_filter]
  have := given_sv g
  unfold given at this
  rw [this, List.length_map]
theorem sv_nodup (g : List Int) : (sv g).Nodup := List.Pairwise.filter _ List.nodup_range
/-- What a right giving is. -/
structure Good (P : Int) (ls : List (List Int)) (g : List Int) : Prop where
  len : g.length = ls.length
  rng : ∀ k, k < ls.length → -1 ≤ has g k ∧ has g k < P
  wish : ∀ k, k < ls.length → 0 ≤ has g k → has g k ∈ lst ls k
  inj : ∀ i j, i < ls.length → j < ls.length → 0 ≤ has g i → has g i = has g j → i = j
theorem nodup_map_inj {α β : Type} {f : α → β} : ∀ {l : List α}, l.Nodup → ((l.map f).Nodup ↔ ∀ a ∈ l, ∀ b ∈ l, f a = f b → a = b)
  | [], _ => by simp
  | x :: l, hn => by
    rw [List.nodup_cons] at hn
    rw [List.map_cons, List.nodup_cons, nodup_map_inj hn.2]
    constructor
    · rintro ⟨h1, h2⟩ a ha b hb hab
      rcases List.mem_cons.1 ha with ea | ha'
      · rcases List.mem_cons.1 hb with eb | hb'
        · rw [ea, eb]
        · exact absurd (List.mem_map.2 ⟨b, hb', by rw [← hab, ea]⟩) h1
      · rcases List.mem_cons.1 hb with eb | hb'
        · exact absurd (List.mem_map.2 ⟨a, ha', by rw [hab, eb]⟩) h1
        · exact h2 a ha' b hb' hab
    · intro h
      refine ⟨fun hx => ?_, fun a ha b hb => h a (by simp [ha]) b (by simp [hb])⟩
      obtain ⟨b, hb, hab⟩ := List.mem_map.1 hx
      have := h b (by simp [hb]) x (by simp) hab
      subst this
      exact hn.1 hb
theorem lst_nat {ls : List (List Int)} {k : Nat} : lst ls (k : Int) = (ls[k]?).getD [] := by simp [lst]
theorem good_iff {P : Int} {ls : List (List Int)} {g : List Int} : gE P ls g = 0 ↔ vW P ls = 0 ∧ Good P ls g := by
  constructor
  · intro h
    unfold gE at h
    split at h
    · rename_i hv
      split at h
      · rename_i h1
        split at h
        · rename_i h2
          split at h
          · rename_i h3
            refine ⟨hv, h1.1, fun k hk => ?_, fun k hk h0 => ?_, fun i j hi hj h0 hij => ?_⟩
            · obtain ⟨p, hp⟩ : ∃ p, g[k]? = some p := ⟨_, List.getElem?_eq_getElem (by omega)⟩
              rw [has_get hp]
              exact h1.2 p (List.mem_of_getElem? hp)
            · obtain ⟨p, hp⟩ : ∃ p, g[k]? = some p := ⟨_, List.getElem?_eq_getElem (by omega)⟩
              obtain ⟨l, hl⟩ : ∃ l, ls[k]? = some l := ⟨_, List.getElem?_eq_getElem hk⟩
              rw [has_get hp] at h0 ⊢
              rw [lst_nat, hl]
              exact h2 _ (List.mem_of_getElem? (zip_get hp hl)) h0
            · rw [given_sv, nodup_map_inj (sv_nodup g)] at h3
              exact h3 i (mem_sv.2 ⟨by omega, h0⟩) j (mem_sv.2 ⟨by omega, by omega⟩) hij
          · cases h
        · cases h
      · cases h
    · rename_i hv; exact absurd h hv
  · rintro ⟨hv, hg⟩
    refine gE_0 hv ⟨hg.len, fun p hp => ?_⟩ (fun x hx => ?_) ?_
    · obtain ⟨k, hk, rfl⟩ := List.mem_iff_getElem.1 hp
      have := hg.rng k (by rw [← hg.len]; exact hk)
      rwa [has_get (List.getElem?_eq_getElem hk)] at this
    · obtain ⟨k, hk⟩ := List.mem_iff_getElem?.1 hx
      rw [List.getElem?_zip_eq_some] at hk
      have hlt : k < ls.length := (List.getElem?_eq_some_iff.1 hk.2).1
      intro h0
      have := hg.wish k hlt (by rw [has_get hk.1]; exact h0)
      rw [has_get hk.1, lst_nat, hk.2] at this
      exact this
    · rw [given_sv, nodup_map_inj (sv_nodup g)]
      intro a ha b hb hab
      rw [mem_sv] at ha hb
      exact hg.inj a b (by rw [← hg.len]; exact ha.1) (by rw [← hg.len]; exact hb.1) ha.2 hab
theorem filter_split {α : Type} (p : α → Bool) (l : List α) : l.length = (l.filter p).length + (l.filter (fun x => !p x)).length := by
  induction l with
  | nil => rfl
  | cons a l ih => by_cases h : p a <;> simp [h] <;> omega
theorem cvE_0 {P : Int} {ls : List (List Int)} {os ps : List Int} : cvE P ls os ps = 0 ↔ chE P ls os = 0 ∧ isS P ps ∧ cov ls os ps := by
  unfold cvE
  by_cases h1 : chE P ls os = 0
  · by_cases h2 : isS P ps
    · by_cases h3 : cov ls os ps <;> simp [h1, h2, h3]
    · simp [h1, h2]
  · simp [h1]
end Go.Proofs.Ytlmbobbefgcolaa

namespace Go.Proofs.Ytlmbobbefgcolaa
open Go Go.Eng
abbrev St := List Bool × List Int
/-- Whether a place has been seen. -/
def sn (b : List Bool) (p : Int) : Bool := (b[p.toNat]?).getD true
def goF (rec : Int → St → Bool × St) (i : Int) : List Int → St → Bool × St
  | [], s => (false, s)
  | p :: ps, s =>
    if sn s.1 p = true then goF rec i ps s
    else if fpos (fun y => decide (p = y)) s.2 < 0 then (true, (s.1.set p.toNat true, s.2.set i.toNat p))
    else if (rec (fpos (fun y => decide (p = y)) s.2) (s.1.set p.toNat true, s.2)).1 = true then
      (true, ((rec (fpos (fun y => decide (p = y)) s.2) (s.1.set p.toNat true, s.2)).2.1, (rec (fpos (fun y => decide (p = y)) s.2) (s.1.set p.toNat true, s.2)).2.2.set i.toNat p))
    else goF rec i ps (rec (fpos (fun y => decide (p = y)) s.2) (s.1.set p.toNat true, s.2)).2
/-- A chain of changes. -/
def chF (ls : List (List Int)) : Nat → Int → St → Bool × St
  | 0, _, s => (false, s)
  | m + 1, i, s => goF (chF ls m) i (lst ls i) s
def unseen (b : List Bool) : Nat := b.count false
theorem sn_set {b : List Bool} {p q : Int} (hq : 0 ≤ q) (hp : 0 ≤ p) : sn (b.set p.toNat true) q = (decide (q = p) || sn b q) := by
  unfold sn
  rw [List.getElem?_set]
  by_cases h : p.toNat = q.toNat
  · have : q = p := by omega
    subst this
    by_cases h2 : q.toNat < b.length <;> simp [h2]
  · have : q ≠ p := by omega
    simp [h, this]
theorem unseen_set {b : List Bool} {p : Int} (h : sn b p = false) : unseen (b.set p.toNat true) + 1 = unseen b := by
  unfold sn at h
  unfold unseen
  generalize p.toNat = k at *
  induction b generalizing k with
  | nil => simp at h
  | cons a b ih =>
    cases k with
    | zero =>
      simp at h
      subst h
      simp
    | succ k =>
      have := ih k (by simpa using h)
      rw [List.set_cons_succ]
      cases a <;> simp <;> omega
/-- What a call of the chain tells. -/
structure Post (P : Int) (ls : List (List Int)) (i : Int) (ps : List Int) (s : St) (r : Bool × St) : Prop where
  len : r.2.1.length = s.1.length
  mono : ∀ q, 0 ≤ q → sn s.1 q = true → sn r.2.1 q = true
  cnt : unseen r.2.1 ≤ unseen s.1
  no : r.1 = false → r.2.2 = s.2 ∧ (∀ p ∈ ps, sn r.2.1 p = true) ∧ ∀ p, 0 ≤ p → sn r.2.1 p = true → sn s.1 p = false → ∃ h : Nat, h < ls.length ∧ has s.2 h = p ∧ ∀ q ∈ lst ls h, sn r.2.1 q = true
  yes : r.1 = true → Good P ls r.2.2 ∧ (0 ≤ has r.2.2 i.toNat ∧ sn s.1 (has r.2.2 i.toNat) = false) ∧ ∀ k, k < ls.length → has r.2.2 k = has s.2 k ∨ (0 ≤ has r.2.2 k ∧ sn s.1 (has r.2.2 k) = false)
theorem has_set {g : List Int} {i k : Nat} {p : Int} (hi : i < g.length) : has (g.set i p) k = if k = i then p else has g k := by
  unfold has
  rw [List.getElem?_set]
  by_cases h : i = k
  · subst h; simp [hi]
  · have : k ≠ i := fun e => h e.symm
    simp [h, this]
theorem good_set {P : Int} {ls : List (List Int)} {g : List Int} (hg : Good P ls g) {i : Nat} {p : Int} (hi : i < ls.length) (hp : inP P p) (hw : p ∈ lst ls i) (hfree : ∀ k, k < ls.length → k ≠ i → has g k ≠ p) : Good P ls (g.set i p) := by
  have hi' : i < g.length := by rw [hg.len]; exact hi
  refine ⟨by simp [hg.len], fun k hk => ?_, fun k hk => ?_, fun a b ha hb => ?_⟩
  · rw [has_set hi']
    split
    · have := hp.1; have := hp.2; omega
    · exact hg.rng k hk
  · rw [has_set hi']
    split
    · rename_i h; subst h; intro _; exact hw
    · exact hg.wish k hk
  · rw [has_set hi', has_set hi']
    by_cases h1 : a = i
    · by_cases h2 : b = i
      · intro _ _; omega
      · rw [if_pos h1, if_neg h2]
        intro _ h; exact absurd h.symm (hfree b hb h2)
    · by_cases h2 : b = i
      · rw [if_neg h1, if_pos h2]
        intro _ h; exact absurd h (hfree a ha h1)
      · rw [if_neg h1, if_neg h2]
        exact hg.inj a b ha hb
theorem fpos_neg {p : Int} {g : List Int} (h : fpos (fun y => decide (p = y)) g < 0) : p ∉ g := by
  intro hp
  have := (fpos_iff (fun y => decide (p = y)) g).2 (by simpa using hp)
  omega
theorem fpos_get {p : Int} {g : List Int} (h : ¬ fpos (fun y => decide (p = y)) g < 0) : ∃ k : Nat, k < g.length ∧ fpos (fun y => decide (p = y)) g = k ∧ has g k = p := by
  unfold fpos at h ⊢
  cases hf : g.findIdx? (fun y => decide (p = y)) with
  | none => rw [hf] at h; simp at h
  | some k =>
    rw [List.findIdx?_eq_some_iff_getElem] at hf
    obtain ⟨h1, h2, _⟩ := hf
    have h3 : p = g[k] := by simpa using h2
    exact ⟨k, h1, rfl, by rw [h3]; exact has_get (List.getElem?_eq_getElem h1)⟩
theorem has_mem {g : List Int} {k : Nat} (hk : k < g.length) : has g k ∈ g := by
  rw [has_get (List.getElem?_eq_getElem hk)]; exact List.getElem_mem hk
theorem goF_spec {P : Int} {ls : List (List Int)} (hls : ∀ l ∈ ls, ∀ p ∈ l, inP P p) {rec : Int → St → Bool × St} {m : Nat}
    (hrec : ∀ (i : Int) (s : St), inP ls.length i → Good P ls s.2 → s.1.length = P.toNat → unseen s.1 < m → Post P ls i (lst ls i) s (rec i s)) {i : Int} (hi : inP ls.length i) :
    ∀ (ps : List Int) (s : St), (∀ p ∈ ps, p ∈ lst ls i ∧ inP P p) → Good P ls s.2 → s.1.length = P.toNat → unseen s.1 < m + 1 → Post P ls i ps s (goF rec i ps s)
  | [], s, _, _, _, _ => ⟨rfl, fun _ _ h => h, Nat.le_refl _, fun _ => ⟨rfl, by simp [goF], fun p hp h1 h2 => by simp [goF] at h1; rw [h1] at h2; cases h2⟩, fun h => by simp [goF] at h⟩
  | p :: ps, s, hps, hg, hlen, hcnt => by
    have hi0 : ((i.toNat : Nat) : Int) = i := by have := hi.1; omega
    have hil : i.toNat < ls.length := by have := hi.1; have := hi.2; omega
    have hp := hps p (by simp)
    have ih := fun s hg hlen hcnt => goF_spec hls hrec hi ps s (fun q hq => hps q (by simp [hq])) hg hlen hcnt
    unfold goF
    by_cases hsn : sn s.1 p = true
    · rw [if_pos hsn]
      have h := ih s hg hlen hcnt
      refine ⟨h.len, h.mono, h.cnt, fun e => ?_, h.yes⟩
      obtain ⟨h1, h2, h3⟩ := h.no e
      refine ⟨h1, fun q hq => ?_, h3⟩
      rcases List.mem_cons.1 hq with rfl | hq
      · exact h.mono _ hp.2.1 hsn
      · exact h2 q hq
    · rw [if_neg hsn]
      have hsn' : sn s.1 p = false := by simpa using hsn
      have hun := unseen_set hsn'
      have hmono1 : ∀ q, 0 ≤ q → sn s.1 q = true → sn (s.1.set p.toNat true) q = true := fun q hq h => by rw [sn_set hq hp.2.1, h, Bool.or_true]
      have hself : sn (s.1.set p.toNat true) p = true := by rw [sn_set hp.2.1 hp.2.1]; simp
      by_cases hf : fpos (fun y => decide (p = y)) s.2 < 0
      · rw [if_pos hf]
        have hnot := fpos_neg hf
        have hgs := good_set hg hil hp.2 (by rw [hi0]; exact hp.1) (fun k hk _ e => hnot (by rw [← e]; exact has_mem (by rw [hg.len]; exact hk)))
        have hi' : i.toNat < s.2.length := by rw [hg.len]; exact hil
        refine ⟨by simp, hmono1, by simp only; omega, fun e => by simp at e, fun _ => ⟨hgs, ?_, fun k hk => ?_⟩⟩
        · simp only
          rw [has_set hi', if_pos rfl]
          exact ⟨hp.2.1, hsn'⟩
        · simp only
          rw [has_set hi']
          split
          · exact .inr ⟨hp.2.1, hsn'⟩
          · exact .inl rfl
      · rw [if_neg hf]
        obtain ⟨h, hh1, hh2, hh3⟩ := fpos_get hf
        have hhl : h < ls.length := by rw [← hg.len]; exact hh1
        have hR := hrec (h : Int) (s.1.set p.toNat true, s.2) ⟨by omega, by omega⟩ hg (by simp [hlen]) (by simp only; omega)
        rw [hh2]
        generalize rec (h : Int) (s.1.set p.toNat true, s.2) = r at *
        by_cases hr : r.1 = true
        · rw [if_pos hr]
          obtain ⟨y1, y2, y3⟩ := hR.yes hr
          simp only at y2 y3
          rw [Int.toNat_natCast] at y2
          have hfree : ∀ k, k < ls.length → has r.2.2 k ≠ p := fun k hk e => by
            rcases y3 k hk with h4 | h4
            · have : k = h := hg.inj k h hk hhl (by rw [← h4, e]; exact hp.2.1) (by rw [← h4, e, hh3])
              subst this
              rw [e, hself] at y2
              cases y2.2
            · rw [e, hself] at h4; cases h4.2
          have hgs := good_set y1 hil hp.2 (by rw [hi0]; exact hp.1) (fun k hk _ => hfree k hk)
          have hi' : i.toNat < r.2.2.length := by rw [y1.len]; exact hil
          refine ⟨by simp only; rw [hR.len]; simp, fun q hq hs => hR.mono q hq (hmono1 q hq hs), by have := hR.cnt; simp only at *; omega, fun e => by simp at e, fun _ => ⟨hgs, ?_, fun k hk => ?_⟩⟩
          · simp only
            rw [has_set hi', if_pos rfl]
            exact ⟨hp.2.1, hsn'⟩
          · simp only
            rw [has_set hi']
            split
            · exact .inr ⟨hp.2.1, hsn'⟩
            · rcases y3 k hk with h4 | h4
              · exact .inl h4
              · refine .inr ⟨h4.1, ?_⟩
                cases hs : sn s.1 (has r.2.2 k) with
                | false => rfl
                | true => rw [hmono1 _ h4.1 hs] at h4; cases h4.2
        · rw [if_neg hr]
          have hr' : r.1 = false := by simpa using hr
          obtain ⟨n1, n2, n3⟩ := hR.no hr'
          simp only at n1 n3
          have hc := hR.cnt
          simp only at hc
          have h := ih r.2 (by rw [n1]; exact hg) (by rw [hR.len]; simp [hlen]) (by omega)
          have hm2 : ∀ q, 0 ≤ q → sn s.1 q = true → sn r.2.1 q = true := fun q hq hs => hR.mono q hq (hmono1 q hq hs)
          refine ⟨by rw [h.len, hR.len]; simp, fun q hq hs => h.mono q hq (hm2 q hq hs), by have := h.cnt; omega, fun e => ?_, fun e => ?_⟩
          · obtain ⟨k1, k2, k3⟩ := h.no e
            refine ⟨by rw [k1, n1], fun q hq => ?_, fun q hq h1 h2 => ?_⟩
            · rcases List.mem_cons.1 hq with rfl | hq
              · exact h.mono _ hp.2.1 (hR.mono _ hp.2.1 hself)
              · exact k2 q hq
            · by_cases h3 : sn r.2.1 q = true
              · have up : ∀ (t : Nat), (∀ w ∈ lst ls t, sn r.2.1 w = true) → t < ls.length → ∀ w ∈ lst ls t, sn (goF rec i ps r.2).2.1 w = true := fun t ht htl w hw => by
                  refine h.mono w ?_ (ht w hw)
                  have hml : lst ls t ∈ ls := by
                    rw [lst_nat, List.getElem?_eq_getElem htl]; exact List.getElem_mem htl
                  exact (hls _ hml w hw).1
                by_cases h4 : q = p
                · subst h4
                  exact ⟨_, hhl, hh3, up _ n2 hhl⟩
                · obtain ⟨t, t1, t2, t3⟩ := n3 q hq h3 (by rw [sn_set hq hp.2.1, h2]; simp [h4])
                  exact ⟨t, t1, t2, up t t3 t1⟩
              · obtain ⟨t, t1, t2, t3⟩ := k3 q hq h1 (by simpa using h3)
                exact ⟨t, t1, by rw [← n1]; exact t2, t3⟩
          · obtain ⟨k1, k2, k3⟩ := h.yes e
            have unsee : ∀ q, 0 ≤ q → sn r.2.1 q = false → sn s.1 q = false := fun q hq h1 => by
              cases hs : sn s.1 q with
              | false => rfl
              | true => rw [hm2 q hq hs] at h1; cases h1
            refine ⟨k1, ⟨k2.1, unsee _ k2.1 k2.2⟩, fun k hk => ?_⟩
            rcases k3 k hk with h4 | h4
            · exact .inl (by rw [h4, n1])
            · exact .inr ⟨h4.1, unsee _ h4.1 h4.2⟩
theorem lst_in {P : Int} {ls : List (List Int)} (hls : ∀ l ∈ ls, ∀ p ∈ l, inP P p) {i : Int} {p : Int} (h : p ∈ lst ls i) : inP P p := by
  unfold lst at h
  cases hl : ls[i.toNat]? with
  | none => rw [hl] at h; simp at h
  | some l => rw [hl] at h; exact hls l (List.mem_of_getElem? hl) p h
theorem chF_spec {P : Int} {ls : List (List Int)} (hls : ∀ l ∈ ls, ∀ p ∈ l, inP P p) : ∀ (m : Nat) (i : Int) (s : St), inP ls.length i → Good P ls s.2 → s.1.length = P.toNat → unseen s.1 < m → Post P ls i (lst ls i) s (chF ls m i s)
  | 0, _, _, _, _, _, h => by omega
  | m + 1, i, s, hi, hg, hlen, hcnt => goF_spec hls (chF_spec hls m) hi (lst ls i) s (fun p hp => ⟨hp, lst_in hls hp⟩) hg hlen hcnt
/-- Owners all of whose places are held by owners among them. -/
def Stuck (ls : List (List Int)) (g : List Int) (T : Nat → Prop) : Prop := ∀ i, i < ls.length → T i → ∀ p ∈ lst ls i, ∃ h, h < ls.length ∧ T h ∧ has g h = p
/-- A list without repetition in another one that is no longer has all of it. -/
theorem nodup_cover {α : Type} [DecidableEq α] {l m : List α} (hn : l.Nodup) (h : ∀ x ∈ l, x ∈ m) (hl : m.length ≤ l.length) : ∀ x ∈ m, x ∈ l := by
  intro x hx
  rcases Decidable.em (x ∈ l) with h1 | h1
  · exact h1
  · have := nodup_len hn (m := m.erase x) (fun y hy => (List.mem_erase_of_ne (show y ≠ x from fun e => h1 (e ▸ hy))).2 (h y hy))
    rw [List.length_erase_of_mem hx] at this
    have := List.length_pos_of_mem hx
    omega
noncomputable def dec (T : Nat → Prop) (k : Nat) : Bool := @decide (T k) (Classical.propDecidable _)
theorem dec_iff {T : Nat → Prop} {k : Nat} : dec T k = true ↔ T k := by unfold dec; exact @decide_eq_true_iff _ (Classical.propDecidable _)
/-- The served ones among some, and what they wish. -/
noncomputable def svT (g : List Int) (T : Nat → Prop) : List Nat := (sv g).filter (dec T)
noncomputable def wT (P : Int) (ls : List (List Int)) (T : Nat → Prop) : List Int := (nums P.toNat).filter (fun p => @decide (∃ i, i < ls.length ∧ T i ∧ p ∈ lst ls i) (Classical.propDecidable _))
theorem mem_wT {P : Int} {ls : List (List Int)} {T : Nat → Prop} {p : Int} : p ∈ wT P ls T ↔ inP P p ∧ ∃ i, i < ls.length ∧ T i ∧ p ∈ lst ls i := by
  unfold wT inP
  rw [List.mem_filter, mem_nums]
  rw [@decide_eq_true_iff _ (Classical.propDecidable _)]
  constructor
  · rintro ⟨h1, h2⟩; exact ⟨by omega, h2⟩
  · rintro ⟨h1, h2⟩; exact ⟨by omega, h2⟩
theorem mem_svT {P : Int} {ls : List (List Int)} {g : List Int} (hg : Good P ls g) {T : Nat → Prop} {k : Nat} : k ∈ svT g T ↔ k < ls.length ∧ 0 ≤ has g k ∧ T k := by
  unfold svT
  rw [List.mem_filter, mem_sv, dec_iff, hg.len, and_assoc]
theorem nums_nodup (n : Nat) : (nums n).Nodup := by
  unfold nums
  rw [nodup_map_inj List.nodup_range]
  intro a _ b _ h
  omega
theorem svT_map_nodup {P : Int} {ls : List (List Int)} {g : List Int} (hg : Good P ls g) (T : Nat → Prop) : ((svT g T).map (has g)).Nodup := by
  rw [nodup_map_inj (show (svT g T).Nodup from List.Pairwise.filter _ (sv_nodup g))]
  intro a ha b hb h
  have ha := (mem_svT hg).1 ha
  have hb := (mem_svT hg).1 hb
  exact hg.inj a b ha.1 hb.1 ha.2.1 h
theorem svT_sub {P : Int} {ls : List (List Int)} {g : List Int} (hg : Good P ls g) (T : Nat → Prop) : ∀ p ∈ (svT g T).map (has g), p ∈ wT P ls T := by
  intro p hp
  obtain ⟨k, hk, rfl⟩ := List.mem_map.1 hp
  have hk := (mem_svT hg).1 hk
  exact mem_wT.2 ⟨⟨hk.2.1, (hg.rng k hk.1).2⟩, k, hk.1, hk.2.2, hg.wish k hk.1 hk.2.1⟩
theorem stuck_len {P : Int} {ls : List (List Int)} {g : List Int} (hg : Good P ls g) {T : Nat → Prop} (hs : Stuck ls g T) : (wT P ls T).length ≤ (svT g T).length := by
  have := nodup_len (l := wT P ls T) (m := (svT g T).map (has g)) (List.Pairwise.filter _ (nums_nodup _)) (fun p hp => by
    obtain ⟨h1, i, hi, hT, hpi⟩ := mem_wT.1 hp
    obtain ⟨h, h2, h3, h4⟩ := hs i hi hT p hpi
    exact List.mem_map.2 ⟨h, (mem_svT hg).2 ⟨h2, by rw [h4]; exact h1.1, h3⟩, h4⟩)
  simpa using this
theorem filter_len_mono {α : Type} {p q : α → Bool} {l : List α} (h : ∀ x ∈ l, p x = true → q x = true) : (l.filter p).length ≤ (l.filter q).length := by
  induction l with
  | nil => simp
  | cons a l ih =>
    have ih := ih (fun x hx => h x (by simp [hx]))
    have ha := h a (by simp)
    simp only [List.filter_cons]
    by_cases h1 : p a = true
    · rw [if_pos h1, if_pos (ha h1)]; simpa using ih
    · rw [if_neg h1]
      split
      · simp only [List.length_cons]; omega
      · exact ih
theorem svT_filter {P : Int} {ls : List (List Int)} {g : List Int} (hg : Good P ls g) (T : Nat → Prop) : svT g T = (List.range ls.length).filter (fun k => decide (0 ≤ has g k) && dec T k) := by
  unfold svT sv
  rw [List.filter_filter, hg.len]
  congr 1
  funext k
  exact Bool.and_comm _ _
theorem stuck_keep {P : Int} {ls : List (List Int)} (hls : ∀ l ∈ ls, ∀ p ∈ l, inP P p) {g g' : List Int} (hg : Good P ls g) (hg' : Good P ls g') (hk : ∀ k, k < ls.length → 0 ≤ has g k → 0 ≤ has g' k) {T : Nat → Prop} (hs : Stuck ls g T) : Stuck ls g' T := by
  have h1 := stuck_len hg hs
  have h2 : (svT g T).length ≤ (svT g' T).length := by
    rw [svT_filter hg, svT_filter hg']
    refine filter_len_mono (fun k hk' h => ?_)
    simp only [Bool.and_eq_true, decide_eq_true_eq] at h ⊢
    exact ⟨hk k (List.mem_range.1 hk') h.1, h.2⟩
  intro i hi hT p hp
  have hc := nodup_cover (svT_map_nodup hg' T) (svT_sub hg' T) (by rw [List.length_map]; omega) p
  have hin : inP P p := lst_in hls hp
  obtain ⟨k, hk1, hk2⟩ := List.mem_map.1 (hc (mem_wT.2 ⟨hin, i, hi, hT, hp⟩))
  have hk1 := (mem_svT hg').1 hk1
  exact ⟨k, hk1.1, hk1.2.2, hk2⟩
end Go.Proofs.Ytlmbobbefgcolaa

namespace Go.Proofs.Ytlmbobbefgcolaa
open Go Go.Eng
def flStep (P : Int) (ls : List (List Int)) (g : List Int) (i : Nat) : List Int := if has g i < 0 then (chF ls (P.toNat + 1) i (List.replicate P.toNat false, g)).2.2 else g
/-- A giving, filled. -/
def flF (P : Int) (ls : List (List Int)) (g : List Int) : List Int := (List.range ls.length).foldl (flStep P ls) g
theorem sn_new {P p : Int} (h : inP P p) : sn (List.replicate P.toNat false) p = false := by
  unfold sn
  rw [List.getElem?_replicate, if_pos (by have := h.1; have := h.2; omega)]
  rfl
theorem fl_step {P : Int} {ls : List (List Int)} (hls : ∀ l ∈ ls, ∀ p ∈ l, inP P p) {g : List Int} (hg : Good P ls g) {i : Nat} (hi : i < ls.length) :
    Good P ls (flStep P ls g i) ∧ (∀ k, k < ls.length → 0 ≤ has g k → 0 ≤ has (flStep P ls g i) k) ∧ (has (flStep P ls g i) i < 0 → ∃ T : Nat → Prop, T i ∧ Stuck ls (flStep P ls g i) T) := by
  unfold flStep
  by_cases h : has g i < 0
  · rw [if_pos h]
    have hpost := chF_spec hls (P.toNat + 1) i (List.replicate P.toNat false, g) ⟨by omega, by omega⟩ hg (by simp) (by simp [unseen])
    generalize chF ls (P.toNat + 1) i (List.replicate P.toNat false, g) = r at *
    by_cases hr : r.1 = true
    · obtain ⟨y1, y2, y3⟩ := hpost.yes hr
      rw [Int.toNat_natCast] at y2
      refine ⟨y1, fun k hk h0 => ?_, fun h1 => absurd y2.1 (by omega)⟩
      rcases y3 k hk with h4 | h4
      · rw [h4]; exact h0
      · exact h4.1
    · obtain ⟨n1, n2, n3⟩ := hpost.no (by simpa using hr)
      simp only at n1 n3
      rw [n1]
      refine ⟨hg, fun k _ h0 => h0, fun _ => ⟨fun k => k = i ∨ (0 ≤ has g k ∧ sn r.2.1 (has g k) = true), .inl rfl, ?_⟩⟩
      have held : ∀ p, inP P p → sn r.2.1 p = true → ∃ h : Nat, h < ls.length ∧ has g h = p ∧ ∀ q ∈ lst ls h, sn r.2.1 q = true := fun p hp hs => n3 p hp.1 hs (sn_new hp)
      intro j hj hT p hp
      have hin := lst_in hls hp
      have hseen : sn r.2.1 p = true := by
        rcases hT with rfl | ⟨h0, hs⟩
        · exact n2 p hp
        · obtain ⟨t, t1, t2, t3⟩ := held (has g j) ⟨h0, (hg.rng j hj).2⟩ hs
          have : j = t := hg.inj j t hj t1 h0 t2.symm
          subst this
          exact t3 p hp
      obtain ⟨t, t1, t2, _⟩ := held p hin hseen
      exact ⟨t, t1, .inr ⟨by rw [t2]; exact hin.1, by rw [t2]; exact hseen⟩, t2⟩
  · rw [if_neg h]
    exact ⟨hg, fun k _ h0 => h0, fun h1 => absurd h1 h⟩
theorem fl_inv {P : Int} {ls : List (List Int)} (hls : ∀ l ∈ ls, ∀ p ∈ l, inP P p) {g : List Int} (hg : Good P ls g) : ∀ k, k ≤ ls.length →
    Good P ls ((List.range k).foldl (flStep P ls) g) ∧ (∀ i, i < ls.length → 0 ≤ has g i → 0 ≤ has ((List.range k).foldl (flStep P ls) g) i) ∧ (∀ i, i < k → has ((List.range k).foldl (flStep P ls) g) i < 0 → ∃ T : Nat → Prop, T i ∧ Stuck ls ((List.range k).foldl (flStep P ls) g) T)
  | 0, _ => ⟨hg, fun _ _ h => h, fun i h => by omega⟩
  | k + 1, hk => by
    obtain ⟨h1, h2, h3⟩ := fl_inv hls hg k (by omega)
    rw [List.range_succ, List.foldl_append, List.foldl_cons, List.foldl_nil]
    generalize (List.range k).foldl (flStep P ls) g = gk at *
    obtain ⟨s1, s2, s3⟩ := fl_step hls h1 (show k < ls.length by omega)
    refine ⟨s1, fun i hi h0 => s2 i hi (h2 i hi h0), fun i hi hn => ?_⟩
    by_cases hik : i = k
    · subst hik; exact s3 hn
    · have hn' : has gk i < 0 := by
        rcases Int.lt_or_le (has gk i) 0 with h | h
        · exact h
        · have := s2 i (by omega) h; omega
      obtain ⟨T, t1, t2⟩ := h3 i (by omega) hn'
      exact ⟨T, t1, stuck_keep hls h1 s1 s2 t2⟩
theorem stuck_max {P : Int} {ls : List (List Int)} {g : List Int} (hg : Good P ls g) {T : Nat → Prop} (hs : Stuck ls g T) (hT : ∀ i, i < ls.length → has g i < 0 → T i) {g2 : List Int} (hg2 : Good P ls g2) : srv g2 ≤ srv g := by
  have h1 := stuck_len hg hs
  have h2 : (svT g2 T).length ≤ (wT P ls T).length := by
    have := nodup_len (svT_map_nodup hg2 T) (svT_sub hg2 T)
    rwa [List.length_map] at this
  have e1 := filter_split (dec T) (sv g)
  have e2 := filter_split (dec T) (sv g2)
  have h3 : ((sv g2).filter (fun x => !dec T x)).length ≤ ((List.range ls.length).filter (fun x => !dec T x)).length := by
    unfold sv
    rw [List.filter_filter, hg2.len]
    exact filter_len_mono (fun x _ h => by simp only [Bool.and_eq_true] at h; exact h.1)
  have h4 : ((List.range ls.length).filter (fun x => !dec T x)).length ≤ ((sv g).filter (fun x => !dec T x)).length := by
    unfold sv
    rw [List.filter_filter, hg.len]
    refine filter_len_mono (fun x hx h => ?_)
    simp only [Bool.and_eq_true, decide_eq_true_eq]
    refine ⟨h, ?_⟩
    rcases Int.lt_or_le (has g x) 0 with h5 | h5
    · have := dec_iff.2 (hT x (List.mem_range.1 hx) h5)
      rw [this] at h; cases h
    · exact h5
  rw [srv_sv, srv_sv, e1, e2]
  show (svT g2 T).length + _ ≤ (svT g T).length + _
  omega
theorem stuck_union {ls : List (List Int)} {g : List Int} : Stuck ls g (fun k => ∃ T : Nat → Prop, Stuck ls g T ∧ T k) := by
  rintro i hi ⟨T, hT, hTi⟩ p hp
  obtain ⟨h, h1, h2, h3⟩ := hT i hi hTi p hp
  exact ⟨h, h1, ⟨T, hT, h2⟩, h3⟩
theorem fl_max {P : Int} {ls : List (List Int)} (hls : ∀ l ∈ ls, ∀ p ∈ l, inP P p) {g : List Int} (hg : Good P ls g) :
    Good P ls (flF P ls g) ∧ (∀ i, i < ls.length → 0 ≤ has g i → 0 ≤ has (flF P ls g) i) ∧ ∀ g2, Good P ls g2 → srv g2 ≤ srv (flF P ls g) := by
  obtain ⟨h1, h2, h3⟩ := fl_inv hls hg ls.length (Nat.le_refl _)
  refine ⟨h1, h2, fun g2 hg2 => stuck_max h1 stuck_union (fun i hi hn => ?_) hg2⟩
  obtain ⟨T, t1, t2⟩ := h3 i hi hn
  exact ⟨T, t2, t1⟩
theorem good_none (P : Int) (hP : 0 ≤ P) (ls : List (List Int)) : Good P ls (List.replicate ls.length (-1)) := by
  have h : ∀ k, has (List.replicate ls.length (-1)) k = -1 := by
    intro k
    unfold has
    rw [List.getElem?_replicate]
    split <;> rfl
  refine ⟨by simp, fun k _ => by rw [h]; omega, fun k _ h0 => by rw [h] at h0; omega, fun i j _ _ h0 => by rw [h] at h0; omega⟩
/-- The most. -/
def most (P : Int) (ls : List (List Int)) : Nat := srv (flF P ls (List.replicate ls.length (-1)))
theorem most_spec {P : Int} (hP : 0 ≤ P) {ls : List (List Int)} (hls : ∀ l ∈ ls, ∀ p ∈ l, inP P p) : (∃ g, Good P ls g ∧ srv g = most P ls) ∧ ∀ g, Good P ls g → srv g ≤ most P ls := by
  obtain ⟨h1, _, h3⟩ := fl_max hls (good_none P hP ls)
  exact ⟨⟨_, h1, rfl⟩, h3⟩
theorem most_eq {P : Int} (hP : 0 ≤ P) {ls : List (List Int)} (hls : ∀ l ∈ ls, ∀ p ∈ l, inP P p) {m : Nat} (h1 : ∃ g, Good P ls g ∧ srv g = m) (h2 : ∀ g, Good P ls g → srv g ≤ m) : most P ls = m := by
  obtain ⟨⟨g, k1, k2⟩, k3⟩ := most_spec hP hls
  obtain ⟨g', k4, k5⟩ := h1
  have := h2 g k1
  have := k3 g' k4
  omega
end Go.Proofs.Ytlmbobbefgcolaa

namespace Go.Proofs.Ytlmbobbefgcolaa
open Go Go.Eng
/-- How many bits. -/
def pc (s : Nat) : Nat := if h : s = 0 then 0 else s % 2 + pc (s / 2)
termination_by s
theorem pc_0 : pc 0 = 0 := by unfold pc; simp
theorem pc_eq (s : Nat) : pc s = s % 2 + pc (s / 2) := by
  by_cases h : s = 0
  · subst h; simp [pc_0]
  · conv => lhs; unfold pc
    rw [dif_neg h]
theorem tb_succ (x i : Nat) : x.testBit (i + 1) = (x / 2).testBit i := Nat.testBit_succ x i
theorem tb_zero (x : Nat) : x.testBit 0 = decide (x % 2 = 1) := Nat.testBit_zero x
theorem pc_add : ∀ (p s : Nat), s.testBit p = false → pc (s + 2 ^ p) = pc s + 1
  | 0, s, h => by
    rw [tb_zero, decide_eq_false_iff_not] at h
    rw [pc_eq (s + 2 ^ 0), pc_eq s]
    have : (s + 2 ^ 0) / 2 = s / 2 := by omega
    rw [this]; omega
  | p + 1, s, h => by
    rw [tb_succ] at h
    have ih := pc_add p (s / 2) h
    rw [pc_eq (s + 2 ^ (p + 1)), pc_eq s]
    have h1 : (s + 2 ^ (p + 1)) / 2 = s / 2 + 2 ^ p := by rw [Nat.pow_succ]; omega
    have h2 : (s + 2 ^ (p + 1)) % 2 = s % 2 := by rw [Nat.pow_succ]; omega
    rw [h1, h2, ih]; omega
theorem tb_add : ∀ (p s q : Nat), s.testBit p = false → (s + 2 ^ p).testBit q = (s.testBit q || decide (q = p))
  | 0, s, q, h => by
    rw [tb_zero, decide_eq_false_iff_not] at h
    cases q with
    | zero => rw [tb_zero, tb_zero]; simp; omega
    | succ q =>
      rw [tb_succ, tb_succ]
      have : (s + 2 ^ 0) / 2 = s / 2 := by omega
      rw [this]; simp
  | p + 1, s, q, h => by
    rw [tb_succ] at h
    have h1 : (s + 2 ^ (p + 1)) / 2 = s / 2 + 2 ^ p := by rw [Nat.pow_succ]; omega
    have h2 : (s + 2 ^ (p + 1)) % 2 = s % 2 := by rw [Nat.pow_succ]; omega
    cases q with
    | zero => rw [tb_zero, tb_zero, h2]; simp
    | succ q => rw [tb_succ, tb_succ, h1, tb_add p (s / 2) q h]; simp
theorem tb_sub : ∀ (p t : Nat), t.testBit p = true → ∃ s, s.testBit p = false ∧ t = s + 2 ^ p
  | 0, t, h => by
    rw [tb_zero, decide_eq_true_eq] at h
    exact ⟨t - 1, by rw [tb_zero]; simp; omega, by omega⟩
  | p + 1, t, h => by
    rw [tb_succ] at h
    obtain ⟨s, h1, h2⟩ := tb_sub p (t / 2) h
    refine ⟨2 * s + t % 2, ?_, by rw [Nat.pow_succ]; omega⟩
    rw [tb_succ, show (2 * s + t % 2) / 2 = s by omega]
    exact h1
/-- The sets that can be given, owner after owner; one owner is left out. -/
def cb (f : Nat → Bool) (l : List Int) (t : Nat) : Bool := f t || l.any (fun p => t.testBit p.toNat && f (t - 2 ^ p.toNat))
def cF (ls : List (List Int)) (wo : Int) : Nat → Nat → Bool
  | 0, t => t == 0
  | i + 1, t => if (i : Int) = wo then cF ls wo i t else cb (cF ls wo i) (lst ls i) t
/-- The places that are given, as bits. -/
def mask (g : List Int) : Nat := ((given g).map (fun p => 2 ^ p.toNat)).sum
/-- A giving to the first owners. -/
structure Pre (ls : List (List Int)) (wo : Int) (i : Nat) (g : List Int) : Prop where
  len : g.length = i
  low : ∀ k, k < i → -1 ≤ has g k
  wish : ∀ k, k < i → 0 ≤ has g k → has g k ∈ lst ls k ∧ (k : Int) ≠ wo
  inj : ∀ a b, a < i → b < i → 0 ≤ has g a → has g a = has g b → a = b
theorem given_append (g : List Int) (x : Int) : given (g ++ [x]) = given g ++ if 0 ≤ x then [x] else [] := by
  unfold given
  rw [List.filter_append]
  simp [List.filter_cons]
theorem mask_append (g : List Int) (x : Int) : mask (g ++ [x]) = mask g + if 0 ≤ x then 2 ^ x.toNat else 0 := by
  unfold mask
  rw [given_append]
  split <;> simp
theorem srv_append (g : List Int) (x : Int) : srv (g ++ [x]) = srv g + if 0 ≤ x then 1 else 0 := by
  unfold srv
  rw [List.countP_append]
  simp [List.countP_cons]
theorem has_append {g : List Int} {x : Int} {k : Nat} : has (g ++ [x]) k = if k < g.length then has g k else if k = g.length then x else -1 := by
  unfold has
  by_cases h : k < g.length
  · rw [if_pos h, List.getElem?_append_left h]
  · rw [if_neg h, List.getElem?_append_right (by omega)]
    by_cases h2 : k = g.length
    · subst h2; simp
    · rw [if_neg h2]
      have : ([x] : List Int)[k - g.length]? = none := by rw [List.getElem?_eq_none]; simp; omega
      rw [this]; rfl
/-- The bits of a mask are the places that are given. -/
theorem mask_bits {ls : List (List Int)} {wo : Int} : ∀ (i : Nat) (g : List Int), Pre ls wo i g → (∀ q : Nat, (mask g).testBit q = true ↔ (q : Int) ∈ g) ∧ pc (mask g) = srv g
  | 0, g, h => by
    have : g = [] := List.eq_nil_of_length_eq_zero h.len
    subst this
    refine ⟨fun q => ?_, ?_⟩
    · simp [mask, given]
    · simp [mask, given, srv, pc_0]
  | i + 1, g, h => by
    obtain ⟨g0, x, rfl⟩ : ∃ g0 x, g = g0 ++ [x] := ⟨g.dropLast, g.getLast (by intro e; have := h.len; rw [e] at this; cases this), (List.dropLast_concat_getLast _).symm⟩
    have hl : g0.length = i := by have := h.len; simp at this; exact this
    have h0 : Pre ls wo i g0 := by
      have e : ∀ k, k < i → has (g0 ++ [x]) k = has g0 k := fun k hk => by rw [has_append, if_pos (by omega)]
      refine ⟨hl, fun k hk => by rw [← e k hk]; exact h.low k (by omega), fun k hk h1 => by rw [← e k hk] at *; exact h.wish k (by omega) h1, fun a b ha hb h1 h2 => h.inj a b (by omega) (by omega) (by rw [e a ha]; exact h1) (by rw [e a ha, e b hb]; exact h2)⟩
    obtain ⟨m1, m2⟩ := mask_bits i g0 h0
    have hx : has (g0 ++ [x]) i = x := by rw [has_append, if_neg (by omega), if_pos (by omega)]
    by_cases hx0 : 0 ≤ x
    · have hnot : x ∉ g0 := fun hm => by
        obtain ⟨k, hk, e⟩ := List.mem_iff_getElem.1 hm
        have hh : has (g0 ++ [x]) k = x := by rw [has_append, if_pos hk, has_get (List.getElem?_eq_getElem hk), e]
        have := h.inj k i (by omega) (by omega) (by rw [hh]; exact hx0) (by rw [hh, hx])
        omega
      have hbit : (mask g0).testBit x.toNat = false := by
        cases hb : (mask g0).testBit x.toNat with
        | false => rfl
        | true => exact absurd (by have := (m1 _).1 hb; rwa [Int.toNat_of_nonneg hx0] at this) hnot
      rw [mask_append, srv_append, if_pos hx0, if_pos hx0]
      refine ⟨fun q => ?_, by rw [pc_add _ _ hbit, m2]⟩
      rw [tb_add _ _ _ hbit, Bool.or_eq_true, m1 q, decide_eq_true_eq, List.mem_append]
      constructor
      · rintro (h1 | h1)
        · exact .inl h1
        · exact .inr (by simp; omega)
      · rintro (h1 | h1)
        · exact .inl h1
        · exact .inr (by simp at h1; omega)
    · rw [mask_append, srv_append, if_neg hx0, if_neg hx0]
      refine ⟨fun q => ?_, by simpa using m2⟩
      rw [Nat.add_zero, m1 q, List.mem_append]
      constructor
      · exact .inl
      · rintro (h1 | h1)
        · exact h1
        · simp at h1; omega
theorem cF_iff {ls : List (List Int)} {wo : Int} (hls : ∀ l ∈ ls, ∀ p ∈ l, 0 ≤ p) : ∀ (i t : Nat), cF ls wo i t = true ↔ ∃ g, Pre ls wo i g ∧ mask g = t
  | 0, t => by
    rw [cF, beq_iff_eq]
    constructor
    · rintro rfl
      exact ⟨[], ⟨rfl, fun k h => by omega, fun k h => by omega, fun a b h => by omega⟩, rfl⟩
    · rintro ⟨g, hg, rfl⟩
      have : g = [] := List.eq_nil_of_length_eq_zero hg.len
      subst this; rfl
  | i + 1, t => by
    have hin : ∀ (k : Nat) p, p ∈ lst ls k → 0 ≤ p := fun k p hp => by
      rw [lst_nat] at hp
      cases hl : ls[k]? with
      | none => rw [hl] at hp; simp at hp
      | some l => rw [hl] at hp; exact hls l (List.mem_of_getElem? hl) p hp
    have ext : ∀ g x, Pre ls wo i g → (x = -1 ∨ (0 ≤ x ∧ x ∈ lst ls i ∧ (i : Int) ≠ wo ∧ x ∉ g)) → Pre ls wo (i + 1) (g ++ [x]) := fun g x hg hx => by
      have e : ∀ k, k < i → has (g ++ [x]) k = has g k := fun k hk => by rw [has_append, if_pos (by have := hg.len; omega)]
      have e2 : has (g ++ [x]) i = x := by rw [has_append, if_neg (by have := hg.len; omega), if_pos (by have := hg.len; omega)]
      refine ⟨by simp [hg.len], fun k hk => ?_, fun k hk h1 => ?_, fun a b ha hb h1 h2 => ?_⟩
      · by_cases hki : k = i
        · subst hki; rw [e2]; omega
        · rw [e k (by omega)]; exact hg.low k (by omega)
      · by_cases hki : k = i
        · subst hki
          rw [e2] at h1 ⊢
          rcases hx with hx | hx
          · omega
          · exact ⟨hx.2.1, hx.2.2.1⟩
        · rw [e k (by omega)] at *; exact hg.wish k (by omega) h1
      · have notin : ∀ k, k < i → 0 ≤ x → has g k ≠ x := fun k hk h0 he => by
          rcases hx with rfl | hx
          · omega
          · exact hx.2.2.2 (by rw [← he]; exact has_mem (by have := hg.len; omega))
        by_cases hai : a = i
        · by_cases hbi : b = i
          · omega
          · rw [hai, e2] at h1 h2
            rw [e b (by omega)] at h2
            exact absurd h2.symm (notin b (by omega) h1)
        · by_cases hbi : b = i
          · rw [e a (by omega)] at h1 h2
            rw [hbi, e2] at h2
            exact absurd h2 (notin a (by omega) (by omega))
          · rw [e a (by omega)] at h1 h2
            rw [e b (by omega)] at h2
            exact hg.inj a b (by omega) (by omega) h1 h2
    have split : ∀ g, Pre ls wo (i + 1) g → ∃ g0 x, g = g0 ++ [x] ∧ Pre ls wo i g0 ∧ (x = -1 ∨ (0 ≤ x ∧ x ∈ lst ls i ∧ (i : Int) ≠ wo ∧ x ∉ g0)) := fun g h => by
      obtain ⟨g0, x, rfl⟩ : ∃ g0 x, g = g0 ++ [x] := ⟨g.dropLast, g.getLast (by intro e; have := h.len; rw [e] at this; cases this), (List.dropLast_concat_getLast _).symm⟩
      have hl : g0.length = i := by have := h.len; simp at this; exact this
      have e : ∀ k, k < i → has (g0 ++ [x]) k = has g0 k := fun k hk => by rw [has_append, if_pos (by omega)]
      have hx : has (g0 ++ [x]) i = x := by rw [has_append, if_neg (by omega), if_pos (by omega)]
      refine ⟨g0, x, rfl, ⟨hl, fun k hk => by rw [← e k hk]; exact h.low k (by omega), fun k hk h1 => by rw [← e k hk] at *; exact h.wish k (by omega) h1, fun a b ha hb h1 h2 => h.inj a b (by omega) (by omega) (by rw [e a ha]; exact h1) (by rw [e a ha, e b hb]; exact h2)⟩, ?_⟩
      by_cases hx0 : 0 ≤ x
      · have hw := h.wish i (by omega) (by rw [hx]; exact hx0)
        rw [hx] at hw
        refine .inr ⟨hx0, hw.1, hw.2, fun hm => ?_⟩
        obtain ⟨k, hk, ek⟩ := List.mem_iff_getElem.1 hm
        have hh : has (g0 ++ [x]) k = x := by rw [has_append, if_pos hk, has_get (List.getElem?_eq_getElem hk), ek]
        have := h.inj k i (by omega) (by omega) (by rw [hh]; exact hx0) (by rw [hh, hx])
        omega
      · have := h.low i (by omega)
        rw [hx] at this
        exact .inl (by omega)
    rw [cF]
    by_cases hwo : (i : Int) = wo
    · rw [if_pos hwo, cF_iff hls i t]
      constructor
      · rintro ⟨g, hg, rfl⟩
        exact ⟨g ++ [-1], ext g (-1) hg (.inl rfl), by rw [mask_append]; simp⟩
      · rintro ⟨g, hg, rfl⟩
        obtain ⟨g0, x, rfl, h0, hx⟩ := split g hg
        rcases hx with rfl | hx
        · exact ⟨g0, h0, by rw [mask_append]; simp⟩
        · exact absurd hwo hx.2.2.1
    · rw [if_neg hwo, cb, Bool.or_eq_true, cF_iff hls i t, List.any_eq_true]
      constructor
      · rintro (⟨g, hg, rfl⟩ | ⟨p, hp, h⟩)
        · exact ⟨g ++ [-1], ext g (-1) hg (.inl rfl), by rw [mask_append]; simp⟩
        · rw [Bool.and_eq_true, cF_iff hls i] at h
          obtain ⟨h1, g, hg, hm⟩ := h
          have hp0 := hin i p hp
          obtain ⟨s, s1, s2⟩ := tb_sub _ _ h1
          have hms : mask g = s := by omega
          have hnot : p ∉ g := fun hmem => by
            have := (mask_bits i g hg).1 p.toNat |>.2 (by rw [Int.toNat_of_nonneg hp0]; exact hmem)
            rw [hms, s1] at this; cases this
          exact ⟨g ++ [p], ext g p hg (.inr ⟨hp0, hp, hwo, hnot⟩), by rw [mask_append, if_pos hp0, hms, ← s2]⟩
      · rintro ⟨g, hg, rfl⟩
        obtain ⟨g0, x, rfl, h0, hx⟩ := split g hg
        rcases hx with rfl | ⟨x0, x1, x2, x3⟩
        · exact .inl ⟨g0, h0, by rw [mask_append]; simp⟩
        · refine .inr ⟨x, x1, ?_⟩
          have hb : (mask g0).testBit x.toNat = false := by
            cases hb : (mask g0).testBit x.toNat with
            | false => rfl
            | true => exact absurd (by have := ((mask_bits i g0 h0).1 _).1 hb; rwa [Int.toNat_of_nonneg x0] at this) x3
          rw [mask_append, if_pos x0, Bool.and_eq_true, cF_iff hls i, tb_add _ _ _ hb]
          exact ⟨by simp, g0, h0, by omega⟩
/-- The greatest number of bits of those that can be given. -/
def mb (f : Nat → Bool) : Nat → Nat
  | 0 => 0
  | s + 1 => if f s = true then max (mb f s) (pc s) else mb f s
theorem mb_le (f : Nat → Bool) : ∀ n s, s < n → f s = true → pc s ≤ mb f n
  | n + 1, s, h, hf => by
    rw [mb]
    by_cases hs : s = n
    · subst hs; rw [if_pos hf]; omega
    · have := mb_le f n s (by omega) hf
      split <;> omega
theorem mb_ex (f : Nat → Bool) : ∀ n, mb f n = 0 ∨ ∃ s, s < n ∧ f s = true ∧ pc s = mb f n
  | 0 => .inl rfl
  | n + 1 => by
    rw [mb]
    by_cases hf : f n = true
    · rw [if_pos hf]
      rcases Nat.le_total (mb f n) (pc n) with h | h
      · exact .inr ⟨n, by omega, hf, by omega⟩
      · rcases mb_ex f n with h1 | ⟨s, h1, h2, h3⟩
        · exact .inl (by omega)
        · exact .inr ⟨s, by omega, h2, by omega⟩
    · rw [if_neg hf]
      rcases mb_ex f n with h1 | ⟨s, h1, h2, h3⟩
      · exact .inl h1
      · exact .inr ⟨s, by omega, h2, h3⟩
/-- The wishes without an owner's. -/
def drp (ls : List (List Int)) (wo : Int) : List (List Int) := if 0 ≤ wo then ls.set wo.toNat [] else ls
theorem drp_len (ls : List (List Int)) (wo : Int) : (drp ls wo).length = ls.length := by unfold drp; split <;> simp
theorem drp_lst {ls : List (List Int)} {wo : Int} {k : Nat} (hk : k < ls.length) : lst (drp ls wo) k = if (k : Int) = wo then [] else lst ls k := by
  rw [lst_nat, lst_nat]
  unfold drp
  by_cases h : 0 ≤ wo
  · rw [if_pos h, List.getElem?_set]
    by_cases h2 : (k : Int) = wo
    · rw [if_pos h2, if_pos (by omega)]
      by_cases h3 : wo.toNat < ls.length <;> simp [h3]
    · rw [if_neg h2, if_neg (by omega)]
  · rw [if_neg h, if_neg (by omega)]
theorem pre_good {P : Int} {ls : List (List Int)} (hls : ∀ l ∈ ls, ∀ p ∈ l, inP P p) (hP : 0 ≤ P) {wo : Int} {g : List Int} : Pre ls wo ls.length g ↔ Good P (drp ls wo) g := by
  constructor
  · intro h
    refine ⟨by rw [drp_len]; exact h.len, fun k hk => ?_, fun k hk h0 => ?_, fun a b ha hb => ?_⟩
    · rw [drp_len] at hk
      refine ⟨h.low k hk, ?_⟩
      by_cases h0 : 0 ≤ has g k
      · exact (lst_in hls (h.wish k hk h0).1).2
      · omega
    · rw [drp_len] at hk
      have := h.wish k hk h0
      rw [drp_lst hk, if_neg this.2]
      exact this.1
    · rw [drp_len] at ha hb; exact h.inj a b ha hb
  · intro h
    have hl := h.len
    rw [drp_len] at hl
    refine ⟨hl, fun k hk => (h.rng k (by rw [drp_len]; exact hk)).1, fun k hk h0 => ?_, fun a b ha hb => h.inj a b (by rw [drp_len]; exact ha) (by rw [drp_len]; exact hb)⟩
    have := h.wish k (by rw [drp_len]; exact hk) h0
    rw [drp_lst hk] at this
    split at this
    · simp at this
    · rename_i h2; exact ⟨this, h2⟩
theorem drp_in {P : Int} {ls : List (List Int)} (hls : ∀ l ∈ ls, ∀ p ∈ l, inP P p) (wo : Int) : ∀ l ∈ drp ls wo, ∀ p ∈ l, inP P p := by
  intro l hl p hp
  unfold drp at hl
  split at hl
  · rcases List.mem_or_eq_of_mem_set hl with h | rfl
    · exact hls l h p hp
    · simp at hp
  · exact hls l hl p hp
theorem mask_lt {P : Int} {ls : List (List Int)} (hls : ∀ l ∈ ls, ∀ p ∈ l, inP P p) {wo : Int} {g : List Int} (h : Pre ls wo ls.length g) : mask g < 2 ^ P.toNat := by
  refine Nat.lt_pow_two_of_testBit _ (fun q hq => ?_)
  cases hb : (mask g).testBit q with
  | false => rfl
  | true =>
    have := ((mask_bits _ g h).1 q).1 hb
    obtain ⟨k, hk, e⟩ := List.mem_iff_getElem.1 this
    have hkl : k < ls.length := by rw [← h.len]; exact hk
    have hh : has g k = (q : Int) := by rw [has_get (List.getElem?_eq_getElem hk), e]
    have := lst_in hls (h.wish k hkl (by rw [hh]; omega)).1
    rw [hh] at this
    have := this.2
    omega
/-- The document's most is the most. -/
theorem mb_most {P : Int} (hP : 0 ≤ P) {ls : List (List Int)} (hls : ∀ l ∈ ls, ∀ p ∈ l, inP P p) (wo : Int) : mb (cF ls wo ls.length) (2 ^ P.toNat) = most P (drp ls wo) := by
  have h0 : ∀ l ∈ ls, ∀ p ∈ l, 0 ≤ p := fun l hl p hp => (hls l hl p hp).1
  refine (most_eq hP (drp_in hls wo) ?_ ?_).symm
  · rcases mb_ex (cF ls wo ls.length) (2 ^ P.toNat) with h | ⟨s, h1, h2, h3⟩
    · refine ⟨List.replicate (drp ls wo).length (-1), good_none P hP _, ?_⟩
      rw [h]
      simp [srv]
    · obtain ⟨g, hg, rfl⟩ := (cF_iff h0 _ _).1 h2
      exact ⟨g, (pre_good hls hP).1 hg, by rw [← h3, (mask_bits _ g hg).2]⟩
  · intro g hg
    have hp := (pre_good hls hP).2 hg
    rw [← (mask_bits _ g hp).2]
    exact mb_le _ _ _ (mask_lt hls hp) ((cF_iff h0 _ _).2 ⟨g, hp, rfl⟩)
end Go.Proofs.Ytlmbobbefgcolaa

namespace Go.Proofs.Ytlmbobbefgcolaa
open Go Go.Eng
/-- selion/selionlaw07.WishSures [] -/
def m3 : MFun := ⟨55, [1], [.mov (.s 2)],
 .seq (.ops [⟨(some 1), some (.junk), none, false, .pu (.bnew (.s 0))⟩,
   ⟨(some 2), some undefA, none, false, .pu (.mov (.c (.bool false)))⟩])
 (.seq (.seq (.ops [⟨(some 11), some undefA, none, false, .pu (.bget none 1 0 2 true)⟩,
   ⟨(some 12), some undefA, none, false, .call 17 [(.s 11)]⟩])
 (.cond (.s 12) (.seq (.ops [⟨(some 13), some undefA, none, false, .call 18 []⟩,
    ⟨(some 2), some undefA, none, false, .pu (.mov (.s 13))⟩])
  (.ret))
 (.skip)))
 (.seq (.ops [⟨(some 15), some undefA, none, false, .pu (.bget none 1 0 2 true)⟩,
   ⟨(some 16), some undefA, none, false, .call 19 [(.s 15)]⟩,
   ⟨(some 14), some undefA, none, false, .pu (.mov (.s 16))⟩,
   ⟨(some 17), some undefA, none, false, .pu (.extr 0 (.s 14))⟩,
   ⟨(some 18), some undefA, none, false, .pu (.extr 1 (.s 14))⟩,
   ⟨(some 3), some undefA, none, false, .pu (.mov (.s 17))⟩,
   ⟨(some 4), some undefA, none, false, .pu (.mov (.s 18))⟩])
 (.seq (.ops [⟨(some 20), some undefA, none, false, .pu (.bget none 1 0 2 true)⟩,
   ⟨(some 21), some undefA, none, false, .call 20 [(.s 20)]⟩,
   ⟨(some 19), some undefA, none, false, .pu (.mov (.s 21))⟩,
   ⟨(some 22), some undefA, none, false, .pu (.extr 0 (.s 19))⟩,
   ⟨(some 23), some undefA, none, false, .pu (.extr 1 (.s 19))⟩,
   ⟨(some 5), some undefA, none, false, .pu (.mov (.s 22))⟩,
   ⟨(some 6), some undefA, none, false, .pu (.mov (.s 23))⟩])
 (.seq (.ops [⟨(some 25), some undefA, none, false, .pu (.bget none 1 0 2 true)⟩,
   ⟨(some 26), some undefA, none, false, .call 21 [(.s 25)]⟩,
   ⟨(some 24), some undefA, none, false, .pu (.mov (.s 26))⟩,
   ⟨(some 27), some undefA, none, false, .pu (.extr 0 (.s 24))⟩,
   ⟨(some 28), some undefA, none, false, .pu (.extr 1 (.s 24))⟩,
   ⟨(some 7), some undefA, none, false, .pu (.mov (.s 27))⟩,
   ⟨(some 8), some undefA, none, false, .pu (.mov (.s 28))⟩])
 (.seq (.ops [⟨(some 30), some undefA, none, false, .pu (.bget none 1 0 2 true)⟩,
   ⟨(some 31), some undefA, none, false, .call 22 [(.s 30)]⟩,
   ⟨(some 29), some undefA, none, false, .pu (.mov (.s 31))⟩,
   ⟨(some 32), some undefA, none, false, .pu (.extr 0 (.s 29))⟩,
   ⟨(some 33), some undefA, none, false, .pu (.extr 1 (.s 29))⟩,
   ⟨(some 9), some undefA, none, false, .pu (.mov (.s 32))⟩,
   ⟨(some 10), some undefA, none, false, .pu (.mov (.s 33))⟩])
 (.seq (.ops [⟨(some 34), some undefA, none, false, .pu (.mov (.s 3))⟩,
   ⟨(some 35), some undefA, none, false, .pu (.mov (.s 5))⟩,
   ⟨(some 36), some undefA, none, false, .call 23 [(.s 34), (.s 35)]⟩,
   ⟨(some 37), some undefA, none, false, .pu (.mov (.s 36))⟩,
   ⟨(some 38), some undefA, (some (37, true)), false, .pu (.mov (.s 4))⟩,
   ⟨(some 39), some undefA, (some (37, true)), false, .pu (.mov (.s 6))⟩,
   ⟨(some 40), some undefA, (some (37, true)), false, .pu (.bin .eql (.s 38) (.s 39))⟩,
   ⟨(some 41), some undefA, none, false, .pu (.pick (.s 37) (.s 40) (.c (.bool false)))⟩,
   ⟨(some 42), some undefA, none, false, .pu (.mov (.s 41))⟩,
   ⟨(some 43), some undefA, (some (42, true)), false, .pu (.mov (.s 7))⟩,
   ⟨(some 44), some undefA, (some (42, true)), false, .pu (.mov (.s 9))⟩,
   ⟨(some 45), some undefA, (some (42, true)), false, .call 23 [(.s 43), (.s 44)]⟩,
   ⟨(some 46), some undefA, none, false, .pu (.pick (.s 42) (.s 45) (.c (.bool false)))⟩,
   ⟨(some 47), some undefA, none, false, .pu (.mov (.s 46))⟩,
   ⟨(some 48), some undefA, (some (47, true)), false, .pu (.mov (.s 8))⟩,
   ⟨(some 49), some undefA, (some (47, true)), false, .pu (.mov (.s 10))⟩,
   ⟨(some 50), some undefA, (some (47, true)), false, .pu (.bin .eql (.s 48) (.s 49))⟩,
   ⟨(some 51), some undefA, none, false, .pu (.pick (.s 47) (.s 50) (.c (.bool false)))⟩,
   ⟨(some 52), some undefA, none, false, .pu (.mov (.s 51))⟩,
   ⟨(some 53), some undefA, (some (52, true)), false, .call 18 []⟩,
   ⟨(some 54), some undefA, none, false, .pu (.pick (.s 52) (.s 53) (.c (.bool false)))⟩,
   ⟨(some 2), some undefA, none, false, .pu (.mov (.s 54))⟩])
 (.ret)))))))⟩
theorem t3 : trF Try.prog [1] [] Try.f3 = some m3 := by kernel_rfl
/-- selion/selionlaw07.WishMost [] -/
def m4 : MFun := ⟨66, [1], [.mov (.s 2)],
 .seq (.ops [⟨(some 1), some (.junk), none, false, .pu (.bnew (.s 0))⟩,
   ⟨(some 2), some undefA, none, false, .pu (.mov (.c (.bool false)))⟩])
 (.seq (.seq (.ops [⟨(some 11), some undefA, none, false, .pu (.bget none 1 0 2 true)⟩,
   ⟨(some 12), some undefA, none, false, .call 17 [(.s 11)]⟩])
 (.cond (.s 12) (.seq (.ops [⟨(some 13), some undefA, none, false, .call 18 []⟩,
    ⟨(some 2), some undefA, none, false, .pu (.mov (.s 13))⟩])
  (.ret))
 (.skip)))
 (.seq (.ops [⟨(some 15), some undefA, none, false, .pu (.bget none 1 0 2 true)⟩,
   ⟨(some 16), some undefA, none, false, .call 24 [(.s 15)]⟩,
   ⟨(some 14), some undefA, none, false, .pu (.mov (.s 16))⟩,
   ⟨(some 17), some undefA, none, false, .pu (.extr 0 (.s 14))⟩,
   ⟨(some 18), some undefA, none, false, .pu (.extr 1 (.s 14))⟩,
   ⟨(some 3), some undefA, none, false, .pu (.mov (.s 17))⟩,
   ⟨(some 4), some undefA, none, false, .pu (.mov (.s 18))⟩])
 (.seq (.ops [⟨(some 20), some undefA, none, false, .pu (.bget none 1 0 2 true)⟩,
   ⟨(some 21), some undefA, none, false, .call 25 [(.s 20)]⟩,
   ⟨(some 19), some undefA, none, false, .pu (.mov (.s 21))⟩,
   ⟨(some 22), some undefA, none, false, .pu (.extr 0 (.s 19))⟩,
   ⟨(some 23), some undefA, none, false, .pu (.extr 1 (.s 19))⟩,
   ⟨(some 5), some undefA, none, false, .pu (.mov (.s 22))⟩,
   ⟨(some 6), some undefA, none, false, .pu (.mov (.s 23))⟩])
 (.seq (.ops [⟨(some 25), some undefA, none, false, .pu (.bget none 1 0 2 true)⟩,
   ⟨(some 26), some undefA, none, false, .call 26 [(.s 25)]⟩,
   ⟨(some 24), some undefA, none, false, .pu (.mov (.s 26))⟩,
   ⟨(some 27), some undefA, none, false, .pu (.extr 0 (.s 24))⟩,
   ⟨(some 28), some undefA, none, false, .pu (.extr 1 (.s 24))⟩,
   ⟨(some 7), some undefA, none, false, .pu (.mov (.s 27))⟩,
   ⟨(some 8), some undefA, none, false, .pu (.mov (.s 28))⟩])
 (.seq (.seq (.ops [⟨(some 29), some undefA, none, false, .pu (.mov (.s 3))⟩,
   ⟨(some 30), some undefA, none, false, .pu (.mov (.s 5))⟩,
   ⟨(some 31), some undefA, none, false, .pu (.bin .neq (.s 29) (.s 30))⟩,
   ⟨(some 32), some undefA, none, false, .pu (.mov (.s 31))⟩,
   ⟨(some 33), some undefA, (some (32, false)), false, .pu (.mov (.s 4))⟩,
   ⟨(some 34), some undefA, (some (32, false)), false, .pu (.mov (.s 6))⟩,
   ⟨(some 35), some undefA, (some (32, false)), false, .pu (.bin .neq (.s 33) (.s 34))⟩,
   ⟨(some 36), some undefA, none, false, .pu (.pick (.s 32) (.c (.bool true)) (.s 35))⟩,
   ⟨(some 37), some undefA, none, false, .pu (.mov (.s 36))⟩,
   ⟨(some 38), some undefA, (some (37, false)), false, .pu (.mov (.s 8))⟩,
   ⟨(some 39), some undefA, (some (37, false)), false, .pu (.mov (.s 6))⟩,
   ⟨(some 40), some undefA, (some (37, false)), false, .pu (.bin .neq (.s 38) (.s 39))⟩,
   ⟨(some 41), some undefA, none, false, .pu (.pick (.s 37) (.c (.bool true)) (.s 40))⟩])
 (.cond (.s 41) (.seq (.ops [⟨(some 2), some undefA, none, false, .pu (.mov (.c (.bool false)))⟩])
  (.ret))
 (.skip)))
 (.seq (.seq (.ops [⟨(some 42), some undefA, none, false, .pu (.mov (.s 4))⟩,
   ⟨(some 43), some undefA, none, false, .pu (.bin .neq (.s 42) (.c (.int .i64 0)))⟩])
 (.cond (.s 43) (.seq (.ops [⟨(some 44), some undefA, none, false, .pu (.mov (.s 7))⟩,
    ⟨(some 45), some undefA, none, false, .pu (.len (.s 44))⟩,
    ⟨(some 46), some undefA, none, false, .pu (.bin .eql (.s 45) (.c (.int .i64 0)))⟩,
    ⟨(some 47), some undefA, none, false, .pu (.mov (.s 46))⟩,
    ⟨(some 48), some undefA, (some (47, true)), false, .call 18 []⟩,
    ⟨(some 49), some undefA, none, false, .pu (.pick (.s 47) (.s 48) (.c (.bool false)))⟩,
    ⟨(some 2), some undefA, none, false, .pu (.mov (.s 49))⟩])
  (.ret))
 (.skip)))
 (.seq (.ops [⟨(some 51), some undefA, none, false, .pu (.bget none 1 0 2 true)⟩,
   ⟨(some 52), some undefA, none, false, .pu (.mov (.s 7))⟩,
   ⟨(some 53), some undefA, none, false, .call 27 [(.s 51), (.s 52)]⟩,
   ⟨(some 50), some undefA, none, false, .pu (.mov (.s 53))⟩,
   ⟨(some 54), some undefA, none, false, .pu (.extr 0 (.s 50))⟩,
   ⟨(some 55), some undefA, none, false, .pu (.extr 1 (.s 50))⟩,
   ⟨(some 9), some undefA, none, false, .pu (.mov (.s 54))⟩,
   ⟨(some 10), some undefA, none, false, .pu (.mov (.s 55))⟩])
 (.seq (.ops [⟨(some 56), some undefA, none, false, .pu (.mov (.s 10))⟩,
   ⟨(some 57), some undefA, none, false, .pu (.bin .eql (.s 56) (.c (.int .i64 0)))⟩,
   ⟨(some 58), some undefA, none, false, .pu (.mov (.s 57))⟩,
   ⟨(some 59), some undefA, (some (58, true)), false, .pu (.mov (.s 9))⟩,
   ⟨(some 60), some undefA, (some (58, true)), false, .pu (.mov (.s 3))⟩,
   ⟨(some 61), some undefA, (some (58, true)), false, .pu (.bin .eql (.s 59) (.s 60))⟩,
   ⟨(some 62), some undefA, none, false, .pu (.pick (.s 58) (.s 61) (.c (.bool false)))⟩,
   ⟨(some 63), some undefA, none, false, .pu (.mov (.s 62))⟩,
   ⟨(some 64), some undefA, (some (63, true)), false, .call 18 []⟩,
   ⟨(some 65), some undefA, none, false, .pu (.pick (.s 63) (.s 64) (.c (.bool false)))⟩,
   ⟨(some 2), some undefA, none, false, .pu (.mov (.s 65))⟩])
 (.ret)))))))))⟩
theorem t4 : trF Try.prog [1] [] Try.f4 = some m4 := by kernel_rfl
/-- selion/selionlaw07.WishTurns [] -/
def m5 : MFun := ⟨69, [1, 3, 4, 6], [.mov (.s 2)],
 .seq (.ops [⟨(some 1), some (.junk), none, false, .pu (.bnew (.s 0))⟩,
   ⟨(some 2), some undefA, none, false, .pu (.mov (.c (.bool false)))⟩])
 (.seq (.seq (.ops [⟨(some 12), some undefA, none, false, .pu (.bget none 1 0 2 true)⟩,
   ⟨(some 13), some undefA, none, false, .call 17 [(.s 12)]⟩])
 (.cond (.s 13) (.seq (.ops [⟨(some 14), some undefA, none, false, .call 18 []⟩,
    ⟨(some 2), some undefA, none, false, .pu (.mov (.s 14))⟩])
  (.ret))
 (.skip)))
 (.seq (.ops [⟨(some 15), some undefA, none, false, .pu (.bget none 1 0 2 true)⟩,
   ⟨(some 16), some undefA, none, false, .call 28 [(.s 15)]⟩,
   ⟨(some 3), some (.junk), none, false, .pu (.bnew (.c (.agg [.int .i64 0, .nilS])))⟩,
   ⟨(some 3), none, none, false, .pu (.bset none 3 0 2 (.s 16))⟩])
 (.seq (.ops [⟨(some 18), some undefA, none, false, .pu (.bget none 3 0 2 true)⟩,
   ⟨(some 19), some undefA, none, false, .call 29 [(.s 18)]⟩,
   ⟨(some 17), some undefA, none, false, .pu (.mov (.s 19))⟩,
   ⟨(some 20), some undefA, none, false, .pu (.extr 0 (.s 17))⟩,
   ⟨(some 21), some undefA, none, false, .pu (.extr 1 (.s 17))⟩,
   ⟨(some 4), some (.junk), none, false, .pu (.bnew (.c (.agg [.int .i64 0, .nilS])))⟩,
   ⟨(some 4), none, none, false, .pu (.bset none 4 0 2 (.s 20))⟩,
   ⟨(some 5), some undefA, none, false, .pu (.mov (.s 21))⟩])
 (.seq (.ops [⟨(some 23), some undefA, none, false, .pu (.bget none 1 0 2 true)⟩,
   ⟨(some 24), some undefA, none, false, .call 30 [(.s 23)]⟩,
   ⟨(some 22), some undefA, none, false, .pu (.mov (.s 24))⟩,
   ⟨(some 25), some undefA, none, false, .pu (.extr 0 (.s 22))⟩,
   ⟨(some 26), some undefA, none, false, .pu (.extr 1 (.s 22))⟩,
   ⟨(some 6), some (.junk), none, false, .pu (.bnew (.c (.agg [.int .i64 0, .nilS])))⟩,
   ⟨(some 6), none, none, false, .pu (.bset none 6 0 2 (.s 25))⟩,
   ⟨(some 7), some undefA, none, false, .pu (.mov (.s 26))⟩])
 (.seq (.seq (.ops [⟨(some 27), some undefA, none, false, .pu (.bget none 4 0 2 true)⟩,
   ⟨(some 28), some undefA, none, false, .pu (.bget none 6 0 2 true)⟩,
   ⟨(some 29), some undefA, none, false, .call 31 [(.s 27), (.s 28)]⟩,
   ⟨(some 30), some undefA, none, false, .pu (.not (.s 29))⟩,
   ⟨(some 31), some undefA, none, false, .pu (.mov (.s 30))⟩,
   ⟨(some 32), some undefA, (some (31, false)), false, .pu (.mov (.s 5))⟩,
   ⟨(some 33), some undefA, (some (31, false)), false, .pu (.mov (.s 7))⟩,
   ⟨(some 34), some undefA, (some (31, false)), false, .pu (.bin .neq (.s 32) (.s 33))⟩,
   ⟨(some 35), some undefA, none, false, .pu (.pick (.s 31) (.c (.bool true)) (.s 34))⟩,
   ⟨(some 36), some undefA, none, false, .pu (.mov (.s 35))⟩,
   ⟨(some 37), some undefA, (some (36, false)), false, .pu (.bget none 3 0 2 true)⟩,
   ⟨(some 38), some undefA, (some (36, false)), false, .pu (.bget none 1 0 2 true)⟩,
   ⟨(some 39), some undefA, (some (36, false)), false, .call 31 [(.s 37), (.s 38)]⟩,
   ⟨(some 40), some undefA, (some (36, false)), false, .pu (.not (.s 39))⟩,
   ⟨(some 41), some undefA, none, false, .pu (.pick (.s 36) (.c (.bool true)) (.s 40))⟩])
 (.cond (.s 41) (.seq (.ops [⟨(some 2), some undefA, none, false, .pu (.mov (.c (.bool false)))⟩])
  (.ret))
 (.skip)))
 (.seq (.seq (.ops [⟨(some 42), some undefA, none, false, .pu (.mov (.s 5))⟩,
   ⟨(some 43), some undefA, none, false, .pu (.bin .neq (.s 42) (.c (.int .i64 0)))⟩])
 (.cond (.s 43) (.seq (.ops [⟨(some 44), some undefA, none, false, .call 18 []⟩,
    ⟨(some 2), some undefA, none, false, .pu (.mov (.s 44))⟩])
  (.ret))
 (.skip)))
 (.seq (.ops [⟨(some 46), some undefA, none, false, .pu (.bget none 4 0 2 true)⟩,
   ⟨(some 47), some undefA, none, false, .call 24 [(.s 46)]⟩,
   ⟨(some 45), some undefA, none, false, .pu (.mov (.s 47))⟩,
   ⟨(some 48), some undefA, none, false, .pu (.extr 0 (.s 45))⟩,
   ⟨(some 49), some undefA, none, false, .pu (.extr 1 (.s 45))⟩,
   ⟨(some 8), some undefA, none, false, .pu (.mov (.s 48))⟩,
   ⟨(some 9), some undefA, none, false, .pu (.mov (.s 49))⟩])
 (.seq (.ops [⟨(some 51), some undefA, none, false, .pu (.bget none 1 0 2 true)⟩,
   ⟨(some 52), some undefA, none, false, .call 24 [(.s 51)]⟩,
   ⟨(some 50), some undefA, none, false, .pu (.mov (.s 52))⟩,
   ⟨(some 53), some undefA, none, false, .pu (.extr 0 (.s 50))⟩,
   ⟨(some 54), some undefA, none, false, .pu (.extr 1 (.s 50))⟩,
   ⟨(some 10), some undefA, none, false, .pu (.mov (.s 53))⟩,
   ⟨(some 11), some undefA, none, false, .pu (.mov (.s 54))⟩])
 (.seq (.ops [⟨(some 55), some undefA, none, false, .pu (.mov (.s 9))⟩,
   ⟨(some 56), some undefA, none, false, .pu (.bin .eql (.s 55) (.c (.int .i64 0)))⟩,
   ⟨(some 57), some undefA, none, false, .pu (.mov (.s 56))⟩,
   ⟨(some 58), some undefA, (some (57, true)), false, .pu (.mov (.s 11))⟩,
   ⟨(some 59), some undefA, (some (57, true)), false, .pu (.bin .eql (.s 58) (.c (.int .i64 0)))⟩,
   ⟨(some 60), some undefA, none, false, .pu (.pick (.s 57) (.s 59) (.c (.bool false)))⟩,
   ⟨(some 61), some undefA, none, false, .pu (.mov (.s 60))⟩,
   ⟨(some 62), some undefA, (some (61, true)), false, .pu (.mov (.s 8))⟩,
   ⟨(some 63), some undefA, (some (61, true)), false, .pu (.mov (.s 10))⟩,
   ⟨(some 64), some undefA, (some (61, true)), false, .pu (.bin .eql (.s 62) (.s 63))⟩,
   ⟨(some 65), some undefA, none, false, .pu (.pick (.s 61) (.s 64) (.c (.bool false)))⟩,
   ⟨(some 66), some undefA, none, false, .pu (.mov (.s 65))⟩,
   ⟨(some 67), some undefA, (some (66, true)), false, .call 18 []⟩,
   ⟨(some 68), some undefA, none, false, .pu (.pick (.s 66) (.s 67) (.c (.bool false)))⟩,
   ⟨(some 2), some undefA, none, false, .pu (.mov (.s 68))⟩])
 (.ret))))))))))⟩
theorem t5 : trF Try.prog [1, 3, 4, 6] [] Try.f5 = some m5 := by kernel_rfl
/-- selion/selionlaw07.WishGivings [] -/
def m9 : MFun := ⟨81, [2], [.mov (.s 4)],
 .seq (.ops [⟨(some 2), some (.junk), none, false, .pu (.bnew (.s 0))⟩,
   ⟨(some 4), some undefA, none, false, .pu (.mov (.c (.bool false)))⟩])
 (.seq (.seq (.ops [⟨(some 13), some undefA, none, false, .pu (.bget none 2 0 2 true)⟩,
   ⟨(some 14), some undefA, none, false, .call 17 [(.s 13)]⟩,
   ⟨(some 15), some undefA, none, false, .pu (.mov (.s 14))⟩,
   ⟨(some 16), some undefA, (some (15, false)), false, .pu (.mov (.s 1))⟩,
   ⟨(some 17), some undefA, (some (15, false)), false, .call 32 [(.s 16)]⟩,
   ⟨(some 18), some undefA, none, false, .pu (.pick (.s 15) (.c (.bool true)) (.s 17))⟩])
 (.cond (.s 18) (.seq (.ops [⟨(some 19), some undefA, none, false, .call 18 []⟩,
    ⟨(some 4), some undefA, none, false, .pu (.mov (.s 19))⟩])
  (.ret))
 (.skip)))
 (.seq (.ops [⟨(some 21), some undefA, none, false, .pu (.bget none 2 0 2 true)⟩,
   ⟨(some 22), some undefA, none, false, .pu (.mov (.s 1))⟩,
   ⟨(some 23), some undefA, none, false, .call 33 [(.s 21), (.s 22)]⟩,
   ⟨(some 20), some undefA, none, false, .pu (.mov (.s 23))⟩,
   ⟨(some 24), some undefA, none, false, .pu (.extr 0 (.s 20))⟩,
   ⟨(some 25), some undefA, none, false, .pu (.extr 1 (.s 20))⟩,
   ⟨(some 5), some undefA, none, false, .pu (.mov (.s 24))⟩,
   ⟨(some 6), some undefA, none, false, .pu (.mov (.s 25))⟩])
 (.seq (.ops [⟨(some 27), some undefA, none, false, .pu (.bget none 2 0 2 true)⟩,
   ⟨(some 28), some undefA, none, false, .pu (.mov (.s 1))⟩,
   ⟨(some 29), some undefA, none, false, .call 27 [(.s 27), (.s 28)]⟩,
   ⟨(some 26), some undefA, none, false, .pu (.mov (.s 29))⟩,
   ⟨(some 30), some undefA, none, false, .pu (.extr 0 (.s 26))⟩,
   ⟨(some 31), some undefA, none, false, .pu (.extr 1 (.s 26))⟩,
   ⟨(some 7), some undefA, none, false, .pu (.mov (.s 30))⟩,
   ⟨(some 8), some undefA, none, false, .pu (.mov (.s 31))⟩])
 (.seq (.ops [⟨(some 33), some undefA, none, false, .pu (.bget none 2 0 2 true)⟩,
   ⟨(some 34), some undefA, none, false, .pu (.mov (.s 1))⟩,
   ⟨(some 35), some undefA, none, false, .call 37 [(.s 33), (.s 34)]⟩,
   ⟨(some 32), some undefA, none, false, .pu (.mov (.s 35))⟩,
   ⟨(some 36), some undefA, none, false, .pu (.extr 0 (.s 32))⟩,
   ⟨(some 37), some undefA, none, false, .pu (.extr 1 (.s 32))⟩,
   ⟨(some 9), some undefA, none, false, .pu (.mov (.s 36))⟩,
   ⟨(some 10), some undefA, none, false, .pu (.mov (.s 37))⟩])
 (.seq (.ops [⟨(some 39), some undefA, none, false, .pu (.bget none 2 0 2 true)⟩,
   ⟨(some 40), some undefA, none, false, .pu (.mov (.s 1))⟩,
   ⟨(some 41), some undefA, none, false, .call 38 [(.s 39), (.s 40)]⟩,
   ⟨(some 38), some undefA, none, false, .pu (.mov (.s 41))⟩,
   ⟨(some 42), some undefA, none, false, .pu (.extr 0 (.s 38))⟩,
   ⟨(some 43), some undefA, none, false, .pu (.extr 1 (.s 38))⟩,
   ⟨(some 11), some undefA, none, false, .pu (.mov (.s 42))⟩,
   ⟨(some 12), some undefA, none, false, .pu (.mov (.s 43))⟩])
 (.seq (.seq (.ops [⟨(some 44), some undefA, none, false, .pu (.bget none 2 0 2 true)⟩,
   ⟨(some 45), some undefA, none, false, .call 39 [(.s 44)]⟩,
   ⟨(some 46), some undefA, none, false, .pu (.bget none 2 0 2 true)⟩,
   ⟨(some 47), some undefA, none, false, .call 40 [(.s 46)]⟩,
   ⟨(some 48), some undefA, none, false, .pu (.bin .neq (.s 45) (.s 47))⟩,
   ⟨(some 49), some undefA, none, false, .pu (.mov (.s 48))⟩,
   ⟨(some 50), some undefA, (some (49, false)), false, .pu (.mov (.s 5))⟩,
   ⟨(some 51), some undefA, (some (49, false)), false, .pu (.mov (.s 7))⟩,
   ⟨(some 52), some undefA, (some (49, false)), false, .pu (.bin .neq (.s 50) (.s 51))⟩,
   ⟨(some 53), some undefA, none, false, .pu (.pick (.s 49) (.c (.bool true)) (.s 52))⟩,
   ⟨(some 54), some undefA, none, false, .pu (.mov (.s 53))⟩,
   ⟨(some 55), some undefA, (some (54, false)), false, .pu (.mov (.s 6))⟩,
   ⟨(some 56), some undefA, (some (54, false)), false, .pu (.mov (.s 8))⟩,
   ⟨(some 57), some undefA, (some (54, false)), false, .pu (.bin .neq (.s 55) (.s 56))⟩,
   ⟨(some 58), some undefA, none, false, .pu (.pick (.s 54) (.c (.bool true)) (.s 57))⟩,
   ⟨(some 59), some undefA, none, false, .pu (.mov (.s 58))⟩,
   ⟨(some 60), some undefA, (some (59, false)), false, .pu (.mov (.s 9))⟩,
   ⟨(some 61), some undefA, (some (59, false)), false, .pu (.mov (.s 11))⟩,
   ⟨(some 62), some undefA, (some (59, false)), false, .call 23 [(.s 60), (.s 61)]⟩,
   ⟨(some 63), some undefA, (some (59, false)), false, .pu (.not (.s 62))⟩,
   ⟨(some 64), some undefA, none, false, .pu (.pick (.s 59) (.c (.bool true)) (.s 63))⟩,
   ⟨(some 65), some undefA, none, false, .pu (.mov (.s 64))⟩,
   ⟨(some 66), some undefA, (some (65, false)), false, .pu (.mov (.s 10))⟩,
   ⟨(some 67), some undefA, (some (65, false)), false, .pu (.mov (.s 12))⟩,
   ⟨(some 68), some undefA, (some (65, false)), false, .pu (.bin .neq (.s 66) (.s 67))⟩,
   ⟨(some 69), some undefA, none, false, .pu (.pick (.s 65) (.c (.bool true)) (.s 68))⟩])
 (.cond (.s 69) (.seq (.ops [⟨(some 4), some undefA, none, false, .pu (.mov (.c (.bool false)))⟩])
  (.ret))
 (.skip)))
 (.seq (.ops [⟨(some 70), some undefA, none, false, .pu (.mov (.s 6))⟩,
   ⟨(some 71), some undefA, none, false, .pu (.bin .neq (.s 70) (.c (.int .i64 0)))⟩,
   ⟨(some 72), some undefA, none, false, .pu (.mov (.s 71))⟩,
   ⟨(some 73), some undefA, (some (72, false)), false, .pu (.mov (.s 9))⟩,
   ⟨(some 74), some undefA, (some (72, false)), false, .call 41 [(.s 73)]⟩,
   ⟨(some 75), some undefA, (some (72, false)), false, .pu (.mov (.s 5))⟩,
   ⟨(some 76), some undefA, (some (72, false)), false, .pu (.bin .eql (.s 74) (.s 75))⟩,
   ⟨(some 77), some undefA, none, false, .pu (.pick (.s 72) (.c (.bool true)) (.s 76))⟩,
   ⟨(some 78), some undefA, none, false, .pu (.mov (.s 77))⟩,
   ⟨(some 79), some undefA, (some (78, true)), false, .call 18 []⟩,
   ⟨(some 80), some undefA, none, false, .pu (.pick (.s 78) (.s 79) (.c (.bool false)))⟩,
   ⟨(some 4), some undefA, none, false, .pu (.mov (.s 80))⟩])
 (.ret))))))))⟩
theorem t9 : trF Try.prog [2] [] Try.f9 = some m9 := by kernel_rfl
end Go.Proofs.Ytlmbobbefgcolaa

namespace Go.Proofs.Ytlmbobbefgcolaa
open Go Go.Eng
end Go.Proofs.Ytlmbobbefgcolaa

namespace Go.Proofs.Ytlmbobbefgcolaa
open Go Go.Eng
theorem lsE_all {P : Int} : ∀ {ls : List (List Int)}, lsE P ls = 0 → ∀ l ∈ ls, lE P l = 0
  | [], _, _, h => by simp at h
  | a :: ls, h, l, hl => by
    rw [lsE] at h
    split at h
    · rename_i h1
      rcases List.mem_cons.1 hl with rfl | hl
      · exact h1
      · exact lsE_all h l hl
    · rename_i h1; exact absurd h h1
theorem lE_0 {P : Int} {l : List Int} (h : lE P l = 0) : (∀ p ∈ l, inP P p) ∧ l.Nodup := by
  unfold lE at h
  split at h
  · rename_i h1
    split at h
    · rename_i h2; exact ⟨h1, h2⟩
    · cases h
  · cases h
/-- What valid wishes are. -/
structure Val (P : Int) (ls : List (List Int)) : Prop where
  hP : 1 ≤ P ∧ P ≤ 7
  n : ls.length ≤ 7
  l : ∀ l ∈ ls, (∀ p ∈ l, inP P p) ∧ l.Nodup
theorem val_of {P : Int} {ls : List (List Int)} (h : vW P ls = 0) : Val P ls := by
  have hP := vW_P7 h
  have hn : ¬ 7 < ls.length := fun h1 => by rw [vW_n hP h1] at h; cases h
  rw [vW_l hP hn] at h
  exact ⟨hP, by omega, fun l hl => lE_0 (lsE_all h l hl)⟩
theorem len_le {P : Int} {l : List Int} (hP : 0 ≤ P) (h : (∀ p ∈ l, inP P p) ∧ l.Nodup) : (l.length : Int) ≤ P := by
  have := nodup_len h.2 (m := nums P.toNat) (fun p hp => mem_nums.2 ⟨(h.1 p hp).1, by have := (h.1 p hp).2; omega⟩)
  simp only [nums, List.length_map, List.length_range] at this
  omega
theorem Val.len {P : Int} {ls : List (List Int)} (h : Val P ls) {l : List Int} (hl : l ∈ ls) : (l.length : Int) ≤ P := len_le (by have := h.hP; omega) (h.l l hl)
theorem fpos_in {p : Int} {l : List Int} (h : p ∈ l) : ∃ k : Nat, k < l.length ∧ fpos (fun y => decide (p = y)) l = k ∧ l[k]? = some p := by
  obtain ⟨k, hk⟩ : ∃ k, l.findIdx? (fun y => decide (p = y)) = some k := by
    cases hf : l.findIdx? (fun y => decide (p = y)) with
    | some k => exact ⟨k, rfl⟩
    | none =>
      rw [List.findIdx?_eq_none_iff] at hf
      have := hf p h
      simp at this
  have hk2 := hk
  rw [List.findIdx?_eq_some_iff_getElem] at hk2
  obtain ⟨h1, h2, _⟩ := hk2
  refine ⟨k, h1, by unfold fpos; rw [hk], ?_⟩
  rw [List.getElem?_eq_getElem h1]
  have : p = l[k] := by simpa using h2
  rw [← this]
def cstep (c : List Int) (x : Int × List Int) : List Int := if 0 ≤ x.1 then c.set (fpos (fun y => decide (x.1 = y)) x.2).toNat ((c[(fpos (fun y => decide (x.1 = y)) x.2).toNat]?).getD 0 + 1) else c
def cnt (P : Int) (zs : List (Int × List Int)) : List Int := zs.foldl cstep (List.replicate P.toNat 0)
theorem cnt_take {P : Int} {zs : List (Int × List Int)} {i : Nat} {x : Int × List Int} (h : zs[i]? = some x) : cnt P (zs.take (i + 1)) = cstep (cnt P (zs.take i)) x := by
  unfold cnt
  rw [List.take_add_one, h, Option.toList_some, List.foldl_append]
  rfl
theorem cstep_len (c : List Int) (x : Int × List Int) : (cstep c x).length = c.length := by unfold cstep; split <;> simp
theorem cnt_len (P : Int) (zs : List (Int × List Int)) : (cnt P zs).length = P.toNat := by
  unfold cnt
  have : ∀ (zs : List (Int × List Int)) (c : List Int), (zs.foldl cstep c).length = c.length := by
    intro zs
    induction zs with
    | nil => intro c; rfl
    | cons x zs ih => intro c; rw [List.foldl_cons, ih, cstep_len]
  rw [this]; simp
theorem cstep_b {c : List Int} {x : Int × List Int} {m : Int} (h : ∀ y ∈ c, 0 ≤ y ∧ y ≤ m) (hm : 0 ≤ m) : ∀ y ∈ cstep c x, 0 ≤ y ∧ y ≤ m + 1 := by
  intro y hy
  unfold cstep at hy
  split at hy
  · rcases List.mem_or_eq_of_mem_set hy with hy | rfl
    · have := h y hy; omega
    · cases hk : c[(fpos (fun y => decide (x.1 = y)) x.2).toNat]? with
      | none => simp; omega
      | some z => have := h z (List.mem_of_getElem? hk); simp; omega
  · have := h y hy; omega
theorem cnt_b (P : Int) (zs : List (Int × List Int)) : ∀ y ∈ cnt P zs, 0 ≤ y ∧ y ≤ zs.length := by
  have : ∀ (zs : List (Int × List Int)) (c : List Int) (m : Int), 0 ≤ m → (∀ y ∈ c, 0 ≤ y ∧ y ≤ m) → ∀ y ∈ zs.foldl cstep c, 0 ≤ y ∧ y ≤ m + zs.length := by
    intro zs
    induction zs with
    | nil => intro c m _ h; simpa using h
    | cons x zs ih =>
      intro c m hm h y hy
      have := ih (cstep c x) (m + 1) (by omega) (cstep_b h hm) y (by simpa using hy)
      simp only [List.length_cons]
      omega
  intro y hy
  have := this zs (List.replicate P.toNat 0) 0 (by omega) (fun y hy => by have := (List.mem_replicate.1 hy).2; omega) y hy
  omega
theorem repl_zero (n : Nat) : repl [AV.int .i64 0] n = (List.replicate n (0 : Int)).flatMap Go.Eng.e1 := by
  induction n with
  | zero => rfl
  | succ n ih => rw [repl, ih, List.replicate_succ, List.flatMap_cons]; rfl
theorem gE_facts {P : Int} {ls : List (List Int)} {g : List Int} (h : gE P ls g = 0) : Val P ls ∧ g.length = ls.length ∧ (∀ x ∈ g.zip ls, okP x) := by
  have h1 := good_iff.1 h
  refine ⟨val_of h1.1, h1.2.len, fun x hx => ?_⟩
  obtain ⟨k, hk⟩ := List.mem_iff_getElem?.1 hx
  rw [List.getElem?_zip_eq_some] at hk
  have hlt : k < ls.length := (List.getElem?_eq_some_iff.1 hk.2).1
  intro h0
  have := h1.2.wish k hlt (by rw [has_get hk.1]; exact h0)
  rw [has_get hk.1, lst_nat, hk.2] at this
  exact this
theorem s72 {P : Int} {ws : List (AV × List Int)} {v : AV} {g : List Int} {u : AV} {A : AHeap} (hw : LL A v ws) (hs : Sz ws) (hg : L1 A u g) (hE : gE P (lists ws) g = 0) :
    ACalls Try.prog 72 [.agg [I P, v], u] A (outV 1 A (cnt P (g.zip (lists ws))).length) (outH A ((cnt P (g.zip (lists ws))).flatMap e1) (cnt P (g.zip (lists ws))).length) := by
  refine acalls hmix Try.func72 (by kernel_rfl) t72 2 rfl (by decide) ?_
  obtain ⟨hv, hlen, hok⟩ := gE_facts hE
  have hP := hv.hP
  have hn := hv.n
  have hlen2 : g.length = ws.length := by simpa using hlen
  have hn2 : ws.length ≤ 7 := by simpa using hn
  have hP0 : 0 ≤ P := by omega
  have hPl : P ≤ (lim : Int) := by simp [lim]; omega
  dsimp only [m72]
  simp (maxSteps := 4000000) -implicitDefEqProofs -dsimp (disch := omega) only [↓AW_ops, ↓AW_seq, ↓AW_block, ↓AOps_nil, ↓AOps_pu, ↓AOps_ha, on_some, extK_app, ↓then_normal, pval, hval_mks, rd_S, rd_C, put_S, ↓AW_toLoop, chkd, isAdr, bgot, cells_agg, partA, beq_self_eq_true, eq_self, List.replicate_succ, List.replicate_zero, List.set_cons_zero, List.set_cons_succ, List.getElem?_cons_zero, List.getElem?_cons_succ, List.drop_zero, List.take_zero, List.take_succ_cons, Option.getD_some, List.length_cons, List.length_nil, Nat.reduceAdd, Nat.reduceSub, Nat.reduceLeDiff, Nat.zero_add, List.cons_append, List.nil_append, if_true, if_false, Bool.false_eq_true, and_true, hP0, hPl, Int.le_refl, hg.len]
  rw [repl_zero]
  have hmk := OL.new_mk e1_len A (List.replicate P.toNat (0 : Int)) true
  rw [List.length_replicate] at hmk
  generalize hvv : AV.sl 1 A.length 0 P.toNat true = vv at *
  refine LoopK.by 34 (fun x : Nat × AHeap => x.1 ≤ g.length ∧ OL 1 e1 A x.2 A.length vv (cnt P ((g.zip (lists ws)).take x.1))) (fun x => [(2, .agg [I P, v]), (5, vv), (11, u), (12, I g.length), (13, I x.1)]) (fun x => x.2) (fun x => g.length - x.1) (0, _) ⟨by simp only; omega, by simpa [cnt] using hmk⟩ rfl (by simp [Has, rd_s]) rfl ?_
  rintro ⟨i, A1⟩ ⟨hi, ho⟩
  simp only at hi ho
  have hg1 := hg.mono ho.pre
  have hw1 := hw.mono ho.pre
  by_cases hlt : i < g.length
  · obtain ⟨z, hz⟩ : ∃ z, g[i]? = some z := ⟨_, List.getElem?_eq_getElem hlt⟩
    have hlt' : (i : Int) < g.length := by omega
    have hltw : i < ws.length := by omega
    obtain ⟨x, hx⟩ : ∃ x, ws[i]? = some x := ⟨_, List.getElem?_eq_getElem hltw⟩
    have hm := List.mem_of_getElem? hx
    have hzx := zip_get hz (ws_get hx)
    have hcs := cnt_take (P := P) hzx
    by_cases hz0 : 0 ≤ z
    · have hin : z ∈ x.2 := hok _ (List.mem_of_getElem? hzx) hz0
      have hxl := hv.len (show x.2 ∈ lists ws from List.mem_map.2 ⟨x, hm, rfl⟩)
      obtain ⟨k, hk, hfp, _⟩ := fpos_in hin
      have hkl : k < (cnt P ((g.zip (lists ws)).take i)).length := by rw [cnt_len]; omega
      obtain ⟨c, hc⟩ : ∃ c, (cnt P ((g.zip (lists ws)).take i))[k]? = some c := ⟨_, List.getElem?_eq_getElem hkl⟩
      have hcb := cnt_b P ((g.zip (lists ws)).take i) c (List.mem_of_getElem? hc)
      have hcl : ((g.zip (lists ws)).take i).length ≤ 7 := by rw [List.length_take]; omega
      simp (maxSteps := 4000000) -implicitDefEqProofs -dsimp (disch := omega) only [↓AW_skip, ↓AW_ops, ↓AW_seq, ↓AW_cond, ↓AW_block, ↓AOps_nil, ↓AOps_pu, ↓AOps_ld, ↓AOps_call, on_some, condB_t, ↓then_normal, pval, lval, rd_S, rd_C, put_S, chkd, isAdr, bgot, cells_agg, partA, eq_self, mk, List.foldl_cons, List.foldl_nil, List.replicate_succ, List.replicate_zero, List.set_cons_zero, List.set_cons_succ, List.getElem?_cons_zero, List.getElem?_cons_succ, List.drop_zero, List.drop_succ_cons, List.take_succ_cons, List.take_nil, Option.getD_some, map_c, map_n, List.length_cons, List.length_nil, Nat.reduceAdd, Nat.reduceLeDiff, Nat.zero_add, bin_lss, bin_geq, if_true, if_false, Bool.false_eq_true, decide_true, Go.Eng.e1, hlt', hg1.idx hlt, hg1.ld0 hz 1 false (by decide), hz0, hw1.ls.idx hltw, hw1.ls.ld0 hx 1 false (by decide), e0]
      refine CallK.of (c_Index (hw1.inn x hm) (by omega) z) ?_
      rw [hfp]
      have hst := ho.st hkl (I (c + 1)) (c + 1) rfl
      simp (maxSteps := 4000000) -implicitDefEqProofs -dsimp (disch := omega) only [↓AW_ops, ↓AOps_nil, ↓AOps_pu, ↓AOps_ld, ↓AOps_ha, on_some, extK_false, extK_same, ↓then_normal, ↓inBlock_normal, pval, lval, hval_st, rd_S, rd_C, put_S, putS_none, partA, eq_self, mk, List.foldl_cons, List.foldl_nil, List.replicate_succ, List.replicate_zero, List.set_cons_zero, List.set_cons_succ, List.getElem?_cons_zero, List.getElem?_cons_succ, List.drop_zero, List.take_succ_cons, List.take_nil, Option.getD_some, Option.map_some, List.length_cons, List.length_nil, Nat.reduceAdd, Nat.reduceLeDiff, Nat.zero_add, bin_add, w64, if_true, if_false, Bool.false_eq_true, Go.Eng.e1, true_and, ho.ls.idx hkl, ho.ls.ld0 hc 1 false (by decide), hst]
      refine ⟨(i + 1, _), ⟨hlt, ?_⟩, by simp [Has, rd_s], rfl, by simp only; omega⟩
      have : cnt P ((g.zip (lists ws)).take (i + 1)) = (cnt P ((g.zip (lists ws)).take i)).set k (c + 1) := by
        rw [hcs]; simp [cstep, hz0, hfp, hc]
      simp only
      rw [this]
      exact ho.set k (c + 1)
    · simp (maxSteps := 4000000) -implicitDefEqProofs -dsimp (disch := omega) only [↓AW_skip, ↓AW_ops, ↓AW_seq, ↓AW_cond, ↓AW_block, ↓AOps_nil, ↓AOps_pu, ↓AOps_ld, on_some, condB_t, condB_f, ↓then_normal, ↓inBlock_normal, pval, lval, rd_S, rd_C, put_S, partA, eq_self, mk, List.foldl_cons, List.foldl_nil, List.replicate_succ, List.replicate_zero, List.set_cons_zero, List.set_cons_succ, List.getElem?_cons_zero, List.getElem?_cons_succ, List.drop_zero, List.take_succ_cons, List.take_nil, Option.getD_some, List.length_cons, List.length_nil, Nat.reduceAdd, Nat.reduceLeDiff, Nat.zero_add, bin_add, bin_lss, bin_geq, w64, if_true, if_false, Bool.false_eq_true, decide_true, decide_false, Go.Eng.e1, true_and, hlt', hg1.idx hlt, hg1.ld0 hz 1 false (by decide), hz0]
      refine ⟨(i + 1, A1), ⟨hlt, ?_⟩, by simp [Has, rd_s], rfl, by simp only; omega⟩
      simp only
      rw [hcs]
      simpa [cstep, hz0] using ho
  · have hlt' : ¬ ((i : Int) < g.length) := by omega
    rw [List.take_of_length_le (by rw [List.length_zip]; omega)] at ho
    simp (maxSteps := 4000000) -implicitDefEqProofs -dsimp (disch := omega) only [↓AW_ops, ↓AW_seq, ↓AW_cond, ↓AW_exit, ↓AW_ret, ↓AOps_nil, ↓AOps_pu, on_some, condB_f, ↓then_normal, ↓then_exit, ↓inBlock_exit, ↓Fin_ret, pval, rd_S, put_S, resV, resL, eq_self, mk, List.foldl_cons, List.foldl_nil, List.replicate_succ, List.replicate_zero, List.set_cons_zero, List.set_cons_succ, List.getElem?_cons_zero, List.getElem?_cons_succ, Option.getD_some, bin_lss, if_true, decide_false, hlt']
    exact ho.gc (by rw [cnt_len]; omega) flat_e1
end Go.Proofs.Ytlmbobbefgcolaa

namespace Go.Proofs.Ytlmbobbefgcolaa
open Go Go.Eng
def eb (b : Bool) : List AV := [B b]
theorem eb_len (b : Bool) : (eb b).length = 1 := rfl
abbrev Lb := Ls 1 eb
/-- Where a chain stands: the wishes' box, the box of what was seen, the chain's own box, what was seen, the giving. -/
structure Ctx (P : Int) (A H : AHeap) (v : AV) (nw ns nc na ng n : Nat) (fa fg : Bool) : Prop where
  pre : A <+: H
  la : A.length ≤ na
  lg : A.length ≤ ng
  ne : na ≠ ng
  hna : na < H.length
  hng : ng < H.length
  w : ∃ rw, H[nw]? = some (.cells rw [I P, v, .sl 1 ng 0 n fg])
  s : ∃ rw, H[ns]? = some (.cells rw [.sl 1 na 0 P.toNat fa])
  c : ∃ rw, H[nc]? = some (.cells rw [.fn 101 [.ptr nw 0, .ptr ns 0, .ptr nc 0]])
  w1 : nw ≠ na
  w2 : nw ≠ ng
  s1 : ns ≠ na
  s2 : ns ≠ ng
  c1 : nc ≠ na
  c2 : nc ≠ ng
def hpS (H : AHeap) (na ng : Nat) (s : St) : AHeap := (H.set na (.cells true (s.1.flatMap eb))).set ng (.cells true (s.2.flatMap e1))
section
variable {P : Int} {A H : AHeap} {v : AV} {nw ns nc na ng n : Nat} {fa fg : Bool}
theorem Ctx.get (c : Ctx P A H v nw ns nc na ng n fa fg) (s : St) {k : Nat} (h1 : k ≠ na) (h2 : k ≠ ng) : (hpS H na ng s)[k]? = H[k]? := by
  unfold hpS
  rw [List.getElem?_set_ne (Ne.symm h2), List.getElem?_set_ne (Ne.symm h1)]
theorem Ctx.getA (c : Ctx P A H v nw ns nc na ng n fa fg) (s : St) : (hpS H na ng s)[na]? = some (.cells true (s.1.flatMap eb)) := by
  unfold hpS
  rw [List.getElem?_set_ne (Ne.symm c.ne), List.getElem?_set_self c.hna]
theorem Ctx.getG (c : Ctx P A H v nw ns nc na ng n fa fg) (s : St) : (hpS H na ng s)[ng]? = some (.cells true (s.2.flatMap e1)) := by
  unfold hpS
  rw [List.getElem?_set_self (by rw [List.length_set]; exact c.hng)]
theorem Ctx.setA (c : Ctx P A H v nw ns nc na ng n fa fg) (s : St) (b : List Bool) : (hpS H na ng s).set na (.cells true (b.flatMap eb)) = hpS H na ng (b, s.2) := by
  unfold hpS
  rw [List.set_comm _ _ (Ne.symm c.ne), List.set_set]
theorem Ctx.setG (c : Ctx P A H v nw ns nc na ng n fa fg) (s : St) (g : List Int) : (hpS H na ng s).set ng (.cells true (g.flatMap e1)) = hpS H na ng (s.1, g) := by
  unfold hpS
  rw [List.set_set]
theorem Ctx.preS (c : Ctx P A H v nw ns nc na ng n fa fg) (s : St) : A <+: hpS H na ng s := pre_set (pre_set c.pre c.la _) c.lg _
theorem Ctx.ola (c : Ctx P A H v nw ns nc na ng n fa fg) (s : St) (hl : s.1.length = P.toNat) : OL 1 eb A (hpS H na ng s) na (.sl 1 na 0 P.toNat fa) s.1 := ⟨eb_len, c.preS s, c.la, c.getA s, fa, by rw [hl]⟩
theorem Ctx.olg (c : Ctx P A H v nw ns nc na ng n fa fg) (s : St) (hl : s.2.length = n) : OL 1 e1 A (hpS H na ng s) ng (.sl 1 ng 0 n fg) s.2 := ⟨e1_len, c.preS s, c.lg, c.getG s, fg, by rw [hl]⟩
theorem Ctx.ldw (c : Ctx P A H v nw ns nc na ng n fa fg) (s : St) : ldA 1 false (.ptr nw 1) (hpS H na ng s) = some v ∧ ldA 1 false (.ptr nw 2) (hpS H na ng s) = some (.sl 1 ng 0 n fg) ∧ ldA 3 true (.ptr nw 0) (hpS H na ng s) = some (.agg [I P, v, .sl 1 ng 0 n fg]) := by
  obtain ⟨rw, h⟩ := c.w
  have := c.get s c.w1 c.w2
  rw [h] at this
  simp [ldA, this, partA]
theorem Ctx.lds (c : Ctx P A H v nw ns nc na ng n fa fg) (s : St) : ldA 1 false (.ptr ns 0) (hpS H na ng s) = some (.sl 1 na 0 P.toNat fa) := by
  obtain ⟨rw, h⟩ := c.s
  have := c.get s c.s1 c.s2
  rw [h] at this
  simp [ldA, this, partA]
theorem Ctx.ldc (c : Ctx P A H v nw ns nc na ng n fa fg) (s : St) : ldA 1 false (.ptr nc 0) (hpS H na ng s) = some (.fn 101 [.ptr nw 0, .ptr ns 0, .ptr nc 0]) := by
  obtain ⟨rw, h⟩ := c.c
  have := c.get s c.c1 c.c2
  rw [h] at this
  simp [ldA, this, partA]
end
theorem s89 {P : Int} {v u : AV} {g : List Int} {A : AHeap} (hg : L1 A u g) (hl : g.length ≤ 1000000) (p : Int) : ACalls Try.prog 89 [.agg [I P, v, u], I p] A (I (fpos (fun y => decide (p = y)) g)) A := by
  refine acalls hmix Try.func89 (by kernel_rfl) t89 2 rfl (by decide) ?_
  dsimp only [m89]
  simp (maxSteps := 4000000) -implicitDefEqProofs -dsimp (disch := omega) only [↓AW_ops, ↓AW_seq, ↓AOps_nil, ↓AOps_pu, ↓AOps_call, on_some, ↓then_normal, pval, rd_S, rd_C, put_S, chkd, isAdr, bgot, AV.cells?, partA, eq_self, List.replicate_succ, List.replicate_zero, List.set_cons_zero, List.set_cons_succ, List.getElem?_cons_zero, List.getElem?_cons_succ, List.drop_zero, List.drop_succ_cons, List.take_succ_cons, List.take_nil, Option.getD_some, map_c, map_n, List.length_cons, List.length_nil, Nat.reduceAdd, Nat.reduceSub, Nat.reduceLeDiff, Nat.zero_add, List.cons_append, List.nil_append, if_true, if_false, Bool.false_eq_true]
  refine CallK.of (c_Index hg hl p) ?_
  simp (maxSteps := 4000000) -implicitDefEqProofs -dsimp (disch := omega) only [↓AW_ret, ↓AOps_nil, ↓AOps_pu, on_some, extK_same, ↓then_normal, ↓Fin_ret, pval, rd_S, put_S, resV, resL, List.replicate_succ, List.replicate_zero, List.set_cons_zero, List.set_cons_succ, List.getElem?_cons_zero, List.getElem?_cons_succ, Option.getD_some, Nat.reduceSub, List.cons_append, List.nil_append]
  exact gc_same rfl
theorem sn_get {b : List Bool} {p : Int} (h : p.toNat < b.length) : b[p.toNat]? = some (sn b p) := by
  unfold sn
  rw [List.getElem?_eq_getElem h]
  rfl
theorem s101_step {P : Int} {ws : List (AV × List Int)} {A H : AHeap} {v : AV} {nw ns nc na ng : Nat} {fa fg : Bool} (hv : Val P (lists ws)) (hw : LL A v ws) (c : Ctx P A H v nw ns nc na ng ws.length fa fg) (m : Nat)
    (hrec : ∀ (i : Int) (s : St), inP ws.length i → s.1.length = P.toNat → Good P (lists ws) s.2 → unseen s.1 + 1 ≤ m → ACalls Try.prog 101 [I i, .ptr nw 0, .ptr ns 0, .ptr nc 0] (hpS H na ng s) (B (chF (lists ws) m i s).1) (hpS H na ng (chF (lists ws) m i s).2))
    (i : Int) (s : St) (hi : inP ws.length i) (hl : s.1.length = P.toNat) (hg : Good P (lists ws) s.2) (hm : unseen s.1 ≤ m) :
      ACalls Try.prog 101 [I i, .ptr nw 0, .ptr ns 0, .ptr nc 0] (hpS H na ng s) (B (chF (lists ws) (m + 1) i s).1) (hpS H na ng (chF (lists ws) (m + 1) i s).2) := by
  have hls : ∀ l ∈ lists ws, ∀ p ∈ l, inP P p := fun l hl => (hv.l l hl).1
  have hP := hv.hP
  have hn : ws.length ≤ 7 := by simpa using hv.n
  have hlsn : (lists ws).length = ws.length := by simp
  obtain ⟨x, hx, hlx⟩ := lst_get hi
  have hxm := List.mem_of_getElem? hx
  have hx2 := hv.len (show x.2 ∈ lists ws from List.mem_map.2 ⟨x, hxm, rfl⟩)
  have hxP := hls x.2 (List.mem_map.2 ⟨x, hxm, rfl⟩)
  have hltw : i.toNat < ws.length := (List.getElem?_eq_some_iff.1 hx).1
  rw [chF, hlx]
  refine acalls hmix Try.func101 (by kernel_rfl) t101 4 rfl (by decide) ?_
  obtain ⟨w1, w2, w3⟩ := c.ldw s
  have hw0 := hw.mono (c.preS s)
  dsimp only [m101]
  simp (maxSteps := 4000000) -implicitDefEqProofs -dsimp (disch := omega) only [↓AW_ops, ↓AW_seq, ↓AW_block, ↓AOps_nil, ↓AOps_pu, ↓AOps_ld, on_some, ↓then_normal, pval, lval, rd_S, rd_C, put_S, ↓AW_toLoop, partA, eq_self, List.replicate_succ, List.replicate_zero, List.set_cons_zero, List.set_cons_succ, List.getElem?_cons_zero, List.getElem?_cons_succ, List.drop_zero, List.take_succ_cons, List.take_nil, Option.getD_some, List.length_cons, List.length_nil, Nat.reduceSub, Nat.reduceLeDiff, Nat.zero_add, Nat.add_zero, List.cons_append, List.nil_append, if_true, if_false, Bool.false_eq_true, w1, hw0.ls.idxI (k := .i64) hi.1 hi.2, hw0.ls.ld0 hx 1 false (by decide), e0, (hw0.inn x hxm).len]
  refine LoopK.by 43 (fun y : Nat × St => y.1 ≤ x.2.length ∧ y.2.1.length = P.toNat ∧ Good P (lists ws) y.2.2 ∧ unseen y.2.1 ≤ m ∧ goF (chF (lists ws) m) i x.2 s = goF (chF (lists ws) m) i (x.2.drop y.1) y.2)
    (fun y => [(0, I i), (1, .ptr nw 0), (2, .ptr ns 0), (3, .ptr nc 0), (14, x.1), (15, I x.2.length), (16, I y.1)]) (fun y => hpS H na ng y.2) (fun y => x.2.length - y.1) (0, s) ⟨by simp only; omega, hl, hg, hm, rfl⟩ rfl (by simp [Has, rd_s]) rfl ?_
  rintro ⟨k, t⟩ ⟨hk, tl, tg, tm, te⟩
  simp only at hk tl tg tm te
  by_cases hltk : k < x.2.length
  · obtain ⟨p, hzp⟩ : ∃ p, x.2[k]? = some p := ⟨_, List.getElem?_eq_getElem hltk⟩
    have hltk' : (k : Int) < x.2.length := by omega
    have hp := hxP p (List.mem_of_getElem? hzp)
    have hp2 : p < (t.1.length : Int) := by rw [tl]; have := hp.1; have := hp.2; omega
    have hpn : p.toNat < t.1.length := by have := hp.1; omega
    have hdr : x.2.drop k = p :: x.2.drop (k + 1) := by
      have := (List.getElem?_eq_some_iff.1 hzp).2
      rw [← this]; exact List.drop_eq_getElem_cons hltk
    rw [hdr, goF] at te
    have hxt := (hw.inn x hxm).mono (c.preS t)
    have hoa := c.ola t tl
    have hget := sn_get hpn
    by_cases hsn : sn t.1 p = true
    · rw [if_pos hsn] at te
      rw [hsn] at hget
      simp (maxSteps := 4000000) -implicitDefEqProofs -dsimp (disch := omega) only [↓AW_skip, ↓AW_ops, ↓AW_seq, ↓AW_cond, ↓AW_block, ↓AW_exit, ↓AW_ret, ↓AOps_nil, ↓AOps_pu, ↓AOps_ld, on_some, condB_t, ↓then_normal, ↓then_exit, ↓inBlock_exit, ↓Fin_ret, pval, lval, rd_S, rd_C, put_S, resV, resL, partA, eq_self, mk, List.foldl_cons, List.foldl_nil, List.replicate_succ, List.replicate_zero, List.set_cons_zero, List.set_cons_succ, List.getElem?_cons_zero, List.getElem?_cons_succ, List.drop_zero, List.take_succ_cons, List.take_nil, Option.getD_some, List.length_cons, List.length_nil, Nat.reduceAdd, Nat.reduceLeDiff, Nat.zero_add, bin_add, bin_lss, w64, if_true, if_false, Bool.false_eq_true, decide_true, Go.Eng.e1, true_and, reduceCtorEq, hltk', hxt.idx hltk, hxt.ld0 hzp 1 false (by decide), c.lds t, hoa.ls.idxI (k := .i64) hp.1 hp2, hoa.ls.ld0 hget 1 false (by decide), eb]
      exact ⟨(k + 1, t), ⟨hltk, tl, tg, tm, te⟩, by simp [Has, rd_s], rfl, by simp only; omega⟩
    · rw [if_neg hsn] at te
      have hsn' : sn t.1 p = false := by simpa using hsn
      rw [hsn'] at hget
      have hun := unseen_set hsn'
      have hst := hoa.st hpn (B true) true rfl
      rw [c.setA] at hst
      have hog := c.olg (t.1.set p.toNat true, t.2) (by rw [← hlsn]; exact tg.len)
      obtain ⟨v1, v2, v3⟩ := c.ldw (t.1.set p.toNat true, t.2)
      have hgl : t.2.length = ws.length := by rw [← hlsn]; exact tg.len
      simp (maxSteps := 4000000) -implicitDefEqProofs -dsimp (disch := omega) only [↓AW_skip, ↓AW_ops, ↓AW_seq, ↓AW_cond, ↓AW_block, ↓AOps_nil, ↓AOps_pu, ↓AOps_ld, ↓AOps_ha, ↓AOps_call, on_some, extK_false, condB_t, condB_f, ↓then_normal, pval, lval, hval_st, rd_S, rd_C, put_S, putS_none, partA, eq_self, mk, List.foldl_cons, List.foldl_nil, List.replicate_succ, List.replicate_zero, List.set_cons_zero, List.set_cons_succ, List.getElem?_cons_zero, List.getElem?_cons_succ, List.drop_zero, List.take_succ_cons, List.take_nil, Option.getD_some, Option.map_some, map_c, map_n, List.length_cons, List.length_nil, Nat.reduceLeDiff, Nat.zero_add, bin_lss, if_true, if_false, Bool.false_eq_true, decide_true, Go.Eng.e1, hltk', hxt.idx hltk, hxt.ld0 hzp 1 false (by decide), c.lds t, hoa.ls.idxI (k := .i64) hp.1 hp2, hoa.ls.ld0 hget 1 false (by decide), eb, hst, v3]
      refine CallK.of (s89 hog.ls (by simp only; omega) p) ?_
      simp only
      by_cases hf : fpos (fun y => decide (p = y)) t.2 < 0
      · rw [if_pos hf] at te
        have hst2 := hog.st (i := i.toNat) (by simp only; rw [hgl]; exact hltw) (I p) p rfl
        rw [c.setG] at hst2
        simp (maxSteps := 4000000) -implicitDefEqProofs -dsimp (disch := omega) only [↓AW_ops, ↓AW_seq, ↓AW_cond, ↓AW_ret, ↓AOps_nil, ↓AOps_pu, ↓AOps_ld, ↓AOps_ha, ↓AOps_guard, on_some, extK_false, extK_same, guardB_tf, skipS_some, condB_t, ↓then_normal, ↓then_ret, ↓inBlock_ret, ↓Fin_ret, pval, lval, hval_st, rd_S, rd_C, put_S, putS_none, resV, resL, eq_self, mk, List.foldl_cons, List.foldl_nil, List.replicate_succ, List.replicate_zero, List.set_cons_zero, List.set_cons_succ, List.getElem?_cons_zero, List.getElem?_cons_succ, Option.getD_some, Option.map_some, Nat.zero_add, bin_lss, if_true, decide_true, hf, v2, hog.ls.idxI (k := .i64) hi.1 (by simp only; rw [hgl]; exact hi.2), hst2]
        exact gc_same_all (by rw [te]) (by rw [te])
      · rw [if_neg hf] at te
        obtain ⟨h, hh1, hh2, hh3⟩ := fpos_get hf
        rw [hh2] at te hf ⊢
        have hpost := chF_spec hls m h (t.1.set p.toNat true, t.2) ⟨by omega, by rw [hlsn]; omega⟩ tg (by simp [tl]) (by simp only; omega)
        simp (maxSteps := 4000000) -implicitDefEqProofs -dsimp (disch := omega) only [↓AW_ops, ↓AW_seq, ↓AOps_nil, ↓AOps_pu, ↓AOps_ld, ↓AOps_callv, ↓AOps_guard, on_some, extK_same, CallF_fn, guardB_ff, ↓then_normal, pval, lval, rd_S, rd_C, put_S, putS_none, mk, List.foldl_cons, List.foldl_nil, List.replicate_succ, List.replicate_zero, List.set_cons_zero, List.set_cons_succ, List.getElem?_cons_zero, List.getElem?_cons_succ, Option.getD_some, map_c, map_n, List.cons_append, List.nil_append, bin_lss, decide_false, hf, c.ldc (t.1.set p.toNat true, t.2)]
        refine CallK.of (hrec h (t.1.set p.toNat true, t.2) ⟨by omega, by omega⟩ (by simp [tl]) tg (by simp only; omega)) ?_
        generalize chF (lists ws) m h (t.1.set p.toNat true, t.2) = r at *
        by_cases hr : r.1 = true
        · rw [if_pos hr] at te
          have hg2 := (hpost.yes hr).1
          have hgl2 : r.2.2.length = ws.length := by rw [← hlsn]; exact hg2.len
          have hog2 := c.olg r.2 hgl2
          have hst2 := hog2.st (i := i.toNat) (by rw [hgl2]; exact hltw) (I p) p rfl
          rw [c.setG] at hst2
          simp (maxSteps := 4000000) -implicitDefEqProofs -dsimp (disch := omega) only [↓AW_ops, ↓AW_seq, ↓AW_cond, ↓AW_ret, ↓AOps_nil, ↓AOps_pu, ↓AOps_ld, ↓AOps_ha, on_some, extK_false, condB_t, ↓then_normal, ↓then_ret, ↓inBlock_ret, ↓Fin_ret, pval, lval, hval_st, rd_S, rd_C, put_S, putS_none, resV, resL, mk, List.foldl_cons, List.foldl_nil, List.replicate_succ, List.replicate_zero, List.set_cons_zero, List.set_cons_succ, List.getElem?_cons_zero, List.getElem?_cons_succ, Option.getD_some, Option.map_some, Nat.zero_add, if_false, Bool.false_eq_true, hr, (c.ldw r.2).2.1, hog2.ls.idxI (k := .i64) hi.1 (by rw [hgl2]; exact hi.2), hst2]
          exact gc_same_all (by rw [te]) (by rw [te])
        · rw [if_neg hr] at te
          have hr' : r.1 = false := by simpa using hr
          simp (maxSteps := 4000000) -implicitDefEqProofs -dsimp (disch := omega) only [↓AW_skip, ↓AW_ops, ↓AW_cond, ↓AOps_nil, ↓AOps_pu, on_some, extK_false, condB_f, ↓then_normal, ↓inBlock_normal, pval, rd_S, rd_C, put_S, putS_none, eq_self, mk, List.foldl_cons, List.foldl_nil, List.replicate_succ, List.replicate_zero, List.set_cons_zero, List.set_cons_succ, List.getElem?_cons_zero, List.getElem?_cons_succ, Option.getD_some, List.length_cons, List.length_nil, Nat.reduceAdd, Nat.zero_add, bin_add, w64, if_false, Bool.false_eq_true, true_and, hr']
          have hno := hpost.no hr'
          have hcn := hpost.cnt
          simp only at hcn
          refine ⟨(k + 1, r.2), ⟨hltk, by simp only; rw [hpost.len]; simp [tl], by simp only; rw [hno.1]; exact tg, by simp only; omega, te⟩, by simp [Has, rd_s], rfl, by simp only; omega⟩
  · have hltk' : ¬ ((k : Int) < x.2.length) := by omega
    rw [List.drop_of_length_le (by omega), goF] at te
    simp (maxSteps := 4000000) -implicitDefEqProofs -dsimp (disch := omega) only [↓AW_ops, ↓AW_seq, ↓AW_cond, ↓AW_exit, ↓AW_ret, ↓AOps_nil, ↓AOps_pu, on_some, condB_f, ↓then_normal, ↓then_exit, ↓inBlock_exit, ↓Fin_ret, pval, rd_S, rd_C, put_S, resV, resL, eq_self, mk, List.foldl_cons, List.foldl_nil, List.replicate_succ, List.replicate_zero, List.set_cons_zero, List.set_cons_succ, List.getElem?_cons_zero, List.getElem?_cons_succ, Option.getD_some, bin_lss, if_true, decide_false, hltk']
    exact gc_same_all (by rw [te]) (by rw [te])
theorem s101 {P : Int} {ws : List (AV × List Int)} {A H : AHeap} {v : AV} {nw ns nc na ng : Nat} {fa fg : Bool} (hv : Val P (lists ws)) (hw : LL A v ws) (c : Ctx P A H v nw ns nc na ng ws.length fa fg) :
    ∀ (m : Nat) (i : Int) (s : St), inP ws.length i → s.1.length = P.toNat → Good P (lists ws) s.2 → unseen s.1 ≤ m →
      ACalls Try.prog 101 [I i, .ptr nw 0, .ptr ns 0, .ptr nc 0] (hpS H na ng s) (B (chF (lists ws) (m + 1) i s).1) (hpS H na ng (chF (lists ws) (m + 1) i s).2)
  | 0, i, s, hi, hl, hg, hm => s101_step hv hw c 0 (fun _ _ _ _ _ h => by omega) i s hi hl hg hm
  | m + 1, i, s, hi, hl, hg, hm => s101_step hv hw c (m + 1) (fun j t h1 h2 h3 h4 => s101 hv hw c m j t h1 h2 h3 (by omega)) i s hi hl hg hm
end Go.Proofs.Ytlmbobbefgcolaa

namespace Go.Proofs.Ytlmbobbefgcolaa
open Go Go.Eng
theorem flat_take {α : Type} {es : Nat} {e : α → List AV} (he : ∀ x, (e x).length = es) (xs : List α) (m : Nat) (hm : m ≤ xs.length) : (xs.flatMap e).take (m * es) = (xs.take m).flatMap e := by
  have h1 := flatMap_length he (xs.take m)
  rw [List.length_take, Nat.min_eq_left hm] at h1
  conv => lhs; rw [← List.take_append_drop m xs, List.flatMap_append]
  rw [← h1, List.take_left]
theorem flat_drop {α : Type} {es : Nat} {e : α → List AV} (he : ∀ x, (e x).length = es) (xs : List α) (m : Nat) (hm : m ≤ xs.length) : (xs.flatMap e).drop (m * es) = (xs.drop m).flatMap e := by
  have h1 := flatMap_length he (xs.take m)
  rw [List.length_take, Nat.min_eq_left hm] at h1
  conv => lhs; rw [← List.take_append_drop m xs, List.flatMap_append]
  rw [← h1, List.drop_left]
/-- A copy into a list that the call has made. -/
theorem OL_cpy {α : Type} {es : Nat} {e : α → List AV} {A H : AHeap} {n : Nat} {v : AV} {xs ys : List α} (h : OL es e A H n v xs) {y : AV} (hy : Ls es e H y ys) (m : Nat) (hm : m ≤ xs.length) (full : Bool) :
    cpA es (.sl es n (m * es) (xs.length - m) full) y H = some (I ((min ys.length (xs.length - m) : Nat) : Int), H.set n (.cells true ((xs.take m ++ ys.take (min ys.length (xs.length - m)) ++ xs.drop (m + min ys.length (xs.length - m))).flatMap e))) := by
  have hl := flatMap_length h.he xs
  have hs : (xs.length - m) * es = xs.length * es - m * es := Nat.sub_mul _ _ _
  have hmm : m * es ≤ xs.length * es := Nat.mul_le_mul_right _ hm
  have hk : min ys.length (xs.length - m) ≤ ys.length := Nat.min_le_left _ _
  have hk2 : m + min ys.length (xs.length - m) ≤ xs.length := by omega
  unfold cpA
  simp only [hy.hc, h.ob, if_true]
  rw [if_pos (by omega)]
  congr 2
  congr 2
  unfold splice
  rw [flat_take h.he xs m hm, flat_take h.he ys _ hk]
  have h3 := flatMap_length h.he (ys.take (min ys.length (xs.length - m)))
  rw [List.length_take, Nat.min_eq_left hk] at h3
  rw [h3, ← Nat.add_mul, flat_drop h.he xs _ hk2]
  simp only [List.flatMap_append]
theorem OL_setAll {α : Type} {es : Nat} {e : α → List AV} {A H : AHeap} {n : Nat} {v : AV} {xs : List α} (h : OL es e A H n v xs) (xs' : List α) (hl : xs'.length = xs.length) : OL es e A (H.set n (.cells true (xs'.flatMap e))) n v xs' := by
  have hn := h.lt
  obtain ⟨he, h1, h2, h3, full, rfl⟩ := h
  exact ⟨he, pre_set h1 h2 _, h2, by rw [List.getElem?_set_self hn], full, by rw [hl]⟩
/-- A call that looks at nothing in the heap, with two results. -/
theorem ACalls_lift2 {P : Program} {f : FuncId} {args : List AV} {a b : AV} {H' : AHeap} (h : ACalls P f args [] (.tuple [a, b]) H') (ha : ∀ x ∈ args, flat x = true) (h1 : flat a = true) (h2 : flat b = true) (H : AHeap) : ACalls P f args H (.tuple [a, b]) H := by
  refine ⟨h.1, fun ρ w cargs hs hargs => ?_⟩
  have s0 : Sim (fun _ => none) [] w := ⟨fun _ _ e => (by cases e), fun _ _ _ e => (by cases e), fun _ _ _ _ e => (by cases e)⟩
  have fl : ∀ {ρ ρ' : Ren} {x : AV} {u : Value}, flat x = true → VR ρ x u → VR ρ' x u := by
    intro ρ ρ' x u hx hr
    cases hr <;> simp [flat] at hx <;> constructor
  have a0 : LR (fun _ => none) args cargs.toList := ⟨hargs.1, fun i x u hx hu => fl (ha x (List.mem_of_getElem? hx)) (hargs.2 i x u hx hu)⟩
  refine (h.2 _ w cargs s0 a0).mono ?_
  rintro e w' ⟨ρ', cv, rfl, hv, _, h3⟩
  have hk : ∀ b, b < w.heap.size → w'.heap[b]? = w.heap[b]? := fun b hb => h3.keep b hb (fun ⟨n, L, e, _⟩ => (by cases e))
  have hv' : VR ρ (.tuple [a, b]) cv := by
    cases hv with
    | tuple _ vs hl hh =>
      refine .tuple _ _ hl (fun i x u hx hu => ?_)
      match i with
      | 0 => simp at hx; subst hx; exact fl h1 (hh 0 _ u rfl hu)
      | 1 => simp at hx; subst hx; exact fl h2 (hh 1 _ u rfl hu)
      | i + 2 => simp at hx
  refine ⟨ρ, cv, rfl, hv', hs.world h3.size (fun n L e => hk _ (hs.dom n L e).2), ⟨fun _ _ => rfl, Nat.le_refl _, h3.os, h3.tape, h3.out, h3.size, fun b hb _ => hk b hb, fun _ h => .inr h, fun n L e => .inl (hs.dom n L e).1⟩⟩
theorem u64w (n : Int) (h0 : 0 ≤ n) (h1 : n < 9223372036854775808) : IntKind.u64.wrap n = n := by
  have e : IntKind.u64.wrap n = n % 18446744073709551616 := by simp [IntKind.wrap, IntKind.bits, IntKind.signed]
  rw [e]; omega
theorem OL_gcS {α : Type} {es : Nat} {e : α → List AV} {A H : AHeap} {n : Nat} {v : AV} {xs : List α} (h : OL es e A H n v xs) (hf : ∀ x, ∀ y ∈ e x, flat y = true) : GC A v H (.sl es A.length 0 xs.length false) (A ++ [.cells true (xs.flatMap e)]) := by
  obtain ⟨he, h1, h2, h3, full, rfl⟩ := h
  have hfl : ∀ y ∈ xs.flatMap e, flat y = true := fun y hy => by
    obtain ⟨x, _, hx⟩ := List.mem_flatMap.1 hy
    exact hf x y hx
  refine gc_weak (fun ρ c => VR.unfull) ?_
  have hk := Keep.add (keep_old h1) (n := n) (o := .cells true (xs.flatMap e)) h2 (by simp; omega) h3
  simp only [renO, ren_flats _ 3 _ hfl] at hk
  exact gc_keep hk (by simp [ren])
theorem rep_step {α : Type} (r z : α) {n m : Nat} (hm : m ≤ n) :
    (List.replicate m r ++ List.replicate (n - m) z).take m ++ ((List.replicate m r ++ List.replicate (n - m) z).take m).take (min m (n - m)) ++ (List.replicate m r ++ List.replicate (n - m) z).drop (m + min m (n - m)) = List.replicate (m + min m (n - m)) r ++ List.replicate (n - (m + min m (n - m))) z := by
  have h1 : (List.replicate m r ++ List.replicate (n - m) z).take m = List.replicate m r := by
    rw [List.take_append_of_le_length (by simp), List.take_of_length_le (by simp)]
  rw [h1, List.take_replicate, List.drop_append]
  simp only [List.length_replicate, List.drop_replicate]
  rw [show min (min m (n - m)) m = min m (n - m) by omega, show m - (m + min m (n - m)) = 0 by omega, show m + min m (n - m) - m = min m (n - m) by omega, show n - m - min m (n - m) = n - (m + min m (n - m)) by omega]
  rw [List.replicate_zero, List.nil_append, List.replicate_append_replicate]
theorem LR_flat {ρ ρ' : Ren} {cs : List AV} {vs : List Value} (hf : ∀ x ∈ cs, flat x = true) (h : LR ρ cs vs) : LR ρ' cs vs := by
  refine ⟨h.1, fun i x v hx hv => ?_⟩
  have h1 := h.2 i x v hx hv
  have hx' := hf x (List.mem_of_getElem? hx)
  cases h1 <;> simp [flat] at hx' <;> constructor
/-- Nothing is kept but what was there, of which some lists may have turned. -/
theorem keep_mod {H H1 H' : AHeap} (hl : H'.length = H.length) (hp : H' <+: H1) (hm : ∀ n, n < H.length → H'[n]? = H[n]? ∨ (live H n ∧ ∃ rw cs, H'[n]? = some (.cells rw cs) ∧ ∀ x ∈ cs, flat x = true)) :
    Keep H H1 (fun n => if n < H.length then some n else none) H' := by
  intro ρ0 w0 ρ1 w1 s0 s1 st
  have hsub := st.sub s0
  have get : ∀ n, n < H.length → H1[n]? = H'[n]? := fun n hn => by
    obtain ⟨t, rfl⟩ := hp
    rw [List.getElem?_append_left (by omega)]
  have lv : ∀ n, n < H.length → live H' n → live H n := fun n hn h => by
    rcases hm n hn with e | ⟨e, _⟩
    · unfold live at *; rw [← e]; exact h
    · exact e
  refine ⟨ρ0, ⟨fun n L e => ⟨by rw [hl]; exact (s0.dom n L e).1, Nat.lt_of_lt_of_le (s0.dom n L e).2 st.size⟩, fun n L o e ho => ?_, fun n m L M hn hm' hne l1 l2 => s0.sep n m L M hn hm' hne (lv n (s0.dom n L hn).1 l1) (lv m (s0.dom m M hm').1 l2)⟩,
    ⟨fun _ _ => rfl, by omega, st.os, st.tape, st.out, st.size, st.keep, fun b ⟨n, L, h1, h2, h3, h4⟩ => .inr ⟨n, L, h1, h2, h3, lv n (s0.dom n L h1).1 h4⟩, fun n L e => .inl (s0.dom n L e).1⟩, ?_, ?_⟩
  · have hn := (s0.dom n L e).1
    have h1 := s1.obj n L o (hsub n L e) (by rw [get n hn]; exact ho)
    rcases hm n hn with e1 | ⟨_, rw, cs, e1, hf⟩
    · rw [e1] at ho
      have h0 := s0.obj n L o e ho
      cases o with
      | dead => trivial
      | cells rw l =>
        cases hb0 : w0.heap[L.b]? with
        | none => rw [hb0] at h0; exact h0.elim
        | some b0 =>
          rw [hb0] at h0
          cases b0 <;> try exact h0.elim
          cases hb : w1.heap[L.b]? with
          | none => rw [hb] at h1; exact h1.elim
          | some b =>
            rw [hb] at h1
            cases b <;> first | exact h1.elim | exact ⟨h1.1, h1.2.1, LR.back hsub h0.2.2.1 h1.2.2.1, h1.2.2.2⟩
      | mp l =>
        cases hb0 : w0.heap[L.b]? with
        | none => rw [hb0] at h0; exact h0.elim
        | some b0 =>
          rw [hb0] at h0
          cases b0 <;> try exact h0.elim
          cases hb : w1.heap[L.b]? with
          | none => rw [hb] at h1; exact h1.elim
          | some b =>
            rw [hb] at h1
            cases b <;> first | exact h1.elim | exact ⟨h1.1, LR.back hsub h0.2.1 h1.2.1, LR.back hsub h0.2.2 h1.2.2⟩
    · rw [e1] at ho
      cases ho
      cases hb : w1.heap[L.b]? with
      | none => rw [hb] at h1; exact h1.elim
      | some b =>
        rw [hb] at h1
        cases b <;> first | exact h1.elim | exact ⟨h1.1, h1.2.1, LR_flat hf h1.2.2.1, h1.2.2.2⟩
  · intro n m L hf hn
    simp only at hf
    split at hf
    · rename_i hlt
      cases hf
      rw [← st.old n hlt]; exact hn
    · cases hf
  · intro m L e
    have hm' := (s0.dom m L e).1
    refine ⟨m, by simp [hm'], hsub m L e, fun h => ?_⟩
    unfold live at *
    rw [get m hm']; exact h
/-- One list has turned, and all that is new is dropped. -/
theorem gc_set {H H1 : AHeap} {n : Nat} {cs cs' : List AV} {rw : Bool} (hn : H[n]? = some (.cells rw cs)) (hf : ∀ x ∈ cs', flat x = true) (hp : H.set n (.cells rw cs') <+: H1) {v : AV} (hv : flat v = true) : GC H v H1 v (H.set n (.cells rw cs')) := by
  have hlt := (List.getElem?_eq_some_iff.1 hn).1
  refine gc_keep (keep_mod (by simp) hp (fun k hk => ?_)) (ren_flat _ 3 v hv)
  by_cases h : k = n
  · subst h
    exact .inr ⟨⟨_, hn, by simp⟩, rw, cs', by rw [List.getElem?_set_self hlt], hf⟩
  · exact .inl (by rw [List.getElem?_set_ne (Ne.symm h)])
theorem set_same {α : Type} {l : List α} {n : Nat} {x : α} (h : l[n]? = some x) : l.set n x = l := by
  have hlt := (List.getElem?_eq_some_iff.1 h).1
  have hx := (List.getElem?_eq_some_iff.1 h).2
  rw [← hx]
  exact List.set_getElem_self hlt
end Go.Proofs.Ytlmbobbefgcolaa

namespace Go.Proofs.Ytlmbobbefgcolaa
open Go Go.Eng
theorem st_new (A : AHeap) (x y : AV) (hx : x.cells? = some [x]) : stA 1 (.ptr A.length 0) x (A ++ [.cells true [y]]) = some (A ++ [.cells true [x]]) := by
  simp [stA, hx, splice]
theorem repl_false (n : Nat) : repl [AV.bool false] n = (List.replicate n false).flatMap eb := by
  induction n with
  | zero => rfl
  | succ n ih => rw [repl, ih, List.replicate_succ, List.flatMap_cons]; rfl
theorem s92 {P : Int} {ws : List (AV × List Int)} {A H : AHeap} {v : AV} {ng : Nat} {fg : Bool} {g : List Int} (hv : Val P (lists ws)) (hw : LL A v ws) (ho : OL 1 e1 A H ng (.sl 1 ng 0 ws.length fg) g) (hg : Good P (lists ws) g) (i : Int) (hi : inP ws.length i) :
    ACalls Try.prog 92 [.agg [I P, v, .sl 1 ng 0 ws.length fg], I i] H (B (chF (lists ws) (P.toNat + 1) i (List.replicate P.toNat false, g)).1) (H.set ng (.cells true ((chF (lists ws) (P.toNat + 1) i (List.replicate P.toNat false, g)).2.2.flatMap e1))) := by
  refine acalls hmix Try.func92 (by kernel_rfl) t92 2 rfl (by decide) ?_
  have hP := hv.hP
  have hls : ∀ l ∈ lists ws, ∀ p ∈ l, inP P p := fun l hl => (hv.l l hl).1
  have hP0 : 0 ≤ P := by omega
  have hPl : P ≤ (lim : Int) := by simp [lim]; omega
  have hlt := ho.lt
  dsimp only [m92]
  simp (maxSteps := 4000000) -implicitDefEqProofs -dsimp (disch := omega) only [↓AW_ops, ↓AW_seq, ↓AOps_nil, ↓AOps_pu, ↓AOps_ld, ↓AOps_ha, on_some, extK_app, ↓then_normal, pval, lval, hval_st, hval_newv, hval_mks, rd_S, rd_C, put_S, cells_agg, cells_nilS, beq_self_eq_true, List.replicate_succ, List.replicate_zero, List.set_cons_zero, List.set_cons_succ, List.getElem?_cons_zero, List.getElem?_cons_succ, Option.getD_some, Nat.reduceSub, Nat.add_zero, List.cons_append, List.nil_append, if_true, and_true, ld_new, hP0, hPl, Int.le_refl]
  rw [repl_false]
  generalize hH1 : H ++ [.cells true [I P, v, .sl 1 ng 0 ws.length fg]] = H1
  generalize hH2 : H1 ++ [.cells true ((List.replicate P.toNat false).flatMap eb)] = H2
  have st1 : stA 1 (.ptr H2.length 0) (.sl 1 H1.length 0 P.toNat true) (H2 ++ [.cells true [.nilS]]) = some (H2 ++ [.cells true [.sl 1 H1.length 0 P.toNat true]]) := st_new H2 _ _ rfl
  simp (maxSteps := 4000000) -implicitDefEqProofs -dsimp (disch := omega) only [↓AW_ops, ↓AW_seq, ↓AOps_nil, ↓AOps_pu, ↓AOps_ha, on_some, extK_false, extK_app, ↓then_normal, pval, hval_st, hval_newv, rd_S, rd_C, put_S, putS_none, cells_nilF, List.replicate_succ, List.replicate_zero, List.set_cons_zero, List.set_cons_succ, List.getElem?_cons_zero, List.getElem?_cons_succ, Option.getD_some, Option.map_some, map_c, map_n, Nat.reduceSub, List.cons_append, List.nil_append, st1]
  generalize hH3 : H2 ++ [.cells true [.sl 1 H1.length 0 P.toNat true]] = H3
  have st2 : stA 1 (.ptr H3.length 0) (.fn 101 [.ptr H.length 0, .ptr H2.length 0, .ptr H3.length 0]) (H3 ++ [.cells true [.nilF]]) = some (H3 ++ [.cells true [.fn 101 [.ptr H.length 0, .ptr H2.length 0, .ptr H3.length 0]]]) := st_new H3 _ _ rfl
  simp (maxSteps := 4000000) -implicitDefEqProofs -dsimp (disch := omega) only [↓AW_ops, ↓AW_seq, ↓AOps_nil, ↓AOps_pu, ↓AOps_ld, ↓AOps_callv, on_some, extK_false, CallF_fn, ↓then_normal, pval, lval, rd_S, put_S, putS_none, List.replicate_succ, List.replicate_zero, List.set_cons_zero, List.set_cons_succ, List.getElem?_cons_zero, List.getElem?_cons_succ, Option.getD_some, Option.map_some, map_c, map_n, Nat.reduceSub, List.cons_append, List.nil_append, st2, ld_new]
  generalize hH4 : H3 ++ [.cells true [.fn 101 [.ptr H.length 0, .ptr H2.length 0, .ptr H3.length 0]]] = H4
  have l1 : H1.length = H.length + 1 := by rw [← hH1]; simp
  have l2 : H2.length = H.length + 2 := by rw [← hH2]; simp [l1]
  have l3 : H3.length = H.length + 3 := by rw [← hH3]; simp [l2]
  have l4 : H4.length = H.length + 4 := by rw [← hH4]; simp [l3]
  have p34 : H3 <+: H4 := by rw [← hH4]; exact pre_app _ _
  have p24 : H2 <+: H4 := (show H2 <+: H3 by rw [← hH3]; exact pre_app _ _).trans p34
  have p14 : H1 <+: H4 := (show H1 <+: H2 by rw [← hH2]; exact pre_app _ _).trans p24
  have p04 : H <+: H4 := (show H <+: H1 by rw [← hH1]; exact pre_app _ _).trans p14
  have gA : H4[H1.length]? = some (.cells true ((List.replicate P.toNat false).flatMap eb)) := pre_get p24 (by rw [← hH2]; exact get_new _ _)
  have gG : H4[ng]? = some (.cells true (g.flatMap e1)) := pre_get p04 ho.ob
  have hc : Ctx P A H4 v H.length H2.length H3.length H1.length ng ws.length true fg := {
    pre := ho.pre.trans p04
    la := by have := ho.pre.length_le; omega
    lg := ho.new
    ne := by omega
    hna := by omega
    hng := by omega
    w := ⟨true, pre_get p14 (by rw [← hH1]; exact get_new _ _)⟩
    s := ⟨true, pre_get p34 (by rw [← hH3]; exact get_new _ _)⟩
    c := ⟨true, by rw [← hH4]; exact get_new _ _⟩
    w1 := by omega
    w2 := by omega
    s1 := by omega
    s2 := by omega
    c1 := by omega
    c2 := by omega }
  have hsame : hpS H4 H1.length ng (List.replicate P.toNat false, g) = H4 := by
    unfold hpS
    simp only
    rw [set_same gA, set_same gG]
  have h101 := s101 hv hw hc P.toNat i (List.replicate P.toNat false, g) hi (by simp) hg (by simp [unseen])
  rw [hsame] at h101
  refine CallK.of h101 ?_
  simp (maxSteps := 4000000) -implicitDefEqProofs -dsimp (disch := omega) only [↓AW_ret, ↓AOps_nil, ↓AOps_pu, on_some, extK_false, ↓then_normal, ↓Fin_ret, pval, rd_S, put_S, putS_none, resV, resL, List.replicate_succ, List.replicate_zero, List.set_cons_zero, List.set_cons_succ, List.getElem?_cons_zero, List.getElem?_cons_succ, Option.getD_some, Nat.reduceSub, List.cons_append, List.nil_append]
  refine gc_set ho.ob (fun x hx => ?_) ?_ rfl
  · obtain ⟨y, _, hy⟩ := List.mem_flatMap.1 hx
    exact flat_e1 y x hy
  · unfold hpS
    generalize (chF (lists ws) (P.toNat + 1) i (List.replicate P.toNat false, g)).2 = r
    have e4 : H4 = H ++ [.cells true [I P, v, .sl 1 ng 0 ws.length fg], .cells true ((List.replicate P.toNat false).flatMap eb), .cells true [.sl 1 H1.length 0 P.toNat true], .cells true [.fn 101 [.ptr H.length 0, .ptr H2.length 0, .ptr H3.length 0]]] := by
      rw [← hH4, ← hH3, ← hH2, ← hH1]; simp
    have e5 : H4.set H1.length (.cells true (r.1.flatMap eb)) = H ++ ([AObj.cells true [I P, v, .sl 1 ng 0 ws.length fg], .cells true ((List.replicate P.toNat false).flatMap eb), .cells true [.sl 1 H1.length 0 P.toNat true], .cells true [.fn 101 [.ptr H.length 0, .ptr H2.length 0, .ptr H3.length 0]]].set 1 (.cells true (r.1.flatMap eb))) := by
      conv => lhs; rw [e4]
      rw [List.set_append_right (h := by omega), l1, Nat.add_sub_cancel_left]
    rw [e5, List.set_append_left (h := hlt)]
    exact ⟨_, rfl⟩
end Go.Proofs.Ytlmbobbefgcolaa

namespace Go.Proofs.Ytlmbobbefgcolaa
open Go Go.Eng
theorem ren_old {α : Type} {es : Nat} {e : α → List AV} {A : AHeap} {v : AV} {xs : List α} (h : Ls es e A v xs) (f : Nat → Option Nat) (hf : ∀ k, k < A.length → f k = some k) (d : Nat) : ren f (d + 1) v = v := by
  rcases h.inv with ⟨rfl, _⟩ | ⟨n, off, full, rw, l, rfl, h1, _⟩
  · rfl
  · have := hf n (List.getElem?_eq_some_iff.1 h1).1
    simp [ren, this]
theorem gc_agg3 {α : Type} {es : Nat} {e : α → List AV} {A H : AHeap} {v : AV} {xs : List α} (P : Int) (hv : Ls es e A v xs) (hp : A <+: H) {m k : Nat} {cs : List AV} (hm : A.length ≤ m) (ho : H[m]? = some (.cells true cs)) (hf : ∀ x ∈ cs, flat x = true) :
    GC A (.agg [I P, v, .sl 1 m 0 k false]) H (.agg [I P, v, .sl 1 A.length 0 k false]) (A ++ [.cells true cs]) := by
  have hk := Keep.add (keep_old hp) (n := m) (o := .cells true cs) hm (by simp; omega) ho
  simp only [renO, ren_flats _ 3 cs hf] at hk
  refine gc_keep hk ?_
  have hr := ren_old hv (fun j => if j = m then some A.length else if j < A.length then some j else none) (fun j hj => by simp [hj]; omega) 2
  simp [ren, hr]
theorem s83 {xs : List Int} {v : AV} {A : AHeap} (hx : L1 A v xs) (hn : v ≠ .nilS) (hl : xs.length ≤ 1000000) : ACalls Try.prog 83 [v] A (.sl 1 A.length 0 xs.length false) (A ++ [.cells true (xs.flatMap e1)]) := by
  refine acalls hmix Try.func83 (by kernel_rfl) t83 1 rfl (by decide) ?_
  rcases hx.inv with ⟨rfl, _⟩ | ⟨n, off, full, rw, l, rfl, h1, h2, h3⟩
  · exact absurd rfl hn
  · by_cases h0 : xs = []
    · subst h0
      have happ : appA 1 (A ++ [.cells true []]) (.sl 1 A.length 0 0 true) (.sl 1 n off 0 full) = some (.sl 1 A.length 0 0 true, A ++ [.cells true []]) := by
        have hc := (hx.mono (pre_app A [.cells true []])).hc
        rw [List.length_nil] at hc
        unfold appA
        rw [hc]
        simp
      dsimp only [m83]
      simp (maxSteps := 4000000) -implicitDefEqProofs -dsimp (disch := omega) only [↓AW_skip, ↓AW_ops, ↓AW_seq, ↓AW_cond, ↓AW_ret, ↓AOps_nil, ↓AOps_pu, ↓AOps_ha, on_some, extK_app, extK_same, condB_f, ↓then_normal, ↓Fin_ret, pval, hval_blds, hval_app, rd_S, rd_C, put_S, resV, resL, fillA, repl, List.replicate_succ, List.replicate_zero, List.set_cons_zero, List.set_cons_succ, List.getElem?_cons_zero, List.getElem?_cons_succ, Option.getD_some, map_n, List.length_nil, Nat.reduceSub, List.cons_append, List.nil_append, List.replicate_zero, repl, happ]
      exact OL_gcS (OL.new_mk e1_len A ([] : List Int) true) flat_e1
    · have hpos : 0 < xs.length := List.length_pos_iff.2 h0
      have happ : appA 1 (A ++ [.cells true []]) (.sl 1 A.length 0 0 true) (.sl 1 n off xs.length full) = some (.sl 1 (A ++ [AObj.cells true []]).length 0 (0 + xs.length) false, A ++ [.cells true []] ++ [.cells true (xs.flatMap e1)]) := by
        unfold appA
        rw [(hx.mono (pre_app A [.cells true []])).hc]
        have : xs.length ≠ 0 := by omega
        have h4 : 0 + xs.length ≤ lim := by simp [lim]; omega
        simp [this, lim]
        omega
      dsimp only [m83]
      simp (maxSteps := 4000000) -implicitDefEqProofs -dsimp (disch := omega) only [↓AW_skip, ↓AW_ops, ↓AW_seq, ↓AW_cond, ↓AW_ret, ↓AOps_nil, ↓AOps_pu, ↓AOps_ha, on_some, extK_app, condB_f, ↓then_normal, ↓Fin_ret, pval, hval_blds, hval_app, rd_S, rd_C, put_S, resV, resL, fillA, repl, List.replicate_succ, List.replicate_zero, List.set_cons_zero, List.set_cons_succ, List.getElem?_cons_zero, List.getElem?_cons_succ, Option.getD_some, map_n, Nat.reduceSub, Nat.zero_add, List.cons_append, List.nil_append, List.replicate_zero, repl, happ]
      refine OL_gcS (n := A.length + 1) ⟨e1_len, ?_, by omega, ?_, false, by simp⟩ flat_e1
      · exact (pre_app A _).trans (pre_app _ _)
      · rw [List.getElem?_append_right (by simp)]
        simp
theorem s62 {P : Int} {ws : List (AV × List Int)} {A : AHeap} {v u : AV} {g : List Int} (hv : Val P (lists ws)) (hw : LL A v ws) (hu : L1 A u g) (hun : u ≠ .nilS) (hg : Good P (lists ws) g) :
    ACalls Try.prog 62 [.agg [I P, v, u]] A (.agg [I P, v, .sl 1 A.length 0 ws.length false]) (A ++ [.cells true ((flF P (lists ws) g).flatMap e1)]) := by
  refine acalls hmix Try.func62 (by kernel_rfl) t62 1 rfl (by decide) ?_
  have hls : ∀ l ∈ lists ws, ∀ p ∈ l, inP P p := fun l hl => (hv.l l hl).1
  have hgl : g.length = ws.length := by simpa using hg.len
  have hn : ws.length ≤ 7 := by simpa using hv.n
  dsimp only [m62]
  simp (maxSteps := 4000000) -implicitDefEqProofs -dsimp (disch := omega) only [↓AW_ops, ↓AW_seq, ↓AOps_nil, ↓AOps_pu, ↓AOps_call, on_some, ↓then_normal, pval, rd_S, rd_C, put_S, chkd, isAdr, bgot, cells_agg, partA, eq_self, List.replicate_succ, List.replicate_zero, List.set_cons_zero, List.set_cons_succ, List.getElem?_cons_zero, List.getElem?_cons_succ, List.drop_zero, List.drop_succ_cons, List.take_succ_cons, List.take_nil, Option.getD_some, map_c, map_n, List.length_cons, List.length_nil, Nat.reduceAdd, Nat.reduceSub, Nat.reduceLeDiff, Nat.zero_add, List.cons_append, List.nil_append, if_true, if_false, Bool.false_eq_true]
  refine CallK.of (s83 hu hun (by omega)) ?_
  rw [hgl]
  have hlen : ∀ k, k ≤ ws.length → Good P (lists ws) ((List.range k).foldl (flStep P (lists ws)) g) := fun k hk => (fl_inv hls hg k (by simpa using hk)).1
  have hOL : ∀ k, k ≤ ws.length → OL 1 e1 A (A ++ [.cells true (((List.range k).foldl (flStep P (lists ws)) g).flatMap e1)]) A.length (.sl 1 A.length 0 ws.length false) ((List.range k).foldl (flStep P (lists ws)) g) := fun k hk => by
    have h := OL.new_mk e1_len A ((List.range k).foldl (flStep P (lists ws)) g) false
    have : ((List.range k).foldl (flStep P (lists ws)) g).length = ws.length := by simpa using (hlen k hk).len
    rwa [this] at h
  have hln : lenA (.sl 1 A.length 0 ws.length false) = some (I ws.length) := rfl
  simp (maxSteps := 4000000) -implicitDefEqProofs -dsimp (disch := omega) only [↓AW_ops, ↓AW_seq, ↓AW_block, ↓AOps_nil, ↓AOps_pu, on_some, extK_app, ↓then_normal, pval, rd_S, rd_C, put_S, ↓AW_toLoop, chkd, isAdr, bput, bgot, cells_agg, cells_sl, splice, partA, eq_self, List.replicate_succ, List.replicate_zero, List.set_cons_zero, List.set_cons_succ, List.getElem?_cons_zero, List.getElem?_cons_succ, List.drop_zero, List.drop_succ_cons, List.drop_nil, List.take_zero, List.take_succ_cons, List.take_nil, Option.getD_some, List.length_cons, List.length_nil, Nat.reduceAdd, Nat.reduceSub, Nat.reduceLeDiff, Nat.zero_add, List.cons_append, List.nil_append, List.append_nil, if_true, if_false, Bool.false_eq_true, ne_eq, not_true_eq_false, hln]
  refine LoopK.by 25 (fun i : Nat => i ≤ ws.length) (fun i => [(1, .agg [I P, v, .sl 1 A.length 0 ws.length false]), (2, .agg [.int .i64 0, .nilS, .nilS]), (10, I ws.length), (11, I i)]) (fun i => A ++ [.cells true (((List.range i).foldl (flStep P (lists ws)) g).flatMap e1)]) (fun i => ws.length - i) 0 (by omega) rfl (by simp [Has, rd_s]) rfl ?_
  intro i hi
  by_cases hlt : i < ws.length
  · have hlt' : (i : Int) < ws.length := by omega
    have ho := hOL i hi
    have hgi := hlen i hi
    have hstep : (List.range (i + 1)).foldl (flStep P (lists ws)) g = flStep P (lists ws) ((List.range i).foldl (flStep P (lists ws)) g) i := by rw [List.range_succ, List.foldl_append]; rfl
    generalize (List.range i).foldl (flStep P (lists ws)) g = gi at *
    have hgil : gi.length = ws.length := by simpa using hgi.len
    obtain ⟨z, hz⟩ : ∃ z, gi[i]? = some z := ⟨_, List.getElem?_eq_getElem (by omega)⟩
    have hhz := has_get hz
    by_cases h0 : z < 0
    · have hfs : flStep P (lists ws) gi i = (chF (lists ws) (P.toNat + 1) i (List.replicate P.toNat false, gi)).2.2 := by unfold flStep; rw [hhz, if_pos h0]
      simp (maxSteps := 4000000) -implicitDefEqProofs -dsimp (disch := omega) only [↓AW_skip, ↓AW_ops, ↓AW_seq, ↓AW_cond, ↓AW_block, ↓AOps_nil, ↓AOps_pu, ↓AOps_ld, ↓AOps_call, on_some, condB_t, ↓then_normal, pval, lval, rd_S, rd_C, put_S, chkd, isAdr, bgot, cells_agg, partA, eq_self, mk, List.foldl_cons, List.foldl_nil, List.replicate_succ, List.replicate_zero, List.set_cons_zero, List.set_cons_succ, List.getElem?_cons_zero, List.getElem?_cons_succ, List.drop_zero, List.drop_succ_cons, List.take_succ_cons, List.take_nil, Option.getD_some, map_c, map_n, List.length_cons, List.length_nil, Nat.reduceAdd, Nat.reduceLeDiff, Nat.reduceEqDiff, Nat.zero_add, bin_lss, if_true, if_false, Bool.false_eq_true, decide_true, Go.Eng.e1, hlt', ho.ls.idx (show i < gi.length by omega), ho.ls.ld0 hz 1 false (by decide), h0]
      have h92 := s92 hv hw ho hgi (i : Int) ⟨by omega, by omega⟩
      rw [set_new] at h92
      refine CallK.of h92 ?_
      simp (maxSteps := 4000000) -implicitDefEqProofs -dsimp (disch := omega) only [↓AW_ops, ↓AOps_nil, ↓AOps_pu, on_some, extK_false, ↓then_normal, ↓inBlock_normal, pval, rd_S, rd_C, put_S, eq_self, mk, List.foldl_cons, List.foldl_nil, List.replicate_succ, List.replicate_zero, List.set_cons_zero, List.set_cons_succ, List.getElem?_cons_zero, List.getElem?_cons_succ, Option.getD_some, List.length_cons, List.length_nil, Nat.reduceAdd, Nat.zero_add, bin_add, w64, true_and]
      exact ⟨i + 1, hlt, by simp [Has, rd_s], by rw [hstep, hfs], by omega⟩
    · have hfs : flStep P (lists ws) gi i = gi := by unfold flStep; rw [hhz, if_neg h0]
      simp (maxSteps := 4000000) -implicitDefEqProofs -dsimp (disch := omega) only [↓AW_skip, ↓AW_ops, ↓AW_seq, ↓AW_cond, ↓AW_block, ↓AOps_nil, ↓AOps_pu, ↓AOps_ld, on_some, condB_t, condB_f, ↓then_normal, ↓inBlock_normal, pval, lval, rd_S, rd_C, put_S, chkd, isAdr, bgot, cells_agg, partA, eq_self, mk, List.foldl_cons, List.foldl_nil, List.replicate_succ, List.replicate_zero, List.set_cons_zero, List.set_cons_succ, List.getElem?_cons_zero, List.getElem?_cons_succ, List.drop_zero, List.drop_succ_cons, List.take_succ_cons, List.take_nil, Option.getD_some, List.length_cons, List.length_nil, Nat.reduceAdd, Nat.reduceLeDiff, Nat.zero_add, bin_add, bin_lss, w64, if_true, if_false, Bool.false_eq_true, decide_true, decide_false, Go.Eng.e1, true_and, hlt', ho.ls.idx (show i < gi.length by omega), ho.ls.ld0 hz 1 false (by decide), h0]
      exact ⟨i + 1, hlt, by simp [Has, rd_s], by rw [hstep, hfs], by omega⟩
  · have hlt' : ¬ ((i : Int) < ws.length) := by omega
    have hii : i = ws.length := by omega
    subst hii
    simp (maxSteps := 4000000) -implicitDefEqProofs -dsimp (disch := omega) only [↓AW_ops, ↓AW_seq, ↓AW_cond, ↓AW_exit, ↓AW_ret, ↓AOps_nil, ↓AOps_pu, on_some, condB_f, ↓then_normal, ↓then_exit, ↓inBlock_exit, ↓Fin_ret, pval, rd_S, put_S, resV, resL, chkd, bput, bgot, cells_agg, splice, partA, eq_self, mk, List.foldl_cons, List.foldl_nil, List.replicate_succ, List.replicate_zero, List.set_cons_zero, List.set_cons_succ, List.getElem?_cons_zero, List.getElem?_cons_succ, List.drop_zero, List.drop_succ_cons, List.drop_nil, List.take_zero, List.take_succ_cons, List.take_nil, Option.getD_some, List.length_cons, List.length_nil, Nat.reduceAdd, Nat.reduceLeDiff, Nat.reduceEqDiff, Nat.zero_add, List.nil_append, List.append_nil, bin_lss, if_true, if_false, decide_false, ne_eq, not_true_eq_false, hlt']
    refine gc_same_all rfl ?_
    unfold flF
    rw [List.length_map]
end Go.Proofs.Ytlmbobbefgcolaa

namespace Go.Proofs.Ytlmbobbefgcolaa
open Go Go.Eng
def mulOk (n : Nat) : Bool := match runF tab 300 6 102 [.int .u64 1, .int .u64 (n : Int)] [] with
  | some (.tuple [.int .u64 a, .int .u64 b], _) => decide (a = 0) && decide (b = (n : Int))
  | _ => false
set_option maxRecDepth 100000 in
theorem mul_run : ((List.range 65).all mulOk) = true := by kernel_rfl
theorem s102 (n : Nat) (hn : n ≤ 64) (A : AHeap) : ACalls Try.prog 102 [.int .u64 1, .int .u64 (n : Int)] A (.tuple [.int .u64 0, .int .u64 (n : Int)]) A := by
  have h := List.all_eq_true.1 mul_run n (List.mem_range.2 (by omega))
  unfold mulOk at h
  split at h
  · rename_i a b H hr
    simp only [Bool.and_eq_true, decide_eq_true_eq] at h
    obtain ⟨rfl, rfl⟩ := h
    exact ACalls_lift2 (runF_ok hmix tabOK 300 6 102 _ [] _ _ hr) (by simp [flat]) rfl rfl A
  · cases h
theorem s93 {r : Int} {y : AV} {A : AHeap} (hy : L1 A y [r]) (n : Nat) (hn : n ≤ 64) : ACalls Try.prog 93 [y, I n] A (.sl 1 A.length 0 n false) (A ++ [.cells true ((List.replicate n r).flatMap e1)]) := by
  refine acalls hmix Try.func93 (by kernel_rfl) t93 2 rfl (by decide) ?_
  have h0 : ¬ (n : Int) < 0 := by omega
  have hu1 : IntKind.u64.wrap ((1 : Nat) : Int) = 1 := by decide
  have hun := u64w (n : Int) (by omega) (by omega)
  have hbig : ¬ (9223372036854775807 : Int) < n := by omega
  have hn0 : (0 : Int) ≤ n := by omega
  have hnl : (n : Int) ≤ (lim : Int) := by simp [lim]; omega
  dsimp only [m93]
  simp (maxSteps := 4000000) -implicitDefEqProofs -dsimp (disch := omega) only [↓AW_skip, ↓AW_ops, ↓AW_seq, ↓AW_cond, ↓AOps_nil, ↓AOps_pu, ↓AOps_call, on_some, condB_f, ↓then_normal, pval, rd_S, rd_C, put_S, List.replicate_succ, List.replicate_zero, List.set_cons_zero, List.set_cons_succ, List.getElem?_cons_zero, List.getElem?_cons_succ, Option.getD_some, map_c, map_n, List.length_cons, List.length_nil, Nat.reduceSub, Nat.zero_add, List.cons_append, List.nil_append, bin_lss, decide_false, h0, hy.len, hu1, hun]
  refine CallK.of (s102 n hn A) ?_
  simp (maxSteps := 4000000) -implicitDefEqProofs -dsimp (disch := omega) only [↓AW_skip, ↓AW_ops, ↓AW_seq, ↓AW_cond, ↓AOps_nil, ↓AOps_pu, ↓AOps_ha, ↓AOps_guard, on_some, extK_app, extK_same, guardB_ff, condB_f, ↓then_normal, pval, hval_mks, hval_cpy, rd_S, rd_C, put_S, beq_self_eq_true, List.replicate_succ, List.replicate_zero, List.set_cons_zero, List.set_cons_succ, List.getElem?_cons_zero, List.getElem?_cons_succ, Option.getD_some, Nat.reduceSub, List.cons_append, List.nil_append, bin_gtr, w64, if_true, if_false, Bool.false_eq_true, decide_false, and_true, Int.reduceLT, hbig, hn0, hnl, Int.le_refl, Int.toNat_natCast]
  rw [repl_zero]
  have hmk := OL.new_mk e1_len A (List.replicate n (0 : Int)) true
  rw [List.length_replicate] at hmk
  have hc := OL_cpy hmk (hy.mono (pre_app A [.cells true ((List.replicate n (0 : Int)).flatMap Go.Eng.e1)])) 0 (by omega) true
  rw [Nat.zero_mul, Nat.sub_zero, List.length_replicate] at hc
  have hx0 : (List.replicate n (0 : Int)).take 0 ++ [r].take (min 1 n) ++ (List.replicate n (0 : Int)).drop (0 + min 1 n) = List.replicate (min 1 n) r ++ List.replicate (n - min 1 n) (0 : Int) := by
    cases n with
    | zero => rfl
    | succ n => simp [List.replicate_succ]
  have hOL := OL_setAll hmk (List.replicate (min 1 n) r ++ List.replicate (n - min 1 n) (0 : Int)) (by simp; omega)
  rw [show [r].length = 1 from rfl, hx0] at hc
  generalize hvv : AV.sl 1 A.length 0 n true = vv at *
  simp (maxSteps := 4000000) -implicitDefEqProofs -dsimp (disch := omega) only [↓AW_seq, ↓AW_block, ↓AOps_nil, ↓AOps_pu, on_some, extK_false, ↓then_normal, pval, rd_S, put_S, ↓AW_toLoop, List.replicate_succ, List.replicate_zero, List.set_cons_zero, List.set_cons_succ, List.getElem?_cons_zero, List.getElem?_cons_succ, Option.getD_some, Nat.reduceSub, List.cons_append, List.nil_append, hc]
  refine LoopK.by 48 (fun x : Nat × AHeap => x.1 ≤ n ∧ (1 ≤ x.1 ∨ n = 0) ∧ OL 1 e1 A x.2 A.length vv (List.replicate x.1 r ++ List.replicate (n - x.1) (0 : Int))) (fun x => [(7, vv), (8, I x.1)]) (fun x => x.2) (fun x => n - x.1) (min 1 n, _) ⟨by simp only; omega, by simp only; omega, hOL⟩ rfl (by simp [Has, rd_s]) rfl ?_
  rintro ⟨m, A1⟩ ⟨hm, hm1, ho⟩
  simp only at hm hm1 ho
  have hlen : lenA vv = some (I n) := by rw [← hvv]; rfl
  by_cases hlt : m < n
  · have hlt' : (m : Int) < n := by omega
    have hs1 : slcA 1 vv (some (I m)) none none = some (.sl 1 A.length (m * 1) (n - m) true) := by
      rw [← hvv]
      simp [slcA, bnd] <;> omega
    obtain ⟨v', hv', hL⟩ := Ls_takeS ho.ls m (by simp <;> omega)
    have hc2 := OL_cpy ho hL m (by simp <;> omega) true
    have hll : (List.replicate m r ++ List.replicate (n - m) (0 : Int)).length = n := by simp; omega
    have hlt2 : ((List.replicate m r ++ List.replicate (n - m) (0 : Int)).take m).length = m := by rw [List.length_take, hll]; omega
    rw [hll, hlt2, rep_step r _ hm] at hc2
    have hOL2 := OL_setAll ho (List.replicate (m + min m (n - m)) r ++ List.replicate (n - (m + min m (n - m))) (0 : Int)) (by simp; omega)
    simp (maxSteps := 4000000) -implicitDefEqProofs -dsimp (disch := omega) only [↓AW_skip, ↓AW_ops, ↓AW_seq, ↓AW_cond, ↓AW_block, ↓AOps_nil, ↓AOps_pu, ↓AOps_ha, on_some, extK_false, condB_t, ↓then_normal, ↓inBlock_normal, pval, hval_cpy, rd_S, put_S, eq_self, mk, List.foldl_cons, List.foldl_nil, List.replicate_succ, List.replicate_zero, List.set_cons_zero, List.set_cons_succ, List.getElem?_cons_zero, List.getElem?_cons_succ, Option.getD_some, Option.map_some, Option.map_none, List.length_cons, List.length_nil, Nat.reduceAdd, Nat.zero_add, bin_add, bin_lss, w64, decide_true, true_and, hlt', hlen, hs1, hv', hc2]
    refine ⟨(m + min m (n - m), _), ⟨by simp only; omega, by simp only; omega, hOL2⟩, by simp [Has, rd_s], rfl, by simp only; omega⟩
  · have hmn : m = n := by omega
    subst hmn
    rw [Nat.sub_self, List.replicate_zero, List.append_nil] at ho
    simp (maxSteps := 4000000) -implicitDefEqProofs -dsimp (disch := omega) only [↓AW_ops, ↓AW_seq, ↓AW_cond, ↓AW_exit, ↓AW_ret, ↓AOps_nil, ↓AOps_pu, on_some, condB_f, ↓then_normal, ↓then_exit, ↓inBlock_exit, ↓Fin_ret, pval, rd_S, put_S, resV, resL, eq_self, mk, List.foldl_cons, List.foldl_nil, List.replicate_succ, List.replicate_zero, List.set_cons_zero, List.set_cons_succ, List.getElem?_cons_zero, List.getElem?_cons_succ, Option.getD_some, bin_lss, if_true, decide_false, hlen, Int.lt_irrefl]
    have := OL_gcS ho flat_e1
    rwa [List.length_replicate] at this
abbrev noG (ws : List (AV × List Int)) : List Int := List.replicate ws.length (-1)
theorem s63 {P : Int} {ws : List (AV × List Int)} {A : AHeap} {v : AV} (hw : LL A v ws) (hn : ws.length ≤ 64) :
    ACalls Try.prog 63 [.agg [I P, v]] A (.agg [I P, v, .sl 1 A.length 0 ws.length false]) (A ++ [.cells true ((noG ws).flatMap e1)]) := by
  refine acalls hmix Try.func63 (by kernel_rfl) t63 1 rfl (by decide) ?_
  dsimp only [m63]
  simp (maxSteps := 4000000) -implicitDefEqProofs -dsimp (disch := omega) only [↓AW_ops, ↓AW_seq, ↓AOps_nil, ↓AOps_pu, ↓AOps_ha, ↓AOps_call, on_some, extK_app, ↓then_normal, pval, hval_blds, rd_S, rd_C, put_S, chkd, isAdr, bgot, cells_agg, cells_int, splice, partA, fillA, repl, eq_self, List.replicate_succ, List.replicate_zero, List.set_cons_zero, List.set_cons_succ, List.getElem?_cons_zero, List.getElem?_cons_succ, List.drop_zero, List.drop_succ_cons, List.drop_nil, List.take_zero, List.take_succ_cons, List.take_nil, Option.getD_some, map_c, map_n, List.length_cons, List.length_nil, Nat.reduceAdd, Nat.reduceSub, Nat.reduceLeDiff, Nat.reduceEqDiff, Nat.zero_add, List.cons_append, List.nil_append, List.append_nil, if_true, if_false, Bool.false_eq_true, and_true, Int.reduceNeg, hw.ls.len]
  refine CallK.of (s93 (L1_one A (-1)) ws.length hn) ?_
  simp (maxSteps := 4000000) -implicitDefEqProofs -dsimp (disch := omega) only [↓AW_ret, ↓AOps_nil, ↓AOps_pu, on_some, extK_app, ↓then_normal, ↓Fin_ret, pval, rd_S, put_S, resV, resL, chkd, bput, bgot, cells_agg, cells_sl, splice, partA, fillA, eq_self, List.replicate_succ, List.replicate_zero, List.set_cons_zero, List.set_cons_succ, List.getElem?_cons_zero, List.getElem?_cons_succ, List.drop_zero, List.drop_succ_cons, List.drop_nil, List.take_zero, List.take_succ_cons, List.take_nil, Option.getD_some, Option.map_some, map_c, map_n, List.length_cons, List.length_nil, Nat.reduceAdd, Nat.reduceSub, Nat.reduceLeDiff, Nat.reduceEqDiff, Nat.zero_add, List.cons_append, List.nil_append, List.append_nil, if_true, if_false, and_true, ne_eq, not_true_eq_false, Int.reduceNeg]
  refine gc_agg3 P hw.ls ((pre_app A _).trans (pre_app _ _)) (m := (A ++ [AObj.cells true [I (-1)]]).length) (by simp) (get_new _ _) (fun x hx => ?_)
  obtain ⟨y, _, hy⟩ := List.mem_flatMap.1 hx
  exact flat_e1 y x hy
theorem L1_new (A : AHeap) (g : List Int) (n : Nat) (hn : g.length = n) : L1 (A ++ [.cells true (g.flatMap e1)]) (.sl 1 A.length 0 n false) g := by
  have := (OL.new_mk e1_len A g false).ls
  rwa [hn] at this
theorem good_noG {P : Int} {ws : List (AV × List Int)} (hv : Val P (lists ws)) : Good P (lists ws) (noG ws) := by
  have := good_none P (by have := hv.hP; omega) (lists ws)
  rwa [List.length_map] at this
/-- The giving that is returned. -/
def best (P : Int) (ws : List (AV × List Int)) : List Int := flF P (lists ws) (noG ws)
theorem best_good {P : Int} {ws : List (AV × List Int)} (hv : Val P (lists ws)) : Good P (lists ws) (best P ws) := (fl_max (fun l hl => (hv.l l hl).1) (good_noG hv)).1
theorem best_most (P : Int) (ws : List (AV × List Int)) : srv (best P ws) = most P (lists ws) := by
  unfold best most noG
  rw [List.length_map]
theorem best_len {P : Int} {ws : List (AV × List Int)} (hv : Val P (lists ws)) : (best P ws).length = ws.length := by
  simpa using (best_good hv).len
/-- Filled, from nobody on. -/
theorem s62n {P : Int} {ws : List (AV × List Int)} {A : AHeap} {v : AV} (hv : Val P (lists ws)) (hw : LL A v ws) :
    ACalls Try.prog 62 [.agg [I P, v, .sl 1 A.length 0 ws.length false]] (A ++ [.cells true ((noG ws).flatMap e1)]) (.agg [I P, v, .sl 1 (A ++ [AObj.cells true ((noG ws).flatMap e1)]).length 0 ws.length false]) (A ++ [.cells true ((noG ws).flatMap e1)] ++ [.cells true ((best P ws).flatMap e1)]) :=
  s62 hv (hw.mono (pre_app A _)) (L1_new A (noG ws) ws.length (by simp [noG])) (by simp) (good_noG hv)
theorem s56 {P : Int} {ws : List (AV × List Int)} {A : AHeap} {v : AV} (hv : Val P (lists ws)) (hw : LL A v ws) : ACalls Try.prog 56 [.agg [I P, v]] A (I (most P (lists ws))) A := by
  refine acalls hmix Try.func56 (by kernel_rfl) t56 1 rfl (by decide) ?_
  have hn : ws.length ≤ 7 := by simpa using hv.n
  dsimp only [m56]
  simp (maxSteps := 4000000) -implicitDefEqProofs -dsimp (disch := omega) only [↓AW_ops, ↓AW_seq, ↓AOps_nil, ↓AOps_pu, ↓AOps_call, on_some, ↓then_normal, pval, rd_S, rd_C, put_S, chkd, bgot, cells_agg, partA, eq_self, List.replicate_succ, List.replicate_zero, List.set_cons_zero, List.set_cons_succ, List.getElem?_cons_zero, List.getElem?_cons_succ, List.drop_zero, List.take_succ_cons, List.take_nil, Option.getD_some, map_c, map_n, List.length_cons, List.length_nil, Nat.reduceAdd, Nat.reduceSub, Nat.reduceLeDiff, Nat.reduceEqDiff, Nat.zero_add, List.cons_append, List.nil_append, if_true, if_false]
  refine CallK.of (s63 hw (by omega)) ?_
  simp (maxSteps := 4000000) -implicitDefEqProofs -dsimp (disch := omega) only [↓AOps_call, extK_app, rd_S, put_S, List.replicate_succ, List.replicate_zero, List.set_cons_zero, List.set_cons_succ, List.getElem?_cons_zero, List.getElem?_cons_succ, Option.getD_some, map_c, map_n, Nat.reduceSub, List.cons_append, List.nil_append]
  refine CallK.of (s62n hv hw) ?_
  simp (maxSteps := 4000000) -implicitDefEqProofs -dsimp (disch := omega) only [↓AOps_pu, ↓AOps_call, on_some, extK_app, pval, rd_S, put_S, partA, eq_self, List.replicate_succ, List.replicate_zero, List.set_cons_zero, List.set_cons_succ, List.getElem?_cons_zero, List.getElem?_cons_succ, List.drop_zero, List.drop_succ_cons, List.take_succ_cons, List.take_nil, Option.getD_some, map_c, map_n, List.length_cons, List.length_nil, Nat.reduceAdd, Nat.reduceSub, Nat.reduceLeDiff, Nat.zero_add, List.cons_append, List.nil_append, if_true, if_false, Bool.false_eq_true]
  refine CallK.of (s61 (L1_new _ (best P ws) ws.length (best_len hv)) (by rw [best_len hv]; omega)) ?_
  rw [best_most]
  simp (maxSteps := 4000000) -implicitDefEqProofs -dsimp (disch := omega) only [↓AW_ret, ↓AOps_nil, ↓AOps_pu, on_some, extK_same, ↓then_normal, ↓Fin_ret, pval, rd_S, put_S, resV, resL, List.replicate_succ, List.replicate_zero, List.set_cons_zero, List.set_cons_succ, List.getElem?_cons_zero, List.getElem?_cons_succ, Option.getD_some, Nat.reduceSub, List.cons_append, List.nil_append]
  exact gc_val ((pre_app A _).trans (pre_app _ _)) rfl
def mostN (P : Int) (ls : List (List Int)) : Int := if vW P ls = 0 then most P ls else 0
theorem s24 {P : Int} {ws : List (AV × List Int)} {A : AHeap} {v : AV} (hw : LL A v ws) (hs : Sz ws) : ACalls Try.prog 24 [.agg [I P, v]] A (.tuple [I (mostN P (lists ws)), I (vW P (lists ws))]) A := by
  refine acalls hmix Try.func24 (by kernel_rfl) t24 1 rfl (by decide) ?_
  dsimp only [m24]
  simp (maxSteps := 4000000) -implicitDefEqProofs -dsimp (disch := omega) only [↓AW_ops, ↓AW_seq, ↓AOps_nil, ↓AOps_pu, ↓AOps_call, on_some, ↓then_normal, pval, rd_S, rd_C, put_S, chkd, bgot, cells_agg, partA, eq_self, List.replicate_succ, List.replicate_zero, List.set_cons_zero, List.set_cons_succ, List.getElem?_cons_zero, List.getElem?_cons_succ, List.drop_zero, List.take_succ_cons, List.take_nil, Option.getD_some, map_c, map_n, List.length_cons, List.length_nil, Nat.reduceAdd, Nat.reduceSub, Nat.reduceLeDiff, Nat.reduceEqDiff, Nat.zero_add, List.cons_append, List.nil_append, if_true, if_false]
  refine CallK.of (s39 hw hs) ?_
  by_cases h0 : vW P (lists ws) = 0
  · have hv := val_of h0
    have hn : ws.length ≤ 7 := by simpa using hv.n
    simp (maxSteps := 4000000) -implicitDefEqProofs -dsimp (disch := omega) only [↓AW_skip, ↓AW_ops, ↓AW_seq, ↓AW_cond, ↓AOps_nil, ↓AOps_pu, ↓AOps_call, on_some, extK_same, condB_f, ↓then_normal, pval, rd_S, rd_C, put_S, chkd, bgot, partA, eq_self, List.replicate_succ, List.replicate_zero, List.set_cons_zero, List.set_cons_succ, List.getElem?_cons_zero, List.getElem?_cons_succ, List.drop_zero, List.take_succ_cons, List.take_nil, Option.getD_some, map_c, map_n, List.length_cons, List.length_nil, Nat.reduceAdd, Nat.reduceSub, Nat.reduceLeDiff, Nat.reduceEqDiff, Nat.zero_add, List.cons_append, List.nil_append, bin_neq, if_true, if_false, decide_false, not_true_eq_false, h0]
    refine CallK.of (s63 hw (by omega)) ?_
    simp (maxSteps := 4000000) -implicitDefEqProofs -dsimp (disch := omega) only [↓AOps_call, extK_app, rd_S, put_S, List.replicate_succ, List.replicate_zero, List.set_cons_zero, List.set_cons_succ, List.getElem?_cons_zero, List.getElem?_cons_succ, Option.getD_some, map_c, map_n, Nat.reduceSub, List.cons_append, List.nil_append]
    refine CallK.of (s62n hv hw) ?_
    simp (maxSteps := 4000000) -implicitDefEqProofs -dsimp (disch := omega) only [↓AOps_pu, ↓AOps_call, on_some, extK_app, pval, rd_S, put_S, partA, eq_self, List.replicate_succ, List.replicate_zero, List.set_cons_zero, List.set_cons_succ, List.getElem?_cons_zero, List.getElem?_cons_succ, List.drop_zero, List.drop_succ_cons, List.take_succ_cons, List.take_nil, Option.getD_some, map_c, map_n, List.length_cons, List.length_nil, Nat.reduceAdd, Nat.reduceSub, Nat.reduceLeDiff, Nat.zero_add, List.cons_append, List.nil_append, if_true, if_false, Bool.false_eq_true]
    refine CallK.of (s61 (L1_new _ (best P ws) ws.length (best_len hv)) (by rw [best_len hv]; omega)) ?_
    rw [best_most]
    simp (maxSteps := 4000000) -implicitDefEqProofs -dsimp (disch := omega) only [↓AW_ret, ↓AOps_nil, ↓AOps_pu, on_some, extK_same, ↓then_normal, ↓Fin_ret, pval, rd_S, rd_C, put_S, resV, resL, List.replicate_succ, List.replicate_zero, List.set_cons_zero, List.set_cons_succ, List.getElem?_cons_zero, List.getElem?_cons_succ, Option.getD_some, Nat.reduceSub, List.cons_append, List.nil_append]
    exact gc_val ((pre_app A _).trans (pre_app _ _)) (by simp [mostN, h0, ren])
  · simp (maxSteps := 4000000) -implicitDefEqProofs -dsimp (disch := omega) only [↓AW_ops, ↓AW_seq, ↓AW_cond, ↓AW_ret, ↓AOps_nil, ↓AOps_pu, on_some, extK_same, condB_t, ↓then_normal, ↓then_ret, ↓Fin_ret, pval, rd_S, rd_C, put_S, resV, resL, List.replicate_succ, List.replicate_zero, List.set_cons_zero, List.set_cons_succ, List.getElem?_cons_zero, List.getElem?_cons_succ, Option.getD_some, Nat.reduceSub, List.cons_append, List.nil_append, bin_neq, decide_true, not_false_eq_true, h0]
    exact gc_same (by simp [mostN, h0])
/-- A list that is handed back, with an error. -/
def giveV (P : Int) (ws : List (AV × List Int)) (A : AHeap) : AV := if vW P (lists ws) = 0 then .sl 1 A.length 0 ws.length false else .nilS
def giveL (P : Int) (ws : List (AV × List Int)) : List Int := if vW P (lists ws) = 0 then best P ws else []
def giveH (P : Int) (ws : List (AV × List Int)) (A : AHeap) : AHeap := if vW P (lists ws) = 0 then A ++ [.cells true ((best P ws).flatMap e1)] else A
theorem giveH_pre (P : Int) (ws : List (AV × List Int)) (A : AHeap) : A <+: giveH P ws A := by
  unfold giveH; split
  · exact pre_app _ _
  · exact List.prefix_refl _
theorem give_ls (P : Int) (ws : List (AV × List Int)) (A : AHeap) : L1 (giveH P ws A) (giveV P ws A) (giveL P ws) := by
  unfold giveH giveV giveL
  by_cases h0 : vW P (lists ws) = 0
  · rw [if_pos h0, if_pos h0, if_pos h0]
    exact L1_new A _ _ (best_len (val_of h0))
  · rw [if_neg h0, if_neg h0, if_neg h0]
    exact L1_nil A
theorem gc_sl2 {A H : AHeap} {m k : Nat} {cs : List AV} (hp : A <+: H) (hm : A.length ≤ m) (ho : H[m]? = some (.cells true cs)) (hf : ∀ x ∈ cs, flat x = true) (b : AV) (hb : flat b = true) :
    GC A (.tuple [.sl 1 m 0 k false, b]) H (.tuple [.sl 1 A.length 0 k false, b]) (A ++ [.cells true cs]) := by
  have hk := Keep.add (keep_old hp) (n := m) (o := .cells true cs) hm (by simp; omega) ho
  simp only [renO, ren_flats _ 3 cs hf] at hk
  refine gc_keep hk ?_
  simp [ren, ren_flat _ 2 b hb]
theorem flat_flat (g : List Int) : ∀ x ∈ g.flatMap e1, flat x = true := by
  intro x hx
  obtain ⟨y, _, hy⟩ := List.mem_flatMap.1 hx
  exact flat_e1 y x hy
theorem s26 {P : Int} {ws : List (AV × List Int)} {A : AHeap} {v : AV} (hw : LL A v ws) (hs : Sz ws) : ACalls Try.prog 26 [.agg [I P, v]] A (.tuple [giveV P ws A, I (vW P (lists ws))]) (giveH P ws A) := by
  refine acalls hmix Try.func26 (by kernel_rfl) t26 1 rfl (by decide) ?_
  dsimp only [m26]
  simp (maxSteps := 4000000) -implicitDefEqProofs -dsimp (disch := omega) only [↓AW_ops, ↓AW_seq, ↓AOps_nil, ↓AOps_pu, ↓AOps_call, on_some, ↓then_normal, pval, rd_S, rd_C, put_S, chkd, bgot, cells_agg, partA, eq_self, List.replicate_succ, List.replicate_zero, List.set_cons_zero, List.set_cons_succ, List.getElem?_cons_zero, List.getElem?_cons_succ, List.drop_zero, List.take_succ_cons, List.take_nil, Option.getD_some, map_c, map_n, List.length_cons, List.length_nil, Nat.reduceAdd, Nat.reduceSub, Nat.reduceLeDiff, Nat.reduceEqDiff, Nat.zero_add, List.cons_append, List.nil_append, if_true, if_false]
  refine CallK.of (s39 hw hs) ?_
  by_cases h0 : vW P (lists ws) = 0
  · have hv := val_of h0
    have hn : ws.length ≤ 7 := by simpa using hv.n
    unfold giveV giveH
    rw [if_pos h0, if_pos h0, h0]
    simp (maxSteps := 4000000) -implicitDefEqProofs -dsimp (disch := omega) only [↓AW_skip, ↓AW_ops, ↓AW_seq, ↓AW_cond, ↓AOps_nil, ↓AOps_pu, ↓AOps_call, on_some, extK_same, condB_f, ↓then_normal, pval, rd_S, rd_C, put_S, chkd, bgot, partA, eq_self, List.replicate_succ, List.replicate_zero, List.set_cons_zero, List.set_cons_succ, List.getElem?_cons_zero, List.getElem?_cons_succ, List.drop_zero, List.take_succ_cons, List.take_nil, Option.getD_some, map_c, map_n, List.length_cons, List.length_nil, Nat.reduceAdd, Nat.reduceSub, Nat.reduceLeDiff, Nat.reduceEqDiff, Nat.zero_add, List.cons_append, List.nil_append, bin_neq, if_true, if_false, decide_false, not_true_eq_false]
    refine CallK.of (s63 hw (by omega)) ?_
    simp (maxSteps := 4000000) -implicitDefEqProofs -dsimp (disch := omega) only [↓AOps_call, extK_app, rd_S, put_S, List.replicate_succ, List.replicate_zero, List.set_cons_zero, List.set_cons_succ, List.getElem?_cons_zero, List.getElem?_cons_succ, Option.getD_some, map_c, map_n, Nat.reduceSub, List.cons_append, List.nil_append]
    refine CallK.of (s62n hv hw) ?_
    simp (maxSteps := 4000000) -implicitDefEqProofs -dsimp (disch := omega) only [↓AW_ret, ↓AOps_nil, ↓AOps_pu, on_some, extK_app, ↓then_normal, ↓Fin_ret, pval, rd_S, rd_C, put_S, resV, resL, partA, eq_self, List.replicate_succ, List.replicate_zero, List.set_cons_zero, List.set_cons_succ, List.getElem?_cons_zero, List.getElem?_cons_succ, List.drop_zero, List.drop_succ_cons, List.take_succ_cons, List.take_nil, Option.getD_some, List.length_cons, List.length_nil, Nat.reduceAdd, Nat.reduceSub, Nat.reduceLeDiff, Nat.zero_add, List.cons_append, List.nil_append, if_true, if_false, Bool.false_eq_true]
    exact gc_sl2 ((pre_app A _).trans (pre_app _ _)) (by simp) (get_new _ _) (flat_flat _) (I 0) rfl
  · unfold giveV giveH
    rw [if_neg h0, if_neg h0]
    simp (maxSteps := 4000000) -implicitDefEqProofs -dsimp (disch := omega) only [↓AW_ops, ↓AW_seq, ↓AW_cond, ↓AW_ret, ↓AOps_nil, ↓AOps_pu, on_some, extK_same, condB_t, ↓then_normal, ↓then_ret, ↓Fin_ret, pval, rd_S, rd_C, put_S, resV, resL, List.replicate_succ, List.replicate_zero, List.set_cons_zero, List.set_cons_succ, List.getElem?_cons_zero, List.getElem?_cons_succ, Option.getD_some, Nat.reduceSub, List.cons_append, List.nil_append, bin_neq, decide_true, not_false_eq_true, h0]
    exact gc_same rfl
end Go.Proofs.Ytlmbobbefgcolaa

namespace Go.Proofs.Ytlmbobbefgcolaa
open Go Go.Eng
def bitOk (s p : Nat) : Bool :=
  (match binI .shl (I 1) (.int .u64 (p : Int)) with | some (.int .i64 b) => decide (b = ((2 ^ p : Nat) : Int)) | _ => false) &&
  (match binI .and (I (s : Int)) (I ((2 ^ p : Nat) : Int)) with | some (.int .i64 c) => decide (c = if s.testBit p = true then ((2 ^ p : Nat) : Int) else 0) | _ => false) &&
  (match binI .or (I (s : Int)) (I ((2 ^ p : Nat) : Int)) with | some (.int .i64 c) => decide (c = ((s ||| 2 ^ p : Nat) : Int)) | _ => false) &&
  (s.testBit p || decide ((s ||| 2 ^ p) = s + 2 ^ p))
set_option maxRecDepth 100000 in
theorem bit_run : ((List.range 128).all fun s => (List.range 8).all fun p => bitOk s p) = true := by kernel_rfl
theorem bit_facts {s p : Nat} (hs : s < 128) (hp : p < 8) : binI .shl (I 1) (.int .u64 (p : Int)) = some (I ((2 ^ p : Nat) : Int)) ∧ binI .and (I (s : Int)) (I ((2 ^ p : Nat) : Int)) = some (I (if s.testBit p = true then ((2 ^ p : Nat) : Int) else 0)) ∧
    (s.testBit p = false → binI .or (I (s : Int)) (I ((2 ^ p : Nat) : Int)) = some (I ((s + 2 ^ p : Nat) : Int))) := by
  have h := List.all_eq_true.1 (List.all_eq_true.1 bit_run s (List.mem_range.2 hs)) p (List.mem_range.2 hp)
  unfold bitOk at h
  simp only [Bool.and_eq_true] at h
  obtain ⟨⟨⟨h1, h2⟩, h3⟩, h4⟩ := h
  refine ⟨?_, ?_, fun hb => ?_⟩
  · split at h1
    · rename_i b e; rw [e, of_decide_eq_true h1]
    · cases h1
  · split at h2
    · rename_i b e; rw [e, of_decide_eq_true h2]
    · cases h2
  · split at h3
    · rename_i b e
      rw [hb, Bool.false_or] at h4
      rw [e, of_decide_eq_true h3, of_decide_eq_true h4]
    · cases h3
/-- A list of truth values, by a function. -/
def tb (N : Nat) (f : Nat → Bool) : List Bool := (List.range N).map f
theorem tb_len (N : Nat) (f : Nat → Bool) : (tb N f).length = N := by simp [tb]
theorem tb_get {N : Nat} {f : Nat → Bool} {s : Nat} (h : s < N) : (tb N f)[s]? = some (f s) := by simp [tb, h]
theorem tb_congr {N : Nat} {f g : Nat → Bool} (h : ∀ t, t < N → f t = g t) : tb N f = tb N g := by
  unfold tb
  exact List.map_congr_left (fun t ht => h t (List.mem_range.1 ht))
theorem tb_set {N : Nat} {f : Nat → Bool} (j : Nat) : (tb N f).set j true = tb N (fun t => f t || t == j) := by
  apply List.ext_getElem?
  intro i
  rw [List.getElem?_set]
  by_cases h : i < N
  · rw [tb_get h]
    by_cases h2 : j = i
    · subst h2
      simp [h, tb]
    · have : ¬ i = j := fun e => h2 e.symm
      simp [h2, this, tb, h]
  · have h1 : (tb N f)[i]? = none := by rw [List.getElem?_eq_none]; rw [tb_len]; omega
    have h2 : (tb N (fun t => f t || t == j))[i]? = none := by rw [List.getElem?_eq_none]; rw [tb_len]; omega
    rw [h1, h2]
    split
    · rename_i h3; rw [tb_len, if_neg (by omega)]
    · rfl
theorem tb_false (N : Nat) : List.replicate N false = tb N (fun _ => false) := by
  apply List.ext_getElem?
  intro i
  by_cases h : i < N <;> simp [tb, h]
theorem s60 (s : Nat) (hs : s ≤ 1000000) (A : AHeap) : ACalls Try.prog 60 [I s] A (I (pc s)) A := by
  refine acalls hmix Try.func60 (by kernel_rfl) t60 1 rfl (by decide) ?_
  dsimp only [m60]
  simp (maxSteps := 4000000) -implicitDefEqProofs -dsimp (disch := omega) only [↓AW_ops, ↓AW_seq, ↓AW_block, ↓AOps_nil, ↓AOps_pu, on_some, ↓then_normal, pval, rd_C, put_S, ↓AW_toLoop, List.replicate_succ, List.replicate_zero, List.set_cons_zero, List.set_cons_succ, Nat.reduceSub, List.cons_append, List.nil_append]
  have hb : ∀ t, pc t ≤ t := by
    intro t
    induction t using Nat.strongRecOn with
    | _ t ih =>
      rw [pc_eq]
      by_cases h : t = 0
      · subst h; simp [pc_0]
      · have := ih (t / 2) (by omega); omega
  refine LoopK.by 13 (fun x : Nat × Nat => x.2 ≤ s ∧ x.1 + pc x.2 = pc s) (fun x => [(0, I x.2), (3, I x.1)]) (fun _ => A) (fun x => x.2) (0, s) ⟨Nat.le_refl _, by simp⟩ rfl (by simp [Has, rd_s]) rfl ?_
  rintro ⟨n, t⟩ ⟨ht, hn⟩
  simp only at ht hn
  have hps := hb s
  by_cases h0 : 0 < t
  · have h0' : (0 : Int) < t := by omega
    have e1 : (t : Int).tmod 2 = ((t % 2 : Nat) : Int) := by rw [Int.tmod_eq_emod_of_nonneg (by omega)]; omega
    have e2 : (t : Int).tdiv 2 = ((t / 2 : Nat) : Int) := by rw [Int.tdiv_eq_ediv_of_nonneg (by omega)]; omega
    rw [pc_eq t] at hn
    simp (maxSteps := 4000000) -implicitDefEqProofs -dsimp (disch := omega) only [↓AW_skip, ↓AW_ops, ↓AW_seq, ↓AW_cond, ↓AW_block, ↓AOps_nil, ↓AOps_pu, on_some, condB_t, ↓then_normal, ↓inBlock_normal, pval, rd_S, rd_C, put_S, eq_self, mk, List.foldl_cons, List.foldl_nil, List.replicate_succ, List.replicate_zero, List.set_cons_zero, List.set_cons_succ, List.getElem?_cons_zero, List.getElem?_cons_succ, Option.getD_some, List.length_cons, List.length_nil, Nat.reduceAdd, Nat.zero_add, bin_add, bin_quo, bin_rem, bin_gtr, w64, if_false, decide_true, true_and, Int.reduceEq, h0', e1, e2]
    exact ⟨(n + t % 2, t / 2), ⟨by simp only; omega, by simp only; omega⟩, by simp [Has, rd_s], by simp only; omega⟩
  · have h0' : ¬ (0 : Int) < t := by omega
    have : t = 0 := by omega
    subst this
    rw [pc_0] at hn
    simp (maxSteps := 4000000) -implicitDefEqProofs -dsimp (disch := omega) only [↓AW_ops, ↓AW_seq, ↓AW_cond, ↓AW_exit, ↓AW_ret, ↓AOps_nil, ↓AOps_pu, on_some, condB_f, ↓then_normal, ↓then_exit, ↓inBlock_exit, ↓Fin_ret, pval, rd_S, rd_C, put_S, resV, resL, eq_self, mk, List.foldl_cons, List.foldl_nil, List.replicate_succ, List.replicate_zero, List.set_cons_zero, List.set_cons_succ, List.getElem?_cons_zero, List.getElem?_cons_succ, Option.getD_some, bin_gtr, if_true, decide_false, h0']
    exact gc_same (by rw [← hn]; rfl)
theorem s57 {f : Nat → Bool} {N : Nat} {v : AV} {A : AHeap} (hx : Lb A v (tb N f)) (hN : N ≤ 1000) : ACalls Try.prog 57 [v] A (I (mb f N)) A := by
  refine acalls hmix Try.func57 (by kernel_rfl) t57 1 rfl (by decide) ?_
  dsimp only [m57]
  simp (maxSteps := 4000000) -implicitDefEqProofs -dsimp (disch := omega) only [↓AW_ops, ↓AW_seq, ↓AW_block, ↓AOps_nil, ↓AOps_pu, on_some, ↓then_normal, pval, rd_C, put_S, ↓AW_toLoop, List.replicate_succ, List.replicate_zero, List.set_cons_zero, List.set_cons_succ, Nat.reduceSub, List.cons_append, List.nil_append]
  have hlen : lenA v = some (I N) := by have := hx.len; rwa [tb_len] at this
  refine LoopK.by 20 (fun i : Nat => i ≤ N) (fun i => [(0, v), (3, I (mb f i)), (4, I i)]) (fun _ => A) (fun i => N - i) 0 (by omega) rfl (by simp [Has, rd_s, mb]) rfl ?_
  intro i hi
  by_cases hlt : i < N
  · have hlt' : (i : Int) < N := by omega
    have hl2 : i < (tb N f).length := by rw [tb_len]; exact hlt
    have hz := tb_get (f := f) hlt
    by_cases hf : f i = true
    · rw [hf] at hz
      have hm : mb f (i + 1) = max (mb f i) (pc i) := by rw [mb, if_pos hf]
      simp (maxSteps := 4000000) -implicitDefEqProofs -dsimp (disch := omega) only [↓AW_skip, ↓AW_ops, ↓AW_seq, ↓AW_cond, ↓AW_block, ↓AOps_nil, ↓AOps_pu, ↓AOps_ld, ↓AOps_call, on_some, condB_t, ↓then_normal, pval, lval, rd_S, put_S, partA, eq_self, mk, List.foldl_cons, List.foldl_nil, List.replicate_succ, List.replicate_zero, List.set_cons_zero, List.set_cons_succ, List.getElem?_cons_zero, List.getElem?_cons_succ, List.drop_zero, List.take_succ_cons, List.take_nil, Option.getD_some, map_c, map_n, List.length_cons, List.length_nil, Nat.reduceLeDiff, Nat.zero_add, bin_lss, if_true, if_false, Bool.false_eq_true, decide_true, hlt', hlen, hx.idx hl2, hx.ld0 hz 1 false (by decide), eb]
      refine CallK.of (s60 i (by omega) A) ?_
      simp (maxSteps := 4000000) -implicitDefEqProofs -dsimp (disch := omega) only [↓AW_ops, ↓AOps_nil, ↓AOps_pu, on_some, extK_same, ↓then_normal, ↓inBlock_normal, pval, rd_S, rd_C, put_S, eq_self, mk, List.foldl_cons, List.foldl_nil, List.replicate_succ, List.replicate_zero, List.set_cons_zero, List.set_cons_succ, List.getElem?_cons_zero, List.getElem?_cons_succ, Option.getD_some, map_c, map_n, List.length_cons, List.length_nil, Nat.reduceAdd, Nat.zero_add, bin_add, mm_max, w64, true_and]
      exact ⟨i + 1, hlt, by simp [Has, rd_s, hm]; omega, by omega⟩
    · have hf' : f i = false := by simpa using hf
      rw [hf'] at hz
      have hm : mb f (i + 1) = mb f i := by rw [mb, if_neg hf]
      simp (maxSteps := 4000000) -implicitDefEqProofs -dsimp (disch := omega) only [↓AW_skip, ↓AW_ops, ↓AW_seq, ↓AW_cond, ↓AW_block, ↓AOps_nil, ↓AOps_pu, ↓AOps_ld, on_some, condB_t, condB_f, ↓then_normal, ↓inBlock_normal, pval, lval, rd_S, rd_C, put_S, partA, eq_self, mk, List.foldl_cons, List.foldl_nil, List.replicate_succ, List.replicate_zero, List.set_cons_zero, List.set_cons_succ, List.getElem?_cons_zero, List.getElem?_cons_succ, List.drop_zero, List.take_succ_cons, List.take_nil, Option.getD_some, List.length_cons, List.length_nil, Nat.reduceAdd, Nat.reduceLeDiff, Nat.zero_add, bin_add, bin_lss, w64, if_true, if_false, Bool.false_eq_true, decide_true, true_and, hlt', hlen, hx.idx hl2, hx.ld0 hz 1 false (by decide), eb]
      exact ⟨i + 1, hlt, by simp [Has, rd_s, hm], by omega⟩
  · have hlt' : ¬ ((i : Int) < N) := by omega
    have hii : i = N := by omega
    subst hii
    simp (maxSteps := 4000000) -implicitDefEqProofs -dsimp (disch := omega) only [↓AW_ops, ↓AW_seq, ↓AW_cond, ↓AW_exit, ↓AW_ret, ↓AOps_nil, ↓AOps_pu, on_some, condB_f, ↓then_normal, ↓then_exit, ↓inBlock_exit, ↓Fin_ret, pval, rd_S, put_S, resV, resL, eq_self, mk, List.foldl_cons, List.foldl_nil, List.replicate_succ, List.replicate_zero, List.set_cons_zero, List.set_cons_succ, List.getElem?_cons_zero, List.getElem?_cons_succ, Option.getD_some, bin_lss, if_true, decide_false, hlt', hlen]
    exact gc_same rfl
/-- What one owner's list adds, set after set. -/
def nx (f : Nat → Bool) (l : List Int) (s0 t : Nat) : Bool := f t || (List.range s0).any (fun s => f s && l.any (fun p => !s.testBit p.toNat && t == s + 2 ^ p.toNat))
theorem nx_succ (f : Nat → Bool) (l : List Int) (s t : Nat) : nx f l (s + 1) t = (nx f l s t || (f s && l.any (fun p => !s.testBit p.toNat && t == s + 2 ^ p.toNat))) := by
  unfold nx
  rw [List.range_succ, List.any_append]
  simp [Bool.or_assoc]
theorem nx_end (f : Nat → Bool) (l : List Int) {N t : Nat} (ht : t < N) : nx f l N t = cb f l t := by
  unfold nx cb
  congr 1
  rw [Bool.eq_iff_iff, List.any_eq_true, List.any_eq_true]
  constructor
  · rintro ⟨s, hs, h⟩
    simp only [Bool.and_eq_true, List.any_eq_true, Bool.not_eq_true', beq_iff_eq] at h
    obtain ⟨hf, p, hp, hb, rfl⟩ := h
    refine ⟨p, hp, ?_⟩
    rw [tb_add _ _ _ hb, Nat.add_sub_cancel]
    simp [hf]
  · rintro ⟨p, hp, h⟩
    simp only [Bool.and_eq_true] at h
    obtain ⟨s, h1, h2⟩ := tb_sub _ _ h.1
    have h3 : t - 2 ^ p.toNat = s := by omega
    rw [h3] at h
    have h4 := Nat.two_pow_pos p.toNat
    refine ⟨s, List.mem_range.2 (by omega), ?_⟩
    simp only [Bool.and_eq_true, List.any_eq_true, Bool.not_eq_true', beq_iff_eq]
    exact ⟨h.2, p, hp, h1, h2⟩
theorem app_fresh {α : Type} {es : Nat} {e : α → List AV} {B : AHeap} {y : AV} {ys : List α} (hy : Ls es e B y ys) {n : Nat} (hn : B[n]? = some (.cells true [])) (h0 : 0 < ys.length) (hl : ys.length ≤ lim) :
    appA es B (.sl es n 0 0 true) y = some (.sl es B.length 0 ys.length false, B ++ [.cells true (ys.flatMap e)]) := by
  unfold appA
  rw [hy.hc]
  have : ys.length ≠ 0 := by omega
  simp [this, hn, hl]
theorem OL_base {α : Type} {es : Nat} {e : α → List AV} {A B H : AHeap} {n : Nat} {v : AV} {xs : List α} (hp : A <+: B) (h : OL es e B H n v xs) : OL es e A H n v xs := ⟨h.he, hp.trans h.pre, Nat.le_trans hp.length_le h.new, h.ob, h.v⟩
theorem flat_eb (b : Bool) : ∀ y ∈ eb b, flat y = true := by simp [eb, flat]
set_option maxHeartbeats 1000000 in
theorem s58 {P : Int} {ws : List (AV × List Int)} {A : AHeap} {v : AV} (hv : Val P (lists ws)) (hw : LL A v ws) (wo : Int) :
    ACalls Try.prog 58 [.agg [I P, v], I wo] A (.sl 1 A.length 0 (2 ^ P.toNat) false) (A ++ [.cells true ((tb (2 ^ P.toNat) (cF (lists ws) wo ws.length)).flatMap eb)]) := by
  refine acalls hmix Try.func58 (by kernel_rfl) t58 2 rfl (by decide) ?_
  have hP := hv.hP
  have hn : ws.length ≤ 7 := by simpa using hv.n
  have hls : ∀ l ∈ lists ws, ∀ p ∈ l, inP P p := fun l hl => (hv.l l hl).1
  obtain ⟨p', hp', hpn⟩ : ∃ p' : Nat, P = (p' : Int) ∧ P.toNat = p' := ⟨P.toNat, by omega, rfl⟩
  rw [hpn]
  have hp7 : p' ≤ 7 := by omega
  have hpow : 2 ^ p' ≤ 128 := by
    have : 2 ^ p' ≤ 2 ^ 7 := Nat.pow_le_pow_right (by omega) hp7
    omega
  have hpow0 : 0 < 2 ^ p' := Nat.pow_pos (by omega)
  have hshl := (bit_facts (s := 0) (p := p') (by omega) (by omega)).1
  have hcv := u64w P (by omega) (by omega)
  rw [hp'] at hcv ⊢
  generalize hN : 2 ^ p' = N at *
  have hN0 : (0 : Int) ≤ (N : Int) := by omega
  have hNl : (N : Int) ≤ (lim : Int) := by simp [lim]; omega
  dsimp only [m58]
  simp (maxSteps := 4000000) -implicitDefEqProofs -dsimp (disch := omega) only [↓AW_ops, ↓AW_seq, ↓AOps_nil, ↓AOps_pu, ↓AOps_ha, on_some, extK_app, ↓then_normal, pval, hval_mks, rd_S, rd_C, put_S, chkd, isAdr, bgot, cells_agg, partA, beq_self_eq_true, eq_self, List.replicate_succ, List.replicate_zero, List.set_cons_zero, List.set_cons_succ, List.getElem?_cons_zero, List.getElem?_cons_succ, List.drop_zero, List.take_zero, List.take_succ_cons, Option.getD_some, List.length_cons, List.length_nil, Nat.reduceAdd, Nat.reduceSub, Nat.reduceLeDiff, Nat.zero_add, List.cons_append, List.nil_append, if_true, if_false, Bool.false_eq_true, and_true, hcv, hshl, hN0, hNl, Int.le_refl, Int.toNat_natCast]
  rw [repl_false]
  have hmk := OL.new_mk eb_len A (List.replicate N false) true
  rw [List.length_replicate] at hmk
  have hst := hmk.st (i := 0) (by simp; omega) (B true) true rfl
  rw [Nat.zero_mul, Nat.add_zero] at hst
  have hOL := hmk.set 0 true
  have h0N : 0 < (List.replicate N false).length := by simp; omega
  generalize hvv : AV.sl 1 A.length 0 N true = vv at *
  simp (maxSteps := 4000000) -implicitDefEqProofs -dsimp (disch := omega) only [↓AW_ops, ↓AW_seq, ↓AW_block, ↓AOps_nil, ↓AOps_pu, ↓AOps_ha, on_some, extK_false, ↓then_normal, pval, hval_st, rd_S, rd_C, put_S, putS_none, ↓AW_toLoop, List.replicate_succ, List.replicate_zero, List.set_cons_zero, List.set_cons_succ, List.getElem?_cons_zero, List.getElem?_cons_succ, Option.getD_some, Option.map_some, Nat.reduceSub, Nat.reduceMul, Nat.add_zero, List.cons_append, List.nil_append, hmk.ls.idxI (k := .i64) (i := 0) (by omega) (by omega), Int.toNat_zero, hst]
  have hset : (List.replicate N false).set 0 true = tb N (cF (lists ws) wo 0) := by
    rw [tb_false, tb_set]
    refine tb_congr (fun t _ => ?_)
    simp [cF]
  rw [hset] at hOL ⊢
  refine LoopK.by 74 (fun x : Nat × AV × Nat × AHeap => x.1 ≤ ws.length ∧ OL 1 eb A x.2.2.2 x.2.2.1 x.2.1 (tb N (cF (lists ws) wo x.1))) (fun x => [(1, I wo), (2, .agg [I (p' : Int), v]), (5, x.2.1), (6, I x.1)]) (fun x => x.2.2.2) (fun x => ws.length - x.1) (0, vv, A.length, _) ⟨by simp only; omega, hOL⟩ rfl (by simp [Has, rd_s]) rfl ?_
  rintro ⟨i, vc, nc, H⟩ ⟨hi, hc⟩
  simp only at hi hc
  have hwH := hw.mono hc.pre
  by_cases hlt : i < ws.length
  · obtain ⟨x, hz⟩ : ∃ z, ws[i]? = some z := ⟨_, List.getElem?_eq_getElem hlt⟩
    have hlt' : (i : Int) < ws.length := by omega
    have hm := List.mem_of_getElem? hz
    have hlx := lst_at hz
    have hxP := hls x.2 (List.mem_map.2 ⟨x, hm, rfl⟩)
    have hxl := hv.len (List.mem_map.2 ⟨x, hm, rfl⟩ : x.2 ∈ lists ws)
    by_cases hwo : (i : Int) = wo
    · subst hwo
      simp (maxSteps := 4000000) -implicitDefEqProofs -dsimp (disch := omega) only [↓AW_skip, ↓AW_ops, ↓AW_seq, ↓AW_cond, ↓AW_block, ↓AW_exit, ↓AW_ret, ↓AOps_nil, ↓AOps_pu, on_some, condB_t, ↓then_normal, ↓then_exit, ↓inBlock_exit, ↓Fin_ret, pval, rd_S, rd_C, put_S, resV, resL, chkd, isAdr, bgot, cells_agg, partA, eq_self, mk, List.foldl_cons, List.foldl_nil, List.replicate_succ, List.replicate_zero, List.set_cons_zero, List.set_cons_succ, List.getElem?_cons_zero, List.getElem?_cons_succ, List.drop_zero, List.drop_succ_cons, List.take_succ_cons, List.take_nil, Option.getD_some, List.length_cons, List.length_nil, Nat.reduceAdd, Nat.reduceLeDiff, Nat.zero_add, bin_add, bin_eql, bin_lss, w64, if_true, if_false, Bool.false_eq_true, decide_true, true_and, reduceCtorEq, hlt', hwH.ls.len]
      refine ⟨(i + 1, vc, nc, H), ⟨hlt, ?_⟩, by simp [Has, rd_s], rfl, by simp only; omega⟩
      simp only
      have : tb N (cF (lists ws) i (i + 1)) = tb N (cF (lists ws) i i) := tb_congr (fun t _ => by rw [cF, if_pos rfl])
      rw [this]; exact hc
    · generalize hfi : cF (lists ws) wo i = f at *
      have pB := pre_app H [.cells true []]
      have hcB := hc.ls.mono pB
      have happ := app_fresh hcB (get_new H (.cells true [])) (by rw [tb_len]; exact hpow0) (by rw [tb_len]; simp [lim]; omega)
      rw [tb_len] at happ
      have hlc : lenA vc = some (I N) := by have := hc.ls.len; rwa [tb_len] at this
      have hO2 := OL.new_mk eb_len (H ++ [.cells true []]) (tb N f) false
      rw [tb_len] at hO2
      simp (maxSteps := 4000000) -implicitDefEqProofs -dsimp (disch := omega) only [↓AW_skip, ↓AW_ops, ↓AW_seq, ↓AW_cond, ↓AW_block, ↓AOps_nil, ↓AOps_pu, ↓AOps_ha, on_some, extK_app, condB_t, condB_f, ↓then_normal, pval, hval_blds, hval_app, rd_S, rd_C, put_S, ↓AW_toLoop, chkd, isAdr, bgot, cells_agg, partA, fillA, repl, eq_self, mk, List.foldl_cons, List.foldl_nil, List.replicate_succ, List.replicate_zero, List.set_cons_zero, List.set_cons_succ, List.getElem?_cons_zero, List.getElem?_cons_succ, List.drop_zero, List.drop_succ_cons, List.take_succ_cons, List.take_nil, Option.getD_some, map_n, List.length_cons, List.length_nil, Nat.reduceAdd, Nat.reduceLeDiff, Nat.zero_add, bin_eql, bin_lss, if_true, if_false, Bool.false_eq_true, decide_true, decide_false, hlt', hwH.ls.len, hwo, List.replicate_zero, repl, happ]
      have hwB := hwH.mono pB
      generalize hBB : H ++ [AObj.cells true []] = Bh at *
      generalize hvn : AV.sl 1 Bh.length 0 N false = vn at *
      have h0 : tb N f = tb N (nx f x.2 0) := tb_congr (fun t _ => by simp [nx])
      rw [h0] at hO2 ⊢
      refine LoopK.by 74 (fun y : Nat × AHeap => y.1 ≤ N ∧ OL 1 eb Bh y.2 Bh.length vn (tb N (nx f x.2 y.1))) (fun y => [(1, I wo), (2, .agg [I (p' : Int), v]), (5, vc), (6, I i), (7, vn), (8, I y.1)]) (fun y => y.2) (fun y => N - y.1) (0, _) ⟨by simp only; omega, hO2⟩ rfl (by simp [Has, rd_s]) rfl ?_
      rintro ⟨s, Hs⟩ ⟨hs, ho⟩
      simp only at hs ho
      by_cases hsN : s < N
      · have hsN' : (s : Int) < N := by omega
        have hsl : s < (tb N f).length := by rw [tb_len]; exact hsN
        have hgs := tb_get (f := f) hsN
        simp (maxSteps := 4000000) -implicitDefEqProofs -dsimp (disch := omega) only [↓AW_skip, ↓AW_ops, ↓AW_seq, ↓AW_cond, ↓AW_block, ↓AOps_nil, ↓AOps_pu, on_some, condB_t, ↓then_normal, pval, rd_S, rd_C, put_S, ↓AW_toLoop, mk, List.foldl_cons, List.foldl_nil, List.replicate_succ, List.replicate_zero, List.set_cons_zero, List.set_cons_succ, List.getElem?_cons_zero, List.getElem?_cons_succ, Option.getD_some, bin_lss, decide_true, hsN', hlc]
        refine LoopK.by 74 (fun y : Nat × AHeap => y.1 ≤ x.2.length ∧ (f s = false → y.1 = 0) ∧ OL 1 eb Bh y.2 Bh.length vn (tb N (fun t => nx f x.2 s t || (x.2.take y.1).any (fun p => !s.testBit p.toNat && t == s + 2 ^ p.toNat)))) (fun y => [(1, I wo), (2, .agg [I (p' : Int), v]), (5, vc), (6, I i), (7, vn), (8, I s), (9, I y.1)]) (fun y => y.2) (fun y => x.2.length - y.1) (0, Hs) ⟨by simp only; omega, fun _ => rfl, by simpa using ho⟩ rfl (by simp [Has, rd_s]) rfl ?_
        rintro ⟨k, Hk⟩ ⟨hk, hk0, hok⟩
        simp only at hk hk0 hok
        have hwk := hwB.mono hok.pre
        have hck := hcB.mono hok.pre
        have hxk := hwk.inn x hm
        by_cases hltk : k < x.2.length
        · have hltk' : (k : Int) < x.2.length := by omega
          obtain ⟨p, hzp⟩ : ∃ p, x.2[k]? = some p := ⟨_, List.getElem?_eq_getElem hltk⟩
          have hpp := hxP p (List.mem_of_getElem? hzp)
          by_cases hf : f s = true
          · rw [hf] at hgs
            obtain ⟨pn, hpe, hpt⟩ : ∃ pn : Nat, p = (pn : Int) ∧ p.toNat = pn := ⟨p.toNat, by have := hpp.1; omega, rfl⟩
            have hpn7 : pn < p' := by have := hpp.2; omega
            obtain ⟨b1, b2, b3⟩ := bit_facts (s := s) (p := pn) (by omega) (by omega)
            have hcvp := u64w p hpp.1 (by have := hpp.2; omega)
            have hstep : ∀ t, ((x.2.take (k + 1)).any (fun p => !s.testBit p.toNat && t == s + 2 ^ p.toNat)) = ((x.2.take k).any (fun p => !s.testBit p.toNat && t == s + 2 ^ p.toNat) || (!s.testBit pn && t == s + 2 ^ pn)) := fun t => by
              rw [List.take_add_one, hzp, List.any_append]
              simp [hpt]
            rw [hpe] at hcvp
            by_cases hb : s.testBit pn = true
            · rw [if_pos hb] at b2
              have hne : ¬ ((2 ^ pn : Nat) : Int) = 0 := by have : 0 < 2 ^ pn := Nat.pow_pos (by omega); omega
              simp (maxSteps := 4000000) -implicitDefEqProofs -dsimp (disch := omega) only [↓AW_skip, ↓AW_ops, ↓AW_seq, ↓AW_cond, ↓AW_block, ↓AOps_nil, ↓AOps_pu, ↓AOps_ld, ↓AOps_guard, on_some, guardB_tt, condB_t, condB_f, ↓then_normal, ↓inBlock_normal, pval, lval, rd_S, rd_C, put_S, chkd, isAdr, bgot, cells_agg, partA, eq_self, mk, List.foldl_cons, List.foldl_nil, List.replicate_succ, List.replicate_zero, List.set_cons_zero, List.set_cons_succ, List.getElem?_cons_zero, List.getElem?_cons_succ, List.drop_zero, List.drop_succ_cons, List.take_succ_cons, List.take_nil, Option.getD_some, List.length_cons, List.length_nil, Nat.reduceAdd, Nat.reduceLeDiff, Nat.zero_add, bin_add, bin_eql, bin_lss, w64, if_true, if_false, Bool.false_eq_true, decide_true, decide_false, Go.Eng.e1, true_and, hltk', hwk.ls.idx hlt, hwk.ls.ld0 hz 1 false (by decide), e0, hck.idx hsl, hck.ld0 hgs 1 false (by decide), eb, hxk.len, hxk.idx hltk, hxk.ld0 hzp 1 false (by decide), hpe, hcvp, b1, b2, hne]
              refine ⟨(k + 1, Hk), ⟨hltk, (fun h => by rw [hf] at h; cases h), ?_⟩, by simp [Has, rd_s], rfl, by simp only; omega⟩
              simp only
              have : tb N (fun t => nx f x.2 s t || (x.2.take (k + 1)).any (fun p => !s.testBit p.toNat && t == s + 2 ^ p.toNat)) = tb N (fun t => nx f x.2 s t || (x.2.take k).any (fun p => !s.testBit p.toNat && t == s + 2 ^ p.toNat)) := tb_congr (fun t _ => by rw [hstep t, hb]; simp)
              rw [this]; exact hok
            · have hb' : s.testBit pn = false := by simpa using hb
              rw [if_neg hb] at b2
              have b3' := b3 hb'
              have hsum : s + 2 ^ pn < N := by
                have h5 : s + 2 ^ pn < 2 ^ p' := by
                  refine Nat.lt_pow_two_of_testBit _ (fun q hq => ?_)
                  rw [tb_add _ _ _ hb']
                  have : s.testBit q = false := Nat.testBit_lt_two_pow (Nat.lt_of_lt_of_le (by rw [hN]; exact hsN) (Nat.pow_le_pow_right (by omega) hq))
                  rw [this]
                  simp; omega
                rw [hN] at h5; exact h5
              have hstk := hok.st (i := s + 2 ^ pn) (by rw [tb_len]; exact hsum) (B true) true rfl
              have hidx := hok.ls.idx (k := .i64) (i := s + 2 ^ pn) (by rw [tb_len]; exact hsum)
              simp (maxSteps := 4000000) -implicitDefEqProofs -dsimp (disch := omega) only [↓AW_skip, ↓AW_ops, ↓AW_seq, ↓AW_cond, ↓AW_block, ↓AOps_nil, ↓AOps_pu, ↓AOps_ld, ↓AOps_ha, ↓AOps_guard, on_some, extK_false, guardB_tt, condB_t, ↓then_normal, ↓inBlock_normal, pval, lval, hval_st, rd_S, rd_C, put_S, putS_none, chkd, isAdr, bgot, cells_agg, partA, eq_self, mk, List.foldl_cons, List.foldl_nil, List.replicate_succ, List.replicate_zero, List.set_cons_zero, List.set_cons_succ, List.getElem?_cons_zero, List.getElem?_cons_succ, List.drop_zero, List.drop_succ_cons, List.take_succ_cons, List.take_nil, Option.getD_some, Option.map_some, List.length_cons, List.length_nil, Nat.reduceAdd, Nat.reduceLeDiff, Nat.zero_add, bin_add, bin_eql, bin_lss, w64, if_true, if_false, Bool.false_eq_true, decide_true, Go.Eng.e1, true_and, hltk', hwk.ls.idx hlt, hwk.ls.ld0 hz 1 false (by decide), e0, hck.idx hsl, hck.ld0 hgs 1 false (by decide), eb, hxk.len, hxk.idx hltk, hxk.ld0 hzp 1 false (by decide), hpe, hcvp, b1, b2, b3', hidx, hstk]
              refine ⟨(k + 1, _), ⟨hltk, (fun h => by rw [hf] at h; cases h), ?_⟩, by simp [Has, rd_s], rfl, by simp only; omega⟩
              simp only
              have : tb N (fun t => nx f x.2 s t || (x.2.take (k + 1)).any (fun p => !s.testBit p.toNat && t == s + 2 ^ p.toNat)) = (tb N (fun t => nx f x.2 s t || (x.2.take k).any (fun p => !s.testBit p.toNat && t == s + 2 ^ p.toNat))).set (s + 2 ^ pn) true := by
                rw [tb_set]
                exact tb_congr (fun t _ => by rw [hstep t, hb']; simp [Bool.or_assoc])
              rw [this]; exact hok.set _ _
          · have hf' : f s = false := by simpa using hf
            have hk00 := hk0 hf'
            rw [hf'] at hgs
            simp (maxSteps := 4000000) -implicitDefEqProofs -dsimp (disch := omega) only [↓AW_ops, ↓AW_seq, ↓AW_cond, ↓AW_exit, ↓AW_ret, ↓AOps_nil, ↓AOps_pu, ↓AOps_ld, ↓AOps_guard, on_some, guardB_tt, condB_f, ↓then_normal, ↓then_exit, ↓inBlock_normal, ↓inBlock_exit, ↓Fin_ret, pval, lval, rd_S, rd_C, put_S, resV, resL, chkd, isAdr, bgot, cells_agg, partA, eq_self, mk, List.foldl_cons, List.foldl_nil, List.replicate_succ, List.replicate_zero, List.set_cons_zero, List.set_cons_succ, List.getElem?_cons_zero, List.getElem?_cons_succ, List.drop_zero, List.drop_succ_cons, List.take_succ_cons, List.take_nil, Option.getD_some, List.length_cons, List.length_nil, Nat.reduceAdd, Nat.reduceLeDiff, Nat.reduceEqDiff, Nat.zero_add, bin_add, bin_lss, w64, if_true, if_false, Bool.false_eq_true, decide_true, true_and, reduceCtorEq, hltk', hwk.ls.idx hlt, hwk.ls.ld0 hz 1 false (by decide), e0, hxk.len, hck.idx hsl, hck.ld0 hgs 1 false (by decide), eb]
            refine ⟨(s + 1, Hk), ⟨hsN, ?_⟩, by simp [Has, rd_s], rfl, by simp only; omega⟩
            simp only
            have : tb N (nx f x.2 (s + 1)) = tb N (fun t => nx f x.2 s t || (x.2.take k).any (fun p => !s.testBit p.toNat && t == s + 2 ^ p.toNat)) := tb_congr (fun t _ => by rw [nx_succ, hf', hk00]; simp)
            rw [this]; exact hok
        · have hltk' : ¬ ((k : Int) < x.2.length) := by omega
          rw [List.take_of_length_le (by omega)] at hok
          simp (maxSteps := 4000000) -implicitDefEqProofs -dsimp (disch := omega) only [↓AW_ops, ↓AW_seq, ↓AW_cond, ↓AW_exit, ↓AW_ret, ↓AOps_nil, ↓AOps_pu, ↓AOps_ld, ↓AOps_guard, on_some, guardB_ft, skipS_some, condB_f, ↓then_normal, ↓then_exit, ↓inBlock_normal, ↓inBlock_exit, ↓Fin_ret, pval, lval, rd_S, rd_C, put_S, resV, resL, chkd, isAdr, bgot, cells_agg, partA, eq_self, mk, List.foldl_cons, List.foldl_nil, List.replicate_succ, List.replicate_zero, List.set_cons_zero, List.set_cons_succ, List.getElem?_cons_zero, List.getElem?_cons_succ, List.drop_zero, List.drop_succ_cons, List.take_succ_cons, List.take_nil, Option.getD_some, List.length_cons, List.length_nil, Nat.reduceAdd, Nat.reduceLeDiff, Nat.reduceEqDiff, Nat.zero_add, bin_add, bin_lss, w64, if_true, if_false, Bool.false_eq_true, decide_false, true_and, reduceCtorEq, hltk', hwk.ls.idx hlt, hwk.ls.ld0 hz 1 false (by decide), e0, hxk.len]
          refine ⟨(s + 1, Hk), ⟨hsN, ?_⟩, by simp [Has, rd_s], rfl, by simp only; omega⟩
          simp only
          by_cases hf : f s = true
          · have : tb N (nx f x.2 (s + 1)) = tb N (fun t => nx f x.2 s t || x.2.any (fun p => !s.testBit p.toNat && t == s + 2 ^ p.toNat)) := tb_congr (fun t _ => by rw [nx_succ, hf]; simp)
            rw [this]; exact hok
          · have hf' : f s = false := by simpa using hf
            have hk00 := hk0 hf'
            have hxe : x.2 = [] := List.eq_nil_of_length_eq_zero (by omega)
            have : tb N (nx f x.2 (s + 1)) = tb N (fun t => nx f x.2 s t || x.2.any (fun p => !s.testBit p.toNat && t == s + 2 ^ p.toNat)) := tb_congr (fun t _ => by rw [nx_succ, hf', hxe]; simp)
            rw [this]; exact hok
      · have hsN' : ¬ ((s : Int) < N) := by omega
        have hsn : s = N := by omega
        subst hsn
        simp (maxSteps := 4000000) -implicitDefEqProofs -dsimp (disch := omega) only [↓AW_ops, ↓AW_seq, ↓AW_cond, ↓AW_exit, ↓AW_ret, ↓AOps_nil, ↓AOps_pu, on_some, condB_f, ↓then_normal, ↓then_exit, ↓inBlock_normal, ↓inBlock_exit, ↓Fin_ret, pval, rd_S, rd_C, put_S, resV, resL, eq_self, mk, List.foldl_cons, List.foldl_nil, List.replicate_succ, List.replicate_zero, List.set_cons_zero, List.set_cons_succ, List.getElem?_cons_zero, List.getElem?_cons_succ, Option.getD_some, List.length_cons, List.length_nil, Nat.reduceAdd, Nat.reduceEqDiff, Nat.zero_add, bin_add, bin_lss, w64, if_true, if_false, decide_false, true_and, reduceCtorEq, hsN', hlc]
        refine ⟨(i + 1, vn, Bh.length, Hs), ⟨hlt, ?_⟩, by simp [Has, rd_s], rfl, by simp only; omega⟩
        simp only
        have : tb s (cF (lists ws) wo (i + 1)) = tb s (nx f x.2 s) := tb_congr (fun t ht => by rw [cF, if_neg hwo, nx_end f x.2 ht, hlx, hfi])
        rw [this]
        exact OL_base (hc.pre.trans pB) ho
  · have hlt' : ¬ ((i : Int) < ws.length) := by omega
    have hii : i = ws.length := by omega
    subst hii
    simp (maxSteps := 4000000) -implicitDefEqProofs -dsimp (disch := omega) only [↓AW_ops, ↓AW_seq, ↓AW_cond, ↓AW_exit, ↓AW_ret, ↓AOps_nil, ↓AOps_pu, on_some, condB_f, ↓then_normal, ↓then_exit, ↓inBlock_exit, ↓Fin_ret, pval, rd_S, put_S, resV, resL, chkd, isAdr, bgot, cells_agg, partA, eq_self, mk, List.foldl_cons, List.foldl_nil, List.replicate_succ, List.replicate_zero, List.set_cons_zero, List.set_cons_succ, List.getElem?_cons_zero, List.getElem?_cons_succ, List.drop_zero, List.drop_succ_cons, List.take_succ_cons, List.take_nil, Option.getD_some, List.length_cons, List.length_nil, Nat.reduceAdd, Nat.reduceLeDiff, Nat.zero_add, bin_lss, if_true, if_false, Bool.false_eq_true, decide_false, hlt', hwH.ls.len]
    have := OL_gcS hc flat_eb
    rwa [tb_len] at this
end Go.Proofs.Ytlmbobbefgcolaa

namespace Go.Proofs.Ytlmbobbefgcolaa
open Go Go.Eng
theorem drp_none (ls : List (List Int)) : drp ls (-1) = ls := by unfold drp; rw [if_neg (by omega)]
theorem s25 {P : Int} {ws : List (AV × List Int)} {A : AHeap} {v : AV} (hw : LL A v ws) (hs : Sz ws) : ACalls Try.prog 25 [.agg [I P, v]] A (.tuple [I (mostN P (lists ws)), I (vW P (lists ws))]) A := by
  refine acalls hmix Try.func25 (by kernel_rfl) t25 1 rfl (by decide) ?_
  dsimp only [m25]
  simp (maxSteps := 4000000) -implicitDefEqProofs -dsimp (disch := omega) only [↓AW_ops, ↓AW_seq, ↓AOps_nil, ↓AOps_pu, ↓AOps_call, on_some, ↓then_normal, pval, rd_S, rd_C, put_S, chkd, bgot, cells_agg, partA, eq_self, List.replicate_succ, List.replicate_zero, List.set_cons_zero, List.set_cons_succ, List.getElem?_cons_zero, List.getElem?_cons_succ, List.drop_zero, List.take_succ_cons, List.take_nil, Option.getD_some, map_c, map_n, List.length_cons, List.length_nil, Nat.reduceAdd, Nat.reduceSub, Nat.reduceLeDiff, Nat.reduceEqDiff, Nat.zero_add, List.cons_append, List.nil_append, if_true, if_false]
  refine CallK.of (s40 hw hs) ?_
  by_cases h0 : vW P (lists ws) = 0
  · have hv := val_of h0
    have hP := hv.hP
    have hls : ∀ l ∈ lists ws, ∀ p ∈ l, inP P p := fun l hl => (hv.l l hl).1
    have hpow : 2 ^ P.toNat ≤ 128 := by
      have : 2 ^ P.toNat ≤ 2 ^ 7 := Nat.pow_le_pow_right (by omega) (by omega)
      omega
    have hmm := mb_most (by omega) hls (-1)
    rw [drp_none, List.length_map] at hmm
    simp (maxSteps := 4000000) -implicitDefEqProofs -dsimp (disch := omega) only [↓AW_skip, ↓AW_ops, ↓AW_seq, ↓AW_cond, ↓AOps_nil, ↓AOps_pu, ↓AOps_call, on_some, extK_same, condB_f, ↓then_normal, pval, rd_S, rd_C, put_S, chkd, bgot, partA, eq_self, List.replicate_succ, List.replicate_zero, List.set_cons_zero, List.set_cons_succ, List.getElem?_cons_zero, List.getElem?_cons_succ, List.drop_zero, List.take_succ_cons, List.take_nil, Option.getD_some, map_c, map_n, List.length_cons, List.length_nil, Nat.reduceAdd, Nat.reduceSub, Nat.reduceLeDiff, Nat.reduceEqDiff, Nat.zero_add, List.cons_append, List.nil_append, bin_neq, if_true, if_false, decide_false, not_true_eq_false, Int.reduceNeg, h0]
    refine CallK.of (s58 hv hw (-1)) ?_
    simp (maxSteps := 4000000) -implicitDefEqProofs -dsimp (disch := omega) only [↓AOps_call, extK_app, rd_S, put_S, List.replicate_succ, List.replicate_zero, List.set_cons_zero, List.set_cons_succ, List.getElem?_cons_zero, List.getElem?_cons_succ, Option.getD_some, map_c, map_n, Nat.reduceSub, List.cons_append, List.nil_append, Int.reduceNeg]
    have hO := (OL.new_mk eb_len A (tb (2 ^ P.toNat) (cF (lists ws) (-1) ws.length)) false).ls
    rw [tb_len] at hO
    refine CallK.of (s57 hO (by omega)) ?_
    rw [hmm]
    simp (maxSteps := 4000000) -implicitDefEqProofs -dsimp (disch := omega) only [↓AW_ret, ↓AOps_nil, ↓AOps_pu, on_some, extK_same, ↓then_normal, ↓Fin_ret, pval, rd_S, rd_C, put_S, resV, resL, List.replicate_succ, List.replicate_zero, List.set_cons_zero, List.set_cons_succ, List.getElem?_cons_zero, List.getElem?_cons_succ, Option.getD_some, Nat.reduceSub, List.cons_append, List.nil_append, Int.reduceNeg]
    exact gc_val (pre_app A _) (by simp [mostN, h0, ren])
  · simp (maxSteps := 4000000) -implicitDefEqProofs -dsimp (disch := omega) only [↓AW_ops, ↓AW_seq, ↓AW_cond, ↓AW_ret, ↓AOps_nil, ↓AOps_pu, on_some, extK_same, condB_t, ↓then_normal, ↓then_ret, ↓Fin_ret, pval, rd_S, rd_C, put_S, resV, resL, List.replicate_succ, List.replicate_zero, List.set_cons_zero, List.set_cons_succ, List.getElem?_cons_zero, List.getElem?_cons_succ, Option.getD_some, Nat.reduceSub, List.cons_append, List.nil_append, bin_neq, decide_true, not_false_eq_true, h0]
    exact gc_same (by simp [mostN, h0])
theorem give_good {P : Int} {ws : List (AV × List Int)} (h0 : vW P (lists ws) = 0) : gE P (lists ws) (giveL P ws) = 0 ∧ gN P (lists ws) (giveL P ws) = most P (lists ws) := by
  have hv := val_of h0
  have h1 : giveL P ws = best P ws := by unfold giveL; rw [if_pos h0]
  rw [h1]
  have hE := good_iff.2 ⟨h0, best_good hv⟩
  exact ⟨hE, by unfold gN; rw [if_pos hE, best_most]⟩
theorem give_len {P : Int} {ws : List (AV × List Int)} (hs : Sz ws) : (giveL P ws).length ≤ 40 := by
  unfold giveL
  split
  · rename_i h0; rw [best_len (val_of h0)]; exact hs.1
  · simp
set_option maxHeartbeats 4000000 in
theorem s4 {P : Int} {ws : List (AV × List Int)} {v : AV} {A : AHeap} (hw : LL A v ws) (hl : ws.length ≤ 9223372036854775807) :
    ACalls Try.prog 4 [.agg [I P, v]] A (B true) A := by
  refine acalls hmix Try.func4 (by kernel_rfl) t4 1 rfl (by decide) ?_
  dsimp only [m4]
  simp (maxSteps := 4000000) -implicitDefEqProofs -dsimp (disch := omega) only [↓AW_ops, ↓AW_seq, ↓AOps_nil, ↓AOps_pu, ↓AOps_call, on_some, ↓then_normal, pval, rd_S, rd_C, put_S, chkd, bgot, AV.cells?, partA, eq_self, List.replicate_succ, List.replicate_zero, List.set_cons_zero, List.set_cons_succ, List.getElem?_cons_zero, List.getElem?_cons_succ, List.drop_zero, List.take_succ_cons, List.take_nil, Option.getD_some, map_c, map_n, List.length_cons, List.length_nil, Nat.reduceAdd, Nat.reduceSub, Nat.reduceLeDiff, Nat.reduceEqDiff, Nat.zero_add, List.cons_append, List.nil_append, if_true, if_false]
  refine CallK.of (s17 hw hl) ?_
  by_cases h1 : longW ws
  · simp (maxSteps := 4000000) -implicitDefEqProofs -dsimp (disch := omega) only [↓AW_ops, ↓AW_seq, ↓AW_cond, ↓AOps_nil, ↓AOps_call, extK_same, condB_t, ↓then_normal, rd_S, put_S, List.replicate_succ, List.replicate_zero, List.set_cons_zero, List.set_cons_succ, List.getElem?_cons_zero, List.getElem?_cons_succ, Option.getD_some, map_n, Nat.reduceSub, List.cons_append, List.nil_append, decide_true, h1]
    refine CallK.of (known A) ?_
    simp (maxSteps := 4000000) -implicitDefEqProofs -dsimp (disch := omega) only [↓AW_ret, ↓AOps_nil, ↓AOps_pu, on_some, extK_same, ↓then_normal, ↓then_ret, ↓Fin_ret, pval, rd_S, put_S, resV, resL, List.replicate_succ, List.replicate_zero, List.set_cons_zero, List.set_cons_succ, List.getElem?_cons_zero, List.getElem?_cons_succ, Option.getD_some, Nat.reduceSub, List.cons_append, List.nil_append]
    exact gc_same rfl
  · simp (maxSteps := 4000000) -implicitDefEqProofs -dsimp (disch := omega) only [↓AW_skip, ↓AW_ops, ↓AW_seq, ↓AW_cond, ↓AOps_nil, ↓AOps_pu, ↓AOps_call, on_some, extK_same, condB_f, ↓then_normal, pval, rd_S, put_S, chkd, bgot, partA, eq_self, List.replicate_succ, List.replicate_zero, List.set_cons_zero, List.set_cons_succ, List.getElem?_cons_zero, List.getElem?_cons_succ, List.drop_zero, List.take_succ_cons, List.take_nil, Option.getD_some, map_c, map_n, List.length_cons, List.length_nil, Nat.reduceAdd, Nat.reduceSub, Nat.reduceLeDiff, Nat.reduceEqDiff, Nat.zero_add, List.cons_append, List.nil_append, if_true, if_false, decide_false, h1]
    have hs := Sz_of h1
    refine CallK.of (s24 hw hs) ?_
    simp (maxSteps := 4000000) -implicitDefEqProofs -dsimp (disch := omega) only [↓AW_ops, ↓AW_seq, ↓AOps_nil, ↓AOps_pu, ↓AOps_call, on_some, extK_same, ↓then_normal, pval, rd_S, put_S, chkd, bgot, partA, eq_self, List.replicate_succ, List.replicate_zero, List.set_cons_zero, List.set_cons_succ, List.getElem?_cons_zero, List.getElem?_cons_succ, List.drop_zero, List.take_succ_cons, List.take_nil, Option.getD_some, map_c, map_n, List.length_cons, List.length_nil, Nat.reduceAdd, Nat.reduceSub, Nat.reduceLeDiff, Nat.reduceEqDiff, Nat.zero_add, List.cons_append, List.nil_append, if_true, if_false]
    refine CallK.of (s25 hw hs) ?_
    simp (maxSteps := 4000000) -implicitDefEqProofs -dsimp (disch := omega) only [↓AW_ops, ↓AW_seq, ↓AOps_nil, ↓AOps_pu, ↓AOps_call, on_some, extK_same, ↓then_normal, pval, rd_S, put_S, chkd, bgot, partA, eq_self, List.replicate_succ, List.replicate_zero, List.set_cons_zero, List.set_cons_succ, List.getElem?_cons_zero, List.getElem?_cons_succ, List.drop_zero, List.take_succ_cons, List.take_nil, Option.getD_some, map_c, map_n, List.length_cons, List.length_nil, Nat.reduceAdd, Nat.reduceSub, Nat.reduceLeDiff, Nat.reduceEqDiff, Nat.zero_add, List.cons_append, List.nil_append, if_true, if_false]
    refine CallK.of (s26 hw hs) ?_
    have p1 := giveH_pre P ws A
    have hL := give_ls P ws A
    have hgl := give_len (P := P) hs
    by_cases h0 : vW P (lists ws) = 0
    · obtain ⟨g1, g2⟩ := give_good h0
      have hN : mostN P (lists ws) = most P (lists ws) := by unfold mostN; rw [if_pos h0]
      generalize giveV P ws A = y at *
      generalize giveH P ws A = A1 at *
      generalize giveL P ws = gl at *
      simp (maxSteps := 4000000) -implicitDefEqProofs -dsimp (disch := omega) only [↓AW_skip, ↓AW_ops, ↓AW_seq, ↓AW_cond, ↓AOps_nil, ↓AOps_pu, ↓AOps_call, ↓AOps_guard, on_some, extK_false, guardB_ff, condB_f, ↓then_normal, pval, rd_S, rd_C, put_S, chkd, bgot, partA, eq_self, List.replicate_succ, List.replicate_zero, List.set_cons_zero, List.set_cons_succ, List.getElem?_cons_zero, List.getElem?_cons_succ, List.drop_zero, List.take_succ_cons, List.take_nil, Option.getD_some, map_c, map_n, List.length_cons, List.length_nil, Nat.reduceAdd, Nat.reduceSub, Nat.reduceLeDiff, Nat.reduceEqDiff, Nat.zero_add, List.cons_append, List.nil_append, bin_neq, if_true, if_false, Bool.false_eq_true, decide_false, not_true_eq_false, h0]
      refine CallK.of (s27 (hw.mono p1) hs hL (by omega)) ?_
      simp (maxSteps := 4000000) -implicitDefEqProofs -dsimp (disch := omega) only [↓AW_ops, ↓AW_seq, ↓AOps_nil, ↓AOps_pu, ↓AOps_call, ↓AOps_guard, on_some, extK_same, guardB_tt, ↓then_normal, pval, rd_S, rd_C, put_S, eq_self, List.replicate_succ, List.replicate_zero, List.set_cons_zero, List.set_cons_succ, List.getElem?_cons_zero, List.getElem?_cons_succ, Option.getD_some, map_n, Nat.reduceSub, List.cons_append, List.nil_append, bin_eql, if_true, decide_true, g1, g2, hN]
      refine CallK.of (known A1) ?_
      simp (maxSteps := 4000000) -implicitDefEqProofs -dsimp (disch := omega) only [↓AW_ret, ↓AOps_nil, ↓AOps_pu, on_some, extK_same, ↓then_normal, ↓Fin_ret, pval, rd_S, rd_C, put_S, resV, resL, eq_self, List.replicate_succ, List.replicate_zero, List.set_cons_zero, List.set_cons_succ, List.getElem?_cons_zero, List.getElem?_cons_succ, Option.getD_some, Nat.reduceSub, List.cons_append, List.nil_append, if_true]
      exact gc_val p1 rfl
    · have hE : giveL P ws = [] := by unfold giveL; rw [if_neg h0]
      generalize giveV P ws A = y at *
      generalize giveH P ws A = A1 at *
      rw [hE] at hL
      simp (maxSteps := 4000000) -implicitDefEqProofs -dsimp (disch := omega) only [↓AW_skip, ↓AW_ops, ↓AW_seq, ↓AW_cond, ↓AOps_nil, ↓AOps_pu, ↓AOps_call, ↓AOps_guard, on_some, extK_false, guardB_tt, guardB_ff, condB_t, condB_f, ↓then_normal, pval, rd_S, rd_C, put_S, eq_self, List.replicate_succ, List.replicate_zero, List.set_cons_zero, List.set_cons_succ, List.getElem?_cons_zero, List.getElem?_cons_succ, Option.getD_some, map_n, List.length_nil, Nat.reduceSub, List.cons_append, List.nil_append, bin_eql, bin_neq, if_false, Bool.false_eq_true, decide_true, decide_false, not_true_eq_false, not_false_eq_true, h0, hL.len, Int.natCast_zero]
      refine CallK.of (known A1) ?_
      simp (maxSteps := 4000000) -implicitDefEqProofs -dsimp (disch := omega) only [↓AW_ret, ↓AOps_nil, ↓AOps_pu, on_some, extK_same, ↓then_normal, ↓then_ret, ↓Fin_ret, pval, rd_S, rd_C, put_S, resV, resL, eq_self, List.replicate_succ, List.replicate_zero, List.set_cons_zero, List.set_cons_succ, List.getElem?_cons_zero, List.getElem?_cons_succ, Option.getD_some, Nat.reduceSub, List.cons_append, List.nil_append, if_true]
      exact gc_val p1 rfl
end Go.Proofs.Ytlmbobbefgcolaa

namespace Go.Proofs.Ytlmbobbefgcolaa
open Go Go.Eng
/-- The one list does not come behind the other one. -/
def leL : List Int → List Int → Bool
  | a :: a1, b :: b1 => decide (a < b) || (a == b && leL a1 b1)
  | _, _ => true
theorem leL_cons {a b : Int} {a1 b1 : List Int} : leL (a :: a1) (b :: b1) = true ↔ a < b ∨ (a = b ∧ leL a1 b1 = true) := by
  simp [leL]
theorem leL_refl : ∀ a : List Int, leL a a = true
  | [] => rfl
  | a :: a1 => leL_cons.2 (.inr ⟨rfl, leL_refl a1⟩)
theorem leL_trans : ∀ {a b c : List Int}, a.length = b.length → b.length = c.length → leL a b = true → leL b c = true → leL a c = true
  | [], _, _, _, _, _, _ => by simp [leL]
  | a :: a1, b :: b1, c :: cs, h1, h2, h3, h4 => by
    rw [leL_cons] at *
    rcases h3 with h3 | ⟨h3, h5⟩
    · rcases h4 with h4 | ⟨h4, h6⟩
      · exact .inl (by omega)
      · exact .inl (by omega)
    · rcases h4 with h4 | ⟨h4, h6⟩
      · exact .inl (by omega)
      · exact .inr ⟨by omega, leL_trans (by simpa using h1) (by simpa using h2) h5 h6⟩
  | a :: a1, [], _, h1, _, _, _ => by simp at h1
  | a :: a1, b :: b1, [], _, h2, _, _ => by simp at h2
theorem leL_total : ∀ a b : List Int, leL a b = true ∨ leL b a = true
  | [], _ => .inl (by simp [leL])
  | a :: a1, [] => .inr (by simp [leL])
  | a :: a1, b :: b1 => by
    rw [leL_cons, leL_cons]
    rcases Int.lt_trichotomy a b with h | h | h
    · exact .inl (.inl h)
    · rcases leL_total a1 b1 with k | k
      · exact .inl (.inr ⟨h, k⟩)
      · exact .inr (.inr ⟨h.symm, k⟩)
    · exact .inr (.inl h)
theorem leL_no {a b : List Int} (h : ¬ leL a b = true) : leL b a = true := by
  rcases leL_total a b with k | k
  · exact absurd k h
  · exact k
/-- The greatest one of some, or nothing where there are none. -/
def TopC {α : Type} (S : α → Prop) (f : α → List Int) (c : List Int) : Prop := (c = [] ∧ ∀ g, ¬ S g) ∨ (c ≠ [] ∧ (∃ g, S g ∧ f g = c) ∧ ∀ g, S g → leL (f g) c = true)
theorem TopC.congr {α : Type} {S S' : α → Prop} {f : α → List Int} {c : List Int} (h : TopC S f c) (hS : ∀ g, S' g ↔ S g) : TopC S' f c := by
  have : S' = S := funext fun g => propext (hS g)
  rw [this]; exact h
theorem TopC.add {S S' : List Int → Prop} {c d : List Int} {n : Nat} (h : TopC S id c) (hn : ∀ x, S x → x.length = n) (hd : d.length = n) (hd0 : d ≠ []) (hS : ∀ x, S' x ↔ S x ∨ x = d) : TopC S' id (if c = [] ∨ leL d c = false then d else c) := by
  rcases h with ⟨rfl, h0⟩ | ⟨hc, ⟨g, hg, hgc⟩, hm⟩
  · rw [if_pos (.inl rfl)]
    refine .inr ⟨hd0, ⟨d, (hS d).2 (.inr rfl), rfl⟩, fun x hx => ?_⟩
    rcases (hS x).1 hx with hx | rfl
    · exact absurd hx (h0 x)
    · exact leL_refl _
  · have hgc : g = c := hgc
    subst hgc
    have hcl := hn g hg
    by_cases h1 : leL d g = true
    · rw [if_neg (by rintro (h | h); exact hc h; rw [h1] at h; cases h)]
      refine .inr ⟨hc, ⟨g, (hS g).2 (.inl hg), rfl⟩, fun x hx => ?_⟩
      rcases (hS x).1 hx with hx | rfl
      · exact hm x hx
      · exact h1
    · rw [if_pos (.inr (by simpa using h1))]
      refine .inr ⟨hd0, ⟨d, (hS d).2 (.inr rfl), rfl⟩, fun x hx => ?_⟩
      rcases (hS x).1 hx with hx | rfl
      · exact leL_trans (by rw [show id x = x from rfl, hn x hx, hcl]) (by rw [hcl, hd]) (hm x hx) (leL_no h1)
      · exact leL_refl _
theorem pre_ext {ls : List (List Int)} {i : Nat} {g : List Int} {x : Int} (hg : Pre ls (-1) i g) (hx : x = -1 ∨ (0 ≤ x ∧ x ∈ lst ls i ∧ x ∉ g)) : Pre ls (-1) (i + 1) (g ++ [x]) := by
  have e : ∀ k, k < i → has (g ++ [x]) k = has g k := fun k hk => by rw [has_append, if_pos (by have := hg.len; omega)]
  have e2 : has (g ++ [x]) i = x := by rw [has_append, if_neg (by have := hg.len; omega), if_pos (by have := hg.len; omega)]
  refine ⟨by simp [hg.len], fun k hk => ?_, fun k hk h1 => ?_, fun a b ha hb h1 h2 => ?_⟩
  · by_cases hki : k = i
    · subst hki; rw [e2]; omega
    · rw [e k (by omega)]; exact hg.low k (by omega)
  · by_cases hki : k = i
    · subst hki
      rw [e2] at h1 ⊢
      rcases hx with hx | hx
      · omega
      · exact ⟨hx.2.1, by omega⟩
    · rw [e k (by omega)] at *; exact hg.wish k (by omega) h1
  · have notin : ∀ k, k < i → 0 ≤ x → has g k ≠ x := fun k hk h0 he => by
      rcases hx with rfl | hx
      · omega
      · exact hx.2.2 (by rw [← he]; exact has_mem (by have := hg.len; omega))
    by_cases hai : a = i
    · by_cases hbi : b = i
      · omega
      · rw [hai, e2] at h1 h2
        rw [e b (by omega)] at h2
        exact absurd h2.symm (notin b (by omega) h1)
    · by_cases hbi : b = i
      · rw [e a (by omega)] at h1 h2
        rw [hbi, e2] at h2
        exact absurd h2 (notin a (by omega) (by omega))
      · rw [e a (by omega)] at h1 h2
        rw [e b (by omega)] at h2
        exact hg.inj a b (by omega) (by omega) h1 h2
theorem pre_split {ls : List (List Int)} {i : Nat} {g0 : List Int} {x : Int} (h : Pre ls (-1) (i + 1) (g0 ++ [x])) : Pre ls (-1) i g0 ∧ (x = -1 ∨ (0 ≤ x ∧ x ∈ lst ls i ∧ x ∉ g0)) := by
  have hl : g0.length = i := by have := h.len; simp at this; exact this
  have e : ∀ k, k < i → has (g0 ++ [x]) k = has g0 k := fun k hk => by rw [has_append, if_pos (by omega)]
  have hx : has (g0 ++ [x]) i = x := by rw [has_append, if_neg (by omega), if_pos (by omega)]
  refine ⟨⟨hl, fun k hk => by rw [← e k hk]; exact h.low k (by omega), fun k hk h1 => by rw [← e k hk] at *; exact h.wish k (by omega) h1, fun a b ha hb h1 h2 => h.inj a b (by omega) (by omega) (by rw [e a ha]; exact h1) (by rw [e a ha, e b hb]; exact h2)⟩, ?_⟩
  by_cases hx0 : 0 ≤ x
  · have hw := h.wish i (by omega) (by rw [hx]; exact hx0)
    rw [hx] at hw
    refine .inr ⟨hx0, hw.1, fun hm => ?_⟩
    obtain ⟨k, hk, ek⟩ := List.mem_iff_getElem.1 hm
    have hh : has (g0 ++ [x]) k = x := by rw [has_append, if_pos hk, has_get (List.getElem?_eq_getElem hk), ek]
    have := h.inj k i (by omega) (by omega) (by rw [hh]; exact hx0) (by rw [hh, hx])
    omega
  · have := h.low i (by omega)
    rw [hx] at this
    exact .inl (by omega)
/-- The greatest count of the givings that serve the most. -/
def IsBest (P : Int) (ls : List (List Int)) (c : List Int) : Prop := (∃ g, Good P ls g ∧ srv g = most P ls ∧ cnt P (g.zip ls) = c) ∧ ∀ g, Good P ls g → srv g = most P ls → leL (cnt P (g.zip ls)) c = true
theorem zero_le : ∀ {n : Nat} {c : List Int}, (∀ y ∈ c, 0 ≤ y) → leL (List.replicate n 0) c = true
  | 0, _, _ => by simp [leL]
  | n + 1, [], _ => by simp [leL]
  | n + 1, a :: c, h => by
    rw [List.replicate_succ, leL_cons]
    have := h a (by simp)
    by_cases h0 : 0 < a
    · exact .inl h0
    · exact .inr ⟨by omega, zero_le (fun y hy => h y (by simp [hy]))⟩
end Go.Proofs.Ytlmbobbefgcolaa

namespace Go.Proofs.Ytlmbobbefgcolaa
open Go Go.Eng
def neg (g : List Int) : Nat := g.countP (fun p => decide (p < 0))
theorem neg_cons (x : Int) (g : List Int) : neg (x :: g) = neg g + if x < 0 then 1 else 0 := by
  unfold neg
  rw [List.countP_cons]
  simp
theorem neg_srv : ∀ g : List Int, neg g + srv g = g.length
  | [] => rfl
  | x :: g => by
    have ih := neg_srv g
    have hs : srv (x :: g) = srv g + if 0 ≤ x then 1 else 0 := by
      unfold srv
      rw [List.countP_cons]
      simp
    rw [neg_cons, hs, List.length_cons]
    split <;> split <;> omega
abbrev ct (P : Int) (ls : List (List Int)) (g : List Int) : List Int := cnt P (g.zip ls)
theorem ct_len (P : Int) (ls : List (List Int)) (g : List Int) : (ct P ls g).length = P.toNat := cnt_len _ _
/-- The givings that begin so, and behind it leave out no more owners. -/
def Ext (ls : List (List Int)) (i k : Nat) (pre g : List Int) : Prop := Pre ls (-1) ls.length g ∧ g.take i = pre ∧ neg (g.drop i) ≤ k
/-- From one giving, or none, to the best one of it and of some. -/
def UpB (P : Int) (ls : List (List Int)) (b : Option (List Int)) (S : List Int → Prop) (b' : Option (List Int)) : Prop :=
  (b' = b ∨ ∃ g, S g ∧ b' = some g) ∧ (∀ x, b = some x → ∃ y, b' = some y ∧ leL (ct P ls x) (ct P ls y) = true) ∧ ∀ g, S g → ∃ y, b' = some y ∧ leL (ct P ls g) (ct P ls y) = true
section
variable {P : Int} {ls : List (List Int)} {b b' b2 : Option (List Int)} {S S' : List Int → Prop}
theorem UpB.refl (h : ∀ g, ¬ S g) : UpB P ls b S b := ⟨.inl rfl, fun x hx => ⟨x, hx, leL_refl _⟩, fun g hg => absurd hg (h g)⟩
theorem UpB.congr (h : UpB P ls b S b') (hS : ∀ g, S' g ↔ S g) : UpB P ls b S' b' := by
  have : S' = S := funext fun g => propext (hS g)
  rw [this]; exact h
theorem UpB.trans {S2 : List Int → Prop} (h : UpB P ls b S b') (k : UpB P ls b' S' b2) (hS : ∀ g, S2 g ↔ S g ∨ S' g) : UpB P ls b S2 b2 := by
  obtain ⟨h1, h2, h3⟩ := h
  obtain ⟨k1, k2, k3⟩ := k
  refine ⟨?_, ?_, ?_⟩
  · rcases k1 with rfl | ⟨g, hg, rfl⟩
    · rcases h1 with rfl | ⟨g, hg, rfl⟩
      · exact .inl rfl
      · exact .inr ⟨g, (hS g).2 (.inl hg), rfl⟩
    · exact .inr ⟨g, (hS g).2 (.inr hg), rfl⟩
  · intro x hx
    obtain ⟨y, hy, hle⟩ := h2 x hx
    obtain ⟨z, hz, hle2⟩ := k2 y hy
    exact ⟨z, hz, leL_trans (by rw [ct_len, ct_len]) (by rw [ct_len, ct_len]) hle hle2⟩
  · intro g hg
    rcases (hS g).1 hg with hg | hg
    · obtain ⟨y, hy, hle⟩ := h3 g hg
      obtain ⟨z, hz, hle2⟩ := k2 y hy
      exact ⟨z, hz, leL_trans (by rw [ct_len, ct_len]) (by rw [ct_len, ct_len]) hle hle2⟩
    · exact k3 g hg
theorem UpB.one_none (g : List Int) : UpB P ls none (fun x => x = g) (some g) := ⟨.inr ⟨g, rfl, rfl⟩, fun x hx => (by cases hx), fun x hx => ⟨g, rfl, by rw [hx]; exact leL_refl _⟩⟩
theorem UpB.one_yes {x g : List Int} (h : leL (ct P ls g) (ct P ls x) = false) : UpB P ls (some x) (fun y => y = g) (some g) := by
  have h1 : leL (ct P ls x) (ct P ls g) = true := leL_no (by rw [h]; simp)
  exact ⟨.inr ⟨g, rfl, rfl⟩, fun y hy => ⟨g, rfl, by cases hy; exact h1⟩, fun y hy => ⟨g, rfl, by rw [hy]; exact leL_refl _⟩⟩
theorem UpB.one_no {x g : List Int} (h : leL (ct P ls g) (ct P ls x) = true) : UpB P ls (some x) (fun y => y = g) (some x) :=
  ⟨.inl rfl, fun y hy => ⟨x, rfl, by cases hy; exact leL_refl _⟩, fun y hy => ⟨x, rfl, by rw [hy]; exact h⟩⟩
theorem pre_take : ∀ {g : List Int} {n i : Nat}, Pre ls (-1) n g → i ≤ n → Pre ls (-1) i (g.take i) := by
  intro g n i h hi
  have e : ∀ k, k < i → has (g.take i) k = has g k := fun k hk => by
    unfold has
    rw [List.getElem?_take, if_pos hk]
  exact ⟨by rw [List.length_take, h.len]; omega, fun k hk => by rw [e k hk]; exact h.low k (by omega), fun k hk h1 => by rw [e k hk] at *; exact h.wish k (by omega) h1, fun a b ha hb h1 h2 => h.inj a b (by omega) (by omega) (by rw [← e a ha]; exact h1) (by rw [← e a ha, ← e b hb]; exact h2)⟩
theorem Ext_end {k : Nat} {pre g : List Int} (hp : Pre ls (-1) ls.length pre) : Ext ls ls.length k pre g ↔ g = pre := by
  constructor
  · rintro ⟨h1, h2, _⟩
    rw [List.take_of_length_le (by rw [h1.len]; omega)] at h2
    exact h2
  · rintro rfl
    refine ⟨hp, List.take_of_length_le (by rw [hp.len]; omega), ?_⟩
    rw [List.drop_of_length_le (by rw [hp.len]; omega)]
    exact Nat.zero_le _
theorem Ext_step {i k : Nat} {pre g : List Int} (hi : i < ls.length) (hls : ∀ l ∈ ls, ∀ p ∈ l, 0 ≤ p) (hpl : pre.length = i) :
    Ext ls i k pre g ↔ (∃ p ∈ lst ls i, p ∉ pre ∧ Ext ls (i + 1) k (pre ++ [p]) g) ∨ (0 < k ∧ Ext ls (i + 1) (k - 1) (pre ++ [-1]) g) := by
  constructor
  · rintro ⟨h1, h2, h3⟩
    have hg : i < g.length := by rw [h1.len]; exact hi
    have ht : g.take (i + 1) = pre ++ [g[i]] := by rw [List.take_add_one, h2, List.getElem?_eq_getElem hg]; rfl
    have hd : g.drop i = g[i] :: g.drop (i + 1) := List.drop_eq_getElem_cons hg
    rw [hd, neg_cons] at h3
    have hp := pre_take h1 (show i + 1 ≤ ls.length by omega)
    rw [ht] at hp
    obtain ⟨_, hx⟩ := pre_split hp
    rcases hx with hx | ⟨x0, x1, x2⟩
    · rw [hx] at h3 ht
      rw [if_pos (by omega)] at h3
      exact .inr ⟨by omega, h1, ht, by omega⟩
    · rw [if_neg (by omega)] at h3
      exact .inl ⟨g[i], x1, x2, h1, ht, by omega⟩
  · have back : ∀ {x : Int} {k' : Nat}, Ext ls (i + 1) k' (pre ++ [x]) g → Pre ls (-1) ls.length g ∧ g.take i = pre ∧ neg (g.drop i) ≤ k' + if x < 0 then 1 else 0 := by
      rintro x k' ⟨h1, h2, h3⟩
      have hg : i < g.length := by rw [h1.len]; exact hi
      have ht : g.take (i + 1) = g.take i ++ [g[i]] := by rw [List.take_add_one, List.getElem?_eq_getElem hg]; rfl
      rw [ht] at h2
      have hi2 : (g.take i).length = pre.length := by rw [List.length_take, hpl]; omega
      obtain ⟨e1, e2⟩ := List.append_inj h2 hi2
      have e3 : g[i] = x := by simpa using e2
      refine ⟨h1, e1, ?_⟩
      rw [List.drop_eq_getElem_cons hg, neg_cons, e3]
      omega
    rintro (⟨p, hp, _, h⟩ | ⟨hk, h⟩)
    · obtain ⟨a, c, d⟩ := back h
      have hp0 : 0 ≤ p := by
        unfold lst at hp
        rw [Int.toNat_natCast, List.getElem?_eq_getElem hi] at hp
        exact hls _ (List.getElem_mem hi) p hp
      rw [if_neg (by omega)] at d
      exact ⟨a, c, d⟩
    · obtain ⟨a, c, d⟩ := back h
      rw [if_pos (by omega)] at d
      exact ⟨a, c, by omega⟩
/-- Those of them that give the owner one of the first places of his list. -/
def LS (ls : List (List Int)) (i k : Nat) (pre : List Int) (j : Nat) (g : List Int) : Prop := ∃ p ∈ (lst ls i).take j, p ∉ pre ∧ Ext ls (i + 1) k (pre ++ [p]) g
theorem LS_0 {i k : Nat} {pre : List Int} (g : List Int) : ¬ LS ls i k pre 0 g := by
  rintro ⟨p, hp, _⟩
  simp at hp
theorem LS_succ {i k j : Nat} {pre : List Int} {p : Int} (hj : (lst ls i)[j]? = some p) (g : List Int) : LS ls i k pre (j + 1) g ↔ LS ls i k pre j g ∨ (p ∉ pre ∧ Ext ls (i + 1) k (pre ++ [p]) g) := by
  unfold LS
  rw [List.take_add_one, hj, Option.toList_some]
  constructor
  · rintro ⟨q, hq, h⟩
    rcases List.mem_append.1 hq with hq | hq
    · exact .inl ⟨q, hq, h⟩
    · rw [List.mem_singleton.1 hq] at h
      exact .inr h
  · rintro (⟨q, hq, h⟩ | h)
    · exact ⟨q, List.mem_append.2 (.inl hq), h⟩
    · exact ⟨p, List.mem_append.2 (.inr (List.mem_singleton.2 rfl)), h⟩
theorem LS_all {i k : Nat} {pre : List Int} (hi : i < ls.length) (hls : ∀ l ∈ ls, ∀ p ∈ l, 0 ≤ p) (hpl : pre.length = i) {j : Nat} (hj : (lst ls i).length ≤ j) (g : List Int) :
    Ext ls i k pre g ↔ LS ls i k pre j g ∨ (0 < k ∧ Ext ls (i + 1) (k - 1) (pre ++ [-1]) g) := by
  rw [Ext_step hi hls hpl]
  unfold LS
  rw [List.take_of_length_le hj]
theorem up_best (hv : Val P ls) {b : Option (List Int)} (h : UpB P ls none (Ext ls 0 (ls.length - most P ls) []) b) : ∃ g, b = some g ∧ Good P ls g ∧ srv g = most P ls ∧ IsBest P ls (ct P ls g) := by
  have hP := hv.hP
  have hls : ∀ l ∈ ls, ∀ p ∈ l, inP P p := fun l hl => (hv.l l hl).1
  have good : ∀ g, Pre ls (-1) ls.length g ↔ Good P ls g := fun g => by
    have := pre_good (wo := -1) (g := g) hls (by omega : (0 : Int) ≤ P)
    rwa [drp_none] at this
  obtain ⟨⟨g0, hg0, hs0⟩, hmx⟩ := most_spec (by omega : (0 : Int) ≤ P) hls
  have ext : ∀ g, Good P ls g → srv g = most P ls → Ext ls 0 (ls.length - most P ls) [] g := by
    intro g hg hs
    refine ⟨(good g).2 hg, List.take_zero, ?_⟩
    have := neg_srv g
    rw [hg.len] at this
    rw [List.drop_zero]
    omega
  obtain ⟨h1, _, h3⟩ := h
  obtain ⟨y, hy, _⟩ := h3 g0 (ext g0 hg0 hs0)
  rcases h1 with h1 | ⟨g, hg, h1⟩
  · rw [h1] at hy; cases hy
  · have hG := (good g).1 hg.1
    have hs : srv g = most P ls := by
      have h4 := hmx g hG
      have h5 := neg_srv g
      have h6 := hg.2.2
      have h7 := hmx g0 hg0
      have h8 := neg_srv g0
      rw [hG.len] at h5
      rw [hg0.len] at h8
      rw [List.drop_zero] at h6
      omega
    refine ⟨g, h1, hG, hs, ⟨⟨g, hG, hs, rfl⟩, fun g' hg' hs' => ?_⟩⟩
    obtain ⟨y', hy', hle⟩ := h3 g' (ext g' hg' hs')
    rw [h1] at hy'
    cases hy'
    exact hle
end
end Go.Proofs.Ytlmbobbefgcolaa

namespace Go.Proofs.Ytlmbobbefgcolaa
open Go Go.Eng
theorem e0_len (x : AV × List Int) : (e0 x).length = 1 := rfl
end Go.Proofs.Ytlmbobbefgcolaa

namespace Go.Proofs.Ytlmbobbefgcolaa
open Go Go.Eng
def without (l : List Int) (p : Int) : List Int := l.filter (fun x => !decide (x = p))
end Go.Proofs.Ytlmbobbefgcolaa

