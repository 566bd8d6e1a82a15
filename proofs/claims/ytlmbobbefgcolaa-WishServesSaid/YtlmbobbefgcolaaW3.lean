/- Wishes: givings as the document says it, sets of owners and what they wish. No conditions. -/
import Derived.Test.YtlmbobbefgcolaaW2
namespace Go.Proofs.Ytlmbobbefgcolaa
open Go Go.Eng

theorem s27 {P : Int} {ws : List (AV × List Int)} {v : AV} {g : List Int} {u : AV} {A : AHeap} (hw : LL A v ws) (hs : Sz ws) (hg : L1 A u g) (hgl : g.length ≤ 1000000) : ACalls Try.prog 27 [.agg [I P, v], u] A (.tuple [I (gN P (lists ws) g), I (gE P (lists ws) g)]) A := by
  refine acalls hmix Try.func27 (by kernel_rfl) t27 2 rfl (by decide) ?_
  dsimp only [m27]
  simp (maxSteps := 4000000) -implicitDefEqProofs -dsimp (disch := omega) only [↓AW_ops, ↓AW_seq, ↓AOps_nil, ↓AOps_pu, ↓AOps_call, on_some, ↓then_normal, pval, rd_S, rd_C, put_S, chkd, bgot, AV.cells?, partA, eq_self, List.replicate_succ, List.replicate_zero, List.set_cons_zero, List.set_cons_succ, List.getElem?_cons_zero, List.getElem?_cons_succ, List.drop_zero, List.take_succ_cons, List.take_nil, Option.getD_some, map_c, map_n, List.length_cons, List.length_nil, Nat.reduceAdd, Nat.reduceSub, Nat.reduceLeDiff, Nat.reduceEqDiff, Nat.zero_add, List.cons_append, List.nil_append, if_true, if_false]
  refine CallK.of (s40 hw hs) ?_
  by_cases h0 : vW P (lists ws) = 0
  · by_cases hlen : g.length = ws.length
    · have hlen' : (g.length : Int) = ws.length := by omega
      have hP : 1 ≤ P ∧ P ≤ 7 := by
        rcases Decidable.em (1 ≤ P ∧ P ≤ 7) with h | h
        · exact h
        · rw [vW_P h] at h0; cases h0
      simp (maxSteps := 4000000) -implicitDefEqProofs -dsimp (disch := omega) only [↓AW_skip, ↓AW_ops, ↓AW_seq, ↓AW_cond, ↓AW_block, ↓AOps_nil, ↓AOps_pu, on_some, extK_same, condB_f, ↓then_normal, pval, rd_S, rd_C, put_S, ↓AW_toLoop, chkd, isAdr, bgot, AV.cells?, partA, eq_self, List.replicate_succ, List.replicate_zero, List.set_cons_zero, List.set_cons_succ, List.getElem?_cons_zero, List.getElem?_cons_succ, List.drop_zero, List.drop_succ_cons, List.take_succ_cons, List.take_nil, Option.getD_some, List.length_cons, List.length_nil, Nat.reduceAdd, Nat.reduceSub, Nat.reduceLeDiff, Nat.zero_add, List.cons_append, List.nil_append, bin_neq, if_true, if_false, Bool.false_eq_true, decide_false, not_true_eq_false, h0, hg.len, hw.ls.len, hlen']
      refine LoopK.by 83 (fun i : Nat => i ≤ g.length ∧ ∀ p ∈ g.take i, gR P p) (fun i => [(1, u), (2, .agg [I P, v]), (7, I i)]) (fun _ => A) (fun i => g.length - i) 0 ⟨by omega, by simp⟩ rfl (by simp [Has, rd_s]) rfl ?_
      rintro i ⟨hi, hr⟩
      by_cases hlt : i < g.length
      · obtain ⟨z, hz⟩ : ∃ z, g[i]? = some z := ⟨_, List.getElem?_eq_getElem hlt⟩
        have hlt' : (i : Int) < g.length := by omega
        simp (maxSteps := 4000000) -implicitDefEqProofs -dsimp (disch := omega) only [↓AW_skip, ↓AW_ops, ↓AW_seq, ↓AW_cond, ↓AW_block, ↓AOps_nil, ↓AOps_pu, ↓AOps_ld, ↓AOps_call, on_some, condB_t, ↓then_normal, pval, lval, rd_S, rd_C, put_S, chkd, isAdr, bgot, AV.cells?, partA, eq_self, mk, List.foldl_cons, List.foldl_nil, List.replicate_succ, List.replicate_zero, List.set_cons_zero, List.set_cons_succ, List.getElem?_cons_zero, List.getElem?_cons_succ, List.drop_zero, List.take_zero, List.take_succ_cons, List.take_nil, Option.getD_some, map_c, map_n, List.length_cons, List.length_nil, Nat.reduceAdd, Nat.reduceLeDiff, Nat.zero_add, bin_sub, bin_lss, w64, if_true, if_false, Bool.false_eq_true, decide_true, Go.Eng.e1, Int.reduceNeg, hlt', hg.len, hg.idx hlt, hg.ld0 hz 1 false (by decide)]
        refine CallK.of (s64 _ _ _ _) ?_
        by_cases hc : -1 ≤ z ∧ z ≤ P - 1
        · simp (maxSteps := 4000000) -implicitDefEqProofs -dsimp (disch := omega) only [↓AW_skip, ↓AW_ops, ↓AW_cond, ↓AOps_nil, ↓AOps_pu, on_some, extK_same, condB_f, ↓then_normal, ↓inBlock_normal, pval, rd_S, rd_C, put_S, eq_self, mk, List.foldl_cons, List.foldl_nil, List.replicate_succ, List.replicate_zero, List.set_cons_zero, List.set_cons_succ, List.getElem?_cons_zero, List.getElem?_cons_succ, Option.getD_some, List.length_cons, List.length_nil, Nat.reduceAdd, Nat.zero_add, bin_add, w64, Bool.not_true, decide_true, true_and, and_true, Int.reduceNeg, hc]
          exact ⟨i + 1, ⟨hlt, all_take hr hz ⟨by omega, by omega⟩⟩, by simp [Has, rd_s], by omega⟩
        · simp (maxSteps := 4000000) -implicitDefEqProofs -dsimp (disch := omega) only [↓AW_ops, ↓AW_seq, ↓AW_cond, ↓AW_ret, ↓AOps_nil, ↓AOps_pu, on_some, extK_same, condB_t, ↓then_normal, ↓then_ret, ↓inBlock_ret, ↓Fin_ret, pval, rd_S, rd_C, put_S, resV, resL, mk, List.foldl_cons, List.foldl_nil, List.replicate_succ, List.replicate_zero, List.set_cons_zero, List.set_cons_succ, List.getElem?_cons_zero, List.getElem?_cons_succ, Option.getD_some, Bool.not_false, decide_false, Int.reduceNeg, hc]
          have hE := gE_1 (g := g) h0 (fun h => hc (by have := h.2 z (List.mem_of_getElem? hz); exact ⟨this.1, by have := this.2; omega⟩))
          exact gc_same (by simp [gN, hE])
      · have hlt' : ¬ ((i : Int) < g.length) := by omega
        rw [List.take_of_length_le (by omega)] at hr
        have h1 : g.length = (lists ws).length ∧ ∀ p ∈ g, gR P p := ⟨by simp [hlen], hr⟩
        simp (maxSteps := 4000000) -implicitDefEqProofs -dsimp (disch := omega) only [↓AW_ops, ↓AW_seq, ↓AW_cond, ↓AW_block, ↓AW_exit, ↓AOps_nil, ↓AOps_pu, on_some, condB_f, ↓then_normal, ↓then_exit, ↓inBlock_exit, pval, rd_S, rd_C, put_S, ↓AW_toLoop, eq_self, mk, List.foldl_cons, List.foldl_nil, List.replicate_succ, List.replicate_zero, List.set_cons_zero, List.set_cons_succ, List.getElem?_cons_zero, List.getElem?_cons_succ, Option.getD_some, bin_lss, if_true, decide_false, hlt', hg.len]
        refine LoopK.by 83 (fun i : Nat => i ≤ g.length ∧ ∀ x ∈ (g.zip (lists ws)).take i, okP x) (fun i => [(1, u), (2, .agg [I P, v]), (8, I i)]) (fun _ => A) (fun i => g.length - i) 0 ⟨by omega, by simp⟩ rfl (by simp [Has, rd_s]) rfl ?_
        rintro i ⟨hi, he⟩
        by_cases hlt : i < g.length
        · obtain ⟨z, hz⟩ : ∃ z, g[i]? = some z := ⟨_, List.getElem?_eq_getElem hlt⟩
          have hlt' : (i : Int) < g.length := by omega
          have hltw : i < ws.length := by omega
          obtain ⟨x, hx⟩ : ∃ x, ws[i]? = some x := ⟨_, List.getElem?_eq_getElem hltw⟩
          have hm := List.mem_of_getElem? hx
          have hzx := zip_get hz (ws_get hx)
          by_cases hz0 : 0 ≤ z
          · simp (maxSteps := 4000000) -implicitDefEqProofs -dsimp (disch := omega) only [↓AW_skip, ↓AW_ops, ↓AW_seq, ↓AW_cond, ↓AW_block, ↓AOps_nil, ↓AOps_pu, ↓AOps_ld, ↓AOps_call, ↓AOps_guard, on_some, guardB_tt, condB_t, ↓then_normal, pval, lval, rd_S, rd_C, put_S, chkd, isAdr, bgot, AV.cells?, partA, eq_self, mk, List.foldl_cons, List.foldl_nil, List.replicate_succ, List.replicate_zero, List.set_cons_zero, List.set_cons_succ, List.getElem?_cons_zero, List.getElem?_cons_succ, List.drop_zero, List.drop_succ_cons, List.take_succ_cons, List.take_nil, Option.getD_some, map_c, map_n, List.length_cons, List.length_nil, Nat.reduceAdd, Nat.reduceLeDiff, Nat.zero_add, bin_lss, bin_geq, if_true, if_false, Bool.false_eq_true, decide_true, Go.Eng.e1, hlt', hg.len, hg.idx hlt, hg.ld0 hz 1 false (by decide), hz0, hw.ls.idx hltw, hw.ls.ld0 hx 1 false (by decide), e0]
            refine CallK.of (s65 (hw.inn x hm) (by have := hs.2 x hm; omega) z) ?_
            by_cases hc : z ∈ x.2
            · simp (maxSteps := 4000000) -implicitDefEqProofs -dsimp (disch := omega) only [↓AW_skip, ↓AW_ops, ↓AW_cond, ↓AOps_nil, ↓AOps_pu, ↓AOps_guard, on_some, extK_same, guardB_tt, condB_f, ↓then_normal, ↓inBlock_normal, pval, rd_S, rd_C, put_S, eq_self, mk, List.foldl_cons, List.foldl_nil, List.replicate_succ, List.replicate_zero, List.set_cons_zero, List.set_cons_succ, List.getElem?_cons_zero, List.getElem?_cons_succ, Option.getD_some, List.length_cons, List.length_nil, Nat.reduceAdd, Nat.zero_add, bin_add, w64, if_true, Bool.not_true, decide_true, true_and, hc]
              exact ⟨i + 1, ⟨hlt, all_take he hzx (fun _ => hc)⟩, by simp [Has, rd_s], by omega⟩
            · simp (maxSteps := 4000000) -implicitDefEqProofs -dsimp (disch := omega) only [↓AW_ops, ↓AW_seq, ↓AW_cond, ↓AW_ret, ↓AOps_nil, ↓AOps_pu, ↓AOps_guard, on_some, extK_same, guardB_tt, condB_t, ↓then_normal, ↓then_ret, ↓inBlock_ret, ↓Fin_ret, pval, rd_S, rd_C, put_S, resV, resL, eq_self, mk, List.foldl_cons, List.foldl_nil, List.replicate_succ, List.replicate_zero, List.set_cons_zero, List.set_cons_succ, List.getElem?_cons_zero, List.getElem?_cons_succ, Option.getD_some, if_true, Bool.not_false, decide_false, hc]
              have hE := gE_8 h0 h1 (fun h => hc (h _ (List.mem_of_getElem? hzx) hz0))
              exact gc_same (by simp [gN, hE])
          · simp (maxSteps := 4000000) -implicitDefEqProofs -dsimp (disch := omega) only [↓AW_skip, ↓AW_ops, ↓AW_seq, ↓AW_cond, ↓AW_block, ↓AOps_nil, ↓AOps_pu, ↓AOps_ld, ↓AOps_guard, on_some, guardB_ft, skipS_some, condB_t, condB_f, ↓then_normal, ↓inBlock_normal, pval, lval, rd_S, rd_C, put_S, partA, eq_self, mk, List.foldl_cons, List.foldl_nil, List.replicate_succ, List.replicate_zero, List.set_cons_zero, List.set_cons_succ, List.getElem?_cons_zero, List.getElem?_cons_succ, List.drop_zero, List.take_succ_cons, List.take_nil, Option.getD_some, List.length_cons, List.length_nil, Nat.reduceAdd, Nat.reduceLeDiff, Nat.zero_add, bin_add, bin_lss, bin_geq, w64, if_true, if_false, Bool.false_eq_true, decide_true, decide_false, Go.Eng.e1, true_and, hlt', hg.len, hg.idx hlt, hg.ld0 hz 1 false (by decide), hz0]
            exact ⟨i + 1, ⟨hlt, all_take he hzx (fun h => absurd h hz0)⟩, by simp [Has, rd_s], by omega⟩
        · have hlt' : ¬ ((i : Int) < g.length) := by omega
          rw [List.take_of_length_le (by rw [List.length_zip]; omega)] at he
          simp (maxSteps := 4000000) -implicitDefEqProofs -dsimp (disch := omega) only [↓AW_ops, ↓AW_seq, ↓AW_cond, ↓AW_block, ↓AW_exit, ↓AOps_nil, ↓AOps_pu, on_some, condB_f, ↓then_normal, ↓then_exit, ↓inBlock_exit, pval, rd_S, rd_C, put_S, ↓AW_toLoop, eq_self, mk, List.foldl_cons, List.foldl_nil, List.replicate_succ, List.replicate_zero, List.set_cons_zero, List.set_cons_succ, List.getElem?_cons_zero, List.getElem?_cons_succ, Option.getD_some, bin_lss, if_true, decide_false, hlt', hg.len]
          refine LoopK.by 83 (fun i : Nat => i ≤ g.length ∧ (given (g.take i)).Nodup) (fun i => [(1, u), (9, I i)]) (fun _ => A) (fun i => g.length - i) 0 ⟨by omega, by simp [given]⟩ rfl (by simp [Has, rd_s]) rfl ?_
          rintro i ⟨hi, hnd⟩
          by_cases hlt : i < g.length
          · obtain ⟨z, hz⟩ : ∃ z, g[i]? = some z := ⟨_, List.getElem?_eq_getElem hlt⟩
            have hlt' : (i : Int) < g.length := by omega
            by_cases hz0 : 0 ≤ z
            · obtain ⟨v', hv', hL⟩ := Ls_takeS hg i (by omega)
              simp (maxSteps := 4000000) -implicitDefEqProofs -dsimp (disch := omega) only [↓AW_skip, ↓AW_ops, ↓AW_seq, ↓AW_cond, ↓AW_block, ↓AOps_nil, ↓AOps_pu, ↓AOps_ld, ↓AOps_call, ↓AOps_guard, on_some, guardB_tt, condB_t, ↓then_normal, pval, lval, rd_S, rd_C, put_S, partA, eq_self, mk, List.foldl_cons, List.foldl_nil, List.replicate_succ, List.replicate_zero, List.set_cons_zero, List.set_cons_succ, List.getElem?_cons_zero, List.getElem?_cons_succ, List.drop_zero, List.take_succ_cons, List.take_nil, Option.getD_some, Option.map_some, Option.map_none, map_c, map_n, List.length_cons, List.length_nil, Nat.reduceLeDiff, Nat.zero_add, bin_lss, bin_geq, if_true, if_false, Bool.false_eq_true, decide_true, Go.Eng.e1, hlt', hg.len, hg.idx hlt, hg.ld0 hz 1 false (by decide), hz0, hv']
              refine CallK.of (s65 hL (by rw [List.length_take]; omega) z) ?_
              by_cases hc : z ∈ g.take i
              · simp (maxSteps := 4000000) -implicitDefEqProofs -dsimp (disch := omega) only [↓AW_ops, ↓AW_seq, ↓AW_cond, ↓AW_ret, ↓AOps_nil, ↓AOps_pu, on_some, extK_same, condB_t, ↓then_normal, ↓then_ret, ↓inBlock_ret, ↓Fin_ret, pval, rd_S, rd_C, put_S, resV, resL, eq_self, mk, List.foldl_cons, List.foldl_nil, List.replicate_succ, List.replicate_zero, List.set_cons_zero, List.set_cons_succ, List.getElem?_cons_zero, List.getElem?_cons_succ, Option.getD_some, if_true, decide_true, hc]
                have hE := gE_6 h0 h1 he (given_bad hz hz0 hc)
                exact gc_same (by simp [gN, hE])
              · simp (maxSteps := 4000000) -implicitDefEqProofs -dsimp (disch := omega) only [↓AW_skip, ↓AW_ops, ↓AW_cond, ↓AOps_nil, ↓AOps_pu, on_some, extK_same, condB_f, ↓then_normal, ↓inBlock_normal, pval, rd_S, rd_C, put_S, eq_self, mk, List.foldl_cons, List.foldl_nil, List.replicate_succ, List.replicate_zero, List.set_cons_zero, List.set_cons_succ, List.getElem?_cons_zero, List.getElem?_cons_succ, Option.getD_some, List.length_cons, List.length_nil, Nat.reduceAdd, Nat.zero_add, bin_add, w64, if_true, decide_false, true_and, hc]
                refine ⟨i + 1, ⟨hlt, ?_⟩, by simp [Has, rd_s], by omega⟩
                rw [given_take hz, if_pos hz0, List.nodup_append]
                refine ⟨hnd, by simp, fun a ha b hb => ?_⟩
                have hbz : b = z := by simpa using hb
                rw [hbz]
                rintro rfl
                exact hc ((given_mem hz0).1 ha)
            · simp (maxSteps := 4000000) -implicitDefEqProofs -dsimp (disch := omega) only [↓AW_skip, ↓AW_ops, ↓AW_seq, ↓AW_cond, ↓AW_block, ↓AOps_nil, ↓AOps_pu, ↓AOps_ld, ↓AOps_guard, on_some, guardB_ft, skipS_some, condB_t, condB_f, ↓then_normal, ↓inBlock_normal, pval, lval, rd_S, rd_C, put_S, partA, eq_self, mk, List.foldl_cons, List.foldl_nil, List.replicate_succ, List.replicate_zero, List.set_cons_zero, List.set_cons_succ, List.getElem?_cons_zero, List.getElem?_cons_succ, List.drop_zero, List.take_succ_cons, List.take_nil, Option.getD_some, List.length_cons, List.length_nil, Nat.reduceAdd, Nat.reduceLeDiff, Nat.zero_add, bin_add, bin_lss, bin_geq, w64, if_true, if_false, Bool.false_eq_true, decide_true, decide_false, Go.Eng.e1, true_and, hlt', hg.len, hg.idx hlt, hg.ld0 hz 1 false (by decide), hz0]
              exact ⟨i + 1, ⟨hlt, by rw [given_take hz, if_neg hz0, List.append_nil]; exact hnd⟩, by simp [Has, rd_s], by omega⟩
          · have hlt' : ¬ ((i : Int) < g.length) := by omega
            rw [List.take_of_length_le (by omega)] at hnd
            simp (maxSteps := 4000000) -implicitDefEqProofs -dsimp (disch := omega) only [↓AW_ops, ↓AW_seq, ↓AW_cond, ↓AW_exit, ↓AOps_nil, ↓AOps_pu, ↓AOps_call, on_some, condB_f, ↓then_normal, ↓then_exit, ↓inBlock_exit, pval, rd_S, put_S, eq_self, mk, List.foldl_cons, List.foldl_nil, List.replicate_succ, List.replicate_zero, List.set_cons_zero, List.set_cons_succ, List.getElem?_cons_zero, List.getElem?_cons_succ, Option.getD_some, map_c, map_n, bin_lss, if_true, decide_false, hlt', hg.len]
            refine CallK.of (s66 hg hgl) ?_
            simp (maxSteps := 4000000) -implicitDefEqProofs -dsimp (disch := omega) only [↓AW_ret, ↓AOps_nil, ↓AOps_pu, on_some, extK_same, ↓then_normal, ↓Fin_ret, pval, rd_S, rd_C, put_S, resV, resL, mk, List.foldl_cons, List.foldl_nil, List.replicate_succ, List.replicate_zero, List.set_cons_zero, List.set_cons_succ, List.getElem?_cons_zero, List.getElem?_cons_succ, Option.getD_some]
            have hE := gE_0 h0 h1 he hnd
            exact gc_same (by simp [gN, hE])
    · have hlen' : ¬ (g.length : Int) = ws.length := by omega
      simp (maxSteps := 4000000) -implicitDefEqProofs -dsimp (disch := omega) only [↓AW_skip, ↓AW_ops, ↓AW_seq, ↓AW_cond, ↓AW_ret, ↓AOps_nil, ↓AOps_pu, on_some, extK_same, condB_t, condB_f, ↓then_normal, ↓then_ret, ↓Fin_ret, pval, rd_S, rd_C, put_S, resV, resL, chkd, isAdr, bgot, AV.cells?, partA, eq_self, List.replicate_succ, List.replicate_zero, List.set_cons_zero, List.set_cons_succ, List.getElem?_cons_zero, List.getElem?_cons_succ, List.drop_zero, List.drop_succ_cons, List.take_succ_cons, List.take_nil, Option.getD_some, List.length_cons, List.length_nil, Nat.reduceAdd, Nat.reduceSub, Nat.reduceLeDiff, Nat.zero_add, List.cons_append, List.nil_append, bin_neq, if_true, if_false, Bool.false_eq_true, decide_true, decide_false, not_true_eq_false, not_false_eq_true, h0, hg.len, hw.ls.len, hlen']
      have hE := gE_1 (g := g) h0 (fun h => hlen (by simpa using h.1))
      exact gc_same (by simp [gN, hE])
  · simp (maxSteps := 4000000) -implicitDefEqProofs -dsimp (disch := omega) only [↓AW_ops, ↓AW_seq, ↓AW_cond, ↓AW_ret, ↓AOps_nil, ↓AOps_pu, on_some, extK_same, condB_t, ↓then_normal, ↓then_ret, ↓Fin_ret, pval, rd_S, rd_C, put_S, resV, resL, List.replicate_succ, List.replicate_zero, List.set_cons_zero, List.set_cons_succ, List.getElem?_cons_zero, List.getElem?_cons_succ, Option.getD_some, Nat.reduceSub, List.cons_append, List.nil_append, bin_neq, decide_true, not_false_eq_true, h0]
    have hE := gE_v (g := g) h0
    exact gc_same (by simp [gN, hE, h0])

/-- A set of numbers from 0 to n - 1. -/
def isS (n : Int) (l : List Int) : Prop := (∀ p ∈ l, inP n p) ∧ Up l
instance (n : Int) (l : List Int) : Decidable (isS n l) := by unfold isS; exact inferInstance

theorem s78 {xs : List Int} {v : AV} {A : AHeap} (hx : L1 A v xs) (hl : xs.length ≤ 1000000) (n : Int) : ACalls Try.prog 78 [v, I n] A (B (decide (isS n xs))) A := by
  refine acalls hmix Try.func78 (by kernel_rfl) t78 2 rfl (by decide) ?_
  dsimp only [m78]
  simp (maxSteps := 4000000) -implicitDefEqProofs -dsimp (disch := omega) only [↓AW_ops, ↓AW_seq, ↓AW_block, ↓AOps_nil, ↓AOps_pu, on_some, ↓then_normal, pval, rd_C, put_S, ↓AW_toLoop, List.replicate_succ, List.replicate_zero, List.set_cons_zero, List.set_cons_succ, Nat.reduceSub, List.cons_append, List.nil_append]
  refine LoopK.by 25 (fun i : Nat => 1 ≤ i ∧ (i ≤ xs.length ∨ i = 1) ∧ Up (xs.take i)) (fun i => [(0, v), (1, I n), (5, I i)]) (fun _ => A) (fun i => xs.length - i) 1 ⟨by omega, .inr rfl, up_one⟩ rfl (by simp [Has, rd_s]) rfl ?_
  rintro i ⟨h1, hi, hu⟩
  by_cases hlt : i < xs.length
  · obtain ⟨b, hz⟩ : ∃ z, xs[i]? = some z := ⟨_, List.getElem?_eq_getElem hlt⟩
    have hlt' : (i : Int) < xs.length := by omega
    obtain ⟨k, rfl⟩ : ∃ k, i = k + 1 := ⟨i - 1, by omega⟩
    have hltk : k < xs.length := by omega
    obtain ⟨a, hza⟩ : ∃ a, xs[k]? = some a := ⟨_, List.getElem?_eq_getElem hltk⟩
    have hidx := hx.idxI (k := .i64) (i := ((k + 1 : Nat) : Int) - 1) (by omega) (by omega)
    have ek : (((k + 1 : Nat) : Int) - 1).toNat = k := by omega
    rw [ek] at hidx
    by_cases hab : b ≤ a
    · simp (maxSteps := 4000000) -implicitDefEqProofs -dsimp (disch := omega) only [↓AW_skip, ↓AW_ops, ↓AW_seq, ↓AW_cond, ↓AW_block, ↓AW_ret, ↓AOps_nil, ↓AOps_pu, ↓AOps_ld, on_some, condB_t, ↓then_normal, ↓then_ret, ↓inBlock_ret, ↓Fin_ret, pval, lval, rd_S, rd_C, put_S, resV, resL, partA, eq_self, mk, List.foldl_cons, List.foldl_nil, List.replicate_succ, List.replicate_zero, List.set_cons_zero, List.set_cons_succ, List.getElem?_cons_zero, List.getElem?_cons_succ, List.drop_zero, List.take_succ_cons, List.take_nil, Option.getD_some, List.length_cons, List.length_nil, Nat.reduceLeDiff, Nat.zero_add, bin_sub, bin_lss, bin_geq, w64, if_true, if_false, Bool.false_eq_true, decide_true, Go.Eng.e1, hlt', hx.len, hx.idx hlt, hx.ld0 hz 1 false (by decide), hidx, hx.ld0 hza 1 false (by decide), hab]
      exact gc_same (by rw [decide_eq_false (fun h : isS n xs => up_bad hza hz hab h.2)])
    · simp (maxSteps := 4000000) -implicitDefEqProofs -dsimp (disch := omega) only [↓AW_skip, ↓AW_ops, ↓AW_seq, ↓AW_cond, ↓AW_block, ↓AOps_nil, ↓AOps_pu, ↓AOps_ld, on_some, condB_t, condB_f, ↓then_normal, ↓inBlock_normal, pval, lval, rd_S, rd_C, put_S, partA, eq_self, mk, List.foldl_cons, List.foldl_nil, List.replicate_succ, List.replicate_zero, List.set_cons_zero, List.set_cons_succ, List.getElem?_cons_zero, List.getElem?_cons_succ, List.drop_zero, List.take_succ_cons, List.take_nil, Option.getD_some, List.length_cons, List.length_nil, Nat.reduceAdd, Nat.reduceLeDiff, Nat.zero_add, bin_add, bin_sub, bin_lss, bin_geq, w64, if_true, if_false, Bool.false_eq_true, decide_true, decide_false, Go.Eng.e1, true_and, hlt', hx.len, hx.idx hlt, hx.ld0 hz 1 false (by decide), hidx, hx.ld0 hza 1 false (by decide), hab]
      exact ⟨k + 1 + 1, ⟨by omega, .inl (by omega), up_step hza hz hu (by omega)⟩, by simp [Has, rd_s], by omega⟩
  · have hlt' : ¬ ((i : Int) < xs.length) := by omega
    simp (maxSteps := 4000000) -implicitDefEqProofs -dsimp (disch := omega) only [↓AW_ops, ↓AW_seq, ↓AW_cond, ↓AW_exit, ↓AOps_nil, ↓AOps_pu, ↓AOps_call, on_some, condB_f, ↓then_normal, ↓then_exit, ↓inBlock_exit, pval, rd_S, put_S, eq_self, mk, List.foldl_cons, List.foldl_nil, List.replicate_succ, List.replicate_zero, List.set_cons_zero, List.set_cons_succ, List.getElem?_cons_zero, List.getElem?_cons_succ, Option.getD_some, map_c, map_n, bin_lss, if_true, decide_false, hlt', hx.len]
    have hu2 : Up xs := by
      rwa [List.take_of_length_le (by omega)] at hu
    refine CallK.of (s73 hx hl n) ?_
    simp (maxSteps := 4000000) -implicitDefEqProofs -dsimp (disch := omega) only [↓AW_ret, ↓AOps_nil, ↓AOps_pu, on_some, extK_same, ↓then_normal, ↓Fin_ret, pval, rd_S, put_S, resV, resL, mk, List.foldl_cons, List.foldl_nil, List.replicate_succ, List.replicate_zero, List.set_cons_zero, List.set_cons_succ, List.getElem?_cons_zero, List.getElem?_cons_succ, Option.getD_some]
    refine gc_same ?_
    congr 1
    rw [decide_eq_decide]
    exact ⟨fun h => ⟨h, hu2⟩, fun h => h.1⟩

theorem s76 {xs : List Int} {v : AV} {A : AHeap} (hx : L1 A v xs) (hl : xs.length ≤ 1000000) (n : Int) (hn : -1000000 ≤ n ∧ n ≤ 1000000) : ACalls Try.prog 76 [v, I n] A (B (decide (isS n xs))) A := by
  refine acalls hmix Try.func76 (by kernel_rfl) t76 2 rfl (by decide) ?_
  dsimp only [m76]
  simp (maxSteps := 4000000) -implicitDefEqProofs -dsimp (disch := omega) only [↓AW_ops, ↓AW_seq, ↓AW_block, ↓AOps_nil, ↓AOps_pu, on_some, ↓then_normal, pval, rd_C, put_S, ↓AW_toLoop, List.replicate_succ, List.replicate_zero, List.set_cons_zero, List.set_cons_succ, Nat.reduceSub, List.cons_append, List.nil_append]
  refine LoopK.by 36 (fun i : Nat => i ≤ xs.length ∧ Up (xs.take i) ∧ ∀ p ∈ xs.take i, inP n p) (fun i => [(0, v), (1, I n), (5, I i)]) (fun _ => A) (fun i => xs.length - i) 0 ⟨by omega, by simp [Up], by simp⟩ rfl (by simp [Has, rd_s]) rfl ?_
  rintro i ⟨hi, hu, hp⟩
  by_cases hlt : i < xs.length
  · obtain ⟨b, hz⟩ : ∃ z, xs[i]? = some z := ⟨_, List.getElem?_eq_getElem hlt⟩
    have hlt' : (i : Int) < xs.length := by omega
    simp (maxSteps := 4000000) -implicitDefEqProofs -dsimp (disch := omega) only [↓AW_skip, ↓AW_ops, ↓AW_seq, ↓AW_cond, ↓AW_block, ↓AOps_nil, ↓AOps_pu, ↓AOps_ld, ↓AOps_call, on_some, condB_t, ↓then_normal, pval, lval, rd_S, rd_C, put_S, partA, eq_self, mk, List.foldl_cons, List.foldl_nil, List.replicate_succ, List.replicate_zero, List.set_cons_zero, List.set_cons_succ, List.getElem?_cons_zero, List.getElem?_cons_succ, List.drop_zero, List.take_succ_cons, List.take_nil, Option.getD_some, map_c, map_n, List.length_cons, List.length_nil, Nat.reduceLeDiff, Nat.zero_add, bin_sub, bin_lss, w64, if_true, if_false, Bool.false_eq_true, decide_true, Go.Eng.e1, hlt', hx.len, hx.idx hlt, hx.ld0 hz 1 false (by decide)]
    refine CallK.of (s64 _ _ _ _) ?_
    by_cases hc : 0 ≤ b ∧ b ≤ n - 1
    · have hp2 : ∀ p ∈ xs.take (i + 1), inP n p := all_take hp hz ⟨by omega, by omega⟩
      by_cases hi0 : i = 0
      · subst hi0
        have h0 : ¬ (0 : Int) < ((0 : Nat) : Int) := by omega
        simp (maxSteps := 4000000) -implicitDefEqProofs -dsimp (disch := omega) only [↓AW_skip, ↓AW_ops, ↓AW_cond, ↓AOps_nil, ↓AOps_pu, ↓AOps_guard, on_some, extK_same, guardB_ft, guardB_ff, skipS_some, condB_f, ↓then_normal, ↓inBlock_normal, pval, rd_S, rd_C, put_S, eq_self, mk, List.foldl_cons, List.foldl_nil, List.replicate_succ, List.replicate_zero, List.set_cons_zero, List.set_cons_succ, List.getElem?_cons_zero, List.getElem?_cons_succ, Option.getD_some, List.length_cons, List.length_nil, Nat.reduceAdd, Nat.reduceMul, Nat.zero_add, Nat.add_zero, bin_add, bin_gtr, w64, if_false, Bool.false_eq_true, Bool.not_true, decide_true, decide_false, true_and, and_true, hc, h0]
        exact ⟨1, ⟨by omega, up_one, hp2⟩, by simp [Has, rd_s], by omega⟩
      · have h0 : (0 : Int) < (i : Int) := by omega
        obtain ⟨k, rfl⟩ : ∃ k, i = k + 1 := ⟨i - 1, by omega⟩
        have hltk : k < xs.length := by omega
        obtain ⟨a, hza⟩ : ∃ a, xs[k]? = some a := ⟨_, List.getElem?_eq_getElem hltk⟩
        have hidx := hx.idxI (k := .i64) (i := ((k + 1 : Nat) : Int) - 1) (by omega) (by omega)
        have ek : (((k + 1 : Nat) : Int) - 1).toNat = k := by omega
        rw [ek] at hidx
        by_cases hab : b ≤ a
        · simp (maxSteps := 4000000) -implicitDefEqProofs -dsimp (disch := omega) only [↓AW_ops, ↓AW_seq, ↓AW_cond, ↓AW_ret, ↓AOps_nil, ↓AOps_pu, ↓AOps_ld, ↓AOps_guard, on_some, extK_same, guardB_tt, guardB_ff, condB_t, ↓then_normal, ↓then_ret, ↓inBlock_ret, ↓Fin_ret, pval, lval, rd_S, rd_C, put_S, resV, resL, partA, eq_self, mk, List.foldl_cons, List.foldl_nil, List.replicate_succ, List.replicate_zero, List.set_cons_zero, List.set_cons_succ, List.getElem?_cons_zero, List.getElem?_cons_succ, List.drop_zero, List.take_succ_cons, List.take_nil, Option.getD_some, List.length_cons, List.length_nil, Nat.reduceLeDiff, Nat.zero_add, bin_sub, bin_leq, bin_gtr, w64, if_true, if_false, Bool.false_eq_true, Bool.not_true, decide_true, Go.Eng.e1, and_true, hc, h0, hx.idx hlt, hx.ld0 hz 1 false (by decide), hidx, hx.ld0 hza 1 false (by decide), hab]
          exact gc_same (by rw [decide_eq_false (fun h : isS n xs => up_bad hza hz hab h.2)])
        · simp (maxSteps := 4000000) -implicitDefEqProofs -dsimp (disch := omega) only [↓AW_skip, ↓AW_ops, ↓AW_cond, ↓AOps_nil, ↓AOps_pu, ↓AOps_ld, ↓AOps_guard, on_some, extK_same, guardB_tt, guardB_ff, condB_f, ↓then_normal, ↓inBlock_normal, pval, lval, rd_S, rd_C, put_S, partA, eq_self, mk, List.foldl_cons, List.foldl_nil, List.replicate_succ, List.replicate_zero, List.set_cons_zero, List.set_cons_succ, List.getElem?_cons_zero, List.getElem?_cons_succ, List.drop_zero, List.take_succ_cons, List.take_nil, Option.getD_some, List.length_cons, List.length_nil, Nat.reduceAdd, Nat.reduceLeDiff, Nat.zero_add, bin_add, bin_sub, bin_leq, bin_gtr, w64, if_true, if_false, Bool.false_eq_true, Bool.not_true, decide_true, decide_false, Go.Eng.e1, true_and, and_true, hc, h0, hx.idx hlt, hx.ld0 hz 1 false (by decide), hidx, hx.ld0 hza 1 false (by decide), hab]
          exact ⟨k + 1 + 1, ⟨by omega, up_step hza hz hu (by omega), hp2⟩, by simp [Has, rd_s], by omega⟩
    · simp (maxSteps := 4000000) -implicitDefEqProofs -dsimp (disch := omega) only [↓AW_ops, ↓AW_seq, ↓AW_cond, ↓AW_ret, ↓AOps_nil, ↓AOps_pu, ↓AOps_guard, on_some, extK_same, guardB_tf, guardB_undef, skipS_some, condB_t, ↓then_normal, ↓then_ret, ↓inBlock_ret, ↓Fin_ret, pval, rd_S, rd_C, put_S, resV, resL, eq_self, mk, List.foldl_cons, List.foldl_nil, List.replicate_succ, List.replicate_zero, List.set_cons_zero, List.set_cons_succ, List.getElem?_cons_zero, List.getElem?_cons_succ, Option.getD_some, if_true, Bool.not_false, decide_false, hc]
      refine gc_same ?_
      rw [decide_eq_false]
      intro h
      have := h.1 b (List.mem_of_getElem? hz)
      exact hc ⟨this.1, by have := this.2; omega⟩
  · have hlt' : ¬ ((i : Int) < xs.length) := by omega
    simp (maxSteps := 4000000) -implicitDefEqProofs -dsimp (disch := omega) only [↓AW_ops, ↓AW_seq, ↓AW_cond, ↓AW_exit, ↓AW_ret, ↓AOps_nil, ↓AOps_pu, on_some, condB_f, ↓then_normal, ↓then_exit, ↓inBlock_exit, ↓Fin_ret, pval, rd_S, rd_C, put_S, resV, resL, eq_self, mk, List.foldl_cons, List.foldl_nil, List.replicate_succ, List.replicate_zero, List.set_cons_zero, List.set_cons_succ, List.getElem?_cons_zero, List.getElem?_cons_succ, Option.getD_some, bin_lss, if_true, decide_false, hlt', hx.len]
    rw [List.take_of_length_le (by omega)] at hu hp
    exact gc_same (by rw [decide_eq_true (show isS n xs from ⟨hp, hu⟩)])

/-- What an owner wishes. -/
def lst (ls : List (List Int)) (i : Int) : List Int := (ls[i.toNat]?).getD []
def nums (n : Nat) : List Int := (List.range n).map (fun k : Nat => (k : Int))
theorem nums_succ (n : Nat) : nums (n + 1) = nums n ++ [(n : Int)] := by simp [nums, List.range_succ]
theorem mem_nums {n : Nat} {p : Int} : p ∈ nums n ↔ 0 ≤ p ∧ p < n := by
  simp only [nums, List.mem_map, List.mem_range]
  constructor
  · rintro ⟨k, h, rfl⟩; omega
  · intro h; exact ⟨p.toNat, by omega, by omega⟩
def wants (ls : List (List Int)) (os : List Int) (p : Int) : Bool := os.any fun i => decide (p ∈ lst ls i)
/-- What some owners wish. -/
def wsh (ls : List (List Int)) (os : List Int) (n : Nat) : List Int := (nums n).filter (wants ls os)
theorem wsh_succ (ls : List (List Int)) (os : List Int) (n : Nat) : wsh ls os (n + 1) = wsh ls os n ++ if wants ls os n = true then [(n : Int)] else [] := by
  unfold wsh
  rw [nums_succ, List.filter_append]
  simp only [List.filter_cons, List.filter_nil]
theorem wsh_le (ls : List (List Int)) (os : List Int) (n : Nat) : (wsh ls os n).length ≤ n := by
  have := List.length_filter_le (wants ls os) (nums n)
  simp only [nums, List.length_map, List.length_range] at this
  exact this
theorem wsh_lt {ls : List (List Int)} {os : List Int} {n : Nat} {p : Int} (h : p ∈ wsh ls os n) : p < n := (mem_nums.1 (List.mem_filter.1 h).1).2

theorem lst_get {ws : List (AV × List Int)} {i : Int} (h : inP ws.length i) : ∃ x, ws[i.toNat]? = some x ∧ lst (lists ws) i = x.2 := by
  have hlt : i.toNat < ws.length := by have := h.1; have := h.2; omega
  exact ⟨ws[i.toNat], List.getElem?_eq_getElem hlt, by simp [lst, hlt]⟩

theorem s96 {P p i : Int} {ws : List (AV × List Int)} {v : AV} {A : AHeap} {a b : Nat} (hw : LL A v ws) (hs : Sz ws) (hi : inP ws.length i) (h1 : ldA 1 false (.ptr a 1) A = some v) (h2 : ldA 1 false (.ptr b 0) A = some (I p)) : ACalls Try.prog 96 [I i, .ptr a 0, .ptr b 0] A (B (decide (p ∈ lst (lists ws) i))) A := by
  refine acalls hmix Try.func96 (by kernel_rfl) t96 3 rfl (by decide) ?_
  obtain ⟨x, hx, he⟩ := lst_get hi
  have hm := List.mem_of_getElem? hx
  have hlt : i.toNat < ws.length := by have := hi.1; have := hi.2; omega
  have hidx := hw.ls.idxI (k := .i64) hi.1 hi.2
  dsimp only [m96]
  simp (maxSteps := 4000000) -implicitDefEqProofs -dsimp (disch := omega) only [↓AW_ops, ↓AW_seq, ↓AOps_nil, ↓AOps_pu, ↓AOps_ld, ↓AOps_call, on_some, ↓then_normal, pval, lval, rd_S, rd_C, put_S, partA, eq_self, List.replicate_succ, List.replicate_zero, List.set_cons_zero, List.set_cons_succ, List.getElem?_cons_zero, List.getElem?_cons_succ, List.drop_zero, List.take_succ_cons, List.take_nil, Option.getD_some, map_c, map_n, List.length_cons, List.length_nil, Nat.reduceSub, Nat.reduceLeDiff, Nat.zero_add, List.cons_append, List.nil_append, if_true, if_false, Bool.false_eq_true, h1, h2, hidx, hw.ls.ld0 hx 1 false (by decide), e0]
  refine CallK.of (c_Contains (hw.inn x hm) (by have := hs.2 x hm; omega) p) ?_
  simp (maxSteps := 4000000) -implicitDefEqProofs -dsimp (disch := omega) only [↓AW_ret, ↓AOps_nil, ↓AOps_pu, on_some, extK_same, ↓then_normal, ↓Fin_ret, pval, rd_S, put_S, resV, resL, List.replicate_succ, List.replicate_zero, List.set_cons_zero, List.set_cons_succ, List.getElem?_cons_zero, List.getElem?_cons_succ, Option.getD_some, Nat.reduceSub, List.cons_append, List.nil_append]
  exact gc_same (by rw [he])

theorem s75 {P : Int} {ws : List (AV × List Int)} {v : AV} {os : List Int} {u : AV} {A : AHeap} (hw : LL A v ws) (hs : Sz ws) (ho : L1 A u os) (hol : os.length ≤ 1000000) (hos : ∀ i ∈ os, inP ws.length i) (hP : 0 ≤ P ∧ P ≤ 1000000) :
    ACalls Try.prog 75 [.agg [I P, v], u] A (outV 1 A (wsh (lists ws) os P.toNat).length) (outH A ((wsh (lists ws) os P.toNat).flatMap e1) (wsh (lists ws) os P.toNat).length) := by
  refine acalls hmix Try.func75 (by kernel_rfl) t75 2 rfl (by decide) ?_
  dsimp only [m75]
  simp (maxSteps := 4000000) -implicitDefEqProofs -dsimp (disch := omega) only [↓AW_ops, ↓AW_seq, ↓AW_block, ↓AOps_nil, ↓AOps_pu, ↓AOps_ld, ↓AOps_ha, on_some, extK_app, ↓then_normal, pval, lval, hval, rd_S, rd_C, put_S, ↓AW_toLoop, AV.cells?, List.replicate_succ, List.replicate_zero, List.set_cons_zero, List.set_cons_succ, List.getElem?_cons_zero, List.getElem?_cons_succ, Option.getD_some, Nat.reduceSub, Nat.add_zero, List.cons_append, List.nil_append, ld_new]
  refine LoopK.by 21 (fun x : Nat × AV × AHeap => (x.1 : Int) ≤ P ∧ AccL 1 e1 (A ++ [.cells true [I P, v]]) x.2.2 x.2.1 (wsh (lists ws) os x.1)) (fun x => [(1, u), (2, .ptr A.length 0), (5, x.2.1), (8, I P), (9, I x.1)]) (fun x => x.2.2) (fun x => P.toNat - x.1) (0, .nilS, A ++ [.cells true [I P, v]]) ⟨by simp only; omega, AccL.nil (List.prefix_refl _)⟩ rfl (by simp [Has, rd_s]) rfl ?_
  rintro ⟨i, y, A1⟩ ⟨hi, hy⟩
  simp only at hi hy
  by_cases hlt : (i : Int) < P
  · have hp1 := hy.pre
    have hp2 := hp1.trans (pre_app A1 [.cells true [I (i : Int)]])
    have hpA := (pre_app A [.cells true [I P, v]]).trans hp2
    have hv2 := ld_mono hp2 (ld_new1 A (I P) v [])
    simp (maxSteps := 4000000) -implicitDefEqProofs -dsimp (disch := omega) only [↓AW_skip, ↓AW_ops, ↓AW_seq, ↓AW_cond, ↓AW_block, ↓AOps_nil, ↓AOps_pu, ↓AOps_ha, ↓AOps_call, on_some, extK_false, extK_app, condB_t, ↓then_normal, pval, hval, rd_S, rd_C, put_S, putS_none, AV.cells?, splice, eq_self, mk, List.foldl_cons, List.foldl_nil, List.replicate_succ, List.replicate_zero, List.set_cons_zero, List.set_cons_succ, List.getElem?_cons_zero, List.getElem?_cons_succ, List.drop_succ_cons, List.drop_nil, List.take_zero, Option.getD_some, map_c, map_n, List.length_cons, List.length_nil, Nat.reduceLeDiff, Nat.zero_add, List.nil_append, List.append_nil, bin_lss, if_true, decide_true, and_true, hlt, get_new, set_new]
    refine CallK.of (c_ContainsFunc (ho.mono hpA) hol 96 [.ptr A.length 0, .ptr A1.length 0] (fun k => decide ((i : Int) ∈ lst (lists ws) k)) (fun k hk => s96 (P := P) (hw.mono hpA) hs (hos k hk) hv2 (ld_new A1 _ []))) ?_
    by_cases hc : wants (lists ws) os i = true
    · have hc' : (os.any fun k => decide ((i : Int) ∈ lst (lists ws) k)) = true := hc
      obtain ⟨v3, A3, happ, h3⟩ := (hy.mono (pre_app A1 [.cells true [I (i : Int)]])).push e1_len (i : Int) (by have := wsh_le (lists ws) os i; simp [lim]; omega)
      simp only [Go.Eng.e1] at happ
      simp (maxSteps := 4000000) -implicitDefEqProofs -dsimp (disch := omega) only [↓AW_ops, ↓AW_cond, ↓AOps_nil, ↓AOps_pu, ↓AOps_ld, ↓AOps_ha, on_some, extK_false, extK_app, extK_same, condB_t, ↓then_normal, ↓inBlock_normal, pval, lval, hval, rd_S, rd_C, put_S, putS_none, AV.cells?, splice, fillA, repl, eq_self, mk, List.foldl_cons, List.foldl_nil, List.replicate_succ, List.replicate_zero, List.set_cons_zero, List.set_cons_succ, List.getElem?_cons_zero, List.getElem?_cons_succ, List.drop_succ_cons, List.drop_nil, List.take_zero, Option.getD_some, map_c, map_n, List.length_cons, List.length_nil, Nat.reduceAdd, Nat.reduceLeDiff, Nat.zero_add, List.nil_append, List.append_nil, bin_add, w64, if_true, true_and, and_true, hc', ld_new, happ]
      refine ⟨(i + 1, v3, A3), ⟨by simp only; omega, ?_⟩, by simp [Has, rd_s], rfl, by simp only; omega⟩
      simp only
      rw [wsh_succ, if_pos hc]
      exact h3
    · have hc' : (os.any fun k => decide ((i : Int) ∈ lst (lists ws) k)) = false := Bool.eq_false_iff.2 hc
      simp (maxSteps := 4000000) -implicitDefEqProofs -dsimp (disch := omega) only [↓AW_skip, ↓AW_ops, ↓AW_cond, ↓AOps_nil, ↓AOps_pu, on_some, extK_same, condB_f, ↓then_normal, ↓inBlock_normal, pval, rd_S, rd_C, put_S, putS_none, eq_self, mk, List.foldl_cons, List.foldl_nil, List.replicate_succ, List.replicate_zero, List.set_cons_zero, List.set_cons_succ, List.getElem?_cons_zero, List.getElem?_cons_succ, Option.getD_some, List.length_cons, List.length_nil, Nat.reduceAdd, Nat.zero_add, bin_add, w64, true_and, hc']
      refine ⟨(i + 1, y, A1 ++ [.cells true [I (i : Int)]]), ⟨by simp only; omega, ?_⟩, by simp [Has, rd_s], rfl, by simp only; omega⟩
      simp only
      rw [wsh_succ, if_neg hc, List.append_nil]
      exact hy.mono (pre_app _ _)
  · have hiP : i = P.toNat := by omega
    subst hiP
    simp (maxSteps := 4000000) -implicitDefEqProofs -dsimp (disch := omega) only [↓AW_ops, ↓AW_seq, ↓AW_cond, ↓AW_exit, ↓AW_ret, ↓AOps_nil, ↓AOps_pu, on_some, condB_f, ↓then_normal, ↓then_exit, ↓inBlock_exit, ↓Fin_ret, pval, rd_S, put_S, resV, resL, eq_self, mk, List.foldl_cons, List.foldl_nil, List.replicate_succ, List.replicate_zero, List.set_cons_zero, List.set_cons_succ, List.getElem?_cons_zero, List.getElem?_cons_succ, Option.getD_some, bin_lss, if_true, decide_false, hlt]
    exact (AccL_base (pre_app _ _) hy).gc flat_e1

theorem s77 {P : Int} {ws : List (AV × List Int)} {v : AV} {os : List Int} {u : AV} {A : AHeap} (hw : LL A v ws) (hs : Sz ws) (ho : L1 A u os) (hol : os.length ≤ 1000000) (hos : ∀ i ∈ os, inP ws.length i) (hP : 0 ≤ P ∧ P ≤ 1000000) :
    ACalls Try.prog 77 [.agg [I P, v], u] A (outV 1 A (wsh (lists ws) os P.toNat).length) (outH A ((wsh (lists ws) os P.toNat).flatMap e1) (wsh (lists ws) os P.toNat).length) := by
  refine acalls hmix Try.func77 (by kernel_rfl) t77 2 rfl (by decide) ?_
  dsimp only [m77]
  simp (maxSteps := 4000000) -implicitDefEqProofs -dsimp (disch := omega) only [↓AW_ops, ↓AW_seq, ↓AW_block, ↓AOps_nil, ↓AOps_pu, on_some, ↓then_normal, pval, rd_S, rd_C, put_S, ↓AW_toLoop, AV.cells?, List.replicate_succ, List.replicate_zero, List.set_cons_zero, List.set_cons_succ, List.getElem?_cons_zero, Option.getD_some, Nat.reduceSub, List.cons_append, List.nil_append]
  refine LoopK.by 41 (fun x : Nat × AV × AHeap => (x.1 : Int) ≤ P ∧ AccL 1 e1 A x.2.2 x.2.1 (wsh (lists ws) os x.1)) (fun x => [(1, u), (2, .agg [I P, v]), (5, x.2.1), (6, I x.1)]) (fun x => x.2.2) (fun x => P.toNat - x.1) (0, .nilS, A) ⟨by simp only; omega, AccL.nil (List.prefix_refl _)⟩ rfl (by simp [Has, rd_s]) rfl ?_
  rintro ⟨p, y, A1⟩ ⟨hi, hy⟩
  simp only at hi hy
  by_cases hlt : (p : Int) < P
  · simp (maxSteps := 4000000) -implicitDefEqProofs -dsimp (disch := omega) only [↓AW_skip, ↓AW_ops, ↓AW_seq, ↓AW_cond, ↓AW_block, ↓AOps_nil, ↓AOps_pu, on_some, condB_t, ↓then_normal, pval, rd_S, rd_C, put_S, ↓AW_toLoop, chkd, isAdr, bgot, AV.cells?, partA, eq_self, mk, List.foldl_cons, List.foldl_nil, List.replicate_succ, List.replicate_zero, List.set_cons_zero, List.set_cons_succ, List.getElem?_cons_zero, List.getElem?_cons_succ, List.drop_zero, List.take_zero, List.take_succ_cons, Option.getD_some, List.length_cons, List.length_nil, Nat.reduceAdd, Nat.reduceLeDiff, Nat.zero_add, bin_lss, if_true, if_false, Bool.false_eq_true, decide_true, hlt]
    refine LoopK.by 41 (fun x : Nat × AV × AHeap => x.1 ≤ os.length ∧ AccL 1 e1 A x.2.2 x.2.1 (wsh (lists ws) os p ++ if wants (lists ws) (os.take x.1) p = true then [(p : Int)] else [])) (fun x => [(1, u), (2, .agg [I P, v]), (5, x.2.1), (6, I p), (7, I x.1)]) (fun x => x.2.2) (fun x => os.length - x.1) (0, y, A1) ⟨by simp only; omega, by simpa [wants] using hy⟩ rfl (by simp [Has, rd_s]) rfl ?_
    rintro ⟨k, y2, A2⟩ ⟨hk, hy2⟩
    simp only at hk hy2
    have ho2 := ho.mono hy2.pre
    have hw2 := hw.mono hy2.pre
    by_cases hltk : k < os.length
    · obtain ⟨i, hzi⟩ : ∃ i, os[k]? = some i := ⟨_, List.getElem?_eq_getElem hltk⟩
      have hltk' : (k : Int) < os.length := by omega
      have hii := hos i (List.mem_of_getElem? hzi)
      obtain ⟨x, hx, he⟩ := lst_get hii
      have hm := List.mem_of_getElem? hx
      have hidx := hw2.ls.idxI (k := .i64) hii.1 hii.2
      have hstep : wants (lists ws) (os.take (k + 1)) p = (wants (lists ws) (os.take k) p || decide ((p : Int) ∈ x.2)) := by
        unfold wants
        rw [List.take_add_one, hzi, List.any_append]
        simp [he]
      simp (maxSteps := 4000000) -implicitDefEqProofs -dsimp (disch := omega) only [↓AW_skip, ↓AW_ops, ↓AW_seq, ↓AW_cond, ↓AW_block, ↓AOps_nil, ↓AOps_pu, ↓AOps_ld, ↓AOps_call, on_some, condB_t, ↓then_normal, pval, lval, rd_S, put_S, chkd, isAdr, bgot, AV.cells?, partA, eq_self, mk, List.foldl_cons, List.foldl_nil, List.replicate_succ, List.replicate_zero, List.set_cons_zero, List.set_cons_succ, List.getElem?_cons_zero, List.getElem?_cons_succ, List.drop_zero, List.drop_succ_cons, List.take_succ_cons, List.take_nil, Option.getD_some, map_c, map_n, List.length_cons, List.length_nil, Nat.reduceAdd, Nat.reduceLeDiff, Nat.zero_add, bin_lss, if_true, if_false, Bool.false_eq_true, decide_true, Go.Eng.e1, hltk', ho2.len, ho2.idx hltk, ho2.ld0 hzi 1 false (by decide), hidx, hw2.ls.ld0 hx 1 false (by decide), e0]
      refine CallK.of (s65 (hw2.inn x hm) (by have := hs.2 x hm; omega) p) ?_
      by_cases hc : (p : Int) ∈ x.2
      · simp (maxSteps := 4000000) -implicitDefEqProofs -dsimp (disch := omega) only [↓AOps_pu, ↓AOps_call, ↓AOps_guard, on_some, extK_same, guardB_tt, pval, rd_S, put_S, mk, List.foldl_cons, List.foldl_nil, List.replicate_succ, List.replicate_zero, List.set_cons_zero, List.set_cons_succ, List.getElem?_cons_zero, List.getElem?_cons_succ, Option.getD_some, map_c, map_n, decide_true, hc]
        have hL := AccL_ls hy2 e1_len
        have hwl := wsh_le (lists ws) os p
        by_cases hwt : wants (lists ws) (os.take k) p = true
        · rw [if_pos hwt] at hy2 hL
          refine CallK.of (s65 hL (by simp; omega) p) ?_
          have hin : (p : Int) ∈ wsh (lists ws) os p ++ [(p : Int)] := by simp
          rw [decide_eq_true hin]
          simp (maxSteps := 4000000) -implicitDefEqProofs -dsimp (disch := omega) only [↓AW_skip, ↓AW_ops, ↓AW_cond, ↓AOps_nil, ↓AOps_pu, ↓AOps_guard, on_some, extK_same, guardB_tt, condB_f, ↓then_normal, ↓inBlock_normal, pval, rd_S, rd_C, put_S, eq_self, mk, List.foldl_cons, List.foldl_nil, List.replicate_succ, List.replicate_zero, List.set_cons_zero, List.set_cons_succ, List.getElem?_cons_zero, List.getElem?_cons_succ, Option.getD_some, List.length_cons, List.length_nil, Nat.reduceAdd, Nat.zero_add, bin_add, w64, if_true, Bool.not_true, true_and]
          refine ⟨(k + 1, y2, A2), ⟨hltk, ?_⟩, by simp [Has, rd_s], rfl, by simp only; omega⟩
          simp only
          rw [hstep, hwt, Bool.true_or, if_pos rfl]
          exact hy2
        · rw [if_neg hwt, List.append_nil] at hy2 hL
          refine CallK.of (s65 hL (by omega) p) ?_
          have hin : ¬ (p : Int) ∈ wsh (lists ws) os p := fun h => by have := wsh_lt h; omega
          rw [decide_eq_false hin]
          obtain ⟨v3, A3, happ, h3⟩ := hy2.push e1_len (p : Int) (by simp [lim]; omega)
          simp only [Go.Eng.e1] at happ
          simp (maxSteps := 4000000) -implicitDefEqProofs -dsimp (disch := omega) only [↓AW_ops, ↓AW_cond, ↓AOps_nil, ↓AOps_pu, ↓AOps_ha, ↓AOps_guard, on_some, extK_false, extK_app, extK_same, guardB_tt, condB_t, ↓then_normal, ↓inBlock_normal, pval, hval, rd_S, rd_C, put_S, AV.cells?, splice, fillA, repl, eq_self, mk, List.foldl_cons, List.foldl_nil, List.replicate_succ, List.replicate_zero, List.set_cons_zero, List.set_cons_succ, List.getElem?_cons_zero, List.getElem?_cons_succ, List.drop_succ_cons, List.drop_nil, List.take_zero, Option.getD_some, map_c, map_n, List.length_cons, List.length_nil, Nat.reduceAdd, Nat.reduceLeDiff, Nat.zero_add, List.nil_append, List.append_nil, bin_add, w64, if_true, Bool.not_false, true_and, and_true, happ]
          refine ⟨(k + 1, v3, A3), ⟨hltk, ?_⟩, by simp [Has, rd_s], rfl, by simp only; omega⟩
          simp only
          rw [hstep, decide_eq_true hc, Bool.or_true, if_pos rfl]
          exact h3
      · simp (maxSteps := 4000000) -implicitDefEqProofs -dsimp (disch := omega) only [↓AW_skip, ↓AW_ops, ↓AW_cond, ↓AOps_nil, ↓AOps_pu, ↓AOps_guard, on_some, extK_same, guardB_ft, skipS_some, condB_f, ↓then_normal, ↓inBlock_normal, pval, rd_S, rd_C, put_S, eq_self, mk, List.foldl_cons, List.foldl_nil, List.replicate_succ, List.replicate_zero, List.set_cons_zero, List.set_cons_succ, List.getElem?_cons_zero, List.getElem?_cons_succ, Option.getD_some, List.length_cons, List.length_nil, Nat.reduceAdd, Nat.zero_add, bin_add, w64, if_false, Bool.false_eq_true, decide_false, true_and, hc]
        refine ⟨(k + 1, y2, A2), ⟨hltk, ?_⟩, by simp [Has, rd_s], rfl, by simp only; omega⟩
        simp only
        rw [hstep, decide_eq_false hc, Bool.or_false]
        exact hy2
    · have hltk' : ¬ ((k : Int) < os.length) := by omega
      simp (maxSteps := 4000000) -implicitDefEqProofs -dsimp (disch := omega) only [↓AW_ops, ↓AW_seq, ↓AW_cond, ↓AW_exit, ↓AW_ret, ↓AOps_nil, ↓AOps_pu, on_some, condB_f, ↓then_normal, ↓then_exit, ↓inBlock_normal, ↓inBlock_exit, ↓Fin_ret, pval, rd_S, rd_C, put_S, resV, resL, eq_self, mk, List.foldl_cons, List.foldl_nil, List.replicate_succ, List.replicate_zero, List.set_cons_zero, List.set_cons_succ, List.getElem?_cons_zero, List.getElem?_cons_succ, Option.getD_some, List.length_cons, List.length_nil, Nat.reduceAdd, Nat.reduceEqDiff, Nat.zero_add, bin_add, bin_lss, w64, if_true, if_false, decide_false, true_and, reduceCtorEq, hltk', ho2.len]
      rw [List.take_of_length_le (by omega), ← wsh_succ] at hy2
      exact ⟨(p + 1, y2, A2), ⟨by simp only; omega, hy2⟩, by simp [Has, rd_s], rfl, by simp only; omega⟩
  · have hiP : p = P.toNat := by omega
    subst hiP
    simp (maxSteps := 4000000) -implicitDefEqProofs -dsimp (disch := omega) only [↓AW_ops, ↓AW_seq, ↓AW_cond, ↓AW_exit, ↓AW_ret, ↓AOps_nil, ↓AOps_pu, on_some, condB_f, ↓then_normal, ↓then_exit, ↓inBlock_exit, ↓Fin_ret, pval, rd_S, put_S, resV, resL, chkd, isAdr, bgot, AV.cells?, partA, eq_self, mk, List.foldl_cons, List.foldl_nil, List.replicate_succ, List.replicate_zero, List.set_cons_zero, List.set_cons_succ, List.getElem?_cons_zero, List.getElem?_cons_succ, List.drop_zero, List.take_zero, List.take_succ_cons, Option.getD_some, List.length_cons, List.length_nil, Nat.reduceAdd, Nat.reduceLeDiff, Nat.zero_add, bin_lss, if_true, if_false, Bool.false_eq_true, decide_false, hlt]
    exact hy.gc flat_e1

end Go.Proofs.Ytlmbobbefgcolaa
