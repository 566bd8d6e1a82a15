/- Soil: joined neighbors, and fields that are the same. No conditions. -/
import Derived.Test.YtnnbggcckabhdaaQ1
import Derived.Test.YtnnbggcckabhdaaW23
namespace Go.Proofs.Ytnnbggcckabhdaa
open Go Go.Eng

theorem c_Equal {xs ys : List Int} {v u : AV} {A : AHeap} (hx : L1 A v xs) (hy : L1 A u ys) (hl : xs.length ≤ 1000000) : ACalls Try.prog 85 [v, u] A (B (decide (xs = ys))) A := by
  refine acalls hmix Try.func85 (by kernel_rfl) t85 2 rfl (by decide) ?_
  by_cases hle : xs.length = ys.length
  · have hle' : (xs.length : Int) = ys.length := by omega
    dsimp only [m85]
    simp (maxSteps := 4000000) -implicitDefEqProofs -dsimp (disch := omega) only [↓AW_skip, ↓AW_ops, ↓AW_seq, ↓AW_cond, ↓AW_block, ↓AOps_nil, ↓AOps_pu, on_some, condB_f, ↓then_normal, pval, rd_S, rd_C, put_S, ↓AW_toLoop, eq_self, List.replicate_succ, List.replicate_zero, List.set_cons_zero, List.set_cons_succ, List.getElem?_cons_zero, List.getElem?_cons_succ, Option.getD_some, Nat.reduceSub, List.cons_append, List.nil_append, bin_neq, decide_false, not_true_eq_false, hx.len, hy.len, hle']
    refine LoopK.by 26 (fun i : Nat => i ≤ xs.length ∧ xs.take i = ys.take i) (fun i => [(0, v), (1, u), (12, I ys.length), (13, I i)]) (fun _ => A) (fun i => xs.length - i) 0 ⟨by omega, rfl⟩ rfl (by simp [Has, rd_s]) rfl ?_
    rintro i ⟨hi, he⟩
    by_cases hlt : i < xs.length
    · obtain ⟨z, hz⟩ : ∃ z, xs[i]? = some z := ⟨_, List.getElem?_eq_getElem hlt⟩
      have hlt2 : i < ys.length := by omega
      have hlt' : (i : Int) < ys.length := by omega
      obtain ⟨w, hw⟩ : ∃ w, ys[i]? = some w := ⟨_, List.getElem?_eq_getElem hlt2⟩
      by_cases hzw : z = w
      · subst hzw
        simp (maxSteps := 4000000) -implicitDefEqProofs -dsimp (disch := omega) only [↓AW_skip, ↓AW_ops, ↓AW_seq, ↓AW_cond, ↓AW_block, ↓AOps_nil, ↓AOps_pu, ↓AOps_ld, on_some, condB_t, condB_f, ↓then_normal, ↓inBlock_normal, pval, lval, rd_S, rd_C, put_S, partA, eq_self, mk, List.foldl_cons, List.foldl_nil, List.replicate_succ, List.replicate_zero, List.set_cons_zero, List.set_cons_succ, List.getElem?_cons_zero, List.getElem?_cons_succ, List.drop_zero, List.take_succ_cons, List.take_nil, Option.getD_some, List.length_cons, List.length_nil, Nat.reduceAdd, Nat.reduceLeDiff, Nat.zero_add, bin_add, bin_neq, bin_lss, w64, if_true, if_false, Bool.false_eq_true, decide_true, decide_false, Go.Eng.e1, true_and, not_true_eq_false, hlt', hx.idx hlt, hx.ld0 hz 1 false (by decide), hy.idx hlt2, hy.ld0 hw 1 false (by decide)]
        exact ⟨i + 1, ⟨hlt, (take_succ_eq hz hw).2 ⟨he, rfl⟩⟩, by simp [Has, rd_s], by omega⟩
      · simp (maxSteps := 4000000) -implicitDefEqProofs -dsimp (disch := omega) only [↓AW_skip, ↓AW_ops, ↓AW_seq, ↓AW_cond, ↓AW_block, ↓AW_ret, ↓AOps_nil, ↓AOps_pu, ↓AOps_ld, on_some, condB_t, ↓then_normal, ↓then_ret, ↓inBlock_ret, ↓Fin_ret, pval, lval, rd_S, rd_C, put_S, resV, resL, partA, eq_self, mk, List.foldl_cons, List.foldl_nil, List.replicate_succ, List.replicate_zero, List.set_cons_zero, List.set_cons_succ, List.getElem?_cons_zero, List.getElem?_cons_succ, List.drop_zero, List.take_succ_cons, List.take_nil, Option.getD_some, List.length_cons, List.length_nil, Nat.reduceLeDiff, Nat.zero_add, bin_neq, bin_lss, if_true, if_false, Bool.false_eq_true, decide_true, Go.Eng.e1, not_false_eq_true, hlt', hx.idx hlt, hx.ld0 hz 1 false (by decide), hy.idx hlt2, hy.ld0 hw 1 false (by decide), hzw]
        refine gc_same ?_
        have : ¬ xs = ys := by rintro rfl; rw [hz] at hw; exact hzw (Option.some.inj hw)
        simp [this]
    · have hlt' : ¬ ((i : Int) < ys.length) := by omega
      simp (maxSteps := 4000000) -implicitDefEqProofs -dsimp (disch := omega) only [↓AW_ops, ↓AW_seq, ↓AW_cond, ↓AW_exit, ↓AW_ret, ↓AOps_nil, ↓AOps_pu, on_some, condB_f, ↓then_normal, ↓then_exit, ↓inBlock_exit, ↓Fin_ret, pval, rd_S, rd_C, put_S, resV, resL, eq_self, mk, List.foldl_cons, List.foldl_nil, List.replicate_succ, List.replicate_zero, List.set_cons_zero, List.set_cons_succ, List.getElem?_cons_zero, List.getElem?_cons_succ, Option.getD_some, bin_lss, if_true, decide_false, hlt']
      rw [List.take_of_length_le (by omega), List.take_of_length_le (by omega)] at he
      exact gc_same (by simp [he])
  · have hle' : ¬ (xs.length : Int) = ys.length := by omega
    dsimp only [m85]
    simp (maxSteps := 4000000) -implicitDefEqProofs -dsimp (disch := omega) only [↓AW_ops, ↓AW_seq, ↓AW_cond, ↓AW_ret, ↓AOps_nil, ↓AOps_pu, on_some, condB_t, ↓then_normal, ↓then_ret, ↓Fin_ret, pval, rd_S, rd_C, put_S, resV, resL, List.replicate_succ, List.replicate_zero, List.set_cons_zero, List.set_cons_succ, List.getElem?_cons_zero, List.getElem?_cons_succ, Option.getD_some, Nat.reduceSub, List.cons_append, List.nil_append, bin_neq, decide_true, not_false_eq_true, hx.len, hy.len, hle']
    have : ¬ xs = ys := by rintro rfl; exact hle rfl
    exact gc_same (by simp [this])

theorem c_SameInts {xs ys : List Int} {v u : AV} {A : AHeap} (hx : L1 A v xs) (hy : L1 A u ys) (hl : xs.length ≤ 1000000) : ACalls Try.prog 86 [v, u] A (B (decide (xs = ys))) A := by
  refine acalls hmix Try.func86 (by kernel_rfl) t86 2 rfl (by decide) ?_
  by_cases hle : xs.length = ys.length
  · have hle' : (xs.length : Int) = ys.length := by omega
    dsimp only [m86]
    simp (maxSteps := 4000000) -implicitDefEqProofs -dsimp (disch := omega) only [↓AW_skip, ↓AW_ops, ↓AW_seq, ↓AW_cond, ↓AW_block, ↓AOps_nil, ↓AOps_pu, on_some, condB_f, ↓then_normal, pval, rd_S, rd_C, put_S, ↓AW_toLoop, eq_self, List.replicate_succ, List.replicate_zero, List.set_cons_zero, List.set_cons_succ, List.getElem?_cons_zero, List.getElem?_cons_succ, Option.getD_some, Nat.reduceSub, List.cons_append, List.nil_append, bin_neq, decide_false, not_true_eq_false, hx.len, hy.len, hle']
    refine LoopK.by 26 (fun i : Nat => i ≤ xs.length ∧ xs.take i = ys.take i) (fun i => [(0, v), (1, u), (5, I i)]) (fun _ => A) (fun i => xs.length - i) 0 ⟨by omega, rfl⟩ rfl (by simp [Has, rd_s]) rfl ?_
    rintro i ⟨hi, he⟩
    by_cases hlt : i < xs.length
    · obtain ⟨z, hz⟩ : ∃ z, xs[i]? = some z := ⟨_, List.getElem?_eq_getElem hlt⟩
      have hlt' : (i : Int) < xs.length := by omega
      have hlt2 : i < ys.length := by omega
      obtain ⟨w, hw⟩ : ∃ w, ys[i]? = some w := ⟨_, List.getElem?_eq_getElem hlt2⟩
      by_cases hzw : z = w
      · subst hzw
        simp (maxSteps := 4000000) -implicitDefEqProofs -dsimp (disch := omega) only [↓AW_skip, ↓AW_ops, ↓AW_seq, ↓AW_cond, ↓AW_block, ↓AOps_nil, ↓AOps_pu, ↓AOps_ld, on_some, condB_t, condB_f, ↓then_normal, ↓inBlock_normal, pval, lval, rd_S, rd_C, put_S, partA, eq_self, mk, List.foldl_cons, List.foldl_nil, List.replicate_succ, List.replicate_zero, List.set_cons_zero, List.set_cons_succ, List.getElem?_cons_zero, List.getElem?_cons_succ, List.drop_zero, List.take_succ_cons, List.take_nil, Option.getD_some, List.length_cons, List.length_nil, Nat.reduceAdd, Nat.reduceLeDiff, Nat.zero_add, bin_add, bin_neq, bin_lss, w64, if_true, if_false, Bool.false_eq_true, decide_true, decide_false, Go.Eng.e1, true_and, not_true_eq_false, hlt', hx.len, hx.idx hlt, hx.ld0 hz 1 false (by decide), hy.idx hlt2, hy.ld0 hw 1 false (by decide)]
        exact ⟨i + 1, ⟨hlt, (take_succ_eq hz hw).2 ⟨he, rfl⟩⟩, by simp [Has, rd_s], by omega⟩
      · simp (maxSteps := 4000000) -implicitDefEqProofs -dsimp (disch := omega) only [↓AW_skip, ↓AW_ops, ↓AW_seq, ↓AW_cond, ↓AW_block, ↓AW_ret, ↓AOps_nil, ↓AOps_pu, ↓AOps_ld, on_some, condB_t, ↓then_normal, ↓then_ret, ↓inBlock_ret, ↓Fin_ret, pval, lval, rd_S, rd_C, put_S, resV, resL, partA, eq_self, mk, List.foldl_cons, List.foldl_nil, List.replicate_succ, List.replicate_zero, List.set_cons_zero, List.set_cons_succ, List.getElem?_cons_zero, List.getElem?_cons_succ, List.drop_zero, List.take_succ_cons, List.take_nil, Option.getD_some, List.length_cons, List.length_nil, Nat.reduceLeDiff, Nat.zero_add, bin_neq, bin_lss, if_true, if_false, Bool.false_eq_true, decide_true, Go.Eng.e1, not_false_eq_true, hlt', hx.len, hx.idx hlt, hx.ld0 hz 1 false (by decide), hy.idx hlt2, hy.ld0 hw 1 false (by decide), hzw]
        refine gc_same ?_
        have : ¬ xs = ys := by rintro rfl; rw [hz] at hw; exact hzw (Option.some.inj hw)
        simp [this]
    · have hlt' : ¬ ((i : Int) < xs.length) := by omega
      simp (maxSteps := 4000000) -implicitDefEqProofs -dsimp (disch := omega) only [↓AW_ops, ↓AW_seq, ↓AW_cond, ↓AW_exit, ↓AW_ret, ↓AOps_nil, ↓AOps_pu, on_some, condB_f, ↓then_normal, ↓then_exit, ↓inBlock_exit, ↓Fin_ret, pval, rd_S, rd_C, put_S, resV, resL, eq_self, mk, List.foldl_cons, List.foldl_nil, List.replicate_succ, List.replicate_zero, List.set_cons_zero, List.set_cons_succ, List.getElem?_cons_zero, List.getElem?_cons_succ, Option.getD_some, bin_lss, if_true, decide_false, hlt', hx.len]
      rw [List.take_of_length_le (by omega), List.take_of_length_le (by omega)] at he
      exact gc_same (by simp [he])
  · have hle' : ¬ (xs.length : Int) = ys.length := by omega
    dsimp only [m86]
    simp (maxSteps := 4000000) -implicitDefEqProofs -dsimp (disch := omega) only [↓AW_ops, ↓AW_seq, ↓AW_cond, ↓AW_ret, ↓AOps_nil, ↓AOps_pu, on_some, condB_t, ↓then_normal, ↓then_ret, ↓Fin_ret, pval, rd_S, rd_C, put_S, resV, resL, List.replicate_succ, List.replicate_zero, List.set_cons_zero, List.set_cons_succ, List.getElem?_cons_zero, List.getElem?_cons_succ, Option.getD_some, Nat.reduceSub, List.cons_append, List.nil_append, bin_neq, decide_true, not_false_eq_true, hx.len, hy.len, hle']
    have : ¬ xs = ys := by rintro rfl; exact hle rfl
    exact gc_same (by simp [this])

theorem s48 {f g : List (Int × Int)} {v u : AV} {A : AHeap} (hf : L2 A v f) (hg : L2 A u g) : ACalls Try.prog 48 [v, u] A (.tuple [B (decide (v2E f g = 0 ∧ units f = units g)), I (v2E f g)]) A := by
  refine acalls hmix Try.func48 (by kernel_rfl) t48 2 rfl (by decide) ?_
  dsimp only [m48]
  simp (maxSteps := 4000000) -implicitDefEqProofs -dsimp (disch := omega) only [↓AW_ops, ↓AW_seq, ↓AOps_nil, ↓AOps_pu, ↓AOps_call, on_some, ↓then_normal, pval, rd_S, rd_C, put_S, List.replicate_succ, List.replicate_zero, List.set_cons_zero, List.set_cons_succ, List.getElem?_cons_zero, List.getElem?_cons_succ, Option.getD_some, map_c, map_n, Nat.reduceSub, List.cons_append, List.nil_append]
  refine CallK.of (s82 hf hg) ?_
  by_cases h0 : v2E f g = 0
  · obtain ⟨hvf, hvg⟩ := v2E_0 h0
    have hgf := (good_of hvf).1
    have hgg := (good_of hvg).1
    have hlf := len_units hgf.2
    have hbf := len_bound hgf
    simp (maxSteps := 4000000) -implicitDefEqProofs -dsimp (disch := omega) only [↓AW_skip, ↓AW_ops, ↓AW_seq, ↓AW_cond, ↓AOps_nil, ↓AOps_pu, ↓AOps_call, on_some, extK_same, condB_f, ↓then_normal, pval, rd_S, rd_C, put_S, eq_self, List.replicate_succ, List.replicate_zero, List.set_cons_zero, List.set_cons_succ, List.getElem?_cons_zero, List.getElem?_cons_succ, Option.getD_some, map_c, map_n, Nat.reduceSub, List.cons_append, List.nil_append, bin_neq, decide_false, not_true_eq_false, h0]
    refine CallK.of (s83 hf hgf) ?_
    have p1 := pre_out A ((units f).flatMap Go.Eng.e1) (units f).length
    have hL1 := Ls_out A e1_len (units f)
    generalize outH A ((units f).flatMap Go.Eng.e1) (units f).length = A1 at *
    generalize outV 1 A (units f).length = y1 at *
    simp (maxSteps := 4000000) -implicitDefEqProofs -dsimp (disch := omega) only [↓AOps_pu, ↓AOps_call, on_some, extK_false, pval, rd_S, put_S, List.replicate_succ, List.replicate_zero, List.set_cons_zero, List.set_cons_succ, List.getElem?_cons_zero, List.getElem?_cons_succ, Option.getD_some, map_c, map_n, Nat.reduceSub, List.cons_append, List.nil_append]
    refine CallK.of (s83 (hg.mono p1) hgg) ?_
    have p2 := pre_out A1 ((units g).flatMap Go.Eng.e1) (units g).length
    have hL2 := Ls_out A1 e1_len (units g)
    generalize outH A1 ((units g).flatMap Go.Eng.e1) (units g).length = A2 at *
    generalize outV 1 A1 (units g).length = y2 at *
    simp (maxSteps := 4000000) -implicitDefEqProofs -dsimp (disch := omega) only [↓AOps_call, extK_false, rd_S, put_S, List.replicate_succ, List.replicate_zero, List.set_cons_zero, List.set_cons_succ, List.getElem?_cons_zero, List.getElem?_cons_succ, Option.getD_some, map_c, map_n, Nat.reduceSub, List.cons_append, List.nil_append]
    refine CallK.of (c_Equal (hL1.mono p2) hL2 (by omega)) ?_
    simp (maxSteps := 4000000) -implicitDefEqProofs -dsimp (disch := omega) only [↓AW_ret, ↓AOps_nil, ↓AOps_pu, on_some, extK_same, ↓then_normal, ↓Fin_ret, pval, rd_S, rd_C, put_S, resV, resL, List.replicate_succ, List.replicate_zero, List.set_cons_zero, List.set_cons_succ, List.getElem?_cons_zero, List.getElem?_cons_succ, Option.getD_some, Nat.reduceSub, List.cons_append, List.nil_append]
    exact gc_val (p1.trans p2) (by simp [h0, ren])
  · simp (maxSteps := 4000000) -implicitDefEqProofs -dsimp (disch := omega) only [↓AW_ops, ↓AW_seq, ↓AW_cond, ↓AW_ret, ↓AOps_nil, ↓AOps_pu, on_some, extK_same, condB_t, ↓then_normal, ↓then_ret, ↓Fin_ret, pval, rd_S, rd_C, put_S, resV, resL, List.replicate_succ, List.replicate_zero, List.set_cons_zero, List.set_cons_succ, List.getElem?_cons_zero, List.getElem?_cons_succ, Option.getD_some, Nat.reduceSub, List.cons_append, List.nil_append, bin_neq, decide_true, not_false_eq_true, h0]
    exact gc_same (by simp [])

theorem s49 {f g : List (Int × Int)} {v u : AV} {A : AHeap} (hf : L2 A v f) (hg : L2 A u g) : ACalls Try.prog 49 [v, u] A (.tuple [B (decide (v2E f g = 0 ∧ units f = units g)), I (v2E f g)]) A := by
  refine acalls hmix Try.func49 (by kernel_rfl) t49 2 rfl (by decide) ?_
  dsimp only [m49]
  simp (maxSteps := 4000000) -implicitDefEqProofs -dsimp (disch := omega) only [↓AW_ops, ↓AW_seq, ↓AOps_nil, ↓AOps_pu, ↓AOps_call, on_some, ↓then_normal, pval, rd_S, rd_C, put_S, List.replicate_succ, List.replicate_zero, List.set_cons_zero, List.set_cons_succ, List.getElem?_cons_zero, List.getElem?_cons_succ, Option.getD_some, map_c, map_n, Nat.reduceSub, List.cons_append, List.nil_append]
  refine CallK.of (s84 hf hg) ?_
  by_cases h0 : v2E f g = 0
  · obtain ⟨hvf, hvg⟩ := v2E_0 h0
    have hgf := (good_of hvf).1
    have hgg := (good_of hvg).1
    have hlf := len_units hgf.2
    have hbf := len_bound hgf
    simp (maxSteps := 4000000) -implicitDefEqProofs -dsimp (disch := omega) only [↓AW_skip, ↓AW_ops, ↓AW_seq, ↓AW_cond, ↓AOps_nil, ↓AOps_pu, ↓AOps_call, on_some, extK_same, condB_f, ↓then_normal, pval, rd_S, rd_C, put_S, eq_self, List.replicate_succ, List.replicate_zero, List.set_cons_zero, List.set_cons_succ, List.getElem?_cons_zero, List.getElem?_cons_succ, Option.getD_some, map_c, map_n, Nat.reduceSub, List.cons_append, List.nil_append, bin_neq, decide_false, not_true_eq_false, h0]
    refine CallK.of (s68 hf hgf) ?_
    have p1 := pre_out A ((units f).flatMap Go.Eng.e1) (units f).length
    have hL1 := Ls_out A e1_len (units f)
    generalize outH A ((units f).flatMap Go.Eng.e1) (units f).length = A1 at *
    generalize outV 1 A (units f).length = y1 at *
    simp (maxSteps := 4000000) -implicitDefEqProofs -dsimp (disch := omega) only [↓AOps_pu, ↓AOps_call, on_some, extK_false, pval, rd_S, put_S, List.replicate_succ, List.replicate_zero, List.set_cons_zero, List.set_cons_succ, List.getElem?_cons_zero, List.getElem?_cons_succ, Option.getD_some, map_c, map_n, Nat.reduceSub, List.cons_append, List.nil_append]
    refine CallK.of (s68 (hg.mono p1) hgg) ?_
    have p2 := pre_out A1 ((units g).flatMap Go.Eng.e1) (units g).length
    have hL2 := Ls_out A1 e1_len (units g)
    generalize outH A1 ((units g).flatMap Go.Eng.e1) (units g).length = A2 at *
    generalize outV 1 A1 (units g).length = y2 at *
    simp (maxSteps := 4000000) -implicitDefEqProofs -dsimp (disch := omega) only [↓AOps_call, extK_false, rd_S, put_S, List.replicate_succ, List.replicate_zero, List.set_cons_zero, List.set_cons_succ, List.getElem?_cons_zero, List.getElem?_cons_succ, Option.getD_some, map_c, map_n, Nat.reduceSub, List.cons_append, List.nil_append]
    refine CallK.of (c_SameInts (hL1.mono p2) hL2 (by omega)) ?_
    simp (maxSteps := 4000000) -implicitDefEqProofs -dsimp (disch := omega) only [↓AW_ret, ↓AOps_nil, ↓AOps_pu, on_some, extK_same, ↓then_normal, ↓Fin_ret, pval, rd_S, rd_C, put_S, resV, resL, List.replicate_succ, List.replicate_zero, List.set_cons_zero, List.set_cons_succ, List.getElem?_cons_zero, List.getElem?_cons_succ, Option.getD_some, Nat.reduceSub, List.cons_append, List.nil_append]
    exact gc_val (p1.trans p2) (by simp [h0, ren])
  · simp (maxSteps := 4000000) -implicitDefEqProofs -dsimp (disch := omega) only [↓AW_ops, ↓AW_seq, ↓AW_cond, ↓AW_ret, ↓AOps_nil, ↓AOps_pu, on_some, extK_same, condB_t, ↓then_normal, ↓then_ret, ↓Fin_ret, pval, rd_S, rd_C, put_S, resV, resL, List.replicate_succ, List.replicate_zero, List.set_cons_zero, List.set_cons_succ, List.getElem?_cons_zero, List.getElem?_cons_succ, Option.getD_some, Nat.reduceSub, List.cons_append, List.nil_append, bin_neq, decide_true, not_false_eq_true, h0]
    exact gc_same (by simp [])

def plL (f : List (Int × Int)) : List (Int × Int) := if vE f = 0 then pl f else []

theorem pst_at {out : List (Int × Int)} {k : Nat} {w z : Int × Int} (hk : out.length = k + 1) (hw : out[k]? = some w) : pst out z = if w.2 = z.2 ∧ w.1 + z.1 ≤ 20 then out.set k (w.1 + z.1, w.2) else out ++ [z] := by
  unfold pst
  have : out.length - 1 = k := by omega
  rw [this, hw]

set_option maxRecDepth 100000 in
theorem s46 {f : List (Int × Int)} {v : AV} {A : AHeap} (hf : L2 A v f) : ACalls Try.prog 46 [v] A (.tuple [outV 2 A (plL f).length, I (vE f)]) (outH A ((plL f).flatMap e2) (plL f).length) := by
  refine acalls hmix Try.func46 (by kernel_rfl) t46 1 rfl (by decide) ?_
  dsimp only [m46]
  simp (maxSteps := 4000000) -implicitDefEqProofs -dsimp (disch := omega) only [↓AW_ops, ↓AW_seq, ↓AOps_nil, ↓AOps_pu, ↓AOps_call, on_some, ↓then_normal, pval, rd_S, rd_C, put_S, List.replicate_succ, List.replicate_zero, List.set_cons_zero, List.set_cons_succ, List.getElem?_cons_zero, List.getElem?_cons_succ, Option.getD_some, map_c, map_n, Nat.reduceSub, List.cons_append, List.nil_append]
  refine CallK.of (s37 hf) ?_
  by_cases h0 : vE f = 0
  · have hg := (good_of h0).1
    have hl6 := hg.1
    have hL : plL f = pl f := by unfold plL; rw [if_pos h0]
    rw [hL, h0]
    simp (maxSteps := 4000000) -implicitDefEqProofs -dsimp (disch := omega) only [↓AW_skip, ↓AW_ops, ↓AW_seq, ↓AW_cond, ↓AW_block, ↓AOps_nil, ↓AOps_pu, on_some, extK_same, condB_f, ↓then_normal, pval, rd_S, rd_C, put_S, ↓AW_toLoop, eq_self, List.replicate_succ, List.replicate_zero, List.set_cons_zero, List.set_cons_succ, List.getElem?_cons_zero, List.getElem?_cons_succ, Option.getD_some, Nat.reduceSub, List.cons_append, List.nil_append, bin_neq, decide_false, not_true_eq_false, hf.len]
    refine LoopK.by 62 (fun x : Nat × AV × AHeap => x.1 ≤ f.length ∧ AccL 2 e2 A x.2.2 x.2.1 (pl (f.take x.1))) (fun x => [(5, x.2.1), (14, v), (15, I f.length), (16, I x.1)]) (fun x => x.2.2) (fun x => f.length - x.1) (0, .nilS, A) ⟨by simp only; omega, AccL.nil (List.prefix_refl _)⟩ rfl (by simp [Has, rd_s]) rfl ?_
    rintro ⟨i, u, A1⟩ ⟨hi, hu⟩
    simp only at hi hu
    by_cases hlt : i < f.length
    · obtain ⟨z, hz⟩ : ∃ z, f[i]? = some z := ⟨_, List.getElem?_eq_getElem hlt⟩
      have hlt' : (i : Int) < f.length := by omega
      have hvz := all_get hg.2 hz
      have hz' := (vz_iff z).1 hvz
      obtain ⟨q1, _, q3, _⟩ := pl_facts (good_take hg i).2
      rw [List.length_take] at q3
      have hf1 := hf.mono hu.pre
      have hpt := pl_take hz
      generalize pl (f.take i) = out at *
      rcases Nat.eq_zero_or_pos out.length with hk0 | hk0
      · have : out = [] := List.eq_nil_of_length_eq_zero hk0
        subst this
        have hlen : lenA u = some (I 0) := (AccL_ls hu e2_len).len
        rw [pst_nil] at hpt
        obtain ⟨v3, A3, happ, h3⟩ := hu.push e2_len z (by simp [lim])
        simp only [Go.Eng.e2] at happ
        simp (maxSteps := 4000000) -implicitDefEqProofs -dsimp (disch := omega) only [↓AW_skip, ↓AW_ops, ↓AW_seq, ↓AW_cond, ↓AW_block, ↓AOps_nil, ↓AOps_pu, ↓AOps_ld, ↓AOps_ha, ↓AOps_guard, on_some, extK_false, extK_app, guardB_ft, skipS_some, condB_t, condB_f, ↓then_normal, ↓inBlock_normal, pval, lval, hval_blds, hval_app, rd_S, rd_C, put_S, chkd, bput, bgot, cells_agg, splice, partA, fillA, repl, eq_self, mk, List.foldl_cons, List.foldl_nil, List.replicate_succ, List.replicate_zero, List.set_cons_zero, List.set_cons_succ, List.getElem?_cons_zero, List.getElem?_cons_succ, List.drop_zero, List.drop_succ_cons, List.drop_nil, List.take_zero, List.take_succ_cons, List.take_nil, Option.getD_some, map_c, map_n, List.length_cons, List.length_nil, Nat.reduceAdd, Nat.reduceLeDiff, Nat.reduceEqDiff, Nat.zero_add, List.nil_append, List.append_nil, bin_add, bin_sub, bin_lss, bin_geq, w64, if_true, if_false, Bool.false_eq_true, decide_true, decide_false, Go.Eng.e2, true_and, and_true, ne_eq, not_true_eq_false, Int.reduceLE, Int.reduceNeg, Int.reduceSub, hlt', hf1.idx hlt, hf1.ld0 hz 2 true (by decide), hlen, happ]
        refine ⟨(i + 1, v3, A3), ⟨hlt, ?_⟩, by simp [Has, rd_s], rfl, by simp only; omega⟩
        simp only
        rw [hpt]; exact h3
      · obtain ⟨k, hk⟩ : ∃ k, out.length = k + 1 := ⟨out.length - 1, by omega⟩
        have hkl : k < out.length := by omega
        obtain ⟨w, hw⟩ : ∃ w, out[k]? = some w := ⟨_, List.getElem?_eq_getElem hkl⟩
        have hwe : out[k] = w := (List.getElem?_eq_some_iff.1 hw).2
        have hw' := (vz_iff w).1 (all_get q1 hw)
        have hu' := AccL_ls hu e2_len
        have hlen : lenA u = some (I ((k : Int) + 1)) := by rw [hu'.len, hk]; rfl
        have hk1 : (k : Int) + 1 - 1 = k := by omega
        have hk2 : (0 : Int) ≤ k := by omega
        have hp := pst_at (z := z) hk hw
        rw [hp] at hpt
        by_cases h1 : w.2 = z.2
        · by_cases h2 : w.1 + z.1 ≤ 20
          · rw [if_pos ⟨h1, h2⟩] at hpt
            obtain ⟨A3, hst, h3⟩ := AccL_st0 hu e2_len hkl 1 (I (w.1 + z.1)) [I (w.1 + z.1)] (w.1 + z.1, w.2) rfl rfl (by decide) (by rw [hwe]; rfl)
            simp (maxSteps := 4000000) -implicitDefEqProofs -dsimp (disch := omega) only [↓AW_skip, ↓AW_ops, ↓AW_seq, ↓AW_cond, ↓AW_block, ↓AOps_nil, ↓AOps_pu, ↓AOps_ld, ↓AOps_ha, ↓AOps_guard, on_some, extK_false, guardB_tt, condB_t, ↓then_normal, ↓inBlock_normal, pval, lval, hval_st, rd_S, rd_C, put_S, putS_none, chkd, isAdr, bput, bgot, cells_agg, splice, partA, eq_self, mk, List.foldl_cons, List.foldl_nil, List.replicate_succ, List.replicate_zero, List.set_cons_zero, List.set_cons_succ, List.getElem?_cons_zero, List.getElem?_cons_succ, List.drop_zero, List.drop_succ_cons, List.drop_nil, List.take_zero, List.take_succ_cons, List.take_nil, Option.getD_some, Option.map_some, List.length_cons, List.length_nil, Nat.reduceAdd, Nat.reduceLeDiff, Nat.reduceEqDiff, Nat.zero_add, Nat.add_zero, List.nil_append, List.append_nil, bin_add, bin_sub, bin_eql, bin_lss, bin_leq, bin_geq, w64, if_true, if_false, Bool.false_eq_true, decide_true, Go.Eng.e2, true_and, ne_eq, not_true_eq_false, hlt', hf1.idx hlt, hf1.ld0 hz 2 true (by decide), hlen, hk1, hk2, hu'.idx hkl, hu'.ld0 hw 1 false (by decide), hu'.ld hw 1 1 false (by decide), h1, h2, hst]
            refine ⟨(i + 1, u, A3), ⟨hlt, ?_⟩, by simp [Has, rd_s], rfl, by simp only; omega⟩
            simp only
            rw [hpt]; exact h3
          · rw [if_neg (fun h => h2 h.2)] at hpt
            obtain ⟨v3, A3, happ, h3⟩ := hu.push e2_len z (by simp [lim]; omega)
            simp only [Go.Eng.e2] at happ
            simp (maxSteps := 4000000) -implicitDefEqProofs -dsimp (disch := omega) only [↓AW_skip, ↓AW_ops, ↓AW_seq, ↓AW_cond, ↓AW_block, ↓AOps_nil, ↓AOps_pu, ↓AOps_ld, ↓AOps_ha, ↓AOps_guard, on_some, extK_false, extK_app, guardB_tt, condB_t, condB_f, ↓then_normal, ↓inBlock_normal, pval, lval, hval_blds, hval_app, rd_S, rd_C, put_S, chkd, isAdr, bput, bgot, cells_agg, splice, partA, fillA, repl, eq_self, mk, List.foldl_cons, List.foldl_nil, List.replicate_succ, List.replicate_zero, List.set_cons_zero, List.set_cons_succ, List.getElem?_cons_zero, List.getElem?_cons_succ, List.drop_zero, List.drop_succ_cons, List.drop_nil, List.take_zero, List.take_succ_cons, List.take_nil, Option.getD_some, map_c, map_n, List.length_cons, List.length_nil, Nat.reduceAdd, Nat.reduceLeDiff, Nat.reduceEqDiff, Nat.zero_add, Nat.add_zero, List.nil_append, List.append_nil, bin_add, bin_sub, bin_eql, bin_lss, bin_leq, bin_geq, w64, if_true, if_false, Bool.false_eq_true, decide_true, decide_false, Go.Eng.e2, true_and, and_true, ne_eq, not_true_eq_false, hlt', hf1.idx hlt, hf1.ld0 hz 2 true (by decide), hlen, hk1, hk2, hu'.idx hkl, hu'.ld0 hw 1 false (by decide), hu'.ld hw 1 1 false (by decide), h1, h2, happ]
            refine ⟨(i + 1, v3, A3), ⟨hlt, ?_⟩, by simp [Has, rd_s], rfl, by simp only; omega⟩
            simp only
            rw [hpt]; exact h3
        · rw [if_neg (fun h => h1 h.1)] at hpt
          obtain ⟨v3, A3, happ, h3⟩ := hu.push e2_len z (by simp [lim]; omega)
          simp only [Go.Eng.e2] at happ
          simp (maxSteps := 4000000) -implicitDefEqProofs -dsimp (disch := omega) only [↓AW_skip, ↓AW_ops, ↓AW_seq, ↓AW_cond, ↓AW_block, ↓AOps_nil, ↓AOps_pu, ↓AOps_ld, ↓AOps_ha, ↓AOps_guard, on_some, extK_false, extK_app, guardB_tt, guardB_ft, skipS_some, condB_t, condB_f, ↓then_normal, ↓inBlock_normal, pval, lval, hval_blds, hval_app, rd_S, rd_C, put_S, chkd, isAdr, bput, bgot, cells_agg, splice, partA, fillA, repl, eq_self, mk, List.foldl_cons, List.foldl_nil, List.replicate_succ, List.replicate_zero, List.set_cons_zero, List.set_cons_succ, List.getElem?_cons_zero, List.getElem?_cons_succ, List.drop_zero, List.drop_succ_cons, List.drop_nil, List.take_zero, List.take_succ_cons, List.take_nil, Option.getD_some, map_c, map_n, List.length_cons, List.length_nil, Nat.reduceAdd, Nat.reduceLeDiff, Nat.reduceEqDiff, Nat.zero_add, List.nil_append, List.append_nil, bin_add, bin_sub, bin_eql, bin_lss, bin_geq, w64, if_true, if_false, Bool.false_eq_true, decide_true, decide_false, Go.Eng.e2, true_and, and_true, ne_eq, not_true_eq_false, hlt', hf1.idx hlt, hf1.ld0 hz 2 true (by decide), hlen, hk1, hk2, hu'.idx hkl, hu'.ld hw 1 1 false (by decide), h1, happ]
          refine ⟨(i + 1, v3, A3), ⟨hlt, ?_⟩, by simp [Has, rd_s], rfl, by simp only; omega⟩
          simp only
          rw [hpt]; exact h3
    · have hlt' : ¬ ((i : Int) < f.length) := by omega
      rw [List.take_of_length_le (by omega)] at hu
      simp (maxSteps := 4000000) -implicitDefEqProofs -dsimp (disch := omega) only [↓AW_ops, ↓AW_seq, ↓AW_cond, ↓AW_exit, ↓AW_ret, ↓AOps_nil, ↓AOps_pu, on_some, condB_f, ↓then_normal, ↓then_exit, ↓inBlock_exit, ↓Fin_ret, pval, rd_S, rd_C, put_S, resV, resL, eq_self, mk, List.foldl_cons, List.foldl_nil, List.replicate_succ, List.replicate_zero, List.set_cons_zero, List.set_cons_succ, List.getElem?_cons_zero, List.getElem?_cons_succ, Option.getD_some, bin_lss, if_true, decide_false, hlt']
      exact hu.gc2 flat_e2 (I 0) rfl
  · have hL : plL f = [] := by simp [plL, h0]
    rw [hL]
    simp (maxSteps := 4000000) -implicitDefEqProofs -dsimp (disch := omega) only [↓AW_ops, ↓AW_seq, ↓AW_cond, ↓AW_ret, ↓AOps_nil, ↓AOps_pu, on_some, extK_same, condB_t, ↓then_normal, ↓then_ret, ↓Fin_ret, pval, rd_S, rd_C, put_S, resV, resL, List.replicate_succ, List.replicate_zero, List.set_cons_zero, List.set_cons_succ, List.getElem?_cons_zero, List.getElem?_cons_succ, Option.getD_some, List.length_nil, Nat.reduceSub, List.cons_append, List.nil_append, bin_neq, decide_true, not_false_eq_true, h0]
    exact gc_same_all rfl rfl

set_option maxRecDepth 100000 in
theorem s47 {f : List (Int × Int)} {v : AV} {A : AHeap} (hf : L2 A v f) : ACalls Try.prog 47 [v] A (.tuple [outV 2 A (plL f).length, I (vE f)]) (outH A ((plL f).flatMap e2) (plL f).length) := by
  refine acalls hmix Try.func47 (by kernel_rfl) t47 1 rfl (by decide) ?_
  dsimp only [m47]
  simp (maxSteps := 4000000) -implicitDefEqProofs -dsimp (disch := omega) only [↓AW_ops, ↓AW_seq, ↓AOps_nil, ↓AOps_pu, ↓AOps_call, on_some, ↓then_normal, pval, rd_S, rd_C, put_S, List.replicate_succ, List.replicate_zero, List.set_cons_zero, List.set_cons_succ, List.getElem?_cons_zero, List.getElem?_cons_succ, Option.getD_some, map_c, map_n, Nat.reduceSub, List.cons_append, List.nil_append]
  refine CallK.of (s38 hf) ?_
  by_cases h0 : vE f = 0
  · have hg := (good_of h0).1
    have hl6 := hg.1
    have hL : plL f = pl f := by unfold plL; rw [if_pos h0]
    rw [hL, h0]
    simp (maxSteps := 4000000) -implicitDefEqProofs -dsimp (disch := omega) only [↓AW_skip, ↓AW_ops, ↓AW_seq, ↓AW_cond, ↓AW_block, ↓AOps_nil, ↓AOps_pu, on_some, extK_same, condB_f, ↓then_normal, pval, rd_S, rd_C, put_S, ↓AW_toLoop, eq_self, List.replicate_succ, List.replicate_zero, List.set_cons_zero, List.set_cons_succ, List.getElem?_cons_zero, List.getElem?_cons_succ, Option.getD_some, Nat.reduceSub, List.cons_append, List.nil_append, bin_neq, decide_false, not_true_eq_false]
    refine LoopK.by 72 (fun x : Nat × AV × AHeap => x.1 ≤ f.length ∧ AccL 2 e2 A x.2.2 x.2.1 (pl (f.take x.1))) (fun x => [(0, v), (5, x.2.1), (6, I x.1)]) (fun x => x.2.2) (fun x => f.length - x.1) (0, .nilS, A) ⟨by simp only; omega, AccL.nil (List.prefix_refl _)⟩ rfl (by simp [Has, rd_s]) rfl ?_
    rintro ⟨i, u, A1⟩ ⟨hi, hu⟩
    simp only at hi hu
    have hf1 := hf.mono hu.pre
    by_cases hlt : i < f.length
    · obtain ⟨z, hz⟩ : ∃ z, f[i]? = some z := ⟨_, List.getElem?_eq_getElem hlt⟩
      have hlt' : (i : Int) < f.length := by omega
      have hvz := all_get hg.2 hz
      have hz' := (vz_iff z).1 hvz
      obtain ⟨q1, _, q3, _⟩ := pl_facts (good_take hg i).2
      rw [List.length_take] at q3
      have hpt := pl_take hz
      generalize pl (f.take i) = out at *
      rcases Nat.eq_zero_or_pos out.length with hk0 | hk0
      · have : out = [] := List.eq_nil_of_length_eq_zero hk0
        subst this
        have hlen : lenA u = some (I 0) := (AccL_ls hu e2_len).len
        rw [pst_nil] at hpt
        obtain ⟨v3, A3, happ, h3⟩ := hu.push e2_len z (by simp [lim])
        simp only [Go.Eng.e2] at happ
        simp (maxSteps := 4000000) -implicitDefEqProofs -dsimp (disch := omega) only [↓AW_skip, ↓AW_ops, ↓AW_seq, ↓AW_cond, ↓AW_block, ↓AOps_nil, ↓AOps_pu, ↓AOps_ld, ↓AOps_ha, ↓AOps_guard, on_some, extK_false, extK_app, guardB_ft, skipS_some, condB_t, condB_f, ↓then_normal, ↓inBlock_normal, pval, lval, hval_blds, hval_app, rd_S, rd_C, put_S, cells_agg, splice, partA, fillA, repl, eq_self, mk, List.foldl_cons, List.foldl_nil, List.replicate_succ, List.replicate_zero, List.set_cons_zero, List.set_cons_succ, List.getElem?_cons_zero, List.getElem?_cons_succ, List.drop_zero, List.drop_succ_cons, List.drop_nil, List.take_zero, List.take_succ_cons, List.take_nil, Option.getD_some, map_c, map_n, List.length_cons, List.length_nil, Nat.reduceAdd, Nat.reduceLeDiff, Nat.reduceEqDiff, Nat.zero_add, List.nil_append, List.append_nil, bin_add, bin_sub, bin_lss, bin_geq, w64, if_true, if_false, Bool.false_eq_true, decide_true, decide_false, Go.Eng.e2, true_and, and_true, Int.reduceLE, Int.reduceNeg, Int.reduceSub, hlt', hf1.len, hf1.idx hlt, hf1.ld0 hz 2 true (by decide), hlen, happ]
        refine ⟨(i + 1, v3, A3), ⟨hlt, ?_⟩, by simp [Has, rd_s], rfl, by simp only; omega⟩
        simp only
        rw [hpt]; exact h3
      · obtain ⟨k, hk⟩ : ∃ k, out.length = k + 1 := ⟨out.length - 1, by omega⟩
        have hkl : k < out.length := by omega
        obtain ⟨w, hw⟩ : ∃ w, out[k]? = some w := ⟨_, List.getElem?_eq_getElem hkl⟩
        have hwe : out[k] = w := (List.getElem?_eq_some_iff.1 hw).2
        have hw' := (vz_iff w).1 (all_get q1 hw)
        have hu' := AccL_ls hu e2_len
        have hlen : lenA u = some (I ((k : Int) + 1)) := by rw [hu'.len, hk]; rfl
        have hk1 : (k : Int) + 1 - 1 = k := by omega
        have hk2 : (0 : Int) ≤ k := by omega
        have hp := pst_at (z := z) hk hw
        rw [hp] at hpt
        by_cases h1 : w.2 = z.2
        · by_cases h2 : w.1 + z.1 ≤ 20
          · rw [if_pos ⟨h1, h2⟩] at hpt
            obtain ⟨A3, hst, h3⟩ := AccL_st0 hu e2_len hkl 1 (I (w.1 + z.1)) [I (w.1 + z.1)] (w.1 + z.1, w.2) rfl rfl (by decide) (by rw [hwe]; rfl)
            simp (maxSteps := 4000000) -implicitDefEqProofs -dsimp (disch := omega) only [↓AW_skip, ↓AW_ops, ↓AW_seq, ↓AW_cond, ↓AW_block, ↓AOps_nil, ↓AOps_pu, ↓AOps_ld, ↓AOps_ha, ↓AOps_guard, on_some, extK_false, guardB_tt, condB_t, ↓then_normal, ↓inBlock_normal, pval, lval, hval_st, rd_S, rd_C, put_S, putS_none, partA, eq_self, mk, List.foldl_cons, List.foldl_nil, List.replicate_succ, List.replicate_zero, List.set_cons_zero, List.set_cons_succ, List.getElem?_cons_zero, List.getElem?_cons_succ, List.drop_zero, List.drop_succ_cons, List.take_zero, List.take_succ_cons, List.take_nil, Option.getD_some, Option.map_some, List.length_cons, List.length_nil, Nat.reduceAdd, Nat.reduceLeDiff, Nat.zero_add, Nat.add_zero, bin_add, bin_sub, bin_eql, bin_lss, bin_leq, bin_geq, w64, if_true, if_false, Bool.false_eq_true, decide_true, Go.Eng.e2, true_and, hlt', hf1.len, hf1.idx hlt, hf1.ld0 hz 1 false (by decide), hf1.ld hz 1 1 false (by decide), hlen, hk1, hk2, hu'.idx hkl, hu'.ld0 hw 1 false (by decide), hu'.ld hw 1 1 false (by decide), h1, h2, hst]
            refine ⟨(i + 1, u, A3), ⟨hlt, ?_⟩, by simp [Has, rd_s], rfl, by simp only; omega⟩
            simp only
            rw [hpt]; exact h3
          · rw [if_neg (fun h => h2 h.2)] at hpt
            obtain ⟨v3, A3, happ, h3⟩ := hu.push e2_len z (by simp [lim]; omega)
            simp only [Go.Eng.e2] at happ
            simp (maxSteps := 4000000) -implicitDefEqProofs -dsimp (disch := omega) only [↓AW_skip, ↓AW_ops, ↓AW_seq, ↓AW_cond, ↓AW_block, ↓AOps_nil, ↓AOps_pu, ↓AOps_ld, ↓AOps_ha, ↓AOps_guard, on_some, extK_false, extK_app, guardB_tt, condB_t, condB_f, ↓then_normal, ↓inBlock_normal, pval, lval, hval_blds, hval_app, rd_S, rd_C, put_S, cells_agg, splice, partA, fillA, repl, eq_self, mk, List.foldl_cons, List.foldl_nil, List.replicate_succ, List.replicate_zero, List.set_cons_zero, List.set_cons_succ, List.getElem?_cons_zero, List.getElem?_cons_succ, List.drop_zero, List.drop_succ_cons, List.drop_nil, List.take_zero, List.take_succ_cons, List.take_nil, Option.getD_some, map_c, map_n, List.length_cons, List.length_nil, Nat.reduceAdd, Nat.reduceLeDiff, Nat.reduceEqDiff, Nat.zero_add, Nat.add_zero, List.nil_append, List.append_nil, bin_add, bin_sub, bin_eql, bin_lss, bin_leq, bin_geq, w64, if_true, if_false, Bool.false_eq_true, decide_true, decide_false, Go.Eng.e2, true_and, and_true, hlt', hf1.len, hf1.idx hlt, hf1.ld0 hz 2 true (by decide), hf1.ld0 hz 1 false (by decide), hf1.ld hz 1 1 false (by decide), hlen, hk1, hk2, hu'.idx hkl, hu'.ld0 hw 1 false (by decide), hu'.ld hw 1 1 false (by decide), h1, h2, happ]
            refine ⟨(i + 1, v3, A3), ⟨hlt, ?_⟩, by simp [Has, rd_s], rfl, by simp only; omega⟩
            simp only
            rw [hpt]; exact h3
        · rw [if_neg (fun h => h1 h.1)] at hpt
          obtain ⟨v3, A3, happ, h3⟩ := hu.push e2_len z (by simp [lim]; omega)
          simp only [Go.Eng.e2] at happ
          simp (maxSteps := 4000000) -implicitDefEqProofs -dsimp (disch := omega) only [↓AW_skip, ↓AW_ops, ↓AW_seq, ↓AW_cond, ↓AW_block, ↓AOps_nil, ↓AOps_pu, ↓AOps_ld, ↓AOps_ha, ↓AOps_guard, on_some, extK_false, extK_app, guardB_tt, guardB_ft, skipS_some, condB_t, condB_f, ↓then_normal, ↓inBlock_normal, pval, lval, hval_blds, hval_app, rd_S, rd_C, put_S, cells_agg, splice, partA, fillA, repl, eq_self, mk, List.foldl_cons, List.foldl_nil, List.replicate_succ, List.replicate_zero, List.set_cons_zero, List.set_cons_succ, List.getElem?_cons_zero, List.getElem?_cons_succ, List.drop_zero, List.drop_succ_cons, List.drop_nil, List.take_zero, List.take_succ_cons, List.take_nil, Option.getD_some, map_c, map_n, List.length_cons, List.length_nil, Nat.reduceAdd, Nat.reduceLeDiff, Nat.reduceEqDiff, Nat.zero_add, List.nil_append, List.append_nil, bin_add, bin_sub, bin_eql, bin_lss, bin_geq, w64, if_true, if_false, Bool.false_eq_true, decide_true, decide_false, Go.Eng.e2, true_and, and_true, hlt', hf1.len, hf1.idx hlt, hf1.ld0 hz 2 true (by decide), hf1.ld hz 1 1 false (by decide), hlen, hk1, hk2, hu'.idx hkl, hu'.ld hw 1 1 false (by decide), h1, happ]
          refine ⟨(i + 1, v3, A3), ⟨hlt, ?_⟩, by simp [Has, rd_s], rfl, by simp only; omega⟩
          simp only
          rw [hpt]; exact h3
    · have hlt' : ¬ ((i : Int) < f.length) := by omega
      rw [List.take_of_length_le (by omega)] at hu
      simp (maxSteps := 4000000) -implicitDefEqProofs -dsimp (disch := omega) only [↓AW_ops, ↓AW_seq, ↓AW_cond, ↓AW_exit, ↓AW_ret, ↓AOps_nil, ↓AOps_pu, on_some, condB_f, ↓then_normal, ↓then_exit, ↓inBlock_exit, ↓Fin_ret, pval, rd_S, rd_C, put_S, resV, resL, eq_self, mk, List.foldl_cons, List.foldl_nil, List.replicate_succ, List.replicate_zero, List.set_cons_zero, List.set_cons_succ, List.getElem?_cons_zero, List.getElem?_cons_succ, Option.getD_some, bin_lss, if_true, decide_false, hlt', hf1.len]
      exact hu.gc2 flat_e2 (I 0) rfl
  · have hL : plL f = [] := by simp [plL, h0]
    rw [hL]
    simp (maxSteps := 4000000) -implicitDefEqProofs -dsimp (disch := omega) only [↓AW_ops, ↓AW_seq, ↓AW_cond, ↓AW_ret, ↓AOps_nil, ↓AOps_pu, on_some, extK_same, condB_t, ↓then_normal, ↓then_ret, ↓Fin_ret, pval, rd_S, rd_C, put_S, resV, resL, List.replicate_succ, List.replicate_zero, List.set_cons_zero, List.set_cons_succ, List.getElem?_cons_zero, List.getElem?_cons_succ, Option.getD_some, List.length_nil, Nat.reduceSub, List.cons_append, List.nil_append, bin_neq, decide_true, not_false_eq_true, h0]
    exact gc_same_all rfl rfl

theorem plL_facts {f : List (Int × Int)} : (plL f).length ≤ f.length ∧ (vE f = 0 → vE (plL f) = 0 ∧ units (plL f) = units f) := by
  by_cases h0 : vE f = 0
  · have hL : plL f = pl f := by unfold plL; rw [if_pos h0]
    obtain ⟨hg, h1⟩ := good_of h0
    obtain ⟨q1, q2, q3, q4⟩ := pl_facts hg.2
    have := hg.1
    rw [hL]
    exact ⟨q3, fun _ => ⟨vE_good (by have := q4 h1; omega) q1, q2⟩⟩
  · have hL : plL f = [] := by simp [plL, h0]
    rw [hL]
    exact ⟨by simp, fun h => absurd h h0⟩

set_option maxRecDepth 100000 in
set_option maxHeartbeats 4000000 in
theorem s11 {f g : List (Int × Int)} {v u : AV} {A : AHeap} (hf : L2 A v f) (hg : L2 A u g) : ACalls Try.prog 11 [v, u] A (B true) A := by
  refine acalls hmix Try.func11 (by kernel_rfl) t11 2 rfl (by decide) ?_
  dsimp only [m11]
  simp (maxSteps := 4000000) -implicitDefEqProofs -dsimp (disch := omega) only [↓AW_ops, ↓AW_seq, ↓AOps_nil, ↓AOps_pu, ↓AOps_call, on_some, ↓then_normal, pval, rd_S, rd_C, put_S, List.replicate_succ, List.replicate_zero, List.set_cons_zero, List.set_cons_succ, List.getElem?_cons_zero, List.getElem?_cons_succ, Option.getD_some, map_c, map_n, Nat.reduceSub, List.cons_append, List.nil_append]
  refine CallK.of (s18 hf hg) ?_
  by_cases h : (100 : Int) < f.length ∨ (100 : Int) < g.length
  · simp (maxSteps := 4000000) -implicitDefEqProofs -dsimp (disch := omega) only [↓AW_ops, ↓AW_seq, ↓AW_cond, ↓AOps_nil, ↓AOps_call, extK_same, condB_t, ↓then_normal, rd_S, put_S, List.replicate_succ, List.replicate_zero, List.set_cons_zero, List.set_cons_succ, List.getElem?_cons_zero, List.getElem?_cons_succ, Option.getD_some, map_n, Nat.reduceSub, List.cons_append, List.nil_append, decide_true, h]
    refine CallK.of (known A) ?_
    simp (maxSteps := 4000000) -implicitDefEqProofs -dsimp (disch := omega) only [↓AW_ret, ↓AOps_nil, ↓AOps_pu, on_some, extK_same, ↓then_normal, ↓then_ret, ↓Fin_ret, pval, rd_S, put_S, resV, resL, List.replicate_succ, List.replicate_zero, List.set_cons_zero, List.set_cons_succ, List.getElem?_cons_zero, List.getElem?_cons_succ, Option.getD_some, Nat.reduceSub, List.cons_append, List.nil_append]
    exact gc_same rfl
  · have hfl : f.length ≤ 100 := by omega
    obtain ⟨w, n, A1, happ, ho⟩ := app_new hf (by simp [lim]; omega)
    have p1 := ho.pre
    have hw := ho.ls
    obtain ⟨l1, l2⟩ := plL_facts (f := f)
    simp (maxSteps := 4000000) -implicitDefEqProofs -dsimp (disch := omega) only [↓AW_skip, ↓AW_ops, ↓AW_seq, ↓AW_cond, ↓AOps_nil, ↓AOps_pu, ↓AOps_ha, ↓AOps_call, on_some, extK_false, extK_app, extK_same, condB_f, ↓then_normal, pval, hval_blds, hval_app, rd_S, put_S, fillA, repl, List.replicate_succ, List.replicate_zero, List.set_cons_zero, List.set_cons_succ, List.getElem?_cons_zero, List.getElem?_cons_succ, Option.getD_some, map_c, map_n, Nat.reduceSub, List.cons_append, List.nil_append, decide_false, h, List.replicate_zero, repl, happ]
    refine CallK.of (s46 hw) ?_
    have p2 := pre_out A1 ((plL f).flatMap Go.Eng.e2) (plL f).length
    have hL1 := Ls_out A1 e2_len (plL f)
    have hO : 0 < (plL f).length → OL 2 Go.Eng.e2 A1 (outH A1 ((plL f).flatMap Go.Eng.e2) (plL f).length) A1.length (outV 2 A1 (plL f).length) (plL f) := fun h => OL_out e2_len A1 (plL f) h
    generalize outH A1 ((plL f).flatMap Go.Eng.e2) (plL f).length = A2 at *
    generalize outV 2 A1 (plL f).length = y1 at *
    have p12 := p1.trans p2
    simp (maxSteps := 4000000) -implicitDefEqProofs -dsimp (disch := omega) only [↓AW_ops, ↓AW_seq, ↓AOps_nil, ↓AOps_pu, ↓AOps_call, on_some, extK_false, ↓then_normal, pval, rd_S, put_S, List.replicate_succ, List.replicate_zero, List.set_cons_zero, List.set_cons_succ, List.getElem?_cons_zero, List.getElem?_cons_succ, Option.getD_some, map_c, map_n, Nat.reduceSub, List.cons_append, List.nil_append]
    refine CallK.of (s47 (hf.mono p12)) ?_
    have p3 := pre_out A2 ((plL f).flatMap Go.Eng.e2) (plL f).length
    have hL2 := Ls_out A2 e2_len (plL f)
    generalize outH A2 ((plL f).flatMap Go.Eng.e2) (plL f).length = A3 at *
    generalize outV 2 A2 (plL f).length = y2 at *
    have p13 := p12.trans p3
    have hL := hL1.mono p3
    have hf3 := hf.mono p13
    have hg3 := hg.mono p13
    simp (maxSteps := 4000000) -implicitDefEqProofs -dsimp (disch := omega) only [↓AW_ops, ↓AW_seq, ↓AOps_nil, ↓AOps_pu, ↓AOps_call, on_some, extK_false, ↓then_normal, pval, rd_S, put_S, List.replicate_succ, List.replicate_zero, List.set_cons_zero, List.set_cons_succ, List.getElem?_cons_zero, List.getElem?_cons_succ, Option.getD_some, map_c, map_n, Nat.reduceSub, List.cons_append, List.nil_append]
    refine CallK.of (s48 hf3 hg3) ?_
    simp (maxSteps := 4000000) -implicitDefEqProofs -dsimp (disch := omega) only [↓AW_ops, ↓AW_seq, ↓AOps_nil, ↓AOps_pu, ↓AOps_call, on_some, extK_same, ↓then_normal, pval, rd_S, put_S, List.replicate_succ, List.replicate_zero, List.set_cons_zero, List.set_cons_succ, List.getElem?_cons_zero, List.getElem?_cons_succ, Option.getD_some, map_c, map_n, Nat.reduceSub, List.cons_append, List.nil_append]
    refine CallK.of (s49 hf3 hg3) ?_
    simp (maxSteps := 4000000) -implicitDefEqProofs -dsimp (disch := omega) only [↓AW_ops, ↓AW_seq, ↓AOps_nil, ↓AOps_pu, ↓AOps_call, ↓AOps_guard, on_some, extK_same, guardB_ff, ↓then_normal, pval, rd_S, put_S, eq_self, List.replicate_succ, List.replicate_zero, List.set_cons_zero, List.set_cons_succ, List.getElem?_cons_zero, List.getElem?_cons_succ, Option.getD_some, map_c, map_n, Nat.reduceSub, List.cons_append, List.nil_append, bin_neq, decide_false, not_true_eq_false]
    refine CallK.of (s43 hL hL2 (by omega)) ?_
    rw [decide_eq_true (rfl : plL f = plL f)]
    simp (maxSteps := 4000000) -implicitDefEqProofs -dsimp (disch := omega) only [↓AW_skip, ↓AW_ops, ↓AW_seq, ↓AW_cond, ↓AOps_nil, ↓AOps_pu, ↓AOps_call, ↓AOps_guard, on_some, extK_same, guardB_ff, condB_f, ↓then_normal, pval, rd_S, rd_C, put_S, beq_self_eq_true, eq_self, List.replicate_succ, List.replicate_zero, List.set_cons_zero, List.set_cons_succ, List.getElem?_cons_zero, List.getElem?_cons_succ, Option.getD_some, map_c, map_n, Nat.reduceSub, List.cons_append, List.nil_append, bin_neq, if_true, if_false, Bool.false_eq_true, Bool.not_true, decide_false, not_true_eq_false]
    refine CallK.of (s48 hL hf3) ?_
    have hw3 := hw.mono (p2.trans p3)
    have hsame : vE f = 0 → v2E (plL f) f = 0 ∧ units (plL f) = units f := fun h0 => ⟨by simp [v2E, (l2 h0).1, h0], (l2 h0).2⟩
    have key : ∀ A4, A3 <+: A4 → A1 <+: A4 := fun A4 h => p2.trans (p3.trans h)
    by_cases h0 : vE f = 0
    · obtain ⟨hs1, hs2⟩ := hsame h0
      simp (maxSteps := 4000000) -implicitDefEqProofs -dsimp (disch := omega) only [↓AW_skip, ↓AW_ops, ↓AW_seq, ↓AW_cond, ↓AW_block, ↓AOps_nil, ↓AOps_pu, ↓AOps_guard, on_some, extK_same, guardB_tt, guardB_ff, condB_f, ↓then_normal, pval, rd_S, rd_C, put_S, ↓AW_toLoop, eq_self, List.replicate_succ, List.replicate_zero, List.set_cons_zero, List.set_cons_succ, List.getElem?_cons_zero, List.getElem?_cons_succ, Option.getD_some, Nat.reduceSub, List.cons_append, List.nil_append, bin_eql, bin_neq, if_true, if_false, Bool.false_eq_true, Bool.not_true, decide_true, decide_false, and_true, not_true_eq_false, h0, hs1, hs2]
      refine LoopK.by 97 (fun x : Nat × AHeap × List (Int × Int) => x.1 ≤ (plL f).length ∧ A1 <+: x.2.1 ∧ (0 < (plL f).length → OL 2 Go.Eng.e2 A1 x.2.1 A1.length y1 x.2.2 ∧ x.2.2.length = (plL f).length)) (fun x => [(0, v), (5, w), (6, y1), (16, I x.1)]) (fun x => x.2.1) (fun x => (plL f).length - x.1) (0, A3, plL f) ⟨by simp only; omega, p2.trans p3, fun h => ⟨(hO h).mono p3, rfl⟩⟩ rfl (by simp [Has, rd_s]) rfl ?_
      rintro ⟨i, A4, zs⟩ ⟨hi, hp4, ho4⟩
      simp only at hi hp4 ho4
      have hlen : lenA y1 = some (I ((plL f).length : Int)) := hL1.len
      by_cases hlt : i < (plL f).length
      · obtain ⟨ho5, hzl⟩ := ho4 (by omega)
        have hiz : i < zs.length := by omega
        have hlt' : (i : Int) < (plL f).length := by omega
        have hst := OL_st0 ho5 hiz 1 (I (-1)) [I (-1)] (-1, (zs[i]).2) rfl rfl (by decide) rfl
        simp (maxSteps := 4000000) -implicitDefEqProofs -dsimp (disch := omega) only [↓AW_skip, ↓AW_ops, ↓AW_seq, ↓AW_cond, ↓AW_block, ↓AOps_nil, ↓AOps_pu, ↓AOps_ha, on_some, extK_false, condB_t, ↓then_normal, ↓inBlock_normal, pval, hval_st, rd_S, rd_C, put_S, putS_none, eq_self, mk, List.foldl_cons, List.foldl_nil, List.replicate_succ, List.replicate_zero, List.set_cons_zero, List.set_cons_succ, List.getElem?_cons_zero, List.getElem?_cons_succ, Option.getD_some, Option.map_some, List.length_cons, List.length_nil, Nat.reduceAdd, Nat.zero_add, Nat.add_zero, bin_add, bin_lss, w64, decide_true, true_and, Int.reduceNeg, hlt', hlen, ho5.ls.idx hiz, hst]
        exact ⟨(i + 1, _, zs.set i (-1, (zs[i]).2)), ⟨hlt, ho5.old _, fun _ => ⟨ho5.set i _, by simp [hzl]⟩⟩, by simp [Has, rd_s], rfl, by simp only; omega⟩
      · have hlt' : ¬ ((i : Int) < (plL f).length) := by omega
        simp (maxSteps := 4000000) -implicitDefEqProofs -dsimp (disch := omega) only [↓AW_ops, ↓AW_seq, ↓AW_cond, ↓AW_exit, ↓AOps_nil, ↓AOps_pu, ↓AOps_call, on_some, condB_f, ↓then_normal, ↓then_exit, ↓inBlock_exit, pval, rd_S, put_S, eq_self, mk, List.foldl_cons, List.foldl_nil, List.replicate_succ, List.replicate_zero, List.set_cons_zero, List.set_cons_succ, List.getElem?_cons_zero, List.getElem?_cons_succ, Option.getD_some, map_c, map_n, bin_lss, if_true, decide_false, hlt', hlen]
        refine CallK.of (s43 (hw.mono hp4) (hf.mono (p1.trans hp4)) (by omega)) ?_
        rw [decide_eq_true (rfl : f = f)]
        simp (maxSteps := 4000000) -implicitDefEqProofs -dsimp (disch := omega) only [↓AOps_pu, ↓AOps_call, ↓AOps_guard, on_some, extK_same, guardB_tt, pval, rd_S, put_S, mk, List.foldl_cons, List.foldl_nil, List.replicate_succ, List.replicate_zero, List.set_cons_zero, List.set_cons_succ, List.getElem?_cons_zero, List.getElem?_cons_succ, Option.getD_some, map_n]
        refine CallK.of (known _) ?_
        simp (maxSteps := 4000000) -implicitDefEqProofs -dsimp (disch := omega) only [↓AW_ret, ↓AOps_nil, ↓AOps_pu, on_some, extK_same, ↓then_normal, ↓Fin_ret, pval, rd_S, rd_C, put_S, resV, resL, eq_self, mk, List.foldl_cons, List.foldl_nil, List.replicate_succ, List.replicate_zero, List.set_cons_zero, List.set_cons_succ, List.getElem?_cons_zero, List.getElem?_cons_succ, Option.getD_some, if_true]
        exact gc_val (p1.trans hp4) rfl
    · simp (maxSteps := 4000000) -implicitDefEqProofs -dsimp (disch := omega) only [↓AW_skip, ↓AW_ops, ↓AW_seq, ↓AW_cond, ↓AW_block, ↓AOps_nil, ↓AOps_pu, ↓AOps_guard, on_some, extK_same, guardB_ft, guardB_undef, skipS_some, condB_f, ↓then_normal, pval, rd_S, rd_C, put_S, ↓AW_toLoop, List.replicate_succ, List.replicate_zero, List.set_cons_zero, List.set_cons_succ, List.getElem?_cons_zero, List.getElem?_cons_succ, Option.getD_some, Nat.reduceSub, List.cons_append, List.nil_append, bin_eql, if_false, Bool.false_eq_true, decide_false, h0]
      refine LoopK.by 97 (fun x : Nat × AHeap × List (Int × Int) => x.1 ≤ (plL f).length ∧ A1 <+: x.2.1 ∧ (0 < (plL f).length → OL 2 Go.Eng.e2 A1 x.2.1 A1.length y1 x.2.2 ∧ x.2.2.length = (plL f).length)) (fun x => [(0, v), (5, w), (6, y1), (16, I x.1)]) (fun x => x.2.1) (fun x => (plL f).length - x.1) (0, A3, plL f) ⟨by simp only; omega, p2.trans p3, fun h => ⟨(hO h).mono p3, rfl⟩⟩ rfl (by simp [Has, rd_s]) rfl ?_
      rintro ⟨i, A4, zs⟩ ⟨hi, hp4, ho4⟩
      simp only at hi hp4 ho4
      have hlen : lenA y1 = some (I ((plL f).length : Int)) := hL1.len
      by_cases hlt : i < (plL f).length
      · obtain ⟨ho5, hzl⟩ := ho4 (by omega)
        have hiz : i < zs.length := by omega
        have hlt' : (i : Int) < (plL f).length := by omega
        have hst := OL_st0 ho5 hiz 1 (I (-1)) [I (-1)] (-1, (zs[i]).2) rfl rfl (by decide) rfl
        simp (maxSteps := 4000000) -implicitDefEqProofs -dsimp (disch := omega) only [↓AW_skip, ↓AW_ops, ↓AW_seq, ↓AW_cond, ↓AW_block, ↓AOps_nil, ↓AOps_pu, ↓AOps_ha, on_some, extK_false, condB_t, ↓then_normal, ↓inBlock_normal, pval, hval_st, rd_S, rd_C, put_S, putS_none, eq_self, mk, List.foldl_cons, List.foldl_nil, List.replicate_succ, List.replicate_zero, List.set_cons_zero, List.set_cons_succ, List.getElem?_cons_zero, List.getElem?_cons_succ, Option.getD_some, Option.map_some, List.length_cons, List.length_nil, Nat.reduceAdd, Nat.zero_add, Nat.add_zero, bin_add, bin_lss, w64, decide_true, true_and, Int.reduceNeg, hlt', hlen, ho5.ls.idx hiz, hst]
        exact ⟨(i + 1, _, zs.set i (-1, (zs[i]).2)), ⟨hlt, ho5.old _, fun _ => ⟨ho5.set i _, by simp [hzl]⟩⟩, by simp [Has, rd_s], rfl, by simp only; omega⟩
      · have hlt' : ¬ ((i : Int) < (plL f).length) := by omega
        simp (maxSteps := 4000000) -implicitDefEqProofs -dsimp (disch := omega) only [↓AW_ops, ↓AW_seq, ↓AW_cond, ↓AW_exit, ↓AOps_nil, ↓AOps_pu, ↓AOps_call, on_some, condB_f, ↓then_normal, ↓then_exit, ↓inBlock_exit, pval, rd_S, put_S, eq_self, mk, List.foldl_cons, List.foldl_nil, List.replicate_succ, List.replicate_zero, List.set_cons_zero, List.set_cons_succ, List.getElem?_cons_zero, List.getElem?_cons_succ, Option.getD_some, map_c, map_n, bin_lss, if_true, decide_false, hlt', hlen]
        refine CallK.of (s43 (hw.mono hp4) (hf.mono (p1.trans hp4)) (by omega)) ?_
        rw [decide_eq_true (rfl : f = f)]
        simp (maxSteps := 4000000) -implicitDefEqProofs -dsimp (disch := omega) only [↓AOps_pu, ↓AOps_call, ↓AOps_guard, on_some, extK_same, guardB_tt, pval, rd_S, put_S, mk, List.foldl_cons, List.foldl_nil, List.replicate_succ, List.replicate_zero, List.set_cons_zero, List.set_cons_succ, List.getElem?_cons_zero, List.getElem?_cons_succ, Option.getD_some, map_n]
        refine CallK.of (known _) ?_
        simp (maxSteps := 4000000) -implicitDefEqProofs -dsimp (disch := omega) only [↓AW_ret, ↓AOps_nil, ↓AOps_pu, on_some, extK_same, ↓then_normal, ↓Fin_ret, pval, rd_S, rd_C, put_S, resV, resL, eq_self, mk, List.foldl_cons, List.foldl_nil, List.replicate_succ, List.replicate_zero, List.set_cons_zero, List.set_cons_succ, List.getElem?_cons_zero, List.getElem?_cons_succ, Option.getD_some, if_true]
        exact gc_val (p1.trans hp4) rfl

end Go.Proofs.Ytnnbggcckabhdaa
