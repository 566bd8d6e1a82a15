/- Soil: lists that are the same, fractions that can be reckoned with, and worth that adds up. No conditions. -/
import Derived.Test.YtnnbggcckabhdaaW12
import Derived.Test.YtnnbggcckabhdaaM3
import Derived.Test.YtnnbggcckabhdaaM5
namespace Go.Proofs.Ytnnbggcckabhdaa
open Go Go.Eng

theorem take_succ_eq {α : Type} {xs ys : List α} {i : Nat} {z w : α} (hz : xs[i]? = some z) (hw : ys[i]? = some w) : xs.take (i + 1) = ys.take (i + 1) ↔ xs.take i = ys.take i ∧ z = w := by
  rw [List.take_add_one, List.take_add_one, hz, hw]
  have hi : i < xs.length := (List.getElem?_eq_some_iff.1 hz).1
  have hj : i < ys.length := (List.getElem?_eq_some_iff.1 hw).1
  constructor
  · intro h
    have := List.append_inj h (by simp; omega)
    exact ⟨this.1, by simpa using this.2⟩
  · rintro ⟨h1, rfl⟩
    rw [h1]

theorem pair_beq {z w : Int × Int} (h : z ≠ w) : (z.1 == w.1 && z.2 == w.2) = false := by
  cases hb : (z.1 == w.1 && z.2 == w.2) with
  | false => rfl
  | true => simp at hb; exact absurd (Prod.ext hb.1 hb.2) h

theorem s22 {xs ys : List (Int × Int)} {v u : AV} {A : AHeap} (hx : L2 A v xs) (hy : L2 A u ys) (hl : xs.length ≤ 1000000) : ACalls Try.prog 22 [v, u] A (B (decide (xs = ys))) A := by
  refine acalls hmix Try.func22 (by kernel_rfl) t22 2 rfl (by decide) ?_
  by_cases hle : xs.length = ys.length
  · have hle' : (xs.length : Int) = ys.length := by omega
    dsimp only [m22]
    simp (maxSteps := 4000000) -implicitDefEqProofs -dsimp (disch := omega) only [↓AW_skip, ↓AW_ops, ↓AW_seq, ↓AW_cond, ↓AW_block, ↓AOps_nil, ↓AOps_pu, on_some, condB_f, ↓then_normal, pval, rd_S, rd_C, put_S, ↓AW_toLoop, eq_self, List.replicate_succ, List.replicate_zero, List.set_cons_zero, List.set_cons_succ, List.getElem?_cons_zero, List.getElem?_cons_succ, Option.getD_some, Nat.reduceSub, List.cons_append, List.nil_append, bin_neq, decide_false, not_true_eq_false, hx.len, hy.len, hle']
    refine LoopK.by 26 (fun i : Nat => i ≤ xs.length ∧ xs.take i = ys.take i) (fun i => [(0, v), (1, u), (5, I i)]) (fun _ => A) (fun i => xs.length - i) 0 ⟨by omega, rfl⟩ rfl (by simp [Has, rd_s]) rfl ?_
    rintro i ⟨hi, he⟩
    by_cases hlt : i < xs.length
    · obtain ⟨z, hz⟩ : ∃ z, xs[i]? = some z := ⟨_, List.getElem?_eq_getElem hlt⟩
      have hlt' : (i : Int) < xs.length := by omega
      have hlt2 : i < ys.length := by omega
      obtain ⟨w, hw⟩ : ∃ w, ys[i]? = some w := ⟨_, List.getElem?_eq_getElem hlt2⟩
      by_cases hzw : z = w
      · subst hzw
        simp (maxSteps := 4000000) -implicitDefEqProofs -dsimp (disch := omega) only [↓AW_skip, ↓AW_ops, ↓AW_seq, ↓AW_cond, ↓AW_block, ↓AOps_nil, ↓AOps_pu, ↓AOps_ld, on_some, condB_t, condB_f, ↓then_normal, ↓inBlock_normal, pval, lval, rd_S, rd_C, put_S, partA, eqc, beq_self_eq_true, eq_self, mk, List.foldl_cons, List.foldl_nil, List.replicate_succ, List.replicate_zero, List.set_cons_zero, List.set_cons_succ, List.getElem?_cons_zero, List.getElem?_cons_succ, List.drop_zero, List.take_succ_cons, List.take_nil, Option.getD_some, Option.map_some, List.length_cons, List.length_nil, Nat.reduceAdd, Nat.reduceLeDiff, Nat.reduceEqDiff, Nat.zero_add, bin_add, bin_lss, w64, if_true, if_false, Bool.not_true, Bool.true_and, decide_true, Go.Eng.e2, true_and, hlt', hx.len, hx.idx hlt, hx.ld0 hz 2 true (by decide), hy.idx hlt2, hy.ld0 hw 2 true (by decide)]
        exact ⟨i + 1, ⟨hlt, (take_succ_eq hz hw).2 ⟨he, rfl⟩⟩, by simp [Has, rd_s], by omega⟩
      · have hb := pair_beq hzw
        simp (maxSteps := 4000000) -implicitDefEqProofs -dsimp (disch := omega) only [↓AW_skip, ↓AW_ops, ↓AW_seq, ↓AW_cond, ↓AW_block, ↓AW_ret, ↓AOps_nil, ↓AOps_pu, ↓AOps_ld, on_some, condB_t, ↓then_normal, ↓then_ret, ↓inBlock_ret, ↓Fin_ret, pval, lval, rd_S, rd_C, put_S, resV, resL, partA, eqc, Bool.and_true, eq_self, mk, List.foldl_cons, List.foldl_nil, List.replicate_succ, List.replicate_zero, List.set_cons_zero, List.set_cons_succ, List.getElem?_cons_zero, List.getElem?_cons_succ, List.drop_zero, List.take_succ_cons, List.take_nil, Option.getD_some, Option.map_some, List.length_cons, List.length_nil, Nat.reduceAdd, Nat.reduceLeDiff, Nat.reduceEqDiff, Nat.zero_add, bin_lss, if_true, if_false, Bool.not_false, decide_true, Go.Eng.e2, hlt', hx.len, hx.idx hlt, hx.ld0 hz 2 true (by decide), hy.idx hlt2, hy.ld0 hw 2 true (by decide), hb]
        refine gc_same ?_
        have : ¬ xs = ys := by rintro rfl; rw [hz] at hw; exact hzw (Option.some.inj hw)
        simp [this]
    · have hlt' : ¬ ((i : Int) < xs.length) := by omega
      simp (maxSteps := 4000000) -implicitDefEqProofs -dsimp (disch := omega) only [↓AW_ops, ↓AW_seq, ↓AW_cond, ↓AW_exit, ↓AW_ret, ↓AOps_nil, ↓AOps_pu, on_some, condB_f, ↓then_normal, ↓then_exit, ↓inBlock_exit, ↓Fin_ret, pval, rd_S, rd_C, put_S, resV, resL, eq_self, mk, List.foldl_cons, List.foldl_nil, List.replicate_succ, List.replicate_zero, List.set_cons_zero, List.set_cons_succ, List.getElem?_cons_zero, List.getElem?_cons_succ, Option.getD_some, bin_lss, if_true, decide_false, hlt', hx.len]
      rw [List.take_of_length_le (by omega), List.take_of_length_le (by omega)] at he
      exact gc_same (by simp [he])
  · have hle' : ¬ (xs.length : Int) = ys.length := by omega
    dsimp only [m22]
    simp (maxSteps := 4000000) -implicitDefEqProofs -dsimp (disch := omega) only [↓AW_ops, ↓AW_seq, ↓AW_cond, ↓AW_ret, ↓AOps_nil, ↓AOps_pu, on_some, condB_t, ↓then_normal, ↓then_ret, ↓Fin_ret, pval, rd_S, rd_C, put_S, resV, resL, List.replicate_succ, List.replicate_zero, List.set_cons_zero, List.set_cons_succ, List.getElem?_cons_zero, List.getElem?_cons_succ, Option.getD_some, Nat.reduceSub, List.cons_append, List.nil_append, bin_neq, decide_true, not_false_eq_true, hx.len, hy.len, hle']
    have : ¬ xs = ys := by rintro rfl; exact hle rfl
    exact gc_same (by simp [this])

theorem s43 {xs ys : List (Int × Int)} {v u : AV} {A : AHeap} (hx : L2 A v xs) (hy : L2 A u ys) (hl : xs.length ≤ 1000000) : ACalls Try.prog 43 [v, u] A (B (decide (xs = ys))) A := by
  refine acalls hmix Try.func43 (by kernel_rfl) t43 2 rfl (by decide) ?_
  by_cases hle : xs.length = ys.length
  · have hle' : (xs.length : Int) = ys.length := by omega
    dsimp only [m43]
    simp (maxSteps := 4000000) -implicitDefEqProofs -dsimp (disch := omega) only [↓AW_skip, ↓AW_ops, ↓AW_seq, ↓AW_cond, ↓AW_block, ↓AOps_nil, ↓AOps_pu, on_some, condB_f, ↓then_normal, pval, rd_S, rd_C, put_S, ↓AW_toLoop, eq_self, List.replicate_succ, List.replicate_zero, List.set_cons_zero, List.set_cons_succ, List.getElem?_cons_zero, List.getElem?_cons_succ, Option.getD_some, Nat.reduceSub, List.cons_append, List.nil_append, bin_neq, decide_false, not_true_eq_false, hx.len, hy.len, hle']
    refine LoopK.by 26 (fun i : Nat => i ≤ xs.length ∧ xs.take i = ys.take i) (fun i => [(0, v), (1, u), (5, I i)]) (fun _ => A) (fun i => xs.length - i) 0 ⟨by omega, rfl⟩ rfl (by simp [Has, rd_s]) rfl ?_
    rintro i ⟨hi, he⟩
    by_cases hlt : i < xs.length
    · obtain ⟨z, hz⟩ : ∃ z, xs[i]? = some z := ⟨_, List.getElem?_eq_getElem hlt⟩
      have hlt' : (i : Int) < xs.length := by omega
      have hlt2 : i < ys.length := by omega
      obtain ⟨w, hw⟩ : ∃ w, ys[i]? = some w := ⟨_, List.getElem?_eq_getElem hlt2⟩
      by_cases hzw : z = w
      · subst hzw
        simp (maxSteps := 4000000) -implicitDefEqProofs -dsimp (disch := omega) only [↓AW_skip, ↓AW_ops, ↓AW_seq, ↓AW_cond, ↓AW_block, ↓AOps_nil, ↓AOps_pu, ↓AOps_ld, on_some, condB_t, condB_f, ↓then_normal, ↓inBlock_normal, pval, lval, rd_S, rd_C, put_S, partA, eqc, beq_self_eq_true, eq_self, mk, List.foldl_cons, List.foldl_nil, List.replicate_succ, List.replicate_zero, List.set_cons_zero, List.set_cons_succ, List.getElem?_cons_zero, List.getElem?_cons_succ, List.drop_zero, List.take_succ_cons, List.take_nil, Option.getD_some, Option.map_some, List.length_cons, List.length_nil, Nat.reduceAdd, Nat.reduceLeDiff, Nat.reduceEqDiff, Nat.zero_add, bin_add, bin_lss, w64, if_true, if_false, Bool.not_true, Bool.true_and, decide_true, Go.Eng.e2, true_and, hlt', hx.len, hx.idx hlt, hx.ld0 hz 2 true (by decide), hy.idx hlt2, hy.ld0 hw 2 true (by decide)]
        exact ⟨i + 1, ⟨hlt, (take_succ_eq hz hw).2 ⟨he, rfl⟩⟩, by simp [Has, rd_s], by omega⟩
      · have hb := pair_beq hzw
        simp (maxSteps := 4000000) -implicitDefEqProofs -dsimp (disch := omega) only [↓AW_skip, ↓AW_ops, ↓AW_seq, ↓AW_cond, ↓AW_block, ↓AW_ret, ↓AOps_nil, ↓AOps_pu, ↓AOps_ld, on_some, condB_t, ↓then_normal, ↓then_ret, ↓inBlock_ret, ↓Fin_ret, pval, lval, rd_S, rd_C, put_S, resV, resL, partA, eqc, Bool.and_true, eq_self, mk, List.foldl_cons, List.foldl_nil, List.replicate_succ, List.replicate_zero, List.set_cons_zero, List.set_cons_succ, List.getElem?_cons_zero, List.getElem?_cons_succ, List.drop_zero, List.take_succ_cons, List.take_nil, Option.getD_some, Option.map_some, List.length_cons, List.length_nil, Nat.reduceAdd, Nat.reduceLeDiff, Nat.reduceEqDiff, Nat.zero_add, bin_lss, if_true, if_false, Bool.not_false, decide_true, Go.Eng.e2, hlt', hx.len, hx.idx hlt, hx.ld0 hz 2 true (by decide), hy.idx hlt2, hy.ld0 hw 2 true (by decide), hb]
        refine gc_same ?_
        have : ¬ xs = ys := by rintro rfl; rw [hz] at hw; exact hzw (Option.some.inj hw)
        simp [this]
    · have hlt' : ¬ ((i : Int) < xs.length) := by omega
      simp (maxSteps := 4000000) -implicitDefEqProofs -dsimp (disch := omega) only [↓AW_ops, ↓AW_seq, ↓AW_cond, ↓AW_exit, ↓AW_ret, ↓AOps_nil, ↓AOps_pu, on_some, condB_f, ↓then_normal, ↓then_exit, ↓inBlock_exit, ↓Fin_ret, pval, rd_S, rd_C, put_S, resV, resL, eq_self, mk, List.foldl_cons, List.foldl_nil, List.replicate_succ, List.replicate_zero, List.set_cons_zero, List.set_cons_succ, List.getElem?_cons_zero, List.getElem?_cons_succ, Option.getD_some, bin_lss, if_true, decide_false, hlt', hx.len]
      rw [List.take_of_length_le (by omega), List.take_of_length_le (by omega)] at he
      exact gc_same (by simp [he])
  · have hle' : ¬ (xs.length : Int) = ys.length := by omega
    dsimp only [m43]
    simp (maxSteps := 4000000) -implicitDefEqProofs -dsimp (disch := omega) only [↓AW_ops, ↓AW_seq, ↓AW_cond, ↓AW_ret, ↓AOps_nil, ↓AOps_pu, on_some, condB_t, ↓then_normal, ↓then_ret, ↓Fin_ret, pval, rd_S, rd_C, put_S, resV, resL, List.replicate_succ, List.replicate_zero, List.set_cons_zero, List.set_cons_succ, List.getElem?_cons_zero, List.getElem?_cons_succ, Option.getD_some, Nat.reduceSub, List.cons_append, List.nil_append, bin_neq, decide_true, not_false_eq_true, hx.len, hy.len, hle']
    have : ¬ xs = ys := by rintro rfl; exact hle rfl
    exact gc_same (by simp [this])

def fairR (r : Int × Int) : Prop := (1 ≤ r.2 ∧ r.2 ≤ 1073741824) ∧ (-35184372088832 ≤ r.1 ∧ r.1 ≤ 35184372088832)
instance (r : Int × Int) : Decidable (fairR r) := by unfold fairR; exact inferInstance

theorem s23 {xs : List (Int × Int)} {v : AV} {A : AHeap} (hx : L2 A v xs) (hl : xs.length ≤ 1000000) : ACalls Try.prog 23 [v] A (B (decide (∀ r ∈ xs, fairR r))) A := by
  refine acalls hmix Try.func23 (by kernel_rfl) t23 1 rfl (by decide) ?_
  dsimp only [m23]
  simp (maxSteps := 4000000) -implicitDefEqProofs -dsimp (disch := omega) only [↓AW_ops, ↓AW_seq, ↓AW_block, ↓AOps_nil, ↓AOps_pu, on_some, ↓then_normal, pval, rd_C, put_S, ↓AW_toLoop, List.replicate_succ, List.replicate_zero, List.set_cons_zero, List.set_cons_succ, Nat.reduceSub, List.cons_append, List.nil_append]
  refine LoopK.by 40 (fun i : Nat => i ≤ xs.length ∧ ∀ r ∈ xs.take i, fairR r) (fun i => [(0, v), (3, I i)]) (fun _ => A) (fun i => xs.length - i) 0 ⟨by omega, by simp⟩ rfl (by simp [Has, rd_s]) rfl ?_
  rintro i ⟨hi, he⟩
  by_cases hlt : i < xs.length
  · obtain ⟨z, hz⟩ : ∃ z, xs[i]? = some z := ⟨_, List.getElem?_eq_getElem hlt⟩
    have hlt' : (i : Int) < xs.length := by omega
    have bad : ¬ fairR z → decide (∀ r ∈ xs, fairR r) = false := fun h => by
      rw [decide_eq_false_iff_not]
      exact fun h2 => h (h2 z (List.mem_of_getElem? hz))
    by_cases h1 : z.2 < 1
    · simp (maxSteps := 4000000) -implicitDefEqProofs -dsimp (disch := omega) only [↓AW_skip, ↓AW_ops, ↓AW_seq, ↓AW_cond, ↓AW_block, ↓AW_ret, ↓AOps_nil, ↓AOps_pu, ↓AOps_ld, ↓AOps_guard, on_some, guardB_tf, skipS_some, condB_t, ↓then_normal, ↓then_ret, ↓inBlock_ret, ↓Fin_ret, pval, lval, rd_S, rd_C, put_S, resV, resL, partA, eq_self, mk, List.foldl_cons, List.foldl_nil, List.replicate_succ, List.replicate_zero, List.set_cons_zero, List.set_cons_succ, List.getElem?_cons_zero, List.getElem?_cons_succ, List.drop_zero, List.drop_succ_cons, List.take_succ_cons, List.take_nil, Option.getD_some, List.length_cons, List.length_nil, Nat.reduceAdd, Nat.reduceLeDiff, Nat.zero_add, bin_lss, if_true, if_false, Bool.false_eq_true, decide_true, Go.Eng.e2, Int.reduceNeg, hlt', hx.len, hx.idx hlt, hx.ld hz 1 1 false (by decide), h1]
      exact gc_same (by rw [bad (fun h => by have := h.1.1; omega)])
    · by_cases h2 : 1073741824 < z.2
      · simp (maxSteps := 4000000) -implicitDefEqProofs -dsimp (disch := omega) only [↓AW_skip, ↓AW_ops, ↓AW_seq, ↓AW_cond, ↓AW_block, ↓AW_ret, ↓AOps_nil, ↓AOps_pu, ↓AOps_ld, ↓AOps_guard, on_some, guardB_tf, guardB_ff, skipS_some, condB_t, ↓then_normal, ↓then_ret, ↓inBlock_ret, ↓Fin_ret, pval, lval, rd_S, rd_C, put_S, resV, resL, partA, eq_self, mk, List.foldl_cons, List.foldl_nil, List.replicate_succ, List.replicate_zero, List.set_cons_zero, List.set_cons_succ, List.getElem?_cons_zero, List.getElem?_cons_succ, List.drop_zero, List.drop_succ_cons, List.take_succ_cons, List.take_nil, Option.getD_some, List.length_cons, List.length_nil, Nat.reduceAdd, Nat.reduceLeDiff, Nat.zero_add, bin_lss, bin_gtr, if_true, if_false, Bool.false_eq_true, decide_true, decide_false, Go.Eng.e2, Int.reduceNeg, hlt', hx.len, hx.idx hlt, hx.ld hz 1 1 false (by decide), h1, h2]
        exact gc_same (by rw [bad (fun h => by have := h.1.2; omega)])
      · by_cases h3 : 35184372088832 < z.1
        · simp (maxSteps := 4000000) -implicitDefEqProofs -dsimp (disch := omega) only [↓AW_skip, ↓AW_ops, ↓AW_seq, ↓AW_cond, ↓AW_block, ↓AW_ret, ↓AOps_nil, ↓AOps_pu, ↓AOps_ld, ↓AOps_guard, on_some, guardB_tf, guardB_ff, skipS_some, condB_t, ↓then_normal, ↓then_ret, ↓inBlock_ret, ↓Fin_ret, pval, lval, rd_S, rd_C, put_S, resV, resL, partA, eq_self, mk, List.foldl_cons, List.foldl_nil, List.replicate_succ, List.replicate_zero, List.set_cons_zero, List.set_cons_succ, List.getElem?_cons_zero, List.getElem?_cons_succ, List.drop_zero, List.drop_succ_cons, List.take_zero, List.take_succ_cons, List.take_nil, Option.getD_some, List.length_cons, List.length_nil, Nat.reduceAdd, Nat.reduceLeDiff, Nat.zero_add, Nat.add_zero, bin_lss, bin_gtr, if_true, if_false, Bool.false_eq_true, decide_true, decide_false, Go.Eng.e2, Int.reduceNeg, hlt', hx.len, hx.idx hlt, hx.ld hz 1 1 false (by decide), hx.ld0 hz 1 false (by decide), h1, h2, h3]
          exact gc_same (by rw [bad (fun h => by have := h.2.2; omega)])
        · by_cases h4 : z.1 < -35184372088832
          · simp (maxSteps := 4000000) -implicitDefEqProofs -dsimp (disch := omega) only [↓AW_skip, ↓AW_ops, ↓AW_seq, ↓AW_cond, ↓AW_block, ↓AW_ret, ↓AOps_nil, ↓AOps_pu, ↓AOps_ld, ↓AOps_guard, on_some, guardB_ff, condB_t, ↓then_normal, ↓then_ret, ↓inBlock_ret, ↓Fin_ret, pval, lval, rd_S, rd_C, put_S, resV, resL, partA, eq_self, mk, List.foldl_cons, List.foldl_nil, List.replicate_succ, List.replicate_zero, List.set_cons_zero, List.set_cons_succ, List.getElem?_cons_zero, List.getElem?_cons_succ, List.drop_zero, List.drop_succ_cons, List.take_zero, List.take_succ_cons, List.take_nil, Option.getD_some, List.length_cons, List.length_nil, Nat.reduceAdd, Nat.reduceLeDiff, Nat.zero_add, Nat.add_zero, bin_lss, bin_gtr, if_true, if_false, Bool.false_eq_true, decide_true, decide_false, Go.Eng.e2, Int.reduceNeg, hlt', hx.len, hx.idx hlt, hx.ld hz 1 1 false (by decide), hx.ld0 hz 1 false (by decide), h1, h2, h3, h4]
            exact gc_same (by rw [bad (fun h => by have := h.2.1; omega)])
          · simp (maxSteps := 4000000) -implicitDefEqProofs -dsimp (disch := omega) only [↓AW_skip, ↓AW_ops, ↓AW_seq, ↓AW_cond, ↓AW_block, ↓AOps_nil, ↓AOps_pu, ↓AOps_ld, ↓AOps_guard, on_some, guardB_ff, condB_t, condB_f, ↓then_normal, ↓inBlock_normal, pval, lval, rd_S, rd_C, put_S, partA, eq_self, mk, List.foldl_cons, List.foldl_nil, List.replicate_succ, List.replicate_zero, List.set_cons_zero, List.set_cons_succ, List.getElem?_cons_zero, List.getElem?_cons_succ, List.drop_zero, List.drop_succ_cons, List.take_zero, List.take_succ_cons, List.take_nil, Option.getD_some, List.length_cons, List.length_nil, Nat.reduceAdd, Nat.reduceLeDiff, Nat.zero_add, Nat.add_zero, bin_add, bin_lss, bin_gtr, w64, if_true, if_false, Bool.false_eq_true, decide_true, decide_false, Go.Eng.e2, true_and, Int.reduceNeg, hlt', hx.len, hx.idx hlt, hx.ld hz 1 1 false (by decide), hx.ld0 hz 1 false (by decide), h1, h2, h3, h4]
            refine ⟨i + 1, ⟨hlt, fun r hr => ?_⟩, by simp [Has, rd_s], by omega⟩
            rw [List.take_add_one, hz] at hr
            rcases List.mem_append.1 hr with hr | hr
            · exact he r hr
            · have : r = z := by simpa using hr
              subst this
              exact ⟨by omega, by omega⟩
  · have hlt' : ¬ ((i : Int) < xs.length) := by omega
    simp (maxSteps := 4000000) -implicitDefEqProofs -dsimp (disch := omega) only [↓AW_ops, ↓AW_seq, ↓AW_cond, ↓AW_exit, ↓AW_ret, ↓AOps_nil, ↓AOps_pu, on_some, condB_f, ↓then_normal, ↓then_exit, ↓inBlock_exit, ↓Fin_ret, pval, rd_S, rd_C, put_S, resV, resL, eq_self, mk, List.foldl_cons, List.foldl_nil, List.replicate_succ, List.replicate_zero, List.set_cons_zero, List.set_cons_succ, List.getElem?_cons_zero, List.getElem?_cons_succ, Option.getD_some, bin_lss, if_true, decide_false, hlt', hx.len]
    rw [List.take_of_length_le (by omega)] at he
    exact gc_same (by rw [decide_eq_true he])

theorem L2_three (A : AHeap) (r s t : Int × Int) : L2 (A ++ [.cells true [I r.1, I r.2, I s.1, I s.2, I t.1, I t.2]]) (.sl 2 A.length 0 3 true) [r, s, t] := ⟨e2_len, by simp [slCells, cellsAt, e2]⟩

theorem clamp_mono {x y a b : Rat} (h : x ≤ y) (hab : a ≤ b) : clamp x a b ≤ clamp y a b := by
  unfold clamp
  grind

theorem upTo_mono {p q : Rat} (h : p ≤ q) : ∀ (f : List (Int × Int)) (b : Int), f.all vz = true → upTo b f p ≤ upTo b f q
  | [], _, _ => Rat.le_refl
  | z :: f, b, hv => by
    simp only [List.all_cons, Bool.and_eq_true] at hv
    have hz := (vz_iff z).1 hv.1
    have ih := upTo_mono h f (b + z.1) hv.2
    have hc := clamp_mono h (show (b : Rat) ≤ ((b + z.1 : Int) : Rat) from Rat.intCast_le_intCast.2 (by omega))
    have z0 : (0 : Rat) ≤ (z.2 : Rat) := by rw [← int0]; exact Rat.intCast_le_intCast.2 hz.2.1
    have := Rat.mul_le_mul_of_nonneg_right (show clamp p (b : Rat) ((b + z.1 : Int) : Rat) - (b : Rat) ≤ clamp q (b : Rat) ((b + z.1 : Int) : Rat) - (b : Rat) by grind) z0
    rw [upTo, upTo]
    grind

/-- What lies between two places is a fraction of this size. -/
theorem wV_num {f : List (Int × Int)} {r s : Int × Int} (h : wE f r s = 0) :
    ∃ a : Rat, wV f r s = R a ∧ a = upTo 0 f (qr s) - upTo 0 f (qr r) ∧ 0 ≤ a ∧ a.num.natAbs ≤ 2400000000 ∧ (a.den : Int) ≤ 1000000 := by
  obtain ⟨h0, h1, h2, h3⟩ := wE_0 h
  have hg := (good_of h0).1
  refine ⟨_, by simp [wV, h], rfl, ?_, ?_⟩
  · have := upTo_mono h3 f 0 hg.2; grind
  · have e1 := (isP_R h1).1
    have e2 := (isP_R h2).1
    obtain ⟨d1, d2⟩ := R_inj e1.symm
    obtain ⟨d3, d4⟩ := R_inj e2.symm
    have k1 := h1.1.1
    have k2 := h2.1.1
    rw [← d2] at k1
    rw [← d4] at k2
    generalize qr r = p at *
    generalize qr s = q at *
    have hp := den_pos p
    have hq := den_pos q
    have hD : (0 : Int) < p.den * q.den := Int.mul_pos hp hq
    have hD2 : (p.den : Int) * q.den ≤ 1000 * 1000 := Int.mul_le_mul k1.2 k2.2 (by omega) (by omega)
    have b1 := upTo_bounds hg 0 p
    have b2 := upTo_bounds hg 0 q
    have hm := upTo_mono h3 f 0 hg.2
    have hn := num_le (M := 2400) hD (((upTo_Dv (Dv_self q) f 0).dvd (Int.dvd_mul_left _ _)).sub ((upTo_Dv (Dv_self p) f 0).dvd (Int.dvd_mul_right _ _))) (int_neg_le_zero (by omega) (by grind)) (by grind)
    omega

theorem fair_num {a : Rat} (h : a.num.natAbs ≤ 2400000000 ∧ (a.den : Int) ≤ 1000000) : fairR (a.num, (a.den : Int)) := by
  have := den_pos a
  exact ⟨by simp only; omega, by simp only; omega⟩

set_option maxRecDepth 100000 in
set_option maxHeartbeats 4000000 in
theorem s5 {f : List (Int × Int)} {v : AV} {A : AHeap} (hf : L2 A v f) (a b c d x y : Int) (ha : W a) (hc : W c) (hx : W x) : ACalls Try.prog 5 [v, .agg [I a, I b, I c, I d], .agg [I x, I y]] A (B true) A := by
  refine acalls hmix Try.func5 (by kernel_rfl) t5 3 rfl (by decide) ?_
  dsimp only [m5]
  simp (maxSteps := 4000000) -implicitDefEqProofs -dsimp (disch := omega) only [↓AW_ops, ↓AW_seq, ↓AOps_nil, ↓AOps_pu, ↓AOps_call, on_some, ↓then_normal, pval, rd_S, rd_C, put_S, AV.cells?, List.replicate_succ, List.replicate_zero, List.set_cons_zero, List.set_cons_succ, List.getElem?_cons_zero, List.getElem?_cons_succ, Option.getD_some, map_c, map_n, Nat.reduceSub, List.cons_append, List.nil_append]
  refine CallK.of (s18 hf (L2_nil A)) ?_
  by_cases h : (100 : Int) < f.length
  · simp (maxSteps := 4000000) -implicitDefEqProofs -dsimp (disch := omega) only [↓AW_ops, ↓AW_seq, ↓AW_cond, ↓AOps_nil, ↓AOps_call, extK_same, condB_t, ↓then_normal, rd_S, put_S, List.replicate_succ, List.replicate_zero, List.set_cons_zero, List.set_cons_succ, List.getElem?_cons_zero, List.getElem?_cons_succ, Option.getD_some, map_n, List.length_nil, Nat.reduceSub, List.cons_append, List.nil_append, decide_true, h, true_or]
    refine CallK.of (known A) ?_
    simp (maxSteps := 4000000) -implicitDefEqProofs -dsimp (disch := omega) only [↓AW_ret, ↓AOps_nil, ↓AOps_pu, on_some, extK_same, ↓then_normal, ↓then_ret, ↓Fin_ret, pval, rd_S, put_S, resV, resL, List.replicate_succ, List.replicate_zero, List.set_cons_zero, List.set_cons_succ, List.getElem?_cons_zero, List.getElem?_cons_succ, Option.getD_some, List.length_nil, Nat.reduceSub, List.cons_append, List.nil_append]
    exact gc_same rfl
  · simp (maxSteps := 4000000) -implicitDefEqProofs -dsimp (disch := omega) only [↓AW_skip, ↓AW_ops, ↓AW_seq, ↓AW_cond, ↓AOps_nil, ↓AOps_pu, ↓AOps_call, on_some, extK_same, condB_f, ↓then_normal, pval, rd_S, put_S, chkd, isAdr, bgot, AV.cells?, partA, eq_self, List.replicate_succ, List.replicate_zero, List.set_cons_zero, List.set_cons_succ, List.getElem?_cons_zero, List.getElem?_cons_succ, List.drop_zero, List.take_zero, List.take_succ_cons, List.take_nil, Option.getD_some, map_c, map_n, List.length_cons, List.length_nil, Nat.reduceAdd, Nat.reduceSub, Nat.reduceLeDiff, Nat.reduceEqDiff, Nat.zero_add, List.cons_append, List.nil_append, if_true, if_false, decide_false, Int.reduceLT, h, false_or, Int.cast_ofNat_Int]
    refine CallK.of (s25 hf (a, b) (x, y) ha hx) ?_
    obtain ⟨k1, k2, hm1⟩ := wV_agg f (a, b) (x, y)
    obtain ⟨k3, k4, hm2⟩ := wV_agg f (x, y) (c, d)
    by_cases h1 : wE f (a, b) (x, y) = 0
    · by_cases h2 : wE f (x, y) (c, d) = 0
      · obtain ⟨p, e1, e2, e3, e4⟩ := wV_num h1
        obtain ⟨q, e5, e6, e7, e8⟩ := wV_num h2
        have h3 : wE f (a, b) (c, d) = 0 := by
          obtain ⟨z0, z1, z2, z3⟩ := wE_0 h1
          obtain ⟨_, z4, z5, z6⟩ := wE_0 h2
          exact wE_ok z0 z1 z5 (Rat.le_trans z3 z6)
        obtain ⟨r, e9, e10, e11, e12⟩ := wV_num h3
        have hsum : p + q = r := by rw [e2, e6, e10]; grind
        simp (maxSteps := 4000000) -implicitDefEqProofs -dsimp (disch := omega) only [↓AW_ops, ↓AW_seq, ↓AOps_nil, ↓AOps_pu, ↓AOps_call, on_some, extK_same, ↓then_normal, pval, rd_S, rd_C, put_S, chkd, isAdr, bput, bgot, AV.cells?, splice, partA, eq_self, List.replicate_succ, List.replicate_zero, List.set_cons_zero, List.set_cons_succ, List.getElem?_cons_zero, List.getElem?_cons_succ, List.drop_zero, List.drop_succ_cons, List.drop_nil, List.take_zero, List.take_succ_cons, List.take_nil, Option.getD_some, map_c, map_n, List.length_cons, List.length_nil, Nat.reduceAdd, Nat.reduceSub, Nat.reduceLeDiff, Nat.reduceEqDiff, Nat.zero_add, List.cons_append, List.nil_append, List.append_nil, if_true, if_false, ne_eq, not_true_eq_false, e1, h1]
        refine CallK.of (s25 hf (x, y) (c, d) hx hc) ?_
        simp (maxSteps := 4000000) -implicitDefEqProofs -dsimp (disch := omega) only [↓AW_skip, ↓AW_ops, ↓AW_seq, ↓AW_cond, ↓AOps_nil, ↓AOps_pu, ↓AOps_call, ↓AOps_guard, on_some, extK_same, guardB_ff, condB_f, ↓then_normal, pval, rd_S, rd_C, put_S, chkd, isAdr, bput, bgot, AV.cells?, splice, partA, eq_self, List.replicate_succ, List.replicate_zero, List.set_cons_zero, List.set_cons_succ, List.getElem?_cons_zero, List.getElem?_cons_succ, List.drop_zero, List.drop_succ_cons, List.drop_nil, List.take_zero, List.take_succ_cons, List.take_nil, Option.getD_some, map_c, map_n, List.length_cons, List.length_nil, Nat.reduceAdd, Nat.reduceSub, Nat.reduceLeDiff, Nat.reduceEqDiff, Nat.zero_add, List.cons_append, List.nil_append, List.append_nil, bin_neq, if_true, if_false, Bool.false_eq_true, decide_false, ne_eq, not_true_eq_false, e5, h2]
        refine CallK.of (s25 hf (a, b) (c, d) ha hc) ?_
        simp (maxSteps := 4000000) -implicitDefEqProofs -dsimp (disch := omega) only [↓AW_ops, ↓AW_seq, ↓AOps_nil, ↓AOps_pu, ↓AOps_ha, ↓AOps_call, ↓AOps_guard, on_some, extK_app, extK_same, guardB_tt, ↓then_normal, pval, hval, rd_S, rd_C, put_S, chkd, isAdr, bput, bgot, AV.cells?, splice, partA, fillA, repl, eq_self, List.replicate_succ, List.replicate_zero, List.set_cons_zero, List.set_cons_succ, List.getElem?_cons_zero, List.getElem?_cons_succ, List.drop_zero, List.drop_succ_cons, List.drop_nil, List.take_zero, List.take_succ_cons, List.take_nil, Option.getD_some, map_c, map_n, List.length_cons, List.length_nil, Nat.reduceAdd, Nat.reduceSub, Nat.reduceLeDiff, Nat.reduceEqDiff, Nat.zero_add, List.cons_append, List.nil_append, List.append_nil, bin_eql, bin_gtr, if_true, if_false, Bool.false_eq_true, decide_true, and_true, ne_eq, not_true_eq_false, e9, h3, den_pos p, den_pos q, den_pos r]
        refine CallK.of (s23 (L2_three A (p.num, p.den) (q.num, q.den) (r.num, r.den)) (by simp)) ?_
        have hfair : ∀ r' ∈ [(p.num, (p.den : Int)), (q.num, (q.den : Int)), (r.num, (r.den : Int))], fairR r' := by
          simp only [List.mem_cons, List.not_mem_nil, or_false]
          rintro r' (rfl | rfl | rfl)
          · exact fair_num e4
          · exact fair_num e8
          · exact fair_num e12
        rw [decide_eq_true hfair]
        have n1 : 0 ≤ p.num := Rat.num_nonneg.2 e3
        have n2 : 0 ≤ q.num := Rat.num_nonneg.2 e7
        simp (maxSteps := 4000000) -implicitDefEqProofs -dsimp (disch := omega) only [↓AOps_pu, ↓AOps_call, ↓AOps_guard, on_some, extK_same, guardB_tt, pval, rd_S, rd_C, put_S, chkd, isAdr, bgot, AV.cells?, partA, eq_self, List.replicate_succ, List.replicate_zero, List.set_cons_zero, List.set_cons_succ, List.getElem?_cons_zero, List.getElem?_cons_succ, List.drop_zero, List.take_zero, List.take_succ_cons, List.take_nil, Option.getD_some, map_c, map_n, List.length_cons, List.length_nil, Nat.reduceAdd, Nat.reduceSub, Nat.reduceLeDiff, Nat.reduceEqDiff, Nat.zero_add, List.cons_append, List.nil_append, bin_geq, if_true, if_false, Bool.false_eq_true, decide_true, n1, n2]
        refine CallK.of (s27g p q _ (Fit_of 2400000000 2400000000 1000000 1000000 e4.1 (by omega) e8.1 (by omega) (by decide) (by decide))) ?_
        simp (maxSteps := 4000000) -implicitDefEqProofs -dsimp (disch := omega) only [↓AOps_pu, ↓AOps_call, ↓AOps_guard, on_some, extK_same, guardB_tt, pval, rd_S, rd_C, put_S, chkd, bgot, partA, eqc, beq_self_eq_true, eq_self, List.replicate_succ, List.replicate_zero, List.set_cons_zero, List.set_cons_succ, List.getElem?_cons_zero, List.getElem?_cons_succ, List.drop_zero, List.take_succ_cons, List.take_nil, Option.getD_some, Option.map_some, map_n, List.length_cons, List.length_nil, Nat.reduceAdd, Nat.reduceSub, Nat.reduceLeDiff, Nat.reduceEqDiff, Nat.zero_add, List.cons_append, List.nil_append, if_true, if_false, Bool.false_eq_true, Bool.true_and, hsum]
        refine CallK.of (known _) ?_
        simp (maxSteps := 4000000) -implicitDefEqProofs -dsimp (disch := omega) only [↓AW_ret, ↓AOps_nil, ↓AOps_pu, on_some, extK_same, ↓then_normal, ↓Fin_ret, pval, rd_S, rd_C, put_S, resV, resL, eq_self, List.replicate_succ, List.replicate_zero, List.set_cons_zero, List.set_cons_succ, List.getElem?_cons_zero, List.getElem?_cons_succ, Option.getD_some, List.length_nil, Nat.reduceSub, List.cons_append, List.nil_append, if_true]
        exact gc_val (pre_app A _) rfl
      · simp (maxSteps := 4000000) -implicitDefEqProofs -dsimp (disch := omega) only [↓AW_ops, ↓AW_seq, ↓AOps_nil, ↓AOps_pu, ↓AOps_call, on_some, extK_same, ↓then_normal, pval, rd_S, rd_C, put_S, chkd, isAdr, bput, bgot, AV.cells?, splice, partA, eq_self, List.replicate_succ, List.replicate_zero, List.set_cons_zero, List.set_cons_succ, List.getElem?_cons_zero, List.getElem?_cons_succ, List.drop_zero, List.drop_succ_cons, List.drop_nil, List.take_zero, List.take_succ_cons, List.take_nil, Option.getD_some, map_c, map_n, List.length_cons, List.length_nil, Nat.reduceAdd, Nat.reduceSub, Nat.reduceLeDiff, Nat.reduceEqDiff, Nat.zero_add, List.cons_append, List.nil_append, List.append_nil, if_true, if_false, ne_eq, not_true_eq_false, hm1, h1]
        refine CallK.of (s25 hf (x, y) (c, d) hx hc) ?_
        simp (maxSteps := 4000000) -implicitDefEqProofs -dsimp (disch := omega) only [↓AW_ops, ↓AW_seq, ↓AW_cond, ↓AOps_nil, ↓AOps_pu, ↓AOps_call, ↓AOps_guard, on_some, extK_same, guardB_ff, condB_t, ↓then_normal, pval, rd_S, rd_C, put_S, chkd, bput, AV.cells?, splice, eq_self, List.replicate_succ, List.replicate_zero, List.set_cons_zero, List.set_cons_succ, List.getElem?_cons_zero, List.getElem?_cons_succ, List.drop_succ_cons, List.drop_nil, List.take_zero, Option.getD_some, map_n, List.length_cons, List.length_nil, Nat.reduceAdd, Nat.reduceSub, Nat.reduceLeDiff, Nat.zero_add, List.cons_append, List.nil_append, List.append_nil, bin_neq, if_true, if_false, Bool.false_eq_true, decide_true, decide_false, ne_eq, not_true_eq_false, not_false_eq_true, hm2, h1, h2]
        refine CallK.of (known A) ?_
        simp (maxSteps := 4000000) -implicitDefEqProofs -dsimp (disch := omega) only [↓AW_ret, ↓AOps_nil, ↓AOps_pu, on_some, extK_same, ↓then_normal, ↓then_ret, ↓Fin_ret, pval, rd_S, put_S, resV, resL, List.replicate_succ, List.replicate_zero, List.set_cons_zero, List.set_cons_succ, List.getElem?_cons_zero, List.getElem?_cons_succ, Option.getD_some, List.length_nil, Nat.reduceSub, List.cons_append, List.nil_append]
        exact gc_same rfl
    · simp (maxSteps := 4000000) -implicitDefEqProofs -dsimp (disch := omega) only [↓AW_ops, ↓AW_seq, ↓AOps_nil, ↓AOps_pu, ↓AOps_call, on_some, extK_same, ↓then_normal, pval, rd_S, rd_C, put_S, chkd, isAdr, bput, bgot, AV.cells?, splice, partA, eq_self, List.replicate_succ, List.replicate_zero, List.set_cons_zero, List.set_cons_succ, List.getElem?_cons_zero, List.getElem?_cons_succ, List.drop_zero, List.drop_succ_cons, List.drop_nil, List.take_zero, List.take_succ_cons, List.take_nil, Option.getD_some, map_c, map_n, List.length_cons, List.length_nil, Nat.reduceAdd, Nat.reduceSub, Nat.reduceLeDiff, Nat.reduceEqDiff, Nat.zero_add, List.cons_append, List.nil_append, List.append_nil, if_true, if_false, ne_eq, not_true_eq_false, hm1]
      refine CallK.of (s25 hf (x, y) (c, d) hx hc) ?_
      simp (maxSteps := 4000000) -implicitDefEqProofs -dsimp (disch := omega) only [↓AW_ops, ↓AW_seq, ↓AW_cond, ↓AOps_nil, ↓AOps_pu, ↓AOps_call, ↓AOps_guard, on_some, extK_same, guardB_tf, skipS_some, condB_t, ↓then_normal, pval, rd_S, rd_C, put_S, chkd, bput, AV.cells?, splice, eq_self, List.replicate_succ, List.replicate_zero, List.set_cons_zero, List.set_cons_succ, List.getElem?_cons_zero, List.getElem?_cons_succ, List.drop_succ_cons, List.drop_nil, List.take_zero, Option.getD_some, map_n, List.length_cons, List.length_nil, Nat.reduceAdd, Nat.reduceSub, Nat.reduceLeDiff, Nat.zero_add, List.cons_append, List.nil_append, List.append_nil, bin_neq, if_true, if_false, decide_true, ne_eq, not_true_eq_false, not_false_eq_true, hm2, h1]
      refine CallK.of (known A) ?_
      simp (maxSteps := 4000000) -implicitDefEqProofs -dsimp (disch := omega) only [↓AW_ret, ↓AOps_nil, ↓AOps_pu, on_some, extK_same, skipS_some, ↓then_normal, ↓then_ret, ↓Fin_ret, pval, rd_S, put_S, resV, resL, List.replicate_succ, List.replicate_zero, List.set_cons_zero, List.set_cons_succ, List.getElem?_cons_zero, List.getElem?_cons_succ, Option.getD_some, List.length_nil, Nat.reduceSub, List.cons_append, List.nil_append]
      exact gc_same rfl

end Go.Proofs.Ytnnbggcckabhdaa
