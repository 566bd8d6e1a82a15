/- Soil: places. No conditions. -/
import Derived.Test.YtnnbggcckabhdaaW6
namespace Go.Proofs.Ytnnbggcckabhdaa
open Go Go.Eng

theorem s76min {b : Int} (A : AHeap) (hb0 : 0 < b) (hb : b ≤ 9223372036854775807) : ACalls Try.prog 76 [I (-9223372036854775808), I b] A (I b) A := by
  refine acalls hmix Try.func76 (by kernel_rfl) t76 2 rfl (by decide) ?_
  have hw : IntKind.i64.wrap 9223372036854775808 = -9223372036854775808 := by decide
  dsimp only [m76]
  simp (maxSteps := 4000000) -implicitDefEqProofs -dsimp (disch := omega) only [↓AW_ops, ↓AW_seq, ↓AW_block, ↓AOps_nil, ↓AOps_pu, on_some, ↓then_normal, pval, rd_S, rd_C, put_S, ↓AW_toLoop, List.replicate_succ, List.replicate_zero, List.set_cons_zero, List.set_cons_succ, List.getElem?_cons_zero, List.getElem?_cons_succ, Option.getD_some, map_c, map_n, Nat.reduceSub, List.cons_append, List.nil_append, mm_max, w64, Int.reduceNeg, Int.reduceSub, hw]
  have q0 : max (-9223372036854775808 : Int) (-9223372036854775808) = -9223372036854775808 := by decide
  have q1 : max b (0 - b) = b := by omega
  rw [q0, q1]
  refine LoopK.by 24 (fun x : Int × Int => (x.1 = -9223372036854775808 ∧ x.2 = b) ∨ (x.1 = b ∧ x.2 ≤ 0)) (fun x => [(5, I x.1), (6, I x.2)]) (fun _ => A) (fun x => x.2.toNat) (-9223372036854775808, b) (.inl ⟨rfl, rfl⟩) rfl (by simp [Has, rd_s]) rfl ?_
  rintro ⟨x, y⟩ hxy
  simp only at hxy
  by_cases hy0 : 0 < y
  · have hne : ¬ y = 0 := by omega
    obtain ⟨rfl, rfl⟩ : x = -9223372036854775808 ∧ y = b := by
      rcases hxy with h | h
      · exact h
      · omega
    have hm := Int.tmod_nonneg (a := 9223372036854775808) y (by omega)
    have hm2 : (-9223372036854775808 : Int).tmod y = -((9223372036854775808 : Int).tmod y) := Int.neg_tmod _ _
    simp (maxSteps := 4000000) -implicitDefEqProofs -dsimp (disch := omega) only [↓AW_skip, ↓AW_ops, ↓AW_seq, ↓AW_cond, ↓AW_block, ↓AOps_nil, ↓AOps_pu, on_some, condB_t, ↓then_normal, ↓inBlock_normal, pval, rd_S, rd_C, put_S, eq_self, mk, List.foldl_cons, List.foldl_nil, List.replicate_succ, List.replicate_zero, List.set_cons_zero, List.set_cons_succ, List.getElem?_cons_zero, List.getElem?_cons_succ, Option.getD_some, List.length_cons, List.length_nil, Nat.reduceAdd, Nat.zero_add, bin_rem, bin_gtr, if_false, decide_true, true_and, Int.reduceNeg, hy0, hne]
    exact ⟨(y, (-9223372036854775808 : Int).tmod y), .inr ⟨rfl, by simp only; omega⟩, by simp [Has, rd_s], by simp only; omega⟩
  · obtain ⟨rfl, _⟩ : x = b ∧ y ≤ 0 := by
      rcases hxy with h | h
      · omega
      · exact h
    simp (maxSteps := 4000000) -implicitDefEqProofs -dsimp (disch := omega) only [↓AW_ops, ↓AW_seq, ↓AW_cond, ↓AW_exit, ↓AW_ret, ↓AOps_nil, ↓AOps_pu, on_some, condB_f, ↓then_normal, ↓then_exit, ↓inBlock_exit, ↓Fin_ret, pval, rd_S, rd_C, put_S, resV, resL, eq_self, mk, List.foldl_cons, List.foldl_nil, List.replicate_succ, List.replicate_zero, List.set_cons_zero, List.set_cons_succ, List.getElem?_cons_zero, List.getElem?_cons_succ, Option.getD_some, bin_gtr, if_true, decide_false, hy0]
    exact gc_same rfl

/-- Whether the document takes a fraction for valid: at the least number its divisor is another one. -/
def vI (r : Int × Int) (most : Int) : Prop := (1 ≤ r.2 ∧ r.2 ≤ most) ∧ (if r.1 = -9223372036854775808 then r.2 = 1 else Int.gcd r.1 r.2 = 1)
instance (r : Int × Int) (most : Int) : Decidable (vI r most) := by unfold vI; exact inferInstance

theorem s81 (r : Int × Int) (most : Int) (A : AHeap) (h : W r.1) (hm : most ≤ 1048576) : ACalls Try.prog 81 [.agg [I r.1, I r.2], I most] A (B (decide (vI r most))) A := by
  refine acalls hmix Try.func81 (by kernel_rfl) t81 2 rfl (by decide) ?_
  dsimp only [m81]
  simp (maxSteps := 4000000) -implicitDefEqProofs -dsimp (disch := omega) only [↓AW_ops, ↓AW_seq, ↓AOps_nil, ↓AOps_pu, ↓AOps_call, on_some, ↓then_normal, pval, rd_S, rd_C, put_S, chkd, isAdr, bgot, AV.cells?, partA, eq_self, List.replicate_succ, List.replicate_zero, List.set_cons_zero, List.set_cons_succ, List.getElem?_cons_zero, List.getElem?_cons_succ, List.drop_zero, List.drop_succ_cons, List.take_succ_cons, List.take_nil, Option.getD_some, map_c, map_n, List.length_cons, List.length_nil, Nat.reduceAdd, Nat.reduceSub, Nat.reduceLeDiff, Nat.zero_add, List.cons_append, List.nil_append, if_true, if_false, Bool.false_eq_true]
  refine CallK.of (s66 _ _ _ _) ?_
  by_cases h1 : 1 ≤ r.2 ∧ r.2 ≤ most
  · simp (maxSteps := 4000000) -implicitDefEqProofs -dsimp (disch := omega) only [↓AOps_pu, ↓AOps_call, ↓AOps_guard, on_some, extK_same, guardB_tt, pval, rd_S, put_S, chkd, isAdr, bgot, AV.cells?, partA, eq_self, List.replicate_succ, List.replicate_zero, List.set_cons_zero, List.set_cons_succ, List.getElem?_cons_zero, List.getElem?_cons_succ, List.drop_zero, List.drop_succ_cons, List.take_zero, List.take_succ_cons, List.take_nil, Option.getD_some, map_c, map_n, List.length_cons, List.length_nil, Nat.reduceAdd, Nat.reduceSub, Nat.reduceLeDiff, Nat.zero_add, List.cons_append, List.nil_append, if_true, if_false, Bool.false_eq_true, decide_true, and_true, h1]
    by_cases h2 : r.1 = -9223372036854775808
    · rw [h2]
      refine CallK.of (s76min _ (by omega) (by omega)) ?_
      simp (maxSteps := 4000000) -implicitDefEqProofs -dsimp (disch := omega) only [↓AW_ret, ↓AOps_nil, ↓AOps_pu, ↓AOps_guard, on_some, extK_same, guardB_tt, ↓then_normal, ↓Fin_ret, pval, rd_S, rd_C, put_S, resV, resL, eq_self, List.replicate_succ, List.replicate_zero, List.set_cons_zero, List.set_cons_succ, List.getElem?_cons_zero, List.getElem?_cons_succ, Option.getD_some, Nat.reduceSub, List.cons_append, List.nil_append, bin_eql, if_true, decide_true, and_true, Int.reduceNeg, h1]
      exact gc_same (by congr 1; simp [vI, h1, h2])
    · refine CallK.of (s76 _ h h2 (by omega) (by omega)) ?_
      simp (maxSteps := 4000000) -implicitDefEqProofs -dsimp (disch := omega) only [↓AW_ret, ↓AOps_nil, ↓AOps_pu, ↓AOps_guard, on_some, extK_same, guardB_tt, ↓then_normal, ↓Fin_ret, pval, rd_S, rd_C, put_S, resV, resL, eq_self, List.replicate_succ, List.replicate_zero, List.set_cons_zero, List.set_cons_succ, List.getElem?_cons_zero, List.getElem?_cons_succ, Option.getD_some, Nat.reduceSub, List.cons_append, List.nil_append, bin_eql, if_true, decide_true, and_true, h1]
      exact gc_same (by congr 1; simp [vI, h1, h2]; omega)
  · simp (maxSteps := 4000000) -implicitDefEqProofs -dsimp (disch := omega) only [↓AW_ret, ↓AOps_nil, ↓AOps_pu, ↓AOps_guard, on_some, extK_same, guardB_ft, skipS_some, ↓then_normal, ↓Fin_ret, pval, rd_S, rd_C, put_S, resV, resL, List.replicate_succ, List.replicate_zero, List.set_cons_zero, List.set_cons_succ, List.getElem?_cons_zero, List.getElem?_cons_succ, Option.getD_some, Nat.reduceSub, List.cons_append, List.nil_append, if_false, Bool.false_eq_true, decide_false, h1]
    exact gc_same (by simp [vI, h1])

theorem s71 {f : List (Int × Int)} {v : AV} {A : AHeap} (hf : L2 A v f) (hg : good f) (r : Int × Int) (most : Int) (h : W r.1) (hm : most ≤ 1048576) :
    ACalls Try.prog 71 [v, .agg [I r.1, I r.2], I most] A (B (decide (((1 ≤ r.2 ∧ r.2 ≤ most) ∧ Int.gcd r.1 r.2 = 1) ∧ (0 ≤ r.1 ∧ r.1 ≤ len f * r.2)))) A := by
  refine acalls hmix Try.func71 (by kernel_rfl) t71 3 rfl (by decide) ?_
  dsimp only [m71]
  simp (maxSteps := 4000000) -implicitDefEqProofs -dsimp (disch := omega) only [↓AW_ops, ↓AW_seq, ↓AOps_nil, ↓AOps_pu, ↓AOps_call, on_some, ↓then_normal, pval, rd_S, rd_C, put_S, chkd, bgot, AV.cells?, partA, eq_self, List.replicate_succ, List.replicate_zero, List.set_cons_zero, List.set_cons_succ, List.getElem?_cons_zero, List.getElem?_cons_succ, List.drop_zero, List.take_succ_cons, List.take_nil, Option.getD_some, map_c, map_n, List.length_cons, List.length_nil, Nat.reduceAdd, Nat.reduceSub, Nat.reduceLeDiff, Nat.reduceEqDiff, Nat.zero_add, List.cons_append, List.nil_append, if_true, if_false]
  refine CallK.of (s79 r most A h hm) ?_
  by_cases h1 : (1 ≤ r.2 ∧ r.2 ≤ most) ∧ Int.gcd r.1 r.2 = 1
  · have hb := len_bound hg
    have hm2 := mul_bound (x := len f) (y := r.2) (X := 120) (Y := 1048576) (by omega) (by omega)
    simp (maxSteps := 4000000) -implicitDefEqProofs -dsimp (disch := omega) only [↓AOps_pu, ↓AOps_call, ↓AOps_guard, on_some, extK_same, guardB_tt, pval, rd_S, put_S, chkd, isAdr, bgot, AV.cells?, partA, eq_self, List.replicate_succ, List.replicate_zero, List.set_cons_zero, List.set_cons_succ, List.getElem?_cons_zero, List.getElem?_cons_succ, List.drop_zero, List.take_zero, List.take_succ_cons, Option.getD_some, map_c, map_n, List.length_cons, List.length_nil, Nat.reduceAdd, Nat.reduceSub, Nat.reduceLeDiff, Nat.zero_add, List.cons_append, List.nil_append, if_true, if_false, Bool.false_eq_true, decide_true, and_true, h1]
    refine CallK.of (s77 hf hg) ?_
    simp (maxSteps := 4000000) -implicitDefEqProofs -dsimp (disch := omega) only [↓AOps_pu, ↓AOps_call, ↓AOps_guard, on_some, extK_same, guardB_tt, pval, rd_S, rd_C, put_S, chkd, isAdr, bgot, AV.cells?, partA, eq_self, List.replicate_succ, List.replicate_zero, List.set_cons_zero, List.set_cons_succ, List.getElem?_cons_zero, List.getElem?_cons_succ, List.drop_zero, List.drop_succ_cons, List.take_succ_cons, List.take_nil, Option.getD_some, map_c, map_n, List.length_cons, List.length_nil, Nat.reduceAdd, Nat.reduceSub, Nat.reduceLeDiff, Nat.zero_add, List.cons_append, List.nil_append, bin_mul, w64, if_true, if_false, Bool.false_eq_true]
    refine CallK.of (s61 _ _ _ _) ?_
    simp (maxSteps := 4000000) -implicitDefEqProofs -dsimp (disch := omega) only [↓AW_ret, ↓AOps_nil, ↓AOps_pu, on_some, extK_same, ↓then_normal, ↓Fin_ret, pval, rd_S, rd_C, put_S, resV, resL, eq_self, List.replicate_succ, List.replicate_zero, List.set_cons_zero, List.set_cons_succ, List.getElem?_cons_zero, List.getElem?_cons_succ, Option.getD_some, Nat.reduceSub, List.cons_append, List.nil_append, if_true, decide_true, true_and, and_true, h1]
    exact gc_same rfl
  · simp (maxSteps := 4000000) -implicitDefEqProofs -dsimp (disch := omega) only [↓AW_ret, ↓AOps_nil, ↓AOps_pu, ↓AOps_guard, on_some, extK_same, guardB_ft, skipS_some, ↓then_normal, ↓Fin_ret, pval, rd_S, rd_C, put_S, resV, resL, List.replicate_succ, List.replicate_zero, List.set_cons_zero, List.set_cons_succ, List.getElem?_cons_zero, List.getElem?_cons_succ, Option.getD_some, Nat.reduceSub, List.cons_append, List.nil_append, if_false, Bool.false_eq_true, decide_false, h1]
    exact gc_same (by simp)

/-- A fraction in lowest terms is what its parts say. -/
theorem R_of {a b : Int} (hb : 0 < b) (hg : Int.gcd a b = 1) : AV.agg [I a, I b] = R ((a : Rat) / (b : Rat)) := by
  rw [← nrm_R a b hb]
  unfold nrm
  rw [hg]
  simp

theorem Sm_int {n : Int} (h : -1099511627776 ≤ n ∧ n ≤ 1099511627776) : Sm (n : Rat) := by
  refine ⟨?_, ?_⟩
  · show -1099511627776 ≤ n ∧ n ≤ 1099511627776
    exact h
  · show (1 : Int) ≤ 1048576
    decide

theorem s99 {us : List Int} {v : AV} {A : AHeap} (hu : L1 A v us) (hl : us.length ≤ 120) (r : Int × Int) (h : W r.1) (hd : 1 ≤ r.2 ∧ r.2 ≤ 1048576) (hg : Int.gcd r.1 r.2 = 1) :
    ACalls Try.prog 99 [v, .agg [I r.1, I r.2]] A (B (decide (0 ≤ r.1 ∧ r.1 ≤ us.length * r.2))) A := by
  refine acalls hmix Try.func99 (by kernel_rfl) t99 2 rfl (by decide) ?_
  by_cases h0 : 0 ≤ r.1
  · have hd0 : ¬ r.2 = 0 := by omega
    have hw := tdiv_W h (g := r.2) (by omega)
    have ht : r.1.tdiv r.2 = r.1 / r.2 := Int.tdiv_eq_ediv_of_nonneg h0
    have hx := Int.mul_ediv_add_emod r.1 r.2
    have hy := Int.emod_lt_of_pos r.1 (show 0 < r.2 by omega)
    have hy0 := Int.emod_nonneg r.1 hd0
    by_cases h1 : r.1.tdiv r.2 ≤ us.length
    · dsimp only [m99]
      simp (maxSteps := 4000000) -implicitDefEqProofs -dsimp (disch := omega) only [↓AW_ops, ↓AW_seq, ↓AOps_nil, ↓AOps_pu, ↓AOps_call, ↓AOps_guard, on_some, guardB_tt, ↓then_normal, pval, rd_S, rd_C, put_S, chkd, isAdr, bgot, AV.cells?, partA, eq_self, List.replicate_succ, List.replicate_zero, List.set_cons_zero, List.set_cons_succ, List.getElem?_cons_zero, List.getElem?_cons_succ, List.drop_zero, List.drop_succ_cons, List.take_zero, List.take_succ_cons, List.take_nil, Option.getD_some, map_c, map_n, List.length_cons, List.length_nil, Nat.reduceAdd, Nat.reduceSub, Nat.reduceLeDiff, Nat.zero_add, List.cons_append, List.nil_append, bin_quo, bin_leq, bin_geq, w64, if_true, if_false, Bool.false_eq_true, decide_true, h0, hd0, hu.len, h1]
      refine CallK.of (s30 _ _) ?_
      simp (maxSteps := 4000000) -implicitDefEqProofs -dsimp (disch := omega) only [↓AOps_pu, ↓AOps_call, ↓AOps_guard, on_some, extK_same, guardB_tt, pval, rd_S, put_S, chkd, bgot, partA, eq_self, List.replicate_succ, List.replicate_zero, List.set_cons_zero, List.set_cons_succ, List.getElem?_cons_zero, List.getElem?_cons_succ, List.drop_zero, List.take_succ_cons, List.take_nil, Option.getD_some, map_c, map_n, List.length_cons, List.length_nil, Nat.reduceAdd, Nat.reduceSub, Nat.reduceLeDiff, Nat.reduceEqDiff, Nat.zero_add, List.cons_append, List.nil_append, if_true, if_false]
      rw [R_of (by omega) hg]
      have hq := R_inj (R_of (by omega) hg).symm
      have b1 : r.2 * (r.1 / r.2) ≤ r.2 * 120 := Int.mul_le_mul_of_nonneg_left (by omega) (by omega)
      generalize ((r.1 : Rat) / (r.2 : Rat)) = q at *
      have hS : Sm q := ⟨by omega, by omega⟩
      refine CallK.of (s24 _ _ _ (Sm_int (by omega)) hS) ?_
      have hlt : (((us.length : Int) : Rat) < q) ↔ (us.length : Int) * r.2 < r.1 := by
        rw [Rat.lt_iff]
        show (us.length : Int) * (q.den : Int) < q.num * (1 : Int) ↔ _
        rw [hq.1, hq.2, Int.mul_one]
      simp (maxSteps := 4000000) -implicitDefEqProofs -dsimp (disch := omega) only [↓AW_ret, ↓AOps_nil, ↓AOps_pu, ↓AOps_guard, on_some, extK_same, guardB_tt, ↓then_normal, ↓Fin_ret, pval, rd_S, rd_C, put_S, resV, resL, eq_self, List.replicate_succ, List.replicate_zero, List.set_cons_zero, List.set_cons_succ, List.getElem?_cons_zero, List.getElem?_cons_succ, Option.getD_some, Nat.reduceSub, List.cons_append, List.nil_append, if_true]
      refine gc_same ?_
      rw [Bool.eq_iff_iff.2 (show (!decide (((us.length : Int) : Rat) < q)) = true ↔ decide (0 ≤ r.1 ∧ r.1 ≤ us.length * r.2) = true by simp only [Bool.not_eq_true', decide_eq_false_iff_not, decide_eq_true_eq, hlt]; omega)]
    · dsimp only [m99]
      simp (maxSteps := 4000000) -implicitDefEqProofs -dsimp (disch := omega) only [↓AW_ops, ↓AW_seq, ↓AW_ret, ↓AOps_nil, ↓AOps_pu, ↓AOps_guard, on_some, guardB_tt, guardB_ft, skipS_some, ↓then_normal, ↓Fin_ret, pval, rd_S, rd_C, put_S, resV, resL, chkd, isAdr, bgot, AV.cells?, partA, eq_self, List.replicate_succ, List.replicate_zero, List.set_cons_zero, List.set_cons_succ, List.getElem?_cons_zero, List.getElem?_cons_succ, List.drop_zero, List.drop_succ_cons, List.take_zero, List.take_succ_cons, List.take_nil, Option.getD_some, List.length_cons, List.length_nil, Nat.reduceAdd, Nat.reduceSub, Nat.reduceLeDiff, Nat.zero_add, List.cons_append, List.nil_append, bin_quo, bin_leq, bin_geq, w64, if_true, if_false, Bool.false_eq_true, decide_true, decide_false, true_and, h0, hd0, hu.len, h1]
      refine gc_same ?_
      have b1 : r.2 * ((us.length : Int) + 1) ≤ r.2 * (r.1 / r.2) := Int.mul_le_mul_of_nonneg_left (by omega) (by omega)
      have b2 : r.2 * ((us.length : Int) + 1) = us.length * r.2 + r.2 := by rw [Int.mul_add, Int.mul_comm, Int.mul_one]
      congr 1
      simp only [Bool.false_eq, decide_eq_false_iff_not]
      omega
  · dsimp only [m99]
    simp (maxSteps := 4000000) -implicitDefEqProofs -dsimp (disch := omega) only [↓AW_ops, ↓AW_seq, ↓AW_ret, ↓AOps_nil, ↓AOps_pu, ↓AOps_guard, on_some, guardB_ft, skipS_some, ↓then_normal, ↓Fin_ret, pval, rd_S, rd_C, put_S, resV, resL, chkd, isAdr, bgot, AV.cells?, partA, eq_self, List.replicate_succ, List.replicate_zero, List.set_cons_zero, List.set_cons_succ, List.getElem?_cons_zero, List.getElem?_cons_succ, List.drop_zero, List.take_zero, List.take_succ_cons, Option.getD_some, List.length_cons, List.length_nil, Nat.reduceAdd, Nat.reduceSub, Nat.reduceLeDiff, Nat.zero_add, List.cons_append, List.nil_append, bin_geq, if_true, if_false, Bool.false_eq_true, decide_false, h0]
    exact gc_same (by simp)

end Go.Proofs.Ytnnbggcckabhdaa
