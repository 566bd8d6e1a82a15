/- Soil: fractions times and over numbers; which are valid. No conditions. -/
import Derived.Test.YtnnbggcckabhdaaW5
namespace Go.Proofs.Ytnnbggcckabhdaa
open Go Go.Eng

theorem R_inj {p : Rat} {a b : Int} (h : R p = .agg [I a, I b]) : p.num = a ∧ (p.den : Int) = b := by
  injection h with h
  injection h with h1 h2
  injection h2 with h2 _
  injection h1 with _ h1
  injection h2 with _ h2
  exact ⟨h1, h2⟩

theorem ratio_le (n d : Int) (hd : 0 < d) : ((n : Rat) / (d : Rat)).num.natAbs ≤ n.natAbs ∧ (((n : Rat) / (d : Rat)).den : Int) ≤ d := by
  have h := nrm_R n d hd
  obtain ⟨h1, h2⟩ := R_inj h.symm
  rw [h1, h2]
  refine ⟨by rw [Int.natAbs_tdiv]; exact Nat.div_le_self _ _, ?_⟩
  have h3 : (d.tdiv (Int.gcd n d)).natAbs ≤ d.natAbs := by rw [Int.natAbs_tdiv]; exact Nat.div_le_self _ _
  omega

theorem cast_ne {d : Int} (h : d ≠ 0) : (d : Rat) ≠ 0 := fun e => h (Rat.intCast_inj.1 (by simpa using e))

theorem mul_parts (a : Rat) (n : Int) : ((a.num * ((n : Rat) / ((a.den : Int) : Rat)).num : Int) : Rat) / ((((n : Rat) / ((a.den : Int) : Rat)).den : Int) : Rat) = a * n := by
  have h1 := R_self a
  have h2 := R_self ((n : Rat) / ((a.den : Int) : Rat))
  have h3 := cast_ne (show ((a.den : Int)) ≠ 0 by have := den_pos a; omega)
  generalize hf : ((n : Rat) / ((a.den : Int) : Rat)) = f at *
  have h4 := cast_ne (show ((f.den : Int)) ≠ 0 by have := den_pos f; omega)
  rw [Rat.intCast_mul]
  generalize ((f.num : Int) : Rat) = fn at *
  generalize ((f.den : Int) : Rat) = fd at *
  generalize ((a.num : Int) : Rat) = an at *
  generalize ((a.den : Int) : Rat) = ad at *
  grind

theorem s110 (a : Rat) (n : Int) (A : AHeap) (ha : Sm a) (hn : -1048576 ≤ n ∧ n ≤ 1048576) : ACalls Try.prog 110 [R a, I n] A (R (a * n)) A := by
  refine acalls hmix Try.func110 (by kernel_rfl) t110 2 rfl (by decide) ?_
  have h0 := den_pos a
  obtain ⟨h1, h2⟩ := id ha
  dsimp only [m110]
  simp (maxSteps := 4000000) -implicitDefEqProofs -dsimp (disch := omega) only [↓AW_ops, ↓AW_seq, ↓AOps_nil, ↓AOps_pu, ↓AOps_call, on_some, ↓then_normal, pval, rd_S, rd_C, put_S, chkd, isAdr, bgot, AV.cells?, partA, eq_self, List.replicate_succ, List.replicate_zero, List.set_cons_zero, List.set_cons_succ, List.getElem?_cons_zero, List.getElem?_cons_succ, List.drop_zero, List.drop_succ_cons, List.take_succ_cons, List.take_nil, Option.getD_some, map_c, map_n, List.length_cons, List.length_nil, Nat.reduceAdd, Nat.reduceSub, Nat.reduceLeDiff, Nat.zero_add, List.cons_append, List.nil_append, if_true, if_false, Bool.false_eq_true]
  refine CallK.of (s64R _ ⟨by omega, by omega⟩ h0 (by omega)) ?_
  have hm := mul_parts a n
  have hl := ratio_le n a.den h0
  have hp := den_pos ((n : Rat) / ((a.den : Int) : Rat))
  generalize ((n : Rat) / ((a.den : Int) : Rat)) = f at *
  have m1 := mul_bound (x := f.num) (y := a.num.natAbs) (X := 1048576) (Y := 1099511627776) (by omega) (by omega)
  have m2 : -1152921504606846976 ≤ a.num * f.num ∧ a.num * f.num ≤ 1152921504606846976 := by
    have e : (a.num * f.num).natAbs = a.num.natAbs * f.num.natAbs := Int.natAbs_mul _ _
    have : a.num.natAbs * f.num.natAbs ≤ 1099511627776 * 1048576 := Nat.mul_le_mul (by omega) (by omega)
    omega
  simp (maxSteps := 4000000) -implicitDefEqProofs -dsimp (disch := omega) only [↓AW_ops, ↓AW_seq, ↓AOps_nil, ↓AOps_pu, ↓AOps_call, on_some, extK_same, ↓then_normal, pval, rd_S, rd_C, put_S, chkd, isAdr, bput, bgot, AV.cells?, splice, partA, eq_self, List.replicate_succ, List.replicate_zero, List.set_cons_zero, List.set_cons_succ, List.getElem?_cons_zero, List.getElem?_cons_succ, List.drop_zero, List.drop_succ_cons, List.drop_nil, List.take_zero, List.take_succ_cons, List.take_nil, Option.getD_some, map_c, map_n, List.length_cons, List.length_nil, Nat.reduceAdd, Nat.reduceSub, Nat.reduceLeDiff, Nat.zero_add, List.cons_append, List.nil_append, List.append_nil, bin_mul, w64, if_true, if_false, Bool.false_eq_true, ne_eq, not_true_eq_false]
  refine CallK.of (s64R _ ⟨by omega, by omega⟩ hp (by omega)) ?_
  simp (maxSteps := 4000000) -implicitDefEqProofs -dsimp (disch := omega) only [↓AW_ret, ↓AOps_nil, ↓AOps_pu, on_some, extK_same, ↓then_normal, ↓Fin_ret, pval, rd_S, put_S, resV, resL, chkd, bput, bgot, AV.cells?, splice, partA, eq_self, List.replicate_succ, List.replicate_zero, List.set_cons_zero, List.set_cons_succ, List.getElem?_cons_zero, List.getElem?_cons_succ, List.drop_zero, List.drop_succ_cons, List.drop_nil, List.take_zero, List.take_succ_cons, List.take_nil, Option.getD_some, List.length_cons, List.length_nil, Nat.reduceAdd, Nat.reduceSub, Nat.reduceLeDiff, Nat.reduceEqDiff, Nat.zero_add, List.cons_append, List.nil_append, List.append_nil, if_true, if_false, ne_eq, not_true_eq_false]
  exact gc_same (by rw [hm])

theorem s120 (a : Rat) (n : Int) (A : AHeap) (ha : Sm a) (hn : -1048576 ≤ n ∧ n ≤ 1048576) : ACalls Try.prog 120 [I n, R a] A (R (a * n)) A := by
  refine acalls hmix Try.func120 (by kernel_rfl) t120 2 rfl (by decide) ?_
  have h0 := den_pos a
  obtain ⟨h1, h2⟩ := id ha
  dsimp only [m120]
  simp (maxSteps := 4000000) -implicitDefEqProofs -dsimp (disch := omega) only [↓AW_ops, ↓AW_seq, ↓AOps_nil, ↓AOps_pu, ↓AOps_call, on_some, ↓then_normal, pval, rd_S, rd_C, put_S, chkd, isAdr, bgot, AV.cells?, partA, eq_self, List.replicate_succ, List.replicate_zero, List.set_cons_zero, List.set_cons_succ, List.getElem?_cons_zero, List.getElem?_cons_succ, List.drop_zero, List.drop_succ_cons, List.take_succ_cons, List.take_nil, Option.getD_some, map_c, map_n, List.length_cons, List.length_nil, Nat.reduceAdd, Nat.reduceSub, Nat.reduceLeDiff, Nat.zero_add, List.cons_append, List.nil_append, if_true, if_false, Bool.false_eq_true]
  refine CallK.of (s69R _ ⟨by omega, by omega⟩ (by omega) h0 (by omega)) ?_
  have hm := mul_parts a n
  have hl := ratio_le n a.den h0
  have hp := den_pos ((n : Rat) / ((a.den : Int) : Rat))
  generalize ((n : Rat) / ((a.den : Int) : Rat)) = f at *
  have m2 : -1152921504606846976 ≤ f.num * a.num ∧ f.num * a.num ≤ 1152921504606846976 := by
    have e : (f.num * a.num).natAbs = f.num.natAbs * a.num.natAbs := Int.natAbs_mul _ _
    have : f.num.natAbs * a.num.natAbs ≤ 1048576 * 1099511627776 := Nat.mul_le_mul (by omega) (by omega)
    omega
  simp (maxSteps := 4000000) -implicitDefEqProofs -dsimp (disch := omega) only [↓AW_ops, ↓AW_seq, ↓AOps_nil, ↓AOps_pu, ↓AOps_call, on_some, extK_same, ↓then_normal, pval, rd_S, rd_C, put_S, chkd, isAdr, bput, bgot, AV.cells?, splice, partA, eq_self, List.replicate_succ, List.replicate_zero, List.set_cons_zero, List.set_cons_succ, List.getElem?_cons_zero, List.getElem?_cons_succ, List.drop_zero, List.drop_succ_cons, List.drop_nil, List.take_zero, List.take_succ_cons, List.take_nil, Option.getD_some, map_c, map_n, List.length_cons, List.length_nil, Nat.reduceAdd, Nat.reduceSub, Nat.reduceLeDiff, Nat.zero_add, List.cons_append, List.nil_append, List.append_nil, bin_mul, w64, if_true, if_false, Bool.false_eq_true, ne_eq, not_true_eq_false]
  refine CallK.of (s69R _ ⟨by omega, by omega⟩ (by omega) hp (by omega)) ?_
  simp (maxSteps := 4000000) -implicitDefEqProofs -dsimp (disch := omega) only [↓AW_ret, ↓AOps_nil, ↓AOps_pu, on_some, extK_same, ↓then_normal, ↓Fin_ret, pval, rd_S, put_S, resV, resL, chkd, bput, bgot, AV.cells?, splice, partA, eq_self, List.replicate_succ, List.replicate_zero, List.set_cons_zero, List.set_cons_succ, List.getElem?_cons_zero, List.getElem?_cons_succ, List.drop_zero, List.drop_succ_cons, List.drop_nil, List.take_zero, List.take_succ_cons, List.take_nil, Option.getD_some, List.length_cons, List.length_nil, Nat.reduceAdd, Nat.reduceSub, Nat.reduceLeDiff, Nat.reduceEqDiff, Nat.zero_add, List.cons_append, List.nil_append, List.append_nil, if_true, if_false, ne_eq, not_true_eq_false]
  exact gc_same (by rw [Int.mul_comm, hm])

theorem div_parts (a : Rat) (n : Int) (hn : 0 < n) : ((((a.num : Rat) / (n : Rat)).num : Int) : Rat) / (((((a.num : Rat) / (n : Rat)).den : Int) * (a.den : Int) : Int) : Rat) = a / n := by
  have h1 := R_self a
  have h2 := R_self ((a.num : Rat) / (n : Rat))
  have h3 := cast_ne (show ((a.den : Int)) ≠ 0 by have := den_pos a; omega)
  have h5 := cast_ne (show n ≠ 0 by omega)
  generalize hf : ((a.num : Rat) / (n : Rat)) = f at *
  have h4 := cast_ne (show ((f.den : Int)) ≠ 0 by have := den_pos f; omega)
  rw [Rat.intCast_mul]
  generalize ((f.num : Int) : Rat) = fn at *
  generalize ((f.den : Int) : Rat) = fd at *
  generalize ((a.num : Int) : Rat) = an at *
  generalize ((a.den : Int) : Rat) = ad at *
  grind

theorem s112 (a : Rat) (n : Int) (A : AHeap) (ha : Sm a) (hn : 0 < n ∧ n ≤ 1048576) : ACalls Try.prog 112 [R a, I n] A (R (a / n)) A := by
  refine acalls hmix Try.func112 (by kernel_rfl) t112 2 rfl (by decide) ?_
  have h0 := den_pos a
  obtain ⟨h1, h2⟩ := id ha
  dsimp only [m112]
  simp (maxSteps := 4000000) -implicitDefEqProofs -dsimp (disch := omega) only [↓AW_ops, ↓AW_seq, ↓AOps_nil, ↓AOps_pu, ↓AOps_call, on_some, ↓then_normal, pval, rd_S, rd_C, put_S, chkd, isAdr, bgot, AV.cells?, partA, eq_self, List.replicate_succ, List.replicate_zero, List.set_cons_zero, List.set_cons_succ, List.getElem?_cons_zero, List.getElem?_cons_succ, List.drop_zero, List.take_zero, List.take_succ_cons, Option.getD_some, map_c, map_n, List.length_cons, List.length_nil, Nat.reduceAdd, Nat.reduceSub, Nat.reduceLeDiff, Nat.zero_add, List.cons_append, List.nil_append, if_true, if_false, Bool.false_eq_true]
  refine CallK.of (s64R _ ⟨by omega, by omega⟩ hn.1 (by omega)) ?_
  have hm := div_parts a n hn.1
  have hl := ratio_le a.num n hn.1
  have hp := den_pos ((a.num : Rat) / (n : Rat))
  generalize ((a.num : Rat) / (n : Rat)) = f at *
  have m1 := mul_bound (x := (f.den : Int)) (y := (a.den : Int)) (X := 1048576) (Y := 1048576) (by omega) (by omega)
  have m2 : 0 < (f.den : Int) * a.den := Int.mul_pos hp h0
  simp (maxSteps := 4000000) -implicitDefEqProofs -dsimp (disch := omega) only [↓AW_ops, ↓AW_seq, ↓AOps_nil, ↓AOps_pu, ↓AOps_call, on_some, extK_same, ↓then_normal, pval, rd_S, rd_C, put_S, chkd, isAdr, bput, bgot, AV.cells?, splice, partA, eq_self, List.replicate_succ, List.replicate_zero, List.set_cons_zero, List.set_cons_succ, List.getElem?_cons_zero, List.getElem?_cons_succ, List.drop_zero, List.drop_succ_cons, List.drop_nil, List.take_zero, List.take_succ_cons, List.take_nil, Option.getD_some, map_c, map_n, List.length_cons, List.length_nil, Nat.reduceAdd, Nat.reduceSub, Nat.reduceLeDiff, Nat.zero_add, List.cons_append, List.nil_append, List.append_nil, bin_mul, w64, if_true, if_false, Bool.false_eq_true, ne_eq, not_true_eq_false]
  refine CallK.of (s64R _ ⟨by omega, by omega⟩ m2 (by omega)) ?_
  simp (maxSteps := 4000000) -implicitDefEqProofs -dsimp (disch := omega) only [↓AW_ret, ↓AOps_nil, ↓AOps_pu, on_some, extK_same, ↓then_normal, ↓Fin_ret, pval, rd_S, put_S, resV, resL, chkd, bput, bgot, AV.cells?, splice, partA, eq_self, List.replicate_succ, List.replicate_zero, List.set_cons_zero, List.set_cons_succ, List.getElem?_cons_zero, List.getElem?_cons_succ, List.drop_zero, List.drop_succ_cons, List.drop_nil, List.take_zero, List.take_succ_cons, List.take_nil, Option.getD_some, List.length_cons, List.length_nil, Nat.reduceAdd, Nat.reduceSub, Nat.reduceLeDiff, Nat.reduceEqDiff, Nat.zero_add, List.cons_append, List.nil_append, List.append_nil, if_true, if_false, ne_eq, not_true_eq_false]
  exact gc_same (by rw [hm])

theorem s105 (a : Rat) (n : Int) (A : AHeap) (ha : Sm a) (hn : 0 < n ∧ n ≤ 1048576) : ACalls Try.prog 105 [R a, I n] A (R (a / n)) A := by
  refine acalls hmix Try.func105 (by kernel_rfl) t105 2 rfl (by decide) ?_
  have h0 := den_pos a
  obtain ⟨h1, h2⟩ := id ha
  dsimp only [m105]
  simp (maxSteps := 4000000) -implicitDefEqProofs -dsimp (disch := omega) only [↓AW_ops, ↓AW_seq, ↓AOps_nil, ↓AOps_pu, ↓AOps_call, on_some, ↓then_normal, pval, rd_S, rd_C, put_S, chkd, isAdr, bgot, AV.cells?, partA, eq_self, List.replicate_succ, List.replicate_zero, List.set_cons_zero, List.set_cons_succ, List.getElem?_cons_zero, List.getElem?_cons_succ, List.drop_zero, List.take_zero, List.take_succ_cons, Option.getD_some, map_c, map_n, List.length_cons, List.length_nil, Nat.reduceAdd, Nat.reduceSub, Nat.reduceLeDiff, Nat.zero_add, List.cons_append, List.nil_append, if_true, if_false, Bool.false_eq_true]
  refine CallK.of (s76 _ ⟨by omega, by omega⟩ (by omega) hn.1 (by omega)) ?_
  obtain ⟨g1, g2⟩ := gcd_pos (a := a.num) hn.1
  have hg : ¬ (Int.gcd a.num n : Int) = 0 := by omega
  obtain ⟨x, hx⟩ := Int.gcd_dvd_left a.num n
  obtain ⟨y, hy⟩ := Int.gcd_dvd_right a.num n
  generalize (Int.gcd a.num n : Nat) = g at *
  have e1 : a.num.tdiv g = x := by rw [hx, Int.mul_tdiv_cancel_left _ (by omega)]
  have e2 : n.tdiv g = y := by
    have : ((g : Int) * y).tdiv g = y := Int.mul_tdiv_cancel_left _ (by omega)
    rwa [← hy] at this
  have p2 : 0 < y := by
    rcases Int.lt_or_le 0 y with h | h
    · exact h
    · have := Int.mul_nonpos_of_nonneg_of_nonpos (show (0 : Int) ≤ g by omega) h; omega
  have b2 : y ≤ n := by have := Int.mul_le_mul_of_nonneg_right (show (1 : Int) ≤ g by omega) (Int.le_of_lt p2); omega
  have b1 : x.natAbs ≤ a.num.natAbs := by rw [← e1, Int.natAbs_tdiv]; exact Nat.div_le_self _ _
  have m1 := mul_bound (x := (a.den : Int)) (y := y) (X := 1048576) (Y := 1048576) (by omega) (by omega)
  have m2 : 0 < (a.den : Int) * y := Int.mul_pos h0 p2
  have hv : (x : Rat) / (((a.den : Int) * y : Int) : Rat) = a / n := by
    have k1 := R_self a
    have k3 := cast_ne (show ((a.den : Int)) ≠ 0 by omega)
    have k4 := cast_ne (show y ≠ 0 by omega)
    have k5 := cast_ne (show (g : Int) ≠ 0 by omega)
    have k6 : (n : Rat) = ((g : Int) : Rat) * (y : Rat) := by rw [← Rat.intCast_mul, ← hy]
    rw [hx] at k1
    rw [Rat.intCast_mul] at k1 ⊢
    generalize ((a.den : Int) : Rat) = ad at *
    generalize (x : Rat) = x at *
    generalize (y : Rat) = y at *
    generalize ((g : Int) : Rat) = g at *
    generalize (n : Rat) = n at *
    grind
  simp (maxSteps := 4000000) -implicitDefEqProofs -dsimp (disch := omega) only [↓AW_skip, ↓AW_ops, ↓AW_seq, ↓AW_cond, ↓AOps_nil, ↓AOps_pu, ↓AOps_call, on_some, extK_same, condB_f, ↓then_normal, pval, rd_S, rd_C, put_S, chkd, isAdr, bgot, AV.cells?, partA, eq_self, List.replicate_succ, List.replicate_zero, List.set_cons_zero, List.set_cons_succ, List.getElem?_cons_zero, List.getElem?_cons_succ, List.drop_zero, List.drop_succ_cons, List.take_zero, List.take_succ_cons, List.take_nil, Option.getD_some, map_c, map_n, List.length_cons, List.length_nil, Nat.reduceAdd, Nat.reduceSub, Nat.reduceLeDiff, Nat.zero_add, List.cons_append, List.nil_append, bin_mul, bin_quo, bin_eql, w64, if_true, if_false, Bool.false_eq_true, decide_false, hg, e1, e2]
  refine CallK.of (s69R _ ⟨by omega, by omega⟩ (by omega) m2 (by omega)) ?_
  simp (maxSteps := 4000000) -implicitDefEqProofs -dsimp (disch := omega) only [↓AW_ret, ↓AOps_nil, ↓AOps_pu, on_some, extK_same, ↓then_normal, ↓Fin_ret, pval, rd_S, put_S, resV, resL, chkd, bput, bgot, AV.cells?, splice, partA, eq_self, List.replicate_succ, List.replicate_zero, List.set_cons_zero, List.set_cons_succ, List.getElem?_cons_zero, List.getElem?_cons_succ, List.drop_zero, List.drop_succ_cons, List.drop_nil, List.take_zero, List.take_succ_cons, List.take_nil, Option.getD_some, List.length_cons, List.length_nil, Nat.reduceAdd, Nat.reduceSub, Nat.reduceLeDiff, Nat.reduceEqDiff, Nat.zero_add, List.cons_append, List.nil_append, List.append_nil, if_true, if_false, ne_eq, not_true_eq_false]
  exact gc_same (by rw [hv])

/-- A fraction in lowest terms, as an argument holds it. -/
def valid (r : Int × Int) (most : Int) : Prop := (1 ≤ r.2 ∧ r.2 ≤ most) ∧ Int.gcd r.1 r.2 = 1

theorem s79 (r : Int × Int) (most : Int) (A : AHeap) (h : W r.1) (hm : most ≤ 1048576) : ACalls Try.prog 79 [.agg [I r.1, I r.2], I most] A (B (decide ((1 ≤ r.2 ∧ r.2 ≤ most) ∧ Int.gcd r.1 r.2 = 1))) A := by
  refine acalls hmix Try.func79 (by kernel_rfl) t79 2 rfl (by decide) ?_
  by_cases h1 : 1 ≤ r.2
  · by_cases h2 : r.2 ≤ most
    · dsimp only [m79]
      simp (maxSteps := 4000000) -implicitDefEqProofs -dsimp (disch := omega) only [↓AW_ops, ↓AW_seq, ↓AOps_nil, ↓AOps_pu, ↓AOps_call, ↓AOps_guard, on_some, guardB_tt, ↓then_normal, pval, rd_S, rd_C, put_S, chkd, isAdr, bgot, AV.cells?, partA, eq_self, List.replicate_succ, List.replicate_zero, List.set_cons_zero, List.set_cons_succ, List.getElem?_cons_zero, List.getElem?_cons_succ, List.drop_zero, List.drop_succ_cons, List.take_zero, List.take_succ_cons, List.take_nil, Option.getD_some, map_c, map_n, List.length_cons, List.length_nil, Nat.reduceAdd, Nat.reduceSub, Nat.reduceLeDiff, Nat.zero_add, List.cons_append, List.nil_append, bin_leq, bin_geq, if_true, if_false, Bool.false_eq_true, decide_true, h1, h2]
      refine CallK.of (s101 _ h (by omega) (by omega)) ?_
      simp (maxSteps := 4000000) -implicitDefEqProofs -dsimp (disch := omega) only [↓AW_ret, ↓AOps_nil, ↓AOps_pu, ↓AOps_guard, on_some, extK_same, guardB_tt, ↓then_normal, ↓Fin_ret, pval, rd_S, rd_C, put_S, resV, resL, eq_self, List.replicate_succ, List.replicate_zero, List.set_cons_zero, List.set_cons_succ, List.getElem?_cons_zero, List.getElem?_cons_succ, Option.getD_some, Nat.reduceSub, List.cons_append, List.nil_append, bin_eql, if_true, true_and, and_true, h1, h2]
      exact gc_same (by congr 1; simp; omega)
    · dsimp only [m79]
      simp (maxSteps := 4000000) -implicitDefEqProofs -dsimp (disch := omega) only [↓AW_ops, ↓AW_seq, ↓AW_ret, ↓AOps_nil, ↓AOps_pu, ↓AOps_guard, on_some, guardB_tt, guardB_ft, skipS_some, ↓then_normal, ↓Fin_ret, pval, rd_S, rd_C, put_S, resV, resL, chkd, isAdr, bgot, AV.cells?, partA, eq_self, List.replicate_succ, List.replicate_zero, List.set_cons_zero, List.set_cons_succ, List.getElem?_cons_zero, List.getElem?_cons_succ, List.drop_zero, List.drop_succ_cons, List.take_succ_cons, List.take_nil, Option.getD_some, List.length_cons, List.length_nil, Nat.reduceAdd, Nat.reduceSub, Nat.reduceLeDiff, Nat.zero_add, List.cons_append, List.nil_append, bin_leq, bin_geq, if_true, if_false, Bool.false_eq_true, decide_true, decide_false, true_and, h1, h2]
      exact gc_same (by simp)
  · dsimp only [m79]
    simp (maxSteps := 4000000) -implicitDefEqProofs -dsimp (disch := omega) only [↓AW_ops, ↓AW_seq, ↓AW_ret, ↓AOps_nil, ↓AOps_pu, ↓AOps_guard, on_some, guardB_ft, skipS_some, ↓then_normal, ↓Fin_ret, pval, rd_S, rd_C, put_S, resV, resL, chkd, isAdr, bgot, AV.cells?, partA, eq_self, List.replicate_succ, List.replicate_zero, List.set_cons_zero, List.set_cons_succ, List.getElem?_cons_zero, List.getElem?_cons_succ, List.drop_zero, List.drop_succ_cons, List.take_succ_cons, List.take_nil, Option.getD_some, List.length_cons, List.length_nil, Nat.reduceAdd, Nat.reduceSub, Nat.reduceLeDiff, Nat.zero_add, List.cons_append, List.nil_append, bin_geq, if_true, if_false, Bool.false_eq_true, decide_false, h1]
    exact gc_same (by simp)

end Go.Proofs.Ytnnbggcckabhdaa
