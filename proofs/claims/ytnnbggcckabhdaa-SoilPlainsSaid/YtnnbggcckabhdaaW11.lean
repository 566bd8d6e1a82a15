/- Soil: fractions once more, with wider bounds; the worth of what lies between. No conditions. -/
import Derived.Test.YtnnbggcckabhdaaW10
namespace Go.Proofs.Ytnnbggcckabhdaa
open Go Go.Eng

/-- The parts of a sum. -/
theorem add_partsG (p q : Rat) :
    ∃ d1 d2 : Int, (p.den : Int).tdiv (Int.gcd p.den q.den) = d1 ∧ (q.den : Int).tdiv (Int.gcd p.den q.den) = d2 ∧ (0 < d1 ∧ d1 ≤ p.den) ∧ (0 < d2 ∧ d2 ≤ q.den) ∧
      ((p.num * d2 + q.num * d1 : Int) : Rat) / ((d1 * q.den : Int) : Rat) = p + q := by
  have hp0 := den_pos p
  have hq0 := den_pos q
  have hg : 0 < Int.gcd p.den q.den := Int.gcd_pos_of_ne_zero_right _ (by omega)
  obtain ⟨d1, h1⟩ := Int.gcd_dvd_left (p.den : Int) (q.den : Int)
  obtain ⟨d2, h2⟩ := Int.gcd_dvd_right (p.den : Int) (q.den : Int)
  generalize (Int.gcd p.den q.den : Nat) = g at *
  have hg' : (0 : Int) < (g : Int) := by omega
  have p1 : 0 < d1 := by
    rcases Int.lt_or_le 0 d1 with h | h
    · exact h
    · have := Int.mul_nonpos_of_nonneg_of_nonpos (Int.le_of_lt hg') h; omega
  have p2 : 0 < d2 := by
    rcases Int.lt_or_le 0 d2 with h | h
    · exact h
    · have := Int.mul_nonpos_of_nonneg_of_nonpos (Int.le_of_lt hg') h; omega
  have b1 : d1 ≤ (g : Int) * d1 := by have := Int.mul_le_mul_of_nonneg_right (show (1 : Int) ≤ g by omega) (Int.le_of_lt p1); omega
  have b2 : d2 ≤ (g : Int) * d2 := by have := Int.mul_le_mul_of_nonneg_right (show (1 : Int) ≤ g by omega) (Int.le_of_lt p2); omega
  refine ⟨d1, d2, by rw [h1, Int.mul_tdiv_cancel_left _ (by omega)], by rw [h2, Int.mul_tdiv_cancel_left _ (by omega)], ⟨p1, by omega⟩, ⟨p2, by omega⟩, ?_⟩
  have e1 := R_self p
  have e2 := R_self q
  rw [h1, Rat.intCast_mul] at e1
  rw [h2, Rat.intCast_mul] at e2
  rw [h2]
  simp only [Rat.intCast_add, Rat.intCast_mul]
  have n1 : (d1 : Rat) ≠ 0 := cast_ne (by omega)
  have n2 : (d2 : Rat) ≠ 0 := cast_ne (by omega)
  have n3 : ((g : Int) : Rat) ≠ 0 := cast_ne (by omega)
  generalize (p.num : Rat) = a at *
  generalize (q.num : Rat) = b at *
  generalize (d1 : Rat) = x at *
  generalize (d2 : Rat) = y at *
  generalize ((g : Int) : Rat) = z at *
  subst e1
  grind

/-- Two fractions that can be added. -/
def Fit (p q : Rat) : Prop := p.num.natAbs * q.den + q.num.natAbs * p.den ≤ 4611686018427387904 ∧ p.den * q.den ≤ 4611686018427387904

theorem Fit.facts {p q : Rat} (h : Fit p q) {d1 d2 : Int} (b1 : 0 < d1 ∧ d1 ≤ p.den) (b2 : 0 < d2 ∧ d2 ≤ q.den) :
    ((p.num * d2).natAbs + (q.num * d1).natAbs ≤ 4611686018427387904 ∧ 0 < d1 * q.den ∧ d1 * q.den ≤ 4611686018427387904) ∧ p.num.natAbs ≤ 4611686018427387904 ∧ q.num.natAbs ≤ 4611686018427387904 ∧ p.den ≤ 4611686018427387904 ∧ q.den ≤ 4611686018427387904 := by
  have hp0 := p.den_pos
  have hq0 := q.den_pos
  have m1 : (p.num * d2).natAbs ≤ p.num.natAbs * q.den := by rw [Int.natAbs_mul]; exact Nat.mul_le_mul_left _ (by omega)
  have m2 : (q.num * d1).natAbs ≤ q.num.natAbs * p.den := by rw [Int.natAbs_mul]; exact Nat.mul_le_mul_left _ (by omega)
  have m3 : 0 < d1 * q.den := Int.mul_pos b1.1 (by omega)
  have m4 : d1 * q.den ≤ (p.den : Int) * q.den := Int.mul_le_mul_of_nonneg_right b1.2 (by omega)
  have m5 : p.num.natAbs * 1 ≤ p.num.natAbs * q.den := Nat.mul_le_mul_left _ hq0
  have m6 : q.num.natAbs * 1 ≤ q.num.natAbs * p.den := Nat.mul_le_mul_left _ hp0
  have m7 : p.den * 1 ≤ p.den * q.den := Nat.mul_le_mul_left _ hq0
  have m8 : 1 * q.den ≤ p.den * q.den := Nat.mul_le_mul_right _ hp0
  have h1 := h.1
  have h2 := h.2
  have m9 : (p.den : Int) * q.den ≤ 4611686018427387904 := by rw [← Int.natCast_mul]; omega
  omega

theorem s109g (p q : Rat) (A : AHeap) (h : Fit p q) : ACalls Try.prog 109 [R p, R q] A (R (p + q)) A := by
  refine acalls hmix Try.func109 (by kernel_rfl) t109 2 rfl (by decide) ?_
  have hp0 := den_pos p
  have hq0 := den_pos q
  obtain ⟨d1, d2, e1, e2, b1, b2, e3⟩ := add_partsG p q
  obtain ⟨⟨l1, l2, l3⟩, l4, l5, l6, l7⟩ := h.facts b1 b2
  have hg : 0 < Int.gcd p.den q.den := Int.gcd_pos_of_ne_zero_right _ (by omega)
  have hg0 : ¬ (Int.gcd p.den q.den : Int) = 0 := by omega
  dsimp only [m109]
  simp (maxSteps := 4000000) -implicitDefEqProofs -dsimp (disch := omega) only [↓AW_ops, ↓AW_seq, ↓AOps_nil, ↓AOps_pu, ↓AOps_call, on_some, ↓then_normal, pval, rd_S, rd_C, put_S, chkd, isAdr, bgot, AV.cells?, partA, eq_self, List.replicate_succ, List.replicate_zero, List.set_cons_zero, List.set_cons_succ, List.getElem?_cons_zero, List.getElem?_cons_succ, List.drop_zero, List.drop_succ_cons, List.take_succ_cons, List.take_nil, Option.getD_some, map_c, map_n, List.length_cons, List.length_nil, Nat.reduceAdd, Nat.reduceSub, Nat.reduceLeDiff, Nat.zero_add, List.cons_append, List.nil_append, if_true, if_false, Bool.false_eq_true]
  refine CallK.of (s101 _ ⟨by omega, by omega⟩ hq0 (by omega)) ?_
  simp (maxSteps := 4000000) -implicitDefEqProofs -dsimp (disch := omega) only [↓AW_ops, ↓AW_seq, ↓AOps_nil, ↓AOps_pu, ↓AOps_call, on_some, extK_same, ↓then_normal, pval, rd_S, put_S, chkd, isAdr, bgot, AV.cells?, partA, eq_self, List.replicate_succ, List.replicate_zero, List.set_cons_zero, List.set_cons_succ, List.getElem?_cons_zero, List.getElem?_cons_succ, List.drop_zero, List.drop_succ_cons, List.take_zero, List.take_succ_cons, List.take_nil, Option.getD_some, map_c, map_n, List.length_cons, List.length_nil, Nat.reduceAdd, Nat.reduceSub, Nat.reduceLeDiff, Nat.zero_add, List.cons_append, List.nil_append, bin_add, bin_mul, bin_quo, w64, if_true, if_false, Bool.false_eq_true, hg0, e1, e2]
  refine CallK.of (s64R _ ⟨by omega, by omega⟩ l2 (by omega)) ?_
  simp (maxSteps := 4000000) -implicitDefEqProofs -dsimp (disch := omega) only [↓AW_ret, ↓AOps_nil, ↓AOps_pu, on_some, extK_same, ↓then_normal, ↓Fin_ret, pval, rd_S, put_S, resV, resL, chkd, bput, bgot, AV.cells?, splice, partA, eq_self, List.replicate_succ, List.replicate_zero, List.set_cons_zero, List.set_cons_succ, List.getElem?_cons_zero, List.getElem?_cons_succ, List.drop_zero, List.drop_succ_cons, List.drop_nil, List.take_zero, List.take_succ_cons, List.take_nil, Option.getD_some, List.length_cons, List.length_nil, Nat.reduceAdd, Nat.reduceSub, Nat.reduceLeDiff, Nat.reduceEqDiff, Nat.zero_add, List.cons_append, List.nil_append, List.append_nil, if_true, if_false, ne_eq, not_true_eq_false]
  exact gc_same (by rw [e3])

theorem s27g (p q : Rat) (A : AHeap) (h : Fit p q) : ACalls Try.prog 27 [R p, R q] A (R (p + q)) A := by
  refine acalls hmix Try.func27 (by kernel_rfl) t27 2 rfl (by decide) ?_
  have hp0 := den_pos p
  have hq0 := den_pos q
  obtain ⟨d1, d2, e1, e2, b1, b2, e3⟩ := add_partsG p q
  obtain ⟨⟨l1, l2, l3⟩, l4, l5, l6, l7⟩ := h.facts b1 b2
  have hg : 0 < Int.gcd p.den q.den := Int.gcd_pos_of_ne_zero_right _ (by omega)
  have hg0 : ¬ (Int.gcd p.den q.den : Int) = 0 := by omega
  dsimp only [m27]
  simp (maxSteps := 4000000) -implicitDefEqProofs -dsimp (disch := omega) only [↓AW_ops, ↓AW_seq, ↓AOps_nil, ↓AOps_pu, ↓AOps_call, on_some, ↓then_normal, pval, rd_S, rd_C, put_S, chkd, isAdr, bgot, AV.cells?, partA, eq_self, List.replicate_succ, List.replicate_zero, List.set_cons_zero, List.set_cons_succ, List.getElem?_cons_zero, List.getElem?_cons_succ, List.drop_zero, List.drop_succ_cons, List.take_succ_cons, List.take_nil, Option.getD_some, map_c, map_n, List.length_cons, List.length_nil, Nat.reduceAdd, Nat.reduceSub, Nat.reduceLeDiff, Nat.zero_add, List.cons_append, List.nil_append, if_true, if_false, Bool.false_eq_true]
  refine CallK.of (s76 _ ⟨by omega, by omega⟩ (by omega) hq0 (by omega)) ?_
  simp (maxSteps := 4000000) -implicitDefEqProofs -dsimp (disch := omega) only [↓AW_ops, ↓AW_seq, ↓AOps_nil, ↓AOps_pu, ↓AOps_call, on_some, extK_same, ↓then_normal, pval, rd_S, put_S, chkd, isAdr, bgot, AV.cells?, partA, eq_self, List.replicate_succ, List.replicate_zero, List.set_cons_zero, List.set_cons_succ, List.getElem?_cons_zero, List.getElem?_cons_succ, List.drop_zero, List.drop_succ_cons, List.take_zero, List.take_succ_cons, List.take_nil, Option.getD_some, map_c, map_n, List.length_cons, List.length_nil, Nat.reduceAdd, Nat.reduceSub, Nat.reduceLeDiff, Nat.zero_add, List.cons_append, List.nil_append, bin_add, bin_mul, bin_quo, w64, if_true, if_false, Bool.false_eq_true, hg0, e1, e2]
  refine CallK.of (s69R _ ⟨by omega, by omega⟩ (by omega) l2 (by omega)) ?_
  simp (maxSteps := 4000000) -implicitDefEqProofs -dsimp (disch := omega) only [↓AW_ret, ↓AOps_nil, ↓AOps_pu, on_some, extK_same, ↓then_normal, ↓Fin_ret, pval, rd_S, put_S, resV, resL, chkd, bput, bgot, AV.cells?, splice, partA, eq_self, List.replicate_succ, List.replicate_zero, List.set_cons_zero, List.set_cons_succ, List.getElem?_cons_zero, List.getElem?_cons_succ, List.drop_zero, List.drop_succ_cons, List.drop_nil, List.take_zero, List.take_succ_cons, List.take_nil, Option.getD_some, List.length_cons, List.length_nil, Nat.reduceAdd, Nat.reduceSub, Nat.reduceLeDiff, Nat.reduceEqDiff, Nat.zero_add, List.cons_append, List.nil_append, List.append_nil, if_true, if_false, ne_eq, not_true_eq_false]
  exact gc_same (by rw [e3])

theorem Fit.neg {p q : Rat} (h : Fit p q) : Fit p (-q) := by
  unfold Fit at *
  rw [neg_num, neg_den, Int.natAbs_neg]
  exact h

theorem Fit.small {p q : Rat} (h : Fit p q) : -4611686018427387904 ≤ q.num ∧ q.num ≤ 4611686018427387904 := by
  have m6 : q.num.natAbs * 1 ≤ q.num.natAbs * p.den := Nat.mul_le_mul_left _ p.den_pos
  have := h.1
  omega

theorem s106g (p q : Rat) (A : AHeap) (h : Fit p q) : ACalls Try.prog 106 [R p, R q] A (R (p - q)) A := by
  refine acalls hmix Try.func106 (by kernel_rfl) t106 2 rfl (by decide) ?_
  obtain ⟨l4, l5⟩ := h.small
  dsimp only [m106]
  simp (maxSteps := 4000000) -implicitDefEqProofs -dsimp (disch := omega) only [↓AW_ops, ↓AW_seq, ↓AOps_nil, ↓AOps_pu, ↓AOps_call, on_some, ↓then_normal, pval, rd_S, rd_C, put_S, chkd, isAdr, bgot, AV.cells?, splice, partA, fillA, eq_self, List.replicate_succ, List.replicate_zero, List.set_cons_zero, List.set_cons_succ, List.getElem?_cons_zero, List.getElem?_cons_succ, List.drop_zero, List.drop_succ_cons, List.drop_nil, List.take_zero, List.take_succ_cons, List.take_nil, Option.getD_some, Option.map_some, map_c, map_n, List.length_cons, List.length_nil, Nat.reduceAdd, Nat.reduceSub, Nat.reduceLeDiff, Nat.reduceEqDiff, Nat.zero_add, List.cons_append, List.nil_append, List.append_nil, w64, if_true, if_false, Bool.false_eq_true, and_true]
  have h := s109g p (-q) A h.neg
  rw [R_neg] at h
  refine CallK.of (h) ?_
  simp (maxSteps := 4000000) -implicitDefEqProofs -dsimp (disch := omega) only [↓AW_ret, ↓AOps_nil, ↓AOps_pu, on_some, extK_same, ↓then_normal, ↓Fin_ret, pval, rd_S, put_S, resV, resL, chkd, bput, bgot, AV.cells?, splice, partA, eq_self, List.replicate_succ, List.replicate_zero, List.set_cons_zero, List.set_cons_succ, List.getElem?_cons_zero, List.getElem?_cons_succ, List.drop_zero, List.drop_succ_cons, List.drop_nil, List.take_zero, List.take_succ_cons, List.take_nil, Option.getD_some, List.length_cons, List.length_nil, Nat.reduceAdd, Nat.reduceSub, Nat.reduceLeDiff, Nat.reduceEqDiff, Nat.zero_add, List.cons_append, List.nil_append, List.append_nil, if_true, if_false, ne_eq, not_true_eq_false]
  exact gc_same (by rw [Rat.sub_eq_add_neg])

theorem s53g (p q : Rat) (A : AHeap) (h : Fit p q) : ACalls Try.prog 53 [R p, R q] A (R (p - q)) A := by
  refine acalls hmix Try.func53 (by kernel_rfl) t53 2 rfl (by decide) ?_
  obtain ⟨l4, l5⟩ := h.small
  dsimp only [m53]
  simp (maxSteps := 4000000) -implicitDefEqProofs -dsimp (disch := omega) only [↓AW_ops, ↓AW_seq, ↓AOps_nil, ↓AOps_pu, ↓AOps_call, on_some, ↓then_normal, pval, rd_S, rd_C, put_S, chkd, isAdr, bgot, AV.cells?, splice, partA, fillA, eq_self, List.replicate_succ, List.replicate_zero, List.set_cons_zero, List.set_cons_succ, List.getElem?_cons_zero, List.getElem?_cons_succ, List.drop_zero, List.drop_succ_cons, List.drop_nil, List.take_zero, List.take_succ_cons, List.take_nil, Option.getD_some, Option.map_some, map_c, map_n, List.length_cons, List.length_nil, Nat.reduceAdd, Nat.reduceSub, Nat.reduceLeDiff, Nat.reduceEqDiff, Nat.zero_add, List.cons_append, List.nil_append, List.append_nil, w64, if_true, if_false, Bool.false_eq_true, and_true]
  have h := s27g p (-q) A h.neg
  rw [R_neg] at h
  refine CallK.of (h) ?_
  simp (maxSteps := 4000000) -implicitDefEqProofs -dsimp (disch := omega) only [↓AW_ret, ↓AOps_nil, ↓AOps_pu, on_some, extK_same, ↓then_normal, ↓Fin_ret, pval, rd_S, put_S, resV, resL, chkd, bput, bgot, AV.cells?, splice, partA, eq_self, List.replicate_succ, List.replicate_zero, List.set_cons_zero, List.set_cons_succ, List.getElem?_cons_zero, List.getElem?_cons_succ, List.drop_zero, List.drop_succ_cons, List.drop_nil, List.take_zero, List.take_succ_cons, List.take_nil, Option.getD_some, List.length_cons, List.length_nil, Nat.reduceAdd, Nat.reduceSub, Nat.reduceLeDiff, Nat.reduceEqDiff, Nat.zero_add, List.cons_append, List.nil_append, List.append_nil, if_true, if_false, ne_eq, not_true_eq_false]
  exact gc_same (by rw [Rat.sub_eq_add_neg])

theorem s72g (p q : Rat) (A : AHeap) (h : Fit p q) : ACalls Try.prog 72 [R p, R q] A (I (p - q).num) A := by
  refine acalls hmix Try.func72 (by kernel_rfl) t72 2 rfl (by decide) ?_
  dsimp only [m72]
  simp (maxSteps := 4000000) -implicitDefEqProofs -dsimp (disch := omega) only [↓AW_ops, ↓AW_seq, ↓AOps_nil, ↓AOps_pu, ↓AOps_call, on_some, ↓then_normal, pval, rd_S, rd_C, put_S, chkd, bgot, AV.cells?, partA, eq_self, List.replicate_succ, List.replicate_zero, List.set_cons_zero, List.set_cons_succ, List.getElem?_cons_zero, List.getElem?_cons_succ, List.drop_zero, List.take_succ_cons, List.take_nil, Option.getD_some, map_c, map_n, List.length_cons, List.length_nil, Nat.reduceAdd, Nat.reduceSub, Nat.reduceLeDiff, Nat.reduceEqDiff, Nat.zero_add, List.cons_append, List.nil_append, if_true, if_false]
  refine CallK.of (s106g p q A h) ?_
  simp (maxSteps := 4000000) -implicitDefEqProofs -dsimp (disch := omega) only [↓AW_ret, ↓AOps_nil, ↓AOps_pu, on_some, extK_same, ↓then_normal, ↓Fin_ret, pval, rd_S, put_S, resV, resL, partA, eq_self, List.replicate_succ, List.replicate_zero, List.set_cons_zero, List.set_cons_succ, List.getElem?_cons_zero, List.getElem?_cons_succ, List.drop_zero, List.take_zero, List.take_succ_cons, Option.getD_some, List.length_cons, List.length_nil, Nat.reduceAdd, Nat.reduceSub, Nat.reduceLeDiff, Nat.zero_add, List.cons_append, List.nil_append, if_true, if_false, Bool.false_eq_true]
  exact gc_same rfl

theorem sub_neg_iff (p q : Rat) : (p - q).num < 0 ↔ p < q := by rw [num_neg_iff]; constructor <;> intro h <;> grind
theorem sub_pos_iff (p q : Rat) : 0 < (p - q).num ↔ q < p := by rw [num_pos_iff]; constructor <;> intro h <;> grind

theorem s24g (p q : Rat) (A : AHeap) (h : Fit p q) : ACalls Try.prog 24 [R p, R q] A (B (decide (p < q))) A := by
  refine acalls hmix Try.func24 (by kernel_rfl) t24 2 rfl (by decide) ?_
  dsimp only [m24]
  simp (maxSteps := 4000000) -implicitDefEqProofs -dsimp (disch := omega) only [↓AW_ops, ↓AW_seq, ↓AOps_nil, ↓AOps_pu, ↓AOps_call, on_some, ↓then_normal, pval, rd_S, rd_C, put_S, chkd, bgot, AV.cells?, partA, eq_self, List.replicate_succ, List.replicate_zero, List.set_cons_zero, List.set_cons_succ, List.getElem?_cons_zero, List.getElem?_cons_succ, List.drop_zero, List.take_succ_cons, List.take_nil, Option.getD_some, map_c, map_n, List.length_cons, List.length_nil, Nat.reduceAdd, Nat.reduceSub, Nat.reduceLeDiff, Nat.reduceEqDiff, Nat.zero_add, List.cons_append, List.nil_append, if_true, if_false]
  refine CallK.of (s53g p q A h) ?_
  simp (maxSteps := 4000000) -implicitDefEqProofs -dsimp (disch := omega) only [↓AW_ret, ↓AOps_nil, ↓AOps_pu, on_some, extK_same, ↓then_normal, ↓Fin_ret, pval, rd_S, rd_C, put_S, resV, resL, partA, eq_self, List.replicate_succ, List.replicate_zero, List.set_cons_zero, List.set_cons_succ, List.getElem?_cons_zero, List.getElem?_cons_succ, List.drop_zero, List.take_zero, List.take_succ_cons, Option.getD_some, List.length_cons, List.length_nil, Nat.reduceAdd, Nat.reduceSub, Nat.reduceLeDiff, Nat.zero_add, List.cons_append, List.nil_append, bin_lss, if_true, if_false, Bool.false_eq_true]
  refine gc_same ?_
  simp [sub_neg_iff]

theorem s110g (a : Rat) (n : Int) (A : AHeap) (ha : a.num.natAbs * n.natAbs ≤ 4611686018427387904) (hd : a.den ≤ 4611686018427387904) (hn : -4611686018427387904 ≤ n ∧ n ≤ 4611686018427387904) : ACalls Try.prog 110 [R a, I n] A (R (a * n)) A := by
  refine acalls hmix Try.func110 (by kernel_rfl) t110 2 rfl (by decide) ?_
  have h0 := den_pos a
  dsimp only [m110]
  simp (maxSteps := 4000000) -implicitDefEqProofs -dsimp (disch := omega) only [↓AW_ops, ↓AW_seq, ↓AOps_nil, ↓AOps_pu, ↓AOps_call, on_some, ↓then_normal, pval, rd_S, rd_C, put_S, chkd, isAdr, bgot, AV.cells?, partA, eq_self, List.replicate_succ, List.replicate_zero, List.set_cons_zero, List.set_cons_succ, List.getElem?_cons_zero, List.getElem?_cons_succ, List.drop_zero, List.drop_succ_cons, List.take_succ_cons, List.take_nil, Option.getD_some, map_c, map_n, List.length_cons, List.length_nil, Nat.reduceAdd, Nat.reduceSub, Nat.reduceLeDiff, Nat.zero_add, List.cons_append, List.nil_append, if_true, if_false, Bool.false_eq_true]
  refine CallK.of (s64R _ ⟨by omega, by omega⟩ h0 (by omega)) ?_
  have hm := mul_parts a n
  have hl := ratio_le n a.den h0
  have hp := den_pos ((n : Rat) / ((a.den : Int) : Rat))
  generalize ((n : Rat) / ((a.den : Int) : Rat)) = f at *
  have e : (a.num * f.num).natAbs ≤ a.num.natAbs * n.natAbs := by rw [Int.natAbs_mul]; exact Nat.mul_le_mul_left _ hl.1
  simp (maxSteps := 4000000) -implicitDefEqProofs -dsimp (disch := omega) only [↓AW_ops, ↓AW_seq, ↓AOps_nil, ↓AOps_pu, ↓AOps_call, on_some, extK_same, ↓then_normal, pval, rd_S, rd_C, put_S, chkd, isAdr, bput, bgot, AV.cells?, splice, partA, eq_self, List.replicate_succ, List.replicate_zero, List.set_cons_zero, List.set_cons_succ, List.getElem?_cons_zero, List.getElem?_cons_succ, List.drop_zero, List.drop_succ_cons, List.drop_nil, List.take_zero, List.take_succ_cons, List.take_nil, Option.getD_some, map_c, map_n, List.length_cons, List.length_nil, Nat.reduceAdd, Nat.reduceSub, Nat.reduceLeDiff, Nat.zero_add, List.cons_append, List.nil_append, List.append_nil, bin_mul, w64, if_true, if_false, Bool.false_eq_true, ne_eq, not_true_eq_false]
  refine CallK.of (s64R _ ⟨by omega, by omega⟩ hp (by omega)) ?_
  simp (maxSteps := 4000000) -implicitDefEqProofs -dsimp (disch := omega) only [↓AW_ret, ↓AOps_nil, ↓AOps_pu, on_some, extK_same, ↓then_normal, ↓Fin_ret, pval, rd_S, put_S, resV, resL, chkd, bput, bgot, AV.cells?, splice, partA, eq_self, List.replicate_succ, List.replicate_zero, List.set_cons_zero, List.set_cons_succ, List.getElem?_cons_zero, List.getElem?_cons_succ, List.drop_zero, List.drop_succ_cons, List.drop_nil, List.take_zero, List.take_succ_cons, List.take_nil, Option.getD_some, List.length_cons, List.length_nil, Nat.reduceAdd, Nat.reduceSub, Nat.reduceLeDiff, Nat.reduceEqDiff, Nat.zero_add, List.cons_append, List.nil_append, List.append_nil, if_true, if_false, ne_eq, not_true_eq_false]
  exact gc_same (by rw [hm])

theorem Fit_of {p q : Rat} (P Q D E : Nat) (h1 : p.num.natAbs ≤ P) (h2 : p.den ≤ D) (h3 : q.num.natAbs ≤ Q) (h4 : q.den ≤ E) (h : P * E + Q * D ≤ 4611686018427387904) (k : D * E ≤ 4611686018427387904) : Fit p q := by
  have m1 : p.num.natAbs * q.den ≤ P * E := Nat.mul_le_mul h1 h4
  have m2 : q.num.natAbs * p.den ≤ Q * D := Nat.mul_le_mul h3 h2
  have m3 : p.den * q.den ≤ D * E := Nat.mul_le_mul h2 h4
  exact ⟨by omega, by omega⟩

theorem Sm.fit {p q : Rat} (hp : Sm p) (hq : Sm q) : Fit p q := by
  obtain ⟨⟨h1, h2⟩, h3⟩ := hp
  obtain ⟨⟨h4, h5⟩, h6⟩ := hq
  exact Fit_of 1099511627776 1099511627776 1048576 1048576 (by omega) (by omega) (by omega) (by omega) (by decide) (by decide)

/-! What is worth up to a place. -/

theorem upTo_append (x : Rat) : ∀ (f g : List (Int × Int)) (b : Int), upTo b (f ++ g) x = upTo b f x + upTo (b + len f) g x
  | [], g, b => by
    have : b + len [] = b := by simp [len, sumZ]
    rw [List.nil_append, this, upTo, Rat.zero_add]
  | z :: f, g, b => by
    have : b + len (z :: f) = b + z.1 + len f := by simp [len, sumZ]; omega
    rw [List.cons_append, upTo, upTo_append x f g (b + z.1), upTo, this, Rat.add_assoc]

theorem all_pos {f : List (Int × Int)} (h : f.all vz = true) : ∀ z ∈ f, 1 ≤ z.1 := fun z hz => ((vz_iff z).1 (List.all_eq_true.1 h z hz)).1.1

theorem len_nonneg {f : List (Int × Int)} (h : ∀ z ∈ f, 1 ≤ z.1) : 0 ≤ len f := by
  induction f with
  | nil => simp [len, sumZ]
  | cons z f ih =>
    have := ih (fun y hy => h y (by simp [hy]))
    have := h z (by simp)
    simp only [len, sumZ, List.map_cons, List.sum_cons] at *
    omega

theorem upTo_full (x : Rat) : ∀ (f : List (Int × Int)) (b : Int), (∀ z ∈ f, 1 ≤ z.1) → ((b + len f : Int) : Rat) ≤ x → upTo b f x = (tot f : Int)
  | [], b, _, _ => by simp [upTo, tot, sumZ]
  | z :: f, b, h, hx => by
    have hz := h z (by simp)
    have hn := len_nonneg (fun y hy => h y (List.mem_cons_of_mem z hy))
    have e : b + len (z :: f) = b + z.1 + len f := by simp [len, sumZ]; omega
    rw [e] at hx
    rw [upTo, upTo_full x f (b + z.1) (fun y hy => h y (by simp [hy])) hx]
    have h1 : (b : Rat) ≤ ((b + z.1 : Int) : Rat) := Rat.intCast_le_intCast.2 (by omega)
    have h2 : ((b + z.1 : Int) : Rat) ≤ ((b + z.1 + len f : Int) : Rat) := Rat.intCast_le_intCast.2 (by omega)
    have e2 : clamp x (b : Rat) ((b + z.1 : Int) : Rat) = ((b + z.1 : Int) : Rat) := by unfold clamp; grind
    have e3 : tot (z :: f) = z.1 * z.2 + tot f := by simp [tot, sumZ]
    rw [e2, e3, Rat.intCast_add, Rat.intCast_add, Rat.intCast_mul]
    grind

theorem upTo_none (x : Rat) : ∀ (f : List (Int × Int)) (b : Int), (∀ z ∈ f, 1 ≤ z.1) → x ≤ (b : Rat) → upTo b f x = 0
  | [], _, _, _ => rfl
  | z :: f, b, h, hx => by
    have hz := h z (by simp)
    have h1 : (b : Rat) ≤ ((b + z.1 : Int) : Rat) := Rat.intCast_le_intCast.2 (by omega)
    rw [upTo, upTo_none x f (b + z.1) (fun y hy => h y (by simp [hy])) (Rat.le_trans hx h1)]
    have e2 : clamp x (b : Rat) ((b + z.1 : Int) : Rat) = (b : Rat) := by unfold clamp; grind
    rw [e2]
    grind

theorem units_le {f : List (Int × Int)} (h : f.all vz = true) : ∀ y ∈ units f, 0 ≤ y ∧ y ≤ 20 := by
  intro y hy
  obtain ⟨w, hw, hy⟩ := List.mem_flatMap.1 hy
  have := (vz_iff w).1 (List.all_eq_true.1 h w hw)
  have := (List.mem_replicate.1 hy).2
  omega

theorem upTo_bounds {f : List (Int × Int)} (h : good f) (b : Int) (x : Rat) : 0 ≤ upTo b f x ∧ upTo b f x ≤ ((2400 : Int) : Rat) := by
  rw [← upTo_units x f b h.2]
  have := upToU_bounds (units f) b x (units_le h.2)
  have hl := len_units h.2
  have hb := len_bound h
  exact ⟨this.1, Rat.le_trans this.2 (Rat.intCast_le_intCast.2 (by omega))⟩

theorem upTo_Dv {D : Int} {x : Rat} (hx : Dv D x) : ∀ (f : List (Int × Int)) (b : Int), Dv D (upTo b f x)
  | [], b => Dv_int D 0
  | z :: f, b => by
    rw [upTo]
    exact (((clamp_Dv hx _ _).sub (Dv_int _ _)).mul z.2).add (upTo_Dv hx f (b + z.1))

/-- A place of a field with which words do not overflow. -/
def Pl (f : List (Int × Int)) (q : Rat) : Prop := (0 ≤ q.num ∧ q.num ≤ len f * q.den) ∧ (q.den : Int) ≤ 1048576

theorem Pl.le {f : List (Int × Int)} {q : Rat} (h : Pl f q) : 0 ≤ q ∧ q ≤ ((len f : Int) : Rat) := by
  refine ⟨Rat.num_nonneg.1 h.1.1, ?_⟩
  rw [Rat.le_iff]
  show q.num * (1 : Int) ≤ len f * (q.den : Int)
  have := h.1.2
  omega

theorem Pl.of {f : List (Int × Int)} {q : Rat} (h0 : 0 ≤ q) (h1 : q ≤ ((len f : Int) : Rat)) (hd : (q.den : Int) ≤ 1048576) : Pl f q := by
  refine ⟨⟨Rat.num_nonneg.2 h0, ?_⟩, hd⟩
  rw [Rat.le_iff] at h1
  have h1 : q.num * (1 : Int) ≤ len f * (q.den : Int) := h1
  omega

theorem Pl.sm {f : List (Int × Int)} {q : Rat} (hg : good f) (h : Pl f q) : Sm q := by
  have hl := len_bound hg
  have hd := den_pos q
  obtain ⟨⟨h1, h2⟩, h3⟩ := h
  have : len f * q.den ≤ 120 * 1048576 := Int.mul_le_mul hl.2 h3 (by omega) (by omega)
  exact ⟨by omega, h3⟩

theorem num_zero {q : Rat} (h : q = 0) : q.num.natAbs = 0 ∧ q.den = 1 := by subst h; exact ⟨rfl, rfl⟩

theorem mul_Nat {a b X Y : Nat} (h : a ≤ X) (k : b ≤ Y) : a * b ≤ X * Y := Nat.mul_le_mul h k

/-- One zone's part, when it is not nothing. -/
theorem zone_part {f : List (Int × Int)} (hg : good f) {p q : Rat} (hp : Pl f p) (hq : Pl f q) (hpq : p ≤ q) (g : List (Int × Int)) (hgg : good g) (z : Int × Int) (hz : vz z = true) (lo hi : Rat) (hlo : lo = if ((len g : Int) : Rat) < p then p else ((len g : Int) : Rat)) (hhi : hi = if q < ((len g + z.1 : Int) : Rat) then q else ((len g + z.1 : Int) : Rat)) (h : lo < hi) :
    (Sm lo ∧ Sm hi) ∧ Fit hi lo ∧ ((hi - lo).num.natAbs * z.2.natAbs ≤ 4611686018427387904 ∧ (hi - lo).den ≤ 4611686018427387904) ∧ Fit (upTo 0 g q - upTo 0 g p) ((hi - lo) * z.2) := by
  have hz' := (vz_iff z).1 hz
  have hlb := len_bound hgg
  have hSp := hp.sm hg
  have hSq := hq.sm hg
  have hSb : Sm ((len g : Int) : Rat) := Sm_int (by omega)
  have hSe : Sm ((len g + z.1 : Int) : Rat) := Sm_int (by omega)
  have hSlo : Sm lo := by rw [hlo]; split <;> assumption
  have hShi : Sm hi := by rw [hhi]; split <;> assumption
  have hfit := hShi.fit hSlo
  have hL := len_bound hg
  have p0 := hp.le
  have q0 := hq.le
  have hL2 : ((len f : Int) : Rat) ≤ ((120 : Int) : Rat) := Rat.intCast_le_intCast.2 hL.2
  have hb0 : (0 : Rat) ≤ ((len g : Int) : Rat) := by rw [← int0]; exact Rat.intCast_le_intCast.2 hlb.1
  have lo0 : 0 ≤ lo := by grind
  have hi1 : hi ≤ ((120 : Int) : Rat) := by grind
  have dp := den_pos p
  have dq := den_pos q
  have hD : (0 : Int) < p.den * q.den := Int.mul_pos dp dq
  have hD2 : (p.den : Int) * q.den ≤ 1048576 * 1048576 := Int.mul_le_mul hp.2 hq.2 (by omega) (by omega)
  have Dlo : Dv p.den lo := by
    rw [hlo]; split
    · exact Dv_self p
    · exact Dv_int _ _
  have Dhi : Dv q.den hi := by
    rw [hhi]; split
    · exact Dv_self q
    · exact Dv_int _ _
  have Da : Dv (p.den * q.den) (hi - lo) := (Dhi.dvd (Int.dvd_mul_left _ _)).sub (Dlo.dvd (Int.dvd_mul_right _ _))
  have a0 : 0 ≤ hi - lo := by grind
  have a1 : hi - lo ≤ ((120 : Int) : Rat) := by grind
  have na := num_le hD Da (int_neg_le_zero (M := 120) (by omega) a0) a1
  have z0 : (0 : Rat) ≤ (z.2 : Rat) := by rw [← int0]; exact Rat.intCast_le_intCast.2 hz'.2.1
  have z1 : (z.2 : Rat) ≤ ((20 : Int) : Rat) := Rat.intCast_le_intCast.2 hz'.2.2
  have t0 : 0 ≤ (hi - lo) * (z.2 : Rat) := Rat.mul_nonneg a0 z0
  have t1 : (hi - lo) * (z.2 : Rat) ≤ ((2400 : Int) : Rat) := by
    have h1 := Rat.mul_le_mul_of_nonneg_right a1 z0
    have h2 := Rat.mul_le_mul_of_nonneg_left z1 (show (0 : Rat) ≤ ((120 : Int) : Rat) by rw [← int0]; exact Rat.intCast_le_intCast.2 (by omega))
    have h3 : ((120 : Int) : Rat) * ((20 : Int) : Rat) = ((2400 : Int) : Rat) := by rw [← Rat.intCast_mul]; rfl
    grind
  refine ⟨⟨hSlo, hShi⟩, hfit, ⟨?_, by omega⟩, ?_⟩
  · have := mul_Nat (X := 120 * 1048576 * 1048576) (Y := 20) (show (hi - lo).num.natAbs ≤ 120 * 1048576 * 1048576 by omega) (show z.2.natAbs ≤ 20 by omega)
    omega
  · by_cases hb : ((len g : Int) : Rat) ≤ p
    · -- all of what lies before is left out
      have e1 := upTo_full p g 0 (all_pos hgg.2) (by rw [Int.zero_add]; exact hb)
      have e2 := upTo_full q g 0 (all_pos hgg.2) (by rw [Int.zero_add]; exact Rat.le_trans hb hpq)
      have e3 : upTo 0 g q - upTo 0 g p = 0 := by rw [e1, e2]; grind
      have n0 := num_zero e3
      have nt := num_le hD (Da.mul z.2) (int_neg_le_zero (M := 2400) (by omega) t0) t1
      exact Fit_of 0 (2400 * 1048576 * 1048576) 1 (1048576 * 1048576) (by omega) (by omega) (by omega) (by omega) (by decide) (by decide)
    · have hlo' : lo = ((len g : Int) : Rat) := by grind
      have hq' : ((len g : Int) : Rat) ≤ q := by grind
      have e2 := upTo_full q g 0 (all_pos hgg.2) (by rw [Int.zero_add]; exact hq')
      have Do : Dv p.den (upTo 0 g q - upTo 0 g p) := by rw [e2]; exact (Dv_int _ _).sub (upTo_Dv (Dv_self p) g 0)
      have Dt : Dv q.den ((hi - lo) * z.2) := by rw [hlo']; exact (Dhi.sub (Dv_int _ _)).mul z.2
      have bq := upTo_bounds hgg 0 q
      have bp := upTo_bounds hgg 0 p
      have o1 : upTo 0 g q - upTo 0 g p ≤ ((2400 : Int) : Rat) := by grind
      have o0 : ((-2400 : Int) : Rat) ≤ upTo 0 g q - upTo 0 g p := by rw [Rat.intCast_neg]; grind
      have no := num_le dp Do o0 o1
      have nt := num_le dq Dt (int_neg_le_zero (M := 2400) (by omega) t0) t1
      have := hp.2
      have := hq.2
      exact Fit_of (2400 * 1048576) (2400 * 1048576) 1048576 1048576 (by omega) (by omega) (by omega) (by omega) (by decide) (by decide)

theorem upTo_take {f : List (Int × Int)} {i : Nat} {z : Int × Int} (hz : f[i]? = some z) (x : Rat) : upTo 0 (f.take (i + 1)) x = upTo 0 (f.take i) x + (clamp x ((len (f.take i) : Int) : Rat) ((len (f.take i) + z.1 : Int) : Rat) - ((len (f.take i) : Int) : Rat)) * (z.2 : Rat) := by
  rw [List.take_add_one, hz, Option.toList_some, upTo_append, Int.zero_add, upTo, upTo, Rat.add_zero]

theorem len_take {f : List (Int × Int)} {i : Nat} {z : Int × Int} (hz : f[i]? = some z) : len (f.take (i + 1)) = len (f.take i) + z.1 := sumZ_take hz

theorem s73 {f : List (Int × Int)} {v : AV} {A : AHeap} (hf : L2 A v f) (hg : good f) (p q : Rat) (hp : Pl f p) (hq : Pl f q) (hpq : p ≤ q) : ACalls Try.prog 73 [v, R p, R q] A (R (upTo 0 f q - upTo 0 f p)) A := by
  refine acalls hmix Try.func73 (by kernel_rfl) t73 3 rfl (by decide) ?_
  dsimp only [m73]
  simp (maxSteps := 4000000) -implicitDefEqProofs -dsimp (disch := omega) only [↓AW_ops, ↓AW_seq, ↓AOps_nil, ↓AOps_pu, ↓AOps_call, on_some, ↓then_normal, pval, rd_S, rd_C, put_S, AV.cells?, List.replicate_succ, List.replicate_zero, List.set_cons_zero, List.set_cons_succ, List.getElem?_cons_zero, List.getElem?_cons_succ, Option.getD_some, map_c, map_n, Nat.reduceSub, List.cons_append, List.nil_append]
  refine CallK.of (s78 0 _) ?_
  simp (maxSteps := 4000000) -implicitDefEqProofs -dsimp (disch := omega) only [↓AW_ops, ↓AW_seq, ↓AW_block, ↓AOps_nil, ↓AOps_pu, on_some, extK_same, ↓then_normal, pval, rd_S, rd_C, put_S, ↓AW_toLoop, chkd, bput, AV.cells?, splice, eq_self, List.replicate_succ, List.replicate_zero, List.set_cons_zero, List.set_cons_succ, List.getElem?_cons_zero, List.getElem?_cons_succ, List.drop_succ_cons, List.drop_nil, List.take_zero, Option.getD_some, List.length_cons, List.length_nil, Nat.reduceAdd, Nat.reduceSub, Nat.reduceLeDiff, Nat.zero_add, List.cons_append, List.nil_append, List.append_nil, if_true, if_false, ne_eq, not_true_eq_false, hf.len]
  refine LoopK.by 49 (fun x : Nat × Rat => x.1 ≤ f.length ∧ x.2 = upTo 0 (f.take x.1) q - upTo 0 (f.take x.1) p) (fun x => [(4, R p), (5, R q), (6, .agg [I 0, I 0]), (7, R x.2), (8, I (len (f.take x.1))), (14, v), (15, I f.length), (16, I x.1)]) (fun _ => A) (fun x => f.length - x.1) (0, ((0 : Int) : Rat)) ⟨by omega, by simp [upTo, Rat.sub_self]⟩ rfl (by simp [Has, rd_s, len, sumZ]) rfl ?_
  rintro ⟨i, o⟩ ⟨hi, ho⟩
  simp only at hi ho
  by_cases hlt : i < f.length
  · obtain ⟨z, hz⟩ : ∃ z, f[i]? = some z := ⟨_, List.getElem?_eq_getElem hlt⟩
    have hlt' : (i : Int) < f.length := by omega
    have hl6 := hg.1
    have hgt := good_take hg i
    have hvz := all_get hg.2 hz
    have hz' := (vz_iff z).1 hvz
    have hlb := len_bound hgt
    have hlt2 := len_take hz
    have hzp := zone_part hg hp hq hpq _ hgt z hvz _ _ rfl rfl
    have hpe := part_eq p q ((len (f.take i) : Int) : Rat) ((len (f.take i) + z.1 : Int) : Rat) (z.2 : Rat) hpq (Rat.intCast_le_intCast.2 (by omega))
    have hup := upTo_take hz p
    have huq := upTo_take hz q
    have hSb : Sm ((len (f.take i) : Int) : Rat) := Sm_int (by omega)
    have hSe : Sm ((len (f.take i) + z.1 : Int) : Rat) := Sm_int (by omega)
    simp (maxSteps := 4000000) -implicitDefEqProofs -dsimp (disch := omega) only [↓AW_skip, ↓AW_ops, ↓AW_seq, ↓AW_cond, ↓AW_block, ↓AOps_nil, ↓AOps_pu, ↓AOps_ld, ↓AOps_call, on_some, condB_t, ↓then_normal, pval, lval, rd_S, rd_C, put_S, chkd, bput, bgot, AV.cells?, splice, partA, eq_self, mk, List.foldl_cons, List.foldl_nil, List.replicate_succ, List.replicate_zero, List.set_cons_zero, List.set_cons_succ, List.getElem?_cons_zero, List.getElem?_cons_succ, List.drop_zero, List.drop_succ_cons, List.drop_nil, List.take_zero, List.take_succ_cons, List.take_nil, Option.getD_some, map_c, map_n, List.length_cons, List.length_nil, Nat.reduceAdd, Nat.reduceLeDiff, Nat.reduceEqDiff, Nat.zero_add, List.nil_append, List.append_nil, bin_lss, if_true, if_false, decide_true, e2, ne_eq, not_true_eq_false, hlt', hf.idx hlt, hf.ld0 hz 2 true (by decide)]
    refine CallK.of (s78 _ _) ?_
    simp (maxSteps := 4000000) -implicitDefEqProofs -dsimp (disch := omega) only [↓AOps_call, extK_same, rd_S, put_S, mk, List.foldl_cons, List.foldl_nil, List.replicate_succ, List.replicate_zero, List.set_cons_zero, List.set_cons_succ, List.getElem?_cons_zero, List.getElem?_cons_succ, Option.getD_some, map_c, map_n]
    refine CallK.of (s107 _ _ _ (hp.sm hg) hSb) ?_
    simp (maxSteps := 4000000) -implicitDefEqProofs -dsimp (disch := omega) only [↓AOps_pu, ↓AOps_call, on_some, extK_same, pval, rd_S, put_S, chkd, isAdr, bgot, AV.cells?, partA, eq_self, mk, List.foldl_cons, List.foldl_nil, List.replicate_succ, List.replicate_zero, List.set_cons_zero, List.set_cons_succ, List.getElem?_cons_zero, List.getElem?_cons_succ, List.drop_zero, List.take_zero, List.take_succ_cons, List.take_nil, Option.getD_some, map_c, map_n, List.length_cons, List.length_nil, Nat.reduceAdd, Nat.reduceLeDiff, Nat.reduceEqDiff, Nat.zero_add, bin_add, w64, if_true, if_false, Bool.false_eq_true]
    refine CallK.of (s78 _ _) ?_
    simp (maxSteps := 4000000) -implicitDefEqProofs -dsimp (disch := omega) only [↓AOps_call, extK_same, rd_S, put_S, mk, List.foldl_cons, List.foldl_nil, List.replicate_succ, List.replicate_zero, List.set_cons_zero, List.set_cons_succ, List.getElem?_cons_zero, List.getElem?_cons_succ, Option.getD_some, map_c, map_n]
    refine CallK.of (s108 _ _ _ (hq.sm hg) hSe) ?_
    simp (maxSteps := 4000000) -implicitDefEqProofs -dsimp (disch := omega) only [↓AW_ops, ↓AW_seq, ↓AOps_nil, ↓AOps_pu, ↓AOps_call, on_some, extK_same, ↓then_normal, pval, rd_S, rd_C, put_S, chkd, bput, bgot, AV.cells?, splice, partA, eq_self, mk, List.foldl_cons, List.foldl_nil, List.replicate_succ, List.replicate_zero, List.set_cons_zero, List.set_cons_succ, List.getElem?_cons_zero, List.getElem?_cons_succ, List.drop_zero, List.drop_succ_cons, List.drop_nil, List.take_zero, List.take_succ_cons, List.take_nil, Option.getD_some, map_c, map_n, List.length_cons, List.length_nil, Nat.reduceAdd, Nat.reduceLeDiff, Nat.reduceEqDiff, Nat.zero_add, List.nil_append, List.append_nil, if_true, if_false, ne_eq, not_true_eq_false]
    have hSlo : Sm (if ((len (f.take i) : Int) : Rat) < p then p else ((len (f.take i) : Int) : Rat)) := by
      split
      · exact hp.sm hg
      · exact hSb
    have hShi : Sm (if q < ((len (f.take i) + z.1 : Int) : Rat) then q else ((len (f.take i) + z.1 : Int) : Rat)) := by
      split
      · exact hq.sm hg
      · exact hSe
    generalize (if ((len (f.take i) : Int) : Rat) < p then p else ((len (f.take i) : Int) : Rat)) = lo at *
    generalize (if q < ((len (f.take i) + z.1 : Int) : Rat) then q else ((len (f.take i) + z.1 : Int) : Rat)) = hi' at *
    refine CallK.of (s72 lo hi' _ hSlo hShi) ?_
    by_cases h : lo < hi'
    · obtain ⟨_, f1, ⟨f2, f3⟩, f4⟩ := hzp h
      rw [← ho] at f4
      have hn := (sub_neg_iff lo hi').2 h
      simp (maxSteps := 4000000) -implicitDefEqProofs -dsimp (disch := omega) only [↓AW_ops, ↓AW_cond, ↓AOps_nil, ↓AOps_pu, ↓AOps_call, on_some, extK_same, condB_t, ↓then_normal, pval, rd_S, rd_C, put_S, chkd, bgot, partA, eq_self, mk, List.foldl_cons, List.foldl_nil, List.replicate_succ, List.replicate_zero, List.set_cons_zero, List.set_cons_succ, List.getElem?_cons_zero, List.getElem?_cons_succ, List.drop_zero, List.take_succ_cons, List.take_nil, Option.getD_some, map_c, map_n, List.length_cons, List.length_nil, Nat.reduceAdd, Nat.reduceLeDiff, Nat.reduceEqDiff, Nat.zero_add, bin_lss, if_true, if_false, decide_true, hn]
      refine CallK.of (s106g _ _ _ f1) ?_
      simp (maxSteps := 4000000) -implicitDefEqProofs -dsimp (disch := omega) only [↓AOps_pu, ↓AOps_call, on_some, extK_same, pval, rd_S, put_S, chkd, isAdr, bgot, AV.cells?, partA, eq_self, mk, List.foldl_cons, List.foldl_nil, List.replicate_succ, List.replicate_zero, List.set_cons_zero, List.set_cons_succ, List.getElem?_cons_zero, List.getElem?_cons_succ, List.drop_zero, List.drop_succ_cons, List.take_succ_cons, List.take_nil, Option.getD_some, map_c, map_n, List.length_cons, List.length_nil, Nat.reduceAdd, Nat.reduceLeDiff, Nat.zero_add, if_true, if_false, Bool.false_eq_true]
      refine CallK.of (s110g _ _ _ f2 f3 (by omega)) ?_
      simp (maxSteps := 4000000) -implicitDefEqProofs -dsimp (disch := omega) only [↓AOps_call, extK_same, rd_S, put_S, mk, List.foldl_cons, List.foldl_nil, List.replicate_succ, List.replicate_zero, List.set_cons_zero, List.set_cons_succ, List.getElem?_cons_zero, List.getElem?_cons_succ, Option.getD_some, map_c, map_n]
      refine CallK.of (s109g _ _ _ f4) ?_
      simp (maxSteps := 4000000) -implicitDefEqProofs -dsimp (disch := omega) only [↓AW_ops, ↓AOps_nil, ↓AOps_pu, on_some, extK_same, ↓then_normal, ↓inBlock_normal, pval, rd_S, rd_C, put_S, chkd, isAdr, bput, bgot, AV.cells?, splice, partA, eq_self, mk, List.foldl_cons, List.foldl_nil, List.replicate_succ, List.replicate_zero, List.set_cons_zero, List.set_cons_succ, List.getElem?_cons_zero, List.getElem?_cons_succ, List.drop_zero, List.drop_succ_cons, List.drop_nil, List.take_zero, List.take_succ_cons, Option.getD_some, List.length_cons, List.length_nil, Nat.reduceAdd, Nat.reduceLeDiff, Nat.zero_add, List.nil_append, List.append_nil, bin_add, w64, if_true, if_false, Bool.false_eq_true, true_and, ne_eq, not_true_eq_false]
      rw [if_pos h] at hpe
      refine ⟨(i + 1, o + (hi' - lo) * z.2), ⟨hlt, ?_⟩, by simp [Has, rd_s, hlt2], by simp only; omega⟩
      simp only
      rw [hup, huq, hpe, ho]
      grind
    · have hn : ¬ (lo - hi').num < 0 := fun x => h ((sub_neg_iff lo hi').1 x)
      simp (maxSteps := 4000000) -implicitDefEqProofs -dsimp (disch := omega) only [↓AW_skip, ↓AW_ops, ↓AW_cond, ↓AOps_nil, ↓AOps_pu, on_some, extK_same, condB_f, ↓then_normal, ↓inBlock_normal, pval, rd_S, rd_C, put_S, chkd, isAdr, bgot, AV.cells?, partA, eq_self, mk, List.foldl_cons, List.foldl_nil, List.replicate_succ, List.replicate_zero, List.set_cons_zero, List.set_cons_succ, List.getElem?_cons_zero, List.getElem?_cons_succ, List.drop_zero, List.take_zero, List.take_succ_cons, Option.getD_some, List.length_cons, List.length_nil, Nat.reduceAdd, Nat.reduceLeDiff, Nat.zero_add, bin_add, bin_lss, w64, if_true, if_false, Bool.false_eq_true, decide_false, true_and, hn]
      rw [if_neg h] at hpe
      refine ⟨(i + 1, o), ⟨hlt, ?_⟩, by simp [Has, rd_s, hlt2], by simp only; omega⟩
      simp only
      rw [hup, huq, ho]
      grind
  · have hlt' : ¬ ((i : Int) < f.length) := by omega
    simp (maxSteps := 4000000) -implicitDefEqProofs -dsimp (disch := omega) only [↓AW_ops, ↓AW_seq, ↓AW_cond, ↓AW_exit, ↓AW_ret, ↓AOps_nil, ↓AOps_pu, on_some, condB_f, ↓then_normal, ↓then_exit, ↓inBlock_exit, ↓Fin_ret, pval, rd_S, put_S, resV, resL, chkd, bput, bgot, AV.cells?, splice, partA, eq_self, mk, List.foldl_cons, List.foldl_nil, List.replicate_succ, List.replicate_zero, List.set_cons_zero, List.set_cons_succ, List.getElem?_cons_zero, List.getElem?_cons_succ, List.drop_zero, List.drop_succ_cons, List.drop_nil, List.take_zero, List.take_succ_cons, List.take_nil, Option.getD_some, List.length_cons, List.length_nil, Nat.reduceAdd, Nat.reduceLeDiff, Nat.reduceEqDiff, Nat.zero_add, List.nil_append, List.append_nil, bin_lss, if_true, if_false, decide_false, ne_eq, not_true_eq_false, hlt']
    rw [List.take_of_length_le (by omega)] at ho
    exact gc_same (by rw [ho])

end Go.Proofs.Ytnnbggcckabhdaa
