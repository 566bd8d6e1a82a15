/- What the law's proof rests on, part 4: for all that is said in each line. No conditions. -/
import Derived.Test.YtmblehbjedpjoaaRows
import Derived.Test.YtmblehbjedpjoaaDbA
namespace Go.Proofs.Ytmblehbjedpjoaa
open Go Go.Eng
/-- The fraction times 'D' is a whole number. -/
def Dv (D : Int) (q : Rat) : Prop := ∃ k : Int, q * (D : Rat) = (k : Rat)
theorem Dv_self (q : Rat) : Dv q.den q := by
  refine ⟨q.num, ?_⟩
  have h := R_self q
  have h3 := cast_ne (show ((q.den : Int)) ≠ 0 by have := den_pos q; omega)
  generalize ((q.num : Int) : Rat) = n at *
  generalize ((q.den : Int) : Rat) = d at *
  grind
theorem Dv_int (D n : Int) : Dv D (n : Rat) := ⟨n * D, by rw [Rat.intCast_mul]⟩
theorem Dv.add {D : Int} {p q : Rat} (hp : Dv D p) (hq : Dv D q) : Dv D (p + q) := by
  obtain ⟨a, ha⟩ := hp
  obtain ⟨b, hb⟩ := hq
  exact ⟨a + b, by rw [Rat.intCast_add]; grind⟩
theorem Dv.sub {D : Int} {p q : Rat} (hp : Dv D p) (hq : Dv D q) : Dv D (p - q) := by
  obtain ⟨a, ha⟩ := hp
  obtain ⟨b, hb⟩ := hq
  exact ⟨a - b, by rw [Rat.intCast_sub]; grind⟩
theorem Dv.mul {D : Int} {p : Rat} (hp : Dv D p) (n : Int) : Dv D (p * n) := by
  obtain ⟨a, ha⟩ := hp
  exact ⟨a * n, by rw [Rat.intCast_mul]; grind⟩
theorem Dv.div {D : Int} {p : Rat} (hp : Dv D p) (n : Int) (hn : n ≠ 0) : Dv (D * n) (p / n) := by
  obtain ⟨a, ha⟩ := hp
  have := cast_ne hn
  exact ⟨a, by rw [Rat.intCast_mul]; grind⟩
theorem Dv.dvd {D E : Int} {p : Rat} (hp : Dv D p) (h : D ∣ E) : Dv E p := by
  obtain ⟨a, ha⟩ := hp
  obtain ⟨c, rfl⟩ := h
  exact ⟨a * c, by rw [Rat.intCast_mul, Rat.intCast_mul]; grind⟩
theorem rat_le_int {p : Rat} {D k n : Int} (hD : 0 < D) (hk : p * (D : Rat) = (k : Rat)) (h : p ≤ (n : Rat)) : k ≤ n * D := by
  have hD' : (0 : Rat) ≤ (D : Rat) := by rw [show (0 : Rat) = ((0 : Int) : Rat) from rfl]; exact Rat.intCast_le_intCast.2 (by omega)
  have := Rat.mul_le_mul_of_nonneg_right h hD'
  rw [hk, ← Rat.intCast_mul] at this
  exact Rat.intCast_le_intCast.1 this
theorem int_le_rat {p : Rat} {D k n : Int} (hD : 0 < D) (hk : p * (D : Rat) = (k : Rat)) (h : (n : Rat) ≤ p) : n * D ≤ k := by
  have hD' : (0 : Rat) ≤ (D : Rat) := by rw [show (0 : Rat) = ((0 : Int) : Rat) from rfl]; exact Rat.intCast_le_intCast.2 (by omega)
  have := Rat.mul_le_mul_of_nonneg_right h hD'
  rw [hk, ← Rat.intCast_mul] at this
  exact Rat.intCast_le_intCast.1 this
/-- With a denominator, and bounds, a fraction is small. -/
theorem num_le {D M : Int} {q : Rat} (hD : 0 < D) (h : Dv D q) (h0 : ((-M : Int) : Rat) ≤ q) (h1 : q ≤ (M : Rat)) : (q.num.natAbs : Int) ≤ M * D ∧ (q.den : Int) ≤ D := by
  obtain ⟨k, hk⟩ := h
  have e : q = (k : Rat) / (D : Rat) := by have := cast_ne (show D ≠ 0 by omega); grind
  have h2 := rat_le_int hD hk h1
  have h3 := int_le_rat hD hk h0
  have h4 := ratio_le k D hD
  rw [← e] at h4
  rw [Int.neg_mul] at h3
  omega
theorem Sm_of {D M : Int} {q : Rat} (hD : 0 < D) (hD2 : D ≤ 1048576) (hM : M ≤ 1048576) (h : Dv D q) (h0 : ((-M : Int) : Rat) ≤ q) (h1 : q ≤ (M : Rat)) : Sm q := by
  have h2 := num_le hD h h0 h1
  have hM0 : 0 ≤ M := by
    have : ((-M : Int) : Rat) ≤ (M : Rat) := Rat.le_trans h0 h1
    have := Rat.intCast_le_intCast.1 this
    omega
  have h3 : M * D ≤ 1048576 * 1048576 := Int.mul_le_mul hM hD2 (by omega) (by omega)
  exact ⟨by omega, by omega⟩
theorem sumB : ∀ {l : List Int}, (∀ y ∈ l, 0 ≤ y ∧ y ≤ 20) → 0 ≤ l.sum ∧ l.sum ≤ 20 * l.length
  | [], _ => by simp
  | a :: l, h => by
    have h1 := sumB (l := l) (fun y hy => h y (by simp [hy]))
    have h2 := h a (by simp)
    simp only [List.sum_cons, List.length_cons]
    omega
theorem take_sumB {us : List Int} (hb : ∀ y ∈ us, 0 ≤ y ∧ y ≤ 20) (i : Nat) : 0 ≤ (us.take i).sum ∧ (us.take i).sum ≤ 20 * us.length := by
  have h3 := sumB (l := us.take i) (fun y hy => hb y (List.mem_of_mem_take hy))
  rw [List.length_take] at h3
  omega
theorem int0 : ((0 : Int) : Rat) = 0 := rfl
theorem int1 : ((1 : Int) : Rat) = 1 := rfl
/-- What lies before a place is not much. -/
theorem clamp_bounds (x a b : Rat) (h : a ≤ b) : a ≤ clamp x a b ∧ clamp x a b ≤ b := by
  unfold clamp
  grind
theorem upToU_bounds : ∀ (us : List Int) (b : Int) (x : Rat), (∀ y ∈ us, 0 ≤ y ∧ y ≤ 20) → 0 ≤ upToU b us x ∧ upToU b us x ≤ ((20 * us.length : Int) : Rat)
  | [], b, x, _ => by simp only [upToU, List.length_nil]; exact ⟨Rat.le_refl, Rat.le_refl⟩
  | u :: us, b, x, h => by
    have ih := upToU_bounds us (b + 1) x (fun y hy => h y (by simp [hy]))
    have hu := h u (by simp)
    have h1 : (b : Rat) ≤ ((b + 1 : Int) : Rat) := Rat.intCast_le_intCast.2 (by omega)
    have hc := clamp_bounds x _ _ h1
    have u0 : (0 : Rat) ≤ (u : Rat) := by rw [← int0]; exact Rat.intCast_le_intCast.2 hu.1
    have u1 : (u : Rat) ≤ ((20 : Int) : Rat) := Rat.intCast_le_intCast.2 hu.2
    have e1 : ((b + 1 : Int) : Rat) = (b : Rat) + 1 := by rw [Rat.intCast_add]; rfl
    have e2 : ((20 * ((u :: us).length : Int) : Int) : Rat) = ((20 : Int) : Rat) + ((20 * (us.length : Int) : Int) : Rat) := by
      rw [← Rat.intCast_add]; congr 1; simp; omega
    rw [e2, upToU]
    generalize clamp x (b : Rat) ((b + 1 : Int) : Rat) = c at *
    have d0 : 0 ≤ c - (b : Rat) := by grind
    have d1 : c - (b : Rat) ≤ 1 := by grind
    have p0 := Rat.mul_nonneg d0 u0
    have p1 := Rat.mul_le_mul_of_nonneg_right d1 u0
    rw [Rat.one_mul] at p1
    grind
theorem clamp_Dv {D : Int} {x : Rat} (hx : Dv D x) (a b : Int) : Dv D (clamp x a b) := by
  unfold clamp
  split
  · exact Dv_int _ _
  · split
    · exact Dv_int _ _
    · exact hx
theorem int_neg_le_zero {q : Rat} {M : Int} (hM : 0 ≤ M) (h : 0 ≤ q) : ((-M : Int) : Rat) ≤ q := Rat.le_trans (by rw [← int0]; exact Rat.intCast_le_intCast.2 (by omega)) h
/-- The parts of a sum. -/
theorem add_partsG (p q : Rat) :
    ∃ d1 d2 : Int, (p.den : Int).tdiv (Int.gcd p.den q.den) = d1 ∧ (q.den : Int).tdiv (Int.gcd p.den q.den) = d2 ∧ (0 < d1 ∧ d1 ≤ p.den) ∧ (0 < d2 ∧ d2 ≤ q.den) ∧
      ((p.num * d2 + q.num * d1 : Int) : Rat) / ((d1 * q.den : Int) : Rat) = p + q := by
  have hp0 := den_pos p
  have hq0 := den_pos q
  have hg : 0 < Int.gcd p.den q.den := Int.gcd_pos_of_ne_zero_right _ (by omega)
  obtain ⟨d1, h1⟩ := Int.gcd_dvd_left (p.den : Int) (q.den : Int)
  obtain ⟨d2, h2⟩ := Int.gcd_dvd_right (p.den : Int) (q.den : Int)
  generalize (Int.gcd p.den q.den : Nat) = g at *
  have hg' : (0 : Int) < (g : Int) := by omega
  have p1 : 0 < d1 := by
    rcases Int.lt_or_le 0 d1 with h | h
    · exact h
    · have := Int.mul_nonpos_of_nonneg_of_nonpos (Int.le_of_lt hg') h; omega
  have p2 : 0 < d2 := by
    rcases Int.lt_or_le 0 d2 with h | h
    · exact h
    · have := Int.mul_nonpos_of_nonneg_of_nonpos (Int.le_of_lt hg') h; omega
  have b1 : d1 ≤ (g : Int) * d1 := by have := Int.mul_le_mul_of_nonneg_right (show (1 : Int) ≤ g by omega) (Int.le_of_lt p1); omega
  have b2 : d2 ≤ (g : Int) * d2 := by have := Int.mul_le_mul_of_nonneg_right (show (1 : Int) ≤ g by omega) (Int.le_of_lt p2); omega
  refine ⟨d1, d2, by rw [h1, Int.mul_tdiv_cancel_left _ (by omega)], by rw [h2, Int.mul_tdiv_cancel_left _ (by omega)], ⟨p1, by omega⟩, ⟨p2, by omega⟩, ?_⟩
  have e1 := R_self p
  have e2 := R_self q
  rw [h1, Rat.intCast_mul] at e1
  rw [h2, Rat.intCast_mul] at e2
  rw [h2]
  simp only [Rat.intCast_add, Rat.intCast_mul]
  have n1 : (d1 : Rat) ≠ 0 := cast_ne (by omega)
  have n2 : (d2 : Rat) ≠ 0 := cast_ne (by omega)
  have n3 : ((g : Int) : Rat) ≠ 0 := cast_ne (by omega)
  generalize (p.num : Rat) = a at *
  generalize (q.num : Rat) = b at *
  generalize (d1 : Rat) = x at *
  generalize (d2 : Rat) = y at *
  generalize ((g : Int) : Rat) = z at *
  subst e1
  grind
/-- Two fractions that can be added. -/
def Fit (p q : Rat) : Prop := p.num.natAbs * q.den + q.num.natAbs * p.den ≤ 4611686018427387904 ∧ p.den * q.den ≤ 4611686018427387904
theorem Fit.facts {p q : Rat} (h : Fit p q) {d1 d2 : Int} (b1 : 0 < d1 ∧ d1 ≤ p.den) (b2 : 0 < d2 ∧ d2 ≤ q.den) :
    ((p.num * d2).natAbs + (q.num * d1).natAbs ≤ 4611686018427387904 ∧ 0 < d1 * q.den ∧ d1 * q.den ≤ 4611686018427387904) ∧ p.num.natAbs ≤ 4611686018427387904 ∧ q.num.natAbs ≤ 4611686018427387904 ∧ p.den ≤ 4611686018427387904 ∧ q.den ≤ 4611686018427387904 := by
  have hp0 := p.den_pos
  have hq0 := q.den_pos
  have m1 : (p.num * d2).natAbs ≤ p.num.natAbs * q.den := by rw [Int.natAbs_mul]; exact Nat.mul_le_mul_left _ (by omega)
  have m2 : (q.num * d1).natAbs ≤ q.num.natAbs * p.den := by rw [Int.natAbs_mul]; exact Nat.mul_le_mul_left _ (by omega)
  have m3 : 0 < d1 * q.den := Int.mul_pos b1.1 (by omega)
  have m4 : d1 * q.den ≤ (p.den : Int) * q.den := Int.mul_le_mul_of_nonneg_right b1.2 (by omega)
  have m5 : p.num.natAbs * 1 ≤ p.num.natAbs * q.den := Nat.mul_le_mul_left _ hq0
  have m6 : q.num.natAbs * 1 ≤ q.num.natAbs * p.den := Nat.mul_le_mul_left _ hp0
  have m7 : p.den * 1 ≤ p.den * q.den := Nat.mul_le_mul_left _ hq0
  have m8 : 1 * q.den ≤ p.den * q.den := Nat.mul_le_mul_right _ hp0
  have h1 := h.1
  have h2 := h.2
  have m9 : (p.den : Int) * q.den ≤ 4611686018427387904 := by rw [← Int.natCast_mul]; omega
  omega
theorem s75g (p q : Rat) (A : AHeap) (h : Fit p q) : ACalls Try.prog 75 [R p, R q] A (R (p + q)) A := by
  refine acalls hmix Try.func75 (by kernel_rfl) t75 2 rfl (by decide) ?_
  have hp0 := den_pos p
  have hq0 := den_pos q
  obtain ⟨d1, d2, e1, e2, b1, b2, e3⟩ := add_partsG p q
  obtain ⟨⟨l1, l2, l3⟩, l4, l5, l6, l7⟩ := h.facts b1 b2
  have hg : 0 < Int.gcd p.den q.den := Int.gcd_pos_of_ne_zero_right _ (by omega)
  have hg0 : ¬ (Int.gcd p.den q.den : Int) = 0 := by omega
  dsimp only [m75]
  simp (maxSteps := 4000000) -implicitDefEqProofs -dsimp (disch := omega) only [↓AW_ops, ↓AW_seq, ↓AOps_nil, ↓AOps_pu, ↓AOps_call, on_some, ↓then_normal, pval, rd_S, rd_C, put_S, chkd, isAdr, bgot, AV.cells?, partA, eq_self, List.replicate_succ, List.replicate_zero, List.set_cons_zero, List.set_cons_succ, List.getElem?_cons_zero, List.getElem?_cons_succ, List.drop_zero, List.drop_succ_cons, List.take_succ_cons, List.take_nil, Option.getD_some, map_c, map_n, List.length_cons, List.length_nil, Nat.reduceAdd, Nat.reduceSub, Nat.reduceLeDiff, Nat.zero_add, List.cons_append, List.nil_append, if_true, if_false, Bool.false_eq_true]
  refine CallK.of (s111 _ ⟨by omega, by omega⟩ hq0 (by omega)) ?_
  simp (maxSteps := 4000000) -implicitDefEqProofs -dsimp (disch := omega) only [↓AW_ops, ↓AW_seq, ↓AOps_nil, ↓AOps_pu, ↓AOps_call, on_some, extK_same, ↓then_normal, pval, rd_S, put_S, chkd, isAdr, bgot, AV.cells?, partA, eq_self, List.replicate_succ, List.replicate_zero, List.set_cons_zero, List.set_cons_succ, List.getElem?_cons_zero, List.getElem?_cons_succ, List.drop_zero, List.drop_succ_cons, List.take_zero, List.take_succ_cons, List.take_nil, Option.getD_some, map_c, map_n, List.length_cons, List.length_nil, Nat.reduceAdd, Nat.reduceSub, Nat.reduceLeDiff, Nat.zero_add, List.cons_append, List.nil_append, bin_add, bin_mul, bin_quo, w64, if_true, if_false, Bool.false_eq_true, hg0, e1, e2]
  refine CallK.of (s59R _ ⟨by omega, by omega⟩ l2 (by omega)) ?_
  simp (maxSteps := 4000000) -implicitDefEqProofs -dsimp (disch := omega) only [↓AW_ret, ↓AOps_nil, ↓AOps_pu, on_some, extK_same, ↓then_normal, ↓Fin_ret, pval, rd_S, put_S, resV, resL, chkd, bput, bgot, AV.cells?, splice, partA, eq_self, List.replicate_succ, List.replicate_zero, List.set_cons_zero, List.set_cons_succ, List.getElem?_cons_zero, List.getElem?_cons_succ, List.drop_zero, List.drop_succ_cons, List.drop_nil, List.take_zero, List.take_succ_cons, List.take_nil, Option.getD_some, List.length_cons, List.length_nil, Nat.reduceAdd, Nat.reduceSub, Nat.reduceLeDiff, Nat.reduceEqDiff, Nat.zero_add, List.cons_append, List.nil_append, List.append_nil, if_true, if_false, ne_eq, not_true_eq_false]
  exact gc_same (by rw [e3])
theorem Fit.neg {p q : Rat} (h : Fit p q) : Fit p (-q) := by
  unfold Fit at *
  rw [neg_num, neg_den, Int.natAbs_neg]
  exact h
theorem Fit.small {p q : Rat} (h : Fit p q) : -4611686018427387904 ≤ q.num ∧ q.num ≤ 4611686018427387904 := by
  have m6 : q.num.natAbs * 1 ≤ q.num.natAbs * p.den := Nat.mul_le_mul_left _ p.den_pos
  have := h.1
  omega
theorem s95g (p q : Rat) (A : AHeap) (h : Fit p q) : ACalls Try.prog 95 [R p, R q] A (R (p - q)) A := by
  refine acalls hmix Try.func95 (by kernel_rfl) t95 2 rfl (by decide) ?_
  obtain ⟨l4, l5⟩ := h.small
  dsimp only [m95]
  simp (maxSteps := 4000000) -implicitDefEqProofs -dsimp (disch := omega) only [↓AW_ops, ↓AW_seq, ↓AOps_nil, ↓AOps_pu, ↓AOps_call, on_some, ↓then_normal, pval, rd_S, rd_C, put_S, chkd, isAdr, bgot, AV.cells?, splice, partA, fillA, eq_self, List.replicate_succ, List.replicate_zero, List.set_cons_zero, List.set_cons_succ, List.getElem?_cons_zero, List.getElem?_cons_succ, List.drop_zero, List.drop_succ_cons, List.drop_nil, List.take_zero, List.take_succ_cons, List.take_nil, Option.getD_some, Option.map_some, map_c, map_n, List.length_cons, List.length_nil, Nat.reduceAdd, Nat.reduceSub, Nat.reduceLeDiff, Nat.reduceEqDiff, Nat.zero_add, List.cons_append, List.nil_append, List.append_nil, w64, if_true, if_false, Bool.false_eq_true, and_true]
  have h := s75g p (-q) A h.neg
  rw [R_neg] at h
  refine CallK.of (h) ?_
  simp (maxSteps := 4000000) -implicitDefEqProofs -dsimp (disch := omega) only [↓AW_ret, ↓AOps_nil, ↓AOps_pu, on_some, extK_same, ↓then_normal, ↓Fin_ret, pval, rd_S, put_S, resV, resL, chkd, bput, bgot, AV.cells?, splice, partA, eq_self, List.replicate_succ, List.replicate_zero, List.set_cons_zero, List.set_cons_succ, List.getElem?_cons_zero, List.getElem?_cons_succ, List.drop_zero, List.drop_succ_cons, List.drop_nil, List.take_zero, List.take_succ_cons, List.take_nil, Option.getD_some, List.length_cons, List.length_nil, Nat.reduceAdd, Nat.reduceSub, Nat.reduceLeDiff, Nat.reduceEqDiff, Nat.zero_add, List.cons_append, List.nil_append, List.append_nil, if_true, if_false, ne_eq, not_true_eq_false]
  exact gc_same (by rw [Rat.sub_eq_add_neg])
theorem s65g (p q : Rat) (A : AHeap) (h : Fit p q) : ACalls Try.prog 65 [R p, R q] A (I (p - q).num) A := by
  refine acalls hmix Try.func65 (by kernel_rfl) t65 2 rfl (by decide) ?_
  dsimp only [m65]
  simp (maxSteps := 4000000) -implicitDefEqProofs -dsimp (disch := omega) only [↓AW_ops, ↓AW_seq, ↓AOps_nil, ↓AOps_pu, ↓AOps_call, on_some, ↓then_normal, pval, rd_S, rd_C, put_S, chkd, bgot, AV.cells?, partA, eq_self, List.replicate_succ, List.replicate_zero, List.set_cons_zero, List.set_cons_succ, List.getElem?_cons_zero, List.getElem?_cons_succ, List.drop_zero, List.take_succ_cons, List.take_nil, Option.getD_some, map_c, map_n, List.length_cons, List.length_nil, Nat.reduceAdd, Nat.reduceSub, Nat.reduceLeDiff, Nat.reduceEqDiff, Nat.zero_add, List.cons_append, List.nil_append, if_true, if_false]
  refine CallK.of (s95g p q A h) ?_
  simp (maxSteps := 4000000) -implicitDefEqProofs -dsimp (disch := omega) only [↓AW_ret, ↓AOps_nil, ↓AOps_pu, on_some, extK_same, ↓then_normal, ↓Fin_ret, pval, rd_S, put_S, resV, resL, partA, eq_self, List.replicate_succ, List.replicate_zero, List.set_cons_zero, List.set_cons_succ, List.getElem?_cons_zero, List.getElem?_cons_succ, List.drop_zero, List.take_zero, List.take_succ_cons, Option.getD_some, List.length_cons, List.length_nil, Nat.reduceAdd, Nat.reduceSub, Nat.reduceLeDiff, Nat.zero_add, List.cons_append, List.nil_append, if_true, if_false, Bool.false_eq_true]
  exact gc_same rfl
theorem sub_neg_iff (p q : Rat) : (p - q).num < 0 ↔ p < q := by rw [num_neg_iff]; constructor <;> intro h <;> grind
theorem sub_pos_iff (p q : Rat) : 0 < (p - q).num ↔ q < p := by rw [num_pos_iff]; constructor <;> intro h <;> grind
theorem s109g (a : Rat) (n : Int) (A : AHeap) (ha : a.num.natAbs * n.natAbs ≤ 4611686018427387904) (hd : a.den ≤ 4611686018427387904) (hn : -4611686018427387904 ≤ n ∧ n ≤ 4611686018427387904) : ACalls Try.prog 109 [R a, I n] A (R (a * n)) A := by
  refine acalls hmix Try.func109 (by kernel_rfl) t109 2 rfl (by decide) ?_
  have h0 := den_pos a
  dsimp only [m109]
  simp (maxSteps := 4000000) -implicitDefEqProofs -dsimp (disch := omega) only [↓AW_ops, ↓AW_seq, ↓AOps_nil, ↓AOps_pu, ↓AOps_call, on_some, ↓then_normal, pval, rd_S, rd_C, put_S, chkd, isAdr, bgot, AV.cells?, partA, eq_self, List.replicate_succ, List.replicate_zero, List.set_cons_zero, List.set_cons_succ, List.getElem?_cons_zero, List.getElem?_cons_succ, List.drop_zero, List.drop_succ_cons, List.take_succ_cons, List.take_nil, Option.getD_some, map_c, map_n, List.length_cons, List.length_nil, Nat.reduceAdd, Nat.reduceSub, Nat.reduceLeDiff, Nat.zero_add, List.cons_append, List.nil_append, if_true, if_false, Bool.false_eq_true]
  refine CallK.of (s59R _ ⟨by omega, by omega⟩ h0 (by omega)) ?_
  have hm := mul_parts a n
  have hl := ratio_le n a.den h0
  have hp := den_pos ((n : Rat) / ((a.den : Int) : Rat))
  generalize ((n : Rat) / ((a.den : Int) : Rat)) = f at *
  have e : (a.num * f.num).natAbs ≤ a.num.natAbs * n.natAbs := by rw [Int.natAbs_mul]; exact Nat.mul_le_mul_left _ hl.1
  simp (maxSteps := 4000000) -implicitDefEqProofs -dsimp (disch := omega) only [↓AW_ops, ↓AW_seq, ↓AOps_nil, ↓AOps_pu, ↓AOps_call, on_some, extK_same, ↓then_normal, pval, rd_S, rd_C, put_S, chkd, isAdr, bput, bgot, AV.cells?, splice, partA, eq_self, List.replicate_succ, List.replicate_zero, List.set_cons_zero, List.set_cons_succ, List.getElem?_cons_zero, List.getElem?_cons_succ, List.drop_zero, List.drop_succ_cons, List.drop_nil, List.take_zero, List.take_succ_cons, List.take_nil, Option.getD_some, map_c, map_n, List.length_cons, List.length_nil, Nat.reduceAdd, Nat.reduceSub, Nat.reduceLeDiff, Nat.zero_add, List.cons_append, List.nil_append, List.append_nil, bin_mul, w64, if_true, if_false, Bool.false_eq_true, ne_eq, not_true_eq_false]
  refine CallK.of (s59R _ ⟨by omega, by omega⟩ hp (by omega)) ?_
  simp (maxSteps := 4000000) -implicitDefEqProofs -dsimp (disch := omega) only [↓AW_ret, ↓AOps_nil, ↓AOps_pu, on_some, extK_same, ↓then_normal, ↓Fin_ret, pval, rd_S, put_S, resV, resL, chkd, bput, bgot, AV.cells?, splice, partA, eq_self, List.replicate_succ, List.replicate_zero, List.set_cons_zero, List.set_cons_succ, List.getElem?_cons_zero, List.getElem?_cons_succ, List.drop_zero, List.drop_succ_cons, List.drop_nil, List.take_zero, List.take_succ_cons, List.take_nil, Option.getD_some, List.length_cons, List.length_nil, Nat.reduceAdd, Nat.reduceSub, Nat.reduceLeDiff, Nat.reduceEqDiff, Nat.zero_add, List.cons_append, List.nil_append, List.append_nil, if_true, if_false, ne_eq, not_true_eq_false]
  exact gc_same (by rw [hm])
theorem Fit_of {p q : Rat} (P Q D E : Nat) (h1 : p.num.natAbs ≤ P) (h2 : p.den ≤ D) (h3 : q.num.natAbs ≤ Q) (h4 : q.den ≤ E) (h : P * E + Q * D ≤ 4611686018427387904) (k : D * E ≤ 4611686018427387904) : Fit p q := by
  have m1 : p.num.natAbs * q.den ≤ P * E := Nat.mul_le_mul h1 h4
  have m2 : q.num.natAbs * p.den ≤ Q * D := Nat.mul_le_mul h3 h2
  have m3 : p.den * q.den ≤ D * E := Nat.mul_le_mul h2 h4
  exact ⟨by omega, by omega⟩
theorem Sm.fit {p q : Rat} (hp : Sm p) (hq : Sm q) : Fit p q := by
  obtain ⟨⟨h1, h2⟩, h3⟩ := hp
  obtain ⟨⟨h4, h5⟩, h6⟩ := hq
  exact Fit_of 1099511627776 1099511627776 1048576 1048576 (by omega) (by omega) (by omega) (by omega) (by decide) (by decide)
theorem upTo_append (x : Rat) : ∀ (f g : List (Int × Int)) (b : Int), upTo b (f ++ g) x = upTo b f x + upTo (b + len f) g x
  | [], g, b => by
    have : b + len [] = b := by simp [len, sumZ]
    rw [List.nil_append, this, upTo, Rat.zero_add]
  | z :: f, g, b => by
    have : b + len (z :: f) = b + z.1 + len f := by simp [len, sumZ]; omega
    rw [List.cons_append, upTo, upTo_append x f g (b + z.1), upTo, this, Rat.add_assoc]
theorem all_pos {f : List (Int × Int)} (h : f.all vz = true) : ∀ z ∈ f, 1 ≤ z.1 := fun z hz => ((vz_iff z).1 (List.all_eq_true.1 h z hz)).1.1
theorem len_nonneg {f : List (Int × Int)} (h : ∀ z ∈ f, 1 ≤ z.1) : 0 ≤ len f := by
  induction f with
  | nil => simp [len, sumZ]
  | cons z f ih =>
    have := ih (fun y hy => h y (by simp [hy]))
    have := h z (by simp)
    simp only [len, sumZ, List.map_cons, List.sum_cons] at *
    omega
theorem upTo_full (x : Rat) : ∀ (f : List (Int × Int)) (b : Int), (∀ z ∈ f, 1 ≤ z.1) → ((b + len f : Int) : Rat) ≤ x → upTo b f x = (tot f : Int)
  | [], b, _, _ => by simp [upTo, tot, sumZ]
  | z :: f, b, h, hx => by
    have hz := h z (by simp)
    have hn := len_nonneg (fun y hy => h y (List.mem_cons_of_mem z hy))
    have e : b + len (z :: f) = b + z.1 + len f := by simp [len, sumZ]; omega
    rw [e] at hx
    rw [upTo, upTo_full x f (b + z.1) (fun y hy => h y (by simp [hy])) hx]
    have h1 : (b : Rat) ≤ ((b + z.1 : Int) : Rat) := Rat.intCast_le_intCast.2 (by omega)
    have h2 : ((b + z.1 : Int) : Rat) ≤ ((b + z.1 + len f : Int) : Rat) := Rat.intCast_le_intCast.2 (by omega)
    have e2 : clamp x (b : Rat) ((b + z.1 : Int) : Rat) = ((b + z.1 : Int) : Rat) := by unfold clamp; grind
    have e3 : tot (z :: f) = z.1 * z.2 + tot f := by simp [tot, sumZ]
    rw [e2, e3, Rat.intCast_add, Rat.intCast_add, Rat.intCast_mul]
    grind
theorem upTo_none (x : Rat) : ∀ (f : List (Int × Int)) (b : Int), (∀ z ∈ f, 1 ≤ z.1) → x ≤ (b : Rat) → upTo b f x = 0
  | [], _, _, _ => rfl
  | z :: f, b, h, hx => by
    have hz := h z (by simp)
    have h1 : (b : Rat) ≤ ((b + z.1 : Int) : Rat) := Rat.intCast_le_intCast.2 (by omega)
    rw [upTo, upTo_none x f (b + z.1) (fun y hy => h y (by simp [hy])) (Rat.le_trans hx h1)]
    have e2 : clamp x (b : Rat) ((b + z.1 : Int) : Rat) = (b : Rat) := by unfold clamp; grind
    rw [e2]
    grind
theorem units_le {f : List (Int × Int)} (h : f.all vz = true) : ∀ y ∈ units f, 0 ≤ y ∧ y ≤ 20 := by
  intro y hy
  obtain ⟨w, hw, hy⟩ := List.mem_flatMap.1 hy
  have := (vz_iff w).1 (List.all_eq_true.1 h w hw)
  have := (List.mem_replicate.1 hy).2
  omega
theorem upTo_bounds {f : List (Int × Int)} (h : good f) (b : Int) (x : Rat) : 0 ≤ upTo b f x ∧ upTo b f x ≤ ((2400 : Int) : Rat) := by
  rw [← upTo_units x f b h.2]
  have := upToU_bounds (units f) b x (units_le h.2)
  have hl := len_units h.2
  have hb := len_bound h
  exact ⟨this.1, Rat.le_trans this.2 (Rat.intCast_le_intCast.2 (by omega))⟩
theorem upTo_Dv {D : Int} {x : Rat} (hx : Dv D x) : ∀ (f : List (Int × Int)) (b : Int), Dv D (upTo b f x)
  | [], b => Dv_int D 0
  | z :: f, b => by
    rw [upTo]
    exact (((clamp_Dv hx _ _).sub (Dv_int _ _)).mul z.2).add (upTo_Dv hx f (b + z.1))
/-- A place of a field with which words do not overflow. -/
def Pl (f : List (Int × Int)) (q : Rat) : Prop := (0 ≤ q.num ∧ q.num ≤ len f * q.den) ∧ (q.den : Int) ≤ 1048576
theorem Pl.le {f : List (Int × Int)} {q : Rat} (h : Pl f q) : 0 ≤ q ∧ q ≤ ((len f : Int) : Rat) := by
  refine ⟨Rat.num_nonneg.1 h.1.1, ?_⟩
  rw [Rat.le_iff]
  show q.num * (1 : Int) ≤ len f * (q.den : Int)
  have := h.1.2
  omega
theorem Pl.of {f : List (Int × Int)} {q : Rat} (h0 : 0 ≤ q) (h1 : q ≤ ((len f : Int) : Rat)) (hd : (q.den : Int) ≤ 1048576) : Pl f q := by
  refine ⟨⟨Rat.num_nonneg.2 h0, ?_⟩, hd⟩
  rw [Rat.le_iff] at h1
  have h1 : q.num * (1 : Int) ≤ len f * (q.den : Int) := h1
  omega
theorem Pl.sm {f : List (Int × Int)} {q : Rat} (hg : good f) (h : Pl f q) : Sm q := by
  have hl := len_bound hg
  have hd := den_pos q
  obtain ⟨⟨h1, h2⟩, h3⟩ := h
  have : len f * q.den ≤ 120 * 1048576 := Int.mul_le_mul hl.2 h3 (by omega) (by omega)
  exact ⟨by omega, h3⟩
theorem num_zero {q : Rat} (h : q = 0) : q.num.natAbs = 0 ∧ q.den = 1 := by subst h; exact ⟨rfl, rfl⟩
theorem mul_Nat {a b X Y : Nat} (h : a ≤ X) (k : b ≤ Y) : a * b ≤ X * Y := Nat.mul_le_mul h k
/-- One zone's part, when it is not nothing. -/
theorem zone_part {f : List (Int × Int)} (hg : good f) {p q : Rat} (hp : Pl f p) (hq : Pl f q) (hpq : p ≤ q) (g : List (Int × Int)) (hgg : good g) (z : Int × Int) (hz : vz z = true) (lo hi : Rat) (hlo : lo = if ((len g : Int) : Rat) < p then p else ((len g : Int) : Rat)) (hhi : hi = if q < ((len g + z.1 : Int) : Rat) then q else ((len g + z.1 : Int) : Rat)) (h : lo < hi) :
    (Sm lo ∧ Sm hi) ∧ Fit hi lo ∧ ((hi - lo).num.natAbs * z.2.natAbs ≤ 4611686018427387904 ∧ (hi - lo).den ≤ 4611686018427387904) ∧ Fit (upTo 0 g q - upTo 0 g p) ((hi - lo) * z.2) := by
  have hz' := (vz_iff z).1 hz
  have hlb := len_bound hgg
  have hSp := hp.sm hg
  have hSq := hq.sm hg
  have hSb : Sm ((len g : Int) : Rat) := Sm_int (by omega)
  have hSe : Sm ((len g + z.1 : Int) : Rat) := Sm_int (by omega)
  have hSlo : Sm lo := by rw [hlo]; split <;> assumption
  have hShi : Sm hi := by rw [hhi]; split <;> assumption
  have hfit := hShi.fit hSlo
  have hL := len_bound hg
  have p0 := hp.le
  have q0 := hq.le
  have hL2 : ((len f : Int) : Rat) ≤ ((120 : Int) : Rat) := Rat.intCast_le_intCast.2 hL.2
  have hb0 : (0 : Rat) ≤ ((len g : Int) : Rat) := by rw [← int0]; exact Rat.intCast_le_intCast.2 hlb.1
  have lo0 : 0 ≤ lo := by grind
  have hi1 : hi ≤ ((120 : Int) : Rat) := by grind
  have dp := den_pos p
  have dq := den_pos q
  have hD : (0 : Int) < p.den * q.den := Int.mul_pos dp dq
  have hD2 : (p.den : Int) * q.den ≤ 1048576 * 1048576 := Int.mul_le_mul hp.2 hq.2 (by omega) (by omega)
  have Dlo : Dv p.den lo := by
    rw [hlo]; split
    · exact Dv_self p
    · exact Dv_int _ _
  have Dhi : Dv q.den hi := by
    rw [hhi]; split
    · exact Dv_self q
    · exact Dv_int _ _
  have Da : Dv (p.den * q.den) (hi - lo) := (Dhi.dvd (Int.dvd_mul_left _ _)).sub (Dlo.dvd (Int.dvd_mul_right _ _))
  have a0 : 0 ≤ hi - lo := by grind
  have a1 : hi - lo ≤ ((120 : Int) : Rat) := by grind
  have na := num_le hD Da (int_neg_le_zero (M := 120) (by omega) a0) a1
  have z0 : (0 : Rat) ≤ (z.2 : Rat) := by rw [← int0]; exact Rat.intCast_le_intCast.2 hz'.2.1
  have z1 : (z.2 : Rat) ≤ ((20 : Int) : Rat) := Rat.intCast_le_intCast.2 hz'.2.2
  have t0 : 0 ≤ (hi - lo) * (z.2 : Rat) := Rat.mul_nonneg a0 z0
  have t1 : (hi - lo) * (z.2 : Rat) ≤ ((2400 : Int) : Rat) := by
    have h1 := Rat.mul_le_mul_of_nonneg_right a1 z0
    have h2 := Rat.mul_le_mul_of_nonneg_left z1 (show (0 : Rat) ≤ ((120 : Int) : Rat) by rw [← int0]; exact Rat.intCast_le_intCast.2 (by omega))
    have h3 : ((120 : Int) : Rat) * ((20 : Int) : Rat) = ((2400 : Int) : Rat) := by rw [← Rat.intCast_mul]; rfl
    grind
  refine ⟨⟨hSlo, hShi⟩, hfit, ⟨?_, by omega⟩, ?_⟩
  · have := mul_Nat (X := 120 * 1048576 * 1048576) (Y := 20) (show (hi - lo).num.natAbs ≤ 120 * 1048576 * 1048576 by omega) (show z.2.natAbs ≤ 20 by omega)
    omega
  · by_cases hb : ((len g : Int) : Rat) ≤ p
    · -- all of what lies before is left out
      have e1 := upTo_full p g 0 (all_pos hgg.2) (by rw [Int.zero_add]; exact hb)
      have e2 := upTo_full q g 0 (all_pos hgg.2) (by rw [Int.zero_add]; exact Rat.le_trans hb hpq)
      have e3 : upTo 0 g q - upTo 0 g p = 0 := by rw [e1, e2]; grind
      have n0 := num_zero e3
      have nt := num_le hD (Da.mul z.2) (int_neg_le_zero (M := 2400) (by omega) t0) t1
      exact Fit_of 0 (2400 * 1048576 * 1048576) 1 (1048576 * 1048576) (by omega) (by omega) (by omega) (by omega) (by decide) (by decide)
    · have hlo' : lo = ((len g : Int) : Rat) := by grind
      have hq' : ((len g : Int) : Rat) ≤ q := by grind
      have e2 := upTo_full q g 0 (all_pos hgg.2) (by rw [Int.zero_add]; exact hq')
      have Do : Dv p.den (upTo 0 g q - upTo 0 g p) := by rw [e2]; exact (Dv_int _ _).sub (upTo_Dv (Dv_self p) g 0)
      have Dt : Dv q.den ((hi - lo) * z.2) := by rw [hlo']; exact (Dhi.sub (Dv_int _ _)).mul z.2
      have bq := upTo_bounds hgg 0 q
      have bp := upTo_bounds hgg 0 p
      have o1 : upTo 0 g q - upTo 0 g p ≤ ((2400 : Int) : Rat) := by grind
      have o0 : ((-2400 : Int) : Rat) ≤ upTo 0 g q - upTo 0 g p := by rw [Rat.intCast_neg]; grind
      have no := num_le dp Do o0 o1
      have nt := num_le dq Dt (int_neg_le_zero (M := 2400) (by omega) t0) t1
      have := hp.2
      have := hq.2
      exact Fit_of (2400 * 1048576) (2400 * 1048576) 1048576 1048576 (by omega) (by omega) (by omega) (by omega) (by decide) (by decide)
theorem upTo_take {f : List (Int × Int)} {i : Nat} {z : Int × Int} (hz : f[i]? = some z) (x : Rat) : upTo 0 (f.take (i + 1)) x = upTo 0 (f.take i) x + (clamp x ((len (f.take i) : Int) : Rat) ((len (f.take i) + z.1 : Int) : Rat) - ((len (f.take i) : Int) : Rat)) * (z.2 : Rat) := by
  rw [List.take_add_one, hz, Option.toList_some, upTo_append, Int.zero_add, upTo, upTo, Rat.add_zero]
theorem len_take {f : List (Int × Int)} {i : Nat} {z : Int × Int} (hz : f[i]? = some z) : len (f.take (i + 1)) = len (f.take i) + z.1 := sumZ_take hz
theorem clamp_mono {x y a b : Rat} (h : x ≤ y) (hab : a ≤ b) : clamp x a b ≤ clamp y a b := by
  unfold clamp
  grind
theorem upTo_mono {p q : Rat} (h : p ≤ q) : ∀ (f : List (Int × Int)) (b : Int), f.all vz = true → upTo b f p ≤ upTo b f q
  | [], _, _ => Rat.le_refl
  | z :: f, b, hv => by
    simp only [List.all_cons, Bool.and_eq_true] at hv
    have hz := (vz_iff z).1 hv.1
    have ih := upTo_mono h f (b + z.1) hv.2
    have hc := clamp_mono h (show (b : Rat) ≤ ((b + z.1 : Int) : Rat) from Rat.intCast_le_intCast.2 (by omega))
    have z0 : (0 : Rat) ≤ (z.2 : Rat) := by rw [← int0]; exact Rat.intCast_le_intCast.2 hz.2.1
    have := Rat.mul_le_mul_of_nonneg_right (show clamp p (b : Rat) ((b + z.1 : Int) : Rat) - (b : Rat) ≤ clamp q (b : Rat) ((b + z.1 : Int) : Rat) - (b : Rat) by grind) z0
    rw [upTo, upTo]
    grind
/-- The first place up to which it is worth so much, unit by unit. -/
def rch : Int → Int → List Int → Rat → Option Rat
  | _, _, [], _ => none
  | b, a, u :: us, x => if x ≤ ((a + u : Int) : Rat) then some ((b : Rat) + (x - (a : Rat)) / (u : Rat)) else rch (b + 1) (a + u) us x
/-- The same, zone by zone. -/
def rz : Int → Int → List (Int × Int) → Rat → Option Rat
  | _, _, [], _ => none
  | b, a, z :: f, x => if x ≤ ((a + z.1 * z.2 : Int) : Rat) then some ((b : Rat) + (x - (a : Rat)) / (z.2 : Rat)) else rz (b + z.1) (a + z.1 * z.2) f x
theorem rat_lt_le {a b c : Rat} (h : a < b) (k : b ≤ c) : a < c := by grind
theorem cast_nonneg {n : Int} (h : 0 ≤ n) : (0 : Rat) ≤ (n : Rat) := by rw [← int0]; exact Rat.intCast_le_intCast.2 h
theorem cast_pos {n : Int} (h : 0 < n) : (0 : Rat) < (n : Rat) := by rw [← int0]; exact Rat.intCast_lt_intCast.2 h
theorem rch_rep (v : Int) (hv : 0 ≤ v) (us : List Int) (x : Rat) : ∀ (n : Nat) (b a : Int), (a : Rat) < x →
    rch b a (List.replicate n v ++ us) x = if x ≤ ((a + n * v : Int) : Rat) then some ((b : Rat) + (x - (a : Rat)) / (v : Rat)) else rch (b + n) (a + n * v) us x
  | 0, b, a, h => by
    have : ¬ x ≤ (a : Rat) := Rat.not_le.2 h
    simp [this]
  | n + 1, b, a, h => by
    have e : a + ((n + 1 : Nat) : Int) * v = a + v + n * v := by rw [Int.natCast_add, Int.add_mul]; omega
    have e2 : b + ((n + 1 : Nat) : Int) = b + 1 + n := by omega
    rw [List.replicate_succ, List.cons_append, rch, e, e2]
    have hnv : 0 ≤ (n : Int) * v := Int.mul_nonneg (by omega) hv
    by_cases h1 : x ≤ ((a + v : Int) : Rat)
    · have h2 : x ≤ ((a + v + n * v : Int) : Rat) := Rat.le_trans h1 (Rat.intCast_le_intCast.2 (by omega))
      rw [if_pos h1, if_pos h2]
    · rw [if_neg h1, rch_rep v hv us x n (b + 1) (a + v) (Rat.not_le.1 h1)]
      split
      · rename_i h2
        have hvp : v ≠ 0 := by
          rintro rfl
          simp at h1 h2
          exact absurd h2 h1
        have := cast_ne hvp
        congr 1
        rw [Rat.intCast_add, Rat.intCast_add]
        have := int1
        generalize (v : Rat) = v' at *
        generalize (a : Rat) = a' at *
        generalize (b : Rat) = b' at *
        grind
      · rfl
theorem rch_units (x : Rat) : ∀ (f : List (Int × Int)) (b a : Int), f.all vz = true → (a : Rat) < x → rch b a (units f) x = rz b a f x
  | [], _, _, _, _ => rfl
  | z :: f, b, a, h, hx => by
    simp only [List.all_cons, Bool.and_eq_true] at h
    have hz := (vz_iff z).1 h.1
    have e : ((z.1.toNat : Nat) : Int) = z.1 := Int.toNat_of_nonneg (by omega)
    have : units (z :: f) = List.replicate z.1.toNat z.2 ++ units f := rfl
    rw [this, rch_rep z.2 hz.2.1 _ x _ b a hx, e, rz]
    split
    · rfl
    · rename_i h1
      exact rch_units x f _ _ h.2 (Rat.not_le.1 h1)
/-- What is found. -/
theorem rch_some (x : Rat) : ∀ (us : List Int) (b a : Int) (y : Rat), (∀ u ∈ us, 0 ≤ u ∧ u ≤ 20) → (a : Rat) < x → rch b a us x = some y →
    (∃ v : Int, (1 ≤ v ∧ v ≤ 20) ∧ ∃ b' a' : Int, y = (b' : Rat) + (x - (a' : Rat)) / (v : Rat)) ∧ ((b : Rat) ≤ y ∧ y ≤ ((b + us.length : Int) : Rat)) ∧ upToU b us y = x - (a : Rat)
  | [], _, _, _, _, _, h => by simp [rch] at h
  | u :: us, b, a, y, hu, hx, h => by
    have hu0 := hu u (by simp)
    have e2 : b + ((u :: us).length : Int) = b + 1 + us.length := by simp; omega
    rw [rch] at h
    split at h
    · rename_i h1
      have hy : (b : Rat) + (x - (a : Rat)) / (u : Rat) = y := Option.some.inj h
      have hup : 0 < u := by
        have : (a : Rat) < ((a + u : Int) : Rat) := rat_lt_le hx h1
        have := Rat.intCast_lt_intCast.1 this
        omega
      have hup' := cast_pos hup
      have d0 : 0 ≤ (x - (a : Rat)) / (u : Rat) := by rw [Rat.div_def]; exact Rat.mul_nonneg (by grind) (Rat.le_of_lt (Rat.inv_pos.2 hup'))
      have d2 : (x - (a : Rat)) / (u : Rat) * (u : Rat) = x - (a : Rat) := Rat.div_mul_cancel (cast_ne (by omega))
      have d1 : (x - (a : Rat)) / (u : Rat) ≤ 1 := by
        rcases Rat.le_total (a := (x - (a : Rat)) / (u : Rat)) (b := 1) with h | h
        · exact h
        · have := Rat.mul_le_mul_of_nonneg_right h (Rat.le_of_lt hup')
          rw [d2, Rat.one_mul] at this
          rw [Rat.intCast_add] at h1
          have e : x - (a : Rat) = (u : Rat) := by grind
          have hne := cast_ne (show u ≠ 0 by omega)
          generalize (x - (a : Rat)) / (u : Rat) = t at *
          rw [e] at d2
          have : t = 1 := by grind
          rw [this]
          exact Rat.le_refl
      have hb1 : ((b + 1 : Int) : Rat) = (b : Rat) + 1 := by rw [Rat.intCast_add]; rfl
      have hle : ((b + 1 : Int) : Rat) ≤ ((b + 1 + us.length : Int) : Rat) := Rat.intCast_le_intCast.2 (by omega)
      refine ⟨⟨u, ⟨by omega, hu0.2⟩, b, a, hy.symm⟩, ⟨by grind, by rw [e2]; grind⟩, ?_⟩
      rw [upToU, upToU_zero y us (b + 1) (by grind)]
      have : clamp y (b : Rat) ((b + 1 : Int) : Rat) = y := by unfold clamp; grind
      rw [this, ← hy]
      grind
    · rename_i h1
      obtain ⟨h2, ⟨h3, h4⟩, h5⟩ := rch_some x us (b + 1) (a + u) y (fun w hw => hu w (by simp [hw])) (Rat.not_le.1 h1) h
      have hb : (b : Rat) ≤ ((b + 1 : Int) : Rat) := Rat.intCast_le_intCast.2 (by omega)
      refine ⟨h2, ⟨Rat.le_trans hb h3, by rw [e2]; exact h4⟩, ?_⟩
      rw [upToU, h5]
      have : clamp y (b : Rat) ((b + 1 : Int) : Rat) = ((b + 1 : Int) : Rat) := by unfold clamp; grind
      have hb1 : ((b + 1 : Int) : Rat) = (b : Rat) + 1 := by rw [Rat.intCast_add]; rfl
      rw [this, hb1, Rat.intCast_add]
      grind
/-- The place of a worth from a place on. -/
def plc (f : List (Int × Int)) (p w : Rat) : Option Rat := if w.num = 0 then some p else rch 0 0 (units f) (upTo 0 f p + w)
def oR : Option Rat → AV
  | some x => R x
  | none => zeroR
theorem div_num {D v : Int} {q : Rat} (hD : 0 < D) (hD2 : D ≤ 1048576) (hv : 1 ≤ v ∧ v ≤ 20) (h : Dv D q) (h0 : 0 ≤ q) (h1 : q ≤ ((20 * v : Int) : Rat)) : ((q / (v : Rat)).num.natAbs ≤ 20 * 1048576 * 20) ∧ ((q / (v : Rat)).den ≤ 1048576 * 20) := by
  have hd := h.div v (by omega)
  have hvp := cast_pos (show 0 < v by omega)
  have d0 : 0 ≤ q / (v : Rat) := by rw [Rat.div_def]; exact Rat.mul_nonneg h0 (Rat.le_of_lt (Rat.inv_pos.2 hvp))
  have d2 : q / (v : Rat) * (v : Rat) = q := Rat.div_mul_cancel (cast_ne (by omega))
  have d1 : q / (v : Rat) ≤ ((20 : Int) : Rat) := by
    rcases Rat.le_total (a := q / (v : Rat)) (b := ((20 : Int) : Rat)) with h | h
    · exact h
    · have h3 := Rat.mul_le_mul_of_nonneg_right h (Rat.le_of_lt hvp)
      rw [d2, ← Rat.intCast_mul] at h3
      have e : q = ((20 * v : Int) : Rat) := Rat.le_antisymm h1 h3
      rw [e, Rat.intCast_mul, Rat.mul_div_cancel (cast_ne (by omega))]
      exact Rat.le_refl
  have hDv : D * v ≤ 1048576 * 20 := Int.mul_le_mul hD2 hv.2 (by omega) (by omega)
  have hDv0 : 0 < D * v := Int.mul_pos hD (by omega)
  have := num_le (M := 20) hDv0 hd (int_neg_le_zero (by omega) d0) d1
  omega
theorem take_sum_succ' {us : List Int} {k : Nat} {u : Int} (h : us[k]? = some u) : (us.take (k + 1)).sum = (us.take k).sum + u := by
  rw [List.take_add_one, h]; simp
theorem split_f {α : Type} {l : List α} {i : Nat} {z : α} (hz : l[i]? = some z) : l = l.take i ++ z :: l.drop (i + 1) := by
  have hi : i < l.length := (List.getElem?_eq_some_iff.1 hz).1
  have := (List.getElem?_eq_some_iff.1 hz).2
  rw [← this, List.getElem_cons_drop, List.take_append_drop]
theorem tot_take {f : List (Int × Int)} {i : Nat} {z : Int × Int} (hz : f[i]? = some z) : tot (f.take (i + 1)) = tot (f.take i) + z.1 * z.2 := sumZ_take hz
/-- What lies before a place in a zone. -/
theorem cum_in {f : List (Int × Int)} (hg : good f) {i : Nat} {z : Int × Int} (hz : f[i]? = some z) {x : Rat} (h0 : ((len (f.take i) : Int) : Rat) ≤ x) (h1 : x ≤ ((len (f.take i) + z.1 : Int) : Rat)) :
    upTo 0 f x = ((tot (f.take i) : Int) : Rat) + (x - ((len (f.take i) : Int) : Rat)) * (z.2 : Rat) := by
  have hvz := (vz_iff z).1 (all_get hg.2 hz)
  have hd : ∀ y ∈ f.drop (i + 1), 1 ≤ y.1 := fun y hy => all_pos hg.2 y (List.mem_of_mem_drop hy)
  have e : upTo 0 f x = upTo 0 (f.take i ++ z :: f.drop (i + 1)) x := by rw [← split_f hz]
  rw [e, upTo_append, Int.zero_add, upTo_full x _ 0 (all_pos (good_take hg i).2) (by rw [Int.zero_add]; exact h0), upTo, upTo_none x _ _ hd h1, Rat.add_zero]
  have : clamp x ((len (f.take i) : Int) : Rat) ((len (f.take i) + z.1 : Int) : Rat) = x := by unfold clamp; grind
  rw [this]
theorem zero_lt_agg {q : Rat} (h : q.num = 0) : q = 0 := Rat.num_eq_zero.1 h
end Go.Proofs.Ytmblehbjedpjoaa

namespace Go.Proofs.Ytmblehbjedpjoaa
open Go Go.Eng
theorem c_Div (a : Rat) (n : Int) (A : AHeap) (ha : a.num.natAbs ≤ 4611686018427387904) (hd : a.den ≤ 4398046511104) (hn : 0 < n ∧ n ≤ 1048576) : ACalls Try.prog 110 [R a, I n] A (R (a / n)) A := by
  refine acalls hmix Try.func110 (by kernel_rfl) t110 2 rfl (by decide) ?_
  have h0 := den_pos a
  dsimp only [m110]
  simp (maxSteps := 4000000) -implicitDefEqProofs -dsimp (disch := omega) only [↓AW_ops, ↓AW_seq, ↓AOps_nil, ↓AOps_pu, ↓AOps_call, on_some, ↓then_normal, pval, rd_S, rd_C, put_S, chkd, isAdr, bgot, AV.cells?, partA, eq_self, List.replicate_succ, List.replicate_zero, List.set_cons_zero, List.set_cons_succ, List.getElem?_cons_zero, List.getElem?_cons_succ, List.drop_zero, List.take_zero, List.take_succ_cons, Option.getD_some, map_c, map_n, List.length_cons, List.length_nil, Nat.reduceAdd, Nat.reduceSub, Nat.reduceLeDiff, Nat.zero_add, List.cons_append, List.nil_append, if_true, if_false, Bool.false_eq_true]
  refine CallK.of (s59R _ ⟨by omega, by omega⟩ hn.1 (by omega)) ?_
  have hm := div_parts a n hn.1
  have hl := ratio_le a.num n hn.1
  have hp := den_pos ((a.num : Rat) / (n : Rat))
  generalize ((a.num : Rat) / (n : Rat)) = f at *
  have m1 := mul_bound (x := (f.den : Int)) (y := (a.den : Int)) (X := 1048576) (Y := 4398046511104) (by omega) (by omega)
  have m2 : 0 < (f.den : Int) * a.den := Int.mul_pos hp h0
  simp (maxSteps := 4000000) -implicitDefEqProofs -dsimp (disch := omega) only [↓AW_ops, ↓AW_seq, ↓AOps_nil, ↓AOps_pu, ↓AOps_call, on_some, extK_same, ↓then_normal, pval, rd_S, rd_C, put_S, chkd, isAdr, bput, bgot, AV.cells?, splice, partA, eq_self, List.replicate_succ, List.replicate_zero, List.set_cons_zero, List.set_cons_succ, List.getElem?_cons_zero, List.getElem?_cons_succ, List.drop_zero, List.drop_succ_cons, List.drop_nil, List.take_zero, List.take_succ_cons, List.take_nil, Option.getD_some, map_c, map_n, List.length_cons, List.length_nil, Nat.reduceAdd, Nat.reduceSub, Nat.reduceLeDiff, Nat.zero_add, List.cons_append, List.nil_append, List.append_nil, bin_mul, w64, if_true, if_false, Bool.false_eq_true, ne_eq, not_true_eq_false]
  refine CallK.of (s59R _ ⟨by omega, by omega⟩ m2 (by omega)) ?_
  simp (maxSteps := 4000000) -implicitDefEqProofs -dsimp (disch := omega) only [↓AW_ret, ↓AOps_nil, ↓AOps_pu, on_some, extK_same, ↓then_normal, ↓Fin_ret, pval, rd_S, put_S, resV, resL, chkd, bput, bgot, AV.cells?, splice, partA, eq_self, List.replicate_succ, List.replicate_zero, List.set_cons_zero, List.set_cons_succ, List.getElem?_cons_zero, List.getElem?_cons_succ, List.drop_zero, List.drop_succ_cons, List.drop_nil, List.take_zero, List.take_succ_cons, List.take_nil, Option.getD_some, List.length_cons, List.length_nil, Nat.reduceAdd, Nat.reduceSub, Nat.reduceLeDiff, Nat.reduceEqDiff, Nat.zero_add, List.cons_append, List.nil_append, List.append_nil, if_true, if_false, ne_eq, not_true_eq_false]
  exact gc_same (by rw [hm])
/-- A worth that is asked for: of all that a field may be worth, with a denominator of at most 100. -/
structure Wh (w : Rat) : Prop where
  h0 : 0 ≤ w
  h1 : w ≤ ((2400 : Int) : Rat)
  hd : w.den ≤ 100
/-- The denominator that a place and a worth have in common. -/
theorem Wh.dv {f : List (Int × Int)} {p w : Rat} (hp : Pl f p) (hw : Wh w) : ∃ D : Int, (0 < D ∧ D ≤ 104857600) ∧ Dv D p ∧ (∀ g, Dv D (upTo 0 g p)) ∧ Dv D w := by
  have d1 := den_pos p
  have d2 := den_pos w
  have h3 := hw.hd
  refine ⟨(p.den : Int) * w.den, ⟨Int.mul_pos d1 d2, ?_⟩, (Dv_self p).dvd (Int.dvd_mul_right _ _), fun g => (upTo_Dv (Dv_self p) g 0).dvd (Int.dvd_mul_right _ _), (Dv_self w).dvd (Int.dvd_mul_left _ _)⟩
  have : (p.den : Int) * w.den ≤ 1048576 * 100 := Int.mul_le_mul hp.2 (by omega) (by omega) (by omega)
  omega
theorem div_numD {D v : Int} {q : Rat} (hD : 0 < D) (hD2 : D ≤ 104857600) (hv : 1 ≤ v ∧ v ≤ 20) (h : Dv D q) (h0 : 0 ≤ q) (h1 : q ≤ ((20 * v : Int) : Rat)) : ((q / (v : Rat)).num.natAbs ≤ 20 * 104857600 * 20) ∧ ((q / (v : Rat)).den ≤ 104857600 * 20) := by
  have hd := h.div v (by omega)
  have hvp := cast_pos (show 0 < v by omega)
  have d0 : 0 ≤ q / (v : Rat) := by rw [Rat.div_def]; exact Rat.mul_nonneg h0 (Rat.le_of_lt (Rat.inv_pos.2 hvp))
  have d2 : q / (v : Rat) * (v : Rat) = q := Rat.div_mul_cancel (cast_ne (by omega))
  have d1 : q / (v : Rat) ≤ ((20 : Int) : Rat) := by
    rcases Rat.le_total (a := q / (v : Rat)) (b := ((20 : Int) : Rat)) with h | h
    · exact h
    · have h3 := Rat.mul_le_mul_of_nonneg_right h (Rat.le_of_lt hvp)
      rw [d2, ← Rat.intCast_mul] at h3
      have e : q = ((20 * v : Int) : Rat) := Rat.le_antisymm h1 h3
      rw [e, Rat.intCast_mul, Rat.mul_div_cancel (cast_ne (by omega))]
      exact Rat.le_refl
  have hDv : D * v ≤ 104857600 * 20 := Int.mul_le_mul hD2 hv.2 (by omega) (by omega)
  have hDv0 : 0 < D * v := Int.mul_pos hD (by omega)
  have := num_le (M := 20) hDv0 hd (int_neg_le_zero (by omega) d0) d1
  omega
end Go.Proofs.Ytmblehbjedpjoaa

namespace Go.Proofs.Ytmblehbjedpjoaa
open Go Go.Eng
def e0 (x : AV × List Int) : List AV := [x.1]
/-- A list of lists in memory. -/
structure LL (A : AHeap) (v : AV) (ws : List (AV × List Int)) : Prop where
  ls : Ls 1 e0 A v ws
  inn : ∀ x ∈ ws, L1 A x.1 x.2
theorem LL.mono {A A' : AHeap} {v : AV} {ws : List (AV × List Int)} (h : LL A v ws) (hp : A <+: A') : LL A' v ws := ⟨h.ls.mono hp, fun x hx => (h.inn x hx).mono hp⟩
abbrev lists (ws : List (AV × List Int)) : List (List Int) := ws.map Prod.snd
theorem mem_lists {ws : List (AV × List Int)} {w : AV × List Int} (h : w ∈ ws) : w.2 ∈ lists ws := List.mem_map_of_mem h
theorem c_kw (n lo hi : Int) (A : AHeap) : ACalls Try.prog 57 [I n, I lo, I hi] A (B (decide (lo ≤ n ∧ n ≤ hi))) A := by
  refine acalls hmix Try.func57 (by kernel_rfl) t57 3 rfl (by decide) ?_
  by_cases h : lo ≤ n
  · dsimp only [m57]
    simp (maxSteps := 4000000) -implicitDefEqProofs -dsimp (disch := omega) only [↓AW_ops, ↓AW_seq, ↓AW_ret, ↓AOps_nil, ↓AOps_pu, ↓AOps_guard, on_some, guardB_tt, ↓then_normal, ↓Fin_ret, pval, rd_S, rd_C, put_S, resV, resL, eq_self, List.replicate_succ, List.replicate_zero, List.set_cons_zero, List.set_cons_succ, List.getElem?_cons_zero, List.getElem?_cons_succ, Option.getD_some, Nat.reduceSub, List.cons_append, List.nil_append, bin_leq, bin_geq, if_true, decide_true, true_and, h]
    exact gc_same rfl
  · dsimp only [m57]
    simp (maxSteps := 4000000) -implicitDefEqProofs -dsimp (disch := omega) only [↓AW_ops, ↓AW_seq, ↓AW_ret, ↓AOps_nil, ↓AOps_pu, ↓AOps_guard, on_some, guardB_ft, skipS_some, ↓then_normal, ↓Fin_ret, pval, rd_S, rd_C, put_S, resV, resL, List.replicate_succ, List.replicate_zero, List.set_cons_zero, List.set_cons_succ, List.getElem?_cons_zero, List.getElem?_cons_succ, Option.getD_some, Nat.reduceSub, List.cons_append, List.nil_append, bin_geq, if_false, Bool.false_eq_true, decide_false, h]
    exact gc_same rfl
theorem c_rw (n lo hi : Int) (A : AHeap) : ACalls Try.prog 62 [I n, I lo, I hi] A (B (decide (lo ≤ n ∧ n ≤ hi))) A := by
  refine acalls hmix Try.func62 (by kernel_rfl) t62 3 rfl (by decide) ?_
  by_cases h : lo ≤ n
  · dsimp only [m62]
    simp (maxSteps := 4000000) -implicitDefEqProofs -dsimp (disch := omega) only [↓AW_ops, ↓AW_seq, ↓AW_ret, ↓AOps_nil, ↓AOps_pu, ↓AOps_guard, on_some, guardB_tt, ↓then_normal, ↓Fin_ret, pval, rd_S, rd_C, put_S, resV, resL, eq_self, List.replicate_succ, List.replicate_zero, List.set_cons_zero, List.set_cons_succ, List.getElem?_cons_zero, List.getElem?_cons_succ, Option.getD_some, Nat.reduceSub, List.cons_append, List.nil_append, bin_leq, bin_geq, if_true, decide_true, true_and, h]
    exact gc_same rfl
  · dsimp only [m62]
    simp (maxSteps := 4000000) -implicitDefEqProofs -dsimp (disch := omega) only [↓AW_ops, ↓AW_seq, ↓AW_ret, ↓AOps_nil, ↓AOps_pu, ↓AOps_guard, on_some, guardB_ft, skipS_some, ↓then_normal, ↓Fin_ret, pval, rd_S, rd_C, put_S, resV, resL, List.replicate_succ, List.replicate_zero, List.set_cons_zero, List.set_cons_succ, List.getElem?_cons_zero, List.getElem?_cons_succ, Option.getD_some, Nat.reduceSub, List.cons_append, List.nil_append, bin_geq, if_false, Bool.false_eq_true, decide_false, h]
    exact gc_same rfl
theorem c_v1 (n : Int) (A : AHeap) : ACalls Try.prog 70 [I n] A (B (!vLn n)) A := by
  refine acalls hmix Try.func70 (by kernel_rfl) t70 1 rfl (by decide) ?_
  dsimp only [m70]
  simp (maxSteps := 4000000) -implicitDefEqProofs -dsimp (disch := omega) only [↓AW_ops, ↓AW_seq, ↓AOps_nil, ↓AOps_pu, ↓AOps_call, on_some, ↓then_normal, pval, rd_S, rd_C, put_S, List.replicate_succ, List.replicate_zero, List.set_cons_zero, List.set_cons_succ, List.getElem?_cons_zero, List.getElem?_cons_succ, Option.getD_some, map_c, map_n, Nat.reduceSub, List.cons_append, List.nil_append]
  refine CallK.of (c_kw _ _ _ _) ?_
  simp (maxSteps := 4000000) -implicitDefEqProofs -dsimp (disch := omega) only [↓AW_ret, ↓AOps_nil, ↓AOps_pu, on_some, extK_same, ↓then_normal, ↓Fin_ret, pval, rd_S, put_S, resV, resL, List.replicate_succ, List.replicate_zero, List.set_cons_zero, List.set_cons_succ, List.getElem?_cons_zero, List.getElem?_cons_succ, Option.getD_some, Nat.reduceSub, List.cons_append, List.nil_append]
  exact gc_same (by simp [vLn])
theorem c_v2 (n : Int) (A : AHeap) : ACalls Try.prog 71 [I n] A (B (!vVl n)) A := by
  refine acalls hmix Try.func71 (by kernel_rfl) t71 1 rfl (by decide) ?_
  dsimp only [m71]
  simp (maxSteps := 4000000) -implicitDefEqProofs -dsimp (disch := omega) only [↓AW_ops, ↓AW_seq, ↓AOps_nil, ↓AOps_pu, ↓AOps_call, on_some, ↓then_normal, pval, rd_S, rd_C, put_S, List.replicate_succ, List.replicate_zero, List.set_cons_zero, List.set_cons_succ, List.getElem?_cons_zero, List.getElem?_cons_succ, Option.getD_some, map_c, map_n, Nat.reduceSub, List.cons_append, List.nil_append]
  refine CallK.of (c_kw _ _ _ _) ?_
  simp (maxSteps := 4000000) -implicitDefEqProofs -dsimp (disch := omega) only [↓AW_ret, ↓AOps_nil, ↓AOps_pu, on_some, extK_same, ↓then_normal, ↓Fin_ret, pval, rd_S, put_S, resV, resL, List.replicate_succ, List.replicate_zero, List.set_cons_zero, List.set_cons_succ, List.getElem?_cons_zero, List.getElem?_cons_succ, Option.getD_some, Nat.reduceSub, List.cons_append, List.nil_append]
  exact gc_same (by simp [vVl])
theorem mxL_take {xs : List Int} {i : Nat} {z : Int} (hi : 1 ≤ i) (hz : xs[i]? = some z) : mxL (xs.take (i + 1)) = max (mxL (xs.take i)) z := by
  cases xs with
  | nil => simp at hz
  | cons x xs =>
    obtain ⟨j, rfl⟩ : ∃ j, i = j + 1 := ⟨i - 1, by omega⟩
    simp only [List.take_succ_cons, mxL]
    rw [List.getElem?_cons_succ] at hz
    rw [List.take_add_one, hz, Option.toList_some, List.foldl_append, List.foldl_cons, List.foldl_nil]
theorem c_Max {xs : List Int} {v : AV} {A : AHeap} (hx : L1 A v xs) (h0 : 1 ≤ xs.length) (hl : xs.length ≤ 1000000) : ACalls Try.prog 72 [v] A (I (mxL xs)) A := by
  refine acalls hmix Try.func72 (by kernel_rfl) t72 1 rfl (by decide) ?_
  obtain ⟨x, hx0⟩ : ∃ x, xs[0]? = some x := ⟨_, List.getElem?_eq_getElem (by omega)⟩
  have h0' : ¬ (xs.length : Int) < 1 := by omega
  have i0 := hx.idx (k := .i64) (i := 0) (by omega)
  have e0' : ((0 : Nat) : Int) = 0 := rfl
  have l0 := hx.ld0 hx0 1 false (by decide)
  rw [e0'] at i0
  rw [Nat.zero_mul, Nat.add_zero] at i0 l0
  dsimp only [m72]
  simp (maxSteps := 4000000) -implicitDefEqProofs -dsimp (disch := omega) only [↓AW_skip, ↓AW_ops, ↓AW_seq, ↓AW_cond, ↓AW_block, ↓AOps_nil, ↓AOps_pu, ↓AOps_ld, on_some, condB_f, ↓then_normal, pval, lval, rd_S, rd_C, put_S, ↓AW_toLoop, partA, eq_self, List.replicate_succ, List.replicate_zero, List.set_cons_zero, List.set_cons_succ, List.getElem?_cons_zero, List.getElem?_cons_succ, List.drop_zero, List.take_succ_cons, List.take_nil, Option.getD_some, List.length_cons, List.length_nil, Nat.reduceSub, Nat.reduceLeDiff, Nat.zero_add, List.cons_append, List.nil_append, bin_lss, if_true, if_false, Bool.false_eq_true, decide_false, Go.Eng.e1, hx.len, h0', i0, l0]
  have ht1 : mxL (xs.take 1) = x := by
    cases xs with
    | nil => simp at hx0
    | cons y ys => simp at hx0; subst hx0; rfl
  refine LoopK.by 25 (fun i : Nat => 1 ≤ i ∧ i ≤ xs.length) (fun i => [(0, v), (3, I (mxL (xs.take i))), (4, I i)]) (fun _ => A) (fun i => xs.length - i) 1 ⟨by omega, by omega⟩ rfl (by simp [Has, rd_s, ht1]) rfl ?_
  rintro i ⟨hi1, hi⟩
  by_cases hlt : i < xs.length
  · obtain ⟨z, hz⟩ : ∃ z, xs[i]? = some z := ⟨_, List.getElem?_eq_getElem hlt⟩
    have hlt' : (i : Int) < xs.length := by omega
    simp (maxSteps := 4000000) -implicitDefEqProofs -dsimp (disch := omega) only [↓AW_skip, ↓AW_ops, ↓AW_seq, ↓AW_cond, ↓AW_block, ↓AOps_nil, ↓AOps_pu, ↓AOps_ld, on_some, condB_t, ↓then_normal, ↓inBlock_normal, pval, lval, rd_S, rd_C, put_S, partA, eq_self, mk, List.foldl_cons, List.foldl_nil, List.replicate_succ, List.replicate_zero, List.set_cons_zero, List.set_cons_succ, List.getElem?_cons_zero, List.getElem?_cons_succ, List.drop_zero, List.take_succ_cons, List.take_nil, Option.getD_some, map_c, map_n, List.length_cons, List.length_nil, Nat.reduceAdd, Nat.reduceLeDiff, Nat.zero_add, bin_add, bin_lss, mm_max, w64, if_true, if_false, Bool.false_eq_true, decide_true, Go.Eng.e1, true_and, hlt', hx.len, hx.idx hlt, hx.ld0 hz 1 false (by decide)]
    exact ⟨i + 1, ⟨by omega, hlt⟩, by simp [Has, rd_s, mxL_take hi1 hz], by omega⟩
  · have hlt' : ¬ ((i : Int) < xs.length) := by omega
    simp (maxSteps := 4000000) -implicitDefEqProofs -dsimp (disch := omega) only [↓AW_ops, ↓AW_seq, ↓AW_cond, ↓AW_exit, ↓AW_ret, ↓AOps_nil, ↓AOps_pu, on_some, condB_f, ↓then_normal, ↓then_exit, ↓inBlock_exit, ↓Fin_ret, pval, rd_S, put_S, resV, resL, eq_self, mk, List.foldl_cons, List.foldl_nil, List.replicate_succ, List.replicate_zero, List.set_cons_zero, List.set_cons_succ, List.getElem?_cons_zero, List.getElem?_cons_succ, Option.getD_some, bin_lss, if_true, decide_false, hlt', hx.len]
    rw [List.take_of_length_le (by omega)]
    exact gc_same rfl
section
variable {L : List Int} {ws : List (AV × List Int)} {x y : AV} {A : AHeap}
theorem kE_large {V : List (List Int)} (h : ¬ (((1 : Int) ≤ L.length ∧ (L.length : Int) ≤ 6) ∧ ((1 : Int) ≤ V.length ∧ (V.length : Int) ≤ 5))) : kE L V = 3 := by
  unfold kE; rw [if_pos h]
theorem kE_bad {V : List (List Int)} (h : ((1 : Int) ≤ L.length ∧ (L.length : Int) ≤ 6) ∧ ((1 : Int) ≤ V.length ∧ (V.length : Int) ≤ 5)) {n : Int} (hn : n ∈ L) (hb : vLn n = false) : kE L V = 1 := by
  unfold kE
  rw [if_neg (by omega), if_neg]
  intro ha
  simp only [Bool.and_eq_true] at ha
  rw [List.all_eq_true.1 ha.1 n hn] at hb; cases hb
theorem kE_row {V : List (List Int)} (h : ((1 : Int) ≤ L.length ∧ (L.length : Int) ≤ 6) ∧ ((1 : Int) ≤ V.length ∧ (V.length : Int) ≤ 5)) {r : List Int} (hr : r ∈ V) (hb : rOK L r = false) : kE L V = 1 := by
  unfold kE
  rw [if_neg (by omega), if_neg]
  intro ha
  simp only [Bool.and_eq_true] at ha
  rw [List.all_eq_true.1 ha.2 r hr] at hb; cases hb
theorem kE_ok {V : List (List Int)} (h : ((1 : Int) ≤ L.length ∧ (L.length : Int) ≤ 6) ∧ ((1 : Int) ≤ V.length ∧ (V.length : Int) ≤ 5)) (h1 : L.all vLn = true) (h2 : V.all (rOK L) = true) : kE L V = 0 := by
  unfold kE
  rw [if_neg (by omega), if_pos (by simp [h1, h2])]
theorem rOK_false {r : List Int} (h : ¬ (r.length = L.length ∧ (∀ y ∈ r, 0 ≤ y ∧ y ≤ 20) ∧ ∃ y ∈ r, y ≠ 0)) : rOK L r = false := by
  rw [← rOK_iff] at h; simpa using h
theorem s26 (hL : L1 A x L) (hV : LL A y ws) (hs : L.length ≤ 1000000) (hl : ws.length ≤ 1000000) (hw : ∀ w ∈ ws, w.2.length ≤ 1000000) : ACalls Try.prog 26 [.agg [x, y]] A (I (kE L (lists ws))) A := by
  refine acalls hmix Try.func26 (by kernel_rfl) t26 1 rfl (by decide) ?_
  dsimp only [m26]
  simp (maxSteps := 4000000) -implicitDefEqProofs -dsimp (disch := omega) only [↓AW_ops, ↓AW_seq, ↓AOps_nil, ↓AOps_pu, ↓AOps_call, on_some, ↓then_normal, pval, rd_S, rd_C, put_S, chkd, isAdr, bgot, AV.cells?, partA, eq_self, List.replicate_succ, List.replicate_zero, List.set_cons_zero, List.set_cons_succ, List.getElem?_cons_zero, List.getElem?_cons_succ, List.drop_zero, List.take_zero, List.take_succ_cons, Option.getD_some, map_c, map_n, List.length_cons, List.length_nil, Nat.reduceAdd, Nat.reduceSub, Nat.reduceLeDiff, Nat.zero_add, List.cons_append, List.nil_append, if_true, if_false, Bool.false_eq_true, hL.len]
  refine CallK.of (c_kw _ _ _ _) ?_
  have hll : ((lists ws).length : Int) = ws.length := by simp
  by_cases h1 : (1 : Int) ≤ L.length ∧ (L.length : Int) ≤ 6
  · simp (maxSteps := 4000000) -implicitDefEqProofs -dsimp (disch := omega) only [↓AOps_pu, ↓AOps_call, ↓AOps_guard, on_some, extK_same, guardB_ff, pval, rd_S, rd_C, put_S, chkd, isAdr, bgot, AV.cells?, partA, eq_self, List.replicate_succ, List.replicate_zero, List.set_cons_zero, List.set_cons_succ, List.getElem?_cons_zero, List.getElem?_cons_succ, List.drop_zero, List.drop_succ_cons, List.take_succ_cons, List.take_nil, Option.getD_some, map_c, map_n, List.length_cons, List.length_nil, Nat.reduceAdd, Nat.reduceSub, Nat.reduceLeDiff, Nat.zero_add, List.cons_append, List.nil_append, if_true, if_false, Bool.false_eq_true, Bool.not_true, decide_true, and_true, h1, hV.ls.len]
    refine CallK.of (c_kw _ _ _ _) ?_
    by_cases h2 : (1 : Int) ≤ ws.length ∧ (ws.length : Int) ≤ 5
    · have h12 : ((1 : Int) ≤ L.length ∧ (L.length : Int) ≤ 6) ∧ ((1 : Int) ≤ (lists ws).length ∧ ((lists ws).length : Int) ≤ 5) := ⟨h1, by omega⟩
      simp (maxSteps := 4000000) -implicitDefEqProofs -dsimp (disch := omega) only [↓AW_skip, ↓AW_ops, ↓AW_seq, ↓AW_cond, ↓AOps_nil, ↓AOps_pu, ↓AOps_call, ↓AOps_guard, on_some, extK_same, guardB_ff, condB_f, ↓then_normal, pval, rd_S, rd_C, put_S, chkd, isAdr, bgot, AV.cells?, partA, eq_self, List.replicate_succ, List.replicate_zero, List.set_cons_zero, List.set_cons_succ, List.getElem?_cons_zero, List.getElem?_cons_succ, List.drop_zero, List.take_zero, List.take_succ_cons, Option.getD_some, map_c, map_n, List.length_cons, List.length_nil, Nat.reduceAdd, Nat.reduceSub, Nat.reduceLeDiff, Nat.zero_add, List.cons_append, List.nil_append, if_true, if_false, Bool.false_eq_true, Bool.not_true, decide_true, and_true, h2]
      refine CallK.of (c_ContainsFunc hL hs 70 [] (fun n => !vLn n) (fun n _ => c_v1 n A)) ?_
      by_cases h3 : L.any (fun n => !vLn n) = true
      · simp (maxSteps := 4000000) -implicitDefEqProofs -dsimp (disch := omega) only [↓AW_ops, ↓AW_seq, ↓AW_cond, ↓AW_ret, ↓AOps_nil, ↓AOps_pu, on_some, extK_same, condB_t, ↓then_normal, ↓then_ret, ↓Fin_ret, pval, rd_S, rd_C, put_S, resV, resL, List.replicate_succ, List.replicate_zero, List.set_cons_zero, List.set_cons_succ, List.getElem?_cons_zero, List.getElem?_cons_succ, Option.getD_some, Nat.reduceSub, List.cons_append, List.nil_append, h3]
        obtain ⟨n, hn, hb⟩ := List.any_eq_true.1 h3
        exact gc_same (by rw [kE_bad h12 hn (by simpa using hb)])
      · have h3' : L.any (fun n => !vLn n) = false := by simpa using h3
        have hLa : L.all vLn = true := by
          rw [List.all_eq_true]; intro n hn
          have := List.any_eq_false.1 h3' n hn
          simpa using this
        simp (maxSteps := 4000000) -implicitDefEqProofs -dsimp (disch := omega) only [↓AW_skip, ↓AW_ops, ↓AW_seq, ↓AW_cond, ↓AW_block, ↓AOps_nil, ↓AOps_pu, on_some, extK_same, condB_f, ↓then_normal, pval, rd_S, rd_C, put_S, ↓AW_toLoop, chkd, isAdr, bgot, AV.cells?, partA, eq_self, List.replicate_succ, List.replicate_zero, List.set_cons_zero, List.set_cons_succ, List.getElem?_cons_zero, List.getElem?_cons_succ, List.drop_zero, List.drop_succ_cons, List.take_succ_cons, List.take_nil, Option.getD_some, List.length_cons, List.length_nil, Nat.reduceAdd, Nat.reduceSub, Nat.reduceLeDiff, Nat.zero_add, List.cons_append, List.nil_append, if_true, if_false, Bool.false_eq_true, h3', hV.ls.len]
        refine LoopK.by 43 (fun i : Nat => i ≤ ws.length ∧ ∀ w ∈ ws.take i, rOK L w.2 = true) (fun i => [(1, .agg [x, y]), (21, y), (22, I ws.length), (23, I i)]) (fun _ => A) (fun i => ws.length - i) 0 ⟨by omega, by simp⟩ rfl (by simp [Has, rd_s]) rfl ?_
        rintro i ⟨hi, he⟩
        by_cases hlt : i < ws.length
        · obtain ⟨w, hz⟩ : ∃ z, ws[i]? = some z := ⟨_, List.getElem?_eq_getElem hlt⟩
          have hlt' : (i : Int) < ws.length := by omega
          have hm := List.mem_of_getElem? hz
          have hwl := hw w hm
          have hx := hV.inn w hm
          by_cases h4 : (w.2.length : Int) = L.length
          · simp (maxSteps := 4000000) -implicitDefEqProofs -dsimp (disch := omega) only [↓AW_skip, ↓AW_ops, ↓AW_seq, ↓AW_cond, ↓AW_block, ↓AOps_nil, ↓AOps_pu, ↓AOps_ld, ↓AOps_call, ↓AOps_guard, on_some, guardB_ff, condB_t, ↓then_normal, pval, lval, rd_S, rd_C, put_S, chkd, isAdr, bgot, AV.cells?, partA, eq_self, mk, List.foldl_cons, List.foldl_nil, List.replicate_succ, List.replicate_zero, List.set_cons_zero, List.set_cons_succ, List.getElem?_cons_zero, List.getElem?_cons_succ, List.drop_zero, List.take_zero, List.take_succ_cons, List.take_nil, Option.getD_some, map_c, map_n, List.length_cons, List.length_nil, Nat.reduceAdd, Nat.reduceLeDiff, Nat.zero_add, bin_neq, bin_lss, if_true, if_false, Bool.false_eq_true, decide_true, decide_false, not_true_eq_false, hlt', hV.ls.idx hlt, hV.ls.ld0 hz 1 false (by decide), e0, hx.len, hL.len, h4]
            refine CallK.of (c_ContainsFunc hx hwl 71 [] (fun n => !vVl n) (fun n _ => c_v2 n A)) ?_
            by_cases h5 : w.2.any (fun n => !vVl n) = true
            · simp (maxSteps := 4000000) -implicitDefEqProofs -dsimp (disch := omega) only [↓AW_ops, ↓AW_seq, ↓AW_cond, ↓AW_ret, ↓AOps_nil, ↓AOps_pu, ↓AOps_guard, on_some, extK_same, guardB_tf, skipS_some, condB_t, ↓then_normal, ↓then_ret, ↓inBlock_ret, ↓Fin_ret, pval, rd_S, rd_C, put_S, resV, resL, eq_self, mk, List.foldl_cons, List.foldl_nil, List.replicate_succ, List.replicate_zero, List.set_cons_zero, List.set_cons_succ, List.getElem?_cons_zero, List.getElem?_cons_succ, Option.getD_some, if_true, if_false, Bool.false_eq_true, h5]
              obtain ⟨n, hn, hb⟩ := List.any_eq_true.1 h5
              refine gc_same ?_
              rw [kE_row h12 (mem_lists hm) (rOK_false (fun hh => ?_))]
              have := hh.2.1 n hn
              simp [vVl] at hb
              omega
            · have h5' : w.2.any (fun n => !vVl n) = false := by simpa using h5
              have hv : ∀ n ∈ w.2, 0 ≤ n ∧ n ≤ 20 := by
                intro n hn
                have := List.any_eq_false.1 h5' n hn
                simpa [vVl] using this
              have hne : w.2 ≠ [] := by intro e; rw [e] at h4; simp at h4; omega
              have hz0 := mxL_zero hne (fun n hn => (hv n hn).1)
              simp (maxSteps := 4000000) -implicitDefEqProofs -dsimp (disch := omega) only [↓AOps_pu, ↓AOps_call, ↓AOps_guard, on_some, extK_same, guardB_ff, pval, rd_S, rd_C, put_S, mk, List.foldl_cons, List.foldl_nil, List.replicate_succ, List.replicate_zero, List.set_cons_zero, List.set_cons_succ, List.getElem?_cons_zero, List.getElem?_cons_succ, Option.getD_some, map_c, map_n, if_false, Bool.false_eq_true, h5']
              refine CallK.of (c_Max hx (by omega) hwl) ?_
              by_cases h6 : mxL w.2 = 0
              · simp (maxSteps := 4000000) -implicitDefEqProofs -dsimp (disch := omega) only [↓AW_ops, ↓AW_seq, ↓AW_cond, ↓AW_ret, ↓AOps_nil, ↓AOps_pu, ↓AOps_guard, on_some, extK_same, guardB_ff, condB_t, ↓then_normal, ↓then_ret, ↓inBlock_ret, ↓Fin_ret, pval, rd_S, rd_C, put_S, resV, resL, eq_self, mk, List.foldl_cons, List.foldl_nil, List.replicate_succ, List.replicate_zero, List.set_cons_zero, List.set_cons_succ, List.getElem?_cons_zero, List.getElem?_cons_succ, Option.getD_some, bin_eql, if_false, Bool.false_eq_true, decide_true, h6]
                refine gc_same ?_
                rw [kE_row h12 (mem_lists hm) (rOK_false (fun hh => hz0.1 h6 hh.2.2))]
              · simp (maxSteps := 4000000) -implicitDefEqProofs -dsimp (disch := omega) only [↓AW_skip, ↓AW_ops, ↓AW_cond, ↓AOps_nil, ↓AOps_pu, ↓AOps_guard, on_some, extK_same, guardB_ff, condB_f, ↓then_normal, ↓inBlock_normal, pval, rd_S, rd_C, put_S, eq_self, mk, List.foldl_cons, List.foldl_nil, List.replicate_succ, List.replicate_zero, List.set_cons_zero, List.set_cons_succ, List.getElem?_cons_zero, List.getElem?_cons_succ, Option.getD_some, List.length_cons, List.length_nil, Nat.reduceAdd, Nat.zero_add, bin_add, bin_eql, w64, if_false, Bool.false_eq_true, decide_false, true_and, h6]
                refine ⟨i + 1, ⟨hlt, fun u hu => ?_⟩, by simp [Has, rd_s], by omega⟩
                rcases (take_mem hz).1 hu with hu | rfl
                · exact he u hu
                · exact rOK_iff.2 ⟨by omega, hv, Classical.byContradiction fun hn => h6 (hz0.2 hn)⟩
          · simp (maxSteps := 4000000) -implicitDefEqProofs -dsimp (disch := omega) only [↓AW_skip, ↓AW_ops, ↓AW_seq, ↓AW_cond, ↓AW_block, ↓AW_ret, ↓AOps_nil, ↓AOps_pu, ↓AOps_ld, ↓AOps_guard, on_some, guardB_tf, skipS_some, condB_t, ↓then_normal, ↓then_ret, ↓inBlock_ret, ↓Fin_ret, pval, lval, rd_S, rd_C, put_S, resV, resL, chkd, isAdr, bgot, AV.cells?, partA, eq_self, mk, List.foldl_cons, List.foldl_nil, List.replicate_succ, List.replicate_zero, List.set_cons_zero, List.set_cons_succ, List.getElem?_cons_zero, List.getElem?_cons_succ, List.drop_zero, List.take_zero, List.take_succ_cons, List.take_nil, Option.getD_some, List.length_cons, List.length_nil, Nat.reduceAdd, Nat.reduceLeDiff, Nat.zero_add, bin_neq, bin_lss, if_true, if_false, Bool.false_eq_true, decide_true, not_false_eq_true, hlt', hV.ls.idx hlt, hV.ls.ld0 hz 1 false (by decide), e0, hx.len, hL.len, h4]
            refine gc_same ?_
            rw [kE_row h12 (mem_lists hm) (rOK_false (fun hh => h4 (by omega)))]
        · have hlt' : ¬ ((i : Int) < ws.length) := by omega
          simp (maxSteps := 4000000) -implicitDefEqProofs -dsimp (disch := omega) only [↓AW_ops, ↓AW_seq, ↓AW_cond, ↓AW_exit, ↓AW_ret, ↓AOps_nil, ↓AOps_pu, on_some, condB_f, ↓then_normal, ↓then_exit, ↓inBlock_exit, ↓Fin_ret, pval, rd_S, rd_C, put_S, resV, resL, eq_self, mk, List.foldl_cons, List.foldl_nil, List.replicate_succ, List.replicate_zero, List.set_cons_zero, List.set_cons_succ, List.getElem?_cons_zero, List.getElem?_cons_succ, Option.getD_some, bin_lss, if_true, decide_false, hlt']
          rw [List.take_of_length_le (by omega)] at he
          refine gc_same ?_
          rw [kE_ok h12 hLa (List.all_eq_true.2 fun r hr => by obtain ⟨w, hw, rfl⟩ := List.mem_map.1 hr; exact he w hw)]
    · simp (maxSteps := 4000000) -implicitDefEqProofs -dsimp (disch := omega) only [↓AW_ops, ↓AW_seq, ↓AW_cond, ↓AW_ret, ↓AOps_nil, ↓AOps_pu, ↓AOps_guard, on_some, extK_same, guardB_ff, condB_t, ↓then_normal, ↓then_ret, ↓Fin_ret, pval, rd_S, rd_C, put_S, resV, resL, List.replicate_succ, List.replicate_zero, List.set_cons_zero, List.set_cons_succ, List.getElem?_cons_zero, List.getElem?_cons_succ, Option.getD_some, Nat.reduceSub, List.cons_append, List.nil_append, if_false, Bool.false_eq_true, Bool.not_false, decide_false, h2]
      exact gc_same (by rw [kE_large (by omega)])
  · simp (maxSteps := 4000000) -implicitDefEqProofs -dsimp (disch := omega) only [↓AW_ops, ↓AW_seq, ↓AW_cond, ↓AW_ret, ↓AOps_nil, ↓AOps_pu, ↓AOps_guard, on_some, extK_same, guardB_tf, skipS_some, condB_t, ↓then_normal, ↓then_ret, ↓Fin_ret, pval, rd_S, rd_C, put_S, resV, resL, eq_self, List.replicate_succ, List.replicate_zero, List.set_cons_zero, List.set_cons_succ, List.getElem?_cons_zero, List.getElem?_cons_succ, Option.getD_some, Nat.reduceSub, List.cons_append, List.nil_append, if_true, Bool.not_false, decide_false, h1]
    exact gc_same (by rw [kE_large (by omega)])
theorem sum_zero {l : List Int} (h : ∀ n ∈ l, 0 ≤ n) : l.sum = 0 ↔ ¬ ∃ n ∈ l, n ≠ 0 := by
  induction l with
  | nil => simp
  | cons a l ih =>
    have ih := ih (fun n hn => h n (by simp [hn]))
    have ha := h a (by simp)
    have hs : 0 ≤ l.sum := by
      have : ∀ l : List Int, (∀ y ∈ l, 0 ≤ y) → 0 ≤ l.sum := by
        intro l
        induction l with
        | nil => intro _; simp
        | cons a l ih =>
          intro h
          have h1 := ih (fun y hy => h y (by simp [hy]))
          have h2 := h a (by simp)
          simp only [List.sum_cons]
          omega
      exact this l (fun n hn => h n (by simp [hn]))
    rw [List.sum_cons]
    constructor
    · rintro h1 ⟨n, hn, h2⟩
      rcases List.mem_cons.1 hn with rfl | hn
      · omega
      · exact ih.1 (by omega) ⟨n, hn, h2⟩
    · intro h1
      have h2 : a = 0 := Classical.byContradiction fun hn => h1 ⟨a, by simp, hn⟩
      have h3 := ih.2 (fun ⟨n, hn, h4⟩ => h1 ⟨n, by simp [hn], h4⟩)
      omega
theorem s27 (hL : L1 A x L) (hV : LL A y ws) (hs : L.length ≤ 1000000) (hl : ws.length ≤ 1000000) (hw : ∀ w ∈ ws, w.2.length ≤ 1000000) : ACalls Try.prog 27 [.agg [x, y]] A (I (kE L (lists ws))) A := by
  refine acalls hmix Try.func27 (by kernel_rfl) t27 1 rfl (by decide) ?_
  dsimp only [m27]
  simp (maxSteps := 4000000) -implicitDefEqProofs -dsimp (disch := omega) only [↓AW_ops, ↓AW_seq, ↓AOps_nil, ↓AOps_pu, ↓AOps_call, on_some, ↓then_normal, pval, rd_S, rd_C, put_S, chkd, isAdr, bgot, AV.cells?, partA, eq_self, List.replicate_succ, List.replicate_zero, List.set_cons_zero, List.set_cons_succ, List.getElem?_cons_zero, List.getElem?_cons_succ, List.drop_zero, List.take_zero, List.take_succ_cons, Option.getD_some, map_c, map_n, List.length_cons, List.length_nil, Nat.reduceAdd, Nat.reduceSub, Nat.reduceLeDiff, Nat.zero_add, List.cons_append, List.nil_append, if_true, if_false, Bool.false_eq_true, hL.len]
  refine CallK.of (c_rw _ _ _ _) ?_
  have hll : ((lists ws).length : Int) = ws.length := by simp
  by_cases h1 : (1 : Int) ≤ L.length ∧ (L.length : Int) ≤ 6
  · simp (maxSteps := 4000000) -implicitDefEqProofs -dsimp (disch := omega) only [↓AOps_pu, ↓AOps_call, ↓AOps_guard, on_some, extK_same, guardB_ff, pval, rd_S, rd_C, put_S, chkd, isAdr, bgot, AV.cells?, partA, eq_self, List.replicate_succ, List.replicate_zero, List.set_cons_zero, List.set_cons_succ, List.getElem?_cons_zero, List.getElem?_cons_succ, List.drop_zero, List.drop_succ_cons, List.take_succ_cons, List.take_nil, Option.getD_some, map_c, map_n, List.length_cons, List.length_nil, Nat.reduceAdd, Nat.reduceSub, Nat.reduceLeDiff, Nat.zero_add, List.cons_append, List.nil_append, if_true, if_false, Bool.false_eq_true, Bool.not_true, decide_true, and_true, h1, hV.ls.len]
    refine CallK.of (c_rw _ _ _ _) ?_
    by_cases h2 : (1 : Int) ≤ ws.length ∧ (ws.length : Int) ≤ 5
    · have h12 : ((1 : Int) ≤ L.length ∧ (L.length : Int) ≤ 6) ∧ ((1 : Int) ≤ (lists ws).length ∧ ((lists ws).length : Int) ≤ 5) := ⟨h1, by omega⟩
      simp (maxSteps := 4000000) -implicitDefEqProofs -dsimp (disch := omega) only [↓AW_skip, ↓AW_ops, ↓AW_seq, ↓AW_cond, ↓AW_block, ↓AOps_nil, ↓AOps_pu, ↓AOps_guard, on_some, extK_same, guardB_ff, condB_f, ↓then_normal, pval, rd_S, rd_C, put_S, ↓AW_toLoop, List.replicate_succ, List.replicate_zero, List.set_cons_zero, List.set_cons_succ, List.getElem?_cons_zero, List.getElem?_cons_succ, Option.getD_some, Nat.reduceSub, List.cons_append, List.nil_append, if_false, Bool.false_eq_true, Bool.not_true, decide_true, and_true, h2]
      refine LoopK.by 79 (fun i : Nat => i ≤ L.length ∧ ∀ n ∈ L.take i, vLn n = true) (fun i => [(1, .agg [x, y]), (3, I i)]) (fun _ => A) (fun i => L.length - i) 0 ⟨by omega, by simp⟩ rfl (by simp [Has, rd_s]) rfl ?_
      rintro i ⟨hi, he⟩
      by_cases hlt : i < L.length
      · obtain ⟨n, hz⟩ : ∃ z, L[i]? = some z := ⟨_, List.getElem?_eq_getElem hlt⟩
        have hlt' : (i : Int) < L.length := by omega
        have hm := List.mem_of_getElem? hz
        simp (maxSteps := 4000000) -implicitDefEqProofs -dsimp (disch := omega) only [↓AW_skip, ↓AW_ops, ↓AW_seq, ↓AW_cond, ↓AW_block, ↓AOps_nil, ↓AOps_pu, ↓AOps_ld, ↓AOps_call, on_some, condB_t, ↓then_normal, pval, lval, rd_S, rd_C, put_S, chkd, isAdr, bgot, AV.cells?, partA, eq_self, mk, List.foldl_cons, List.foldl_nil, List.replicate_succ, List.replicate_zero, List.set_cons_zero, List.set_cons_succ, List.getElem?_cons_zero, List.getElem?_cons_succ, List.drop_zero, List.take_zero, List.take_succ_cons, List.take_nil, Option.getD_some, map_c, map_n, List.length_cons, List.length_nil, Nat.reduceAdd, Nat.reduceLeDiff, Nat.zero_add, bin_lss, if_true, if_false, Bool.false_eq_true, decide_true, Go.Eng.e1, hlt', hL.len, hL.idx hlt, hL.ld0 hz 1 false (by decide)]
        refine CallK.of (c_rw _ _ _ _) ?_
        by_cases h3 : (1 : Int) ≤ n ∧ n ≤ 20
        · simp (maxSteps := 4000000) -implicitDefEqProofs -dsimp (disch := omega) only [↓AW_skip, ↓AW_ops, ↓AW_cond, ↓AOps_nil, ↓AOps_pu, on_some, extK_same, condB_f, ↓then_normal, ↓inBlock_normal, pval, rd_S, rd_C, put_S, eq_self, mk, List.foldl_cons, List.foldl_nil, List.replicate_succ, List.replicate_zero, List.set_cons_zero, List.set_cons_succ, List.getElem?_cons_zero, List.getElem?_cons_succ, Option.getD_some, List.length_cons, List.length_nil, Nat.reduceAdd, Nat.zero_add, bin_add, w64, Bool.not_true, decide_true, true_and, and_true, h3]
          refine ⟨i + 1, ⟨hlt, fun u hu => ?_⟩, by simp [Has, rd_s], by omega⟩
          rcases (take_mem hz).1 hu with hu | rfl
          · exact he u hu
          · simpa [vLn] using h3
        · simp (maxSteps := 4000000) -implicitDefEqProofs -dsimp (disch := omega) only [↓AW_ops, ↓AW_seq, ↓AW_cond, ↓AW_ret, ↓AOps_nil, ↓AOps_pu, on_some, extK_same, condB_t, ↓then_normal, ↓then_ret, ↓inBlock_ret, ↓Fin_ret, pval, rd_S, rd_C, put_S, resV, resL, mk, List.foldl_cons, List.foldl_nil, List.replicate_succ, List.replicate_zero, List.set_cons_zero, List.set_cons_succ, List.getElem?_cons_zero, List.getElem?_cons_succ, Option.getD_some, Bool.not_false, decide_false, h3]
          exact gc_same (by rw [kE_bad h12 hm (by simp only [vLn, decide_eq_false_iff_not]; exact h3)])
      · have hlt' : ¬ ((i : Int) < L.length) := by omega
        rw [List.take_of_length_le (by omega)] at he
        simp (maxSteps := 4000000) -implicitDefEqProofs -dsimp (disch := omega) only [↓AW_ops, ↓AW_seq, ↓AW_cond, ↓AW_block, ↓AW_exit, ↓AOps_nil, ↓AOps_pu, on_some, condB_f, ↓then_normal, ↓then_exit, ↓inBlock_exit, pval, rd_S, rd_C, put_S, ↓AW_toLoop, chkd, isAdr, bgot, AV.cells?, partA, eq_self, mk, List.foldl_cons, List.foldl_nil, List.replicate_succ, List.replicate_zero, List.set_cons_zero, List.set_cons_succ, List.getElem?_cons_zero, List.getElem?_cons_succ, List.drop_zero, List.take_zero, List.take_succ_cons, Option.getD_some, List.length_cons, List.length_nil, Nat.reduceAdd, Nat.reduceLeDiff, Nat.zero_add, bin_lss, if_true, if_false, Bool.false_eq_true, decide_false, hlt', hL.len]
        refine LoopK.by 79 (fun i : Nat => i ≤ ws.length ∧ ∀ w ∈ ws.take i, rOK L w.2 = true) (fun i => [(1, .agg [x, y]), (4, I i)]) (fun _ => A) (fun i => ws.length - i) 0 ⟨by omega, by simp⟩ rfl (by simp [Has, rd_s]) rfl ?_
        rintro o ⟨ho, he2⟩
        by_cases hlt : o < ws.length
        · obtain ⟨w, hz⟩ : ∃ z, ws[o]? = some z := ⟨_, List.getElem?_eq_getElem hlt⟩
          have hlt' : (o : Int) < ws.length := by omega
          have hm := List.mem_of_getElem? hz
          have hwl := hw w hm
          have hx := hV.inn w hm
          by_cases h4 : (w.2.length : Int) = L.length
          · simp (maxSteps := 4000000) -implicitDefEqProofs -dsimp (disch := omega) only [↓AW_skip, ↓AW_ops, ↓AW_seq, ↓AW_cond, ↓AW_block, ↓AOps_nil, ↓AOps_pu, ↓AOps_ld, on_some, condB_t, condB_f, ↓then_normal, pval, lval, rd_S, rd_C, put_S, ↓AW_toLoop, chkd, isAdr, bgot, AV.cells?, partA, eq_self, mk, List.foldl_cons, List.foldl_nil, List.replicate_succ, List.replicate_zero, List.set_cons_zero, List.set_cons_succ, List.getElem?_cons_zero, List.getElem?_cons_succ, List.drop_zero, List.drop_succ_cons, List.take_zero, List.take_succ_cons, List.take_nil, Option.getD_some, List.length_cons, List.length_nil, Nat.reduceAdd, Nat.reduceLeDiff, Nat.zero_add, bin_neq, bin_lss, if_true, if_false, Bool.false_eq_true, decide_true, decide_false, not_true_eq_false, hlt', hV.ls.len, hV.ls.idx hlt, hV.ls.ld0 hz 1 false (by decide), e0, hx.len, hL.len, h4]
            refine LoopK.by 79 (fun k : Nat => k ≤ L.length ∧ ∀ n ∈ w.2.take k, 0 ≤ n ∧ n ≤ 20) (fun k => [(1, .agg [x, y]), (4, I o), (5, I (w.2.take k).sum), (6, I k)]) (fun _ => A) (fun k => L.length - k) 0 ⟨by omega, by simp⟩ rfl (by simp [Has, rd_s]) rfl ?_
            rintro k ⟨hk, hv⟩
            have hsb := sumB hv
            rw [List.length_take] at hsb
            by_cases hltk : k < L.length
            · have hltw : k < w.2.length := by omega
              obtain ⟨n, hn⟩ : ∃ n, w.2[k]? = some n := ⟨_, List.getElem?_eq_getElem hltw⟩
              have hltk' : (k : Int) < L.length := by omega
              simp (maxSteps := 4000000) -implicitDefEqProofs -dsimp (disch := omega) only [↓AW_skip, ↓AW_ops, ↓AW_seq, ↓AW_cond, ↓AW_block, ↓AOps_nil, ↓AOps_pu, ↓AOps_ld, ↓AOps_call, on_some, condB_t, ↓then_normal, pval, lval, rd_S, rd_C, put_S, chkd, isAdr, bgot, AV.cells?, partA, eq_self, mk, List.foldl_cons, List.foldl_nil, List.replicate_succ, List.replicate_zero, List.set_cons_zero, List.set_cons_succ, List.getElem?_cons_zero, List.getElem?_cons_succ, List.drop_zero, List.drop_succ_cons, List.take_zero, List.take_succ_cons, List.take_nil, Option.getD_some, map_c, map_n, List.length_cons, List.length_nil, Nat.reduceAdd, Nat.reduceLeDiff, Nat.zero_add, bin_lss, if_true, if_false, Bool.false_eq_true, decide_true, Go.Eng.e1, hltk', hL.len, hV.ls.idx hlt, hV.ls.ld0 hz 1 false (by decide), e0, hx.idx hltw, hx.ld0 hn 1 false (by decide)]
              refine CallK.of (c_rw _ _ _ _) ?_
              by_cases h5 : (0 : Int) ≤ n ∧ n ≤ 20
              · simp (maxSteps := 4000000) -implicitDefEqProofs -dsimp (disch := omega) only [↓AW_skip, ↓AW_ops, ↓AW_cond, ↓AOps_nil, ↓AOps_pu, ↓AOps_ld, on_some, extK_same, condB_f, ↓then_normal, ↓inBlock_normal, pval, lval, rd_S, rd_C, put_S, chkd, isAdr, bgot, AV.cells?, partA, eq_self, mk, List.foldl_cons, List.foldl_nil, List.replicate_succ, List.replicate_zero, List.set_cons_zero, List.set_cons_succ, List.getElem?_cons_zero, List.getElem?_cons_succ, List.drop_zero, List.drop_succ_cons, List.take_succ_cons, List.take_nil, Option.getD_some, List.length_cons, List.length_nil, Nat.reduceAdd, Nat.reduceLeDiff, Nat.zero_add, bin_add, w64, if_true, if_false, Bool.false_eq_true, Bool.not_true, decide_true, Go.Eng.e1, true_and, and_true, h5, hV.ls.idx hlt, hV.ls.ld0 hz 1 false (by decide), e0, hx.idx hltw, hx.ld0 hn 1 false (by decide)]
                refine ⟨k + 1, ⟨hltk, fun u hu => ?_⟩, by simp [Has, rd_s, take_sum_succ' hn], by omega⟩
                rcases (take_mem hn).1 hu with hu | rfl
                · exact hv u hu
                · exact h5
              · simp (maxSteps := 4000000) -implicitDefEqProofs -dsimp (disch := omega) only [↓AW_ops, ↓AW_seq, ↓AW_cond, ↓AW_ret, ↓AOps_nil, ↓AOps_pu, on_some, extK_same, condB_t, ↓then_normal, ↓then_ret, ↓inBlock_ret, ↓Fin_ret, pval, rd_S, rd_C, put_S, resV, resL, mk, List.foldl_cons, List.foldl_nil, List.replicate_succ, List.replicate_zero, List.set_cons_zero, List.set_cons_succ, List.getElem?_cons_zero, List.getElem?_cons_succ, Option.getD_some, Bool.not_false, decide_false, h5]
                exact gc_same (by rw [kE_row h12 (mem_lists hm) (rOK_false (fun hh => h5 (hh.2.1 n (List.mem_of_getElem? hn))))])
            · have hltk' : ¬ ((k : Int) < L.length) := by omega
              rw [List.take_of_length_le (by omega)] at hv hsb
              have hsz := sum_zero (fun n hn => (hv n hn).1)
              have htk : w.2.take k = w.2 := List.take_of_length_le (by omega)
              by_cases h6 : w.2.sum = 0
              · simp (maxSteps := 4000000) -implicitDefEqProofs -dsimp (disch := omega) only [↓AW_ops, ↓AW_seq, ↓AW_cond, ↓AW_exit, ↓AW_ret, ↓AOps_nil, ↓AOps_pu, on_some, condB_t, condB_f, ↓then_normal, ↓then_exit, ↓then_ret, ↓inBlock_exit, ↓inBlock_ret, ↓Fin_ret, pval, rd_S, rd_C, put_S, resV, resL, chkd, isAdr, bgot, AV.cells?, partA, eq_self, mk, List.foldl_cons, List.foldl_nil, List.replicate_succ, List.replicate_zero, List.set_cons_zero, List.set_cons_succ, List.getElem?_cons_zero, List.getElem?_cons_succ, List.drop_zero, List.take_zero, List.take_succ_cons, Option.getD_some, List.length_cons, List.length_nil, Nat.reduceAdd, Nat.reduceLeDiff, Nat.reduceEqDiff, Nat.zero_add, bin_add, bin_eql, bin_lss, w64, if_true, if_false, Bool.false_eq_true, decide_true, decide_false, true_and, hltk', hL.len, htk, h6]
                exact gc_same (by rw [kE_row h12 (mem_lists hm) (rOK_false (fun hh => hsz.1 h6 hh.2.2))])
              · simp (maxSteps := 4000000) -implicitDefEqProofs -dsimp (disch := omega) only [↓AW_skip, ↓AW_ops, ↓AW_seq, ↓AW_cond, ↓AW_exit, ↓AW_ret, ↓AOps_nil, ↓AOps_pu, on_some, condB_f, ↓then_normal, ↓then_exit, ↓inBlock_normal, ↓inBlock_exit, ↓Fin_ret, pval, rd_S, rd_C, put_S, resV, resL, chkd, isAdr, bgot, AV.cells?, partA, eq_self, mk, List.foldl_cons, List.foldl_nil, List.replicate_succ, List.replicate_zero, List.set_cons_zero, List.set_cons_succ, List.getElem?_cons_zero, List.getElem?_cons_succ, List.drop_zero, List.take_zero, List.take_succ_cons, Option.getD_some, List.length_cons, List.length_nil, Nat.reduceAdd, Nat.reduceLeDiff, Nat.reduceEqDiff, Nat.zero_add, bin_add, bin_eql, bin_lss, w64, if_true, if_false, Bool.false_eq_true, decide_false, true_and, hltk', hL.len, htk, h6]
                refine ⟨o + 1, ⟨hlt, fun u hu => ?_⟩, by simp [Has, rd_s], by omega⟩
                rcases (take_mem hz).1 hu with hu | rfl
                · exact he2 u hu
                · exact rOK_iff.2 ⟨by omega, hv, Classical.byContradiction fun hn => h6 (hsz.2 hn)⟩
          · simp (maxSteps := 4000000) -implicitDefEqProofs -dsimp (disch := omega) only [↓AW_skip, ↓AW_ops, ↓AW_seq, ↓AW_cond, ↓AW_block, ↓AW_ret, ↓AOps_nil, ↓AOps_pu, ↓AOps_ld, on_some, condB_t, ↓then_normal, ↓then_ret, ↓inBlock_ret, ↓Fin_ret, pval, lval, rd_S, rd_C, put_S, resV, resL, chkd, isAdr, bgot, AV.cells?, partA, eq_self, mk, List.foldl_cons, List.foldl_nil, List.replicate_succ, List.replicate_zero, List.set_cons_zero, List.set_cons_succ, List.getElem?_cons_zero, List.getElem?_cons_succ, List.drop_zero, List.drop_succ_cons, List.take_zero, List.take_succ_cons, List.take_nil, Option.getD_some, List.length_cons, List.length_nil, Nat.reduceAdd, Nat.reduceLeDiff, Nat.zero_add, bin_neq, bin_lss, if_true, if_false, Bool.false_eq_true, decide_true, not_false_eq_true, hlt', hV.ls.len, hV.ls.idx hlt, hV.ls.ld0 hz 1 false (by decide), e0, hx.len, hL.len, h4]
            refine gc_same ?_
            rw [kE_row h12 (mem_lists hm) (rOK_false (fun hh => h4 (by omega)))]
        · have hlt' : ¬ ((o : Int) < ws.length) := by omega
          simp (maxSteps := 4000000) -implicitDefEqProofs -dsimp (disch := omega) only [↓AW_ops, ↓AW_seq, ↓AW_cond, ↓AW_exit, ↓AW_ret, ↓AOps_nil, ↓AOps_pu, on_some, condB_f, ↓then_normal, ↓then_exit, ↓inBlock_exit, ↓Fin_ret, pval, rd_S, rd_C, put_S, resV, resL, chkd, isAdr, bgot, AV.cells?, partA, eq_self, mk, List.foldl_cons, List.foldl_nil, List.replicate_succ, List.replicate_zero, List.set_cons_zero, List.set_cons_succ, List.getElem?_cons_zero, List.getElem?_cons_succ, List.drop_zero, List.drop_succ_cons, List.take_succ_cons, List.take_nil, Option.getD_some, List.length_cons, List.length_nil, Nat.reduceAdd, Nat.reduceLeDiff, Nat.zero_add, bin_lss, if_true, if_false, Bool.false_eq_true, decide_false, hlt', hV.ls.len]
          rw [List.take_of_length_le (by omega)] at he2
          refine gc_same ?_
          rw [kE_ok h12 (List.all_eq_true.2 he) (List.all_eq_true.2 fun r hr => by obtain ⟨w, hw, rfl⟩ := List.mem_map.1 hr; exact he2 w hw)]
    · simp (maxSteps := 4000000) -implicitDefEqProofs -dsimp (disch := omega) only [↓AW_ops, ↓AW_seq, ↓AW_cond, ↓AW_ret, ↓AOps_nil, ↓AOps_pu, ↓AOps_guard, on_some, extK_same, guardB_ff, condB_t, ↓then_normal, ↓then_ret, ↓Fin_ret, pval, rd_S, rd_C, put_S, resV, resL, List.replicate_succ, List.replicate_zero, List.set_cons_zero, List.set_cons_succ, List.getElem?_cons_zero, List.getElem?_cons_succ, Option.getD_some, Nat.reduceSub, List.cons_append, List.nil_append, if_false, Bool.false_eq_true, Bool.not_false, decide_false, h2]
      exact gc_same (by rw [kE_large (by omega)])
  · simp (maxSteps := 4000000) -implicitDefEqProofs -dsimp (disch := omega) only [↓AW_ops, ↓AW_seq, ↓AW_cond, ↓AW_ret, ↓AOps_nil, ↓AOps_pu, ↓AOps_guard, on_some, extK_same, guardB_tf, skipS_some, condB_t, ↓then_normal, ↓then_ret, ↓Fin_ret, pval, rd_S, rd_C, put_S, resV, resL, eq_self, List.replicate_succ, List.replicate_zero, List.set_cons_zero, List.set_cons_succ, List.getElem?_cons_zero, List.getElem?_cons_succ, Option.getD_some, Nat.reduceSub, List.cons_append, List.nil_append, if_true, Bool.not_false, decide_false, h1]
    exact gc_same (by rw [kE_large (by omega)])
end
end Go.Proofs.Ytmblehbjedpjoaa

namespace Go.Proofs.Ytmblehbjedpjoaa
open Go Go.Eng
theorem e0_len (x : AV × List Int) : (e0 x).length = 1 := rfl
/-- Where the rows of a list of lists stand: each in an object of its own that the call has made, with more cells behind. -/
structure NR (A H : AHeap) (u : AV) (x : AV × List Int) : Prop where
  row : (x.1 = .nilS ∧ x.2 = []) ∨ ∃ n full cs, x.1 = .sl 1 n 0 x.2.length full ∧ A.length ≤ n ∧ H[n]? = some (.cells true (x.2.flatMap e1 ++ cs)) ∧ nm u ≠ n
theorem NR.l1 {A H : AHeap} {u : AV} {x : AV × List Int} (h : NR A H u x) : L1 H x.1 x.2 := by
  rcases h.row with ⟨h1, h2⟩ | ⟨n, full, cs, h1, _, h3, _⟩
  · rw [h1, h2]; exact L1_nil _
  · rw [h1]
    refine ⟨e1_len, ?_⟩
    have hl := flatMap_length e1_len x.2
    simp only [slCells, cellsAt, h3, if_true, Nat.zero_add]
    rw [if_pos (by rw [List.length_append]; omega)]
    simp only [List.drop_zero, Option.map_some, Option.some.injEq, Prod.mk.injEq, true_and]
    rw [← hl, List.take_left]
/-- Rows stand in different objects. -/
def Apart (ws : List (AV × List Int)) : Prop := ws.Pairwise (fun x y => x.1 = .nilS ∨ y.1 = .nilS ∨ nm x.1 ≠ nm y.1)
/-- A list of lists that the call has made. -/
structure NL (A H : AHeap) (u : AV) (ws : List (AV × List Int)) : Prop where
  acc : AccL 1 e0 A H u ws
  rows : ∀ x ∈ ws, NR A H u x
  apart : Apart ws
theorem NL.ll {A H : AHeap} {u : AV} {ws : List (AV × List Int)} (h : NL A H u ws) : LL H u ws := ⟨AccL_ls h.acc e0_len, fun x hx => (h.rows x hx).l1⟩
theorem NL.nil {A H : AHeap} (h : A <+: H) : NL A H .nilS [] := ⟨AccL.nil h, by simp, List.Pairwise.nil⟩
/-- One row more. -/
theorem NL.push {A H : AHeap} {u : AV} {ws : List (AV × List Int)} (h : NL A H u ws) (x : AV × List Int) (hx : (x.1 = .nilS ∧ x.2 = [] ∧ True) ∨ ∃ n full cs, x.1 = .sl 1 n 0 x.2.length full ∧ A.length ≤ n ∧ H[n]? = some (.cells true (x.2.flatMap e1 ++ cs)) ∧ nm u ≠ n ∧ ∀ y ∈ ws, y.1 = .nilS ∨ nm y.1 ≠ n) (hl : ws.length + 1 ≤ lim) :
    ∃ v' H2, appA 1 (H ++ [.cells true [x.1]]) u (.sl 1 H.length 0 1 true) = some (v', H2) ∧ NL A H2 v' (ws ++ [x]) := by
  obtain ⟨v', H2, h1, h2, h3, n', len', h4, h5⟩ := AccL_push2 h.acc e0_len (by omega) x hl
  have hold : ∀ (y : AV × List Int), NR A H u y → NR A H2 v' y := by
    intro y hy
    refine ⟨?_⟩
    rcases hy.row with h6 | ⟨n, full, cs, g1, g2, g3, g4⟩
    · exact .inl h6
    · have hn := (List.getElem?_eq_some_iff.1 g3).1
      refine .inr ⟨n, full, cs, g1, g2, h3 n _ g3 (fun k len hk hnk => ?_), ?_⟩
      · rw [hk] at g4; exact g4 hnk.symm
      · rw [h4]; simp only [nm]; omega
  have hxr : NR A H u x := by
    refine ⟨?_⟩
    rcases hx with ⟨a, b, _⟩ | ⟨n, full, cs, g1, g2, g3, g4, _⟩
    · exact .inl ⟨a, b⟩
    · exact .inr ⟨n, full, cs, g1, g2, g3, g4⟩
  refine ⟨v', H2, h1, h2, fun y hy => ?_, ?_⟩
  · rcases List.mem_append.1 hy with hy | hy
    · exact hold y (h.rows y hy)
    · have : y = x := by simpa using hy
      rw [this]; exact hold x hxr
  · unfold Apart
    rw [List.pairwise_append]
    refine ⟨h.apart, by simp, fun a ha b hb => ?_⟩
    have : b = x := by simpa using hb
    subst this
    rcases hx with ⟨g1, _⟩ | ⟨n, full, cs, g1, _, _, _, g5⟩
    · exact .inr (.inl g1)
    · rcases g5 a ha with g | g
      · exact .inl g
      · refine .inr (.inr ?_)
        rw [g1]; exact g
theorem NL.mono {A H H' : AHeap} {u : AV} {ws : List (AV × List Int)} (h : NL A H u ws) (hp : H <+: H') : NL A H' u ws := by
  refine ⟨h.acc.mono hp, fun x hx => ⟨?_⟩, h.apart⟩
  rcases (h.rows x hx).row with h6 | ⟨n, full, cs, g1, g2, g3, g4⟩
  · exact .inl h6
  · exact .inr ⟨n, full, cs, g1, g2, pre_get hp g3, g4⟩
theorem NL.lt {A H : AHeap} {u : AV} {ws : List (AV × List Int)} (h : NL A H u ws) : (∀ y ∈ ws, y.1 = .nilS ∨ nm y.1 < H.length) ∧ (ws = [] ∨ nm u < H.length) := by
  refine ⟨fun y hy => ?_, ?_⟩
  · rcases (h.rows y hy).row with ⟨h6, _⟩ | ⟨n, full, cs, g1, g2, g3, g4⟩
    · exact .inl h6
    · right; rw [g1]; exact (List.getElem?_eq_some_iff.1 g3).1
  · rcases h.acc.2.2 with ⟨h3, _⟩ | ⟨h3, n, h4, h5, h6⟩
    · exact .inl (List.eq_nil_of_length_eq_zero h3)
    · right; rw [h4]; exact (List.getElem?_eq_some_iff.1 h6).1
theorem NL.base {A0 A H : AHeap} {u : AV} {ws : List (AV × List Int)} (hp : A0 <+: A) (h : NL A H u ws) : NL A0 H u ws := by
  refine ⟨AccL_base0 hp h.acc, fun x hx => ⟨?_⟩, h.apart⟩
  rcases (h.rows x hx).row with h6 | ⟨n, full, cs, g1, g2, g3, g4⟩
  · exact .inl h6
  · exact .inr ⟨n, full, cs, g1, Nat.le_trans hp.length_le g2, g3, g4⟩
theorem Ls_cells {α : Type} {es : Nat} {e : α → List AV} {A : AHeap} {u : AV} {xs : List α} (h : Ls es e A u xs) : u.cells? = some [u] := by
  rcases h.inv with ⟨rfl, _⟩ | ⟨n, off, full, rw, l, rfl, _⟩ <;> rfl
theorem nm_ne_nil {A H : AHeap} {u : AV} {ws : List (AV × List Int)} (h : NL A H u ws) {n : Nat} (hn : H.length ≤ n) (hu : 0 < A.length) : nm u ≠ n := by
  rcases h.acc.2.2 with ⟨_, h4⟩ | ⟨_, m, h4, _, h6⟩
  · rw [h4]; simp only [nm]
    have := h.acc.1.length_le
    omega
  · rw [h4]; have := (List.getElem?_eq_some_iff.1 h6).1; simp only [nm]; omega
theorem splice_more {a c cs : List AV} {off : Nat} (h : off + c.length ≤ a.length) : splice (a ++ cs) off c = splice a off c ++ cs := by
  unfold splice
  rw [List.take_append_of_le_length (by omega), List.drop_append_of_le_length h]
  simp only [List.append_assoc]
theorem flat0 (ws : List (AV × List Int)) : ws.flatMap e0 = ws.map Prod.fst := by
  induction ws with
  | nil => rfl
  | cons x r ih => rw [List.flatMap_cons, ih]; rfl
theorem fst_set {ws : List (AV × List Int)} {i : Nat} {x : AV × List Int} (hz : ws[i]? = some x) (l : List Int) : (ws.set i (x.1, l)).map Prod.fst = ws.map Prod.fst := by
  apply List.ext_getElem?
  intro j
  rw [List.getElem?_map, List.getElem?_map, List.getElem?_set]
  by_cases hij : i = j
  · subst hij
    have := (List.getElem?_eq_some_iff.1 hz).1
    rw [if_pos rfl, if_pos this, hz]; rfl
  · rw [if_neg hij]
theorem Apart_fst {ws vs : List (AV × List Int)} (h : ws.map Prod.fst = vs.map Prod.fst) (ha : Apart vs) : Apart ws := by
  unfold Apart at *
  have h1 := (List.pairwise_map (f := Prod.fst) (R := fun a b : AV => a = .nilS ∨ b = .nilS ∨ nm a ≠ nm b) (l := vs)).2 ha
  rw [← h] at h1
  exact List.pairwise_map.1 h1
theorem Apart_ne {ws : List (AV × List Int)} (h : Apart ws) {i j : Nat} {x y : AV × List Int} (hi : ws[i]? = some x) (hj : ws[j]? = some y) (hij : i ≠ j) : x.1 = .nilS ∨ y.1 = .nilS ∨ nm x.1 ≠ nm y.1 := by
  obtain ⟨h1, rfl⟩ := List.getElem?_eq_some_iff.1 hi
  obtain ⟨h2, rfl⟩ := List.getElem?_eq_some_iff.1 hj
  rcases Nat.lt_or_gt_of_ne hij with h3 | h3
  · exact List.pairwise_iff_getElem.1 h i j h1 h2 h3
  · rcases List.pairwise_iff_getElem.1 h j i h2 h1 h3 with h4 | h4 | h4
    · exact .inr (.inl h4)
    · exact .inl h4
    · exact .inr (.inr (Ne.symm h4))
/-- A number of a row is written. -/
theorem NL.st {A H : AHeap} {u : AV} {ws : List (AV × List Int)} (h : NL A H u ws) {i : Nat} {x : AV × List Int} (hz : ws[i]? = some x) {k : Nat} (hk : k < x.2.length) (q : Int) :
    ∃ H2, stA 1 (.ptr (nm x.1) (of x.1 + k * 1)) (I q) H = some H2 ∧ NL A H2 u (ws.set i (x.1, x.2.set k q)) := by
  rcases (h.rows x (List.mem_of_getElem? hz)).row with ⟨_, h2⟩ | ⟨n, full, cs, g1, g2, g3, g4⟩
  · rw [h2] at hk; simp at hk
  · have hil := (List.getElem?_eq_some_iff.1 hz).1
    have hnl := (List.getElem?_eq_some_iff.1 g3).1
    have hfl := flatMap_length e1_len x.2
    have hsp : splice (x.2.flatMap e1 ++ cs) (k * 1) (e1 q) = (x.2.set k q).flatMap e1 ++ cs := by
      rw [splice_more (by rw [e1_len, hfl]; omega), splice_flat e1_len hk q]
    refine ⟨H.set n (.cells true ((x.2.set k q).flatMap e1 ++ cs)), ?_, ?_, ?_, ?_⟩
    · rw [g1]
      have hq : (I q).cells? = some (e1 q) := rfl
      simp only [stA, nm, of, hq, g3, Nat.zero_add]
      rw [if_pos ⟨e1_len q, by rw [List.length_append, hfl]; omega⟩, hsp]
    · have hlen : (ws.set i (x.1, x.2.set k q)).length = ws.length := List.length_set ..
      have hfm : (ws.set i (x.1, x.2.set k q)).flatMap e0 = ws.flatMap e0 := by rw [flat0, flat0, fst_set hz]
      unfold AccL
      rw [hlen, hfm]
      obtain ⟨a1, a2, a3⟩ := h.acc
      refine ⟨pre_set a1 g2 _, a2, ?_⟩
      rcases a3 with a4 | ⟨b0, m, b4, b5, b6⟩
      · exact .inl a4
      · refine .inr ⟨b0, m, b4, b5, ?_⟩
        rw [b4] at g4
        have g5 : m ≠ n := g4
        rw [List.getElem?_set_ne (Ne.symm g5)]
        exact b6
    · intro y hy
      obtain ⟨j, hj⟩ := List.mem_iff_getElem?.1 hy
      rw [List.getElem?_set] at hj
      by_cases hij : i = j
      · rw [if_pos hij, if_pos (by omega)] at hj
        have : (x.1, x.2.set k q) = y := Option.some.inj hj
        subst this
        refine ⟨.inr ⟨n, full, cs, ?_, g2, by rw [List.getElem?_set_self hnl], g4⟩⟩
        simp only [List.length_set]
        exact g1
      · rw [if_neg hij] at hj
        refine ⟨?_⟩
        rcases (h.rows y (List.mem_of_getElem? hj)).row with c1 | ⟨n', full', cs', c1, c2, c3, c4⟩
        · exact .inl c1
        · refine .inr ⟨n', full', cs', c1, c2, ?_, c4⟩
          rcases Apart_ne h.apart hz hj hij with d | d | d
          · rw [g1] at d; cases d
          · rw [c1] at d; cases d
          · rw [g1, c1] at d
            have d2 : n ≠ n' := d
            rw [List.getElem?_set_ne d2]
            exact c3
    · exact Apart_fst (fst_set hz _) h.apart
/-- The first elements of a list changed. -/
def low {α : Type} (f : α → α) (l : List α) (k : Nat) : List α := (l.take k).map f ++ l.drop k
section
variable {α : Type} {f : α → α} {l : List α} {k : Nat} {z : α}
theorem low_get (h : l[k]? = some z) : (low f l k)[k]? = some z := by
  have hk := (List.getElem?_eq_some_iff.1 h).1
  unfold low
  rw [List.getElem?_append_right (by simp; omega)]
  simp only [List.length_map, List.length_take]
  rw [show k - min k l.length = 0 by omega, List.getElem?_drop, Nat.add_zero, h]
theorem low_set (h : l[k]? = some z) : (low f l k).set k (f z) = low f l (k + 1) := by
  obtain ⟨hk, hz⟩ := List.getElem?_eq_some_iff.1 h
  unfold low
  rw [List.set_append_right k (f z) (by simp; omega)]
  simp only [List.length_map, List.length_take]
  rw [show k - min k l.length = 0 by omega, List.drop_eq_getElem_cons hk, List.set_cons_zero, List.take_add_one, h, List.map_append]
  simp
theorem low_0 : low f l 0 = l := by simp [low]
theorem low_all : low f l l.length = l.map f := by simp [low]
end
theorem set_fst {ws : List (AV × List Int)} {i : Nat} {x : AV × List Int} (h : ws[i]? = some x) : ws.set i (x.1, x.2) = ws := by
  obtain ⟨h1, h2⟩ := List.getElem?_eq_some_iff.1 h
  rw [← h2, List.set_getElem_self]
theorem L1_app_new {A : AHeap} {y : AV} {ys : List Int} (hy : L1 A y ys) (hl : ys.length ≤ lim) :
    ∃ v' n full H2, appA 1 (A ++ [.cells true []]) (.sl 1 A.length 0 0 true) y = some (v', H2) ∧ A <+: H2 ∧ A.length ≤ n ∧ v' = .sl 1 n 0 ys.length full ∧ H2[n]? = some (.cells true (ys.flatMap e1 ++ [])) := by
  have hc := (hy.mono (pre_app A [.cells true []])).hc
  by_cases h0 : ys.length = 0
  · have : ys = [] := List.eq_nil_of_length_eq_zero h0
    subst this
    refine ⟨.sl 1 A.length 0 0 true, A.length, true, A ++ [.cells true []], ?_, pre_app _ _, Nat.le_refl _, rfl, by simp⟩
    unfold appA
    rw [hc]
    simp
  · refine ⟨.sl 1 (A ++ [AObj.cells true []]).length 0 ys.length false, (A ++ [AObj.cells true []]).length, false, A ++ [AObj.cells true []] ++ [.cells true (ys.flatMap e1)], ?_, (pre_app A _).trans (pre_app _ _), by simp, rfl, by simp⟩
    unfold appA
    rw [hc]
    simp [h0, hl]
theorem LL.pos {A : AHeap} {v : AV} {ws : List (AV × List Int)} (h : LL A v ws) (h0 : 0 < ws.length) : 0 < A.length := by
  rcases h.ls.inv with ⟨_, rfl⟩ | ⟨n, off, full, rw, l, _, h1, _, _⟩
  · simp at h0
  · have := (List.getElem?_eq_some_iff.1 h1).1
    omega
end Go.Proofs.Ytmblehbjedpjoaa

namespace Go.Proofs.Ytmblehbjedpjoaa
open Go Go.Eng
section
variable {L : List Int} {ws : List (AV × List Int)} {x y : AV} {A : AHeap}
theorem KG.take {V : List (List Int)} (h : KG L V) (i : Nat) : 0 ≤ (L.take i).sum ∧ (L.take i).sum ≤ 120 := by
  have := take_sumB (us := L) (fun n hn => by have := h.ls n hn; omega) i
  have := h.l6
  omega
theorem KG.sum {V : List (List Int)} (h : KG L V) : 1 ≤ L.sum ∧ L.sum ≤ 120 := by
  have h1 := h.take L.length
  rw [List.take_length] at h1
  refine ⟨?_, h1.2⟩
  have hl := h.l1
  have hls := h.ls
  cases L with
  | nil => simp at hl
  | cons a l =>
    have h2 := hls a (by simp)
    have h3 := sumB (l := l) (fun n hn => by have := hls n (by simp [hn]); omega)
    rw [List.sum_cons]
    omega
theorem c_end (hL : L1 A x L) (h : KG L (lists ws)) : ACalls Try.prog 77 [.agg [x, y]] A (I L.sum) A := by
  refine acalls hmix Try.func77 (by kernel_rfl) t77 1 rfl (by decide) ?_
  have h6 := h.l6
  dsimp only [m77]
  simp (maxSteps := 4000000) -implicitDefEqProofs -dsimp (disch := omega) only [↓AW_ops, ↓AW_seq, ↓AW_block, ↓AOps_nil, ↓AOps_pu, on_some, ↓then_normal, pval, rd_S, rd_C, put_S, ↓AW_toLoop, chkd, isAdr, bgot, AV.cells?, partA, eq_self, List.replicate_succ, List.replicate_zero, List.set_cons_zero, List.set_cons_succ, List.getElem?_cons_zero, List.getElem?_cons_succ, List.drop_zero, List.take_zero, List.take_succ_cons, Option.getD_some, List.length_cons, List.length_nil, Nat.reduceAdd, Nat.reduceSub, Nat.reduceLeDiff, Nat.zero_add, List.cons_append, List.nil_append, if_true, if_false, Bool.false_eq_true, hL.len]
  refine LoopK.by 18 (fun i : Nat => i ≤ L.length) (fun i => [(3, I (L.take i).sum), (7, x), (8, I L.length), (9, I i)]) (fun _ => A) (fun i => L.length - i) 0 (by omega) rfl (by simp [Has, rd_s]) rfl ?_
  intro i hi
  by_cases hlt : i < L.length
  · obtain ⟨n, hz⟩ : ∃ z, L[i]? = some z := ⟨_, List.getElem?_eq_getElem hlt⟩
    have hlt' : (i : Int) < L.length := by omega
    have hb := h.take i
    have hn := h.ls n (List.mem_of_getElem? hz)
    simp (maxSteps := 4000000) -implicitDefEqProofs -dsimp (disch := omega) only [↓AW_skip, ↓AW_ops, ↓AW_seq, ↓AW_cond, ↓AW_block, ↓AOps_nil, ↓AOps_pu, ↓AOps_ld, on_some, condB_t, ↓then_normal, ↓inBlock_normal, pval, lval, rd_S, rd_C, put_S, partA, eq_self, mk, List.foldl_cons, List.foldl_nil, List.replicate_succ, List.replicate_zero, List.set_cons_zero, List.set_cons_succ, List.getElem?_cons_zero, List.getElem?_cons_succ, List.drop_zero, List.take_succ_cons, List.take_nil, Option.getD_some, List.length_cons, List.length_nil, Nat.reduceAdd, Nat.reduceLeDiff, Nat.zero_add, bin_add, bin_lss, w64, if_true, if_false, Bool.false_eq_true, decide_true, Go.Eng.e1, true_and, hlt', hL.idx hlt, hL.ld0 hz 1 false (by decide)]
    exact ⟨i + 1, hlt, by simp [Has, rd_s, take_sum_succ' hz], by omega⟩
  · have hlt' : ¬ ((i : Int) < L.length) := by omega
    simp (maxSteps := 4000000) -implicitDefEqProofs -dsimp (disch := omega) only [↓AW_ops, ↓AW_seq, ↓AW_cond, ↓AW_exit, ↓AW_ret, ↓AOps_nil, ↓AOps_pu, on_some, condB_f, ↓then_normal, ↓then_exit, ↓inBlock_exit, ↓Fin_ret, pval, rd_S, put_S, resV, resL, eq_self, mk, List.foldl_cons, List.foldl_nil, List.replicate_succ, List.replicate_zero, List.set_cons_zero, List.set_cons_succ, List.getElem?_cons_zero, List.getElem?_cons_succ, Option.getD_some, bin_lss, if_true, decide_false, hlt']
    rw [List.take_of_length_le (by omega)]
    exact gc_same rfl
theorem c_whole (hL : L1 A x L) (hV : LL A y ws) (h : KG L (lists ws)) {o : Nat} {w : AV × List Int} (ho : ws[o]? = some w) : ACalls Try.prog 60 [.agg [x, y], I o] A (I (tot (L.zip w.2))) A := by
  refine acalls hmix Try.func60 (by kernel_rfl) t60 2 rfl (by decide) ?_
  have h6 := h.l6
  have hm := List.mem_of_getElem? ho
  have hmr := mem_lists hm
  have hx := hV.inn w hm
  have hol : o < ws.length := (List.getElem?_eq_some_iff.1 ho).1
  have hrl := h.rl _ hmr
  have hg := h.gd hmr
  dsimp only [m60]
  simp (maxSteps := 4000000) -implicitDefEqProofs -dsimp (disch := omega) only [↓AW_ops, ↓AW_seq, ↓AW_block, ↓AOps_nil, ↓AOps_pu, on_some, ↓then_normal, pval, rd_S, rd_C, put_S, ↓AW_toLoop, chkd, isAdr, bgot, AV.cells?, partA, eq_self, List.replicate_succ, List.replicate_zero, List.set_cons_zero, List.set_cons_succ, List.getElem?_cons_zero, List.getElem?_cons_succ, List.drop_zero, List.take_zero, List.take_succ_cons, Option.getD_some, List.length_cons, List.length_nil, Nat.reduceAdd, Nat.reduceSub, Nat.reduceLeDiff, Nat.zero_add, List.cons_append, List.nil_append, if_true, if_false, Bool.false_eq_true, hL.len]
  refine LoopK.by 30 (fun i : Nat => i ≤ L.length) (fun i => [(1, I o), (2, .agg [x, y]), (5, I (tot ((L.zip w.2).take i))), (9, x), (10, I L.length), (11, I i)]) (fun _ => A) (fun i => L.length - i) 0 (by omega) rfl (by simp [Has, rd_s, tot, sumZ]) rfl ?_
  intro i hi
  by_cases hlt : i < L.length
  · obtain ⟨n, hz⟩ : ∃ z, L[i]? = some z := ⟨_, List.getElem?_eq_getElem hlt⟩
    have hlt' : (i : Int) < L.length := by omega
    have hlw : i < w.2.length := by omega
    obtain ⟨v, hv⟩ : ∃ v, w.2[i]? = some v := ⟨_, List.getElem?_eq_getElem hlw⟩
    have hb := tot_bound (good_take hg i)
    have hn := h.ls n (List.mem_of_getElem? hz)
    have hvv := h.rv _ hmr v (List.mem_of_getElem? hv)
    have ht := tot_take (zip_at hz hv)
    have hm1 : 0 ≤ n * v ∧ n * v ≤ 400 := ⟨Int.mul_nonneg (by omega) (by omega), Int.mul_le_mul hn.2 hvv.2 (by omega) (by omega)⟩
    simp (maxSteps := 4000000) -implicitDefEqProofs -dsimp (disch := omega) only [↓AW_skip, ↓AW_ops, ↓AW_seq, ↓AW_cond, ↓AW_block, ↓AOps_nil, ↓AOps_pu, ↓AOps_ld, on_some, condB_t, ↓then_normal, ↓inBlock_normal, pval, lval, rd_S, rd_C, put_S, chkd, isAdr, bgot, AV.cells?, partA, eq_self, mk, List.foldl_cons, List.foldl_nil, List.replicate_succ, List.replicate_zero, List.set_cons_zero, List.set_cons_succ, List.getElem?_cons_zero, List.getElem?_cons_succ, List.drop_zero, List.drop_succ_cons, List.take_succ_cons, List.take_nil, Option.getD_some, List.length_cons, List.length_nil, Nat.reduceAdd, Nat.reduceLeDiff, Nat.zero_add, bin_add, bin_mul, bin_lss, w64, if_true, if_false, Bool.false_eq_true, decide_true, Go.Eng.e1, true_and, hlt', hL.idx hlt, hL.ld0 hz 1 false (by decide), hV.ls.idx hol, hV.ls.ld0 ho 1 false (by decide), e0, hx.idx hlw, hx.ld0 hv 1 false (by decide)]
    exact ⟨i + 1, hlt, by simp [Has, rd_s, ht], by omega⟩
  · have hlt' : ¬ ((i : Int) < L.length) := by omega
    simp (maxSteps := 4000000) -implicitDefEqProofs -dsimp (disch := omega) only [↓AW_ops, ↓AW_seq, ↓AW_cond, ↓AW_exit, ↓AW_ret, ↓AOps_nil, ↓AOps_pu, on_some, condB_f, ↓then_normal, ↓then_exit, ↓inBlock_exit, ↓Fin_ret, pval, rd_S, put_S, resV, resL, eq_self, mk, List.foldl_cons, List.foldl_nil, List.replicate_succ, List.replicate_zero, List.set_cons_zero, List.set_cons_succ, List.getElem?_cons_zero, List.getElem?_cons_succ, Option.getD_some, bin_lss, if_true, decide_false, hlt']
    rw [List.take_of_length_le (by rw [h.zlen hmr]; omega)]
    exact gc_same rfl
theorem first_row {ws : List (AV × List Int)} (h : KG L (lists ws)) : ∃ w, ws[0]? = some w := by
  have := h.v1
  have h2 : (lists ws).length = ws.length := by simp
  exact ⟨_, List.getElem?_eq_getElem (by omega)⟩
/-- A place of a field. -/
def isK (L : List Int) (r : Int × Int) : Prop := ((1 ≤ r.2 ∧ r.2 ≤ 1000000) ∧ Int.gcd r.1 r.2 = 1) ∧ (0 ≤ r.1 ∧ r.1 ≤ L.sum * r.2)
instance (r : Int × Int) : Decidable (isK L r) := by unfold isK; exact inferInstance
theorem c_isK (hL : L1 A x L) (h : KG L (lists ws)) (r : Int × Int) (hr : W r.1) : ACalls Try.prog 51 [.agg [x, y], .agg [I r.1, I r.2]] A (B (decide (isK L r))) A := by
  refine acalls hmix Try.func51 (by kernel_rfl) t51 2 rfl (by decide) ?_
  have hs := h.sum
  dsimp only [m51]
  simp (maxSteps := 4000000) -implicitDefEqProofs -dsimp (disch := omega) only [↓AW_ops, ↓AW_seq, ↓AOps_nil, ↓AOps_pu, ↓AOps_call, on_some, ↓then_normal, pval, rd_S, rd_C, put_S, chkd, bgot, AV.cells?, partA, eq_self, List.replicate_succ, List.replicate_zero, List.set_cons_zero, List.set_cons_succ, List.getElem?_cons_zero, List.getElem?_cons_succ, List.drop_zero, List.take_succ_cons, List.take_nil, Option.getD_some, map_c, map_n, List.length_cons, List.length_nil, Nat.reduceAdd, Nat.reduceSub, Nat.reduceLeDiff, Nat.reduceEqDiff, Nat.zero_add, List.cons_append, List.nil_append, if_true, if_false]
  refine CallK.of (s105 r 1000000 A hr (by omega)) ?_
  by_cases h1 : (1 ≤ r.2 ∧ r.2 ≤ 1000000) ∧ Int.gcd r.1 r.2 = 1
  · have hm := mul_bound (x := L.sum) (y := r.2) (X := 120) (Y := 1000000) (by omega) (by omega)
    simp (maxSteps := 4000000) -implicitDefEqProofs -dsimp (disch := omega) only [↓AOps_pu, ↓AOps_call, ↓AOps_guard, on_some, extK_same, guardB_tt, pval, rd_S, put_S, chkd, isAdr, bgot, AV.cells?, partA, eq_self, List.replicate_succ, List.replicate_zero, List.set_cons_zero, List.set_cons_succ, List.getElem?_cons_zero, List.getElem?_cons_succ, List.drop_zero, List.take_zero, List.take_succ_cons, List.take_nil, Option.getD_some, map_c, map_n, List.length_cons, List.length_nil, Nat.reduceAdd, Nat.reduceSub, Nat.reduceLeDiff, Nat.reduceEqDiff, Nat.zero_add, List.cons_append, List.nil_append, if_true, if_false, Bool.false_eq_true, decide_true, and_true, h1]
    refine CallK.of (c_end (y := y) hL h) ?_
    simp (maxSteps := 4000000) -implicitDefEqProofs -dsimp (disch := omega) only [↓AOps_pu, ↓AOps_call, ↓AOps_guard, on_some, extK_same, guardB_tt, pval, rd_S, rd_C, put_S, chkd, isAdr, bgot, AV.cells?, partA, eq_self, List.replicate_succ, List.replicate_zero, List.set_cons_zero, List.set_cons_succ, List.getElem?_cons_zero, List.getElem?_cons_succ, List.drop_zero, List.drop_succ_cons, List.take_succ_cons, List.take_nil, Option.getD_some, map_c, map_n, List.length_cons, List.length_nil, Nat.reduceAdd, Nat.reduceSub, Nat.reduceLeDiff, Nat.zero_add, List.cons_append, List.nil_append, bin_mul, w64, if_true, if_false, Bool.false_eq_true]
    refine CallK.of (c_kw _ _ _ _) ?_
    simp (maxSteps := 4000000) -implicitDefEqProofs -dsimp (disch := omega) only [↓AW_ret, ↓AOps_nil, ↓AOps_pu, on_some, extK_same, ↓then_normal, ↓Fin_ret, pval, rd_S, rd_C, put_S, resV, resL, eq_self, List.replicate_succ, List.replicate_zero, List.set_cons_zero, List.set_cons_succ, List.getElem?_cons_zero, List.getElem?_cons_succ, Option.getD_some, Nat.reduceSub, List.cons_append, List.nil_append, if_true]
    exact gc_same (by congr 1; simp [isK, h1])
  · simp (maxSteps := 4000000) -implicitDefEqProofs -dsimp (disch := omega) only [↓AW_ret, ↓AOps_nil, ↓AOps_pu, ↓AOps_guard, on_some, extK_same, guardB_ft, skipS_some, ↓then_normal, ↓Fin_ret, pval, rd_S, rd_C, put_S, resV, resL, List.replicate_succ, List.replicate_zero, List.set_cons_zero, List.set_cons_succ, List.getElem?_cons_zero, List.getElem?_cons_succ, Option.getD_some, Nat.reduceSub, List.cons_append, List.nil_append, if_false, Bool.false_eq_true, decide_false, h1]
    exact gc_same (by congr 1; simp [isK, h1])
/-- Lists that are not long. -/
structure Sz (L : List Int) (ws : List (AV × List Int)) : Prop where
  l : L.length ≤ 1000000
  v : ws.length ≤ 1000000
  w : ∀ w ∈ ws, w.2.length ≤ 1000000
/-- The first error of a field and an owner. -/
def oE (L : List Int) (V : List (List Int)) (o : Int) : Int := if kE L V = 0 then (if 0 ≤ o ∧ o ≤ (V.length : Int) - 1 then 0 else 4) else kE L V
theorem oE_0 {V : List (List Int)} {o : Int} (h : oE L V o = 0) : KG L V ∧ 0 ≤ o ∧ o ≤ (V.length : Int) - 1 := by
  unfold oE at h
  split at h
  · rename_i h0
    split at h
    · rename_i h1; exact ⟨KG.of h0, h1⟩
    · cases h
  · rename_i h0; exact absurd h h0
theorem oE_row {ws : List (AV × List Int)} {o : Int} (h : oE L (lists ws) o = 0) : KG L (lists ws) ∧ ∃ (k : Nat) (w : AV × List Int), o = k ∧ ws[k]? = some w := by
  obtain ⟨h1, h2, h3⟩ := oE_0 h
  have h4 : (lists ws).length = ws.length := by simp
  refine ⟨h1, o.toNat, _, by omega, List.getElem?_eq_getElem (by omega)⟩
theorem s56 (hL : L1 A x L) (hV : LL A y ws) (hs : Sz L ws) (o : Int) : ACalls Try.prog 56 [.agg [x, y], I o] A (I (oE L (lists ws) o)) A := by
  refine acalls hmix Try.func56 (by kernel_rfl) t56 2 rfl (by decide) ?_
  have hll : ((lists ws).length : Int) = ws.length := by simp
  have hv := hs.v
  dsimp only [m56]
  simp (maxSteps := 4000000) -implicitDefEqProofs -dsimp (disch := omega) only [↓AW_ops, ↓AW_seq, ↓AOps_nil, ↓AOps_pu, ↓AOps_call, on_some, ↓then_normal, pval, rd_S, rd_C, put_S, chkd, bgot, AV.cells?, partA, eq_self, List.replicate_succ, List.replicate_zero, List.set_cons_zero, List.set_cons_succ, List.getElem?_cons_zero, List.getElem?_cons_succ, List.drop_zero, List.take_succ_cons, List.take_nil, Option.getD_some, map_c, map_n, List.length_cons, List.length_nil, Nat.reduceAdd, Nat.reduceSub, Nat.reduceLeDiff, Nat.reduceEqDiff, Nat.zero_add, List.cons_append, List.nil_append, if_true, if_false]
  refine CallK.of (s26 hL hV hs.l hs.v hs.w) ?_
  by_cases h0 : kE L (lists ws) = 0
  · simp (maxSteps := 4000000) -implicitDefEqProofs -dsimp (disch := omega) only [↓AW_skip, ↓AW_ops, ↓AW_seq, ↓AW_cond, ↓AOps_nil, ↓AOps_pu, ↓AOps_call, on_some, extK_same, condB_f, ↓then_normal, pval, rd_S, rd_C, put_S, chkd, isAdr, bgot, AV.cells?, partA, eq_self, List.replicate_succ, List.replicate_zero, List.set_cons_zero, List.set_cons_succ, List.getElem?_cons_zero, List.getElem?_cons_succ, List.drop_zero, List.drop_succ_cons, List.take_succ_cons, List.take_nil, Option.getD_some, map_c, map_n, List.length_cons, List.length_nil, Nat.reduceAdd, Nat.reduceSub, Nat.reduceLeDiff, Nat.zero_add, List.cons_append, List.nil_append, bin_sub, bin_neq, w64, if_true, if_false, Bool.false_eq_true, decide_false, not_true_eq_false, h0, hV.ls.len]
    refine CallK.of (c_kw _ _ _ _) ?_
    by_cases h1 : 0 ≤ o ∧ o ≤ (ws.length : Int) - 1
    · simp (maxSteps := 4000000) -implicitDefEqProofs -dsimp (disch := omega) only [↓AW_skip, ↓AW_ops, ↓AW_seq, ↓AW_cond, ↓AW_ret, ↓AOps_nil, ↓AOps_pu, on_some, extK_same, condB_f, ↓then_normal, ↓Fin_ret, pval, rd_S, rd_C, put_S, resV, resL, List.replicate_succ, List.replicate_zero, List.set_cons_zero, List.set_cons_succ, List.getElem?_cons_zero, List.getElem?_cons_succ, Option.getD_some, Nat.reduceSub, List.cons_append, List.nil_append, Bool.not_true, decide_true, and_true, h1]
      exact gc_same (by rw [oE, if_pos h0, hll, if_pos h1])
    · simp (maxSteps := 4000000) -implicitDefEqProofs -dsimp (disch := omega) only [↓AW_ops, ↓AW_seq, ↓AW_cond, ↓AW_ret, ↓AOps_nil, ↓AOps_pu, on_some, extK_same, condB_t, ↓then_normal, ↓then_ret, ↓Fin_ret, pval, rd_S, rd_C, put_S, resV, resL, List.replicate_succ, List.replicate_zero, List.set_cons_zero, List.set_cons_succ, List.getElem?_cons_zero, List.getElem?_cons_succ, Option.getD_some, Nat.reduceSub, List.cons_append, List.nil_append, Bool.not_false, decide_false, h1]
      exact gc_same (by rw [oE, if_pos h0, hll, if_neg h1])
  · simp (maxSteps := 4000000) -implicitDefEqProofs -dsimp (disch := omega) only [↓AW_ops, ↓AW_seq, ↓AW_cond, ↓AW_ret, ↓AOps_nil, ↓AOps_pu, on_some, extK_same, condB_t, ↓then_normal, ↓then_ret, ↓Fin_ret, pval, rd_S, rd_C, put_S, resV, resL, List.replicate_succ, List.replicate_zero, List.set_cons_zero, List.set_cons_succ, List.getElem?_cons_zero, List.getElem?_cons_succ, Option.getD_some, Nat.reduceSub, List.cons_append, List.nil_append, bin_neq, decide_true, not_false_eq_true, h0]
    exact gc_same (by rw [oE, if_neg h0])
end
end Go.Proofs.Ytmblehbjedpjoaa

namespace Go.Proofs.Ytmblehbjedpjoaa
open Go Go.Eng
section
variable {L : List Int} {ws : List (AV × List Int)} {x y : AV} {A : AHeap}
theorem c_worth (hL : L1 A x L) (hV : LL A y ws) (h : KG L (lists ws)) {o : Nat} {w : AV × List Int} (ho : ws[o]? = some w) (p q : Rat) (hp : Pl (L.zip w.2) p) (hq : Pl (L.zip w.2) q) (hpq : p ≤ q) :
    ACalls Try.prog 66 [.agg [x, y], I o, R p, R q] A (R (upTo 0 (L.zip w.2) q - upTo 0 (L.zip w.2) p)) A := by
  refine acalls hmix Try.func66 (by kernel_rfl) t66 4 rfl (by decide) ?_
  have h6 := h.l6
  have hm := List.mem_of_getElem? ho
  have hmr := mem_lists hm
  have hx := hV.inn w hm
  have hol : o < ws.length := (List.getElem?_eq_some_iff.1 ho).1
  have hrl := h.rl _ hmr
  have hg := h.gd hmr
  have hlt0 := h.lenz_take hmr
  have hzl := h.zlen hmr
  dsimp only [m66]
  simp (maxSteps := 4000000) -implicitDefEqProofs -dsimp (disch := omega) only [↓AW_ops, ↓AW_seq, ↓AOps_nil, ↓AOps_pu, ↓AOps_call, on_some, ↓then_normal, pval, rd_S, rd_C, put_S, AV.cells?, List.replicate_succ, List.replicate_zero, List.set_cons_zero, List.set_cons_succ, List.getElem?_cons_zero, List.getElem?_cons_succ, Option.getD_some, map_c, map_n, Nat.reduceSub, List.cons_append, List.nil_append]
  refine CallK.of (s76 0 _) ?_
  simp (maxSteps := 4000000) -implicitDefEqProofs -dsimp (disch := omega) only [↓AW_ops, ↓AW_seq, ↓AW_block, ↓AOps_nil, ↓AOps_pu, on_some, extK_same, ↓then_normal, pval, rd_S, rd_C, put_S, ↓AW_toLoop, chkd, isAdr, bput, bgot, AV.cells?, splice, partA, eq_self, List.replicate_succ, List.replicate_zero, List.set_cons_zero, List.set_cons_succ, List.getElem?_cons_zero, List.getElem?_cons_succ, List.drop_zero, List.drop_succ_cons, List.drop_nil, List.take_zero, List.take_succ_cons, Option.getD_some, List.length_cons, List.length_nil, Nat.reduceAdd, Nat.reduceSub, Nat.reduceLeDiff, Nat.zero_add, List.cons_append, List.nil_append, List.append_nil, if_true, if_false, Bool.false_eq_true, ne_eq, not_true_eq_false, hL.len]
  refine LoopK.by 57 (fun z : Nat × Rat => z.1 ≤ L.length ∧ z.2 = upTo 0 ((L.zip w.2).take z.1) q - upTo 0 ((L.zip w.2).take z.1) p) (fun z => [(1, I o), (4, .agg [x, y]), (6, R p), (7, R q), (8, .agg [I 0, I 0]), (9, R z.2), (10, I (L.take z.1).sum), (17, x), (18, I L.length), (19, I z.1)]) (fun _ => A) (fun z => L.length - z.1) (0, ((0 : Int) : Rat)) ⟨by omega, by simp [upTo, Rat.sub_self]⟩ rfl (by simp [Has, rd_s]) rfl ?_
  rintro ⟨i, out⟩ ⟨hi, hout⟩
  simp only at hi hout
  by_cases hlt : i < L.length
  · obtain ⟨n, hz⟩ : ∃ z, L[i]? = some z := ⟨_, List.getElem?_eq_getElem hlt⟩
    have hlt' : (i : Int) < L.length := by omega
    have hlw : i < w.2.length := by omega
    obtain ⟨v, hv⟩ : ∃ v, w.2[i]? = some v := ⟨_, List.getElem?_eq_getElem hlw⟩
    have hzv := zip_at hz hv
    have hgt := good_take hg i
    have hn := h.ls n (List.mem_of_getElem? hz)
    have hvv := h.rv _ hmr v (List.mem_of_getElem? hv)
    have hvz : vz (n, v) = true := (vz_iff _).2 ⟨hn, hvv⟩
    have hlb := h.take i
    have hts := take_sum_succ' hz
    have hzp := zone_part hg hp hq hpq _ hgt (n, v) hvz _ _ rfl rfl
    have hup := upTo_take hzv p
    have huq := upTo_take hzv q
    rw [hlt0 i] at hzp hup huq
    have hpe := part_eq p q (((L.take i).sum : Int) : Rat) (((L.take i).sum + n : Int) : Rat) (v : Rat) hpq (Rat.intCast_le_intCast.2 (by omega))
    have hSb : Sm (((L.take i).sum : Int) : Rat) := Sm_int (by omega)
    have hSe : Sm (((L.take i).sum + n : Int) : Rat) := Sm_int (by omega)
    simp (maxSteps := 4000000) -implicitDefEqProofs -dsimp (disch := omega) only [↓AW_skip, ↓AW_ops, ↓AW_seq, ↓AW_cond, ↓AW_block, ↓AOps_nil, ↓AOps_pu, ↓AOps_ld, ↓AOps_call, on_some, condB_t, ↓then_normal, pval, lval, rd_S, put_S, chkd, bgot, partA, eq_self, mk, List.foldl_cons, List.foldl_nil, List.replicate_succ, List.replicate_zero, List.set_cons_zero, List.set_cons_succ, List.getElem?_cons_zero, List.getElem?_cons_succ, List.drop_zero, List.take_succ_cons, List.take_nil, Option.getD_some, map_c, map_n, List.length_cons, List.length_nil, Nat.reduceAdd, Nat.reduceLeDiff, Nat.reduceEqDiff, Nat.zero_add, bin_lss, if_true, if_false, Bool.false_eq_true, decide_true, Go.Eng.e1, hlt', hL.idx hlt, hL.ld0 hz 1 false (by decide)]
    refine CallK.of (s76 _ _) ?_
    simp (maxSteps := 4000000) -implicitDefEqProofs -dsimp (disch := omega) only [↓AOps_call, extK_same, rd_S, put_S, mk, List.foldl_cons, List.foldl_nil, List.replicate_succ, List.replicate_zero, List.set_cons_zero, List.set_cons_succ, List.getElem?_cons_zero, List.getElem?_cons_succ, Option.getD_some, map_c, map_n]
    refine CallK.of (s108 _ _ _ (hp.sm hg) hSb) ?_
    simp (maxSteps := 4000000) -implicitDefEqProofs -dsimp (disch := omega) only [↓AOps_pu, ↓AOps_call, on_some, extK_same, pval, rd_S, put_S, chkd, bgot, partA, eq_self, mk, List.foldl_cons, List.foldl_nil, List.replicate_succ, List.replicate_zero, List.set_cons_zero, List.set_cons_succ, List.getElem?_cons_zero, List.getElem?_cons_succ, List.drop_zero, List.take_succ_cons, List.take_nil, Option.getD_some, map_c, map_n, List.length_cons, List.length_nil, Nat.reduceAdd, Nat.reduceLeDiff, Nat.reduceEqDiff, Nat.zero_add, bin_add, w64, if_true, if_false]
    refine CallK.of (s76 _ _) ?_
    simp (maxSteps := 4000000) -implicitDefEqProofs -dsimp (disch := omega) only [↓AOps_call, extK_same, rd_S, put_S, mk, List.foldl_cons, List.foldl_nil, List.replicate_succ, List.replicate_zero, List.set_cons_zero, List.set_cons_succ, List.getElem?_cons_zero, List.getElem?_cons_succ, Option.getD_some, map_c, map_n]
    refine CallK.of (s113 _ _ _ (hq.sm hg) hSe) ?_
    simp (maxSteps := 4000000) -implicitDefEqProofs -dsimp (disch := omega) only [↓AW_ops, ↓AW_seq, ↓AOps_nil, ↓AOps_pu, ↓AOps_call, on_some, extK_same, ↓then_normal, pval, rd_S, rd_C, put_S, chkd, bput, bgot, AV.cells?, splice, partA, eq_self, mk, List.foldl_cons, List.foldl_nil, List.replicate_succ, List.replicate_zero, List.set_cons_zero, List.set_cons_succ, List.getElem?_cons_zero, List.getElem?_cons_succ, List.drop_zero, List.drop_succ_cons, List.drop_nil, List.take_zero, List.take_succ_cons, List.take_nil, Option.getD_some, map_c, map_n, List.length_cons, List.length_nil, Nat.reduceAdd, Nat.reduceLeDiff, Nat.reduceEqDiff, Nat.zero_add, List.nil_append, List.append_nil, if_true, if_false, ne_eq, not_true_eq_false]
    have hSlo : Sm (if (((L.take i).sum : Int) : Rat) < p then p else (((L.take i).sum : Int) : Rat)) := by
      split
      · exact hp.sm hg
      · exact hSb
    have hShi : Sm (if q < (((L.take i).sum + n : Int) : Rat) then q else (((L.take i).sum + n : Int) : Rat)) := by
      split
      · exact hq.sm hg
      · exact hSe
    generalize (if (((L.take i).sum : Int) : Rat) < p then p else (((L.take i).sum : Int) : Rat)) = lo at *
    generalize (if q < (((L.take i).sum + n : Int) : Rat) then q else (((L.take i).sum + n : Int) : Rat)) = hi' at *
    refine CallK.of (s65 lo hi' _ hSlo hShi) ?_
    by_cases hlh : lo < hi'
    · obtain ⟨_, f1, ⟨f2, f3⟩, f4⟩ := hzp hlh
      simp only at f2 f4
      rw [← hout] at f4
      have hneg := (sub_neg_iff lo hi').2 hlh
      simp (maxSteps := 4000000) -implicitDefEqProofs -dsimp (disch := omega) only [↓AW_ops, ↓AW_cond, ↓AOps_nil, ↓AOps_pu, ↓AOps_call, on_some, extK_same, condB_t, ↓then_normal, pval, rd_S, rd_C, put_S, chkd, bgot, partA, eq_self, mk, List.foldl_cons, List.foldl_nil, List.replicate_succ, List.replicate_zero, List.set_cons_zero, List.set_cons_succ, List.getElem?_cons_zero, List.getElem?_cons_succ, List.drop_zero, List.take_succ_cons, List.take_nil, Option.getD_some, map_c, map_n, List.length_cons, List.length_nil, Nat.reduceAdd, Nat.reduceLeDiff, Nat.reduceEqDiff, Nat.zero_add, bin_lss, if_true, if_false, decide_true, hneg]
      refine CallK.of (s95g _ _ _ f1) ?_
      simp (maxSteps := 4000000) -implicitDefEqProofs -dsimp (disch := omega) only [↓AOps_pu, ↓AOps_ld, ↓AOps_call, on_some, extK_same, pval, lval, rd_S, put_S, chkd, isAdr, bgot, AV.cells?, partA, eq_self, mk, List.foldl_cons, List.foldl_nil, List.replicate_succ, List.replicate_zero, List.set_cons_zero, List.set_cons_succ, List.getElem?_cons_zero, List.getElem?_cons_succ, List.drop_zero, List.drop_succ_cons, List.take_succ_cons, List.take_nil, Option.getD_some, map_c, map_n, List.length_cons, List.length_nil, Nat.reduceAdd, Nat.reduceLeDiff, Nat.zero_add, if_true, if_false, Bool.false_eq_true, Go.Eng.e1, hV.ls.idx hol, hV.ls.ld0 ho 1 false (by decide), e0, hx.idx hlw, hx.ld0 hv 1 false (by decide)]
      refine CallK.of (s109g _ _ _ f2 f3 (by omega)) ?_
      simp (maxSteps := 4000000) -implicitDefEqProofs -dsimp (disch := omega) only [↓AOps_call, extK_same, rd_S, put_S, mk, List.foldl_cons, List.foldl_nil, List.replicate_succ, List.replicate_zero, List.set_cons_zero, List.set_cons_succ, List.getElem?_cons_zero, List.getElem?_cons_succ, Option.getD_some, map_c, map_n]
      refine CallK.of (s75g _ _ _ f4) ?_
      simp (maxSteps := 4000000) -implicitDefEqProofs -dsimp (disch := omega) only [↓AW_ops, ↓AOps_nil, ↓AOps_pu, on_some, extK_same, ↓then_normal, ↓inBlock_normal, pval, rd_S, rd_C, put_S, chkd, bput, AV.cells?, splice, eq_self, mk, List.foldl_cons, List.foldl_nil, List.replicate_succ, List.replicate_zero, List.set_cons_zero, List.set_cons_succ, List.getElem?_cons_zero, List.getElem?_cons_succ, List.drop_succ_cons, List.drop_nil, List.take_zero, Option.getD_some, List.length_cons, List.length_nil, Nat.reduceAdd, Nat.reduceLeDiff, Nat.zero_add, List.nil_append, List.append_nil, bin_add, w64, if_true, if_false, true_and, ne_eq, not_true_eq_false]
      rw [if_pos hlh] at hpe
      refine ⟨(i + 1, out + (hi' - lo) * v), ⟨hlt, ?_⟩, by simp [Has, rd_s, hts], by simp only; omega⟩
      simp only
      rw [hup, huq, hpe, hout]
      grind
    · have hneg : ¬ (lo - hi').num < 0 := fun x => hlh ((sub_neg_iff lo hi').1 x)
      simp (maxSteps := 4000000) -implicitDefEqProofs -dsimp (disch := omega) only [↓AW_skip, ↓AW_ops, ↓AW_cond, ↓AOps_nil, ↓AOps_pu, on_some, extK_same, condB_f, ↓then_normal, ↓inBlock_normal, pval, rd_S, rd_C, put_S, eq_self, mk, List.foldl_cons, List.foldl_nil, List.replicate_succ, List.replicate_zero, List.set_cons_zero, List.set_cons_succ, List.getElem?_cons_zero, List.getElem?_cons_succ, Option.getD_some, List.length_cons, List.length_nil, Nat.reduceAdd, Nat.zero_add, bin_add, bin_lss, w64, decide_false, true_and, hneg]
      rw [if_neg hlh] at hpe
      refine ⟨(i + 1, out), ⟨hlt, ?_⟩, by simp [Has, rd_s, hts], by simp only; omega⟩
      simp only
      rw [hup, huq, hout]
      grind
  · have hlt' : ¬ ((i : Int) < L.length) := by omega
    simp (maxSteps := 4000000) -implicitDefEqProofs -dsimp (disch := omega) only [↓AW_ops, ↓AW_seq, ↓AW_cond, ↓AW_exit, ↓AW_ret, ↓AOps_nil, ↓AOps_pu, on_some, condB_f, ↓then_normal, ↓then_exit, ↓inBlock_exit, ↓Fin_ret, pval, rd_S, put_S, resV, resL, chkd, bput, bgot, AV.cells?, splice, partA, eq_self, mk, List.foldl_cons, List.foldl_nil, List.replicate_succ, List.replicate_zero, List.set_cons_zero, List.set_cons_succ, List.getElem?_cons_zero, List.getElem?_cons_succ, List.drop_zero, List.drop_succ_cons, List.drop_nil, List.take_zero, List.take_succ_cons, List.take_nil, Option.getD_some, List.length_cons, List.length_nil, Nat.reduceAdd, Nat.reduceLeDiff, Nat.reduceEqDiff, Nat.zero_add, List.nil_append, List.append_nil, bin_lss, if_true, if_false, decide_false, ne_eq, not_true_eq_false, hlt']
    rw [List.take_of_length_le (by omega)] at hout
    exact gc_same (by rw [hout])
end
def qr (r : Int × Int) : Rat := (r.1 : Rat) / (r.2 : Rat)
theorem isK_R {L : List Int} {V : List (List Int)} (h : KG L V) {r : Int × Int} (hk : isK L r) : AV.agg [I r.1, I r.2] = R (qr r) ∧ (qr r).num = r.1 ∧ ((qr r).den : Int) = r.2 ∧ ∀ row ∈ V, Pl (L.zip row) (qr r) := by
  obtain ⟨⟨⟨h1, h2⟩, h3⟩, h4, h5⟩ := hk
  have e := R_of (by omega) h3
  obtain ⟨e1, e2⟩ := R_inj e.symm
  refine ⟨e, e1, e2, fun row hr => ?_⟩
  unfold Pl
  rw [h.lenz hr]
  show (0 ≤ (qr r).num ∧ (qr r).num ≤ L.sum * ((qr r).den : Int)) ∧ ((qr r).den : Int) ≤ 1048576
  rw [show (qr r).num = r.1 from e1, show ((qr r).den : Int) = r.2 from e2]
  omega
section
variable {L : List Int} {ws : List (AV × List Int)} {x y : AV} {A : AHeap}
def rowOf (V : List (List Int)) (o : Int) : List Int := (V[o.toNat]?).getD []
def fOf (L : List Int) (V : List (List Int)) (o : Int) : List (Int × Int) := L.zip (rowOf V o)
theorem rowOf_at {o : Nat} {w : AV × List Int} (ho : ws[o]? = some w) : rowOf (lists ws) o = w.2 := by
  unfold rowOf
  simp [ho]
end
end Go.Proofs.Ytmblehbjedpjoaa

namespace Go.Proofs.Ytmblehbjedpjoaa
open Go Go.Eng
section
variable {L : List Int} {ws : List (AV × List Int)} {x y : AV} {A : AHeap}
set_option maxHeartbeats 1000000 in
theorem c_mark (hL : L1 A x L) (hV : LL A y ws) (h : KG L (lists ws)) {o : Nat} {w : AV × List Int} (ho : ws[o]? = some w) (p q : Rat) (hp : Pl (L.zip w.2) p) (hw : Wh q) :
    ACalls Try.prog 58 [.agg [x, y], I o, R p, R q] A (.tuple [oR (plc (L.zip w.2) p q), B (plc (L.zip w.2) p q).isSome]) A := by
  refine acalls hmix Try.func58 (by kernel_rfl) t58 4 rfl (by decide) ?_
  have h6 := h.l6
  have hm := List.mem_of_getElem? ho
  have hmr := mem_lists hm
  have hx := hV.inn w hm
  have hol : o < ws.length := (List.getElem?_eq_some_iff.1 ho).1
  have hrl := h.rl _ hmr
  have hg := h.gd hmr
  have hltk := h.lenz_take hmr
  have hzl := h.zlen hmr
  have hlb := len_bound hg
  have hw0 := hw.h0
  have hw1 := hw.h1
  have hn0 := Rat.num_nonneg.2 hw0
  generalize hf : L.zip w.2 = f at *
  by_cases hz : q.num = 0
  · dsimp only [m58]
    simp (maxSteps := 4000000) -implicitDefEqProofs -dsimp (disch := omega) only [↓AW_ops, ↓AW_seq, ↓AW_cond, ↓AW_ret, ↓AOps_nil, ↓AOps_pu, on_some, condB_t, ↓then_normal, ↓then_ret, ↓Fin_ret, pval, rd_S, rd_C, put_S, resV, resL, chkd, isAdr, bput, bgot, AV.cells?, splice, partA, eq_self, List.replicate_succ, List.replicate_zero, List.set_cons_zero, List.set_cons_succ, List.getElem?_cons_zero, List.getElem?_cons_succ, List.drop_zero, List.drop_succ_cons, List.drop_nil, List.take_zero, List.take_succ_cons, List.take_nil, Option.getD_some, List.length_cons, List.length_nil, Nat.reduceAdd, Nat.reduceSub, Nat.reduceLeDiff, Nat.reduceEqDiff, Nat.zero_add, List.cons_append, List.nil_append, List.append_nil, bin_eql, if_true, if_false, Bool.false_eq_true, decide_true, ne_eq, not_true_eq_false, hz]
    exact gc_same (by simp [plc, hz, oR])
  · have hwp : 0 < q := num_pos_iff q |>.1 (by omega)
    dsimp only [m58]
    simp (maxSteps := 4000000) -implicitDefEqProofs -dsimp (disch := omega) only [↓AW_skip, ↓AW_ops, ↓AW_seq, ↓AW_cond, ↓AW_block, ↓AOps_nil, ↓AOps_pu, on_some, condB_f, ↓then_normal, pval, rd_S, rd_C, put_S, ↓AW_toLoop, chkd, isAdr, bgot, AV.cells?, partA, eq_self, List.replicate_succ, List.replicate_zero, List.set_cons_zero, List.set_cons_succ, List.getElem?_cons_zero, List.getElem?_cons_succ, List.drop_zero, List.take_zero, List.take_succ_cons, Option.getD_some, List.length_cons, List.length_nil, Nat.reduceAdd, Nat.reduceSub, Nat.reduceLeDiff, Nat.zero_add, List.cons_append, List.nil_append, bin_eql, if_true, if_false, Bool.false_eq_true, decide_false, hz, hL.len]
    have hbp := upTo_bounds hg 0 p
    have hpl0 := hp.le
    have hSp := hp.sm hg
    have hpl : plc f p q = rz 0 0 f (upTo 0 f p + q) := by
      unfold plc
      rw [if_neg hz, rch_units _ f 0 0 hg.2 (by have : ((0 : Int) : Rat) = 0 := rfl; grind)]
    rw [hpl]
    obtain ⟨D, hD, hDpp, hDp, hDw⟩ := hw.dv hp
    have hDp := hDp f
    have hDx := hDp.add hDw
    have hxp : upTo 0 f p < upTo 0 f p + q := by grind
    have hx1 : upTo 0 f p + q ≤ ((4800 : Int) : Rat) := by
      have : ((4800 : Int) : Rat) = ((2400 : Int) : Rat) + ((2400 : Int) : Rat) := by rw [← Rat.intCast_add]; rfl
      grind
    have hwx : q = upTo 0 f p + q - upTo 0 f p := by grind
    generalize upTo 0 f p + q = X at *
    have hx0 : 0 < X := by grind
    refine LoopK.by 76 (fun y : Nat × Rat => y.1 ≤ L.length ∧ y.2 = X - upTo 0 f (if (((L.take y.1).sum : Int) : Rat) < p then p else (((L.take y.1).sum : Int) : Rat)) ∧ ((tot (f.take y.1) : Int) : Rat) < X ∧ rz 0 0 f X = rz ((L.take y.1).sum) (tot (f.take y.1)) (f.drop y.1) X)
      (fun z => [(1, I o), (4, .agg [x, y]), (6, R p), (7, R z.2), (8, .agg [I 0, I 0]), (10, I (L.take z.1).sum), (21, x), (22, I L.length), (23, I z.1)]) (fun _ => A) (fun y => L.length - y.1) (0, q) ⟨by simp, ?_, by simpa [tot, sumZ] using hx0, by simp [tot, sumZ]⟩ rfl (by simp [Has, rd_s]) rfl ?_
    · have h0 : ∀ b : Rat, b = 0 → q = X - upTo 0 f (if b < p then p else b) := by
        rintro b rfl
        by_cases h : 0 < p
        · rw [if_pos h]; exact hwx
        · rw [if_neg h]
          have : p = 0 := by grind
          rw [this] at hwx; exact hwx
      exact h0 _ (by simp)
    rintro ⟨i, left⟩ ⟨hi, hlf, hax, hrz⟩
    simp only at hi hlf hax hrz
    by_cases hlt : i < L.length
    · obtain ⟨n, hz⟩ : ∃ z, L[i]? = some z := ⟨_, List.getElem?_eq_getElem hlt⟩
      have hlt' : (i : Int) < L.length := by omega
      have hlw : i < w.2.length := by omega
      obtain ⟨v, hv⟩ : ∃ v, w.2[i]? = some v := ⟨_, List.getElem?_eq_getElem hlw⟩
      have hzv := zip_at hz hv
      rw [hf] at hzv
      have hgt := good_take hg i
      have hgt' := good_take hg (i + 1)
      have hvz := all_get hg.2 hzv
      have hz' := (vz_iff _).1 hvz
      simp only at hz'
      have hlbt := h.take i
      have hlbt' := h.take (i + 1)
      have hlt2 := take_sum_succ' hz
      have htt := tot_take hzv
      simp only at htt
      have hifl : i < f.length := by omega
      have hdr : f.drop i = (n, v) :: f.drop (i + 1) := by
        have := (List.getElem?_eq_some_iff.1 hzv).2
        rw [← this]; exact List.drop_eq_getElem_cons hifl
      rw [hdr, rz] at hrz
      simp only at hrz
      have hbe : (((L.take i).sum : Int) : Rat) < (((L.take i).sum + n : Int) : Rat) := Rat.intCast_lt_intCast.2 (by omega)
      have hci : ∀ {x : Rat}, (((L.take i).sum : Int) : Rat) ≤ x → x ≤ (((L.take i).sum + n : Int) : Rat) → upTo 0 f x = ((tot (f.take i) : Int) : Rat) + (x - (((L.take i).sum : Int) : Rat)) * (v : Rat) := by
        intro x a b
        have := cum_in hg hzv (x := x) (by rw [hltk]; exact a) (by rw [hltk]; exact b)
        rw [hltk] at this
        exact this
      have hce := hci (Rat.le_of_lt hbe) Rat.le_refl
      have hcev : upTo 0 f (((L.take i).sum + n : Int) : Rat) = ((tot (f.take i) + n * v : Int) : Rat) := by
        rw [hce]
        simp only [Rat.intCast_add, Rat.intCast_mul]
        grind
      have hSb : Sm (((L.take i).sum : Int) : Rat) := Sm_int (by omega)
      have hSe : Sm (((L.take i).sum + n : Int) : Rat) := Sm_int (by omega)
      have hend : (((L.take i).sum + n : Int) : Rat) ≤ ((120 : Int) : Rat) := Rat.intCast_le_intCast.2 (by omega)
      have hb0 := cast_nonneg hlbt.1
      simp (maxSteps := 4000000) -implicitDefEqProofs -dsimp (disch := omega) only [↓AW_skip, ↓AW_ops, ↓AW_seq, ↓AW_cond, ↓AW_block, ↓AOps_nil, ↓AOps_pu, ↓AOps_ld, ↓AOps_call, on_some, condB_t, ↓then_normal, pval, lval, rd_S, put_S, chkd, bgot, partA, eq_self, mk, List.foldl_cons, List.foldl_nil, List.replicate_succ, List.replicate_zero, List.set_cons_zero, List.set_cons_succ, List.getElem?_cons_zero, List.getElem?_cons_succ, List.drop_zero, List.take_succ_cons, List.take_nil, Option.getD_some, map_c, map_n, List.length_cons, List.length_nil, Nat.reduceAdd, Nat.reduceLeDiff, Nat.reduceEqDiff, Nat.zero_add, bin_lss, if_true, if_false, Bool.false_eq_true, decide_true, Go.Eng.e1, hlt', hL.idx hlt, hL.ld0 hz 1 false (by decide)]
      refine CallK.of (s76 _ _) ?_
      simp (maxSteps := 4000000) -implicitDefEqProofs -dsimp (disch := omega) only [↓AOps_call, extK_same, rd_S, put_S, mk, List.foldl_cons, List.foldl_nil, List.replicate_succ, List.replicate_zero, List.set_cons_zero, List.set_cons_succ, List.getElem?_cons_zero, List.getElem?_cons_succ, Option.getD_some, map_c, map_n]
      refine CallK.of (s108 _ _ _ hSp hSb) ?_
      simp (maxSteps := 4000000) -implicitDefEqProofs -dsimp (disch := omega) only [↓AOps_pu, ↓AOps_call, on_some, extK_same, pval, rd_S, put_S, mk, List.foldl_cons, List.foldl_nil, List.replicate_succ, List.replicate_zero, List.set_cons_zero, List.set_cons_succ, List.getElem?_cons_zero, List.getElem?_cons_succ, Option.getD_some, map_c, map_n, bin_add, w64]
      refine CallK.of (s76 _ _) ?_
      simp (maxSteps := 4000000) -implicitDefEqProofs -dsimp (disch := omega) only [↓AW_ops, ↓AW_seq, ↓AOps_nil, ↓AOps_pu, ↓AOps_call, on_some, extK_same, ↓then_normal, pval, rd_S, rd_C, put_S, chkd, bput, bgot, AV.cells?, splice, partA, eq_self, mk, List.foldl_cons, List.foldl_nil, List.replicate_succ, List.replicate_zero, List.set_cons_zero, List.set_cons_succ, List.getElem?_cons_zero, List.getElem?_cons_succ, List.drop_zero, List.drop_succ_cons, List.drop_nil, List.take_zero, List.take_succ_cons, List.take_nil, Option.getD_some, map_c, map_n, List.length_cons, List.length_nil, Nat.reduceAdd, Nat.reduceLeDiff, Nat.reduceEqDiff, Nat.zero_add, List.nil_append, List.append_nil, bin_add, w64, if_true, if_false, ne_eq, not_true_eq_false]
      have hlo : (((L.take i).sum : Int) : Rat) ≤ (if (((L.take i).sum : Int) : Rat) < p then p else (((L.take i).sum : Int) : Rat)) := by split <;> grind
      have hSlo : Sm (if (((L.take i).sum : Int) : Rat) < p then p else (((L.take i).sum : Int) : Rat)) := by split <;> assumption
      have hDlo : Dv p.den (if (((L.take i).sum : Int) : Rat) < p then p else (((L.take i).sum : Int) : Rat)) := by
        split
        · exact Dv_self p
        · exact Dv_int _ _
      have hplo : p ≤ (if (((L.take i).sum : Int) : Rat) < p then p else (((L.take i).sum : Int) : Rat)) := by split <;> grind
      have hor : (if (((L.take i).sum : Int) : Rat) < p then p else (((L.take i).sum : Int) : Rat)) = p ∨ (if (((L.take i).sum : Int) : Rat) < p then p else (((L.take i).sum : Int) : Rat)) = (((L.take i).sum : Int) : Rat) := by split <;> simp
      generalize hlod : (if (((L.take i).sum : Int) : Rat) < p then p else (((L.take i).sum : Int) : Rat)) = lo at *
      refine CallK.of (s65 lo _ _ hSlo hSe) ?_
      by_cases h1 : lo < (((L.take i).sum + n : Int) : Rat)
      · have hn1 : ¬ 0 ≤ (lo - (((L.take i).sum + n : Int) : Rat)).num := by have := (sub_neg_iff lo _).2 h1; omega
        have hclo := hci hlo (Rat.le_of_lt h1)
        have hDclo : Dv D (upTo 0 f lo) := by
          rcases hor with h | h
          · rw [h]; exact hDp
          · rw [hclo, h]
            have : (((L.take i).sum : Int) : Rat) - (((L.take i).sum : Int) : Rat) = 0 := by grind
            rw [this, Rat.zero_mul, Rat.add_zero]
            exact Dv_int _ _
        have hbc := upTo_bounds hg 0 lo
        have hmono := upTo_mono (Rat.le_of_lt h1) f 0 hg.2
        have hbce := upTo_bounds hg 0 (((L.take i).sum + n : Int) : Rat)
        have hall : ((((L.take i).sum + n : Int) : Rat) - lo) * (v : Rat) = upTo 0 f (((L.take i).sum + n : Int) : Rat) - upTo 0 f lo := by
          rw [hce, hclo]; grind
        have hDd := (Dv_int p.den ((L.take i).sum + n)).sub hDlo
        have hd0 : 0 ≤ (((L.take i).sum + n : Int) : Rat) - lo := by grind
        have hd1 : (((L.take i).sum + n : Int) : Rat) - lo ≤ ((120 : Int) : Rat) := by grind
        have hSd : Sm ((((L.take i).sum + n : Int) : Rat) - lo) := Sm_of (M := 120) (den_pos p) hp.2 (by omega) hDd (int_neg_le_zero (by omega) hd0) hd1
        have hall0 : 0 ≤ ((((L.take i).sum + n : Int) : Rat) - lo) * (v : Rat) := by rw [hall]; grind
        have hall1 : ((((L.take i).sum + n : Int) : Rat) - lo) * (v : Rat) ≤ ((2400 : Int) : Rat) := by rw [hall]; grind
        have hpd := hp.2
        have nall := num_le (M := 2400) (den_pos p) (hDd.mul v) (int_neg_le_zero (by omega) hall0) hall1
        have hDl : Dv D left := by rw [hlf]; exact hDx.sub hDclo
        have hl0 : 0 < left := by
          rw [hlf]
          rcases hor with h | h
          · rw [h]; grind
          · rw [hclo, h]
            have : (((L.take i).sum : Int) : Rat) - (((L.take i).sum : Int) : Rat) = 0 := by grind
            rw [this, Rat.zero_mul, Rat.add_zero]
            grind
        have hl1 : left ≤ ((4800 : Int) : Rat) := by rw [hlf]; grind
        have nl := num_le (M := 4800) hD.1 hDl (int_neg_le_zero (by omega) (Rat.le_of_lt hl0)) hl1
        have hfal : Fit (((((L.take i).sum + n : Int) : Rat) - lo) * (v : Rat)) left := Fit_of (2400 * 1048576) (4800 * 104857600) 1048576 104857600 (by omega) (by omega) (by omega) (by omega) (by decide) (by decide)
        have hfla : Fit left (((((L.take i).sum + n : Int) : Rat) - lo) * (v : Rat)) := Fit_of (4800 * 104857600) (2400 * 1048576) 104857600 1048576 (by omega) (by omega) (by omega) (by omega) (by decide) (by decide)
        simp (maxSteps := 4000000) -implicitDefEqProofs -dsimp (disch := omega) only [↓AW_skip, ↓AW_ops, ↓AW_seq, ↓AW_cond, ↓AOps_nil, ↓AOps_pu, ↓AOps_call, on_some, extK_same, condB_f, ↓then_normal, pval, rd_S, rd_C, put_S, chkd, bgot, partA, eq_self, mk, List.foldl_cons, List.foldl_nil, List.replicate_succ, List.replicate_zero, List.set_cons_zero, List.set_cons_succ, List.getElem?_cons_zero, List.getElem?_cons_succ, List.drop_zero, List.take_succ_cons, List.take_nil, Option.getD_some, map_c, map_n, List.length_cons, List.length_nil, Nat.reduceAdd, Nat.reduceLeDiff, Nat.reduceEqDiff, Nat.zero_add, bin_geq, if_true, if_false, decide_false, hn1]
        refine CallK.of (s95g _ _ _ (hSe.fit hSlo)) ?_
        simp (maxSteps := 4000000) -implicitDefEqProofs -dsimp (disch := omega) only [↓AOps_pu, ↓AOps_ld, ↓AOps_call, on_some, extK_same, pval, lval, rd_S, put_S, chkd, isAdr, bgot, AV.cells?, partA, eq_self, mk, List.foldl_cons, List.foldl_nil, List.replicate_succ, List.replicate_zero, List.set_cons_zero, List.set_cons_succ, List.getElem?_cons_zero, List.getElem?_cons_succ, List.drop_zero, List.drop_succ_cons, List.take_succ_cons, List.take_nil, Option.getD_some, map_c, map_n, List.length_cons, List.length_nil, Nat.reduceAdd, Nat.reduceLeDiff, Nat.zero_add, if_true, if_false, Bool.false_eq_true, Go.Eng.e1, hV.ls.idx hol, hV.ls.ld0 ho 1 false (by decide), e0, hx.idx hlw, hx.ld0 hv 1 false (by decide)]
        refine CallK.of (s109 _ _ _ hSd (by omega)) ?_
        simp (maxSteps := 4000000) -implicitDefEqProofs -dsimp (disch := omega) only [↓AW_ops, ↓AW_seq, ↓AOps_nil, ↓AOps_pu, ↓AOps_call, on_some, extK_same, ↓then_normal, pval, rd_S, rd_C, put_S, chkd, bput, bgot, AV.cells?, splice, partA, eq_self, mk, List.foldl_cons, List.foldl_nil, List.replicate_succ, List.replicate_zero, List.set_cons_zero, List.set_cons_succ, List.getElem?_cons_zero, List.getElem?_cons_succ, List.drop_zero, List.drop_succ_cons, List.drop_nil, List.take_zero, List.take_succ_cons, List.take_nil, Option.getD_some, map_c, map_n, List.length_cons, List.length_nil, Nat.reduceAdd, Nat.reduceLeDiff, Nat.reduceEqDiff, Nat.zero_add, List.nil_append, List.append_nil, if_true, if_false, ne_eq, not_true_eq_false]
        refine CallK.of (s65g _ _ _ hfal) ?_
        by_cases h2 : ((((L.take i).sum + n : Int) : Rat) - lo) * (v : Rat) < left
        · have hn2 : ¬ 0 ≤ (((((L.take i).sum + n : Int) : Rat) - lo) * (v : Rat) - left).num := by have := (sub_neg_iff _ _).2 h2; omega
          simp (maxSteps := 4000000) -implicitDefEqProofs -dsimp (disch := omega) only [↓AW_skip, ↓AW_ops, ↓AW_cond, ↓AOps_nil, ↓AOps_pu, ↓AOps_call, on_some, extK_same, condB_f, ↓then_normal, pval, rd_S, rd_C, put_S, chkd, bgot, partA, eq_self, mk, List.foldl_cons, List.foldl_nil, List.replicate_succ, List.replicate_zero, List.set_cons_zero, List.set_cons_succ, List.getElem?_cons_zero, List.getElem?_cons_succ, List.drop_zero, List.take_succ_cons, List.take_nil, Option.getD_some, map_c, map_n, List.length_cons, List.length_nil, Nat.reduceAdd, Nat.reduceLeDiff, Nat.reduceEqDiff, Nat.zero_add, bin_geq, if_true, if_false, decide_false, hn2]
          refine CallK.of (s95g _ _ _ hfla) ?_
          simp (maxSteps := 4000000) -implicitDefEqProofs -dsimp (disch := omega) only [↓AW_ops, ↓AOps_nil, ↓AOps_pu, on_some, extK_same, ↓then_normal, ↓inBlock_normal, pval, rd_S, rd_C, put_S, chkd, bput, AV.cells?, splice, eq_self, mk, List.foldl_cons, List.foldl_nil, List.replicate_succ, List.replicate_zero, List.set_cons_zero, List.set_cons_succ, List.getElem?_cons_zero, List.getElem?_cons_succ, List.drop_succ_cons, List.drop_nil, List.take_zero, Option.getD_some, List.length_cons, List.length_nil, Nat.reduceAdd, Nat.reduceLeDiff, Nat.zero_add, List.nil_append, List.append_nil, bin_add, w64, if_true, if_false, true_and, ne_eq, not_true_eq_false]
          have hnx : ¬ X ≤ ((tot (f.take i) + n * v : Int) : Rat) := by
            rw [← hcev]
            exact Rat.not_le.2 (by rw [hall, hlf] at h2; grind)
          rw [if_neg hnx] at hrz
          refine ⟨(i + 1, left - ((((L.take i).sum + n : Int) : Rat) - lo) * (v : Rat)), ⟨hlt, ?_, by rw [htt]; exact Rat.not_le.1 hnx, by rw [hrz, hlt2, htt]⟩, by simp [Has, rd_s, hlt2], by simp only; omega⟩
          simp only
          rw [hlt2, if_neg (Rat.not_lt.2 (by grind)), hall, hlf]
          grind
        · have hn2 : 0 ≤ (((((L.take i).sum + n : Int) : Rat) - lo) * (v : Rat) - left).num := by
            have : ¬ (((((L.take i).sum + n : Int) : Rat) - lo) * (v : Rat) - left).num < 0 := fun h => h2 ((sub_neg_iff _ _).1 h)
            omega
          have hxle : X ≤ ((tot (f.take i) + n * v : Int) : Rat) := by
            rw [← hcev]
            have h3 := Rat.not_lt.1 h2
            rw [hall, hlf] at h3; grind
          rw [if_pos hxle] at hrz
          have hvp : 1 ≤ v := by
            by_cases h0 : v = 0
            · rw [h0] at h2
              exact absurd (show ((((L.take i).sum + n : Int) : Rat) - lo) * ((0 : Int) : Rat) < left by rw [int0, Rat.mul_zero]; exact hl0) h2
            · omega
          have hle20 : left ≤ ((20 * v : Int) : Rat) := by
            have h3 := Rat.not_lt.1 h2
            have h4 : (((L.take i).sum + n : Int) : Rat) - lo ≤ ((20 : Int) : Rat) := by
              have : ((n : Int) : Rat) ≤ ((20 : Int) : Rat) := Rat.intCast_le_intCast.2 hz'.1.2
              rw [Rat.intCast_add]; grind
            have h5 := Rat.mul_le_mul_of_nonneg_right h4 (cast_nonneg hz'.2.1)
            rw [Rat.intCast_mul]
            exact Rat.le_trans h3 h5
          have hdn := div_numD hD.1 hD.2 ⟨hvp, hz'.2.2⟩ hDl (Rat.le_of_lt hl0) hle20
          simp (maxSteps := 4000000) -implicitDefEqProofs -dsimp (disch := omega) only [↓AW_ops, ↓AW_seq, ↓AW_cond, ↓AOps_nil, ↓AOps_pu, ↓AOps_ld, ↓AOps_call, on_some, extK_same, condB_t, ↓then_normal, pval, lval, rd_S, rd_C, put_S, chkd, isAdr, bgot, AV.cells?, partA, eq_self, mk, List.foldl_cons, List.foldl_nil, List.replicate_succ, List.replicate_zero, List.set_cons_zero, List.set_cons_succ, List.getElem?_cons_zero, List.getElem?_cons_succ, List.drop_zero, List.drop_succ_cons, List.take_succ_cons, List.take_nil, Option.getD_some, map_c, map_n, List.length_cons, List.length_nil, Nat.reduceAdd, Nat.reduceLeDiff, Nat.reduceEqDiff, Nat.zero_add, bin_geq, if_true, if_false, Bool.false_eq_true, decide_true, Go.Eng.e1, hn2, hV.ls.idx hol, hV.ls.ld0 ho 1 false (by decide), e0, hx.idx hlw, hx.ld0 hv 1 false (by decide)]
          refine CallK.of (c_Div _ v _ (by omega) (by omega) ⟨by omega, by omega⟩) ?_
          simp (maxSteps := 4000000) -implicitDefEqProofs -dsimp (disch := omega) only [↓AOps_call, extK_same, rd_S, put_S, mk, List.foldl_cons, List.foldl_nil, List.replicate_succ, List.replicate_zero, List.set_cons_zero, List.set_cons_succ, List.getElem?_cons_zero, List.getElem?_cons_succ, Option.getD_some, map_c, map_n]
          have hlon : lo.num.natAbs ≤ 120 * 1048576 ∧ lo.den ≤ 1048576 := by
            have := num_le (M := 120) (den_pos p) hDlo (int_neg_le_zero (by omega) (by grind)) (by grind)
            omega
          refine CallK.of (s75g _ _ _ (Fit_of (120 * 1048576) (20 * 104857600 * 20) 1048576 (104857600 * 20) hlon.1 hlon.2 hdn.1 hdn.2 (by decide) (by decide))) ?_
          simp (maxSteps := 4000000) -implicitDefEqProofs -dsimp (disch := omega) only [↓AW_ret, ↓AOps_nil, ↓AOps_pu, on_some, extK_same, ↓then_normal, ↓then_ret, ↓inBlock_ret, ↓Fin_ret, pval, rd_S, rd_C, put_S, resV, resL, chkd, bput, bgot, AV.cells?, splice, partA, eq_self, mk, List.foldl_cons, List.foldl_nil, List.replicate_succ, List.replicate_zero, List.set_cons_zero, List.set_cons_succ, List.getElem?_cons_zero, List.getElem?_cons_succ, List.drop_zero, List.drop_succ_cons, List.drop_nil, List.take_zero, List.take_succ_cons, List.take_nil, Option.getD_some, List.length_cons, List.length_nil, Nat.reduceAdd, Nat.reduceLeDiff, Nat.reduceEqDiff, Nat.zero_add, List.nil_append, List.append_nil, if_true, if_false, ne_eq, not_true_eq_false]
          refine gc_same ?_
          have heq : (((L.take i).sum : Int) : Rat) + (X - ((tot (f.take i) : Int) : Rat)) / (v : Rat) = lo + left / (v : Rat) := by
            have hne := cast_ne (show v ≠ 0 by omega)
            rw [hlf, hclo]
            generalize (v : Rat) = vv at *
            generalize (((L.take i).sum : Int) : Rat) = bb at *
            generalize ((tot (f.take i) : Int) : Rat) = aa at *
            grind
          rw [hrz, heq]
          rfl
      · have hn1 : 0 ≤ (lo - (((L.take i).sum + n : Int) : Rat)).num := by
          have : ¬ (lo - (((L.take i).sum + n : Int) : Rat)).num < 0 := fun h => h1 ((sub_neg_iff _ _).1 h)
          omega
        have h1' := Rat.not_lt.1 h1
        have hlop : lo = p := by
          rcases hor with h | h
          · exact h
          · rw [h] at h1'; exact absurd hbe (Rat.not_lt.2 h1')
        subst hlop
        simp (maxSteps := 4000000) -implicitDefEqProofs -dsimp (disch := omega) only [↓AW_ops, ↓AW_seq, ↓AW_cond, ↓AW_exit, ↓AW_ret, ↓AOps_nil, ↓AOps_pu, on_some, extK_same, condB_t, ↓then_normal, ↓then_exit, ↓inBlock_exit, ↓Fin_ret, pval, rd_S, rd_C, put_S, resV, resL, chkd, bput, bgot, AV.cells?, splice, partA, fillA, eq_self, mk, List.foldl_cons, List.foldl_nil, List.replicate_succ, List.replicate_zero, List.set_cons_zero, List.set_cons_succ, List.getElem?_cons_zero, List.getElem?_cons_succ, List.drop_zero, List.drop_succ_cons, List.drop_nil, List.take_zero, List.take_succ_cons, List.take_nil, Option.getD_some, Option.map_some, map_n, List.length_cons, List.length_nil, Nat.reduceAdd, Nat.reduceLeDiff, Nat.reduceEqDiff, Nat.zero_add, List.nil_append, List.append_nil, bin_add, bin_geq, w64, if_true, if_false, decide_true, true_and, reduceCtorEq, ne_eq, not_true_eq_false, hn1]
        have hnx : ¬ X ≤ ((tot (f.take i) + n * v : Int) : Rat) := by
          rw [← hcev]
          have := upTo_mono h1' f 0 hg.2
          exact Rat.not_le.2 (by grind)
        rw [if_neg hnx] at hrz
        refine ⟨(i + 1, left), ⟨hlt, ?_, by rw [htt]; exact Rat.not_le.1 hnx, by rw [hrz, hlt2, htt]⟩, by simp [Has, rd_s, hlt2], by simp only; omega⟩
        simp only
        rw [hlt2, hlf]
        congr 2
        split <;> grind
    · have hlt' : ¬ ((i : Int) < L.length) := by omega
      rw [List.drop_of_length_le (by omega)] at hrz
      simp (maxSteps := 4000000) -implicitDefEqProofs -dsimp (disch := omega) only [↓AW_ops, ↓AW_seq, ↓AW_cond, ↓AW_exit, ↓AW_ret, ↓AOps_nil, ↓AOps_pu, on_some, condB_f, ↓then_normal, ↓then_exit, ↓inBlock_exit, ↓Fin_ret, pval, rd_S, rd_C, put_S, resV, resL, chkd, bput, bgot, AV.cells?, splice, partA, fillA, eq_self, mk, List.foldl_cons, List.foldl_nil, List.replicate_succ, List.replicate_zero, List.set_cons_zero, List.set_cons_succ, List.getElem?_cons_zero, List.getElem?_cons_succ, List.drop_zero, List.drop_succ_cons, List.drop_nil, List.take_zero, List.take_succ_cons, List.take_nil, Option.getD_some, Option.map_some, map_n, List.length_cons, List.length_nil, Nat.reduceAdd, Nat.reduceLeDiff, Nat.reduceEqDiff, Nat.zero_add, List.nil_append, List.append_nil, bin_lss, if_true, if_false, decide_false, ne_eq, not_true_eq_false, hlt']
      exact gc_same (by rw [hrz]; rfl)
end
end Go.Proofs.Ytmblehbjedpjoaa

namespace Go.Proofs.Ytmblehbjedpjoaa
open Go Go.Eng
/-- selion/selionlaw06.KnifeCalls [loop [3, 5, 9]] -/
def m3 : MFun := ⟨65, [2, 3], [.mov (.s 4)],
 .seq (.ops [⟨(some 2), some (.junk), none, false, .pu (.bnew (.s 0))⟩,
   ⟨(some 3), some (.junk), none, false, .pu (.bnew (.s 1))⟩,
   ⟨(some 4), some undefA, none, false, .pu (.mov (.c (.bool false)))⟩])
 (.seq (.seq (.ops [⟨(some 10), some undefA, none, false, .pu (.bget none 2 0 2 true)⟩,
   ⟨(some 11), some undefA, none, false, .call 13 [(.s 10)]⟩])
 (.cond (.s 11) (.seq (.ops [⟨(some 12), some undefA, none, false, .call 14 []⟩,
    ⟨(some 4), some undefA, none, false, .pu (.mov (.s 12))⟩])
  (.ret))
 (.skip)))
 (.seq (.ops [⟨(some 14), some undefA, none, false, .pu (.bget none 2 0 2 true)⟩,
   ⟨(some 15), some undefA, none, false, .pu (.bget none 3 0 2 true)⟩,
   ⟨(some 16), some undefA, none, false, .call 15 [(.s 14), (.s 15)]⟩,
   ⟨(some 13), some undefA, none, false, .pu (.mov (.s 16))⟩,
   ⟨(some 17), some undefA, none, false, .pu (.extr 0 (.s 13))⟩,
   ⟨(some 18), some undefA, none, false, .pu (.extr 1 (.s 13))⟩,
   ⟨(some 5), some undefA, none, false, .pu (.mov (.s 17))⟩,
   ⟨(some 6), some undefA, none, false, .pu (.mov (.s 18))⟩])
 (.seq (.ops [⟨(some 20), some undefA, none, false, .pu (.bget none 2 0 2 true)⟩,
   ⟨(some 21), some undefA, none, false, .pu (.bget none 3 0 2 true)⟩,
   ⟨(some 22), some undefA, none, false, .call 16 [(.s 20), (.s 21)]⟩,
   ⟨(some 19), some undefA, none, false, .pu (.mov (.s 22))⟩,
   ⟨(some 23), some undefA, none, false, .pu (.extr 0 (.s 19))⟩,
   ⟨(some 24), some undefA, none, false, .pu (.extr 1 (.s 19))⟩,
   ⟨(some 7), some undefA, none, false, .pu (.mov (.s 23))⟩,
   ⟨(some 8), some undefA, none, false, .pu (.mov (.s 24))⟩])
 (.seq (.seq (.ops [⟨(some 25), some undefA, none, false, .pu (.mov (.s 6))⟩,
   ⟨(some 26), some undefA, none, false, .pu (.mov (.s 8))⟩,
   ⟨(some 27), some undefA, none, false, .pu (.bin .neq (.s 25) (.s 26))⟩,
   ⟨(some 28), some undefA, none, false, .pu (.mov (.s 27))⟩,
   ⟨(some 29), some undefA, (some (28, false)), false, .pu (.mov (.s 5))⟩,
   ⟨(some 30), some undefA, (some (28, false)), false, .pu (.mov (.s 7))⟩,
   ⟨(some 31), some undefA, (some (28, false)), false, .call 17 [(.s 29), (.s 30)]⟩,
   ⟨(some 32), some undefA, (some (28, false)), false, .pu (.not (.s 31))⟩,
   ⟨(some 33), some undefA, none, false, .pu (.pick (.s 28) (.c (.bool true)) (.s 32))⟩])
 (.cond (.s 33) (.seq (.ops [⟨(some 4), some undefA, none, false, .pu (.mov (.c (.bool false)))⟩])
  (.ret))
 (.skip)))
 (.seq (.seq (.ops [⟨(some 9), some undefA, none, false, .pu (.mov (.c (.int .i64 0)))⟩])
 (.block 0 (.loop (.seq (.seq (.ops [⟨(some 34), some undefA, none, false, .pu (.mov (.s 9))⟩,
     ⟨(some 35), some undefA, none, false, .pu (.mov (.s 5))⟩,
     ⟨(some 36), some undefA, none, false, .pu (.len (.s 35))⟩,
     ⟨(some 37), some undefA, none, false, .pu (.bin .lss (.s 34) (.s 36))⟩])
   (.cond (.s 37) (.skip)
   (.exit 0)))
   (.seq (.block 1 (.seq (.ops [⟨(some 40), some undefA, none, false, .pu (.mov (.s 5))⟩,
      ⟨(some 41), some undefA, none, false, .pu (.mov (.s 9))⟩,
      ⟨(some 42), some undefA, none, false, .pu (.idx 2 (.s 40) (.s 41))⟩,
      ⟨(some 43), some undefA, none, false, .pu (.fad 1 (.s 42))⟩,
      ⟨(some 44), some undefA, none, true, .ld (.ld 1 false (.s 43))⟩,
      ⟨(some 45), some undefA, none, false, .pu (.bin .lss (.s 44) (.c (.int .i64 1)))⟩,
      ⟨(some 46), some undefA, none, false, .pu (.mov (.s 45))⟩,
      ⟨(some 47), some undefA, (some (46, false)), false, .pu (.badr none 3)⟩,
      ⟨(some 48), some undefA, (some (46, false)), false, .pu (.bget (some 47) 3 1 1 false)⟩,
      ⟨(some 49), some undefA, (some (46, false)), false, .pu (.bin .lss (.s 48) (.c (.int .i64 1)))⟩,
      ⟨(some 50), some undefA, none, false, .pu (.pick (.s 46) (.c (.bool true)) (.s 49))⟩,
      ⟨(some 51), some undefA, none, false, .pu (.mov (.s 50))⟩,
      ⟨(some 52), some undefA, (some (51, false)), false, .pu (.mov (.s 5))⟩,
      ⟨(some 53), some undefA, (some (51, false)), false, .call 18 [(.s 52)]⟩,
      ⟨(some 54), some undefA, (some (51, false)), false, .pu (.not (.s 53))⟩,
      ⟨(some 55), some undefA, none, false, .pu (.pick (.s 51) (.c (.bool true)) (.s 54))⟩,
      ⟨(some 56), some undefA, none, false, .pu (.mov (.s 55))⟩,
      ⟨(some 57), some undefA, (some (56, false)), false, .pu (.mov (.s 5))⟩,
      ⟨(some 58), some undefA, (some (56, false)), false, .pu (.mov (.s 9))⟩,
      ⟨(some 59), some undefA, (some (56, false)), false, .pu (.idx 2 (.s 57) (.s 58))⟩,
      ⟨(some 60), some undefA, (some (56, false)), true, .ld (.ld 2 true (.s 59))⟩,
      ⟨(some 61), some undefA, (some (56, false)), true, .pu (.bget none 3 0 2 true)⟩,
      ⟨(some 62), some undefA, (some (56, false)), false, .call 19 [(.s 60), (.s 61)]⟩,
      ⟨(some 63), some undefA, none, false, .pu (.pick (.s 56) (.c (.bool true)) (.s 62))⟩])
    (.cond (.s 63) (.seq (.ops [⟨(some 4), some undefA, none, false, .pu (.mov (.c (.bool false)))⟩])
     (.ret))
    (.skip))))
   (.ops [⟨(some 38), some undefA, none, false, .pu (.mov (.s 9))⟩,
     ⟨(some 39), some undefA, none, false, .pu (.bin .add (.s 38) (.c (.int .i64 1)))⟩,
     ⟨(some 9), some undefA, none, false, .pu (.mov (.s 39))⟩]))))))
 (.seq (.ops [⟨(some 64), some undefA, none, false, .call 14 []⟩,
   ⟨(some 4), some undefA, none, false, .pu (.mov (.s 64))⟩])
 (.ret)))))))⟩
/-- selion/selionlaw06.KnifeMarks [] -/
def m4 : MFun := ⟨88, [3, 4, 5, 7, 10, 13, 15], [.mov (.s 6)],
 .seq (.ops [⟨(some 3), some (.junk), none, false, .pu (.bnew (.s 0))⟩,
   ⟨(some 4), some (.junk), none, false, .pu (.bnew (.s 1))⟩,
   ⟨(some 5), some (.junk), none, false, .pu (.bnew (.s 2))⟩,
   ⟨(some 6), some undefA, none, false, .pu (.mov (.c (.bool false)))⟩])
 (.seq (.seq (.ops [⟨(some 17), some undefA, none, false, .pu (.bget none 3 0 2 true)⟩,
   ⟨(some 18), some undefA, none, false, .call 13 [(.s 17)]⟩])
 (.cond (.s 18) (.seq (.ops [⟨(some 19), some undefA, none, false, .call 14 []⟩,
    ⟨(some 6), some undefA, none, false, .pu (.mov (.s 19))⟩])
  (.ret))
 (.skip)))
 (.seq (.ops [⟨(some 21), some undefA, none, false, .pu (.bget none 3 0 2 true)⟩,
   ⟨(some 22), some undefA, none, false, .pu (.badr none 4)⟩,
   ⟨(some 23), some undefA, none, false, .pu (.bget (some 22) 4 0 1 false)⟩,
   ⟨(some 24), some undefA, none, false, .pu (.badr none 4)⟩,
   ⟨(some 25), some undefA, none, false, .pu (.bget (some 24) 4 1 2 true)⟩,
   ⟨(some 26), some undefA, none, false, .pu (.badr none 5)⟩,
   ⟨(some 27), some undefA, none, false, .pu (.bget (some 26) 5 0 1 false)⟩,
   ⟨(some 28), some undefA, none, false, .pu (.badr none 5)⟩,
   ⟨(some 29), some undefA, none, false, .pu (.bget (some 28) 5 1 1 false)⟩,
   ⟨(some 30), some undefA, none, false, .call 20 [(.s 21), (.s 23), (.s 25), (.s 27), (.s 29)]⟩,
   ⟨(some 20), some undefA, none, false, .pu (.mov (.s 30))⟩,
   ⟨(some 31), some undefA, none, false, .pu (.extr 0 (.s 20))⟩,
   ⟨(some 32), some undefA, none, false, .pu (.extr 1 (.s 20))⟩,
   ⟨(some 33), some undefA, none, false, .pu (.extr 2 (.s 20))⟩,
   ⟨(some 7), some (.junk), none, false, .pu (.bnew (.c (.agg [.int .i64 0, .int .i64 0])))⟩,
   ⟨(some 7), none, none, false, .pu (.bset none 7 0 2 (.s 31))⟩,
   ⟨(some 8), some undefA, none, false, .pu (.mov (.s 32))⟩,
   ⟨(some 9), some undefA, none, false, .pu (.mov (.s 33))⟩])
 (.seq (.ops [⟨(some 35), some undefA, none, false, .pu (.bget none 3 0 2 true)⟩,
   ⟨(some 36), some undefA, none, false, .pu (.badr none 4)⟩,
   ⟨(some 37), some undefA, none, false, .pu (.bget (some 36) 4 0 1 false)⟩,
   ⟨(some 38), some undefA, none, false, .pu (.badr none 4)⟩,
   ⟨(some 39), some undefA, none, false, .pu (.bget (some 38) 4 1 2 true)⟩,
   ⟨(some 40), some undefA, none, false, .pu (.badr none 5)⟩,
   ⟨(some 41), some undefA, none, false, .pu (.bget (some 40) 5 0 1 false)⟩,
   ⟨(some 42), some undefA, none, false, .pu (.badr none 5)⟩,
   ⟨(some 43), some undefA, none, false, .pu (.bget (some 42) 5 1 1 false)⟩,
   ⟨(some 44), some undefA, none, false, .call 21 [(.s 35), (.s 37), (.s 39), (.s 41), (.s 43)]⟩,
   ⟨(some 34), some undefA, none, false, .pu (.mov (.s 44))⟩,
   ⟨(some 45), some undefA, none, false, .pu (.extr 0 (.s 34))⟩,
   ⟨(some 46), some undefA, none, false, .pu (.extr 1 (.s 34))⟩,
   ⟨(some 47), some undefA, none, false, .pu (.extr 2 (.s 34))⟩,
   ⟨(some 10), some (.junk), none, false, .pu (.bnew (.c (.agg [.int .i64 0, .int .i64 0])))⟩,
   ⟨(some 10), none, none, false, .pu (.bset none 10 0 2 (.s 45))⟩,
   ⟨(some 11), some undefA, none, false, .pu (.mov (.s 46))⟩,
   ⟨(some 12), some undefA, none, false, .pu (.mov (.s 47))⟩])
 (.seq (.ops [⟨(some 49), some undefA, none, false, .pu (.bget none 3 0 2 true)⟩,
   ⟨(some 50), some undefA, none, false, .pu (.badr none 4)⟩,
   ⟨(some 51), some undefA, none, false, .pu (.bget (some 50) 4 0 1 false)⟩,
   ⟨(some 52), some undefA, none, false, .call 22 [(.s 49), (.s 51)]⟩,
   ⟨(some 48), some undefA, none, false, .pu (.mov (.s 52))⟩,
   ⟨(some 53), some undefA, none, false, .pu (.extr 0 (.s 48))⟩,
   ⟨(some 54), some undefA, none, false, .pu (.extr 1 (.s 48))⟩,
   ⟨(some 13), some (.junk), none, false, .pu (.bnew (.c (.agg [.int .i64 0, .int .i64 0])))⟩,
   ⟨(some 13), none, none, false, .pu (.bset none 13 0 2 (.s 53))⟩,
   ⟨(some 14), some undefA, none, false, .pu (.mov (.s 54))⟩])
 (.seq (.ops [⟨(some 56), some undefA, none, false, .pu (.bget none 3 0 2 true)⟩,
   ⟨(some 57), some undefA, none, false, .pu (.badr none 4)⟩,
   ⟨(some 58), some undefA, none, false, .pu (.bget (some 57) 4 0 1 false)⟩,
   ⟨(some 59), some undefA, none, false, .call 23 [(.s 56), (.s 58)]⟩,
   ⟨(some 55), some undefA, none, false, .pu (.mov (.s 59))⟩,
   ⟨(some 60), some undefA, none, false, .pu (.extr 0 (.s 55))⟩,
   ⟨(some 61), some undefA, none, false, .pu (.extr 1 (.s 55))⟩,
   ⟨(some 15), some (.junk), none, false, .pu (.bnew (.c (.agg [.int .i64 0, .int .i64 0])))⟩,
   ⟨(some 15), none, none, false, .pu (.bset none 15 0 2 (.s 60))⟩,
   ⟨(some 16), some undefA, none, false, .pu (.mov (.s 61))⟩])
 (.seq (.ops [⟨(some 62), some undefA, none, false, .pu (.bget none 7 0 2 true)⟩,
   ⟨(some 63), some undefA, none, false, .pu (.bget none 10 0 2 true)⟩,
   ⟨(some 64), some undefA, none, false, .pu (.eqs false [true, true] (.s 62) (.s 63))⟩,
   ⟨(some 65), some undefA, none, false, .pu (.mov (.s 64))⟩,
   ⟨(some 66), some undefA, (some (65, true)), false, .pu (.mov (.s 8))⟩,
   ⟨(some 67), some undefA, (some (65, true)), false, .pu (.mov (.s 11))⟩,
   ⟨(some 68), some undefA, (some (65, true)), false, .pu (.eqb false (.s 66) (.s 67))⟩,
   ⟨(some 69), some undefA, none, false, .pu (.pick (.s 65) (.s 68) (.c (.bool false)))⟩,
   ⟨(some 70), some undefA, none, false, .pu (.mov (.s 69))⟩,
   ⟨(some 71), some undefA, (some (70, true)), false, .pu (.mov (.s 9))⟩,
   ⟨(some 72), some undefA, (some (70, true)), false, .pu (.mov (.s 12))⟩,
   ⟨(some 73), some undefA, (some (70, true)), false, .pu (.bin .eql (.s 71) (.s 72))⟩,
   ⟨(some 74), some undefA, none, false, .pu (.pick (.s 70) (.s 73) (.c (.bool false)))⟩,
   ⟨(some 75), some undefA, none, false, .pu (.mov (.s 74))⟩,
   ⟨(some 76), some undefA, (some (75, true)), false, .pu (.bget none 13 0 2 true)⟩,
   ⟨(some 77), some undefA, (some (75, true)), false, .pu (.bget none 15 0 2 true)⟩,
   ⟨(some 78), some undefA, (some (75, true)), false, .pu (.eqs false [true, true] (.s 76) (.s 77))⟩,
   ⟨(some 79), some undefA, none, false, .pu (.pick (.s 75) (.s 78) (.c (.bool false)))⟩,
   ⟨(some 80), some undefA, none, false, .pu (.mov (.s 79))⟩,
   ⟨(some 81), some undefA, (some (80, true)), false, .pu (.mov (.s 14))⟩,
   ⟨(some 82), some undefA, (some (80, true)), false, .pu (.mov (.s 16))⟩,
   ⟨(some 83), some undefA, (some (80, true)), false, .pu (.bin .eql (.s 81) (.s 82))⟩,
   ⟨(some 84), some undefA, none, false, .pu (.pick (.s 80) (.s 83) (.c (.bool false)))⟩,
   ⟨(some 85), some undefA, none, false, .pu (.mov (.s 84))⟩,
   ⟨(some 86), some undefA, (some (85, true)), false, .call 14 []⟩,
   ⟨(some 87), some undefA, none, false, .pu (.pick (.s 85) (.s 86) (.c (.bool false)))⟩,
   ⟨(some 6), some undefA, none, false, .pu (.mov (.s 87))⟩])
 (.ret)))))))⟩
/-- selion/selionlaw06.KnifeWorths [] -/
def m5 : MFun := ⟨52, [2, 3, 5, 7], [.mov (.s 4)],
 .seq (.ops [⟨(some 2), some (.junk), none, false, .pu (.bnew (.s 0))⟩,
   ⟨(some 3), some (.junk), none, false, .pu (.bnew (.s 1))⟩,
   ⟨(some 4), some undefA, none, false, .pu (.mov (.c (.bool false)))⟩])
 (.seq (.seq (.ops [⟨(some 9), some undefA, none, false, .pu (.bget none 2 0 2 true)⟩,
   ⟨(some 10), some undefA, none, false, .call 13 [(.s 9)]⟩])
 (.cond (.s 10) (.seq (.ops [⟨(some 11), some undefA, none, false, .call 14 []⟩,
    ⟨(some 4), some undefA, none, false, .pu (.mov (.s 11))⟩])
  (.ret))
 (.skip)))
 (.seq (.ops [⟨(some 13), some undefA, none, false, .pu (.bget none 2 0 2 true)⟩,
   ⟨(some 14), some undefA, none, false, .pu (.badr none 3)⟩,
   ⟨(some 15), some undefA, none, false, .pu (.bget (some 14) 3 0 1 false)⟩,
   ⟨(some 16), some undefA, none, false, .pu (.badr none 3)⟩,
   ⟨(some 17), some undefA, none, false, .pu (.bget (some 16) 3 1 2 true)⟩,
   ⟨(some 18), some undefA, none, false, .pu (.badr none 3)⟩,
   ⟨(some 19), some undefA, none, false, .pu (.bget (some 18) 3 3 2 true)⟩,
   ⟨(some 20), some undefA, none, false, .call 24 [(.s 13), (.s 15), (.s 17), (.s 19)]⟩,
   ⟨(some 12), some undefA, none, false, .pu (.mov (.s 20))⟩,
   ⟨(some 21), some undefA, none, false, .pu (.extr 0 (.s 12))⟩,
   ⟨(some 22), some undefA, none, false, .pu (.extr 1 (.s 12))⟩,
   ⟨(some 5), some (.junk), none, false, .pu (.bnew (.c (.agg [.int .i64 0, .int .i64 0])))⟩,
   ⟨(some 5), none, none, false, .pu (.bset none 5 0 2 (.s 21))⟩,
   ⟨(some 6), some undefA, none, false, .pu (.mov (.s 22))⟩])
 (.seq (.ops [⟨(some 24), some undefA, none, false, .pu (.bget none 2 0 2 true)⟩,
   ⟨(some 25), some undefA, none, false, .pu (.badr none 3)⟩,
   ⟨(some 26), some undefA, none, false, .pu (.bget (some 25) 3 0 1 false)⟩,
   ⟨(some 27), some undefA, none, false, .pu (.badr none 3)⟩,
   ⟨(some 28), some undefA, none, false, .pu (.bget (some 27) 3 1 2 true)⟩,
   ⟨(some 29), some undefA, none, false, .pu (.badr none 3)⟩,
   ⟨(some 30), some undefA, none, false, .pu (.bget (some 29) 3 3 2 true)⟩,
   ⟨(some 31), some undefA, none, false, .call 25 [(.s 24), (.s 26), (.s 28), (.s 30)]⟩,
   ⟨(some 23), some undefA, none, false, .pu (.mov (.s 31))⟩,
   ⟨(some 32), some undefA, none, false, .pu (.extr 0 (.s 23))⟩,
   ⟨(some 33), some undefA, none, false, .pu (.extr 1 (.s 23))⟩,
   ⟨(some 7), some (.junk), none, false, .pu (.bnew (.c (.agg [.int .i64 0, .int .i64 0])))⟩,
   ⟨(some 7), none, none, false, .pu (.bset none 7 0 2 (.s 32))⟩,
   ⟨(some 8), some undefA, none, false, .pu (.mov (.s 33))⟩])
 (.seq (.ops [⟨(some 34), some undefA, none, false, .pu (.bget none 2 0 2 true)⟩,
   ⟨(some 35), some undefA, none, false, .call 26 [(.s 34)]⟩,
   ⟨(some 36), some undefA, none, false, .pu (.bget none 2 0 2 true)⟩,
   ⟨(some 37), some undefA, none, false, .call 27 [(.s 36)]⟩,
   ⟨(some 38), some undefA, none, false, .pu (.bin .eql (.s 35) (.s 37))⟩,
   ⟨(some 39), some undefA, none, false, .pu (.mov (.s 38))⟩,
   ⟨(some 40), some undefA, (some (39, true)), false, .pu (.bget none 5 0 2 true)⟩,
   ⟨(some 41), some undefA, (some (39, true)), false, .pu (.bget none 7 0 2 true)⟩,
   ⟨(some 42), some undefA, (some (39, true)), false, .pu (.eqs false [true, true] (.s 40) (.s 41))⟩,
   ⟨(some 43), some undefA, none, false, .pu (.pick (.s 39) (.s 42) (.c (.bool false)))⟩,
   ⟨(some 44), some undefA, none, false, .pu (.mov (.s 43))⟩,
   ⟨(some 45), some undefA, (some (44, true)), false, .pu (.mov (.s 6))⟩,
   ⟨(some 46), some undefA, (some (44, true)), false, .pu (.mov (.s 8))⟩,
   ⟨(some 47), some undefA, (some (44, true)), false, .pu (.bin .eql (.s 45) (.s 46))⟩,
   ⟨(some 48), some undefA, none, false, .pu (.pick (.s 44) (.s 47) (.c (.bool false)))⟩,
   ⟨(some 49), some undefA, none, false, .pu (.mov (.s 48))⟩,
   ⟨(some 50), some undefA, (some (49, true)), false, .call 14 []⟩,
   ⟨(some 51), some undefA, none, false, .pu (.pick (.s 49) (.s 50) (.c (.bool false)))⟩,
   ⟨(some 4), some undefA, none, false, .pu (.mov (.s 51))⟩])
 (.ret)))))⟩
/-- selion/selionlaw06.KnifeEvens [] -/
def m6 : MFun := ⟨59, [1], [.mov (.s 2)],
 .seq (.ops [⟨(some 1), some (.junk), none, false, .pu (.bnew (.s 0))⟩,
   ⟨(some 2), some undefA, none, false, .pu (.mov (.c (.bool false)))⟩])
 (.seq (.seq (.ops [⟨(some 9), some undefA, none, false, .pu (.bget none 1 0 2 true)⟩,
   ⟨(some 10), some undefA, none, false, .call 13 [(.s 9)]⟩])
 (.cond (.s 10) (.seq (.ops [⟨(some 11), some undefA, none, false, .call 14 []⟩,
    ⟨(some 2), some undefA, none, false, .pu (.mov (.s 11))⟩])
  (.ret))
 (.skip)))
 (.seq (.ops [⟨(some 13), some undefA, none, false, .pu (.bget none 1 0 2 true)⟩,
   ⟨(some 14), some undefA, none, false, .call 28 [(.s 13)]⟩,
   ⟨(some 12), some undefA, none, false, .pu (.mov (.s 14))⟩,
   ⟨(some 15), some undefA, none, false, .pu (.extr 0 (.s 12))⟩,
   ⟨(some 16), some undefA, none, false, .pu (.extr 1 (.s 12))⟩,
   ⟨(some 3), some undefA, none, false, .pu (.mov (.s 15))⟩,
   ⟨(some 4), some undefA, none, false, .pu (.mov (.s 16))⟩])
 (.seq (.ops [⟨(some 18), some undefA, none, false, .pu (.bget none 1 0 2 true)⟩,
   ⟨(some 19), some undefA, none, false, .call 29 [(.s 18)]⟩,
   ⟨(some 17), some undefA, none, false, .pu (.mov (.s 19))⟩,
   ⟨(some 20), some undefA, none, false, .pu (.extr 0 (.s 17))⟩,
   ⟨(some 21), some undefA, none, false, .pu (.extr 1 (.s 17))⟩,
   ⟨(some 5), some undefA, none, false, .pu (.mov (.s 20))⟩,
   ⟨(some 6), some undefA, none, false, .pu (.mov (.s 21))⟩])
 (.seq (.seq (.ops [⟨(some 22), some undefA, none, false, .pu (.mov (.s 4))⟩,
   ⟨(some 23), some undefA, none, false, .pu (.mov (.s 6))⟩,
   ⟨(some 24), some undefA, none, false, .pu (.bin .neq (.s 22) (.s 23))⟩,
   ⟨(some 25), some undefA, none, false, .pu (.mov (.s 24))⟩,
   ⟨(some 26), some undefA, (some (25, false)), false, .pu (.mov (.s 3))⟩,
   ⟨(some 27), some undefA, (some (25, false)), false, .pu (.mov (.s 5))⟩,
   ⟨(some 28), some undefA, (some (25, false)), false, .call 30 [(.s 26), (.s 27)]⟩,
   ⟨(some 29), some undefA, (some (25, false)), false, .pu (.not (.s 28))⟩,
   ⟨(some 30), some undefA, none, false, .pu (.pick (.s 25) (.c (.bool true)) (.s 29))⟩])
 (.cond (.s 30) (.seq (.ops [⟨(some 2), some undefA, none, false, .pu (.mov (.c (.bool false)))⟩])
  (.ret))
 (.skip)))
 (.seq (.seq (.ops [⟨(some 31), some undefA, none, false, .pu (.mov (.s 4))⟩,
   ⟨(some 32), some undefA, none, false, .pu (.bin .neq (.s 31) (.c (.int .i64 0)))⟩])
 (.cond (.s 32) (.seq (.ops [⟨(some 33), some undefA, none, false, .call 14 []⟩,
    ⟨(some 2), some undefA, none, false, .pu (.mov (.s 33))⟩])
  (.ret))
 (.skip)))
 (.seq (.ops [⟨(some 35), some undefA, none, false, .pu (.bget none 1 0 2 true)⟩,
   ⟨(some 36), some undefA, none, false, .pu (.mov (.s 3))⟩,
   ⟨(some 37), some undefA, none, false, .call 31 [(.s 35), (.s 36)]⟩,
   ⟨(some 34), some undefA, none, false, .pu (.mov (.s 37))⟩,
   ⟨(some 38), some undefA, none, false, .pu (.extr 0 (.s 34))⟩,
   ⟨(some 39), some undefA, none, false, .pu (.extr 1 (.s 34))⟩,
   ⟨(some 7), some undefA, none, false, .pu (.mov (.s 38))⟩,
   ⟨(some 8), some undefA, none, false, .pu (.mov (.s 39))⟩])
 (.seq (.ops [⟨(some 40), some undefA, none, false, .pu (.mov (.s 8))⟩,
   ⟨(some 41), some undefA, none, false, .pu (.bin .eql (.s 40) (.c (.int .i64 0)))⟩,
   ⟨(some 42), some undefA, none, false, .pu (.mov (.s 41))⟩,
   ⟨(some 43), some undefA, (some (42, true)), false, .pu (.mov (.s 7))⟩,
   ⟨(some 44), some undefA, (some (42, true)), false, .pu (.len (.s 43))⟩,
   ⟨(some 45), some undefA, (some (42, true)), false, .pu (.bin .eql (.s 44) (.c (.int .i64 2)))⟩,
   ⟨(some 46), some undefA, none, false, .pu (.pick (.s 42) (.s 45) (.c (.bool false)))⟩,
   ⟨(some 47), some undefA, none, false, .pu (.mov (.s 46))⟩,
   ⟨(some 48), some undefA, (some (47, true)), true, .pu (.mov (.s 7))⟩,
   ⟨(some 49), some undefA, (some (47, true)), true, .pu (.idx 2 (.s 48) (.c (.int .i64 0)))⟩,
   ⟨(some 50), some undefA, (some (47, true)), true, .ld (.ld 2 true (.s 49))⟩,
   ⟨(some 51), some undefA, (some (47, true)), true, .pu (.mov (.s 7))⟩,
   ⟨(some 52), some undefA, (some (47, true)), true, .pu (.idx 2 (.s 51) (.c (.int .i64 1)))⟩,
   ⟨(some 53), some undefA, (some (47, true)), true, .ld (.ld 2 true (.s 52))⟩,
   ⟨(some 54), some undefA, (some (47, true)), false, .pu (.eqs false [true, true] (.s 50) (.s 53))⟩,
   ⟨(some 55), some undefA, none, false, .pu (.pick (.s 47) (.s 54) (.c (.bool false)))⟩,
   ⟨(some 56), some undefA, none, false, .pu (.mov (.s 55))⟩,
   ⟨(some 57), some undefA, (some (56, true)), false, .call 14 []⟩,
   ⟨(some 58), some undefA, none, false, .pu (.pick (.s 56) (.s 57) (.c (.bool false)))⟩,
   ⟨(some 2), some undefA, none, false, .pu (.mov (.s 58))⟩])
 (.ret))))))))⟩
/-- selion/selionlaw06.KnifeKnives [] -/
def m7 : MFun := ⟨54, [1], [.mov (.s 2)],
 .seq (.ops [⟨(some 1), some (.junk), none, false, .pu (.bnew (.s 0))⟩,
   ⟨(some 2), some undefA, none, false, .pu (.mov (.c (.bool false)))⟩])
 (.seq (.seq (.ops [⟨(some 9), some undefA, none, false, .pu (.bget none 1 0 2 true)⟩,
   ⟨(some 10), some undefA, none, false, .call 13 [(.s 9)]⟩])
 (.cond (.s 10) (.seq (.ops [⟨(some 11), some undefA, none, false, .call 14 []⟩,
    ⟨(some 2), some undefA, none, false, .pu (.mov (.s 11))⟩])
  (.ret))
 (.skip)))
 (.seq (.ops [⟨(some 13), some undefA, none, false, .pu (.bget none 1 0 2 true)⟩,
   ⟨(some 14), some undefA, none, false, .call 32 [(.s 13)]⟩,
   ⟨(some 12), some undefA, none, false, .pu (.mov (.s 14))⟩,
   ⟨(some 15), some undefA, none, false, .pu (.extr 0 (.s 12))⟩,
   ⟨(some 16), some undefA, none, false, .pu (.extr 1 (.s 12))⟩,
   ⟨(some 3), some undefA, none, false, .pu (.mov (.s 15))⟩,
   ⟨(some 4), some undefA, none, false, .pu (.mov (.s 16))⟩])
 (.seq (.ops [⟨(some 18), some undefA, none, false, .pu (.bget none 1 0 2 true)⟩,
   ⟨(some 19), some undefA, none, false, .call 33 [(.s 18)]⟩,
   ⟨(some 17), some undefA, none, false, .pu (.mov (.s 19))⟩,
   ⟨(some 20), some undefA, none, false, .pu (.extr 0 (.s 17))⟩,
   ⟨(some 21), some undefA, none, false, .pu (.extr 1 (.s 17))⟩,
   ⟨(some 5), some undefA, none, false, .pu (.mov (.s 20))⟩,
   ⟨(some 6), some undefA, none, false, .pu (.mov (.s 21))⟩])
 (.seq (.seq (.ops [⟨(some 22), some undefA, none, false, .pu (.mov (.s 4))⟩,
   ⟨(some 23), some undefA, none, false, .pu (.mov (.s 6))⟩,
   ⟨(some 24), some undefA, none, false, .pu (.bin .neq (.s 22) (.s 23))⟩,
   ⟨(some 25), some undefA, none, false, .pu (.mov (.s 24))⟩,
   ⟨(some 26), some undefA, (some (25, false)), false, .pu (.mov (.s 3))⟩,
   ⟨(some 27), some undefA, (some (25, false)), false, .pu (.mov (.s 5))⟩,
   ⟨(some 28), some undefA, (some (25, false)), false, .call 30 [(.s 26), (.s 27)]⟩,
   ⟨(some 29), some undefA, (some (25, false)), false, .pu (.not (.s 28))⟩,
   ⟨(some 30), some undefA, none, false, .pu (.pick (.s 25) (.c (.bool true)) (.s 29))⟩])
 (.cond (.s 30) (.seq (.ops [⟨(some 2), some undefA, none, false, .pu (.mov (.c (.bool false)))⟩])
  (.ret))
 (.skip)))
 (.seq (.seq (.ops [⟨(some 31), some undefA, none, false, .pu (.mov (.s 4))⟩,
   ⟨(some 32), some undefA, none, false, .pu (.bin .neq (.s 31) (.c (.int .i64 0)))⟩])
 (.cond (.s 32) (.seq (.ops [⟨(some 33), some undefA, none, false, .call 14 []⟩,
    ⟨(some 2), some undefA, none, false, .pu (.mov (.s 33))⟩])
  (.ret))
 (.skip)))
 (.seq (.ops [⟨(some 35), some undefA, none, false, .pu (.bget none 1 0 2 true)⟩,
   ⟨(some 36), some undefA, none, false, .pu (.mov (.s 3))⟩,
   ⟨(some 37), some undefA, none, false, .call 34 [(.s 35), (.s 36)]⟩,
   ⟨(some 34), some undefA, none, false, .pu (.mov (.s 37))⟩,
   ⟨(some 38), some undefA, none, false, .pu (.extr 0 (.s 34))⟩,
   ⟨(some 39), some undefA, none, false, .pu (.extr 1 (.s 34))⟩,
   ⟨(some 7), some undefA, none, false, .pu (.mov (.s 38))⟩,
   ⟨(some 8), some undefA, none, false, .pu (.mov (.s 39))⟩])
 (.seq (.ops [⟨(some 40), some undefA, none, false, .pu (.bget none 1 0 2 true)⟩,
   ⟨(some 41), some undefA, none, false, .pu (.mov (.s 3))⟩,
   ⟨(some 42), some undefA, none, false, .call 35 [(.s 40), (.s 41)]⟩,
   ⟨(some 43), some undefA, none, false, .pu (.bin .eql (.s 42) (.c (.int .i64 0)))⟩,
   ⟨(some 44), some undefA, none, false, .pu (.mov (.s 43))⟩,
   ⟨(some 45), some undefA, (some (44, true)), false, .pu (.mov (.s 8))⟩,
   ⟨(some 46), some undefA, (some (44, true)), false, .pu (.bin .eql (.s 45) (.c (.int .i64 0)))⟩,
   ⟨(some 47), some undefA, none, false, .pu (.pick (.s 44) (.s 46) (.c (.bool false)))⟩,
   ⟨(some 48), some undefA, none, false, .pu (.mov (.s 47))⟩,
   ⟨(some 49), some undefA, (some (48, true)), false, .pu (.mov (.s 7))⟩,
   ⟨(some 50), some undefA, none, false, .pu (.pick (.s 48) (.s 49) (.c (.bool false)))⟩,
   ⟨(some 51), some undefA, none, false, .pu (.mov (.s 50))⟩,
   ⟨(some 52), some undefA, (some (51, true)), false, .call 14 []⟩,
   ⟨(some 53), some undefA, none, false, .pu (.pick (.s 51) (.s 52) (.c (.bool false)))⟩,
   ⟨(some 2), some undefA, none, false, .pu (.mov (.s 53))⟩])
 (.ret))))))))⟩
/-- selion/selionlaw06.KnifeSums [loop [1, 2, 3, 7, 8, 9], loop [1, 2, 3, 7, 8, 10]] -/
def m8 : MFun := ⟨123, [3, 7, 11, 13], [.mov (.s 6)],
 .seq (.ops [⟨(some 3), some (.junk), none, false, .pu (.bnew (.s 0))⟩,
   ⟨(some 6), some undefA, none, false, .pu (.mov (.c (.bool false)))⟩])
 (.seq (.seq (.ops [⟨(some 15), some undefA, none, false, .pu (.bget none 3 0 2 true)⟩,
   ⟨(some 16), some undefA, none, false, .call 13 [(.s 15)]⟩,
   ⟨(some 17), some undefA, none, false, .pu (.mov (.s 16))⟩,
   ⟨(some 18), some undefA, (some (17, false)), false, .pu (.mov (.s 1))⟩,
   ⟨(some 19), some undefA, (some (17, false)), false, .pu (.len (.s 18))⟩,
   ⟨(some 20), some undefA, (some (17, false)), false, .pu (.bin .gtr (.s 19) (.c (.int .i64 100)))⟩,
   ⟨(some 21), some undefA, none, false, .pu (.pick (.s 17) (.c (.bool true)) (.s 20))⟩,
   ⟨(some 22), some undefA, none, false, .pu (.mov (.s 21))⟩,
   ⟨(some 23), some undefA, (some (22, false)), false, .pu (.bget none 3 0 2 true)⟩,
   ⟨(some 24), some undefA, (some (22, false)), false, .pu (.mov (.s 1))⟩,
   ⟨(some 25), some undefA, (some (22, false)), false, .call 35 [(.s 23), (.s 24)]⟩,
   ⟨(some 26), some undefA, (some (22, false)), false, .pu (.bin .neq (.s 25) (.c (.int .i64 0)))⟩,
   ⟨(some 27), some undefA, none, false, .pu (.pick (.s 22) (.c (.bool true)) (.s 26))⟩,
   ⟨(some 28), some undefA, none, false, .pu (.mov (.s 27))⟩,
   ⟨(some 29), some undefA, (some (28, false)), false, .pu (.mov (.s 2))⟩,
   ⟨(some 30), some undefA, (some (28, false)), false, .pu (.bin .lss (.s 29) (.c (.int .i64 0)))⟩,
   ⟨(some 31), some undefA, none, false, .pu (.pick (.s 28) (.c (.bool true)) (.s 30))⟩,
   ⟨(some 32), some undefA, none, false, .pu (.mov (.s 31))⟩,
   ⟨(some 33), some undefA, (some (32, false)), false, .pu (.mov (.s 2))⟩,
   ⟨(some 34), some undefA, (some (32, false)), false, .pu (.badr none 3)⟩,
   ⟨(some 35), some undefA, (some (32, false)), false, .pu (.bget (some 34) 3 1 1 false)⟩,
   ⟨(some 36), some undefA, (some (32, false)), false, .pu (.len (.s 35))⟩,
   ⟨(some 37), some undefA, (some (32, false)), false, .pu (.bin .geq (.s 33) (.s 36))⟩,
   ⟨(some 38), some undefA, none, false, .pu (.pick (.s 32) (.c (.bool true)) (.s 37))⟩])
 (.cond (.s 38) (.seq (.ops [⟨(some 39), some undefA, none, false, .call 14 []⟩,
    ⟨(some 6), some undefA, none, false, .pu (.mov (.s 39))⟩])
  (.ret))
 (.skip)))
 (.seq (.ops [⟨(some 40), some undefA, none, false, .call 36 [(.c (.int .i64 0))]⟩,
   ⟨(some 7), some (.junk), none, false, .pu (.bnew (.c (.agg [.int .i64 0, .int .i64 0])))⟩,
   ⟨(some 7), none, none, false, .pu (.bset none 7 0 2 (.s 40))⟩,
   ⟨(some 8), some undefA, none, false, .pu (.mov (.c (.int .i64 0)))⟩])
 (.seq (.seq (.ops [⟨(some 9), some undefA, none, false, .pu (.mov (.c (.int .i64 0)))⟩])
 (.block 0 (.loop (.seq (.seq (.ops [⟨(some 41), some undefA, none, false, .pu (.mov (.s 9))⟩,
     ⟨(some 42), some undefA, none, false, .pu (.badr none 3)⟩,
     ⟨(some 43), some undefA, none, false, .pu (.bget (some 42) 3 0 1 false)⟩,
     ⟨(some 44), some undefA, none, false, .pu (.len (.s 43))⟩,
     ⟨(some 45), some undefA, none, false, .pu (.bin .lss (.s 41) (.s 44))⟩])
   (.cond (.s 45) (.skip)
   (.exit 0)))
   (.seq (.block 1 (.ops [⟨(some 48), some undefA, none, false, .pu (.mov (.s 8))⟩,
      ⟨(some 49), some undefA, none, false, .pu (.badr none 3)⟩,
      ⟨(some 50), some undefA, none, false, .pu (.bget (some 49) 3 0 1 false)⟩,
      ⟨(some 51), some undefA, none, false, .pu (.mov (.s 9))⟩,
      ⟨(some 52), some undefA, none, false, .pu (.idx 1 (.s 50) (.s 51))⟩,
      ⟨(some 53), some undefA, none, false, .ld (.ld 1 false (.s 52))⟩,
      ⟨(some 54), some undefA, none, false, .pu (.bin .add (.s 48) (.s 53))⟩,
      ⟨(some 8), some undefA, none, false, .pu (.mov (.s 54))⟩]))
   (.ops [⟨(some 46), some undefA, none, false, .pu (.mov (.s 9))⟩,
     ⟨(some 47), some undefA, none, false, .pu (.bin .add (.s 46) (.c (.int .i64 1)))⟩,
     ⟨(some 9), some undefA, none, false, .pu (.mov (.s 47))⟩]))))))
 (.seq (.seq (.ops [⟨(some 10), some undefA, none, false, .pu (.mov (.c (.int .i64 0)))⟩])
 (.block 2 (.loop (.seq (.seq (.ops [⟨(some 55), some undefA, none, false, .pu (.mov (.s 10))⟩,
     ⟨(some 56), some undefA, none, false, .pu (.mov (.s 1))⟩,
     ⟨(some 57), some undefA, none, false, .pu (.len (.s 56))⟩,
     ⟨(some 58), some undefA, none, false, .pu (.bin .lss (.s 55) (.s 57))⟩])
   (.cond (.s 58) (.skip)
   (.exit 2)))
   (.seq (.block 3 (.seq (.ops [⟨(some 62), some undefA, none, true, .pu (.bget none 3 0 2 true)⟩,
      ⟨(some 63), some undefA, none, true, .pu (.mov (.s 2))⟩,
      ⟨(some 64), some undefA, none, true, .pu (.mov (.s 1))⟩,
      ⟨(some 65), some undefA, none, true, .pu (.mov (.s 10))⟩,
      ⟨(some 66), some undefA, none, true, .pu (.idx 5 (.s 64) (.s 65))⟩,
      ⟨(some 67), some undefA, none, true, .pu (.fad 1 (.s 66))⟩,
      ⟨(some 68), some undefA, none, true, .ld (.ld 2 true (.s 67))⟩,
      ⟨(some 69), some undefA, none, true, .pu (.mov (.s 1))⟩,
      ⟨(some 70), some undefA, none, true, .pu (.mov (.s 10))⟩,
      ⟨(some 71), some undefA, none, true, .pu (.idx 5 (.s 69) (.s 70))⟩,
      ⟨(some 72), some undefA, none, true, .pu (.fad 3 (.s 71))⟩,
      ⟨(some 73), some undefA, none, true, .ld (.ld 2 true (.s 72))⟩,
      ⟨(some 74), some undefA, none, false, .call 24 [(.s 62), (.s 63), (.s 68), (.s 73)]⟩,
      ⟨(some 61), some undefA, none, false, .pu (.mov (.s 74))⟩,
      ⟨(some 75), some undefA, none, false, .pu (.extr 0 (.s 61))⟩,
      ⟨(some 76), some undefA, none, false, .pu (.extr 1 (.s 61))⟩,
      ⟨(some 11), some (.junk), none, true, .pu (.bnew (.c (.agg [.int .i64 0, .int .i64 0])))⟩,
      ⟨(some 11), none, none, false, .pu (.bset none 11 0 2 (.s 75))⟩,
      ⟨(some 12), some undefA, none, false, .pu (.mov (.s 76))⟩])
    (.seq (.seq (.ops [⟨(some 77), some undefA, none, false, .pu (.mov (.s 12))⟩,
      ⟨(some 78), some undefA, none, false, .pu (.bin .neq (.s 77) (.c (.int .i64 0)))⟩,
      ⟨(some 79), some undefA, none, false, .pu (.mov (.s 78))⟩,
      ⟨(some 80), some undefA, (some (79, false)), false, .pu (.badr none 11)⟩,
      ⟨(some 81), some undefA, (some (79, false)), false, .pu (.bget (some 80) 11 1 1 false)⟩,
      ⟨(some 82), some undefA, (some (79, false)), false, .pu (.bin .lss (.s 81) (.c (.int .i64 1)))⟩,
      ⟨(some 83), some undefA, none, false, .pu (.pick (.s 79) (.c (.bool true)) (.s 82))⟩,
      ⟨(some 84), some undefA, none, false, .pu (.mov (.s 83))⟩,
      ⟨(some 85), some undefA, (some (84, false)), false, .pu (.badr none 7)⟩,
      ⟨(some 86), some undefA, (some (84, false)), false, .pu (.bget (some 85) 7 1 1 false)⟩,
      ⟨(some 87), some undefA, (some (84, false)), false, .pu (.bin .lss (.s 86) (.c (.int .i64 1)))⟩,
      ⟨(some 88), some undefA, none, false, .pu (.pick (.s 84) (.c (.bool true)) (.s 87))⟩,
      ⟨(some 89), some undefA, none, false, .pu (.mov (.s 88))⟩,
      ⟨(some 90), some undefA, (some (89, false)), false, .pu (.bget none 11 0 2 true)⟩,
      ⟨(some 91), some undefA, (some (89, false)), false, .pu (.bget none 7 0 2 true)⟩,
      ⟨(some 92), some undefA, (some (89, false)), false, .ha (.blds 2 2 [.int .i64 0, .int .i64 0] [(0, 2, (.s 90)), (2, 2, (.s 91))])⟩,
      ⟨(some 93), some undefA, (some (89, false)), false, .call 18 [(.s 92)]⟩,
      ⟨(some 94), some undefA, (some (89, false)), false, .pu (.not (.s 93))⟩,
      ⟨(some 95), some undefA, none, false, .pu (.pick (.s 89) (.c (.bool true)) (.s 94))⟩,
      ⟨(some 96), some undefA, none, false, .pu (.mov (.s 95))⟩,
      ⟨(some 97), some undefA, (some (96, false)), false, .pu (.badr none 11)⟩,
      ⟨(some 98), some undefA, (some (96, false)), false, .pu (.bget (some 97) 11 0 1 false)⟩,
      ⟨(some 99), some undefA, (some (96, false)), false, .pu (.bin .lss (.s 98) (.c (.int .i64 0)))⟩,
      ⟨(some 100), some undefA, none, false, .pu (.pick (.s 96) (.c (.bool true)) (.s 99))⟩])
    (.cond (.s 100) (.seq (.ops [⟨(some 6), some undefA, none, false, .pu (.mov (.c (.bool false)))⟩])
     (.ret))
    (.skip)))
    (.ops [⟨(some 101), some undefA, none, false, .pu (.bget none 7 0 2 true)⟩,
      ⟨(some 102), some undefA, none, false, .pu (.bget none 11 0 2 true)⟩,
      ⟨(some 103), some undefA, none, false, .call 37 [(.s 101), (.s 102)]⟩,
      ⟨(some 7), none, none, false, .pu (.bset none 7 0 2 (.s 103))⟩]))))
   (.ops [⟨(some 59), some undefA, none, false, .pu (.mov (.s 10))⟩,
     ⟨(some 60), some undefA, none, false, .pu (.bin .add (.s 59) (.c (.int .i64 1)))⟩,
     ⟨(some 10), some undefA, none, false, .pu (.mov (.s 60))⟩]))))))
 (.seq (.ops [⟨(some 105), some undefA, none, false, .pu (.bget none 3 0 2 true)⟩,
   ⟨(some 106), some undefA, none, false, .pu (.mov (.s 2))⟩,
   ⟨(some 107), some undefA, none, false, .call 36 [(.c (.int .i64 0))]⟩,
   ⟨(some 108), some undefA, none, false, .pu (.mov (.s 8))⟩,
   ⟨(some 109), some undefA, none, false, .call 36 [(.s 108)]⟩,
   ⟨(some 110), some undefA, none, false, .call 24 [(.s 105), (.s 106), (.s 107), (.s 109)]⟩,
   ⟨(some 104), some undefA, none, false, .pu (.mov (.s 110))⟩,
   ⟨(some 111), some undefA, none, false, .pu (.extr 0 (.s 104))⟩,
   ⟨(some 112), some undefA, none, false, .pu (.extr 1 (.s 104))⟩,
   ⟨(some 13), some (.junk), none, false, .pu (.bnew (.c (.agg [.int .i64 0, .int .i64 0])))⟩,
   ⟨(some 13), none, none, false, .pu (.bset none 13 0 2 (.s 111))⟩,
   ⟨(some 14), some undefA, none, false, .pu (.mov (.s 112))⟩])
 (.seq (.ops [⟨(some 113), some undefA, none, false, .pu (.mov (.s 14))⟩,
   ⟨(some 114), some undefA, none, false, .pu (.bin .eql (.s 113) (.c (.int .i64 0)))⟩,
   ⟨(some 115), some undefA, none, false, .pu (.mov (.s 114))⟩,
   ⟨(some 116), some undefA, (some (115, true)), false, .pu (.bget none 7 0 2 true)⟩,
   ⟨(some 117), some undefA, (some (115, true)), false, .pu (.bget none 13 0 2 true)⟩,
   ⟨(some 118), some undefA, (some (115, true)), false, .pu (.eqs false [true, true] (.s 116) (.s 117))⟩,
   ⟨(some 119), some undefA, none, false, .pu (.pick (.s 115) (.s 118) (.c (.bool false)))⟩,
   ⟨(some 120), some undefA, none, false, .pu (.mov (.s 119))⟩,
   ⟨(some 121), some undefA, (some (120, true)), false, .call 14 []⟩,
   ⟨(some 122), some undefA, none, false, .pu (.pick (.s 120) (.s 121) (.c (.bool false)))⟩,
   ⟨(some 6), some undefA, none, false, .pu (.mov (.s 122))⟩])
 (.ret)))))))⟩
end Go.Proofs.Ytmblehbjedpjoaa

namespace Go.Proofs.Ytmblehbjedpjoaa
open Go Go.Eng
section
variable {L : List Int} {ws : List (AV × List Int)} {x y : AV} {A : AHeap}
def longK (L : List Int) (ws : List (AV × List Int)) : Prop := ((100 : Int) < L.length ∨ (100 : Int) < ws.length) ∨ ∃ w ∈ ws, (100 : Int) < w.2.length
instance (L : List Int) (ws : List (AV × List Int)) : Decidable (longK L ws) := by unfold longK; exact inferInstance
theorem Sz_of (h : ¬ longK L ws) : Sz L ws := by
  refine ⟨?_, ?_, fun w hw => ?_⟩
  · have : ¬ (100 : Int) < L.length := fun h1 => h (.inl (.inl h1))
    omega
  · have : ¬ (100 : Int) < ws.length := fun h1 => h (.inl (.inr h1))
    omega
  · have : ¬ (100 : Int) < w.2.length := fun h1 => h (.inr ⟨w, hw, h1⟩)
    omega
theorem c_Long (hL : L1 A x L) (hV : LL A y ws) (hl : ws.length ≤ 9223372036854775807) : ACalls Try.prog 13 [.agg [x, y]] A (B (decide (longK L ws))) A := by
  refine acalls hmix Try.func13 (by kernel_rfl) t13 1 rfl (by decide) ?_
  by_cases h1 : (100 : Int) < L.length
  · dsimp only [m13]
    simp (maxSteps := 4000000) -implicitDefEqProofs -dsimp (disch := omega) only [↓AW_ops, ↓AW_seq, ↓AW_cond, ↓AW_ret, ↓AOps_nil, ↓AOps_pu, ↓AOps_guard, on_some, guardB_tf, skipS_some, condB_t, ↓then_normal, ↓then_ret, ↓Fin_ret, pval, rd_S, rd_C, put_S, resV, resL, chkd, isAdr, bgot, AV.cells?, partA, eq_self, List.replicate_succ, List.replicate_zero, List.set_cons_zero, List.set_cons_succ, List.getElem?_cons_zero, List.getElem?_cons_succ, List.drop_zero, List.take_zero, List.take_succ_cons, Option.getD_some, List.length_cons, List.length_nil, Nat.reduceAdd, Nat.reduceSub, Nat.reduceLeDiff, Nat.zero_add, List.cons_append, List.nil_append, bin_gtr, if_true, if_false, Bool.false_eq_true, decide_true, hL.len, h1]
    exact gc_same (by rw [decide_eq_true (show longK L ws from .inl (.inl h1))])
  by_cases h2 : (100 : Int) < ws.length
  · dsimp only [m13]
    simp (maxSteps := 4000000) -implicitDefEqProofs -dsimp (disch := omega) only [↓AW_ops, ↓AW_seq, ↓AW_cond, ↓AW_ret, ↓AOps_nil, ↓AOps_pu, ↓AOps_guard, on_some, guardB_ff, condB_t, ↓then_normal, ↓then_ret, ↓Fin_ret, pval, rd_S, rd_C, put_S, resV, resL, chkd, isAdr, bgot, AV.cells?, partA, eq_self, List.replicate_succ, List.replicate_zero, List.set_cons_zero, List.set_cons_succ, List.getElem?_cons_zero, List.getElem?_cons_succ, List.drop_zero, List.drop_succ_cons, List.take_zero, List.take_succ_cons, List.take_nil, Option.getD_some, List.length_cons, List.length_nil, Nat.reduceAdd, Nat.reduceSub, Nat.reduceLeDiff, Nat.zero_add, List.cons_append, List.nil_append, bin_gtr, if_true, if_false, Bool.false_eq_true, decide_true, decide_false, hL.len, h1, hV.ls.len, h2]
    exact gc_same (by rw [decide_eq_true (show longK L ws from .inl (.inr h2))])
  dsimp only [m13]
  simp (maxSteps := 4000000) -implicitDefEqProofs -dsimp (disch := omega) only [↓AW_skip, ↓AW_ops, ↓AW_seq, ↓AW_cond, ↓AW_block, ↓AOps_nil, ↓AOps_pu, ↓AOps_guard, on_some, guardB_ff, condB_f, ↓then_normal, pval, rd_S, rd_C, put_S, ↓AW_toLoop, chkd, isAdr, bgot, AV.cells?, partA, eq_self, List.replicate_succ, List.replicate_zero, List.set_cons_zero, List.set_cons_succ, List.getElem?_cons_zero, List.getElem?_cons_succ, List.drop_zero, List.drop_succ_cons, List.take_zero, List.take_succ_cons, List.take_nil, Option.getD_some, List.length_cons, List.length_nil, Nat.reduceAdd, Nat.reduceSub, Nat.reduceLeDiff, Nat.zero_add, List.cons_append, List.nil_append, bin_gtr, if_true, if_false, Bool.false_eq_true, decide_false, hL.len, h1, hV.ls.len, h2]
  refine LoopK.by 28 (fun i : Nat => i ≤ ws.length ∧ ∀ w ∈ ws.take i, ¬ (100 : Int) < w.2.length) (fun i => [(1, .agg [x, y]), (3, I i)]) (fun _ => A) (fun i => ws.length - i) 0 ⟨by omega, by simp⟩ rfl (by simp [Has, rd_s]) rfl ?_
  rintro i ⟨hi, he⟩
  by_cases hlt : i < ws.length
  · obtain ⟨w, hz⟩ : ∃ z, ws[i]? = some z := ⟨_, List.getElem?_eq_getElem hlt⟩
    have hlt' : (i : Int) < ws.length := by omega
    have hm := List.mem_of_getElem? hz
    by_cases h : (100 : Int) < w.2.length
    · simp (maxSteps := 4000000) -implicitDefEqProofs -dsimp (disch := omega) only [↓AW_skip, ↓AW_ops, ↓AW_seq, ↓AW_cond, ↓AW_block, ↓AW_ret, ↓AOps_nil, ↓AOps_pu, ↓AOps_ld, on_some, condB_t, ↓then_normal, ↓then_ret, ↓inBlock_ret, ↓Fin_ret, pval, lval, rd_S, rd_C, put_S, resV, resL, chkd, isAdr, bgot, AV.cells?, partA, eq_self, mk, List.foldl_cons, List.foldl_nil, List.replicate_succ, List.replicate_zero, List.set_cons_zero, List.set_cons_succ, List.getElem?_cons_zero, List.getElem?_cons_succ, List.drop_zero, List.drop_succ_cons, List.take_succ_cons, List.take_nil, Option.getD_some, List.length_cons, List.length_nil, Nat.reduceAdd, Nat.reduceLeDiff, Nat.zero_add, bin_lss, bin_gtr, if_true, if_false, Bool.false_eq_true, decide_true, hlt', hV.ls.len, hV.ls.idx hlt, hV.ls.ld0 hz 1 false (by decide), e0, (hV.inn w hm).len, h]
      exact gc_same (by rw [decide_eq_true (show longK L ws from .inr ⟨w, hm, h⟩)])
    · simp (maxSteps := 4000000) -implicitDefEqProofs -dsimp (disch := omega) only [↓AW_skip, ↓AW_ops, ↓AW_seq, ↓AW_cond, ↓AW_block, ↓AOps_nil, ↓AOps_pu, ↓AOps_ld, on_some, condB_t, condB_f, ↓then_normal, ↓inBlock_normal, pval, lval, rd_S, rd_C, put_S, chkd, isAdr, bgot, AV.cells?, partA, eq_self, mk, List.foldl_cons, List.foldl_nil, List.replicate_succ, List.replicate_zero, List.set_cons_zero, List.set_cons_succ, List.getElem?_cons_zero, List.getElem?_cons_succ, List.drop_zero, List.drop_succ_cons, List.take_succ_cons, List.take_nil, Option.getD_some, List.length_cons, List.length_nil, Nat.reduceAdd, Nat.reduceLeDiff, Nat.zero_add, bin_add, bin_lss, bin_gtr, w64, if_true, if_false, Bool.false_eq_true, decide_true, decide_false, true_and, hlt', hV.ls.len, hV.ls.idx hlt, hV.ls.ld0 hz 1 false (by decide), e0, (hV.inn w hm).len, h]
      refine ⟨i + 1, ⟨hlt, fun u hu => ?_⟩, by simp [Has, rd_s], by omega⟩
      rcases (take_mem hz).1 hu with hu | rfl
      · exact he u hu
      · exact h
  · have hlt' : ¬ ((i : Int) < ws.length) := by omega
    simp (maxSteps := 4000000) -implicitDefEqProofs -dsimp (disch := omega) only [↓AW_ops, ↓AW_seq, ↓AW_cond, ↓AW_exit, ↓AW_ret, ↓AOps_nil, ↓AOps_pu, on_some, condB_f, ↓then_normal, ↓then_exit, ↓inBlock_exit, ↓Fin_ret, pval, rd_S, rd_C, put_S, resV, resL, chkd, isAdr, bgot, AV.cells?, partA, eq_self, mk, List.foldl_cons, List.foldl_nil, List.replicate_succ, List.replicate_zero, List.set_cons_zero, List.set_cons_succ, List.getElem?_cons_zero, List.getElem?_cons_succ, List.drop_zero, List.drop_succ_cons, List.take_succ_cons, List.take_nil, Option.getD_some, List.length_cons, List.length_nil, Nat.reduceAdd, Nat.reduceLeDiff, Nat.zero_add, bin_lss, if_true, if_false, Bool.false_eq_true, decide_false, hlt', hV.ls.len]
    rw [List.take_of_length_le (by omega)] at he
    refine gc_same ?_
    rw [decide_eq_false]
    rintro ((h | h) | ⟨w, hw, h⟩)
    · exact h1 h
    · exact h2 h
    · exact he w hw h
end
end Go.Proofs.Ytmblehbjedpjoaa

namespace Go.Proofs.Ytmblehbjedpjoaa
open Go Go.Eng
/-- A part of a field's worth. -/
def pw (f : List (Int × Int)) (n m : Int) : Rat := ((tot f * n : Int) : Rat) / (m : Rat)
theorem pw_wh {f : List (Int × Int)} (hg : good f) {n m : Int} (hn : 0 ≤ n ∧ n ≤ m) (hm : 1 ≤ m ∧ m ≤ 100) : Wh (pw f n m) := by
  have ht := tot_bound hg
  have hmp := cast_pos (show 0 < m by omega)
  have h1 : 0 ≤ tot f * n := Int.mul_nonneg ht.1 hn.1
  have h2 : tot f * n ≤ 2400 * m := Int.mul_le_mul ht.2 hn.2 hn.1 (by omega)
  have hc : pw f n m * (m : Rat) = ((tot f * n : Int) : Rat) := Rat.div_mul_cancel (cast_ne (by omega))
  refine ⟨?_, ?_, ?_⟩
  · unfold pw
    rw [Rat.div_def]; exact Rat.mul_nonneg (cast_nonneg h1) (Rat.le_of_lt (Rat.inv_pos.2 hmp))
  · refine Rat.le_of_mul_le_mul_right ?_ hmp
    rw [hc, ← Rat.intCast_mul]
    exact Rat.intCast_le_intCast.2 h2
  · have := (ratio_le (tot f * n) m (by omega)).2
    unfold pw
    omega
section
variable {L : List Int} {ws : List (AV × List Int)} {x y : AV} {A : AHeap}
theorem oR_agg (o : Option Rat) : ∃ a b, oR o = .agg [I a, I b] := by
  cases o with
  | none => exact ⟨0, 0, rfl⟩
  | some x => exact ⟨x.num, x.den, rfl⟩
theorem Pl_zero {f : List (Int × Int)} (hg : good f) : Pl f ((0 : Int) : Rat) := by
  have := len_bound hg
  refine ⟨⟨by show (0 : Int) ≤ 0; omega, ?_⟩, by show (1 : Int) ≤ 1048576; omega⟩
  show (0 : Int) ≤ len f * 1
  omega
/-- What halves are. -/
def hP (f : List (Int × Int)) : Option Rat := plc f ((0 : Int) : Rat) (pw f 1 2)
theorem c_half (hL : L1 A x L) (hV : LL A y ws) (h : KG L (lists ws)) {o : Nat} {w : AV × List Int} (ho : ws[o]? = some w) : ACalls Try.prog 64 [.agg [x, y], I o] A (oR (hP (L.zip w.2))) A := by
  refine acalls hmix Try.func64 (by kernel_rfl) t64 2 rfl (by decide) ?_
  have hmr := mem_lists (List.mem_of_getElem? ho)
  have hg := h.gd hmr
  have ht := tot_bound hg
  dsimp only [m64]
  simp (maxSteps := 4000000) -implicitDefEqProofs -dsimp (disch := omega) only [↓AW_ops, ↓AW_seq, ↓AOps_nil, ↓AOps_pu, ↓AOps_call, on_some, ↓then_normal, pval, rd_S, rd_C, put_S, chkd, bgot, AV.cells?, partA, eq_self, List.replicate_succ, List.replicate_zero, List.set_cons_zero, List.set_cons_succ, List.getElem?_cons_zero, List.getElem?_cons_succ, List.drop_zero, List.take_succ_cons, List.take_nil, Option.getD_some, map_c, map_n, List.length_cons, List.length_nil, Nat.reduceAdd, Nat.reduceSub, Nat.reduceLeDiff, Nat.reduceEqDiff, Nat.zero_add, List.cons_append, List.nil_append, if_true, if_false]
  refine CallK.of (s76 _ _) ?_
  simp (maxSteps := 4000000) -implicitDefEqProofs -dsimp (disch := omega) only [↓AOps_pu, ↓AOps_call, on_some, extK_same, pval, rd_S, put_S, chkd, bgot, partA, eq_self, List.replicate_succ, List.replicate_zero, List.set_cons_zero, List.set_cons_succ, List.getElem?_cons_zero, List.getElem?_cons_succ, List.drop_zero, List.take_succ_cons, List.take_nil, Option.getD_some, map_c, map_n, List.length_cons, List.length_nil, Nat.reduceAdd, Nat.reduceSub, Nat.reduceLeDiff, Nat.reduceEqDiff, Nat.zero_add, List.cons_append, List.nil_append, if_true, if_false]
  refine CallK.of (c_whole hL hV h ho) ?_
  simp (maxSteps := 4000000) -implicitDefEqProofs -dsimp (disch := omega) only [↓AOps_call, extK_same, rd_S, rd_C, put_S, List.replicate_succ, List.replicate_zero, List.set_cons_zero, List.set_cons_succ, List.getElem?_cons_zero, List.getElem?_cons_succ, Option.getD_some, map_c, map_n, Nat.reduceSub, List.cons_append, List.nil_append]
  refine CallK.of (s59R _ ⟨by omega, by omega⟩ (by omega) (by omega)) ?_
  simp (maxSteps := 4000000) -implicitDefEqProofs -dsimp (disch := omega) only [↓AOps_call, extK_same, rd_S, put_S, List.replicate_succ, List.replicate_zero, List.set_cons_zero, List.set_cons_succ, List.getElem?_cons_zero, List.getElem?_cons_succ, Option.getD_some, map_c, map_n, Nat.reduceSub, List.cons_append, List.nil_append]
  have hpw : ((tot (L.zip w.2) : Int) : Rat) / ((2 : Int) : Rat) = pw (L.zip w.2) 1 2 := by rw [pw, Int.mul_one]
  rw [hpw]
  refine CallK.of (c_mark hL hV h ho _ _ (Pl_zero hg) (pw_wh hg (by omega) (by omega))) ?_
  unfold hP
  generalize plc (L.zip w.2) ((0 : Int) : Rat) (pw (L.zip w.2) 1 2) = z
  cases z with
  | none =>
    simp (maxSteps := 4000000) -implicitDefEqProofs -dsimp (disch := omega) only [↓AW_ops, ↓AW_seq, ↓AW_ret, ↓AOps_nil, ↓AOps_pu, on_some, extK_same, ↓then_normal, ↓Fin_ret, pval, rd_S, rd_C, put_S, resV, resL, chkd, bput, bgot, AV.cells?, splice, partA, eq_self, List.replicate_succ, List.replicate_zero, List.set_cons_zero, List.set_cons_succ, List.getElem?_cons_zero, List.getElem?_cons_succ, List.drop_zero, List.drop_succ_cons, List.drop_nil, List.take_zero, List.take_succ_cons, List.take_nil, Option.getD_some, List.length_cons, List.length_nil, Nat.reduceAdd, Nat.reduceSub, Nat.reduceLeDiff, Nat.reduceEqDiff, Nat.zero_add, List.cons_append, List.nil_append, List.append_nil, if_true, if_false, ne_eq, not_true_eq_false, oR, zeroR]
    exact gc_same rfl
  | some z =>
    simp (maxSteps := 4000000) -implicitDefEqProofs -dsimp (disch := omega) only [↓AW_ops, ↓AW_seq, ↓AW_ret, ↓AOps_nil, ↓AOps_pu, on_some, extK_same, ↓then_normal, ↓Fin_ret, pval, rd_S, rd_C, put_S, resV, resL, chkd, bput, bgot, AV.cells?, splice, partA, eq_self, List.replicate_succ, List.replicate_zero, List.set_cons_zero, List.set_cons_succ, List.getElem?_cons_zero, List.getElem?_cons_succ, List.drop_zero, List.drop_succ_cons, List.drop_nil, List.take_zero, List.take_succ_cons, List.take_nil, Option.getD_some, List.length_cons, List.length_nil, Nat.reduceAdd, Nat.reduceSub, Nat.reduceLeDiff, Nat.reduceEqDiff, Nat.zero_add, List.cons_append, List.nil_append, List.append_nil, if_true, if_false, ne_eq, not_true_eq_false, oR]
    exact gc_same rfl
def hV' (L : List Int) (V : List (List Int)) (o : Int) : AV := if oE L V o = 0 then oR (hP (fOf L V o)) else zeroR
theorem s22 (hL : L1 A x L) (hV : LL A y ws) (hs : Sz L ws) (o : Int) : ACalls Try.prog 22 [.agg [x, y], I o] A (.tuple [hV' L (lists ws) o, I (oE L (lists ws) o)]) A := by
  refine acalls hmix Try.func22 (by kernel_rfl) t22 2 rfl (by decide) ?_
  dsimp only [m22]
  simp (maxSteps := 4000000) -implicitDefEqProofs -dsimp (disch := omega) only [↓AW_ops, ↓AW_seq, ↓AOps_nil, ↓AOps_pu, ↓AOps_call, on_some, ↓then_normal, pval, rd_S, rd_C, put_S, chkd, bgot, AV.cells?, partA, eq_self, List.replicate_succ, List.replicate_zero, List.set_cons_zero, List.set_cons_succ, List.getElem?_cons_zero, List.getElem?_cons_succ, List.drop_zero, List.take_succ_cons, List.take_nil, Option.getD_some, map_c, map_n, List.length_cons, List.length_nil, Nat.reduceAdd, Nat.reduceSub, Nat.reduceLeDiff, Nat.reduceEqDiff, Nat.zero_add, List.cons_append, List.nil_append, if_true, if_false]
  refine CallK.of (s56 hL hV hs o) ?_
  by_cases h0 : oE L (lists ws) o = 0
  · obtain ⟨hg, k, w, rfl, hk⟩ := oE_row h0
    simp (maxSteps := 4000000) -implicitDefEqProofs -dsimp (disch := omega) only [↓AW_skip, ↓AW_ops, ↓AW_seq, ↓AW_cond, ↓AOps_nil, ↓AOps_pu, ↓AOps_call, on_some, extK_same, condB_f, ↓then_normal, pval, rd_S, rd_C, put_S, chkd, bgot, partA, eq_self, List.replicate_succ, List.replicate_zero, List.set_cons_zero, List.set_cons_succ, List.getElem?_cons_zero, List.getElem?_cons_succ, List.drop_zero, List.take_succ_cons, List.take_nil, Option.getD_some, map_c, map_n, List.length_cons, List.length_nil, Nat.reduceAdd, Nat.reduceSub, Nat.reduceLeDiff, Nat.reduceEqDiff, Nat.zero_add, List.cons_append, List.nil_append, bin_neq, if_true, if_false, decide_false, not_true_eq_false, h0]
    have hc := c_half hL hV hg hk
    obtain ⟨a, b, hab⟩ := oR_agg (hP (L.zip w.2))
    rw [hab] at hc
    refine CallK.of hc ?_
    simp (maxSteps := 4000000) -implicitDefEqProofs -dsimp (disch := omega) only [↓AW_ret, ↓AOps_nil, ↓AOps_pu, on_some, extK_same, ↓then_normal, ↓Fin_ret, pval, rd_S, rd_C, put_S, resV, resL, chkd, bput, bgot, AV.cells?, splice, partA, eq_self, List.replicate_succ, List.replicate_zero, List.set_cons_zero, List.set_cons_succ, List.getElem?_cons_zero, List.getElem?_cons_succ, List.drop_zero, List.drop_succ_cons, List.drop_nil, List.take_zero, List.take_succ_cons, List.take_nil, Option.getD_some, List.length_cons, List.length_nil, Nat.reduceAdd, Nat.reduceSub, Nat.reduceLeDiff, Nat.reduceEqDiff, Nat.zero_add, List.cons_append, List.nil_append, List.append_nil, if_true, if_false, ne_eq, not_true_eq_false]
    refine gc_same ?_
    rw [hV', if_pos h0, fOf, rowOf_at hk, hab, h0]
  · simp (maxSteps := 4000000) -implicitDefEqProofs -dsimp (disch := omega) only [↓AW_ops, ↓AW_seq, ↓AW_cond, ↓AW_ret, ↓AOps_nil, ↓AOps_pu, on_some, extK_same, condB_t, ↓then_normal, ↓then_ret, ↓Fin_ret, pval, rd_S, rd_C, put_S, resV, resL, chkd, bput, bgot, AV.cells?, splice, partA, fillA, eq_self, List.replicate_succ, List.replicate_zero, List.set_cons_zero, List.set_cons_succ, List.getElem?_cons_zero, List.getElem?_cons_succ, List.drop_zero, List.drop_succ_cons, List.drop_nil, List.take_zero, List.take_succ_cons, List.take_nil, Option.getD_some, Option.map_some, map_n, List.length_cons, List.length_nil, Nat.reduceAdd, Nat.reduceSub, Nat.reduceLeDiff, Nat.reduceEqDiff, Nat.zero_add, List.cons_append, List.nil_append, List.append_nil, bin_neq, if_true, if_false, decide_true, ne_eq, not_true_eq_false, not_false_eq_true, h0]
    exact gc_same (by rw [hV', if_neg h0]; rfl)
end
end Go.Proofs.Ytmblehbjedpjoaa

namespace Go.Proofs.Ytmblehbjedpjoaa
open Go Go.Eng
theorem take_succ_eq {α : Type} {xs ys : List α} {i : Nat} {z w : α} (hz : xs[i]? = some z) (hw : ys[i]? = some w) : xs.take (i + 1) = ys.take (i + 1) ↔ xs.take i = ys.take i ∧ z = w := by
  rw [List.take_add_one, List.take_add_one, hz, hw]
  have hi : i < xs.length := (List.getElem?_eq_some_iff.1 hz).1
  have hj : i < ys.length := (List.getElem?_eq_some_iff.1 hw).1
  constructor
  · intro h
    have := List.append_inj h (by simp; omega)
    exact ⟨this.1, by simpa using this.2⟩
  · rintro ⟨h1, rfl⟩
    rw [h1]
theorem pair_beq {z w : Int × Int} (h : z ≠ w) : (z.1 == w.1 && z.2 == w.2) = false := by
  cases hb : (z.1 == w.1 && z.2 == w.2) with
  | false => rfl
  | true => simp at hb; exact absurd (Prod.ext hb.1 hb.2) h
theorem s17 {xs ys : List (Int × Int)} {v u : AV} {A : AHeap} (hx : L2 A v xs) (hy : L2 A u ys) (hl : xs.length ≤ 1000000) : ACalls Try.prog 17 [v, u] A (B (decide (xs = ys))) A := by
  refine acalls hmix Try.func17 (by kernel_rfl) t17 2 rfl (by decide) ?_
  by_cases hle : xs.length = ys.length
  · have hle' : (xs.length : Int) = ys.length := by omega
    dsimp only [m17]
    simp (maxSteps := 4000000) -implicitDefEqProofs -dsimp (disch := omega) only [↓AW_skip, ↓AW_ops, ↓AW_seq, ↓AW_cond, ↓AW_block, ↓AOps_nil, ↓AOps_pu, on_some, condB_f, ↓then_normal, pval, rd_S, rd_C, put_S, ↓AW_toLoop, eq_self, List.replicate_succ, List.replicate_zero, List.set_cons_zero, List.set_cons_succ, List.getElem?_cons_zero, List.getElem?_cons_succ, Option.getD_some, Nat.reduceSub, List.cons_append, List.nil_append, bin_neq, decide_false, not_true_eq_false, hx.len, hy.len, hle']
    refine LoopK.by 26 (fun i : Nat => i ≤ xs.length ∧ xs.take i = ys.take i) (fun i => [(0, v), (1, u), (5, I i)]) (fun _ => A) (fun i => xs.length - i) 0 ⟨by omega, rfl⟩ rfl (by simp [Has, rd_s]) rfl ?_
    rintro i ⟨hi, he⟩
    by_cases hlt : i < xs.length
    · obtain ⟨z, hz⟩ : ∃ z, xs[i]? = some z := ⟨_, List.getElem?_eq_getElem hlt⟩
      have hlt' : (i : Int) < xs.length := by omega
      have hlt2 : i < ys.length := by omega
      obtain ⟨w, hw⟩ : ∃ w, ys[i]? = some w := ⟨_, List.getElem?_eq_getElem hlt2⟩
      by_cases hzw : z = w
      · subst hzw
        simp (maxSteps := 4000000) -implicitDefEqProofs -dsimp (disch := omega) only [↓AW_skip, ↓AW_ops, ↓AW_seq, ↓AW_cond, ↓AW_block, ↓AOps_nil, ↓AOps_pu, ↓AOps_ld, on_some, condB_t, condB_f, ↓then_normal, ↓inBlock_normal, pval, lval, rd_S, rd_C, put_S, partA, eqc, beq_self_eq_true, eq_self, mk, List.foldl_cons, List.foldl_nil, List.replicate_succ, List.replicate_zero, List.set_cons_zero, List.set_cons_succ, List.getElem?_cons_zero, List.getElem?_cons_succ, List.drop_zero, List.take_succ_cons, List.take_nil, Option.getD_some, Option.map_some, List.length_cons, List.length_nil, Nat.reduceAdd, Nat.reduceLeDiff, Nat.reduceEqDiff, Nat.zero_add, bin_add, bin_lss, w64, if_true, if_false, Bool.not_true, Bool.true_and, decide_true, Go.Eng.e2, true_and, hlt', hx.len, hx.idx hlt, hx.ld0 hz 2 true (by decide), hy.idx hlt2, hy.ld0 hw 2 true (by decide)]
        exact ⟨i + 1, ⟨hlt, (take_succ_eq hz hw).2 ⟨he, rfl⟩⟩, by simp [Has, rd_s], by omega⟩
      · have hb := pair_beq hzw
        simp (maxSteps := 4000000) -implicitDefEqProofs -dsimp (disch := omega) only [↓AW_skip, ↓AW_ops, ↓AW_seq, ↓AW_cond, ↓AW_block, ↓AW_ret, ↓AOps_nil, ↓AOps_pu, ↓AOps_ld, on_some, condB_t, ↓then_normal, ↓then_ret, ↓inBlock_ret, ↓Fin_ret, pval, lval, rd_S, rd_C, put_S, resV, resL, partA, eqc, Bool.and_true, eq_self, mk, List.foldl_cons, List.foldl_nil, List.replicate_succ, List.replicate_zero, List.set_cons_zero, List.set_cons_succ, List.getElem?_cons_zero, List.getElem?_cons_succ, List.drop_zero, List.take_succ_cons, List.take_nil, Option.getD_some, Option.map_some, List.length_cons, List.length_nil, Nat.reduceAdd, Nat.reduceLeDiff, Nat.reduceEqDiff, Nat.zero_add, bin_lss, if_true, if_false, Bool.not_false, decide_true, Go.Eng.e2, hlt', hx.len, hx.idx hlt, hx.ld0 hz 2 true (by decide), hy.idx hlt2, hy.ld0 hw 2 true (by decide), hb]
        refine gc_same ?_
        have : ¬ xs = ys := by rintro rfl; rw [hz] at hw; exact hzw (Option.some.inj hw)
        simp [this]
    · have hlt' : ¬ ((i : Int) < xs.length) := by omega
      simp (maxSteps := 4000000) -implicitDefEqProofs -dsimp (disch := omega) only [↓AW_ops, ↓AW_seq, ↓AW_cond, ↓AW_exit, ↓AW_ret, ↓AOps_nil, ↓AOps_pu, on_some, condB_f, ↓then_normal, ↓then_exit, ↓inBlock_exit, ↓Fin_ret, pval, rd_S, rd_C, put_S, resV, resL, eq_self, mk, List.foldl_cons, List.foldl_nil, List.replicate_succ, List.replicate_zero, List.set_cons_zero, List.set_cons_succ, List.getElem?_cons_zero, List.getElem?_cons_succ, Option.getD_some, bin_lss, if_true, decide_false, hlt', hx.len]
      rw [List.take_of_length_le (by omega), List.take_of_length_le (by omega)] at he
      exact gc_same (by simp [he])
  · have hle' : ¬ (xs.length : Int) = ys.length := by omega
    dsimp only [m17]
    simp (maxSteps := 4000000) -implicitDefEqProofs -dsimp (disch := omega) only [↓AW_ops, ↓AW_seq, ↓AW_cond, ↓AW_ret, ↓AOps_nil, ↓AOps_pu, on_some, condB_t, ↓then_normal, ↓then_ret, ↓Fin_ret, pval, rd_S, rd_C, put_S, resV, resL, List.replicate_succ, List.replicate_zero, List.set_cons_zero, List.set_cons_succ, List.getElem?_cons_zero, List.getElem?_cons_succ, Option.getD_some, Nat.reduceSub, List.cons_append, List.nil_append, bin_neq, decide_true, not_false_eq_true, hx.len, hy.len, hle']
    have : ¬ xs = ys := by rintro rfl; exact hle rfl
    exact gc_same (by simp [this])
/-- What lies up to the place is worth what was asked. -/
theorem plc_worth {f : List (Int × Int)} (hg : good f) {p w x : Rat} (hp0 : 0 ≤ p) (hp1 : p ≤ ((len f : Int) : Rat)) (hw0 : 0 ≤ w) (h : plc f p w = some x) :
    p ≤ x ∧ x ≤ ((len f : Int) : Rat) ∧ upTo 0 f x = upTo 0 f p + w := by
  unfold plc at h
  split at h
  · rename_i h0
    have : p = x := Option.some.inj h
    subst this
    rw [zero_lt_agg h0, Rat.add_zero]
    exact ⟨Rat.le_refl, hp1, rfl⟩
  · rename_i h0
    have hwp : 0 < w := by
      have := Rat.num_nonneg.2 hw0
      exact num_pos_iff w |>.1 (by omega)
    have hbp := upTo_bounds hg 0 p
    have hl := len_units hg.2
    obtain ⟨_, ⟨h2, h3⟩, h4⟩ := rch_some _ (units f) 0 0 x (units_le hg.2) (by have : ((0 : Int) : Rat) = 0 := rfl; grind) h
    rw [upTo_units x f 0 hg.2] at h4
    have h5 : upTo 0 f x = upTo 0 f p + w := by rw [h4]; have : ((0 : Int) : Rat) = 0 := rfl; grind
    refine ⟨?_, by rw [Int.zero_add, hl] at h3; exact h3, h5⟩
    rcases Rat.le_total (a := p) (b := x) with h6 | h6
    · exact h6
    · have := upTo_mono h6 f 0 hg.2
      grind
end Go.Proofs.Ytmblehbjedpjoaa

namespace Go.Proofs.Ytmblehbjedpjoaa
open Go Go.Eng
/-- The parts of a fraction. -/
def rp (q : Rat) : Int × Int := (q.num, q.den)
theorem e2_rp (q : Rat) : e2 (rp q) = [I q.num, I (q.den : Int)] := rfl
/-- What a place of a worth is: behind where it began, within the field, and in bounds. -/
theorem plc_y {f : List (Int × Int)} (hg : good f) {p w z : Rat} (hp : Pl f p) (hw : Wh w) (h : plc f p w = some z) :
    p ≤ z ∧ z ≤ ((len f : Int) : Rat) ∧ upTo 0 f z = upTo 0 f p + w ∧ (z.num.natAbs ≤ 251658240000 ∧ z.den ≤ 2097152000) := by
  have hle := hp.le
  obtain ⟨h1, h2, h3⟩ := plc_worth hg hle.1 hle.2 hw.h0 h
  refine ⟨h1, h2, h3, ?_⟩
  have hlb := len_bound hg
  have hL : ((len f : Int) : Rat) ≤ ((120 : Int) : Rat) := Rat.intCast_le_intCast.2 hlb.2
  have hz0 : 0 ≤ z := Rat.le_trans hle.1 h1
  have hz1 : z ≤ ((120 : Int) : Rat) := Rat.le_trans h2 hL
  obtain ⟨D, hD, hDp, hDu, hDw⟩ := hw.dv hp
  have key : ∃ v : Int, (1 ≤ v ∧ v ≤ 20) ∧ Dv (D * v) z := by
    unfold plc at h
    split at h
    · have : p = z := Option.some.inj h
      subst this
      exact ⟨1, by omega, by rw [Int.mul_one]; exact hDp⟩
    · rename_i h0
      have hwp : 0 < w := by
        have := Rat.num_nonneg.2 hw.h0
        exact num_pos_iff w |>.1 (by omega)
      have hbp := upTo_bounds hg 0 p
      obtain ⟨⟨v, hv, b', a', hy⟩, _, _⟩ := rch_some _ (units f) 0 0 z (units_le hg.2) (by have : ((0 : Int) : Rat) = 0 := rfl; grind) h
      refine ⟨v, hv, ?_⟩
      rw [hy]
      exact (Dv_int _ _).add ((((hDu f).add hDw).sub (Dv_int _ _)).div v (by omega))
  obtain ⟨v, hv, hdv⟩ := key
  have hDv : D * v ≤ 104857600 * 20 := Int.mul_le_mul hD.2 hv.2 (by omega) (by omega)
  have hDv0 : 0 < D * v := Int.mul_pos hD.1 (by omega)
  have := num_le (M := 120) hDv0 hdv (int_neg_le_zero (by omega) hz0) hz1
  omega
section
variable {L : List Int} {ws : List (AV × List Int)} {x y : AV} {A : AHeap}
/-- Where an owner calls. -/
def cq (f : List (Int × Int)) (p : Rat) (n : Nat) : Rat := (plc f p (pw f 1 n)).getD ((len f : Int) : Rat)
def cqs (L : List Int) (V : List (List Int)) (p : Rat) : List Rat := V.map fun row => cq (L.zip row) p V.length
theorem c_calls (hL : L1 A x L) (hV : LL A y ws) (h : KG L (lists ws)) (p : Rat) (hp : ∀ row ∈ lists ws, Pl (L.zip row) p) :
    ACalls Try.prog 52 [.agg [x, y], R p] A (outV 2 A ((cqs L (lists ws) p).map rp).length) (outH A (((cqs L (lists ws) p).map rp).flatMap e2) ((cqs L (lists ws) p).map rp).length) := by
  refine acalls hmix Try.func52 (by kernel_rfl) t52 2 rfl (by decide) ?_
  have hv5 := h.v5
  have hv1 := h.v1
  have hll : (lists ws).length = ws.length := by simp
  rw [hll] at hv5 hv1
  dsimp only [m52]
  simp (maxSteps := 4000000) -implicitDefEqProofs -dsimp (disch := omega) only [↓AW_ops, ↓AW_seq, ↓AW_block, ↓AOps_nil, ↓AOps_pu, on_some, ↓then_normal, pval, rd_S, rd_C, put_S, ↓AW_toLoop, chkd, isAdr, bgot, AV.cells?, partA, eq_self, List.replicate_succ, List.replicate_zero, List.set_cons_zero, List.set_cons_succ, List.getElem?_cons_zero, List.getElem?_cons_succ, List.drop_zero, List.drop_succ_cons, List.take_succ_cons, List.take_nil, Option.getD_some, List.length_cons, List.length_nil, Nat.reduceAdd, Nat.reduceSub, Nat.reduceLeDiff, Nat.zero_add, List.cons_append, List.nil_append, if_true, if_false, Bool.false_eq_true, hV.ls.len]
  refine LoopK.by 40 (fun z : Nat × AV × AHeap => z.1 ≤ ws.length ∧ AccL 2 e2 A z.2.2 z.2.1 ((cqs L (lists ws) p).take z.1 |>.map rp)) (fun z => [(2, .agg [x, y]), (3, R p), (5, z.2.1), (11, I ws.length), (12, I z.1)]) (fun z => z.2.2) (fun z => ws.length - z.1) (0, .nilS, A) ⟨by omega, AccL.nil (List.prefix_refl _)⟩ rfl (by simp [Has, rd_s]) rfl ?_
  rintro ⟨i, u, A1⟩ ⟨hi, hu⟩
  simp only at hi hu
  have hL1 := hL.mono hu.pre
  have hV1 := hV.mono hu.pre
  by_cases hlt : i < ws.length
  · obtain ⟨w, hz⟩ : ∃ z, ws[i]? = some z := ⟨_, List.getElem?_eq_getElem hlt⟩
    have hlt' : (i : Int) < ws.length := by omega
    have hmr := mem_lists (List.mem_of_getElem? hz)
    have hg := h.gd hmr
    have ht := tot_bound hg
    have hq : (cqs L (lists ws) p)[i]? = some (cq (L.zip w.2) p ws.length) := by simp [cqs, hz]
    have htl : ((cqs L (lists ws) p).take i).length = i := by rw [List.length_take]; simp [cqs]; omega
    obtain ⟨u3, A3, happ, hu3⟩ := hu.push e2_len (rp (cq (L.zip w.2) p ws.length)) (by rw [List.length_map, htl]; simp [lim]; omega)
    rw [e2_rp] at happ
    have hu3 : AccL 2 e2 A A3 u3 (((cqs L (lists ws) p).take (i + 1)).map rp) := by
      rw [List.take_add_one, hq, Option.toList_some, List.map_append]; exact hu3
    simp (maxSteps := 4000000) -implicitDefEqProofs -dsimp (disch := omega) only [↓AW_skip, ↓AW_ops, ↓AW_seq, ↓AW_cond, ↓AW_block, ↓AOps_nil, ↓AOps_pu, ↓AOps_call, on_some, condB_t, ↓then_normal, pval, rd_S, put_S, chkd, bgot, partA, eq_self, mk, List.foldl_cons, List.foldl_nil, List.replicate_succ, List.replicate_zero, List.set_cons_zero, List.set_cons_succ, List.getElem?_cons_zero, List.getElem?_cons_succ, List.drop_zero, List.take_succ_cons, List.take_nil, Option.getD_some, map_c, map_n, List.length_cons, List.length_nil, Nat.reduceAdd, Nat.reduceLeDiff, Nat.reduceEqDiff, Nat.zero_add, bin_lss, if_true, if_false, decide_true, hlt']
    refine CallK.of (c_whole hL1 hV1 h hz) ?_
    simp (maxSteps := 4000000) -implicitDefEqProofs -dsimp (disch := omega) only [↓AOps_pu, ↓AOps_call, on_some, extK_same, pval, rd_S, put_S, chkd, isAdr, bgot, AV.cells?, partA, eq_self, mk, List.foldl_cons, List.foldl_nil, List.replicate_succ, List.replicate_zero, List.set_cons_zero, List.set_cons_succ, List.getElem?_cons_zero, List.getElem?_cons_succ, List.drop_zero, List.drop_succ_cons, List.take_succ_cons, List.take_nil, Option.getD_some, map_c, map_n, List.length_cons, List.length_nil, Nat.reduceAdd, Nat.reduceLeDiff, Nat.zero_add, if_true, if_false, Bool.false_eq_true, hV1.ls.len]
    refine CallK.of (s59R _ ⟨by omega, by omega⟩ (by omega) (by omega)) ?_
    have hpw : ((tot (L.zip w.2) : Int) : Rat) / ((ws.length : Int) : Rat) = pw (L.zip w.2) 1 ws.length := by rw [pw, Int.mul_one]
    rw [hpw]
    simp (maxSteps := 4000000) -implicitDefEqProofs -dsimp (disch := omega) only [↓AOps_call, extK_same, rd_S, put_S, mk, List.foldl_cons, List.foldl_nil, List.replicate_succ, List.replicate_zero, List.set_cons_zero, List.set_cons_succ, List.getElem?_cons_zero, List.getElem?_cons_succ, Option.getD_some, map_c, map_n]
    refine CallK.of (c_mark hL1 hV1 h hz _ _ (hp _ hmr) (pw_wh hg (by omega) (by omega))) ?_
    cases hpl : plc (L.zip w.2) p (pw (L.zip w.2) 1 ws.length) with
    | none =>
      have hcq : cq (L.zip w.2) p ws.length = ((L.sum : Int) : Rat) := by rw [cq, hpl]; rw [h.lenz hmr]; rfl
      rw [hcq] at happ
      simp (maxSteps := 4000000) -implicitDefEqProofs -dsimp (disch := omega) only [↓AW_ops, ↓AW_seq, ↓AW_cond, ↓AOps_nil, ↓AOps_pu, ↓AOps_call, on_some, extK_same, condB_t, ↓then_normal, pval, rd_S, rd_C, put_S, chkd, bput, bgot, AV.cells?, splice, partA, eq_self, mk, List.foldl_cons, List.foldl_nil, List.replicate_succ, List.replicate_zero, List.set_cons_zero, List.set_cons_succ, List.getElem?_cons_zero, List.getElem?_cons_succ, List.drop_zero, List.drop_succ_cons, List.drop_nil, List.take_zero, List.take_succ_cons, List.take_nil, Option.getD_some, map_c, map_n, List.length_cons, List.length_nil, Nat.reduceAdd, Nat.reduceLeDiff, Nat.reduceEqDiff, Nat.zero_add, List.nil_append, List.append_nil, if_true, if_false, Bool.not_false, ne_eq, not_true_eq_false, oR, zeroR, Option.isSome_none]
      refine CallK.of (c_end (y := y) hL1 h) ?_
      simp (maxSteps := 4000000) -implicitDefEqProofs -dsimp (disch := omega) only [↓AOps_call, extK_same, rd_S, put_S, mk, List.foldl_cons, List.foldl_nil, List.replicate_succ, List.replicate_zero, List.set_cons_zero, List.set_cons_succ, List.getElem?_cons_zero, List.getElem?_cons_succ, Option.getD_some, map_c, map_n]
      refine CallK.of (s76 _ _) ?_
      simp (maxSteps := 4000000) -implicitDefEqProofs -dsimp (disch := omega) only [↓AW_ops, ↓AOps_nil, ↓AOps_pu, ↓AOps_ha, on_some, extK_false, extK_app, extK_same, ↓then_normal, ↓inBlock_normal, pval, hval, rd_S, rd_C, put_S, chkd, bput, bgot, AV.cells?, splice, partA, fillA, repl, eq_self, mk, List.foldl_cons, List.foldl_nil, List.replicate_succ, List.replicate_zero, List.set_cons_zero, List.set_cons_succ, List.getElem?_cons_zero, List.getElem?_cons_succ, List.drop_zero, List.drop_succ_cons, List.drop_nil, List.take_zero, List.take_succ_cons, List.take_nil, Option.getD_some, map_c, map_n, List.length_cons, List.length_nil, Nat.reduceAdd, Nat.reduceLeDiff, Nat.reduceEqDiff, Nat.zero_add, List.nil_append, List.append_nil, bin_add, w64, if_true, if_false, true_and, and_true, ne_eq, not_true_eq_false, R, happ]
      exact ⟨(i + 1, u3, A3), ⟨hlt, hu3⟩, by simp [Has, rd_s], rfl, by simp only; omega⟩
    | some z =>
      have hcq : cq (L.zip w.2) p ws.length = z := by rw [cq, hpl]; rfl
      rw [hcq] at happ
      simp (maxSteps := 4000000) -implicitDefEqProofs -dsimp (disch := omega) only [↓AW_skip, ↓AW_ops, ↓AW_seq, ↓AW_cond, ↓AOps_nil, ↓AOps_pu, ↓AOps_ha, on_some, extK_false, extK_app, extK_same, condB_f, ↓then_normal, ↓inBlock_normal, pval, hval, rd_S, rd_C, put_S, chkd, bput, bgot, AV.cells?, splice, partA, fillA, repl, eq_self, mk, List.foldl_cons, List.foldl_nil, List.replicate_succ, List.replicate_zero, List.set_cons_zero, List.set_cons_succ, List.getElem?_cons_zero, List.getElem?_cons_succ, List.drop_zero, List.drop_succ_cons, List.drop_nil, List.take_zero, List.take_succ_cons, List.take_nil, Option.getD_some, map_c, map_n, List.length_cons, List.length_nil, Nat.reduceAdd, Nat.reduceLeDiff, Nat.reduceEqDiff, Nat.zero_add, List.nil_append, List.append_nil, bin_add, w64, if_true, if_false, Bool.not_true, true_and, and_true, ne_eq, not_true_eq_false, oR, Option.isSome_some, R, happ]
      exact ⟨(i + 1, u3, A3), ⟨hlt, hu3⟩, by simp [Has, rd_s], rfl, by simp only; omega⟩
  · have hlt' : ¬ ((i : Int) < ws.length) := by omega
    simp (maxSteps := 4000000) -implicitDefEqProofs -dsimp (disch := omega) only [↓AW_ops, ↓AW_seq, ↓AW_cond, ↓AW_exit, ↓AW_ret, ↓AOps_nil, ↓AOps_pu, on_some, condB_f, ↓then_normal, ↓then_exit, ↓inBlock_exit, ↓Fin_ret, pval, rd_S, put_S, resV, resL, eq_self, mk, List.foldl_cons, List.foldl_nil, List.replicate_succ, List.replicate_zero, List.set_cons_zero, List.set_cons_succ, List.getElem?_cons_zero, List.getElem?_cons_succ, Option.getD_some, bin_lss, if_true, decide_false, hlt']
    rw [List.take_of_length_le (by simp [cqs]; omega)] at hu
    exact hu.gc flat_e2
end
end Go.Proofs.Ytmblehbjedpjoaa

namespace Go.Proofs.Ytmblehbjedpjoaa
open Go Go.Eng
/-- A piece: an owner and two places. -/
structure Pc where
  o : Int
  r : Int × Int
  s : Int × Int
  deriving DecidableEq
def e5 (p : Pc) : List AV := [I p.o, I p.r.1, I p.r.2, I p.s.1, I p.s.2]
abbrev L5 := Ls 5 e5
theorem e5_len (p : Pc) : (e5 p).length = 5 := rfl
def eb (b : Bool) : List AV := [.bool b]
theorem eb_len (b : Bool) : (eb b).length = 1 := rfl
theorem repl_eb (b : Bool) : ∀ n, repl [AV.bool b] n = (List.replicate n b).flatMap eb
  | 0 => rfl
  | n + 1 => by rw [repl, repl_eb b n, List.replicate_succ, List.flatMap_cons]; rfl
/-- Where a piece must begin. -/
def atI (pcs : List Pc) (i : Nat) : Int × Int := match (pcs.take i).getLast? with | some p => p.s | none => (0, 1)
theorem atI_zero (pcs : List Pc) : atI pcs 0 = (0, 1) := rfl
theorem atI_succ {pcs : List Pc} {i : Nat} {p : Pc} (h : pcs[i]? = some p) : atI pcs (i + 1) = p.s := by
  unfold atI
  rw [List.take_add_one, h, Option.toList_some, List.getLast?_concat]
def CPi (L : List Int) (V : List (List Int)) (pcs : List Pc) (i : Nat) (p : Pc) : Prop :=
  (0 ≤ p.o ∧ p.o ≤ (V.length : Int) - 1) ∧ p.o ∉ (pcs.take i).map Pc.o ∧ isK L p.r ∧ isK L p.s ∧ p.r = atI pcs i ∧ ¬ qr p.s < qr p.r
instance (L : List Int) (V : List (List Int)) (pcs : List Pc) (i : Nat) (p : Pc) : Decidable (CPi L V pcs i p) := by unfold CPi; exact inferInstance
/-- The common denominator, step by step; one more than the greatest if it is too great. -/
def cmn : Int → List Int → Int
  | out, [] => out
  | out, d :: ds => if 1000000 < out / (Int.gcd out d : Int) * d then 1000001 else cmn (out / (Int.gcd out d : Int) * d) ds
def plcs (pcs : List Pc) : List (Int × Int) := pcs.flatMap fun p => [p.r, p.s]
def CP (L : List Int) (V : List (List Int)) (pcs : List Pc) : Prop :=
  pcs.length = V.length ∧ (∀ i, (h : i < pcs.length) → CPi L V pcs i pcs[i]) ∧ atI pcs pcs.length = (L.sum, 1) ∧ cmn 1 ((plcs pcs).map Prod.snd) ≤ 1000000
instance (L : List Int) (V : List (List Int)) (pcs : List Pc) : Decidable (CP L V pcs) := by unfold CP; exact inferInstance
def cpE (L : List Int) (V : List (List Int)) (pcs : List Pc) : Int := if kE L V = 0 then (if CP L V pcs then 0 else 1) else kE L V
theorem gcd_div {out d : Int} (h0 : 0 < out) (hd : 0 < d) : out.tdiv (Int.gcd out d) = out / (Int.gcd out d : Int) ∧ 0 < out / (Int.gcd out d : Int) ∧ out / (Int.gcd out d : Int) ≤ out := by
  obtain ⟨g1, g2⟩ := gcd_pos (a := out) hd
  obtain ⟨x, hx⟩ := Int.gcd_dvd_left out d
  generalize (Int.gcd out d : Nat) = g at *
  have hg : (0 : Int) < g := by omega
  refine ⟨Int.tdiv_eq_ediv_of_nonneg (by omega), ?_, ?_⟩
  · rw [hx, Int.mul_ediv_cancel_left _ (by omega)]
    rcases Int.lt_or_le 0 x with h | h
    · exact h
    · have := Int.mul_nonpos_of_nonneg_of_nonpos (Int.le_of_lt hg) h; omega
  · exact Int.ediv_le_self _ (by omega)
theorem c_Common {rs : List (Int × Int)} {v : AV} {A : AHeap} (hr : L2 A v rs) (hl : rs.length ≤ 1000000) (hd : ∀ r ∈ rs, 1 ≤ r.2 ∧ r.2 ≤ 1000000) : ACalls Try.prog 90 [v, I 1000000] A (I (cmn 1 (rs.map Prod.snd))) A := by
  refine acalls hmix Try.func90 (by kernel_rfl) t90 2 rfl (by decide) ?_
  dsimp only [m90]
  simp (maxSteps := 4000000) -implicitDefEqProofs -dsimp (disch := omega) only [↓AW_ops, ↓AW_seq, ↓AW_block, ↓AOps_nil, ↓AOps_pu, on_some, ↓then_normal, pval, rd_S, rd_C, put_S, ↓AW_toLoop, List.replicate_succ, List.replicate_zero, List.set_cons_zero, List.set_cons_succ, List.getElem?_cons_zero, List.getElem?_cons_succ, Option.getD_some, Nat.reduceSub, List.cons_append, List.nil_append, hr.len]
  refine LoopK.by 30 (fun x : Nat × Int => x.1 ≤ rs.length ∧ (1 ≤ x.2 ∧ x.2 ≤ 1000000) ∧ cmn 1 (rs.map Prod.snd) = cmn x.2 ((rs.drop x.1).map Prod.snd)) (fun x => [(1, I 1000000), (5, I x.2), (8, v), (9, I rs.length), (10, I x.1)]) (fun _ => A) (fun x => rs.length - x.1) (0, 1) ⟨by omega, by omega, by simp⟩ rfl (by simp [Has, rd_s]) rfl ?_
  rintro ⟨i, out⟩ ⟨hi, ho, he⟩
  simp only at hi ho he
  by_cases hlt : i < rs.length
  · obtain ⟨z, hz⟩ : ∃ z, rs[i]? = some z := ⟨_, List.getElem?_eq_getElem hlt⟩
    have hlt' : (i : Int) < rs.length := by omega
    have hz2 := hd z (List.mem_of_getElem? hz)
    have hdr : rs.drop i = z :: rs.drop (i + 1) := by
      have := (List.getElem?_eq_some_iff.1 hz).2
      rw [← this]; exact List.drop_eq_getElem_cons hlt
    rw [hdr, List.map_cons, cmn] at he
    obtain ⟨q1, q2, q3⟩ := gcd_div (out := out) (d := z.2) (by omega) (by omega)
    have hg0 : ¬ (Int.gcd out z.2 : Int) = 0 := by have := gcd_pos (a := out) (b := z.2) (by omega); omega
    simp (maxSteps := 4000000) -implicitDefEqProofs -dsimp (disch := omega) only [↓AW_skip, ↓AW_ops, ↓AW_seq, ↓AW_cond, ↓AW_block, ↓AOps_nil, ↓AOps_pu, ↓AOps_ld, ↓AOps_call, on_some, condB_t, ↓then_normal, pval, lval, rd_S, rd_C, put_S, chkd, isAdr, bput, bgot, AV.cells?, splice, partA, eq_self, mk, List.foldl_cons, List.foldl_nil, List.replicate_succ, List.replicate_zero, List.set_cons_zero, List.set_cons_succ, List.getElem?_cons_zero, List.getElem?_cons_succ, List.drop_zero, List.drop_succ_cons, List.drop_nil, List.take_zero, List.take_succ_cons, List.take_nil, Option.getD_some, map_c, map_n, List.length_cons, List.length_nil, Nat.reduceAdd, Nat.reduceLeDiff, Nat.reduceEqDiff, Nat.zero_add, List.nil_append, List.append_nil, bin_lss, if_true, if_false, Bool.false_eq_true, decide_true, Go.Eng.e2, ne_eq, not_true_eq_false, hlt', hr.idx hlt, hr.ld0 hz 2 true (by decide), e2]
    refine CallK.of (s111 _ ⟨by omega, by omega⟩ (by omega) (by omega)) ?_
    have hm := Int.mul_le_mul (Int.le_trans q3 ho.2) hz2.2 (by omega) (by omega : (0 : Int) ≤ 1000000)
    have hm0 : 0 < out / (Int.gcd out z.2 : Int) * z.2 := Int.mul_pos q2 (by omega)
    by_cases h1 : 1000000 < out / (Int.gcd out z.2 : Int) * z.2
    · simp (maxSteps := 4000000) -implicitDefEqProofs -dsimp (disch := omega) only [↓AW_ops, ↓AW_seq, ↓AW_cond, ↓AW_ret, ↓AOps_nil, ↓AOps_pu, on_some, extK_same, condB_t, ↓then_normal, ↓then_ret, ↓inBlock_ret, ↓Fin_ret, pval, rd_S, rd_C, put_S, resV, resL, chkd, isAdr, bgot, AV.cells?, partA, eq_self, mk, List.foldl_cons, List.foldl_nil, List.replicate_succ, List.replicate_zero, List.set_cons_zero, List.set_cons_succ, List.getElem?_cons_zero, List.getElem?_cons_succ, List.drop_zero, List.drop_succ_cons, List.take_succ_cons, List.take_nil, Option.getD_some, List.length_cons, List.length_nil, Nat.reduceAdd, Nat.reduceLeDiff, Nat.zero_add, bin_add, bin_mul, bin_quo, bin_gtr, w64, if_true, if_false, Bool.false_eq_true, decide_true, Int.reduceAdd, hg0, q1, h1]
      rw [if_pos h1] at he
      exact gc_same (by rw [he])
    · simp (maxSteps := 4000000) -implicitDefEqProofs -dsimp (disch := omega) only [↓AW_skip, ↓AW_ops, ↓AW_seq, ↓AW_cond, ↓AOps_nil, ↓AOps_pu, on_some, extK_same, condB_f, ↓then_normal, ↓inBlock_normal, pval, rd_S, rd_C, put_S, chkd, isAdr, bgot, AV.cells?, partA, eq_self, mk, List.foldl_cons, List.foldl_nil, List.replicate_succ, List.replicate_zero, List.set_cons_zero, List.set_cons_succ, List.getElem?_cons_zero, List.getElem?_cons_succ, List.drop_zero, List.drop_succ_cons, List.take_succ_cons, List.take_nil, Option.getD_some, List.length_cons, List.length_nil, Nat.reduceAdd, Nat.reduceLeDiff, Nat.zero_add, bin_add, bin_mul, bin_quo, bin_gtr, w64, if_true, if_false, Bool.false_eq_true, decide_false, true_and, hg0, q1, h1]
      rw [if_neg h1] at he
      exact ⟨(i + 1, out / (Int.gcd out z.2 : Int) * z.2), ⟨hlt, by simp only; omega, he⟩, by simp [Has, rd_s], by simp only; omega⟩
  · have hlt' : ¬ ((i : Int) < rs.length) := by omega
    simp (maxSteps := 4000000) -implicitDefEqProofs -dsimp (disch := omega) only [↓AW_ops, ↓AW_seq, ↓AW_cond, ↓AW_exit, ↓AW_ret, ↓AOps_nil, ↓AOps_pu, on_some, condB_f, ↓then_normal, ↓then_exit, ↓inBlock_exit, ↓Fin_ret, pval, rd_S, put_S, resV, resL, eq_self, mk, List.foldl_cons, List.foldl_nil, List.replicate_succ, List.replicate_zero, List.set_cons_zero, List.set_cons_succ, List.getElem?_cons_zero, List.getElem?_cons_succ, Option.getD_some, bin_lss, if_true, decide_false, hlt']
    rw [List.drop_of_length_le (by omega)] at he
    exact gc_same (by rw [he]; rfl)
/-- What an older object becomes does not touch what is appended to. -/
theorem AccL_set {α : Type} {es : Nat} {e : α → List AV} {H H1 : AHeap} {v : AV} {xs : List α} (h : AccL es e H H1 v xs) {n : Nat} (hn : n < H.length) (o : AObj) : AccL es e (H.set n o) (H1.set n o) v xs := by
  obtain ⟨⟨t, rfl⟩, h2, h3⟩ := h
  refine ⟨⟨t, by rw [List.set_append_left _ _ hn]⟩, h2, ?_⟩
  rcases h3 with h3 | ⟨h0, m, h4, h5, h6⟩
  · exact .inl h3
  · refine .inr ⟨h0, m, h4, by simpa using h5, ?_⟩
    rw [List.getElem?_set_ne (by omega)]
    exact h6
theorem L2_two (A : AHeap) (r s : Int × Int) : L2 (A ++ [.cells true [I r.1, I r.2, I s.1, I s.2]]) (.sl 2 A.length 0 2 true) [r, s] := ⟨e2_len, by simp [slCells, cellsAt, e2]⟩
section
variable {L : List Int} {ws : List (AV × List Int)} {x y : AV} {A : AHeap}
theorem CP_not {V : List (List Int)} {pcs : List Pc} {i : Nat} {p : Pc} (hp : pcs[i]? = some p) (h : ¬ CPi L V pcs i p) : ¬ CP L V pcs := by
  intro hc
  obtain ⟨hi, he⟩ := List.getElem?_eq_some_iff.1 hp
  exact h (he ▸ hc.2.1 i hi)
set_option maxRecDepth 20000 in
set_option maxHeartbeats 4000000 in
theorem s35 (hL : L1 A x L) (hV : LL A y ws) (hs : Sz L ws) {pcs : List Pc} {v : AV} (hP : L5 A v pcs) (hl : pcs.length ≤ 1000000) (hW : ∀ p ∈ pcs, W p.r.1 ∧ W p.s.1) : ACalls Try.prog 35 [.agg [x, y], v] A (I (cpE L (lists ws) pcs)) A := by
  refine acalls hmix Try.func35 (by kernel_rfl) t35 2 rfl (by decide) ?_
  dsimp only [m35]
  simp (maxSteps := 4000000) -implicitDefEqProofs -dsimp (disch := omega) only [↓AW_ops, ↓AW_seq, ↓AOps_nil, ↓AOps_pu, ↓AOps_call, on_some, ↓then_normal, pval, rd_S, rd_C, put_S, chkd, bgot, AV.cells?, partA, eq_self, List.replicate_succ, List.replicate_zero, List.set_cons_zero, List.set_cons_succ, List.getElem?_cons_zero, List.getElem?_cons_succ, List.drop_zero, List.take_succ_cons, List.take_nil, Option.getD_some, map_c, map_n, List.length_cons, List.length_nil, Nat.reduceAdd, Nat.reduceSub, Nat.reduceLeDiff, Nat.reduceEqDiff, Nat.zero_add, List.cons_append, List.nil_append, if_true, if_false]
  refine CallK.of (s26 hL hV hs.l hs.v hs.w) ?_
  by_cases h0 : kE L (lists ws) = 0
  case neg =>
    simp (maxSteps := 4000000) -implicitDefEqProofs -dsimp (disch := omega) only [↓AW_ops, ↓AW_seq, ↓AW_cond, ↓AW_ret, ↓AOps_nil, ↓AOps_pu, on_some, extK_same, condB_t, ↓then_normal, ↓then_ret, ↓Fin_ret, pval, rd_S, rd_C, put_S, resV, resL, List.replicate_succ, List.replicate_zero, List.set_cons_zero, List.set_cons_succ, List.getElem?_cons_zero, List.getElem?_cons_succ, Option.getD_some, Nat.reduceSub, List.cons_append, List.nil_append, bin_neq, decide_true, not_false_eq_true, h0]
    exact gc_same (by rw [cpE, if_neg h0])
  have hg := KG.of h0
  have hv5 := hg.v5
  have hv1 := hg.v1
  have hll : (lists ws).length = ws.length := by simp
  have bad : ¬ CP L (lists ws) pcs → cpE L (lists ws) pcs = 1 := fun h => by rw [cpE, if_pos h0, if_neg h]
  by_cases hn : (pcs.length : Int) = ws.length
  case neg =>
    simp (maxSteps := 4000000) -implicitDefEqProofs -dsimp (disch := omega) only [↓AW_skip, ↓AW_ops, ↓AW_seq, ↓AW_cond, ↓AW_ret, ↓AOps_nil, ↓AOps_pu, on_some, extK_same, condB_t, condB_f, ↓then_normal, ↓then_ret, ↓Fin_ret, pval, rd_S, rd_C, put_S, resV, resL, chkd, isAdr, bgot, AV.cells?, partA, eq_self, List.replicate_succ, List.replicate_zero, List.set_cons_zero, List.set_cons_succ, List.getElem?_cons_zero, List.getElem?_cons_succ, List.drop_zero, List.drop_succ_cons, List.take_succ_cons, List.take_nil, Option.getD_some, List.length_cons, List.length_nil, Nat.reduceAdd, Nat.reduceSub, Nat.reduceLeDiff, Nat.zero_add, List.cons_append, List.nil_append, bin_neq, if_true, if_false, Bool.false_eq_true, decide_true, decide_false, not_true_eq_false, not_false_eq_true, h0, hP.len, hV.ls.len, hn]
    exact gc_same (by rw [bad (fun hc => hn (by have := hc.1; omega))])
  have hmk : (0 : Int) ≤ ws.length ∧ (ws.length : Int) ≤ ((lim : Nat) : Int) := by unfold lim; omega
  have hmk1 : ((ws.length : Int) ≤ ws.length) := Int.le_refl _
  simp (maxSteps := 4000000) -implicitDefEqProofs -dsimp (disch := omega) only [↓AW_skip, ↓AW_ops, ↓AW_seq, ↓AW_cond, ↓AOps_nil, ↓AOps_pu, ↓AOps_ha, ↓AOps_call, on_some, extK_app, extK_same, condB_f, ↓then_normal, pval, hval_mks, rd_S, rd_C, put_S, chkd, isAdr, bgot, cells_agg, partA, beq_self_eq_true, eq_self, List.replicate_succ, List.replicate_zero, List.set_cons_zero, List.set_cons_succ, List.getElem?_cons_zero, List.getElem?_cons_succ, List.drop_zero, List.drop_succ_cons, List.take_succ_cons, List.take_nil, Option.getD_some, map_c, map_n, List.length_cons, List.length_nil, Nat.reduceAdd, Nat.reduceSub, Nat.reduceLeDiff, Nat.zero_add, List.cons_append, List.nil_append, bin_neq, if_true, if_false, Bool.false_eq_true, decide_false, and_true, not_true_eq_false, h0, hP.len, hV.ls.len, hn, hmk, hmk1, Int.toNat_natCast]
  refine CallK.of (s76 _ _) ?_
  simp (maxSteps := 4000000) -implicitDefEqProofs -dsimp (disch := omega) only [↓AW_ops, ↓AW_seq, ↓AW_block, ↓AOps_nil, ↓AOps_pu, on_some, extK_same, ↓then_normal, pval, rd_S, rd_C, put_S, ↓AW_toLoop, chkd, bput, cells_agg, splice, eq_self, List.replicate_succ, List.replicate_zero, List.set_cons_zero, List.set_cons_succ, List.getElem?_cons_zero, List.getElem?_cons_succ, List.drop_succ_cons, List.drop_nil, List.take_zero, Option.getD_some, List.length_cons, List.length_nil, Nat.reduceAdd, Nat.reduceSub, Nat.reduceLeDiff, Nat.zero_add, List.cons_append, List.nil_append, List.append_nil, if_true, if_false, ne_eq, not_true_eq_false, R_int, hP.len, hn]
  rw [repl_eb]
  -- who has a piece
  have hblz : (List.range ws.length).map (fun (o : Nat) => decide ((o : Int) ∈ ((pcs.take 0).map Pc.o))) = List.replicate ws.length false := by
    apply List.ext_getElem
    · simp
    · intro i h1 h2; simp
  rw [← hblz]
  refine LoopK.by 100 (fun z : Nat × AV × AHeap => z.1 ≤ pcs.length ∧ (∀ j, (h : j < pcs.length) → j < z.1 → CPi L (lists ws) pcs j pcs[j]) ∧
      AccL 2 e2 (A ++ [.cells true (((List.range ws.length).map (fun (o : Nat) => decide ((o : Int) ∈ ((pcs.take z.1).map Pc.o)))).flatMap eb)]) z.2.2 z.2.1 (plcs (pcs.take z.1)))
    (fun z => [(2, .agg [x, y]), (6, z.2.1), (7, .sl 1 A.length 0 ws.length true), (8, .agg [I (atI pcs z.1).1, I (atI pcs z.1).2]), (27, v), (28, I ws.length), (29, I z.1)]) (fun z => z.2.2) (fun z => pcs.length - z.1) (0, .nilS, _) ⟨by omega, fun j _ hj => by omega, AccL.nil (List.prefix_refl _)⟩ rfl (by simp [Has, rd_s, atI_zero]) rfl ?_
  rintro ⟨i, u, H⟩ ⟨hi, hc, hu⟩
  simp only at hi hc hu
  have hpre : A <+: H := (pre_app _ _).trans hu.pre
  have hP1 := hP.mono hpre
  have hL1 := hL.mono hpre
  have hV1 := hV.mono hpre
  generalize hbl : (List.range ws.length).map (fun (o : Nat) => decide ((o : Int) ∈ ((pcs.take i).map Pc.o))) = bl at *
  have hbll : bl.length = ws.length := by rw [← hbl]; simp
  have hOL : OL 1 eb A H A.length (.sl 1 A.length 0 ws.length true) bl := ⟨eb_len, hpre, Nat.le_refl _, pre_get hu.pre (by simp), true, by rw [hbll]⟩
  by_cases hlt : i < pcs.length
  · obtain ⟨p, hz⟩ : ∃ z, pcs[i]? = some z := ⟨_, List.getElem?_eq_getElem hlt⟩
    have hlt' : (i : Int) < pcs.length := by omega
    have hlt2 : (i : Int) < ws.length := by omega
    obtain ⟨wr, wsn⟩ := hW p (List.mem_of_getElem? hz)
    have hnot : ∀ hh : ¬ CPi L (lists ws) pcs i p, cpE L (lists ws) pcs = 1 := fun hh => bad (CP_not hz hh)
    by_cases h1 : 0 ≤ p.o ∧ p.o ≤ (ws.length : Int) - 1
    case neg =>
      simp (maxSteps := 4000000) -implicitDefEqProofs -dsimp (disch := omega) only [↓AW_skip, ↓AW_ops, ↓AW_seq, ↓AW_cond, ↓AW_block, ↓AOps_nil, ↓AOps_pu, ↓AOps_ld, ↓AOps_call, on_some, condB_t, ↓then_normal, pval, lval, rd_S, rd_C, put_S, chkd, isAdr, bput, bgot, cells_agg, splice, partA, eq_self, mk, List.foldl_cons, List.foldl_nil, List.replicate_succ, List.replicate_zero, List.set_cons_zero, List.set_cons_succ, List.getElem?_cons_zero, List.getElem?_cons_succ, List.drop_zero, List.drop_succ_cons, List.drop_nil, List.take_zero, List.take_succ_cons, List.take_nil, Option.getD_some, map_c, map_n, List.length_cons, List.length_nil, Nat.reduceAdd, Nat.reduceLeDiff, Nat.reduceEqDiff, Nat.zero_add, List.nil_append, List.append_nil, bin_sub, bin_lss, w64, if_true, if_false, Bool.false_eq_true, decide_true, ne_eq, not_true_eq_false, hlt2, hP1.idx hlt, hP1.ld0 hz 5 true (by decide), e5, hV1.ls.len]
      refine CallK.of (c_kw _ _ _ _) ?_
      simp (maxSteps := 4000000) -implicitDefEqProofs -dsimp (disch := omega) only [↓AW_ops, ↓AW_seq, ↓AW_cond, ↓AW_ret, ↓AOps_nil, ↓AOps_pu, ↓AOps_guard, on_some, extK_same, guardB_tf, skipS_some, condB_t, ↓then_normal, ↓then_ret, ↓inBlock_ret, ↓Fin_ret, pval, rd_S, rd_C, put_S, resV, resL, eq_self, mk, List.foldl_cons, List.foldl_nil, List.replicate_succ, List.replicate_zero, List.set_cons_zero, List.set_cons_succ, List.getElem?_cons_zero, List.getElem?_cons_succ, Option.getD_some, if_true, Bool.not_false, decide_false, h1]
      exact gc_val hpre (by rw [hnot (fun hh => h1 (by have := hh.1; omega))]; rfl)
    have hidx := hOL.ls.idxI (k := .i64) h1.1 (by omega : p.o < bl.length)
    have hol : p.o.toNat < bl.length := by omega
    obtain ⟨b, hb⟩ : ∃ b, bl[p.o.toNat]? = some b := ⟨_, List.getElem?_eq_getElem hol⟩
    have hbd : b = decide (p.o ∈ (pcs.take i).map Pc.o) := by
      rw [← hbl] at hb
      have hr : (List.range ws.length)[p.o.toNat]? = some p.o.toNat := by rw [List.getElem?_range (by omega)]
      rw [List.getElem?_map, hr, Option.map_some] at hb
      have := Option.some.inj hb
      rw [← this, show ((p.o.toNat : Nat) : Int) = p.o by omega]
    have hld := hOL.ls.ld0 hb 1 false (by decide)
    have fin1 : ∀ hh : ¬ CPi L (lists ws) pcs i p, GC A (I 1) H (I (cpE L (lists ws) pcs)) A := fun hh => gc_val hpre (by rw [hnot hh]; rfl)
    by_cases h2 : p.o ∈ (pcs.take i).map Pc.o
    case pos =>
      have hbt : b = true := by rw [hbd]; exact decide_eq_true h2
      subst hbt
      simp (maxSteps := 4000000) -implicitDefEqProofs -dsimp (disch := omega) only [↓AW_skip, ↓AW_ops, ↓AW_seq, ↓AW_cond, ↓AW_block, ↓AOps_nil, ↓AOps_pu, ↓AOps_ld, ↓AOps_call, on_some, condB_t, ↓then_normal, pval, lval, rd_S, rd_C, put_S, chkd, isAdr, bput, bgot, cells_agg, splice, partA, eq_self, mk, List.foldl_cons, List.foldl_nil, List.replicate_succ, List.replicate_zero, List.set_cons_zero, List.set_cons_succ, List.getElem?_cons_zero, List.getElem?_cons_succ, List.drop_zero, List.drop_succ_cons, List.drop_nil, List.take_zero, List.take_succ_cons, List.take_nil, Option.getD_some, map_c, map_n, List.length_cons, List.length_nil, Nat.reduceAdd, Nat.reduceLeDiff, Nat.reduceEqDiff, Nat.zero_add, List.nil_append, List.append_nil, bin_sub, bin_lss, w64, if_true, if_false, Bool.false_eq_true, decide_true, ne_eq, not_true_eq_false, hlt2, hP1.idx hlt, hP1.ld0 hz 5 true (by decide), e5, hV1.ls.len]
      refine CallK.of (c_kw _ _ _ _) ?_
      simp (maxSteps := 4000000) -implicitDefEqProofs -dsimp (disch := omega) only [↓AW_ops, ↓AW_seq, ↓AW_cond, ↓AW_ret, ↓AOps_nil, ↓AOps_pu, ↓AOps_ld, ↓AOps_guard, on_some, extK_same, guardB_tf, guardB_ff, skipS_some, condB_t, ↓then_normal, ↓then_ret, ↓inBlock_ret, ↓Fin_ret, pval, lval, rd_S, rd_C, put_S, resV, resL, chkd, isAdr, bgot, cells_agg, partA, eq_self, mk, List.foldl_cons, List.foldl_nil, List.replicate_succ, List.replicate_zero, List.set_cons_zero, List.set_cons_succ, List.getElem?_cons_zero, List.getElem?_cons_succ, List.drop_zero, List.take_zero, List.take_succ_cons, List.take_nil, Option.getD_some, List.length_cons, List.length_nil, Nat.reduceAdd, Nat.reduceLeDiff, Nat.zero_add, if_true, if_false, Bool.false_eq_true, Bool.not_true, decide_true, and_true, h1, hidx, hld, eb]
      exact fin1 (fun hh => hh.2.1 h2)
    have hbf : b = false := by rw [hbd]; exact decide_eq_false h2
    subst hbf
    simp (maxSteps := 4000000) -implicitDefEqProofs -dsimp (disch := omega) only [↓AW_skip, ↓AW_ops, ↓AW_seq, ↓AW_cond, ↓AW_block, ↓AOps_nil, ↓AOps_pu, ↓AOps_ld, ↓AOps_call, on_some, condB_t, ↓then_normal, pval, lval, rd_S, rd_C, put_S, chkd, isAdr, bput, bgot, cells_agg, splice, partA, eq_self, mk, List.foldl_cons, List.foldl_nil, List.replicate_succ, List.replicate_zero, List.set_cons_zero, List.set_cons_succ, List.getElem?_cons_zero, List.getElem?_cons_succ, List.drop_zero, List.drop_succ_cons, List.drop_nil, List.take_zero, List.take_succ_cons, List.take_nil, Option.getD_some, map_c, map_n, List.length_cons, List.length_nil, Nat.reduceAdd, Nat.reduceLeDiff, Nat.reduceEqDiff, Nat.zero_add, List.nil_append, List.append_nil, bin_sub, bin_lss, w64, if_true, if_false, Bool.false_eq_true, decide_true, ne_eq, not_true_eq_false, hlt2, hP1.idx hlt, hP1.ld0 hz 5 true (by decide), e5, hV1.ls.len]
    refine CallK.of (c_kw _ _ _ _) ?_
    simp (maxSteps := 4000000) -implicitDefEqProofs -dsimp (disch := omega) only [↓AOps_pu, ↓AOps_ld, ↓AOps_call, ↓AOps_guard, on_some, extK_same, guardB_ff, pval, lval, rd_S, rd_C, put_S, chkd, isAdr, bgot, cells_agg, partA, eq_self, mk, List.foldl_cons, List.foldl_nil, List.replicate_succ, List.replicate_zero, List.set_cons_zero, List.set_cons_succ, List.getElem?_cons_zero, List.getElem?_cons_succ, List.drop_zero, List.drop_succ_cons, List.take_zero, List.take_succ_cons, List.take_nil, Option.getD_some, map_c, map_n, List.length_cons, List.length_nil, Nat.reduceAdd, Nat.reduceLeDiff, Nat.reduceEqDiff, Nat.zero_add, if_true, if_false, Bool.false_eq_true, Bool.not_true, decide_true, and_true, h1, hidx, hld, eb]
    refine CallK.of (c_isK hL1 hg p.r wr) ?_
    by_cases h3 : isK L p.r
    case neg =>
      simp (maxSteps := 4000000) -implicitDefEqProofs -dsimp (disch := omega) only [↓AW_ops, ↓AW_seq, ↓AW_cond, ↓AW_ret, ↓AOps_nil, ↓AOps_pu, ↓AOps_guard, on_some, extK_same, guardB_tf, guardB_ff, skipS_some, condB_t, ↓then_normal, ↓then_ret, ↓inBlock_ret, ↓Fin_ret, pval, rd_S, rd_C, put_S, resV, resL, eq_self, mk, List.foldl_cons, List.foldl_nil, List.replicate_succ, List.replicate_zero, List.set_cons_zero, List.set_cons_succ, List.getElem?_cons_zero, List.getElem?_cons_succ, Option.getD_some, if_true, if_false, Bool.false_eq_true, Bool.not_false, decide_false, h3]
      exact fin1 (fun hh => h3 hh.2.2.1)
    simp (maxSteps := 4000000) -implicitDefEqProofs -dsimp (disch := omega) only [↓AOps_pu, ↓AOps_call, ↓AOps_guard, on_some, extK_same, guardB_ff, pval, rd_S, rd_C, put_S, chkd, isAdr, bgot, cells_agg, partA, eq_self, mk, List.foldl_cons, List.foldl_nil, List.replicate_succ, List.replicate_zero, List.set_cons_zero, List.set_cons_succ, List.getElem?_cons_zero, List.getElem?_cons_succ, List.drop_zero, List.drop_succ_cons, List.take_succ_cons, List.take_nil, Option.getD_some, map_c, map_n, List.length_cons, List.length_nil, Nat.reduceAdd, Nat.reduceLeDiff, Nat.reduceEqDiff, Nat.zero_add, if_true, if_false, Bool.false_eq_true, Bool.not_true, decide_true, h3]
    refine CallK.of (c_isK hL1 hg p.s wsn) ?_
    by_cases h4 : isK L p.s
    case neg =>
      simp (maxSteps := 4000000) -implicitDefEqProofs -dsimp (disch := omega) only [↓AW_ops, ↓AW_seq, ↓AW_cond, ↓AW_ret, ↓AOps_nil, ↓AOps_pu, ↓AOps_guard, on_some, extK_same, guardB_tf, guardB_ff, skipS_some, condB_t, ↓then_normal, ↓then_ret, ↓inBlock_ret, ↓Fin_ret, pval, rd_S, rd_C, put_S, resV, resL, eq_self, mk, List.foldl_cons, List.foldl_nil, List.replicate_succ, List.replicate_zero, List.set_cons_zero, List.set_cons_succ, List.getElem?_cons_zero, List.getElem?_cons_succ, Option.getD_some, if_true, if_false, Bool.false_eq_true, Bool.not_false, decide_false, h4]
      exact fin1 (fun hh => h4 hh.2.2.2.1)
    by_cases h5 : p.r = atI pcs i
    case neg =>
      have hpb := pair_beq h5
      simp (maxSteps := 4000000) -implicitDefEqProofs -dsimp (disch := omega) only [↓AW_ops, ↓AW_seq, ↓AW_cond, ↓AW_ret, ↓AOps_nil, ↓AOps_pu, ↓AOps_guard, on_some, extK_same, guardB_tf, guardB_ff, skipS_some, condB_t, ↓then_normal, ↓then_ret, ↓inBlock_ret, ↓Fin_ret, pval, rd_S, rd_C, put_S, resV, resL, chkd, isAdr, bgot, cells_agg, partA, eqc, Bool.and_true, eq_self, mk, List.foldl_cons, List.foldl_nil, List.replicate_succ, List.replicate_zero, List.set_cons_zero, List.set_cons_succ, List.getElem?_cons_zero, List.getElem?_cons_succ, List.drop_zero, List.drop_succ_cons, List.take_zero, List.take_succ_cons, List.take_nil, Option.getD_some, Option.map_some, List.length_cons, List.length_nil, Nat.reduceAdd, Nat.reduceLeDiff, Nat.reduceEqDiff, Nat.zero_add, if_true, if_false, Bool.false_eq_true, Bool.not_true, Bool.not_false, decide_true, h4, hpb]
      exact fin1 (fun hh => h5 hh.2.2.2.2.1)
    obtain ⟨w0, hw0⟩ := first_row hg
    have hmr := mem_lists (List.mem_of_getElem? hw0)
    have hgd := hg.gd hmr
    obtain ⟨k1, _, _, p1⟩ := isK_R hg h3
    obtain ⟨k2, _, _, p2⟩ := isK_R hg h4
    have p1 := p1 _ hmr
    have p2 := p2 _ hmr
    have hcmp := s65 (qr p.r) (qr p.s) H (p1.sm hgd) (p2.sm hgd)
    rw [← k1, ← k2] at hcmp
    simp (maxSteps := 4000000) -implicitDefEqProofs -dsimp (disch := omega) only [↓AOps_pu, ↓AOps_call, ↓AOps_guard, on_some, extK_same, guardB_ff, pval, rd_S, rd_C, put_S, chkd, isAdr, bgot, cells_agg, partA, eqc, beq_self_eq_true, eq_self, mk, List.foldl_cons, List.foldl_nil, List.replicate_succ, List.replicate_zero, List.set_cons_zero, List.set_cons_succ, List.getElem?_cons_zero, List.getElem?_cons_succ, List.drop_zero, List.drop_succ_cons, List.take_zero, List.take_succ_cons, List.take_nil, Option.getD_some, Option.map_some, map_c, map_n, List.length_cons, List.length_nil, Nat.reduceAdd, Nat.reduceLeDiff, Nat.reduceEqDiff, Nat.zero_add, if_true, if_false, Bool.false_eq_true, Bool.not_true, Bool.true_and, decide_true, h4, ← h5]
    refine CallK.of hcmp ?_
    by_cases h6 : qr p.s < qr p.r
    case pos =>
      have h6' := (sub_pos_iff (qr p.r) (qr p.s)).2 h6
      simp (maxSteps := 4000000) -implicitDefEqProofs -dsimp (disch := omega) only [↓AW_ops, ↓AW_seq, ↓AW_cond, ↓AW_ret, ↓AOps_nil, ↓AOps_pu, ↓AOps_guard, on_some, extK_same, guardB_ff, condB_t, ↓then_normal, ↓then_ret, ↓inBlock_ret, ↓Fin_ret, pval, rd_S, rd_C, put_S, resV, resL, mk, List.foldl_cons, List.foldl_nil, List.replicate_succ, List.replicate_zero, List.set_cons_zero, List.set_cons_succ, List.getElem?_cons_zero, List.getElem?_cons_succ, Option.getD_some, bin_gtr, if_false, Bool.false_eq_true, decide_true, h6']
      exact fin1 (fun hh => hh.2.2.2.2.2 h6)
    have h6' : ¬ 0 < (qr p.r - qr p.s).num := fun hh => h6 ((sub_pos_iff _ _).1 hh)
    have hst := hOL.st hol (B true) true rfl
    have hset := hOL.set p.o.toNat true
    generalize hH1 : H.set A.length (.cells true ((bl.set p.o.toNat true).flatMap eb)) = H1 at *
    have hu1 := AccL_set hu (n := A.length) (by simp) (.cells true ((bl.set p.o.toNat true).flatMap eb))
    rw [hH1] at hu1
    have hBe : (A ++ [AObj.cells true (bl.flatMap eb)]).set A.length (.cells true ((bl.set p.o.toNat true).flatMap eb)) = A ++ [.cells true ((bl.set p.o.toNat true).flatMap eb)] := by simp
    rw [hBe] at hu1
    have hu2 := hu1.mono (pre_app H1 [.cells true [I p.r.1, I p.r.2, I p.s.1, I p.s.2]])
    have hpl : ((plcs (pcs.take i)).length : Int) ≤ 2 * i := by
      have : ∀ l : List Pc, (plcs l).length = 2 * l.length := by
        intro l
        induction l with
        | nil => rfl
        | cons a l ih => simp only [plcs, List.flatMap_cons, List.length_append, List.length_cons, List.length_nil] at *; omega
      rw [this, List.length_take]; omega
    obtain ⟨u3, H3, happ, hu3⟩ := hu2.pushes (L2_two H1 p.r p.s) (by simp [lim]; omega)
    have hbl2 : (List.range ws.length).map (fun (o : Nat) => decide ((o : Int) ∈ ((pcs.take (i + 1)).map Pc.o))) = bl.set p.o.toNat true := by
      rw [← hbl]
      apply List.ext_getElem
      · simp
      · intro k g1 g2
        simp only [List.length_map, List.length_range] at g1
        rw [List.getElem_set]
        simp only [List.getElem_map, List.getElem_range]
        have hmem : ((k : Int) ∈ (pcs.take (i + 1)).map Pc.o) ↔ ((k : Int) ∈ (pcs.take i).map Pc.o ∨ (k : Int) = p.o) := by
          rw [List.take_add_one, hz, Option.toList_some, List.map_append, List.mem_append]
          simp
        rw [decide_eq_decide.2 hmem]
        by_cases hk : p.o.toNat = k
        · rw [if_pos hk, decide_eq_true]; right; omega
        · rw [if_neg hk, decide_eq_decide]
          constructor
          · rintro (h | h)
            · exact h
            · omega
          · exact fun h => .inl h
    have hpl2 : plcs (pcs.take (i + 1)) = plcs (pcs.take i) ++ [p.r, p.s] := by
      rw [List.take_add_one, hz, Option.toList_some]
      simp [plcs]
    simp (maxSteps := 4000000) -implicitDefEqProofs -dsimp (disch := omega) only [↓AW_skip, ↓AW_ops, ↓AW_seq, ↓AW_cond, ↓AOps_nil, ↓AOps_pu, ↓AOps_ha, ↓AOps_guard, on_some, extK_false, extK_app, extK_same, guardB_ff, condB_f, ↓then_normal, ↓inBlock_normal, pval, hval_st, hval_blds, hval_app, rd_S, rd_C, put_S, putS_none, chkd, isAdr, bput, bgot, cells_agg, splice, partA, fillA, repl, eq_self, mk, List.foldl_cons, List.foldl_nil, List.replicate_succ, List.replicate_zero, List.set_cons_zero, List.set_cons_succ, List.getElem?_cons_zero, List.getElem?_cons_succ, List.drop_zero, List.drop_succ_cons, List.drop_nil, List.take_zero, List.take_succ_cons, List.take_nil, Option.getD_some, Option.map_some, map_c, map_n, List.length_cons, List.length_nil, Nat.reduceAdd, Nat.reduceLeDiff, Nat.reduceEqDiff, Nat.zero_add, List.cons_append, List.nil_append, List.append_nil, bin_add, bin_gtr, w64, if_true, if_false, Bool.false_eq_true, decide_false, true_and, and_true, ne_eq, not_true_eq_false, h6', hidx, hst, happ]
    refine ⟨(i + 1, u3, H3), ⟨hlt, fun j hj hji => ?_, ?_⟩, by simp [Has, rd_s, atI_succ hz], rfl, by simp only; omega⟩
    · by_cases hji' : j < i
      · exact hc j hj hji'
      · have : j = i := by simp only at hji; omega
        subst this
        have he : pcs[j] = p := (List.getElem?_eq_some_iff.1 hz).2
        rw [he]
        exact ⟨by omega, h2, h3, h4, h5, h6⟩
    · simp only
      rw [hbl2, hpl2]
      exact hu3
  · have hiE : i = pcs.length := by omega
    subst hiE
    have hlt' : ¬ ((pcs.length : Int) < ws.length) := by omega
    rw [List.take_length] at hu
    have hkd : ∀ r ∈ plcs pcs, 1 ≤ r.2 ∧ r.2 ≤ 1000000 := by
      intro r hr
      obtain ⟨p, hp, hr⟩ := List.mem_flatMap.1 hr
      obtain ⟨j, hj, rfl⟩ := List.mem_iff_getElem.1 hp
      have := hc j hj hj
      simp only [List.mem_cons, List.not_mem_nil, or_false] at hr
      rcases hr with rfl | rfl
      · exact this.2.2.1.1.1
      · exact this.2.2.2.1.1.1
    have hpl : (plcs pcs).length = 2 * pcs.length := by
      have : ∀ l : List Pc, (plcs l).length = 2 * l.length := by
        intro l
        induction l with
        | nil => rfl
        | cons a l ih => simp only [plcs, List.flatMap_cons, List.length_append, List.length_cons, List.length_nil] at *; omega
      exact this pcs
    simp (maxSteps := 4000000) -implicitDefEqProofs -dsimp (disch := omega) only [↓AW_ops, ↓AW_seq, ↓AW_cond, ↓AW_exit, ↓AOps_nil, ↓AOps_pu, ↓AOps_call, on_some, condB_f, ↓then_normal, ↓then_exit, ↓inBlock_exit, pval, rd_S, put_S, chkd, bgot, partA, eq_self, mk, List.foldl_cons, List.foldl_nil, List.replicate_succ, List.replicate_zero, List.set_cons_zero, List.set_cons_succ, List.getElem?_cons_zero, List.getElem?_cons_succ, List.drop_zero, List.take_succ_cons, List.take_nil, Option.getD_some, map_c, map_n, List.length_cons, List.length_nil, Nat.reduceAdd, Nat.reduceLeDiff, Nat.reduceEqDiff, Nat.zero_add, bin_lss, if_true, if_false, decide_false, hlt']
    refine CallK.of (c_end (y := y) hL1 hg) ?_
    simp (maxSteps := 4000000) -implicitDefEqProofs -dsimp (disch := omega) only [↓AOps_call, extK_same, rd_S, put_S, mk, List.foldl_cons, List.foldl_nil, List.replicate_succ, List.replicate_zero, List.set_cons_zero, List.set_cons_succ, List.getElem?_cons_zero, List.getElem?_cons_succ, Option.getD_some, map_c, map_n]
    refine CallK.of (s76 _ _) ?_
    simp (maxSteps := 4000000) -implicitDefEqProofs -dsimp (disch := omega) only [↓AOps_pu, ↓AOps_guard, on_some, extK_same, pval, rd_S, put_S, eqc, Bool.and_true, eq_self, mk, List.foldl_cons, List.foldl_nil, List.replicate_succ, List.replicate_zero, List.set_cons_zero, List.set_cons_succ, List.getElem?_cons_zero, List.getElem?_cons_succ, Option.getD_some, Option.map_some, if_true, R_int]
    by_cases h7 : atI pcs pcs.length = (L.sum, 1)
    case neg =>
      have hpb : ((atI pcs pcs.length).1 == L.sum && (atI pcs pcs.length).2 == 1) = false := pair_beq h7
      simp (maxSteps := 4000000) -implicitDefEqProofs -dsimp (disch := omega) only [↓AW_ops, ↓AW_seq, ↓AW_cond, ↓AW_ret, ↓AOps_nil, ↓AOps_pu, ↓AOps_guard, on_some, guardB_tf, skipS_some, condB_t, ↓then_normal, ↓then_ret, ↓Fin_ret, pval, rd_S, rd_C, put_S, resV, resL, eq_self, mk, List.foldl_cons, List.foldl_nil, List.replicate_succ, List.replicate_zero, List.set_cons_zero, List.set_cons_succ, List.getElem?_cons_zero, List.getElem?_cons_succ, Option.getD_some, if_true, Bool.not_false, hpb]
      exact gc_val hpre (by rw [bad (fun hc => h7 hc.2.2.1)]; rfl)
    have h7a : (atI pcs pcs.length).1 = L.sum := by rw [h7]
    have h7b : (atI pcs pcs.length).2 = 1 := by rw [h7]
    simp (maxSteps := 4000000) -implicitDefEqProofs -dsimp (disch := omega) only [↓AOps_pu, ↓AOps_call, ↓AOps_guard, on_some, guardB_ff, pval, rd_S, rd_C, put_S, beq_self_eq_true, Bool.and_self, mk, List.foldl_cons, List.foldl_nil, List.replicate_succ, List.replicate_zero, List.set_cons_zero, List.set_cons_succ, List.getElem?_cons_zero, List.getElem?_cons_succ, Option.getD_some, map_c, map_n, Bool.not_true, h7a, h7b]
    refine CallK.of (c_Common (AccL_ls hu e2_len) (by omega) hkd) ?_
    by_cases h8 : cmn 1 ((plcs pcs).map Prod.snd) ≤ 1000000
    · have h8' : ¬ 1000000 < cmn 1 ((plcs pcs).map Prod.snd) := by omega
      simp (maxSteps := 4000000) -implicitDefEqProofs -dsimp (disch := omega) only [↓AW_skip, ↓AW_ops, ↓AW_seq, ↓AW_cond, ↓AW_ret, ↓AOps_nil, ↓AOps_pu, ↓AOps_guard, on_some, extK_same, guardB_ff, condB_f, ↓then_normal, ↓Fin_ret, pval, rd_S, rd_C, put_S, resV, resL, beq_self_eq_true, Bool.and_self, mk, List.foldl_cons, List.foldl_nil, List.replicate_succ, List.replicate_zero, List.set_cons_zero, List.set_cons_succ, List.getElem?_cons_zero, List.getElem?_cons_succ, Option.getD_some, bin_gtr, if_false, Bool.false_eq_true, Bool.not_true, decide_false, h8', h7a, h7b]
      refine gc_val hpre ?_
      rw [cpE, if_pos h0, if_pos ⟨by omega, fun j hj => hc j hj hj, h7, h8⟩]
      rfl
    · have h8' : 1000000 < cmn 1 ((plcs pcs).map Prod.snd) := by omega
      simp (maxSteps := 4000000) -implicitDefEqProofs -dsimp (disch := omega) only [↓AW_ops, ↓AW_seq, ↓AW_cond, ↓AW_ret, ↓AOps_nil, ↓AOps_pu, ↓AOps_guard, on_some, extK_same, guardB_ff, condB_t, ↓then_normal, ↓then_ret, ↓Fin_ret, pval, rd_S, rd_C, put_S, resV, resL, beq_self_eq_true, Bool.and_self, mk, List.foldl_cons, List.foldl_nil, List.replicate_succ, List.replicate_zero, List.set_cons_zero, List.set_cons_succ, List.getElem?_cons_zero, List.getElem?_cons_succ, Option.getD_some, bin_gtr, if_false, Bool.false_eq_true, Bool.not_true, decide_true, h8', h7a, h7b]
      exact gc_val hpre (by rw [bad (fun hc => h8 hc.2.2.2)]; rfl)
end
end Go.Proofs.Ytmblehbjedpjoaa

namespace Go.Proofs.Ytmblehbjedpjoaa
open Go Go.Eng
theorem lcm_facts {out d : Int} (h0 : 0 < out) (hd : 0 < d) : 0 < out / (Int.gcd out d : Int) * d ∧ out ∣ out / (Int.gcd out d : Int) * d ∧ d ∣ out / (Int.gcd out d : Int) * d ∧ ∀ D, out ∣ D → d ∣ D → out / (Int.gcd out d : Int) * d ∣ D := by
  obtain ⟨_, q2, _⟩ := gcd_div h0 hd
  obtain ⟨g1, g2⟩ := gcd_pos (a := out) hd
  refine ⟨Int.mul_pos q2 hd, ?_, Int.dvd_mul_left _ _, fun D h1 h2 => ?_⟩
  · obtain ⟨x, hx⟩ := Int.gcd_dvd_left out d
    obtain ⟨y, hy⟩ := Int.gcd_dvd_right out d
    generalize (Int.gcd out d : Nat) = g at *
    refine ⟨y, ?_⟩
    rw [hx, Int.mul_ediv_cancel_left _ (by omega)]
    rw [hy]
    rw [← Int.mul_assoc, Int.mul_comm x]
  · obtain ⟨z, hz⟩ := h1
    have hgd := Int.gcd_dvd_left out d
    have hl : out / (Int.gcd out d : Int) * d = (Int.lcm out d : Int) := by
      have e1 : (Int.gcd out d : Int) * (Int.lcm out d : Int) = (out * d) := by
        have := Int.gcd_mul_lcm out d
        have h3 : ((Int.gcd out d * Int.lcm out d : Nat) : Int) = ((out * d).natAbs : Int) := by rw [this, Int.natAbs_mul]
        rw [Int.natCast_mul] at h3
        rw [h3, Int.natAbs_of_nonneg (Int.le_of_lt (Int.mul_pos h0 hd))]
      obtain ⟨x, hx⟩ := hgd
      have hg0 : (Int.gcd out d : Int) ≠ 0 := by omega
      have e2 : out / (Int.gcd out d : Int) = x := by
        conv => lhs; lhs; rw [hx]
        exact Int.mul_ediv_cancel_left _ hg0
      rw [e2]
      have e3 : (Int.gcd out d : Int) * (Int.lcm out d : Int) = (Int.gcd out d : Int) * (x * d) := by
        rw [e1, ← Int.mul_assoc, ← hx]
      exact (Int.eq_of_mul_eq_mul_left hg0 e3).symm
    rw [hl]
    exact Int.coe_lcm_dvd ⟨z, hz⟩ h2
theorem cmn_dvd : ∀ (ds : List Int) (out : Int), 0 < out → (∀ d ∈ ds, 0 < d) → cmn out ds ≤ 1000000 → 0 < cmn out ds ∧ out ∣ cmn out ds ∧ ∀ d ∈ ds, d ∣ cmn out ds
  | [], out, h0, _, _ => ⟨h0, Int.dvd_refl _, by simp⟩
  | d :: ds, out, h0, hd, h => by
    obtain ⟨l1, l2, l3, _⟩ := lcm_facts h0 (hd d (by simp))
    rw [cmn] at h ⊢
    split at h
    · omega
    · rename_i hn
      rw [if_neg hn]
      obtain ⟨r1, r2, r3⟩ := cmn_dvd ds _ l1 (fun e he => hd e (by simp [he])) h
      refine ⟨r1, Int.dvd_trans l2 r2, fun e he => ?_⟩
      rcases List.mem_cons.1 he with rfl | he
      · exact Int.dvd_trans l3 r2
      · exact r3 e he
theorem cmn_le {D : Int} (hD : 0 < D ∧ D ≤ 1000000) : ∀ (ds : List Int) (out : Int), 0 < out → out ∣ D → (∀ d ∈ ds, 0 < d ∧ d ∣ D) → cmn out ds ≤ 1000000
  | [], out, h0, h, _ => by
    have := Int.le_of_dvd hD.1 h
    show out ≤ 1000000
    omega
  | d :: ds, out, h0, h, hd => by
    obtain ⟨l1, _, _, l4⟩ := lcm_facts h0 (hd d (by simp)).1
    have hl := l4 D h (hd d (by simp)).2
    have := Int.le_of_dvd hD.1 hl
    rw [cmn, if_neg (by omega)]
    exact cmn_le hD ds _ l1 hl (fun e he => hd e (by simp [he]))
section
variable {L : List Int} {ws : List (AV × List Int)} {x y : AV} {A : AHeap}
/-- The places of pieces that are accepted have a small denominator in common. -/
theorem CP.dv {V : List (List Int)} {pcs : List Pc} (h : CP L V pcs) : ∃ D : Int, (0 < D ∧ D ≤ 1000000) ∧ ∀ p ∈ pcs, Dv D (qr p.r) ∧ Dv D (qr p.s) := by
  have hpos : ∀ r ∈ plcs pcs, 0 < r.2 ∧ Int.gcd r.1 r.2 = 1 := by
    intro r hr
    obtain ⟨p, hp, hr⟩ := List.mem_flatMap.1 hr
    obtain ⟨j, hj, rfl⟩ := List.mem_iff_getElem.1 hp
    have := h.2.1 j hj
    simp only [List.mem_cons, List.not_mem_nil, or_false] at hr
    rcases hr with rfl | rfl
    · exact ⟨by have := this.2.2.1.1.1; omega, this.2.2.1.1.2⟩
    · exact ⟨by have := this.2.2.2.1.1.1; omega, this.2.2.2.1.1.2⟩
  obtain ⟨h1, _, h3⟩ := cmn_dvd ((plcs pcs).map Prod.snd) 1 (by omega) (fun d hd => by obtain ⟨r, hr, rfl⟩ := List.mem_map.1 hd; exact (hpos r hr).1) h.2.2.2
  have key : ∀ r ∈ plcs pcs, Dv (cmn 1 ((plcs pcs).map Prod.snd)) (qr r) := by
    intro r hr
    have e := R_of (hpos r hr).1 (hpos r hr).2
    have hd := (R_inj e.symm).2
    refine (Dv_self (qr r)).dvd ?_
    show ((((r.1 : Rat) / (r.2 : Rat)).den : Int)) ∣ _
    rw [hd]
    exact h3 _ (List.mem_map_of_mem hr)
  refine ⟨_, ⟨h1, h.2.2.2⟩, fun p hp => ⟨key _ (List.mem_flatMap.2 ⟨p, hp, by simp⟩), key _ (List.mem_flatMap.2 ⟨p, hp, by simp⟩)⟩⟩
theorem qr_zero : qr (0, 1) = ((0 : Int) : Rat) := by
  unfold qr
  rw [Rat.div_def]
  exact Rat.zero_mul _
theorem qr_one (n : Int) : qr (n, 1) = (n : Rat) := by
  unfold qr
  show (n : Rat) / ((1 : Int) : Rat) = (n : Rat)
  rw [int1]
  grind
theorem upTo_at0 {f : List (Int × Int)} (hg : good f) : upTo 0 f ((0 : Int) : Rat) = 0 := upTo_none _ f 0 (all_pos hg.2) Rat.le_refl
theorem isK_ends {V : List (List Int)} (h : KG L V) : isK L (0, 1) ∧ isK L (L.sum, 1) := by
  have := h.sum
  refine ⟨⟨⟨by omega, by decide⟩, by simp only; omega⟩, ⟨⟨by omega, by simp⟩, by simp only; omega⟩⟩
end
end Go.Proofs.Ytmblehbjedpjoaa

namespace Go.Proofs.Ytmblehbjedpjoaa
open Go Go.Eng
/-- The element that the search stops at. -/
def At (pcs : List Pc) (o : Int) (i : Nat) (p : Pc) : Prop := pcs[i]? = some p ∧ p.o = o ∧ ∀ j, j < i → ∀ q, pcs[j]? = some q → ¬ q.o = o
theorem At.ex {pcs : List Pc} {o : Int} (h : ∃ p ∈ pcs, p.o = o) : ∃ i p, At pcs o i p := by
  induction pcs with
  | nil => obtain ⟨p, hp, _⟩ := h; simp at hp
  | cons a l ih =>
    by_cases ha : a.o = o
    · exact ⟨0, a, rfl, ha, fun j hj => by omega⟩
    · obtain ⟨p, hp, hpo⟩ := h
      rcases List.mem_cons.1 hp with rfl | hp
      · exact absurd hpo ha
      · obtain ⟨i, q, h1, h2, h3⟩ := ih ⟨p, hp, hpo⟩
        refine ⟨i + 1, q, by simpa using h1, h2, fun j hj q' hq => ?_⟩
        cases j with
        | zero => simp at hq; subst hq; exact ha
        | succ j => exact h3 j (by omega) q' (by simpa using hq)
theorem ld_new (A : AHeap) (x : AV) (l : List AV) : ldA 1 false (.ptr A.length 0) (A ++ [.cells true (x :: l)]) = some x := by
  simp [ldA, partA]
theorem c_own1 (p : Pc) (o : Int) (A : AHeap) : ACalls Try.prog 123 [.agg (e5 p), .ptr A.length 0] (A ++ [.cells true [I o]]) (B (decide (p.o = o))) (A ++ [.cells true [I o]]) := by
  refine acalls hmix Try.func123 (by kernel_rfl) t123 2 rfl (by decide) ?_
  dsimp only [m123]
  simp (maxSteps := 4000000) -implicitDefEqProofs -dsimp (disch := omega) only [↓AW_ops, ↓AW_seq, ↓AW_ret, ↓AOps_nil, ↓AOps_pu, ↓AOps_ld, on_some, ↓then_normal, ↓Fin_ret, pval, lval, rd_S, rd_C, put_S, resV, resL, chkd, isAdr, bgot, AV.cells?, partA, eq_self, List.replicate_succ, List.replicate_zero, List.set_cons_zero, List.set_cons_succ, List.getElem?_cons_zero, List.getElem?_cons_succ, List.drop_zero, List.take_zero, List.take_succ_cons, Option.getD_some, List.length_cons, List.length_nil, Nat.reduceAdd, Nat.reduceSub, Nat.reduceLeDiff, Nat.zero_add, List.cons_append, List.nil_append, bin_eql, if_true, if_false, Bool.false_eq_true, e5, ld_new]
  exact gc_same rfl
theorem c_idx5 {pcs : List Pc} {v : AV} {A : AHeap} (hx : L5 A v pcs) (hl : pcs.length ≤ 1000000) (f : FuncId) (cap : List AV) (o : Int) (hg : ∀ p : Pc, ACalls Try.prog f ([.agg (e5 p)] ++ cap) A (B (decide (p.o = o))) A) {i : Nat} {p : Pc} (hp : At pcs o i p) : ACalls Try.prog 122 [v, .fn f cap] A (I i) A := by
  refine acalls hmix Try.func122 (by kernel_rfl) t122 2 rfl (by decide) ?_
  obtain ⟨h1, h2, h3⟩ := hp
  have hi0 : i < pcs.length := (List.getElem?_eq_some_iff.1 h1).1
  dsimp only [m122]
  simp (maxSteps := 4000000) -implicitDefEqProofs -dsimp (disch := omega) only [↓AW_ops, ↓AW_seq, ↓AW_block, ↓AOps_nil, ↓AOps_pu, on_some, ↓then_normal, pval, rd_S, rd_C, put_S, ↓AW_toLoop, List.replicate_succ, List.replicate_zero, List.set_cons_zero, List.set_cons_succ, List.getElem?_cons_zero, List.getElem?_cons_succ, Option.getD_some, Nat.reduceSub, List.cons_append, List.nil_append, hx.len]
  refine LoopK.by 19 (fun k : Nat => k ≤ i) (fun k => [(0, v), (1, .fn f cap), (7, I pcs.length), (8, I k)]) (fun _ => A) (fun k => pcs.length - k) 0 (by omega) rfl (by simp [Has, rd_s]) rfl ?_
  intro k hk
  have hlt : k < pcs.length := by omega
  obtain ⟨z, hz⟩ : ∃ z, pcs[k]? = some z := ⟨_, List.getElem?_eq_getElem hlt⟩
  have hlt' : (k : Int) < pcs.length := by omega
  have hcz := hg z
  unfold e5 at hcz
  simp (maxSteps := 4000000) -implicitDefEqProofs -dsimp (disch := omega) only [↓AW_skip, ↓AW_ops, ↓AW_seq, ↓AW_cond, ↓AW_block, ↓AOps_nil, ↓AOps_pu, ↓AOps_ld, ↓AOps_callv, on_some, CallF_fn, condB_t, ↓then_normal, pval, lval, rd_S, put_S, partA, eq_self, mk, List.foldl_cons, List.foldl_nil, List.replicate_succ, List.replicate_zero, List.set_cons_zero, List.set_cons_succ, List.getElem?_cons_zero, List.getElem?_cons_succ, List.drop_zero, List.take_succ_cons, List.take_nil, Option.getD_some, map_c, map_n, List.length_cons, List.length_nil, Nat.reduceAdd, Nat.reduceLeDiff, Nat.reduceEqDiff, Nat.zero_add, List.cons_append, List.nil_append, bin_lss, if_true, if_false, decide_true, hlt', hx.idx hlt, hx.ld0 hz 5 true (by decide), e5]
  by_cases hki : k = i
  · subst hki
    rw [hz] at h1
    have := Option.some.inj h1
    subst this
    refine CallK.of (hcz) ?_
    simp (maxSteps := 4000000) -implicitDefEqProofs -dsimp (disch := omega) only [↓AW_ops, ↓AW_seq, ↓AW_cond, ↓AW_ret, ↓AOps_nil, ↓AOps_pu, on_some, extK_same, condB_t, ↓then_normal, ↓then_ret, ↓inBlock_ret, ↓Fin_ret, pval, rd_S, put_S, resV, resL, eq_self, mk, List.foldl_cons, List.foldl_nil, List.replicate_succ, List.replicate_zero, List.set_cons_zero, List.set_cons_succ, List.getElem?_cons_zero, List.getElem?_cons_succ, Option.getD_some, decide_true, h2]
    exact gc_same rfl
  · have hne := h3 k (by omega) z hz
    refine CallK.of (hcz) ?_
    simp (maxSteps := 4000000) -implicitDefEqProofs -dsimp (disch := omega) only [↓AW_skip, ↓AW_ops, ↓AW_cond, ↓AOps_nil, ↓AOps_pu, on_some, extK_same, condB_f, ↓then_normal, ↓inBlock_normal, pval, rd_S, rd_C, put_S, eq_self, mk, List.foldl_cons, List.foldl_nil, List.replicate_succ, List.replicate_zero, List.set_cons_zero, List.set_cons_succ, List.getElem?_cons_zero, List.getElem?_cons_succ, Option.getD_some, List.length_cons, List.length_nil, Nat.reduceAdd, Nat.zero_add, bin_add, w64, decide_false, true_and, hne]
    exact ⟨k + 1, by omega, by simp [Has, rd_s], by omega⟩
theorem c_own {pcs : List Pc} {v : AV} {A : AHeap} (hx : L5 A v pcs) (hl : pcs.length ≤ 1000000) {o : Int} {i : Nat} {p : Pc} (hp : At pcs o i p) : ACalls Try.prog 101 [v, I o] A (.agg [I p.o, I p.r.1, I p.r.2, I p.s.1, I p.s.2]) A := by
  refine acalls hmix Try.func101 (by kernel_rfl) t101 2 rfl (by decide) ?_
  have hpr := pre_app A [.cells true [I o]]
  have hx1 := hx.mono hpr
  have hlt : i < pcs.length := (List.getElem?_eq_some_iff.1 hp.1).1
  dsimp only [m101]
  simp (maxSteps := 4000000) -implicitDefEqProofs -dsimp (disch := omega) only [↓AW_ops, ↓AW_seq, ↓AOps_nil, ↓AOps_pu, ↓AOps_ha, ↓AOps_call, on_some, extK_app, ↓then_normal, pval, hval, rd_S, rd_C, put_S, AV.cells?, List.replicate_succ, List.replicate_zero, List.set_cons_zero, List.set_cons_succ, List.getElem?_cons_zero, List.getElem?_cons_succ, Option.getD_some, map_c, map_n, Nat.reduceSub, List.cons_append, List.nil_append]
  refine CallK.of (c_idx5 hx1 hl 123 [.ptr A.length 0] o (fun p => c_own1 p o A) hp) ?_
  simp (maxSteps := 4000000) -implicitDefEqProofs -dsimp (disch := omega) only [↓AW_ret, ↓AOps_nil, ↓AOps_pu, ↓AOps_ld, on_some, extK_same, ↓then_normal, ↓Fin_ret, pval, lval, rd_S, put_S, resV, resL, chkd, bput, bgot, AV.cells?, splice, partA, eq_self, List.replicate_succ, List.replicate_zero, List.set_cons_zero, List.set_cons_succ, List.getElem?_cons_zero, List.getElem?_cons_succ, List.drop_zero, List.drop_succ_cons, List.drop_nil, List.take_zero, List.take_succ_cons, List.take_nil, Option.getD_some, List.length_cons, List.length_nil, Nat.reduceAdd, Nat.reduceSub, Nat.reduceLeDiff, Nat.reduceEqDiff, Nat.zero_add, List.cons_append, List.nil_append, List.append_nil, if_true, if_false, ne_eq, not_true_eq_false, hx1.idx hlt, hx1.ld0 hp.1 5 true (by decide), e5]
  exact gc_val hpr rfl
section
variable {L : List Int} {ws : List (AV × List Int)} {x y : AV} {A : AHeap}
theorem rp_isK {V : List (List Int)} (h : KG L V) {z : Rat} (h0 : 0 ≤ z) (h1 : z ≤ ((L.sum : Int) : Rat)) (hd : (z.den : Int) ≤ 1000000) : isK L (rp z) ∧ qr (rp z) = z := by
  refine ⟨⟨⟨⟨?_, hd⟩, ?_⟩, ?_, ?_⟩, (R_self z).symm⟩
  · have := den_pos z
    show 1 ≤ (z.den : Int)
    omega
  · show Int.gcd z.num (z.den : Int) = 1
    have := z.reduced
    unfold Int.gcd
    simpa [Nat.Coprime] using this
  · exact Rat.num_nonneg.2 h0
  · rw [Rat.le_iff] at h1
    have h1 : z.num * (1 : Int) ≤ L.sum * (z.den : Int) := h1
    show z.num ≤ L.sum * (z.den : Int)
    omega
end
end Go.Proofs.Ytmblehbjedpjoaa

