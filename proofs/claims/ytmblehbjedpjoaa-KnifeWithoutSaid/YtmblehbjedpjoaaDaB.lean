/- What the law's proof rests on, part 4: for all that is said in each line. No conditions. -/
import Derived.Test.YtmblehbjedpjoaaDaA
namespace Go.Proofs.Ytmblehbjedpjoaa
open Go Go.Eng
theorem s125 (n lo hi : Int) (A : AHeap) : ACalls Try.prog 125 [I n, I lo, I hi] A (B (decide (lo ≤ n ∧ n ≤ hi))) A := by
  refine acalls hmix Try.func125 (by kernel_rfl) t125 3 rfl (by decide) ?_
  by_cases h : lo ≤ n
  · dsimp only [m125]
    simp (maxSteps := 4000000) -implicitDefEqProofs -dsimp (disch := omega) only [↓AW_ops, ↓AW_seq, ↓AW_ret, ↓AOps_nil, ↓AOps_pu, ↓AOps_guard, on_some, guardB_tt, ↓then_normal, ↓Fin_ret, pval, rd_S, rd_C, put_S, resV, resL, eq_self, List.replicate_succ, List.replicate_zero, List.set_cons_zero, List.set_cons_succ, List.getElem?_cons_zero, List.getElem?_cons_succ, Option.getD_some, Nat.reduceSub, List.cons_append, List.nil_append, bin_leq, bin_geq, if_true, decide_true, true_and, h]
    exact gc_same rfl
  · dsimp only [m125]
    simp (maxSteps := 4000000) -implicitDefEqProofs -dsimp (disch := omega) only [↓AW_ops, ↓AW_seq, ↓AW_ret, ↓AOps_nil, ↓AOps_pu, ↓AOps_guard, on_some, guardB_ft, skipS_some, ↓then_normal, ↓Fin_ret, pval, rd_S, rd_C, put_S, resV, resL, List.replicate_succ, List.replicate_zero, List.set_cons_zero, List.set_cons_succ, List.getElem?_cons_zero, List.getElem?_cons_succ, Option.getD_some, Nat.reduceSub, List.cons_append, List.nil_append, bin_geq, if_false, Bool.false_eq_true, decide_false, h]
    exact gc_same rfl
theorem s91min {b : Int} (A : AHeap) (hb0 : 0 < b) (hb : b ≤ 9223372036854775807) : ACalls Try.prog 91 [I (-9223372036854775808), I b] A (I b) A := by
  refine acalls hmix Try.func91 (by kernel_rfl) t91 2 rfl (by decide) ?_
  have hw : IntKind.i64.wrap 9223372036854775808 = -9223372036854775808 := by decide
  dsimp only [m91]
  simp (maxSteps := 4000000) -implicitDefEqProofs -dsimp (disch := omega) only [↓AW_ops, ↓AW_seq, ↓AW_block, ↓AOps_nil, ↓AOps_pu, on_some, ↓then_normal, pval, rd_S, rd_C, put_S, ↓AW_toLoop, List.replicate_succ, List.replicate_zero, List.set_cons_zero, List.set_cons_succ, List.getElem?_cons_zero, List.getElem?_cons_succ, Option.getD_some, map_c, map_n, Nat.reduceSub, List.cons_append, List.nil_append, mm_max, w64, Int.reduceNeg, Int.reduceSub, hw]
  have q0 : max (-9223372036854775808 : Int) (-9223372036854775808) = -9223372036854775808 := by decide
  have q1 : max b (0 - b) = b := by omega
  rw [q0, q1]
  refine LoopK.by 24 (fun x : Int × Int => (x.1 = -9223372036854775808 ∧ x.2 = b) ∨ (x.1 = b ∧ x.2 ≤ 0)) (fun x => [(5, I x.1), (6, I x.2)]) (fun _ => A) (fun x => x.2.toNat) (-9223372036854775808, b) (.inl ⟨rfl, rfl⟩) rfl (by simp [Has, rd_s]) rfl ?_
  rintro ⟨x, y⟩ hxy
  simp only at hxy
  by_cases hy0 : 0 < y
  · have hne : ¬ y = 0 := by omega
    obtain ⟨rfl, rfl⟩ : x = -9223372036854775808 ∧ y = b := by
      rcases hxy with h | h
      · exact h
      · omega
    have hm := Int.tmod_nonneg (a := 9223372036854775808) y (by omega)
    have hm2 : (-9223372036854775808 : Int).tmod y = -((9223372036854775808 : Int).tmod y) := Int.neg_tmod _ _
    simp (maxSteps := 4000000) -implicitDefEqProofs -dsimp (disch := omega) only [↓AW_skip, ↓AW_ops, ↓AW_seq, ↓AW_cond, ↓AW_block, ↓AOps_nil, ↓AOps_pu, on_some, condB_t, ↓then_normal, ↓inBlock_normal, pval, rd_S, rd_C, put_S, eq_self, mk, List.foldl_cons, List.foldl_nil, List.replicate_succ, List.replicate_zero, List.set_cons_zero, List.set_cons_succ, List.getElem?_cons_zero, List.getElem?_cons_succ, Option.getD_some, List.length_cons, List.length_nil, Nat.reduceAdd, Nat.zero_add, bin_rem, bin_gtr, if_false, decide_true, true_and, Int.reduceNeg, hy0, hne]
    exact ⟨(y, (-9223372036854775808 : Int).tmod y), .inr ⟨rfl, by simp only; omega⟩, by simp [Has, rd_s], by simp only; omega⟩
  · obtain ⟨rfl, _⟩ : x = b ∧ y ≤ 0 := by
      rcases hxy with h | h
      · omega
      · exact h
    simp (maxSteps := 4000000) -implicitDefEqProofs -dsimp (disch := omega) only [↓AW_ops, ↓AW_seq, ↓AW_cond, ↓AW_exit, ↓AW_ret, ↓AOps_nil, ↓AOps_pu, on_some, condB_f, ↓then_normal, ↓then_exit, ↓inBlock_exit, ↓Fin_ret, pval, rd_S, rd_C, put_S, resV, resL, eq_self, mk, List.foldl_cons, List.foldl_nil, List.replicate_succ, List.replicate_zero, List.set_cons_zero, List.set_cons_succ, List.getElem?_cons_zero, List.getElem?_cons_succ, Option.getD_some, bin_gtr, if_true, decide_false, hy0]
    exact gc_same rfl
/-- Whether the document takes a fraction for valid: at the least number its divisor is another one. -/
def vI (r : Int × Int) (most : Int) : Prop := (1 ≤ r.2 ∧ r.2 ≤ most) ∧ (if r.1 = -9223372036854775808 then r.2 = 1 else Int.gcd r.1 r.2 = 1)
instance (r : Int × Int) (most : Int) : Decidable (vI r most) := by unfold vI; exact inferInstance
theorem s106 (r : Int × Int) (most : Int) (A : AHeap) (h : W r.1) (hm : most ≤ 1048576) : ACalls Try.prog 106 [.agg [I r.1, I r.2], I most] A (B (decide (vI r most))) A := by
  refine acalls hmix Try.func106 (by kernel_rfl) t106 2 rfl (by decide) ?_
  dsimp only [m106]
  simp (maxSteps := 4000000) -implicitDefEqProofs -dsimp (disch := omega) only [↓AW_ops, ↓AW_seq, ↓AOps_nil, ↓AOps_pu, ↓AOps_call, on_some, ↓then_normal, pval, rd_S, rd_C, put_S, chkd, isAdr, bgot, AV.cells?, partA, eq_self, List.replicate_succ, List.replicate_zero, List.set_cons_zero, List.set_cons_succ, List.getElem?_cons_zero, List.getElem?_cons_succ, List.drop_zero, List.drop_succ_cons, List.take_succ_cons, List.take_nil, Option.getD_some, map_c, map_n, List.length_cons, List.length_nil, Nat.reduceAdd, Nat.reduceSub, Nat.reduceLeDiff, Nat.zero_add, List.cons_append, List.nil_append, if_true, if_false, Bool.false_eq_true]
  refine CallK.of (s125 _ _ _ _) ?_
  by_cases h1 : 1 ≤ r.2 ∧ r.2 ≤ most
  · simp (maxSteps := 4000000) -implicitDefEqProofs -dsimp (disch := omega) only [↓AOps_pu, ↓AOps_call, ↓AOps_guard, on_some, extK_same, guardB_tt, pval, rd_S, put_S, chkd, isAdr, bgot, AV.cells?, partA, eq_self, List.replicate_succ, List.replicate_zero, List.set_cons_zero, List.set_cons_succ, List.getElem?_cons_zero, List.getElem?_cons_succ, List.drop_zero, List.drop_succ_cons, List.take_zero, List.take_succ_cons, List.take_nil, Option.getD_some, map_c, map_n, List.length_cons, List.length_nil, Nat.reduceAdd, Nat.reduceSub, Nat.reduceLeDiff, Nat.zero_add, List.cons_append, List.nil_append, if_true, if_false, Bool.false_eq_true, decide_true, and_true, h1]
    by_cases h2 : r.1 = -9223372036854775808
    · rw [h2]
      refine CallK.of (s91min _ (by omega) (by omega)) ?_
      simp (maxSteps := 4000000) -implicitDefEqProofs -dsimp (disch := omega) only [↓AW_ret, ↓AOps_nil, ↓AOps_pu, ↓AOps_guard, on_some, extK_same, guardB_tt, ↓then_normal, ↓Fin_ret, pval, rd_S, rd_C, put_S, resV, resL, eq_self, List.replicate_succ, List.replicate_zero, List.set_cons_zero, List.set_cons_succ, List.getElem?_cons_zero, List.getElem?_cons_succ, Option.getD_some, Nat.reduceSub, List.cons_append, List.nil_append, bin_eql, if_true, decide_true, and_true, Int.reduceNeg, h1]
      exact gc_same (by congr 1; simp [vI, h1, h2])
    · refine CallK.of (s91 _ h h2 (by omega) (by omega)) ?_
      simp (maxSteps := 4000000) -implicitDefEqProofs -dsimp (disch := omega) only [↓AW_ret, ↓AOps_nil, ↓AOps_pu, ↓AOps_guard, on_some, extK_same, guardB_tt, ↓then_normal, ↓Fin_ret, pval, rd_S, rd_C, put_S, resV, resL, eq_self, List.replicate_succ, List.replicate_zero, List.set_cons_zero, List.set_cons_succ, List.getElem?_cons_zero, List.getElem?_cons_succ, Option.getD_some, Nat.reduceSub, List.cons_append, List.nil_append, bin_eql, if_true, decide_true, and_true, h1]
      exact gc_same (by congr 1; simp [vI, h1, h2]; omega)
  · simp (maxSteps := 4000000) -implicitDefEqProofs -dsimp (disch := omega) only [↓AW_ret, ↓AOps_nil, ↓AOps_pu, ↓AOps_guard, on_some, extK_same, guardB_ft, skipS_some, ↓then_normal, ↓Fin_ret, pval, rd_S, rd_C, put_S, resV, resL, List.replicate_succ, List.replicate_zero, List.set_cons_zero, List.set_cons_succ, List.getElem?_cons_zero, List.getElem?_cons_succ, Option.getD_some, Nat.reduceSub, List.cons_append, List.nil_append, if_false, Bool.false_eq_true, decide_false, h1]
    exact gc_same (by simp [vI, h1])
/-- A fraction in lowest terms is what its parts say. -/
theorem R_of {a b : Int} (hb : 0 < b) (hg : Int.gcd a b = 1) : AV.agg [I a, I b] = R ((a : Rat) / (b : Rat)) := by
  rw [← nrm_R a b hb]
  unfold nrm
  rw [hg]
  simp
theorem Sm_int {n : Int} (h : -1099511627776 ≤ n ∧ n ≤ 1099511627776) : Sm (n : Rat) := by
  refine ⟨?_, ?_⟩
  · show -1099511627776 ≤ n ∧ n ≤ 1099511627776
    exact h
  · show (1 : Int) ≤ 1048576
    decide
theorem s107 {us : List Int} {v : AV} {A : AHeap} (hu : L1 A v us) (hl : us.length ≤ 120) (r : Int × Int) (h : W r.1) (hd : 1 ≤ r.2 ∧ r.2 ≤ 1048576) (hg : Int.gcd r.1 r.2 = 1) :
    ACalls Try.prog 107 [v, .agg [I r.1, I r.2]] A (B (decide (0 ≤ r.1 ∧ r.1 ≤ us.length * r.2))) A := by
  refine acalls hmix Try.func107 (by kernel_rfl) t107 2 rfl (by decide) ?_
  by_cases h0 : 0 ≤ r.1
  · have hd0 : ¬ r.2 = 0 := by omega
    have hw := tdiv_W h (g := r.2) (by omega)
    have ht : r.1.tdiv r.2 = r.1 / r.2 := Int.tdiv_eq_ediv_of_nonneg h0
    have hx := Int.mul_ediv_add_emod r.1 r.2
    have hy := Int.emod_lt_of_pos r.1 (show 0 < r.2 by omega)
    have hy0 := Int.emod_nonneg r.1 hd0
    by_cases h1 : r.1.tdiv r.2 ≤ us.length
    · dsimp only [m107]
      simp (maxSteps := 4000000) -implicitDefEqProofs -dsimp (disch := omega) only [↓AW_ops, ↓AW_seq, ↓AOps_nil, ↓AOps_pu, ↓AOps_call, ↓AOps_guard, on_some, guardB_tt, ↓then_normal, pval, rd_S, rd_C, put_S, chkd, isAdr, bgot, AV.cells?, partA, eq_self, List.replicate_succ, List.replicate_zero, List.set_cons_zero, List.set_cons_succ, List.getElem?_cons_zero, List.getElem?_cons_succ, List.drop_zero, List.drop_succ_cons, List.take_zero, List.take_succ_cons, List.take_nil, Option.getD_some, map_c, map_n, List.length_cons, List.length_nil, Nat.reduceAdd, Nat.reduceSub, Nat.reduceLeDiff, Nat.zero_add, List.cons_append, List.nil_append, bin_quo, bin_leq, bin_geq, w64, if_true, if_false, Bool.false_eq_true, decide_true, h0, hd0, hu.len, h1]
      refine CallK.of (s36 _ _) ?_
      simp (maxSteps := 4000000) -implicitDefEqProofs -dsimp (disch := omega) only [↓AOps_pu, ↓AOps_call, ↓AOps_guard, on_some, extK_same, guardB_tt, pval, rd_S, put_S, chkd, bgot, partA, eq_self, List.replicate_succ, List.replicate_zero, List.set_cons_zero, List.set_cons_succ, List.getElem?_cons_zero, List.getElem?_cons_succ, List.drop_zero, List.take_succ_cons, List.take_nil, Option.getD_some, map_c, map_n, List.length_cons, List.length_nil, Nat.reduceAdd, Nat.reduceSub, Nat.reduceLeDiff, Nat.reduceEqDiff, Nat.zero_add, List.cons_append, List.nil_append, if_true, if_false]
      rw [R_of (by omega) hg]
      have hq := R_inj (R_of (by omega) hg).symm
      have b1 : r.2 * (r.1 / r.2) ≤ r.2 * 120 := Int.mul_le_mul_of_nonneg_left (by omega) (by omega)
      generalize ((r.1 : Rat) / (r.2 : Rat)) = q at *
      have hS : Sm q := ⟨by omega, by omega⟩
      refine CallK.of (s19 _ _ _ (Sm_int (by omega)) hS) ?_
      have hlt : (((us.length : Int) : Rat) < q) ↔ (us.length : Int) * r.2 < r.1 := by
        rw [Rat.lt_iff]
        show (us.length : Int) * (q.den : Int) < q.num * (1 : Int) ↔ _
        rw [hq.1, hq.2, Int.mul_one]
      simp (maxSteps := 4000000) -implicitDefEqProofs -dsimp (disch := omega) only [↓AW_ret, ↓AOps_nil, ↓AOps_pu, ↓AOps_guard, on_some, extK_same, guardB_tt, ↓then_normal, ↓Fin_ret, pval, rd_S, rd_C, put_S, resV, resL, eq_self, List.replicate_succ, List.replicate_zero, List.set_cons_zero, List.set_cons_succ, List.getElem?_cons_zero, List.getElem?_cons_succ, Option.getD_some, Nat.reduceSub, List.cons_append, List.nil_append, if_true]
      refine gc_same ?_
      rw [Bool.eq_iff_iff.2 (show (!decide (((us.length : Int) : Rat) < q)) = true ↔ decide (0 ≤ r.1 ∧ r.1 ≤ us.length * r.2) = true by simp only [Bool.not_eq_true', decide_eq_false_iff_not, decide_eq_true_eq, hlt]; omega)]
    · dsimp only [m107]
      simp (maxSteps := 4000000) -implicitDefEqProofs -dsimp (disch := omega) only [↓AW_ops, ↓AW_seq, ↓AW_ret, ↓AOps_nil, ↓AOps_pu, ↓AOps_guard, on_some, guardB_tt, guardB_ft, skipS_some, ↓then_normal, ↓Fin_ret, pval, rd_S, rd_C, put_S, resV, resL, chkd, isAdr, bgot, AV.cells?, partA, eq_self, List.replicate_succ, List.replicate_zero, List.set_cons_zero, List.set_cons_succ, List.getElem?_cons_zero, List.getElem?_cons_succ, List.drop_zero, List.drop_succ_cons, List.take_zero, List.take_succ_cons, List.take_nil, Option.getD_some, List.length_cons, List.length_nil, Nat.reduceAdd, Nat.reduceSub, Nat.reduceLeDiff, Nat.zero_add, List.cons_append, List.nil_append, bin_quo, bin_leq, bin_geq, w64, if_true, if_false, Bool.false_eq_true, decide_true, decide_false, true_and, h0, hd0, hu.len, h1]
      refine gc_same ?_
      have b1 : r.2 * ((us.length : Int) + 1) ≤ r.2 * (r.1 / r.2) := Int.mul_le_mul_of_nonneg_left (by omega) (by omega)
      have b2 : r.2 * ((us.length : Int) + 1) = us.length * r.2 + r.2 := by rw [Int.mul_add, Int.mul_comm, Int.mul_one]
      congr 1
      simp only [Bool.false_eq, decide_eq_false_iff_not]
      omega
  · dsimp only [m107]
    simp (maxSteps := 4000000) -implicitDefEqProofs -dsimp (disch := omega) only [↓AW_ops, ↓AW_seq, ↓AW_ret, ↓AOps_nil, ↓AOps_pu, ↓AOps_guard, on_some, guardB_ft, skipS_some, ↓then_normal, ↓Fin_ret, pval, rd_S, rd_C, put_S, resV, resL, chkd, isAdr, bgot, AV.cells?, partA, eq_self, List.replicate_succ, List.replicate_zero, List.set_cons_zero, List.set_cons_succ, List.getElem?_cons_zero, List.getElem?_cons_succ, List.drop_zero, List.take_zero, List.take_succ_cons, Option.getD_some, List.length_cons, List.length_nil, Nat.reduceAdd, Nat.reduceSub, Nat.reduceLeDiff, Nat.zero_add, List.cons_append, List.nil_append, bin_geq, if_true, if_false, Bool.false_eq_true, decide_false, h0]
    exact gc_same (by simp)
end Go.Proofs.Ytmblehbjedpjoaa

namespace Go.Proofs.Ytmblehbjedpjoaa
open Go Go.Eng
def vz (z : Int × Int) : Bool := decide (1 ≤ z.1 ∧ z.1 ≤ 20) && decide (0 ≤ z.2 ∧ z.2 ≤ 20)
theorem all_get {α : Type} {p : α → Bool} {f : List α} (h : f.all p = true) {i : Nat} {z : α} (hz : f[i]? = some z) : p z = true := List.all_eq_true.1 h z (List.mem_of_getElem? hz)
def good (f : List (Int × Int)) : Prop := f.length ≤ 6 ∧ f.all vz = true
theorem vz_iff (z : Int × Int) : vz z = true ↔ (1 ≤ z.1 ∧ z.1 ≤ 20) ∧ (0 ≤ z.2 ∧ z.2 ≤ 20) := by simp [vz]
def sumZ (g : Int × Int → Int) (f : List (Int × Int)) : Int := (f.map g).sum
theorem sumZ_take {g : Int × Int → Int} {f : List (Int × Int)} {i : Nat} {z : Int × Int} (hz : f[i]? = some z) : sumZ g (f.take (i + 1)) = sumZ g (f.take i) + g z := by
  rw [List.take_add_one, hz]; simp [sumZ]
theorem sumZ_bound {g : Int × Int → Int} {m : Int} (hm : 0 ≤ m) : ∀ {f : List (Int × Int)}, (∀ z ∈ f, 0 ≤ g z ∧ g z ≤ m) → 0 ≤ sumZ g f ∧ sumZ g f ≤ m * f.length
  | [], _ => by simp [sumZ]
  | z :: f, h => by
    have h1 := sumZ_bound hm (f := f) (fun y hy => h y (by simp [hy]))
    have h2 := h z (by simp)
    simp only [sumZ, List.map_cons, List.sum_cons, List.length_cons] at *
    rw [Int.natCast_add, Int.mul_add]
    omega
def tot (f : List (Int × Int)) : Int := sumZ (fun z => z.1 * z.2) f
def len (f : List (Int × Int)) : Int := sumZ (fun z => z.1) f
def units (f : List (Int × Int)) : List Int := f.flatMap fun z => List.replicate z.1.toNat z.2
theorem units_take {f : List (Int × Int)} {i : Nat} {z : Int × Int} (hz : f[i]? = some z) : units (f.take (i + 1)) = units (f.take i) ++ List.replicate z.1.toNat z.2 := by
  rw [List.take_add_one, hz]; simp [units]
theorem len_units : ∀ {f : List (Int × Int)}, f.all vz = true → ((units f).length : Int) = len f
  | [], _ => by simp [units, len, sumZ]
  | z :: f, h => by
    simp only [List.all_cons, Bool.and_eq_true] at h
    have h1 := len_units h.2
    have h2 := (vz_iff z).1 h.1
    simp only [units, len, sumZ, List.flatMap_cons, List.length_append, List.length_replicate, List.map_cons, List.sum_cons] at *
    omega
theorem sum_units : ∀ {f : List (Int × Int)}, f.all vz = true → (units f).sum = tot f
  | [], _ => by simp [units, tot, sumZ]
  | z :: f, h => by
    simp only [List.all_cons, Bool.and_eq_true] at h
    have h1 := sum_units h.2
    have h2 := (vz_iff z).1 h.1
    simp only [units, tot, sumZ, List.flatMap_cons, List.sum_append, List.map_cons, List.sum_cons] at *
    have h3 : (List.replicate z.1.toNat z.2).sum = z.1 * z.2 := by
      rw [List.sum_replicate_int]
      rw [Int.toNat_of_nonneg (by omega)]
    omega
theorem len_bound {f : List (Int × Int)} (h : good f) : 0 ≤ len f ∧ len f ≤ 120 := by
  have := sumZ_bound (g := fun z => z.1) (m := 20) (by omega) (f := f) (fun z hz => by have := (vz_iff z).1 (List.all_eq_true.1 h.2 z hz); omega)
  have := h.1
  unfold len
  omega
theorem tot_bound {f : List (Int × Int)} (h : good f) : 0 ≤ tot f ∧ tot f ≤ 2400 := by
  have := sumZ_bound (g := fun z => z.1 * z.2) (m := 400) (by omega) (f := f) (fun z hz => by
    have := (vz_iff z).1 (List.all_eq_true.1 h.2 z hz)
    have h1 : 0 ≤ z.1 * z.2 := Int.mul_nonneg (by omega) (by omega)
    have h2 : z.1 * z.2 ≤ 20 * 20 := Int.mul_le_mul (by omega) (by omega) (by omega) (by omega)
    omega)
  have := h.1
  unfold tot
  omega
theorem good_take {f : List (Int × Int)} (h : good f) (i : Nat) : good (f.take i) := by
  refine ⟨?_, List.all_eq_true.2 fun z hz => List.all_eq_true.1 h.2 z (List.mem_of_mem_take hz)⟩
  rw [List.length_take]; have := h.1; omega
theorem vI_gcd {r : Int × Int} {m : Int} (h : vI r m) : Int.gcd r.1 r.2 = 1 := by
  obtain ⟨_, h⟩ := h
  split at h
  · rw [h]; simp
  · exact h
def clamp (x lo hi : Rat) : Rat := if x < lo then lo else if hi < x then hi else x
/-- What a field that begins at 'b' is worth up to 'x'. -/
def upTo : Int → List (Int × Int) → Rat → Rat
  | _, [], _ => 0
  | b, z :: f, x => (clamp x (b : Rat) ((b + z.1 : Int) : Rat) - (b : Rat)) * (z.2 : Rat) + upTo (b + z.1) f x
/-- One zone's part of what lies between two places. -/
theorem part_eq (p q lo hi v : Rat) (h : p ≤ q) (hb : lo ≤ hi) :
    (if (if lo < p then p else lo) < (if q < hi then q else hi) then ((if q < hi then q else hi) - (if lo < p then p else lo)) * v else 0) = (clamp q lo hi - lo) * v - (clamp p lo hi - lo) * v := by
  unfold clamp
  grind
def upToU : Int → List Int → Rat → Rat
  | _, [], _ => 0
  | b, u :: us, x => (clamp x (b : Rat) ((b + 1 : Int) : Rat) - (b : Rat)) * (u : Rat) + upToU (b + 1) us x
theorem clamp_join (x a b c : Rat) (h : a ≤ b) (k : b ≤ c) : (clamp x a b - a) + (clamp x b c - b) = clamp x a c - a := by
  unfold clamp
  grind
theorem upToU_rep (v : Int) (us : List Int) (x : Rat) : ∀ (n : Nat) (b : Int), upToU b (List.replicate n v ++ us) x = (clamp x (b : Rat) ((b + n : Int) : Rat) - (b : Rat)) * (v : Rat) + upToU (b + n) us x
  | 0, b => by
    have : clamp x (b : Rat) (b : Rat) = (b : Rat) := by unfold clamp; grind
    simp [this]
    grind
  | n + 1, b => by
    rw [List.replicate_succ, List.cons_append, upToU, upToU_rep v us x n (b + 1)]
    have e : b + 1 + (n : Int) = b + ((n + 1 : Nat) : Int) := by omega
    rw [e]
    have h1 : (b : Rat) ≤ ((b + 1 : Int) : Rat) := Rat.intCast_le_intCast.2 (by omega)
    have h2 : ((b + 1 : Int) : Rat) ≤ ((b + ((n + 1 : Nat) : Int) : Int) : Rat) := Rat.intCast_le_intCast.2 (by omega)
    have := clamp_join x _ _ _ h1 h2
    grind
theorem upTo_units (x : Rat) : ∀ (f : List (Int × Int)) (b : Int), f.all vz = true → upToU b (units f) x = upTo b f x
  | [], _, _ => rfl
  | z :: f, b, h => by
    simp only [List.all_cons, Bool.and_eq_true] at h
    have hz := (vz_iff z).1 h.1
    have e : ((z.1.toNat : Nat) : Int) = z.1 := Int.toNat_of_nonneg (by omega)
    have : units (z :: f) = List.replicate z.1.toNat z.2 ++ units f := rfl
    rw [this, upToU_rep, e, upTo_units x f _ h.2, upTo]
theorem upToU_zero (x : Rat) : ∀ (us : List Int) (b : Int), x ≤ (b : Rat) → upToU b us x = 0
  | [], _, _ => rfl
  | u :: us, b, h => by
    have h1 : (b : Rat) ≤ ((b + 1 : Int) : Rat) := Rat.intCast_le_intCast.2 (by omega)
    rw [upToU, upToU_zero x us (b + 1) (by grind)]
    have : clamp x (b : Rat) ((b + 1 : Int) : Rat) = (b : Rat) := by unfold clamp; grind
    rw [this]
    grind
theorem upToU_at (x : Rat) : ∀ (us : List Int) (b : Int) (k : Nat), ((b + k : Int) : Rat) ≤ x → x < ((b + k + 1 : Int) : Rat) → k ≤ us.length →
    upToU b us x = (((us.take k).sum : Int) : Rat) + (match us[k]? with | some u => (x - ((b + k : Int) : Rat)) * (u : Rat) | none => 0)
  | [], b, k, _, _, hk => by
    have : k = 0 := by simpa using hk
    subst this
    simp [upToU]
    grind
  | u :: us, b, 0, h1, h2, _ => by
    have e0 : (b + ((0 : Nat) : Int)) = b := by omega
    rw [e0] at h1 h2
    rw [upToU, upToU_zero x us (b + 1) (by grind)]
    have : clamp x (b : Rat) ((b + 1 : Int) : Rat) = x := by unfold clamp; grind
    rw [this]
    simp
    grind
  | u :: us, b, k + 1, h1, h2, hk => by
    have e0 : b + ((k + 1 : Nat) : Int) = b + 1 + (k : Int) := by omega
    rw [e0] at h1 h2
    have h3 : ((b + 1 : Int) : Rat) ≤ ((b + 1 + (k : Int) : Int) : Rat) := Rat.intCast_le_intCast.2 (by omega)
    have h4 : ((b + 1 : Int) : Rat) = (b : Rat) + 1 := by rw [Rat.intCast_add]; rfl
    rw [upToU, upToU_at x us (b + 1) k h1 h2 (by simpa using hk)]
    have : clamp x (b : Rat) ((b + 1 : Int) : Rat) = ((b + 1 : Int) : Rat) := by unfold clamp; grind
    rw [this, h4]
    simp only [List.take_succ_cons, List.sum_cons, Rat.intCast_add, List.getElem?_cons_succ]
    grind
end Go.Proofs.Ytmblehbjedpjoaa

namespace Go.Proofs.Ytmblehbjedpjoaa
open Go Go.Eng
def vLn (n : Int) : Bool := decide (1 ≤ n ∧ n ≤ 20)
def vVl (n : Int) : Bool := decide (0 ≤ n ∧ n ≤ 20)
def rOK (L row : List Int) : Bool := decide (row.length = L.length) && row.all vVl && row.any (fun y => decide (y ≠ 0))
/-- The first error of a field. -/
def kE (L : List Int) (V : List (List Int)) : Int :=
  if ¬ (((1 : Int) ≤ L.length ∧ (L.length : Int) ≤ 6) ∧ ((1 : Int) ≤ V.length ∧ (V.length : Int) ≤ 5)) then 3 else if L.all vLn && V.all (rOK L) then 0 else 1
structure KG (L : List Int) (V : List (List Int)) : Prop where
  l1 : 1 ≤ L.length
  l6 : L.length ≤ 6
  v1 : 1 ≤ V.length
  v5 : V.length ≤ 5
  ls : ∀ n ∈ L, 1 ≤ n ∧ n ≤ 20
  rl : ∀ r ∈ V, r.length = L.length
  rv : ∀ r ∈ V, ∀ y ∈ r, 0 ≤ y ∧ y ≤ 20
  rp : ∀ r ∈ V, ∃ y ∈ r, y ≠ 0
theorem rOK_iff {L r : List Int} : rOK L r = true ↔ r.length = L.length ∧ (∀ y ∈ r, 0 ≤ y ∧ y ≤ 20) ∧ ∃ y ∈ r, y ≠ 0 := by
  simp [rOK, vVl, and_assoc]
theorem KG.of {L : List Int} {V : List (List Int)} (h : kE L V = 0) : KG L V := by
  unfold kE at h
  split at h
  · cases h
  · rename_i hs
    simp only [Decidable.not_not] at hs
    split at h
    · rename_i ha
      simp only [Bool.and_eq_true] at ha
      refine ⟨by omega, by omega, by omega, by omega, fun n hn => by simpa [vLn] using List.all_eq_true.1 ha.1 n hn, fun r hr => ?_, fun r hr => ?_, fun r hr => ?_⟩ <;>
        have := rOK_iff.1 (List.all_eq_true.1 ha.2 r hr)
      · exact this.1
      · exact this.2.1
      · exact this.2.2
    · cases h
theorem KG.e {L : List Int} {V : List (List Int)} (h : KG L V) : kE L V = 0 := by
  have h1 := h.l1
  have h2 := h.l6
  have h3 := h.v1
  have h4 := h.v5
  unfold kE
  rw [if_neg (by omega), if_pos]
  simp only [Bool.and_eq_true]
  exact ⟨List.all_eq_true.2 fun n hn => by simpa [vLn] using h.ls n hn, List.all_eq_true.2 fun r hr => rOK_iff.2 ⟨h.rl r hr, h.rv r hr, h.rp r hr⟩⟩
theorem KG.gd {L : List Int} {V : List (List Int)} (h : KG L V) {r : List Int} (hr : r ∈ V) : good (L.zip r) := by
  refine ⟨?_, List.all_eq_true.2 fun z hz => (vz_iff z).2 ⟨h.ls _ (List.of_mem_zip hz).1, h.rv r hr _ (List.of_mem_zip hz).2⟩⟩
  rw [List.length_zip]
  have := h.l6
  omega
theorem KG.zlen {L : List Int} {V : List (List Int)} (h : KG L V) {r : List Int} (hr : r ∈ V) : (L.zip r).length = L.length := by
  rw [List.length_zip, h.rl r hr, Nat.min_self]
theorem KG.lenz {L : List Int} {V : List (List Int)} (h : KG L V) {r : List Int} (hr : r ∈ V) : len (L.zip r) = L.sum := by
  unfold len sumZ
  congr 1
  exact List.map_fst_zip (by rw [h.rl r hr]; exact Nat.le_refl _)
theorem KG.lenz_take {L : List Int} {V : List (List Int)} (h : KG L V) {r : List Int} (hr : r ∈ V) (i : Nat) : len ((L.zip r).take i) = (L.take i).sum := by
  have e : (L.zip r).take i = (L.take i).zip (r.take i) := by simp [List.zip, List.take_zipWith]
  unfold len sumZ
  rw [e]
  congr 1
  exact List.map_fst_zip (by rw [List.length_take, List.length_take, h.rl r hr]; exact Nat.le_refl _)
theorem zip_at {L r : List Int} {i : Nat} {n y : Int} (h : L[i]? = some n) (k : r[i]? = some y) : (L.zip r)[i]? = some (n, y) := by
  rw [List.getElem?_zip_eq_some]; exact ⟨h, k⟩
/-- The greatest one of some numbers. -/
def mxL : List Int → Int
  | [] => 0
  | x :: xs => xs.foldl max x
theorem foldl_max (xs : List Int) : ∀ a : Int, a ≤ xs.foldl max a ∧ (∀ y ∈ xs, y ≤ xs.foldl max a) ∧ (xs.foldl max a = a ∨ xs.foldl max a ∈ xs) := by
  induction xs with
  | nil => intro a; simp
  | cons b xs ih =>
    intro a
    obtain ⟨h1, h2, h3⟩ := ih (max a b)
    rw [List.foldl_cons]
    refine ⟨by omega, fun y hy => ?_, ?_⟩
    · rcases List.mem_cons.1 hy with rfl | hy
      · omega
      · exact h2 y hy
    · rcases h3 with h | h
      · rw [h]
        by_cases hab : a ≤ b
        · right; rw [Int.max_eq_right hab]; simp
        · left; exact Int.max_eq_left (by omega)
      · exact .inr (by simp [h])
theorem mxL_mem {xs : List Int} (h : xs ≠ []) : mxL xs ∈ xs := by
  cases xs with
  | nil => exact absurd rfl h
  | cons x xs =>
    show xs.foldl max x ∈ x :: xs
    rcases (foldl_max xs x).2.2 with h | h
    · rw [h]; simp
    · exact List.mem_cons_of_mem _ h
theorem mxL_ge {xs : List Int} {y : Int} (h : y ∈ xs) : y ≤ mxL xs := by
  cases xs with
  | nil => simp at h
  | cons x xs =>
    show y ≤ xs.foldl max x
    rcases List.mem_cons.1 h with rfl | h
    · exact (foldl_max xs y).1
    · exact (foldl_max xs x).2.1 y h
theorem mxL_zero {xs : List Int} (h : xs ≠ []) (h0 : ∀ y ∈ xs, 0 ≤ y) : mxL xs = 0 ↔ ¬ ∃ y ∈ xs, y ≠ 0 := by
  constructor
  · rintro hm ⟨y, hy, hne⟩
    have := mxL_ge hy
    have := h0 y hy
    omega
  · intro hn
    have := mxL_mem h
    exact Classical.byContradiction fun hne => hn ⟨_, this, hne⟩
end Go.Proofs.Ytmblehbjedpjoaa

namespace Go.Proofs.Ytmblehbjedpjoaa
open Go Go.Eng
/-- The fraction times 'D' is a whole number. -/
def Dv (D : Int) (q : Rat) : Prop := ∃ k : Int, q * (D : Rat) = (k : Rat)
theorem Dv_self (q : Rat) : Dv q.den q := by
  refine ⟨q.num, ?_⟩
  have h := R_self q
  have h3 := cast_ne (show ((q.den : Int)) ≠ 0 by have := den_pos q; omega)
  generalize ((q.num : Int) : Rat) = n at *
  generalize ((q.den : Int) : Rat) = d at *
  grind
theorem Dv_int (D n : Int) : Dv D (n : Rat) := ⟨n * D, by rw [Rat.intCast_mul]⟩
theorem Dv.add {D : Int} {p q : Rat} (hp : Dv D p) (hq : Dv D q) : Dv D (p + q) := by
  obtain ⟨a, ha⟩ := hp
  obtain ⟨b, hb⟩ := hq
  exact ⟨a + b, by rw [Rat.intCast_add]; grind⟩
theorem Dv.sub {D : Int} {p q : Rat} (hp : Dv D p) (hq : Dv D q) : Dv D (p - q) := by
  obtain ⟨a, ha⟩ := hp
  obtain ⟨b, hb⟩ := hq
  exact ⟨a - b, by rw [Rat.intCast_sub]; grind⟩
theorem Dv.mul {D : Int} {p : Rat} (hp : Dv D p) (n : Int) : Dv D (p * n) := by
  obtain ⟨a, ha⟩ := hp
  exact ⟨a * n, by rw [Rat.intCast_mul]; grind⟩
theorem Dv.div {D : Int} {p : Rat} (hp : Dv D p) (n : Int) (hn : n ≠ 0) : Dv (D * n) (p / n) := by
  obtain ⟨a, ha⟩ := hp
  have := cast_ne hn
  exact ⟨a, by rw [Rat.intCast_mul]; grind⟩
theorem Dv.dvd {D E : Int} {p : Rat} (hp : Dv D p) (h : D ∣ E) : Dv E p := by
  obtain ⟨a, ha⟩ := hp
  obtain ⟨c, rfl⟩ := h
  exact ⟨a * c, by rw [Rat.intCast_mul, Rat.intCast_mul]; grind⟩
theorem rat_le_int {p : Rat} {D k n : Int} (hD : 0 < D) (hk : p * (D : Rat) = (k : Rat)) (h : p ≤ (n : Rat)) : k ≤ n * D := by
  have hD' : (0 : Rat) ≤ (D : Rat) := by rw [show (0 : Rat) = ((0 : Int) : Rat) from rfl]; exact Rat.intCast_le_intCast.2 (by omega)
  have := Rat.mul_le_mul_of_nonneg_right h hD'
  rw [hk, ← Rat.intCast_mul] at this
  exact Rat.intCast_le_intCast.1 this
theorem int_le_rat {p : Rat} {D k n : Int} (hD : 0 < D) (hk : p * (D : Rat) = (k : Rat)) (h : (n : Rat) ≤ p) : n * D ≤ k := by
  have hD' : (0 : Rat) ≤ (D : Rat) := by rw [show (0 : Rat) = ((0 : Int) : Rat) from rfl]; exact Rat.intCast_le_intCast.2 (by omega)
  have := Rat.mul_le_mul_of_nonneg_right h hD'
  rw [hk, ← Rat.intCast_mul] at this
  exact Rat.intCast_le_intCast.1 this
/-- With a denominator, and bounds, a fraction is small. -/
theorem num_le {D M : Int} {q : Rat} (hD : 0 < D) (h : Dv D q) (h0 : ((-M : Int) : Rat) ≤ q) (h1 : q ≤ (M : Rat)) : (q.num.natAbs : Int) ≤ M * D ∧ (q.den : Int) ≤ D := by
  obtain ⟨k, hk⟩ := h
  have e : q = (k : Rat) / (D : Rat) := by have := cast_ne (show D ≠ 0 by omega); grind
  have h2 := rat_le_int hD hk h1
  have h3 := int_le_rat hD hk h0
  have h4 := ratio_le k D hD
  rw [← e] at h4
  rw [Int.neg_mul] at h3
  omega
theorem Sm_of {D M : Int} {q : Rat} (hD : 0 < D) (hD2 : D ≤ 1048576) (hM : M ≤ 1048576) (h : Dv D q) (h0 : ((-M : Int) : Rat) ≤ q) (h1 : q ≤ (M : Rat)) : Sm q := by
  have h2 := num_le hD h h0 h1
  have hM0 : 0 ≤ M := by
    have : ((-M : Int) : Rat) ≤ (M : Rat) := Rat.le_trans h0 h1
    have := Rat.intCast_le_intCast.1 this
    omega
  have h3 : M * D ≤ 1048576 * 1048576 := Int.mul_le_mul hM hD2 (by omega) (by omega)
  exact ⟨by omega, by omega⟩
theorem sumB : ∀ {l : List Int}, (∀ y ∈ l, 0 ≤ y ∧ y ≤ 20) → 0 ≤ l.sum ∧ l.sum ≤ 20 * l.length
  | [], _ => by simp
  | a :: l, h => by
    have h1 := sumB (l := l) (fun y hy => h y (by simp [hy]))
    have h2 := h a (by simp)
    simp only [List.sum_cons, List.length_cons]
    omega
theorem take_sumB {us : List Int} (hb : ∀ y ∈ us, 0 ≤ y ∧ y ≤ 20) (i : Nat) : 0 ≤ (us.take i).sum ∧ (us.take i).sum ≤ 20 * us.length := by
  have h3 := sumB (l := us.take i) (fun y hy => hb y (List.mem_of_mem_take hy))
  rw [List.length_take] at h3
  omega
theorem int0 : ((0 : Int) : Rat) = 0 := rfl
theorem int1 : ((1 : Int) : Rat) = 1 := rfl
theorem s104 {us : List Int} {v : AV} {A : AHeap} (hu : L1 A v us) (hl : us.length ≤ 120) (hb : ∀ y ∈ us, 0 ≤ y ∧ y ≤ 20) (q : Rat) (hq : Sm q) (h0 : 0 ≤ q.num) (h1 : q.num ≤ us.length * q.den) :
    ACalls Try.prog 104 [v, R q] A (R (upToU 0 us q)) A := by
  refine acalls hmix Try.func104 (by kernel_rfl) t104 2 rfl (by decide) ?_
  have hd := den_pos q
  have hd0 : ¬ (q.den : Int) = 0 := by omega
  have ht : q.num.tdiv q.den = q.num / q.den := Int.tdiv_eq_ediv_of_nonneg h0
  have htm : q.num.tmod q.den = q.num % q.den := Int.tmod_eq_emod_of_nonneg h0
  obtain ⟨hq1, hq2⟩ := id hq
  have hw := tdiv_W (a := q.num) ⟨by omega, by omega⟩ hd
  dsimp only [m104]
  simp (maxSteps := 4000000) -implicitDefEqProofs -dsimp (disch := omega) only [↓AW_ops, ↓AW_seq, ↓AW_block, ↓AOps_nil, ↓AOps_pu, on_some, ↓then_normal, pval, rd_S, rd_C, put_S, ↓AW_toLoop, chkd, isAdr, bgot, AV.cells?, partA, eq_self, List.replicate_succ, List.replicate_zero, List.set_cons_zero, List.set_cons_succ, List.getElem?_cons_zero, List.getElem?_cons_succ, List.drop_zero, List.drop_succ_cons, List.take_zero, List.take_succ_cons, List.take_nil, Option.getD_some, List.length_cons, List.length_nil, Nat.reduceAdd, Nat.reduceSub, Nat.reduceLeDiff, Nat.zero_add, List.cons_append, List.nil_append, bin_quo, w64, if_true, if_false, Bool.false_eq_true, hd0]
  have hx := Int.mul_ediv_add_emod q.num q.den
  have hy := Int.emod_lt_of_pos q.num hd
  have hy0 := Int.emod_nonneg q.num hd0
  have hk0 : 0 ≤ q.num / q.den := Int.ediv_nonneg h0 (by omega)
  obtain ⟨K, hK⟩ : ∃ K : Nat, q.num / q.den = (K : Int) := ⟨_, (Int.toNat_of_nonneg hk0).symm⟩
  rw [ht, hK]
  rw [Int.mul_comm, hK] at hx
  have hKl : K ≤ us.length := by
    have : (K : Int) ≤ us.length := by
      exact Int.le_of_mul_le_mul_right (by omega) hd
    omega
  have eq := R_self q
  have nd := cast_ne hd0
  have ex : (q.num : Rat) = ((K : Int) : Rat) * ((q.den : Int) : Rat) + ((q.num % q.den : Int) : Rat) := by rw [← Rat.intCast_mul, ← Rat.intCast_add, hx]
  have hd' : (0 : Rat) < ((q.den : Int) : Rat) := by rw [← int0]; exact Rat.intCast_lt_intCast.2 hd
  have hqK : ((0 + K : Int) : Rat) ≤ q := by
    rw [Int.zero_add, Rat.le_iff]
    show (K : Int) * (q.den : Int) ≤ q.num * (1 : Int)
    omega
  have hqK2 : q < ((0 + K + 1 : Int) : Rat) := by
    rw [Int.zero_add, Rat.lt_iff]
    show q.num * (1 : Int) < ((K : Int) + 1) * (q.den : Int)
    rw [Int.add_mul]
    omega
  have key := upToU_at q us 0 K hqK hqK2 hKl
  refine LoopK.by 46 (fun i : Nat => i ≤ K) (fun i => [(0, v), (3, R q), (4, .agg [I 0, I 0]), (5, I K), (6, I (us.take i).sum), (7, I i)]) (fun _ => A) (fun i => K - i) 0 (by omega) rfl (by simp [Has, rd_s]) rfl ?_
  intro i hi
  have hs := take_sumB hb i
  by_cases hltK : i < K
  · have hlt : i < us.length := by omega
    obtain ⟨z, hz⟩ : ∃ z, us[i]? = some z := ⟨_, List.getElem?_eq_getElem hlt⟩
    have hlt' : (i : Int) < K := by omega
    have hbz := hb z (List.mem_of_getElem? hz)
    simp (maxSteps := 4000000) -implicitDefEqProofs -dsimp (disch := omega) only [↓AW_skip, ↓AW_ops, ↓AW_seq, ↓AW_cond, ↓AW_block, ↓AOps_nil, ↓AOps_pu, ↓AOps_ld, on_some, condB_t, ↓then_normal, ↓inBlock_normal, pval, lval, rd_S, rd_C, put_S, partA, eq_self, mk, List.foldl_cons, List.foldl_nil, List.replicate_succ, List.replicate_zero, List.set_cons_zero, List.set_cons_succ, List.getElem?_cons_zero, List.getElem?_cons_succ, List.drop_zero, List.take_succ_cons, List.take_nil, Option.getD_some, List.length_cons, List.length_nil, Nat.reduceAdd, Nat.reduceLeDiff, Nat.zero_add, bin_add, bin_lss, w64, if_true, if_false, Bool.false_eq_true, decide_true, Go.Eng.e1, true_and, hlt', hu.idx hlt, hu.ld0 hz 1 false (by decide)]
    exact ⟨i + 1, by omega, by simp [Has, rd_s, List.take_add_one, hz], by omega⟩
  · have hiK : i = K := by omega
    subst hiK
    by_cases hend : i = us.length
    · have hend' : (i : Int) = us.length := by omega
      simp (maxSteps := 4000000) -implicitDefEqProofs -dsimp (disch := omega) only [↓AW_ops, ↓AW_seq, ↓AW_cond, ↓AW_exit, ↓AOps_nil, ↓AOps_pu, ↓AOps_call, on_some, condB_t, condB_f, ↓then_normal, ↓then_exit, ↓inBlock_exit, pval, rd_S, put_S, eq_self, mk, List.foldl_cons, List.foldl_nil, List.replicate_succ, List.replicate_zero, List.set_cons_zero, List.set_cons_succ, List.getElem?_cons_zero, List.getElem?_cons_succ, Option.getD_some, map_c, map_n, bin_eql, bin_lss, if_true, decide_true, decide_false, Int.lt_irrefl, hu.len, hend']
      refine CallK.of (s36 _ _) ?_
      simp (maxSteps := 4000000) -implicitDefEqProofs -dsimp (disch := omega) only [↓AW_ret, ↓AOps_nil, ↓AOps_pu, on_some, extK_same, ↓then_normal, ↓then_ret, ↓Fin_ret, pval, rd_S, put_S, resV, resL, chkd, bput, bgot, AV.cells?, splice, partA, eq_self, mk, List.foldl_cons, List.foldl_nil, List.replicate_succ, List.replicate_zero, List.set_cons_zero, List.set_cons_succ, List.getElem?_cons_zero, List.getElem?_cons_succ, List.drop_zero, List.drop_succ_cons, List.drop_nil, List.take_zero, List.take_succ_cons, List.take_nil, Option.getD_some, List.length_cons, List.length_nil, Nat.reduceAdd, Nat.reduceLeDiff, Nat.reduceEqDiff, Nat.zero_add, List.nil_append, List.append_nil, if_true, if_false, ne_eq, not_true_eq_false]
      refine gc_same ?_
      have hn : us[i]? = none := by rw [List.getElem?_eq_none]; omega
      rw [hn] at key
      rw [key, Rat.add_zero]
    · have hlt : i < us.length := by omega
      have hend' : ¬ (i : Int) = us.length := by omega
      obtain ⟨z, hz⟩ : ∃ z, us[i]? = some z := ⟨_, List.getElem?_eq_getElem hlt⟩
      have hbz := hb z (List.mem_of_getElem? hz)
      rw [hz] at key
      have hr := ratio_le (q.num % q.den) q.den hd
      have ha : ((q.num % q.den : Int) : Rat) / ((q.den : Int) : Rat) = q - ((i : Int) : Rat) := by
        generalize ((q.num % q.den : Int) : Rat) = r at *
        generalize ((q.den : Int) : Rat) = d at *
        generalize ((q.num : Int) : Rat) = n at *
        generalize ((i : Int) : Rat) = k at *
        grind
      simp (maxSteps := 4000000) -implicitDefEqProofs -dsimp (disch := omega) only [↓AW_skip, ↓AW_ops, ↓AW_seq, ↓AW_cond, ↓AW_exit, ↓AOps_nil, ↓AOps_pu, ↓AOps_call, on_some, condB_f, ↓then_normal, ↓then_exit, ↓inBlock_exit, pval, rd_S, put_S, eq_self, mk, List.foldl_cons, List.foldl_nil, List.replicate_succ, List.replicate_zero, List.set_cons_zero, List.set_cons_succ, List.getElem?_cons_zero, List.getElem?_cons_succ, Option.getD_some, map_c, map_n, bin_eql, bin_lss, if_true, decide_false, Int.lt_irrefl, hu.len, hend']
      refine CallK.of (s36 _ _) ?_
      simp (maxSteps := 4000000) -implicitDefEqProofs -dsimp (disch := omega) only [↓AOps_pu, ↓AOps_ld, ↓AOps_call, on_some, extK_same, pval, lval, rd_S, put_S, chkd, isAdr, bgot, AV.cells?, partA, eq_self, mk, List.foldl_cons, List.foldl_nil, List.replicate_succ, List.replicate_zero, List.set_cons_zero, List.set_cons_succ, List.getElem?_cons_zero, List.getElem?_cons_succ, List.drop_zero, List.drop_succ_cons, List.take_zero, List.take_succ_cons, List.take_nil, Option.getD_some, map_c, map_n, List.length_cons, List.length_nil, Nat.reduceAdd, Nat.reduceLeDiff, Nat.zero_add, bin_rem, if_true, if_false, Bool.false_eq_true, Go.Eng.e1, hu.idx hlt, hu.ld0 hz 1 false (by decide), hd0, htm]
      refine CallK.of (s80R _ ⟨by omega, by omega⟩ (by omega) hd (by omega)) ?_
      rw [ha] at hr ⊢
      generalize hqa : q - ((i : Int) : Rat) = a at *
      have hSa : Sm a := ⟨by omega, by omega⟩
      simp (maxSteps := 4000000) -implicitDefEqProofs -dsimp (disch := omega) only [↓AOps_call, extK_same, rd_S, put_S, mk, List.foldl_cons, List.foldl_nil, List.replicate_succ, List.replicate_zero, List.set_cons_zero, List.set_cons_succ, List.getElem?_cons_zero, List.getElem?_cons_succ, Option.getD_some, map_c, map_n]
      refine CallK.of (s124 a z _ hSa (by omega)) ?_
      simp (maxSteps := 4000000) -implicitDefEqProofs -dsimp (disch := omega) only [↓AOps_call, extK_same, rd_S, put_S, mk, List.foldl_cons, List.foldl_nil, List.replicate_succ, List.replicate_zero, List.set_cons_zero, List.set_cons_succ, List.getElem?_cons_zero, List.getElem?_cons_succ, Option.getD_some, map_c, map_n]
      have hDa : Dv q.den a := by rw [← hqa]; exact (Dv_self q).sub (Dv_int _ _)
      have a0 : (0 : Rat) ≤ a := by rw [← hqa]; rw [Int.zero_add] at hqK; grind
      have a1 : a ≤ 1 := by
        rw [← hqa]
        rw [Int.zero_add, Rat.intCast_add] at hqK2
        have := int1
        grind
      have z0 : (0 : Rat) ≤ (z : Rat) := by rw [← int0]; exact Rat.intCast_le_intCast.2 hbz.1
      have z1 : (z : Rat) ≤ ((20 : Int) : Rat) := Rat.intCast_le_intCast.2 hbz.2
      have p0 : (0 : Rat) ≤ a * z := Rat.mul_nonneg a0 z0
      have p1 : a * z ≤ ((20 : Int) : Rat) := by
        have := Rat.mul_le_mul_of_nonneg_right a1 z0
        rw [Rat.one_mul] at this
        exact Rat.le_trans this z1
      have hS2 : Sm (a * z) := Sm_of (M := 20) hd (by omega) (by omega) (hDa.mul z) (Rat.le_trans (by rw [← int0]; exact Rat.intCast_le_intCast.2 (by omega)) p0) p1
      refine CallK.of (s37 _ _ _ (Sm_int (by omega)) hS2) ?_
      simp (maxSteps := 4000000) -implicitDefEqProofs -dsimp (disch := omega) only [↓AW_ret, ↓AOps_nil, ↓AOps_pu, on_some, extK_same, ↓then_normal, ↓Fin_ret, pval, rd_S, put_S, resV, resL, chkd, bput, bgot, AV.cells?, splice, partA, eq_self, mk, List.foldl_cons, List.foldl_nil, List.replicate_succ, List.replicate_zero, List.set_cons_zero, List.set_cons_succ, List.getElem?_cons_zero, List.getElem?_cons_succ, List.drop_zero, List.drop_succ_cons, List.drop_nil, List.take_zero, List.take_succ_cons, List.take_nil, Option.getD_some, List.length_cons, List.length_nil, Nat.reduceAdd, Nat.reduceLeDiff, Nat.reduceEqDiff, Nat.zero_add, List.nil_append, List.append_nil, if_true, if_false, ne_eq, not_true_eq_false]
      refine gc_same ?_
      rw [key, Int.zero_add, hqa]
/-- What lies before a place is not much. -/
theorem clamp_bounds (x a b : Rat) (h : a ≤ b) : a ≤ clamp x a b ∧ clamp x a b ≤ b := by
  unfold clamp
  grind
theorem upToU_bounds : ∀ (us : List Int) (b : Int) (x : Rat), (∀ y ∈ us, 0 ≤ y ∧ y ≤ 20) → 0 ≤ upToU b us x ∧ upToU b us x ≤ ((20 * us.length : Int) : Rat)
  | [], b, x, _ => by simp only [upToU, List.length_nil]; exact ⟨Rat.le_refl, Rat.le_refl⟩
  | u :: us, b, x, h => by
    have ih := upToU_bounds us (b + 1) x (fun y hy => h y (by simp [hy]))
    have hu := h u (by simp)
    have h1 : (b : Rat) ≤ ((b + 1 : Int) : Rat) := Rat.intCast_le_intCast.2 (by omega)
    have hc := clamp_bounds x _ _ h1
    have u0 : (0 : Rat) ≤ (u : Rat) := by rw [← int0]; exact Rat.intCast_le_intCast.2 hu.1
    have u1 : (u : Rat) ≤ ((20 : Int) : Rat) := Rat.intCast_le_intCast.2 hu.2
    have e1 : ((b + 1 : Int) : Rat) = (b : Rat) + 1 := by rw [Rat.intCast_add]; rfl
    have e2 : ((20 * ((u :: us).length : Int) : Int) : Rat) = ((20 : Int) : Rat) + ((20 * (us.length : Int) : Int) : Rat) := by
      rw [← Rat.intCast_add]; congr 1; simp; omega
    rw [e2, upToU]
    generalize clamp x (b : Rat) ((b + 1 : Int) : Rat) = c at *
    have d0 : 0 ≤ c - (b : Rat) := by grind
    have d1 : c - (b : Rat) ≤ 1 := by grind
    have p0 := Rat.mul_nonneg d0 u0
    have p1 := Rat.mul_le_mul_of_nonneg_right d1 u0
    rw [Rat.one_mul] at p1
    grind
theorem clamp_Dv {D : Int} {x : Rat} (hx : Dv D x) (a b : Int) : Dv D (clamp x a b) := by
  unfold clamp
  split
  · exact Dv_int _ _
  · split
    · exact Dv_int _ _
    · exact hx
theorem int_neg_le_zero {q : Rat} {M : Int} (hM : 0 ≤ M) (h : 0 ≤ q) : ((-M : Int) : Rat) ≤ q := Rat.le_trans (by rw [← int0]; exact Rat.intCast_le_intCast.2 (by omega)) h
/-- The parts of a sum. -/
theorem add_partsG (p q : Rat) :
    ∃ d1 d2 : Int, (p.den : Int).tdiv (Int.gcd p.den q.den) = d1 ∧ (q.den : Int).tdiv (Int.gcd p.den q.den) = d2 ∧ (0 < d1 ∧ d1 ≤ p.den) ∧ (0 < d2 ∧ d2 ≤ q.den) ∧
      ((p.num * d2 + q.num * d1 : Int) : Rat) / ((d1 * q.den : Int) : Rat) = p + q := by
  have hp0 := den_pos p
  have hq0 := den_pos q
  have hg : 0 < Int.gcd p.den q.den := Int.gcd_pos_of_ne_zero_right _ (by omega)
  obtain ⟨d1, h1⟩ := Int.gcd_dvd_left (p.den : Int) (q.den : Int)
  obtain ⟨d2, h2⟩ := Int.gcd_dvd_right (p.den : Int) (q.den : Int)
  generalize (Int.gcd p.den q.den : Nat) = g at *
  have hg' : (0 : Int) < (g : Int) := by omega
  have p1 : 0 < d1 := by
    rcases Int.lt_or_le 0 d1 with h | h
    · exact h
    · have := Int.mul_nonpos_of_nonneg_of_nonpos (Int.le_of_lt hg') h; omega
  have p2 : 0 < d2 := by
    rcases Int.lt_or_le 0 d2 with h | h
    · exact h
    · have := Int.mul_nonpos_of_nonneg_of_nonpos (Int.le_of_lt hg') h; omega
  have b1 : d1 ≤ (g : Int) * d1 := by have := Int.mul_le_mul_of_nonneg_right (show (1 : Int) ≤ g by omega) (Int.le_of_lt p1); omega
  have b2 : d2 ≤ (g : Int) * d2 := by have := Int.mul_le_mul_of_nonneg_right (show (1 : Int) ≤ g by omega) (Int.le_of_lt p2); omega
  refine ⟨d1, d2, by rw [h1, Int.mul_tdiv_cancel_left _ (by omega)], by rw [h2, Int.mul_tdiv_cancel_left _ (by omega)], ⟨p1, by omega⟩, ⟨p2, by omega⟩, ?_⟩
  have e1 := R_self p
  have e2 := R_self q
  rw [h1, Rat.intCast_mul] at e1
  rw [h2, Rat.intCast_mul] at e2
  rw [h2]
  simp only [Rat.intCast_add, Rat.intCast_mul]
  have n1 : (d1 : Rat) ≠ 0 := cast_ne (by omega)
  have n2 : (d2 : Rat) ≠ 0 := cast_ne (by omega)
  have n3 : ((g : Int) : Rat) ≠ 0 := cast_ne (by omega)
  generalize (p.num : Rat) = a at *
  generalize (q.num : Rat) = b at *
  generalize (d1 : Rat) = x at *
  generalize (d2 : Rat) = y at *
  generalize ((g : Int) : Rat) = z at *
  subst e1
  grind
/-- Two fractions that can be added. -/
def Fit (p q : Rat) : Prop := p.num.natAbs * q.den + q.num.natAbs * p.den ≤ 4611686018427387904 ∧ p.den * q.den ≤ 4611686018427387904
theorem Fit.facts {p q : Rat} (h : Fit p q) {d1 d2 : Int} (b1 : 0 < d1 ∧ d1 ≤ p.den) (b2 : 0 < d2 ∧ d2 ≤ q.den) :
    ((p.num * d2).natAbs + (q.num * d1).natAbs ≤ 4611686018427387904 ∧ 0 < d1 * q.den ∧ d1 * q.den ≤ 4611686018427387904) ∧ p.num.natAbs ≤ 4611686018427387904 ∧ q.num.natAbs ≤ 4611686018427387904 ∧ p.den ≤ 4611686018427387904 ∧ q.den ≤ 4611686018427387904 := by
  have hp0 := p.den_pos
  have hq0 := q.den_pos
  have m1 : (p.num * d2).natAbs ≤ p.num.natAbs * q.den := by rw [Int.natAbs_mul]; exact Nat.mul_le_mul_left _ (by omega)
  have m2 : (q.num * d1).natAbs ≤ q.num.natAbs * p.den := by rw [Int.natAbs_mul]; exact Nat.mul_le_mul_left _ (by omega)
  have m3 : 0 < d1 * q.den := Int.mul_pos b1.1 (by omega)
  have m4 : d1 * q.den ≤ (p.den : Int) * q.den := Int.mul_le_mul_of_nonneg_right b1.2 (by omega)
  have m5 : p.num.natAbs * 1 ≤ p.num.natAbs * q.den := Nat.mul_le_mul_left _ hq0
  have m6 : q.num.natAbs * 1 ≤ q.num.natAbs * p.den := Nat.mul_le_mul_left _ hp0
  have m7 : p.den * 1 ≤ p.den * q.den := Nat.mul_le_mul_left _ hq0
  have m8 : 1 * q.den ≤ p.den * q.den := Nat.mul_le_mul_right _ hp0
  have h1 := h.1
  have h2 := h.2
  have m9 : (p.den : Int) * q.den ≤ 4611686018427387904 := by rw [← Int.natCast_mul]; omega
  omega
theorem s75g (p q : Rat) (A : AHeap) (h : Fit p q) : ACalls Try.prog 75 [R p, R q] A (R (p + q)) A := by
  refine acalls hmix Try.func75 (by kernel_rfl) t75 2 rfl (by decide) ?_
  have hp0 := den_pos p
  have hq0 := den_pos q
  obtain ⟨d1, d2, e1, e2, b1, b2, e3⟩ := add_partsG p q
  obtain ⟨⟨l1, l2, l3⟩, l4, l5, l6, l7⟩ := h.facts b1 b2
  have hg : 0 < Int.gcd p.den q.den := Int.gcd_pos_of_ne_zero_right _ (by omega)
  have hg0 : ¬ (Int.gcd p.den q.den : Int) = 0 := by omega
  dsimp only [m75]
  simp (maxSteps := 4000000) -implicitDefEqProofs -dsimp (disch := omega) only [↓AW_ops, ↓AW_seq, ↓AOps_nil, ↓AOps_pu, ↓AOps_call, on_some, ↓then_normal, pval, rd_S, rd_C, put_S, chkd, isAdr, bgot, AV.cells?, partA, eq_self, List.replicate_succ, List.replicate_zero, List.set_cons_zero, List.set_cons_succ, List.getElem?_cons_zero, List.getElem?_cons_succ, List.drop_zero, List.drop_succ_cons, List.take_succ_cons, List.take_nil, Option.getD_some, map_c, map_n, List.length_cons, List.length_nil, Nat.reduceAdd, Nat.reduceSub, Nat.reduceLeDiff, Nat.zero_add, List.cons_append, List.nil_append, if_true, if_false, Bool.false_eq_true]
  refine CallK.of (s111 _ ⟨by omega, by omega⟩ hq0 (by omega)) ?_
  simp (maxSteps := 4000000) -implicitDefEqProofs -dsimp (disch := omega) only [↓AW_ops, ↓AW_seq, ↓AOps_nil, ↓AOps_pu, ↓AOps_call, on_some, extK_same, ↓then_normal, pval, rd_S, put_S, chkd, isAdr, bgot, AV.cells?, partA, eq_self, List.replicate_succ, List.replicate_zero, List.set_cons_zero, List.set_cons_succ, List.getElem?_cons_zero, List.getElem?_cons_succ, List.drop_zero, List.drop_succ_cons, List.take_zero, List.take_succ_cons, List.take_nil, Option.getD_some, map_c, map_n, List.length_cons, List.length_nil, Nat.reduceAdd, Nat.reduceSub, Nat.reduceLeDiff, Nat.zero_add, List.cons_append, List.nil_append, bin_add, bin_mul, bin_quo, w64, if_true, if_false, Bool.false_eq_true, hg0, e1, e2]
  refine CallK.of (s59R _ ⟨by omega, by omega⟩ l2 (by omega)) ?_
  simp (maxSteps := 4000000) -implicitDefEqProofs -dsimp (disch := omega) only [↓AW_ret, ↓AOps_nil, ↓AOps_pu, on_some, extK_same, ↓then_normal, ↓Fin_ret, pval, rd_S, put_S, resV, resL, chkd, bput, bgot, AV.cells?, splice, partA, eq_self, List.replicate_succ, List.replicate_zero, List.set_cons_zero, List.set_cons_succ, List.getElem?_cons_zero, List.getElem?_cons_succ, List.drop_zero, List.drop_succ_cons, List.drop_nil, List.take_zero, List.take_succ_cons, List.take_nil, Option.getD_some, List.length_cons, List.length_nil, Nat.reduceAdd, Nat.reduceSub, Nat.reduceLeDiff, Nat.reduceEqDiff, Nat.zero_add, List.cons_append, List.nil_append, List.append_nil, if_true, if_false, ne_eq, not_true_eq_false]
  exact gc_same (by rw [e3])
theorem s37g (p q : Rat) (A : AHeap) (h : Fit p q) : ACalls Try.prog 37 [R p, R q] A (R (p + q)) A := by
  refine acalls hmix Try.func37 (by kernel_rfl) t37 2 rfl (by decide) ?_
  have hp0 := den_pos p
  have hq0 := den_pos q
  obtain ⟨d1, d2, e1, e2, b1, b2, e3⟩ := add_partsG p q
  obtain ⟨⟨l1, l2, l3⟩, l4, l5, l6, l7⟩ := h.facts b1 b2
  have hg : 0 < Int.gcd p.den q.den := Int.gcd_pos_of_ne_zero_right _ (by omega)
  have hg0 : ¬ (Int.gcd p.den q.den : Int) = 0 := by omega
  dsimp only [m37]
  simp (maxSteps := 4000000) -implicitDefEqProofs -dsimp (disch := omega) only [↓AW_ops, ↓AW_seq, ↓AOps_nil, ↓AOps_pu, ↓AOps_call, on_some, ↓then_normal, pval, rd_S, rd_C, put_S, chkd, isAdr, bgot, AV.cells?, partA, eq_self, List.replicate_succ, List.replicate_zero, List.set_cons_zero, List.set_cons_succ, List.getElem?_cons_zero, List.getElem?_cons_succ, List.drop_zero, List.drop_succ_cons, List.take_succ_cons, List.take_nil, Option.getD_some, map_c, map_n, List.length_cons, List.length_nil, Nat.reduceAdd, Nat.reduceSub, Nat.reduceLeDiff, Nat.zero_add, List.cons_append, List.nil_append, if_true, if_false, Bool.false_eq_true]
  refine CallK.of (s91 _ ⟨by omega, by omega⟩ (by omega) hq0 (by omega)) ?_
  simp (maxSteps := 4000000) -implicitDefEqProofs -dsimp (disch := omega) only [↓AW_ops, ↓AW_seq, ↓AOps_nil, ↓AOps_pu, ↓AOps_call, on_some, extK_same, ↓then_normal, pval, rd_S, put_S, chkd, isAdr, bgot, AV.cells?, partA, eq_self, List.replicate_succ, List.replicate_zero, List.set_cons_zero, List.set_cons_succ, List.getElem?_cons_zero, List.getElem?_cons_succ, List.drop_zero, List.drop_succ_cons, List.take_zero, List.take_succ_cons, List.take_nil, Option.getD_some, map_c, map_n, List.length_cons, List.length_nil, Nat.reduceAdd, Nat.reduceSub, Nat.reduceLeDiff, Nat.zero_add, List.cons_append, List.nil_append, bin_add, bin_mul, bin_quo, w64, if_true, if_false, Bool.false_eq_true, hg0, e1, e2]
  refine CallK.of (s80R _ ⟨by omega, by omega⟩ (by omega) l2 (by omega)) ?_
  simp (maxSteps := 4000000) -implicitDefEqProofs -dsimp (disch := omega) only [↓AW_ret, ↓AOps_nil, ↓AOps_pu, on_some, extK_same, ↓then_normal, ↓Fin_ret, pval, rd_S, put_S, resV, resL, chkd, bput, bgot, AV.cells?, splice, partA, eq_self, List.replicate_succ, List.replicate_zero, List.set_cons_zero, List.set_cons_succ, List.getElem?_cons_zero, List.getElem?_cons_succ, List.drop_zero, List.drop_succ_cons, List.drop_nil, List.take_zero, List.take_succ_cons, List.take_nil, Option.getD_some, List.length_cons, List.length_nil, Nat.reduceAdd, Nat.reduceSub, Nat.reduceLeDiff, Nat.reduceEqDiff, Nat.zero_add, List.cons_append, List.nil_append, List.append_nil, if_true, if_false, ne_eq, not_true_eq_false]
  exact gc_same (by rw [e3])
theorem Fit.neg {p q : Rat} (h : Fit p q) : Fit p (-q) := by
  unfold Fit at *
  rw [neg_num, neg_den, Int.natAbs_neg]
  exact h
theorem Fit.small {p q : Rat} (h : Fit p q) : -4611686018427387904 ≤ q.num ∧ q.num ≤ 4611686018427387904 := by
  have m6 : q.num.natAbs * 1 ≤ q.num.natAbs * p.den := Nat.mul_le_mul_left _ p.den_pos
  have := h.1
  omega
theorem s95g (p q : Rat) (A : AHeap) (h : Fit p q) : ACalls Try.prog 95 [R p, R q] A (R (p - q)) A := by
  refine acalls hmix Try.func95 (by kernel_rfl) t95 2 rfl (by decide) ?_
  obtain ⟨l4, l5⟩ := h.small
  dsimp only [m95]
  simp (maxSteps := 4000000) -implicitDefEqProofs -dsimp (disch := omega) only [↓AW_ops, ↓AW_seq, ↓AOps_nil, ↓AOps_pu, ↓AOps_call, on_some, ↓then_normal, pval, rd_S, rd_C, put_S, chkd, isAdr, bgot, AV.cells?, splice, partA, fillA, eq_self, List.replicate_succ, List.replicate_zero, List.set_cons_zero, List.set_cons_succ, List.getElem?_cons_zero, List.getElem?_cons_succ, List.drop_zero, List.drop_succ_cons, List.drop_nil, List.take_zero, List.take_succ_cons, List.take_nil, Option.getD_some, Option.map_some, map_c, map_n, List.length_cons, List.length_nil, Nat.reduceAdd, Nat.reduceSub, Nat.reduceLeDiff, Nat.reduceEqDiff, Nat.zero_add, List.cons_append, List.nil_append, List.append_nil, w64, if_true, if_false, Bool.false_eq_true, and_true]
  have h := s75g p (-q) A h.neg
  rw [R_neg] at h
  refine CallK.of (h) ?_
  simp (maxSteps := 4000000) -implicitDefEqProofs -dsimp (disch := omega) only [↓AW_ret, ↓AOps_nil, ↓AOps_pu, on_some, extK_same, ↓then_normal, ↓Fin_ret, pval, rd_S, put_S, resV, resL, chkd, bput, bgot, AV.cells?, splice, partA, eq_self, List.replicate_succ, List.replicate_zero, List.set_cons_zero, List.set_cons_succ, List.getElem?_cons_zero, List.getElem?_cons_succ, List.drop_zero, List.drop_succ_cons, List.drop_nil, List.take_zero, List.take_succ_cons, List.take_nil, Option.getD_some, List.length_cons, List.length_nil, Nat.reduceAdd, Nat.reduceSub, Nat.reduceLeDiff, Nat.reduceEqDiff, Nat.zero_add, List.cons_append, List.nil_append, List.append_nil, if_true, if_false, ne_eq, not_true_eq_false]
  exact gc_same (by rw [Rat.sub_eq_add_neg])
theorem s55g (p q : Rat) (A : AHeap) (h : Fit p q) : ACalls Try.prog 55 [R p, R q] A (R (p - q)) A := by
  refine acalls hmix Try.func55 (by kernel_rfl) t55 2 rfl (by decide) ?_
  obtain ⟨l4, l5⟩ := h.small
  dsimp only [m55]
  simp (maxSteps := 4000000) -implicitDefEqProofs -dsimp (disch := omega) only [↓AW_ops, ↓AW_seq, ↓AOps_nil, ↓AOps_pu, ↓AOps_call, on_some, ↓then_normal, pval, rd_S, rd_C, put_S, chkd, isAdr, bgot, AV.cells?, splice, partA, fillA, eq_self, List.replicate_succ, List.replicate_zero, List.set_cons_zero, List.set_cons_succ, List.getElem?_cons_zero, List.getElem?_cons_succ, List.drop_zero, List.drop_succ_cons, List.drop_nil, List.take_zero, List.take_succ_cons, List.take_nil, Option.getD_some, Option.map_some, map_c, map_n, List.length_cons, List.length_nil, Nat.reduceAdd, Nat.reduceSub, Nat.reduceLeDiff, Nat.reduceEqDiff, Nat.zero_add, List.cons_append, List.nil_append, List.append_nil, w64, if_true, if_false, Bool.false_eq_true, and_true]
  have h := s37g p (-q) A h.neg
  rw [R_neg] at h
  refine CallK.of (h) ?_
  simp (maxSteps := 4000000) -implicitDefEqProofs -dsimp (disch := omega) only [↓AW_ret, ↓AOps_nil, ↓AOps_pu, on_some, extK_same, ↓then_normal, ↓Fin_ret, pval, rd_S, put_S, resV, resL, chkd, bput, bgot, AV.cells?, splice, partA, eq_self, List.replicate_succ, List.replicate_zero, List.set_cons_zero, List.set_cons_succ, List.getElem?_cons_zero, List.getElem?_cons_succ, List.drop_zero, List.drop_succ_cons, List.drop_nil, List.take_zero, List.take_succ_cons, List.take_nil, Option.getD_some, List.length_cons, List.length_nil, Nat.reduceAdd, Nat.reduceSub, Nat.reduceLeDiff, Nat.reduceEqDiff, Nat.zero_add, List.cons_append, List.nil_append, List.append_nil, if_true, if_false, ne_eq, not_true_eq_false]
  exact gc_same (by rw [Rat.sub_eq_add_neg])
theorem s65g (p q : Rat) (A : AHeap) (h : Fit p q) : ACalls Try.prog 65 [R p, R q] A (I (p - q).num) A := by
  refine acalls hmix Try.func65 (by kernel_rfl) t65 2 rfl (by decide) ?_
  dsimp only [m65]
  simp (maxSteps := 4000000) -implicitDefEqProofs -dsimp (disch := omega) only [↓AW_ops, ↓AW_seq, ↓AOps_nil, ↓AOps_pu, ↓AOps_call, on_some, ↓then_normal, pval, rd_S, rd_C, put_S, chkd, bgot, AV.cells?, partA, eq_self, List.replicate_succ, List.replicate_zero, List.set_cons_zero, List.set_cons_succ, List.getElem?_cons_zero, List.getElem?_cons_succ, List.drop_zero, List.take_succ_cons, List.take_nil, Option.getD_some, map_c, map_n, List.length_cons, List.length_nil, Nat.reduceAdd, Nat.reduceSub, Nat.reduceLeDiff, Nat.reduceEqDiff, Nat.zero_add, List.cons_append, List.nil_append, if_true, if_false]
  refine CallK.of (s95g p q A h) ?_
  simp (maxSteps := 4000000) -implicitDefEqProofs -dsimp (disch := omega) only [↓AW_ret, ↓AOps_nil, ↓AOps_pu, on_some, extK_same, ↓then_normal, ↓Fin_ret, pval, rd_S, put_S, resV, resL, partA, eq_self, List.replicate_succ, List.replicate_zero, List.set_cons_zero, List.set_cons_succ, List.getElem?_cons_zero, List.getElem?_cons_succ, List.drop_zero, List.take_zero, List.take_succ_cons, Option.getD_some, List.length_cons, List.length_nil, Nat.reduceAdd, Nat.reduceSub, Nat.reduceLeDiff, Nat.zero_add, List.cons_append, List.nil_append, if_true, if_false, Bool.false_eq_true]
  exact gc_same rfl
theorem sub_neg_iff (p q : Rat) : (p - q).num < 0 ↔ p < q := by rw [num_neg_iff]; constructor <;> intro h <;> grind
theorem sub_pos_iff (p q : Rat) : 0 < (p - q).num ↔ q < p := by rw [num_pos_iff]; constructor <;> intro h <;> grind
theorem s19g (p q : Rat) (A : AHeap) (h : Fit p q) : ACalls Try.prog 19 [R p, R q] A (B (decide (p < q))) A := by
  refine acalls hmix Try.func19 (by kernel_rfl) t19 2 rfl (by decide) ?_
  dsimp only [m19]
  simp (maxSteps := 4000000) -implicitDefEqProofs -dsimp (disch := omega) only [↓AW_ops, ↓AW_seq, ↓AOps_nil, ↓AOps_pu, ↓AOps_call, on_some, ↓then_normal, pval, rd_S, rd_C, put_S, chkd, bgot, AV.cells?, partA, eq_self, List.replicate_succ, List.replicate_zero, List.set_cons_zero, List.set_cons_succ, List.getElem?_cons_zero, List.getElem?_cons_succ, List.drop_zero, List.take_succ_cons, List.take_nil, Option.getD_some, map_c, map_n, List.length_cons, List.length_nil, Nat.reduceAdd, Nat.reduceSub, Nat.reduceLeDiff, Nat.reduceEqDiff, Nat.zero_add, List.cons_append, List.nil_append, if_true, if_false]
  refine CallK.of (s55g p q A h) ?_
  simp (maxSteps := 4000000) -implicitDefEqProofs -dsimp (disch := omega) only [↓AW_ret, ↓AOps_nil, ↓AOps_pu, on_some, extK_same, ↓then_normal, ↓Fin_ret, pval, rd_S, rd_C, put_S, resV, resL, partA, eq_self, List.replicate_succ, List.replicate_zero, List.set_cons_zero, List.set_cons_succ, List.getElem?_cons_zero, List.getElem?_cons_succ, List.drop_zero, List.take_zero, List.take_succ_cons, Option.getD_some, List.length_cons, List.length_nil, Nat.reduceAdd, Nat.reduceSub, Nat.reduceLeDiff, Nat.zero_add, List.cons_append, List.nil_append, bin_lss, if_true, if_false, Bool.false_eq_true]
  refine gc_same ?_
  simp [sub_neg_iff]
theorem s109g (a : Rat) (n : Int) (A : AHeap) (ha : a.num.natAbs * n.natAbs ≤ 4611686018427387904) (hd : a.den ≤ 4611686018427387904) (hn : -4611686018427387904 ≤ n ∧ n ≤ 4611686018427387904) : ACalls Try.prog 109 [R a, I n] A (R (a * n)) A := by
  refine acalls hmix Try.func109 (by kernel_rfl) t109 2 rfl (by decide) ?_
  have h0 := den_pos a
  dsimp only [m109]
  simp (maxSteps := 4000000) -implicitDefEqProofs -dsimp (disch := omega) only [↓AW_ops, ↓AW_seq, ↓AOps_nil, ↓AOps_pu, ↓AOps_call, on_some, ↓then_normal, pval, rd_S, rd_C, put_S, chkd, isAdr, bgot, AV.cells?, partA, eq_self, List.replicate_succ, List.replicate_zero, List.set_cons_zero, List.set_cons_succ, List.getElem?_cons_zero, List.getElem?_cons_succ, List.drop_zero, List.drop_succ_cons, List.take_succ_cons, List.take_nil, Option.getD_some, map_c, map_n, List.length_cons, List.length_nil, Nat.reduceAdd, Nat.reduceSub, Nat.reduceLeDiff, Nat.zero_add, List.cons_append, List.nil_append, if_true, if_false, Bool.false_eq_true]
  refine CallK.of (s59R _ ⟨by omega, by omega⟩ h0 (by omega)) ?_
  have hm := mul_parts a n
  have hl := ratio_le n a.den h0
  have hp := den_pos ((n : Rat) / ((a.den : Int) : Rat))
  generalize ((n : Rat) / ((a.den : Int) : Rat)) = f at *
  have e : (a.num * f.num).natAbs ≤ a.num.natAbs * n.natAbs := by rw [Int.natAbs_mul]; exact Nat.mul_le_mul_left _ hl.1
  simp (maxSteps := 4000000) -implicitDefEqProofs -dsimp (disch := omega) only [↓AW_ops, ↓AW_seq, ↓AOps_nil, ↓AOps_pu, ↓AOps_call, on_some, extK_same, ↓then_normal, pval, rd_S, rd_C, put_S, chkd, isAdr, bput, bgot, AV.cells?, splice, partA, eq_self, List.replicate_succ, List.replicate_zero, List.set_cons_zero, List.set_cons_succ, List.getElem?_cons_zero, List.getElem?_cons_succ, List.drop_zero, List.drop_succ_cons, List.drop_nil, List.take_zero, List.take_succ_cons, List.take_nil, Option.getD_some, map_c, map_n, List.length_cons, List.length_nil, Nat.reduceAdd, Nat.reduceSub, Nat.reduceLeDiff, Nat.zero_add, List.cons_append, List.nil_append, List.append_nil, bin_mul, w64, if_true, if_false, Bool.false_eq_true, ne_eq, not_true_eq_false]
  refine CallK.of (s59R _ ⟨by omega, by omega⟩ hp (by omega)) ?_
  simp (maxSteps := 4000000) -implicitDefEqProofs -dsimp (disch := omega) only [↓AW_ret, ↓AOps_nil, ↓AOps_pu, on_some, extK_same, ↓then_normal, ↓Fin_ret, pval, rd_S, put_S, resV, resL, chkd, bput, bgot, AV.cells?, splice, partA, eq_self, List.replicate_succ, List.replicate_zero, List.set_cons_zero, List.set_cons_succ, List.getElem?_cons_zero, List.getElem?_cons_succ, List.drop_zero, List.drop_succ_cons, List.drop_nil, List.take_zero, List.take_succ_cons, List.take_nil, Option.getD_some, List.length_cons, List.length_nil, Nat.reduceAdd, Nat.reduceSub, Nat.reduceLeDiff, Nat.reduceEqDiff, Nat.zero_add, List.cons_append, List.nil_append, List.append_nil, if_true, if_false, ne_eq, not_true_eq_false]
  exact gc_same (by rw [hm])
theorem Fit_of {p q : Rat} (P Q D E : Nat) (h1 : p.num.natAbs ≤ P) (h2 : p.den ≤ D) (h3 : q.num.natAbs ≤ Q) (h4 : q.den ≤ E) (h : P * E + Q * D ≤ 4611686018427387904) (k : D * E ≤ 4611686018427387904) : Fit p q := by
  have m1 : p.num.natAbs * q.den ≤ P * E := Nat.mul_le_mul h1 h4
  have m2 : q.num.natAbs * p.den ≤ Q * D := Nat.mul_le_mul h3 h2
  have m3 : p.den * q.den ≤ D * E := Nat.mul_le_mul h2 h4
  exact ⟨by omega, by omega⟩
theorem Sm.fit {p q : Rat} (hp : Sm p) (hq : Sm q) : Fit p q := by
  obtain ⟨⟨h1, h2⟩, h3⟩ := hp
  obtain ⟨⟨h4, h5⟩, h6⟩ := hq
  exact Fit_of 1099511627776 1099511627776 1048576 1048576 (by omega) (by omega) (by omega) (by omega) (by decide) (by decide)
theorem upTo_append (x : Rat) : ∀ (f g : List (Int × Int)) (b : Int), upTo b (f ++ g) x = upTo b f x + upTo (b + len f) g x
  | [], g, b => by
    have : b + len [] = b := by simp [len, sumZ]
    rw [List.nil_append, this, upTo, Rat.zero_add]
  | z :: f, g, b => by
    have : b + len (z :: f) = b + z.1 + len f := by simp [len, sumZ]; omega
    rw [List.cons_append, upTo, upTo_append x f g (b + z.1), upTo, this, Rat.add_assoc]
theorem all_pos {f : List (Int × Int)} (h : f.all vz = true) : ∀ z ∈ f, 1 ≤ z.1 := fun z hz => ((vz_iff z).1 (List.all_eq_true.1 h z hz)).1.1
theorem len_nonneg {f : List (Int × Int)} (h : ∀ z ∈ f, 1 ≤ z.1) : 0 ≤ len f := by
  induction f with
  | nil => simp [len, sumZ]
  | cons z f ih =>
    have := ih (fun y hy => h y (by simp [hy]))
    have := h z (by simp)
    simp only [len, sumZ, List.map_cons, List.sum_cons] at *
    omega
theorem upTo_full (x : Rat) : ∀ (f : List (Int × Int)) (b : Int), (∀ z ∈ f, 1 ≤ z.1) → ((b + len f : Int) : Rat) ≤ x → upTo b f x = (tot f : Int)
  | [], b, _, _ => by simp [upTo, tot, sumZ]
  | z :: f, b, h, hx => by
    have hz := h z (by simp)
    have hn := len_nonneg (fun y hy => h y (List.mem_cons_of_mem z hy))
    have e : b + len (z :: f) = b + z.1 + len f := by simp [len, sumZ]; omega
    rw [e] at hx
    rw [upTo, upTo_full x f (b + z.1) (fun y hy => h y (by simp [hy])) hx]
    have h1 : (b : Rat) ≤ ((b + z.1 : Int) : Rat) := Rat.intCast_le_intCast.2 (by omega)
    have h2 : ((b + z.1 : Int) : Rat) ≤ ((b + z.1 + len f : Int) : Rat) := Rat.intCast_le_intCast.2 (by omega)
    have e2 : clamp x (b : Rat) ((b + z.1 : Int) : Rat) = ((b + z.1 : Int) : Rat) := by unfold clamp; grind
    have e3 : tot (z :: f) = z.1 * z.2 + tot f := by simp [tot, sumZ]
    rw [e2, e3, Rat.intCast_add, Rat.intCast_add, Rat.intCast_mul]
    grind
theorem upTo_none (x : Rat) : ∀ (f : List (Int × Int)) (b : Int), (∀ z ∈ f, 1 ≤ z.1) → x ≤ (b : Rat) → upTo b f x = 0
  | [], _, _, _ => rfl
  | z :: f, b, h, hx => by
    have hz := h z (by simp)
    have h1 : (b : Rat) ≤ ((b + z.1 : Int) : Rat) := Rat.intCast_le_intCast.2 (by omega)
    rw [upTo, upTo_none x f (b + z.1) (fun y hy => h y (by simp [hy])) (Rat.le_trans hx h1)]
    have e2 : clamp x (b : Rat) ((b + z.1 : Int) : Rat) = (b : Rat) := by unfold clamp; grind
    rw [e2]
    grind
theorem units_le {f : List (Int × Int)} (h : f.all vz = true) : ∀ y ∈ units f, 0 ≤ y ∧ y ≤ 20 := by
  intro y hy
  obtain ⟨w, hw, hy⟩ := List.mem_flatMap.1 hy
  have := (vz_iff w).1 (List.all_eq_true.1 h w hw)
  have := (List.mem_replicate.1 hy).2
  omega
theorem upTo_bounds {f : List (Int × Int)} (h : good f) (b : Int) (x : Rat) : 0 ≤ upTo b f x ∧ upTo b f x ≤ ((2400 : Int) : Rat) := by
  rw [← upTo_units x f b h.2]
  have := upToU_bounds (units f) b x (units_le h.2)
  have hl := len_units h.2
  have hb := len_bound h
  exact ⟨this.1, Rat.le_trans this.2 (Rat.intCast_le_intCast.2 (by omega))⟩
theorem upTo_Dv {D : Int} {x : Rat} (hx : Dv D x) : ∀ (f : List (Int × Int)) (b : Int), Dv D (upTo b f x)
  | [], b => Dv_int D 0
  | z :: f, b => by
    rw [upTo]
    exact (((clamp_Dv hx _ _).sub (Dv_int _ _)).mul z.2).add (upTo_Dv hx f (b + z.1))
/-- A place of a field with which words do not overflow. -/
def Pl (f : List (Int × Int)) (q : Rat) : Prop := (0 ≤ q.num ∧ q.num ≤ len f * q.den) ∧ (q.den : Int) ≤ 1048576
theorem Pl.le {f : List (Int × Int)} {q : Rat} (h : Pl f q) : 0 ≤ q ∧ q ≤ ((len f : Int) : Rat) := by
  refine ⟨Rat.num_nonneg.1 h.1.1, ?_⟩
  rw [Rat.le_iff]
  show q.num * (1 : Int) ≤ len f * (q.den : Int)
  have := h.1.2
  omega
theorem Pl.of {f : List (Int × Int)} {q : Rat} (h0 : 0 ≤ q) (h1 : q ≤ ((len f : Int) : Rat)) (hd : (q.den : Int) ≤ 1048576) : Pl f q := by
  refine ⟨⟨Rat.num_nonneg.2 h0, ?_⟩, hd⟩
  rw [Rat.le_iff] at h1
  have h1 : q.num * (1 : Int) ≤ len f * (q.den : Int) := h1
  omega
theorem Pl.sm {f : List (Int × Int)} {q : Rat} (hg : good f) (h : Pl f q) : Sm q := by
  have hl := len_bound hg
  have hd := den_pos q
  obtain ⟨⟨h1, h2⟩, h3⟩ := h
  have : len f * q.den ≤ 120 * 1048576 := Int.mul_le_mul hl.2 h3 (by omega) (by omega)
  exact ⟨by omega, h3⟩
theorem num_zero {q : Rat} (h : q = 0) : q.num.natAbs = 0 ∧ q.den = 1 := by subst h; exact ⟨rfl, rfl⟩
theorem mul_Nat {a b X Y : Nat} (h : a ≤ X) (k : b ≤ Y) : a * b ≤ X * Y := Nat.mul_le_mul h k
/-- One zone's part, when it is not nothing. -/
theorem zone_part {f : List (Int × Int)} (hg : good f) {p q : Rat} (hp : Pl f p) (hq : Pl f q) (hpq : p ≤ q) (g : List (Int × Int)) (hgg : good g) (z : Int × Int) (hz : vz z = true) (lo hi : Rat) (hlo : lo = if ((len g : Int) : Rat) < p then p else ((len g : Int) : Rat)) (hhi : hi = if q < ((len g + z.1 : Int) : Rat) then q else ((len g + z.1 : Int) : Rat)) (h : lo < hi) :
    (Sm lo ∧ Sm hi) ∧ Fit hi lo ∧ ((hi - lo).num.natAbs * z.2.natAbs ≤ 4611686018427387904 ∧ (hi - lo).den ≤ 4611686018427387904) ∧ Fit (upTo 0 g q - upTo 0 g p) ((hi - lo) * z.2) := by
  have hz' := (vz_iff z).1 hz
  have hlb := len_bound hgg
  have hSp := hp.sm hg
  have hSq := hq.sm hg
  have hSb : Sm ((len g : Int) : Rat) := Sm_int (by omega)
  have hSe : Sm ((len g + z.1 : Int) : Rat) := Sm_int (by omega)
  have hSlo : Sm lo := by rw [hlo]; split <;> assumption
  have hShi : Sm hi := by rw [hhi]; split <;> assumption
  have hfit := hShi.fit hSlo
  have hL := len_bound hg
  have p0 := hp.le
  have q0 := hq.le
  have hL2 : ((len f : Int) : Rat) ≤ ((120 : Int) : Rat) := Rat.intCast_le_intCast.2 hL.2
  have hb0 : (0 : Rat) ≤ ((len g : Int) : Rat) := by rw [← int0]; exact Rat.intCast_le_intCast.2 hlb.1
  have lo0 : 0 ≤ lo := by grind
  have hi1 : hi ≤ ((120 : Int) : Rat) := by grind
  have dp := den_pos p
  have dq := den_pos q
  have hD : (0 : Int) < p.den * q.den := Int.mul_pos dp dq
  have hD2 : (p.den : Int) * q.den ≤ 1048576 * 1048576 := Int.mul_le_mul hp.2 hq.2 (by omega) (by omega)
  have Dlo : Dv p.den lo := by
    rw [hlo]; split
    · exact Dv_self p
    · exact Dv_int _ _
  have Dhi : Dv q.den hi := by
    rw [hhi]; split
    · exact Dv_self q
    · exact Dv_int _ _
  have Da : Dv (p.den * q.den) (hi - lo) := (Dhi.dvd (Int.dvd_mul_left _ _)).sub (Dlo.dvd (Int.dvd_mul_right _ _))
  have a0 : 0 ≤ hi - lo := by grind
  have a1 : hi - lo ≤ ((120 : Int) : Rat) := by grind
  have na := num_le hD Da (int_neg_le_zero (M := 120) (by omega) a0) a1
  have z0 : (0 : Rat) ≤ (z.2 : Rat) := by rw [← int0]; exact Rat.intCast_le_intCast.2 hz'.2.1
  have z1 : (z.2 : Rat) ≤ ((20 : Int) : Rat) := Rat.intCast_le_intCast.2 hz'.2.2
  have t0 : 0 ≤ (hi - lo) * (z.2 : Rat) := Rat.mul_nonneg a0 z0
  have t1 : (hi - lo) * (z.2 : Rat) ≤ ((2400 : Int) : Rat) := by
    have h1 := Rat.mul_le_mul_of_nonneg_right a1 z0
    have h2 := Rat.mul_le_mul_of_nonneg_left z1 (show (0 : Rat) ≤ ((120 : Int) : Rat) by rw [← int0]; exact Rat.intCast_le_intCast.2 (by omega))
    have h3 : ((120 : Int) : Rat) * ((20 : Int) : Rat) = ((2400 : Int) : Rat) := by rw [← Rat.intCast_mul]; rfl
    grind
  refine ⟨⟨hSlo, hShi⟩, hfit, ⟨?_, by omega⟩, ?_⟩
  · have := mul_Nat (X := 120 * 1048576 * 1048576) (Y := 20) (show (hi - lo).num.natAbs ≤ 120 * 1048576 * 1048576 by omega) (show z.2.natAbs ≤ 20 by omega)
    omega
  · by_cases hb : ((len g : Int) : Rat) ≤ p
    · -- all of what lies before is left out
      have e1 := upTo_full p g 0 (all_pos hgg.2) (by rw [Int.zero_add]; exact hb)
      have e2 := upTo_full q g 0 (all_pos hgg.2) (by rw [Int.zero_add]; exact Rat.le_trans hb hpq)
      have e3 : upTo 0 g q - upTo 0 g p = 0 := by rw [e1, e2]; grind
      have n0 := num_zero e3
      have nt := num_le hD (Da.mul z.2) (int_neg_le_zero (M := 2400) (by omega) t0) t1
      exact Fit_of 0 (2400 * 1048576 * 1048576) 1 (1048576 * 1048576) (by omega) (by omega) (by omega) (by omega) (by decide) (by decide)
    · have hlo' : lo = ((len g : Int) : Rat) := by grind
      have hq' : ((len g : Int) : Rat) ≤ q := by grind
      have e2 := upTo_full q g 0 (all_pos hgg.2) (by rw [Int.zero_add]; exact hq')
      have Do : Dv p.den (upTo 0 g q - upTo 0 g p) := by rw [e2]; exact (Dv_int _ _).sub (upTo_Dv (Dv_self p) g 0)
      have Dt : Dv q.den ((hi - lo) * z.2) := by rw [hlo']; exact (Dhi.sub (Dv_int _ _)).mul z.2
      have bq := upTo_bounds hgg 0 q
      have bp := upTo_bounds hgg 0 p
      have o1 : upTo 0 g q - upTo 0 g p ≤ ((2400 : Int) : Rat) := by grind
      have o0 : ((-2400 : Int) : Rat) ≤ upTo 0 g q - upTo 0 g p := by rw [Rat.intCast_neg]; grind
      have no := num_le dp Do o0 o1
      have nt := num_le dq Dt (int_neg_le_zero (M := 2400) (by omega) t0) t1
      have := hp.2
      have := hq.2
      exact Fit_of (2400 * 1048576) (2400 * 1048576) 1048576 1048576 (by omega) (by omega) (by omega) (by omega) (by decide) (by decide)
theorem upTo_take {f : List (Int × Int)} {i : Nat} {z : Int × Int} (hz : f[i]? = some z) (x : Rat) : upTo 0 (f.take (i + 1)) x = upTo 0 (f.take i) x + (clamp x ((len (f.take i) : Int) : Rat) ((len (f.take i) + z.1 : Int) : Rat) - ((len (f.take i) : Int) : Rat)) * (z.2 : Rat) := by
  rw [List.take_add_one, hz, Option.toList_some, upTo_append, Int.zero_add, upTo, upTo, Rat.add_zero]
theorem clamp_mono {x y a b : Rat} (h : x ≤ y) (hab : a ≤ b) : clamp x a b ≤ clamp y a b := by
  unfold clamp
  grind
theorem upTo_mono {p q : Rat} (h : p ≤ q) : ∀ (f : List (Int × Int)) (b : Int), f.all vz = true → upTo b f p ≤ upTo b f q
  | [], _, _ => Rat.le_refl
  | z :: f, b, hv => by
    simp only [List.all_cons, Bool.and_eq_true] at hv
    have hz := (vz_iff z).1 hv.1
    have ih := upTo_mono h f (b + z.1) hv.2
    have hc := clamp_mono h (show (b : Rat) ≤ ((b + z.1 : Int) : Rat) from Rat.intCast_le_intCast.2 (by omega))
    have z0 : (0 : Rat) ≤ (z.2 : Rat) := by rw [← int0]; exact Rat.intCast_le_intCast.2 hz.2.1
    have := Rat.mul_le_mul_of_nonneg_right (show clamp p (b : Rat) ((b + z.1 : Int) : Rat) - (b : Rat) ≤ clamp q (b : Rat) ((b + z.1 : Int) : Rat) - (b : Rat) by grind) z0
    rw [upTo, upTo]
    grind
/-- The first place up to which it is worth so much, unit by unit. -/
def rch : Int → Int → List Int → Rat → Option Rat
  | _, _, [], _ => none
  | b, a, u :: us, x => if x ≤ ((a + u : Int) : Rat) then some ((b : Rat) + (x - (a : Rat)) / (u : Rat)) else rch (b + 1) (a + u) us x
/-- The same, zone by zone. -/
def rz : Int → Int → List (Int × Int) → Rat → Option Rat
  | _, _, [], _ => none
  | b, a, z :: f, x => if x ≤ ((a + z.1 * z.2 : Int) : Rat) then some ((b : Rat) + (x - (a : Rat)) / (z.2 : Rat)) else rz (b + z.1) (a + z.1 * z.2) f x
theorem rat_lt_le {a b c : Rat} (h : a < b) (k : b ≤ c) : a < c := by grind
theorem cast_nonneg {n : Int} (h : 0 ≤ n) : (0 : Rat) ≤ (n : Rat) := by rw [← int0]; exact Rat.intCast_le_intCast.2 h
theorem cast_pos {n : Int} (h : 0 < n) : (0 : Rat) < (n : Rat) := by rw [← int0]; exact Rat.intCast_lt_intCast.2 h
theorem rch_rep (v : Int) (hv : 0 ≤ v) (us : List Int) (x : Rat) : ∀ (n : Nat) (b a : Int), (a : Rat) < x →
    rch b a (List.replicate n v ++ us) x = if x ≤ ((a + n * v : Int) : Rat) then some ((b : Rat) + (x - (a : Rat)) / (v : Rat)) else rch (b + n) (a + n * v) us x
  | 0, b, a, h => by
    have : ¬ x ≤ (a : Rat) := Rat.not_le.2 h
    simp [this]
  | n + 1, b, a, h => by
    have e : a + ((n + 1 : Nat) : Int) * v = a + v + n * v := by rw [Int.natCast_add, Int.add_mul]; omega
    have e2 : b + ((n + 1 : Nat) : Int) = b + 1 + n := by omega
    rw [List.replicate_succ, List.cons_append, rch, e, e2]
    have hnv : 0 ≤ (n : Int) * v := Int.mul_nonneg (by omega) hv
    by_cases h1 : x ≤ ((a + v : Int) : Rat)
    · have h2 : x ≤ ((a + v + n * v : Int) : Rat) := Rat.le_trans h1 (Rat.intCast_le_intCast.2 (by omega))
      rw [if_pos h1, if_pos h2]
    · rw [if_neg h1, rch_rep v hv us x n (b + 1) (a + v) (Rat.not_le.1 h1)]
      split
      · rename_i h2
        have hvp : v ≠ 0 := by
          rintro rfl
          simp at h1 h2
          exact absurd h2 h1
        have := cast_ne hvp
        congr 1
        rw [Rat.intCast_add, Rat.intCast_add]
        have := int1
        generalize (v : Rat) = v' at *
        generalize (a : Rat) = a' at *
        generalize (b : Rat) = b' at *
        grind
      · rfl
theorem rch_units (x : Rat) : ∀ (f : List (Int × Int)) (b a : Int), f.all vz = true → (a : Rat) < x → rch b a (units f) x = rz b a f x
  | [], _, _, _, _ => rfl
  | z :: f, b, a, h, hx => by
    simp only [List.all_cons, Bool.and_eq_true] at h
    have hz := (vz_iff z).1 h.1
    have e : ((z.1.toNat : Nat) : Int) = z.1 := Int.toNat_of_nonneg (by omega)
    have : units (z :: f) = List.replicate z.1.toNat z.2 ++ units f := rfl
    rw [this, rch_rep z.2 hz.2.1 _ x _ b a hx, e, rz]
    split
    · rfl
    · rename_i h1
      exact rch_units x f _ _ h.2 (Rat.not_le.1 h1)
/-- What is found. -/
theorem rch_some (x : Rat) : ∀ (us : List Int) (b a : Int) (y : Rat), (∀ u ∈ us, 0 ≤ u ∧ u ≤ 20) → (a : Rat) < x → rch b a us x = some y →
    (∃ v : Int, (1 ≤ v ∧ v ≤ 20) ∧ ∃ b' a' : Int, y = (b' : Rat) + (x - (a' : Rat)) / (v : Rat)) ∧ ((b : Rat) ≤ y ∧ y ≤ ((b + us.length : Int) : Rat)) ∧ upToU b us y = x - (a : Rat)
  | [], _, _, _, _, _, h => by simp [rch] at h
  | u :: us, b, a, y, hu, hx, h => by
    have hu0 := hu u (by simp)
    have e2 : b + ((u :: us).length : Int) = b + 1 + us.length := by simp; omega
    rw [rch] at h
    split at h
    · rename_i h1
      have hy : (b : Rat) + (x - (a : Rat)) / (u : Rat) = y := Option.some.inj h
      have hup : 0 < u := by
        have : (a : Rat) < ((a + u : Int) : Rat) := rat_lt_le hx h1
        have := Rat.intCast_lt_intCast.1 this
        omega
      have hup' := cast_pos hup
      have d0 : 0 ≤ (x - (a : Rat)) / (u : Rat) := by rw [Rat.div_def]; exact Rat.mul_nonneg (by grind) (Rat.le_of_lt (Rat.inv_pos.2 hup'))
      have d2 : (x - (a : Rat)) / (u : Rat) * (u : Rat) = x - (a : Rat) := Rat.div_mul_cancel (cast_ne (by omega))
      have d1 : (x - (a : Rat)) / (u : Rat) ≤ 1 := by
        rcases Rat.le_total (a := (x - (a : Rat)) / (u : Rat)) (b := 1) with h | h
        · exact h
        · have := Rat.mul_le_mul_of_nonneg_right h (Rat.le_of_lt hup')
          rw [d2, Rat.one_mul] at this
          rw [Rat.intCast_add] at h1
          have e : x - (a : Rat) = (u : Rat) := by grind
          have hne := cast_ne (show u ≠ 0 by omega)
          generalize (x - (a : Rat)) / (u : Rat) = t at *
          rw [e] at d2
          have : t = 1 := by grind
          rw [this]
          exact Rat.le_refl
      have hb1 : ((b + 1 : Int) : Rat) = (b : Rat) + 1 := by rw [Rat.intCast_add]; rfl
      have hle : ((b + 1 : Int) : Rat) ≤ ((b + 1 + us.length : Int) : Rat) := Rat.intCast_le_intCast.2 (by omega)
      refine ⟨⟨u, ⟨by omega, hu0.2⟩, b, a, hy.symm⟩, ⟨by grind, by rw [e2]; grind⟩, ?_⟩
      rw [upToU, upToU_zero y us (b + 1) (by grind)]
      have : clamp y (b : Rat) ((b + 1 : Int) : Rat) = y := by unfold clamp; grind
      rw [this, ← hy]
      grind
    · rename_i h1
      obtain ⟨h2, ⟨h3, h4⟩, h5⟩ := rch_some x us (b + 1) (a + u) y (fun w hw => hu w (by simp [hw])) (Rat.not_le.1 h1) h
      have hb : (b : Rat) ≤ ((b + 1 : Int) : Rat) := Rat.intCast_le_intCast.2 (by omega)
      refine ⟨h2, ⟨Rat.le_trans hb h3, by rw [e2]; exact h4⟩, ?_⟩
      rw [upToU, h5]
      have : clamp y (b : Rat) ((b + 1 : Int) : Rat) = ((b + 1 : Int) : Rat) := by unfold clamp; grind
      have hb1 : ((b + 1 : Int) : Rat) = (b : Rat) + 1 := by rw [Rat.intCast_add]; rfl
      rw [this, hb1, Rat.intCast_add]
      grind
/-- The place of a worth from a place on. -/
def plc (f : List (Int × Int)) (p w : Rat) : Option Rat := if w.num = 0 then some p else rch 0 0 (units f) (upTo 0 f p + w)
def oR : Option Rat → AV
  | some x => R x
  | none => zeroR
theorem take_sum_succ' {us : List Int} {k : Nat} {u : Int} (h : us[k]? = some u) : (us.take (k + 1)).sum = (us.take k).sum + u := by
  rw [List.take_add_one, h]; simp
theorem split_f {α : Type} {l : List α} {i : Nat} {z : α} (hz : l[i]? = some z) : l = l.take i ++ z :: l.drop (i + 1) := by
  have hi : i < l.length := (List.getElem?_eq_some_iff.1 hz).1
  have := (List.getElem?_eq_some_iff.1 hz).2
  rw [← this, List.getElem_cons_drop, List.take_append_drop]
theorem tot_take {f : List (Int × Int)} {i : Nat} {z : Int × Int} (hz : f[i]? = some z) : tot (f.take (i + 1)) = tot (f.take i) + z.1 * z.2 := sumZ_take hz
/-- What lies before a place in a zone. -/
theorem cum_in {f : List (Int × Int)} (hg : good f) {i : Nat} {z : Int × Int} (hz : f[i]? = some z) {x : Rat} (h0 : ((len (f.take i) : Int) : Rat) ≤ x) (h1 : x ≤ ((len (f.take i) + z.1 : Int) : Rat)) :
    upTo 0 f x = ((tot (f.take i) : Int) : Rat) + (x - ((len (f.take i) : Int) : Rat)) * (z.2 : Rat) := by
  have hvz := (vz_iff z).1 (all_get hg.2 hz)
  have hd : ∀ y ∈ f.drop (i + 1), 1 ≤ y.1 := fun y hy => all_pos hg.2 y (List.mem_of_mem_drop hy)
  have e : upTo 0 f x = upTo 0 (f.take i ++ z :: f.drop (i + 1)) x := by rw [← split_f hz]
  rw [e, upTo_append, Int.zero_add, upTo_full x _ 0 (all_pos (good_take hg i).2) (by rw [Int.zero_add]; exact h0), upTo, upTo_none x _ _ hd h1, Rat.add_zero]
  have : clamp x ((len (f.take i) : Int) : Rat) ((len (f.take i) + z.1 : Int) : Rat) = x := by unfold clamp; grind
  rw [this]
theorem zero_lt_agg {q : Rat} (h : q.num = 0) : q = 0 := Rat.num_eq_zero.1 h
end Go.Proofs.Ytmblehbjedpjoaa

namespace Go.Proofs.Ytmblehbjedpjoaa
open Go Go.Eng
theorem c_Div (a : Rat) (n : Int) (A : AHeap) (ha : a.num.natAbs ≤ 4611686018427387904) (hd : a.den ≤ 4398046511104) (hn : 0 < n ∧ n ≤ 1048576) : ACalls Try.prog 110 [R a, I n] A (R (a / n)) A := by
  refine acalls hmix Try.func110 (by kernel_rfl) t110 2 rfl (by decide) ?_
  have h0 := den_pos a
  dsimp only [m110]
  simp (maxSteps := 4000000) -implicitDefEqProofs -dsimp (disch := omega) only [↓AW_ops, ↓AW_seq, ↓AOps_nil, ↓AOps_pu, ↓AOps_call, on_some, ↓then_normal, pval, rd_S, rd_C, put_S, chkd, isAdr, bgot, AV.cells?, partA, eq_self, List.replicate_succ, List.replicate_zero, List.set_cons_zero, List.set_cons_succ, List.getElem?_cons_zero, List.getElem?_cons_succ, List.drop_zero, List.take_zero, List.take_succ_cons, Option.getD_some, map_c, map_n, List.length_cons, List.length_nil, Nat.reduceAdd, Nat.reduceSub, Nat.reduceLeDiff, Nat.zero_add, List.cons_append, List.nil_append, if_true, if_false, Bool.false_eq_true]
  refine CallK.of (s59R _ ⟨by omega, by omega⟩ hn.1 (by omega)) ?_
  have hm := div_parts a n hn.1
  have hl := ratio_le a.num n hn.1
  have hp := den_pos ((a.num : Rat) / (n : Rat))
  generalize ((a.num : Rat) / (n : Rat)) = f at *
  have m1 := mul_bound (x := (f.den : Int)) (y := (a.den : Int)) (X := 1048576) (Y := 4398046511104) (by omega) (by omega)
  have m2 : 0 < (f.den : Int) * a.den := Int.mul_pos hp h0
  simp (maxSteps := 4000000) -implicitDefEqProofs -dsimp (disch := omega) only [↓AW_ops, ↓AW_seq, ↓AOps_nil, ↓AOps_pu, ↓AOps_call, on_some, extK_same, ↓then_normal, pval, rd_S, rd_C, put_S, chkd, isAdr, bput, bgot, AV.cells?, splice, partA, eq_self, List.replicate_succ, List.replicate_zero, List.set_cons_zero, List.set_cons_succ, List.getElem?_cons_zero, List.getElem?_cons_succ, List.drop_zero, List.drop_succ_cons, List.drop_nil, List.take_zero, List.take_succ_cons, List.take_nil, Option.getD_some, map_c, map_n, List.length_cons, List.length_nil, Nat.reduceAdd, Nat.reduceSub, Nat.reduceLeDiff, Nat.zero_add, List.cons_append, List.nil_append, List.append_nil, bin_mul, w64, if_true, if_false, Bool.false_eq_true, ne_eq, not_true_eq_false]
  refine CallK.of (s59R _ ⟨by omega, by omega⟩ m2 (by omega)) ?_
  simp (maxSteps := 4000000) -implicitDefEqProofs -dsimp (disch := omega) only [↓AW_ret, ↓AOps_nil, ↓AOps_pu, on_some, extK_same, ↓then_normal, ↓Fin_ret, pval, rd_S, put_S, resV, resL, chkd, bput, bgot, AV.cells?, splice, partA, eq_self, List.replicate_succ, List.replicate_zero, List.set_cons_zero, List.set_cons_succ, List.getElem?_cons_zero, List.getElem?_cons_succ, List.drop_zero, List.drop_succ_cons, List.drop_nil, List.take_zero, List.take_succ_cons, List.take_nil, Option.getD_some, List.length_cons, List.length_nil, Nat.reduceAdd, Nat.reduceSub, Nat.reduceLeDiff, Nat.reduceEqDiff, Nat.zero_add, List.cons_append, List.nil_append, List.append_nil, if_true, if_false, ne_eq, not_true_eq_false]
  exact gc_same (by rw [hm])
theorem c_Over (a : Rat) (n : Int) (A : AHeap) (ha : a.num.natAbs ≤ 4611686018427387904) (hd : a.den ≤ 4398046511104) (hn : 0 < n ∧ n ≤ 1048576) : ACalls Try.prog 126 [R a, I n] A (R (a / n)) A := by
  refine acalls hmix Try.func126 (by kernel_rfl) t126 2 rfl (by decide) ?_
  have h0 := den_pos a
  dsimp only [m126]
  simp (maxSteps := 4000000) -implicitDefEqProofs -dsimp (disch := omega) only [↓AW_ops, ↓AW_seq, ↓AOps_nil, ↓AOps_pu, ↓AOps_call, on_some, ↓then_normal, pval, rd_S, rd_C, put_S, chkd, isAdr, bgot, AV.cells?, partA, eq_self, List.replicate_succ, List.replicate_zero, List.set_cons_zero, List.set_cons_succ, List.getElem?_cons_zero, List.getElem?_cons_succ, List.drop_zero, List.take_zero, List.take_succ_cons, Option.getD_some, map_c, map_n, List.length_cons, List.length_nil, Nat.reduceAdd, Nat.reduceSub, Nat.reduceLeDiff, Nat.zero_add, List.cons_append, List.nil_append, if_true, if_false, Bool.false_eq_true]
  refine CallK.of (s91 _ ⟨by omega, by omega⟩ (by omega) hn.1 (by omega)) ?_
  obtain ⟨g1, g2⟩ := gcd_pos (a := a.num) hn.1
  have hg : ¬ (Int.gcd a.num n : Int) = 0 := by omega
  obtain ⟨x, hx⟩ := Int.gcd_dvd_left a.num n
  obtain ⟨y, hy⟩ := Int.gcd_dvd_right a.num n
  generalize (Int.gcd a.num n : Nat) = g at *
  have e1 : a.num.tdiv g = x := by rw [hx, Int.mul_tdiv_cancel_left _ (by omega)]
  have e2 : n.tdiv g = y := by
    have : ((g : Int) * y).tdiv g = y := Int.mul_tdiv_cancel_left _ (by omega)
    rwa [← hy] at this
  have p2 : 0 < y := by
    rcases Int.lt_or_le 0 y with h | h
    · exact h
    · have := Int.mul_nonpos_of_nonneg_of_nonpos (show (0 : Int) ≤ g by omega) h; omega
  have b2 : y ≤ n := by have := Int.mul_le_mul_of_nonneg_right (show (1 : Int) ≤ g by omega) (Int.le_of_lt p2); omega
  have b1 : x.natAbs ≤ a.num.natAbs := by rw [← e1, Int.natAbs_tdiv]; exact Nat.div_le_self _ _
  have m1 := mul_bound (x := (a.den : Int)) (y := y) (X := 4398046511104) (Y := 1048576) (by omega) (by omega)
  have m2 : 0 < (a.den : Int) * y := Int.mul_pos h0 p2
  have hv : (x : Rat) / (((a.den : Int) * y : Int) : Rat) = a / n := by
    have k1 := R_self a
    have k3 := cast_ne (show ((a.den : Int)) ≠ 0 by omega)
    have k4 := cast_ne (show y ≠ 0 by omega)
    have k5 := cast_ne (show (g : Int) ≠ 0 by omega)
    have k6 : (n : Rat) = ((g : Int) : Rat) * (y : Rat) := by rw [← Rat.intCast_mul, ← hy]
    rw [hx] at k1
    rw [Rat.intCast_mul] at k1 ⊢
    generalize ((a.den : Int) : Rat) = ad at *
    generalize (x : Rat) = x at *
    generalize (y : Rat) = y at *
    generalize ((g : Int) : Rat) = g at *
    generalize (n : Rat) = n at *
    grind
  simp (maxSteps := 4000000) -implicitDefEqProofs -dsimp (disch := omega) only [↓AW_skip, ↓AW_ops, ↓AW_seq, ↓AW_cond, ↓AOps_nil, ↓AOps_pu, ↓AOps_call, on_some, extK_same, condB_f, ↓then_normal, pval, rd_S, rd_C, put_S, chkd, isAdr, bgot, AV.cells?, partA, eq_self, List.replicate_succ, List.replicate_zero, List.set_cons_zero, List.set_cons_succ, List.getElem?_cons_zero, List.getElem?_cons_succ, List.drop_zero, List.drop_succ_cons, List.take_zero, List.take_succ_cons, List.take_nil, Option.getD_some, map_c, map_n, List.length_cons, List.length_nil, Nat.reduceAdd, Nat.reduceSub, Nat.reduceLeDiff, Nat.zero_add, List.cons_append, List.nil_append, bin_mul, bin_quo, bin_eql, w64, if_true, if_false, Bool.false_eq_true, decide_false, hg, e1, e2]
  refine CallK.of (s80R _ ⟨by omega, by omega⟩ (by omega) m2 (by omega)) ?_
  simp (maxSteps := 4000000) -implicitDefEqProofs -dsimp (disch := omega) only [↓AW_ret, ↓AOps_nil, ↓AOps_pu, on_some, extK_same, ↓then_normal, ↓Fin_ret, pval, rd_S, put_S, resV, resL, chkd, bput, bgot, AV.cells?, splice, partA, eq_self, List.replicate_succ, List.replicate_zero, List.set_cons_zero, List.set_cons_succ, List.getElem?_cons_zero, List.getElem?_cons_succ, List.drop_zero, List.drop_succ_cons, List.drop_nil, List.take_zero, List.take_succ_cons, List.take_nil, Option.getD_some, List.length_cons, List.length_nil, Nat.reduceAdd, Nat.reduceSub, Nat.reduceLeDiff, Nat.reduceEqDiff, Nat.zero_add, List.cons_append, List.nil_append, List.append_nil, if_true, if_false, ne_eq, not_true_eq_false]
  exact gc_same (by rw [hv])
/-- A worth that is asked for: of all that a field may be worth, with a denominator of at most 100. -/
structure Wh (w : Rat) : Prop where
  h0 : 0 ≤ w
  h1 : w ≤ ((2400 : Int) : Rat)
  hd : w.den ≤ 100
/-- The denominator that a place and a worth have in common. -/
theorem Wh.dv {f : List (Int × Int)} {p w : Rat} (hp : Pl f p) (hw : Wh w) : ∃ D : Int, (0 < D ∧ D ≤ 104857600) ∧ Dv D p ∧ (∀ g, Dv D (upTo 0 g p)) ∧ Dv D w := by
  have d1 := den_pos p
  have d2 := den_pos w
  have h3 := hw.hd
  refine ⟨(p.den : Int) * w.den, ⟨Int.mul_pos d1 d2, ?_⟩, (Dv_self p).dvd (Int.dvd_mul_right _ _), fun g => (upTo_Dv (Dv_self p) g 0).dvd (Int.dvd_mul_right _ _), (Dv_self w).dvd (Int.dvd_mul_left _ _)⟩
  have : (p.den : Int) * w.den ≤ 1048576 * 100 := Int.mul_le_mul hp.2 (by omega) (by omega) (by omega)
  omega
theorem div_numD {D v : Int} {q : Rat} (hD : 0 < D) (hD2 : D ≤ 104857600) (hv : 1 ≤ v ∧ v ≤ 20) (h : Dv D q) (h0 : 0 ≤ q) (h1 : q ≤ ((20 * v : Int) : Rat)) : ((q / (v : Rat)).num.natAbs ≤ 20 * 104857600 * 20) ∧ ((q / (v : Rat)).den ≤ 104857600 * 20) := by
  have hd := h.div v (by omega)
  have hvp := cast_pos (show 0 < v by omega)
  have d0 : 0 ≤ q / (v : Rat) := by rw [Rat.div_def]; exact Rat.mul_nonneg h0 (Rat.le_of_lt (Rat.inv_pos.2 hvp))
  have d2 : q / (v : Rat) * (v : Rat) = q := Rat.div_mul_cancel (cast_ne (by omega))
  have d1 : q / (v : Rat) ≤ ((20 : Int) : Rat) := by
    rcases Rat.le_total (a := q / (v : Rat)) (b := ((20 : Int) : Rat)) with h | h
    · exact h
    · have h3 := Rat.mul_le_mul_of_nonneg_right h (Rat.le_of_lt hvp)
      rw [d2, ← Rat.intCast_mul] at h3
      have e : q = ((20 * v : Int) : Rat) := Rat.le_antisymm h1 h3
      rw [e, Rat.intCast_mul, Rat.mul_div_cancel (cast_ne (by omega))]
      exact Rat.le_refl
  have hDv : D * v ≤ 104857600 * 20 := Int.mul_le_mul hD2 hv.2 (by omega) (by omega)
  have hDv0 : 0 < D * v := Int.mul_pos hD (by omega)
  have := num_le (M := 20) hDv0 hd (int_neg_le_zero (by omega) d0) d1
  omega
theorem c_Reach {f : List (Int × Int)} {u : AV} {A : AHeap} (hu : L1 A u (units f)) (hg : good f) (p w : Rat) (hp : Pl f p) (hw : Wh w) :
    ACalls Try.prog 112 [u, R p, R w] A (.tuple [oR (plc f p w), B (plc f p w).isSome]) A := by
  refine acalls hmix Try.func112 (by kernel_rfl) t112 3 rfl (by decide) ?_
  have hl := len_units hg.2
  have hlb := len_bound hg
  have hub := units_le hg.2
  have hw0 := hw.h0
  have hw1 := hw.h1
  have hn0 := Rat.num_nonneg.2 hw0
  by_cases hz : w.num = 0
  · have hz' : w.num ≤ 0 := by omega
    dsimp only [m112]
    simp (maxSteps := 4000000) -implicitDefEqProofs -dsimp (disch := omega) only [↓AW_ops, ↓AW_seq, ↓AW_cond, ↓AW_ret, ↓AOps_nil, ↓AOps_pu, on_some, condB_t, ↓then_normal, ↓then_ret, ↓Fin_ret, pval, rd_S, rd_C, put_S, resV, resL, chkd, isAdr, bput, bgot, AV.cells?, splice, partA, eq_self, List.replicate_succ, List.replicate_zero, List.set_cons_zero, List.set_cons_succ, List.getElem?_cons_zero, List.getElem?_cons_succ, List.drop_zero, List.drop_succ_cons, List.drop_nil, List.take_zero, List.take_succ_cons, List.take_nil, Option.getD_some, List.length_cons, List.length_nil, Nat.reduceAdd, Nat.reduceSub, Nat.reduceLeDiff, Nat.reduceEqDiff, Nat.zero_add, List.cons_append, List.nil_append, List.append_nil, bin_leq, if_true, if_false, Bool.false_eq_true, decide_true, ne_eq, not_true_eq_false, hz']
    exact gc_same (by simp [plc, hz, oR])
  · have hz' : ¬ w.num ≤ 0 := by omega
    have hwp : 0 < w := num_pos_iff w |>.1 (by omega)
    dsimp only [m112]
    simp (maxSteps := 4000000) -implicitDefEqProofs -dsimp (disch := omega) only [↓AW_skip, ↓AW_ops, ↓AW_seq, ↓AW_cond, ↓AOps_nil, ↓AOps_pu, ↓AOps_call, on_some, condB_f, ↓then_normal, pval, rd_S, rd_C, put_S, chkd, isAdr, bgot, AV.cells?, partA, eq_self, List.replicate_succ, List.replicate_zero, List.set_cons_zero, List.set_cons_succ, List.getElem?_cons_zero, List.getElem?_cons_succ, List.drop_zero, List.take_zero, List.take_succ_cons, List.take_nil, Option.getD_some, map_c, map_n, List.length_cons, List.length_nil, Nat.reduceAdd, Nat.reduceSub, Nat.reduceLeDiff, Nat.reduceEqDiff, Nat.zero_add, List.cons_append, List.nil_append, bin_leq, if_true, if_false, Bool.false_eq_true, decide_false, hz']
    have h104 := s104 hu (by omega) hub p (hp.sm hg) hp.1.1 (by rw [hl]; exact hp.1.2)
    rw [upTo_units p f 0 hg.2] at h104
    refine CallK.of h104 ?_
    have hbp := upTo_bounds hg 0 p
    obtain ⟨D, hD, _, hDp, hDw⟩ := hw.dv hp
    have hDp := hDp f
    have nup := num_le (M := 2400) (den_pos p) (upTo_Dv (Dv_self p) f 0) (int_neg_le_zero (by omega) hbp.1) hbp.2
    have nw := num_le (M := 2400) (den_pos w) (Dv_self w) (int_neg_le_zero (by omega) hw0) hw1
    have hpd := hp.2
    have hwd := hw.hd
    simp (maxSteps := 4000000) -implicitDefEqProofs -dsimp (disch := omega) only [↓AOps_pu, ↓AOps_call, on_some, extK_same, pval, rd_S, put_S, chkd, bgot, partA, eq_self, List.replicate_succ, List.replicate_zero, List.set_cons_zero, List.set_cons_succ, List.getElem?_cons_zero, List.getElem?_cons_succ, List.drop_zero, List.take_succ_cons, List.take_nil, Option.getD_some, map_c, map_n, List.length_cons, List.length_nil, Nat.reduceAdd, Nat.reduceSub, Nat.reduceLeDiff, Nat.reduceEqDiff, Nat.zero_add, List.cons_append, List.nil_append, if_true, if_false]
    refine CallK.of (s37g _ _ _ (Fit_of (2400 * 1048576) 240000 1048576 100 (by omega) (by omega) (by omega) (by omega) (by decide) (by decide))) ?_
    simp (maxSteps := 4000000) -implicitDefEqProofs -dsimp (disch := omega) only [↓AW_ops, ↓AW_seq, ↓AW_block, ↓AOps_nil, ↓AOps_pu, on_some, extK_same, ↓then_normal, pval, rd_S, rd_C, put_S, ↓AW_toLoop, chkd, bput, AV.cells?, splice, eq_self, List.replicate_succ, List.replicate_zero, List.set_cons_zero, List.set_cons_succ, List.getElem?_cons_zero, List.getElem?_cons_succ, List.drop_succ_cons, List.drop_nil, List.take_zero, Option.getD_some, List.length_cons, List.length_nil, Nat.reduceAdd, Nat.reduceSub, Nat.reduceLeDiff, Nat.zero_add, List.cons_append, List.nil_append, List.append_nil, if_true, if_false, ne_eq, not_true_eq_false]
    have hpl : plc f p w = rch 0 0 (units f) (upTo 0 f p + w) := by unfold plc; rw [if_neg hz]
    rw [hpl]
    have hDx := hDp.add hDw
    have hx0 : 0 < upTo 0 f p + w := by grind
    have hx1 : upTo 0 f p + w ≤ ((4800 : Int) : Rat) := by
      have : ((4800 : Int) : Rat) = ((2400 : Int) : Rat) + ((2400 : Int) : Rat) := by rw [← Rat.intCast_add]; rfl
      grind
    generalize upTo 0 f p + w = x at *
    have nx := num_le (M := 4800) hD.1 hDx (int_neg_le_zero (by omega) (Rat.le_of_lt hx0)) hx1
    have nxn : x.num.natAbs ≤ 4800 * 104857600 := by omega
    have nxd : x.den ≤ 104857600 := by omega
    refine LoopK.by 55 (fun i : Nat => i ≤ (units f).length ∧ ((((units f).take i).sum : Int) : Rat) < x ∧ rch 0 0 (units f) x = rch i ((units f).take i).sum ((units f).drop i) x) (fun i => [(0, u), (6, .agg [I 0, I 0]), (8, R x), (9, I ((units f).take i).sum), (10, I i)]) (fun _ => A) (fun i => (units f).length - i) 0 ⟨by omega, by simpa using hx0, by simp⟩ rfl (by simp [Has, rd_s]) rfl ?_
    rintro i ⟨hi, hlx, he⟩
    have hs := take_sumB hub i
    by_cases hlt : i < (units f).length
    · obtain ⟨z, hz⟩ : ∃ z, (units f)[i]? = some z := ⟨_, List.getElem?_eq_getElem hlt⟩
      have hlt' : (i : Int) < (units f).length := by omega
      have hbz := hub z (List.mem_of_getElem? hz)
      have hdr : (units f).drop i = z :: (units f).drop (i + 1) := by
        have := (List.getElem?_eq_some_iff.1 hz).2
        rw [← this]; exact List.drop_eq_getElem_cons hlt
      rw [hdr, rch] at he
      have hfi : ∀ k : Int, 0 ≤ k → k ≤ 2500 → Fit ((k : Int) : Rat) x := fun k k0 k1 => Fit_of 2500 (4800 * 104857600) 1 104857600 (show k.natAbs ≤ 2500 by omega) (by show 1 ≤ 1; omega) nxn nxd (by decide) (by decide)
      have hfi2 : ∀ k : Int, 0 ≤ k → k ≤ 2500 → Fit x ((k : Int) : Rat) := fun k k0 k1 => Fit_of (4800 * 104857600) 2500 104857600 1 nxn nxd (show k.natAbs ≤ 2500 by omega) (by show 1 ≤ 1; omega) (by decide) (by decide)
      simp (maxSteps := 4000000) -implicitDefEqProofs -dsimp (disch := omega) only [↓AW_skip, ↓AW_ops, ↓AW_seq, ↓AW_cond, ↓AW_block, ↓AOps_nil, ↓AOps_pu, ↓AOps_ld, ↓AOps_call, on_some, condB_t, ↓then_normal, pval, lval, rd_S, put_S, partA, eq_self, mk, List.foldl_cons, List.foldl_nil, List.replicate_succ, List.replicate_zero, List.set_cons_zero, List.set_cons_succ, List.getElem?_cons_zero, List.getElem?_cons_succ, List.drop_zero, List.take_succ_cons, List.take_nil, Option.getD_some, map_c, map_n, List.length_cons, List.length_nil, Nat.reduceLeDiff, Nat.zero_add, bin_add, bin_lss, w64, if_true, if_false, Bool.false_eq_true, decide_true, Go.Eng.e1, hlt', hu.len, hu.idx hlt, hu.ld0 hz 1 false (by decide)]
      refine CallK.of (s36 _ _) ?_
      simp (maxSteps := 4000000) -implicitDefEqProofs -dsimp (disch := omega) only [↓AOps_pu, ↓AOps_call, on_some, extK_same, pval, rd_S, put_S, chkd, bgot, partA, eq_self, mk, List.foldl_cons, List.foldl_nil, List.replicate_succ, List.replicate_zero, List.set_cons_zero, List.set_cons_succ, List.getElem?_cons_zero, List.getElem?_cons_succ, List.drop_zero, List.take_succ_cons, List.take_nil, Option.getD_some, map_c, map_n, List.length_cons, List.length_nil, Nat.reduceAdd, Nat.reduceLeDiff, Nat.reduceEqDiff, Nat.zero_add, if_true, if_false]
      refine CallK.of (s19g _ _ _ (hfi _ (by omega) (by omega))) ?_
      by_cases h1 : x ≤ ((((units f).take i).sum + z : Int) : Rat)
      · have h1' : ¬ ((((units f).take i).sum + z : Int) : Rat) < x := Rat.not_lt.2 h1
        rw [if_pos h1] at he
        have hzp : 1 ≤ z := by
          have : ((((units f).take i).sum : Int) : Rat) < ((((units f).take i).sum + z : Int) : Rat) := rat_lt_le hlx h1
          have := Rat.intCast_lt_intCast.1 this
          omega
        simp (maxSteps := 4000000) -implicitDefEqProofs -dsimp (disch := omega) only [↓AW_ops, ↓AW_seq, ↓AW_cond, ↓AOps_nil, ↓AOps_pu, ↓AOps_call, on_some, extK_same, condB_t, ↓then_normal, pval, rd_S, put_S, mk, List.foldl_cons, List.foldl_nil, List.replicate_succ, List.replicate_zero, List.set_cons_zero, List.set_cons_succ, List.getElem?_cons_zero, List.getElem?_cons_succ, Option.getD_some, map_c, map_n, Bool.not_false, decide_false, h1']
        refine CallK.of (s36 _ _) ?_
        simp (maxSteps := 4000000) -implicitDefEqProofs -dsimp (disch := omega) only [↓AOps_pu, ↓AOps_call, on_some, extK_same, pval, rd_S, put_S, chkd, bgot, partA, eq_self, mk, List.foldl_cons, List.foldl_nil, List.replicate_succ, List.replicate_zero, List.set_cons_zero, List.set_cons_succ, List.getElem?_cons_zero, List.getElem?_cons_succ, List.drop_zero, List.take_succ_cons, List.take_nil, Option.getD_some, map_c, map_n, List.length_cons, List.length_nil, Nat.reduceAdd, Nat.reduceLeDiff, Nat.reduceEqDiff, Nat.zero_add, if_true, if_false]
        refine CallK.of (s36 _ _) ?_
        simp (maxSteps := 4000000) -implicitDefEqProofs -dsimp (disch := omega) only [↓AOps_call, extK_same, rd_S, put_S, mk, List.foldl_cons, List.foldl_nil, List.replicate_succ, List.replicate_zero, List.set_cons_zero, List.set_cons_succ, List.getElem?_cons_zero, List.getElem?_cons_succ, Option.getD_some, map_c, map_n]
        refine CallK.of (s55g _ _ _ (hfi2 _ (by omega) (by omega))) ?_
        have hDd := hDx.sub (Dv_int D ((units f).take i).sum)
        have hd0 : 0 ≤ x - ((((units f).take i).sum : Int) : Rat) := by grind
        have hd1 : x - ((((units f).take i).sum : Int) : Rat) ≤ (z : Rat) := by rw [Rat.intCast_add] at h1; grind
        have hd2 : x - ((((units f).take i).sum : Int) : Rat) ≤ ((20 * z : Int) : Rat) := Rat.le_trans hd1 (Rat.intCast_le_intCast.2 (by omega))
        have nd := num_le (M := 20) hD.1 hDd (int_neg_le_zero (by omega) hd0) (Rat.le_trans hd1 (Rat.intCast_le_intCast.2 (by omega)))
        have hdn := div_numD hD.1 hD.2 ⟨hzp, hbz.2⟩ hDd hd0 hd2
        simp (maxSteps := 4000000) -implicitDefEqProofs -dsimp (disch := omega) only [↓AOps_pu, ↓AOps_ld, ↓AOps_call, on_some, extK_same, pval, lval, rd_S, put_S, partA, eq_self, mk, List.foldl_cons, List.foldl_nil, List.replicate_succ, List.replicate_zero, List.set_cons_zero, List.set_cons_succ, List.getElem?_cons_zero, List.getElem?_cons_succ, List.drop_zero, List.take_succ_cons, List.take_nil, Option.getD_some, map_c, map_n, List.length_cons, List.length_nil, Nat.reduceLeDiff, Nat.zero_add, if_true, if_false, Bool.false_eq_true, Go.Eng.e1, hu.idx hlt, hu.ld0 hz 1 false (by decide)]
        refine CallK.of (c_Over _ z _ (by omega) (by omega) ⟨by omega, by omega⟩) ?_
        simp (maxSteps := 4000000) -implicitDefEqProofs -dsimp (disch := omega) only [↓AOps_call, extK_same, rd_S, put_S, mk, List.foldl_cons, List.foldl_nil, List.replicate_succ, List.replicate_zero, List.set_cons_zero, List.set_cons_succ, List.getElem?_cons_zero, List.getElem?_cons_succ, Option.getD_some, map_c, map_n]
        refine CallK.of (s37g _ _ _ (Fit_of 120 (20 * 104857600 * 20) 1 (104857600 * 20) (show (i : Int).natAbs ≤ 120 by omega) (by show 1 ≤ 1; omega) hdn.1 hdn.2 (by decide) (by decide))) ?_
        simp (maxSteps := 4000000) -implicitDefEqProofs -dsimp (disch := omega) only [↓AW_ret, ↓AOps_nil, ↓AOps_pu, on_some, extK_same, ↓then_normal, ↓then_ret, ↓inBlock_ret, ↓Fin_ret, pval, rd_S, rd_C, put_S, resV, resL, chkd, bput, bgot, AV.cells?, splice, partA, eq_self, mk, List.foldl_cons, List.foldl_nil, List.replicate_succ, List.replicate_zero, List.set_cons_zero, List.set_cons_succ, List.getElem?_cons_zero, List.getElem?_cons_succ, List.drop_zero, List.drop_succ_cons, List.drop_nil, List.take_zero, List.take_succ_cons, List.take_nil, Option.getD_some, List.length_cons, List.length_nil, Nat.reduceAdd, Nat.reduceLeDiff, Nat.reduceEqDiff, Nat.zero_add, List.nil_append, List.append_nil, if_true, if_false, ne_eq, not_true_eq_false]
        exact gc_same (by rw [he]; rfl)
      · have h1' : ((((units f).take i).sum + z : Int) : Rat) < x := Rat.not_le.1 h1
        rw [if_neg h1] at he
        have hts := take_sum_succ' hz
        simp (maxSteps := 4000000) -implicitDefEqProofs -dsimp (disch := omega) only [↓AW_skip, ↓AW_ops, ↓AW_cond, ↓AOps_nil, ↓AOps_pu, ↓AOps_ld, on_some, extK_same, condB_f, ↓then_normal, ↓inBlock_normal, pval, lval, rd_S, rd_C, put_S, partA, eq_self, mk, List.foldl_cons, List.foldl_nil, List.replicate_succ, List.replicate_zero, List.set_cons_zero, List.set_cons_succ, List.getElem?_cons_zero, List.getElem?_cons_succ, List.drop_zero, List.take_succ_cons, List.take_nil, Option.getD_some, List.length_cons, List.length_nil, Nat.reduceAdd, Nat.reduceLeDiff, Nat.zero_add, bin_add, w64, if_true, if_false, Bool.false_eq_true, Bool.not_true, decide_true, Go.Eng.e1, true_and, h1', hu.idx hlt, hu.ld0 hz 1 false (by decide)]
        exact ⟨i + 1, ⟨hlt, by rw [hts]; exact h1', by rw [he, hts]; rfl⟩, by simp [Has, rd_s, hts], by omega⟩
    · have hlt' : ¬ ((i : Int) < (units f).length) := by omega
      rw [List.drop_of_length_le (by omega)] at he
      simp (maxSteps := 4000000) -implicitDefEqProofs -dsimp (disch := omega) only [↓AW_ops, ↓AW_seq, ↓AW_cond, ↓AW_exit, ↓AW_ret, ↓AOps_nil, ↓AOps_pu, on_some, condB_f, ↓then_normal, ↓then_exit, ↓inBlock_exit, ↓Fin_ret, pval, rd_S, rd_C, put_S, resV, resL, chkd, bput, bgot, AV.cells?, splice, partA, fillA, eq_self, mk, List.foldl_cons, List.foldl_nil, List.replicate_succ, List.replicate_zero, List.set_cons_zero, List.set_cons_succ, List.getElem?_cons_zero, List.getElem?_cons_succ, List.drop_zero, List.drop_succ_cons, List.drop_nil, List.take_zero, List.take_succ_cons, List.take_nil, Option.getD_some, Option.map_some, map_n, List.length_cons, List.length_nil, Nat.reduceAdd, Nat.reduceLeDiff, Nat.reduceEqDiff, Nat.zero_add, List.nil_append, List.append_nil, bin_lss, if_true, if_false, decide_false, ne_eq, not_true_eq_false, hlt', hu.len]
      exact gc_same (by rw [he]; rfl)
end Go.Proofs.Ytmblehbjedpjoaa

namespace Go.Proofs.Ytmblehbjedpjoaa
open Go Go.Eng
def e0 (x : AV × List Int) : List AV := [x.1]
/-- A list of lists in memory. -/
structure LL (A : AHeap) (v : AV) (ws : List (AV × List Int)) : Prop where
  ls : Ls 1 e0 A v ws
  inn : ∀ x ∈ ws, L1 A x.1 x.2
theorem LL.mono {A A' : AHeap} {v : AV} {ws : List (AV × List Int)} (h : LL A v ws) (hp : A <+: A') : LL A' v ws := ⟨h.ls.mono hp, fun x hx => (h.inn x hx).mono hp⟩
abbrev lists (ws : List (AV × List Int)) : List (List Int) := ws.map Prod.snd
theorem mem_lists {ws : List (AV × List Int)} {w : AV × List Int} (h : w ∈ ws) : w.2 ∈ lists ws := List.mem_map_of_mem h
theorem c_kw (n lo hi : Int) (A : AHeap) : ACalls Try.prog 57 [I n, I lo, I hi] A (B (decide (lo ≤ n ∧ n ≤ hi))) A := by
  refine acalls hmix Try.func57 (by kernel_rfl) t57 3 rfl (by decide) ?_
  by_cases h : lo ≤ n
  · dsimp only [m57]
    simp (maxSteps := 4000000) -implicitDefEqProofs -dsimp (disch := omega) only [↓AW_ops, ↓AW_seq, ↓AW_ret, ↓AOps_nil, ↓AOps_pu, ↓AOps_guard, on_some, guardB_tt, ↓then_normal, ↓Fin_ret, pval, rd_S, rd_C, put_S, resV, resL, eq_self, List.replicate_succ, List.replicate_zero, List.set_cons_zero, List.set_cons_succ, List.getElem?_cons_zero, List.getElem?_cons_succ, Option.getD_some, Nat.reduceSub, List.cons_append, List.nil_append, bin_leq, bin_geq, if_true, decide_true, true_and, h]
    exact gc_same rfl
  · dsimp only [m57]
    simp (maxSteps := 4000000) -implicitDefEqProofs -dsimp (disch := omega) only [↓AW_ops, ↓AW_seq, ↓AW_ret, ↓AOps_nil, ↓AOps_pu, ↓AOps_guard, on_some, guardB_ft, skipS_some, ↓then_normal, ↓Fin_ret, pval, rd_S, rd_C, put_S, resV, resL, List.replicate_succ, List.replicate_zero, List.set_cons_zero, List.set_cons_succ, List.getElem?_cons_zero, List.getElem?_cons_succ, Option.getD_some, Nat.reduceSub, List.cons_append, List.nil_append, bin_geq, if_false, Bool.false_eq_true, decide_false, h]
    exact gc_same rfl
theorem c_rw (n lo hi : Int) (A : AHeap) : ACalls Try.prog 62 [I n, I lo, I hi] A (B (decide (lo ≤ n ∧ n ≤ hi))) A := by
  refine acalls hmix Try.func62 (by kernel_rfl) t62 3 rfl (by decide) ?_
  by_cases h : lo ≤ n
  · dsimp only [m62]
    simp (maxSteps := 4000000) -implicitDefEqProofs -dsimp (disch := omega) only [↓AW_ops, ↓AW_seq, ↓AW_ret, ↓AOps_nil, ↓AOps_pu, ↓AOps_guard, on_some, guardB_tt, ↓then_normal, ↓Fin_ret, pval, rd_S, rd_C, put_S, resV, resL, eq_self, List.replicate_succ, List.replicate_zero, List.set_cons_zero, List.set_cons_succ, List.getElem?_cons_zero, List.getElem?_cons_succ, Option.getD_some, Nat.reduceSub, List.cons_append, List.nil_append, bin_leq, bin_geq, if_true, decide_true, true_and, h]
    exact gc_same rfl
  · dsimp only [m62]
    simp (maxSteps := 4000000) -implicitDefEqProofs -dsimp (disch := omega) only [↓AW_ops, ↓AW_seq, ↓AW_ret, ↓AOps_nil, ↓AOps_pu, ↓AOps_guard, on_some, guardB_ft, skipS_some, ↓then_normal, ↓Fin_ret, pval, rd_S, rd_C, put_S, resV, resL, List.replicate_succ, List.replicate_zero, List.set_cons_zero, List.set_cons_succ, List.getElem?_cons_zero, List.getElem?_cons_succ, Option.getD_some, Nat.reduceSub, List.cons_append, List.nil_append, bin_geq, if_false, Bool.false_eq_true, decide_false, h]
    exact gc_same rfl
theorem c_v1 (n : Int) (A : AHeap) : ACalls Try.prog 70 [I n] A (B (!vLn n)) A := by
  refine acalls hmix Try.func70 (by kernel_rfl) t70 1 rfl (by decide) ?_
  dsimp only [m70]
  simp (maxSteps := 4000000) -implicitDefEqProofs -dsimp (disch := omega) only [↓AW_ops, ↓AW_seq, ↓AOps_nil, ↓AOps_pu, ↓AOps_call, on_some, ↓then_normal, pval, rd_S, rd_C, put_S, List.replicate_succ, List.replicate_zero, List.set_cons_zero, List.set_cons_succ, List.getElem?_cons_zero, List.getElem?_cons_succ, Option.getD_some, map_c, map_n, Nat.reduceSub, List.cons_append, List.nil_append]
  refine CallK.of (c_kw _ _ _ _) ?_
  simp (maxSteps := 4000000) -implicitDefEqProofs -dsimp (disch := omega) only [↓AW_ret, ↓AOps_nil, ↓AOps_pu, on_some, extK_same, ↓then_normal, ↓Fin_ret, pval, rd_S, put_S, resV, resL, List.replicate_succ, List.replicate_zero, List.set_cons_zero, List.set_cons_succ, List.getElem?_cons_zero, List.getElem?_cons_succ, Option.getD_some, Nat.reduceSub, List.cons_append, List.nil_append]
  exact gc_same (by simp [vLn])
theorem c_v2 (n : Int) (A : AHeap) : ACalls Try.prog 71 [I n] A (B (!vVl n)) A := by
  refine acalls hmix Try.func71 (by kernel_rfl) t71 1 rfl (by decide) ?_
  dsimp only [m71]
  simp (maxSteps := 4000000) -implicitDefEqProofs -dsimp (disch := omega) only [↓AW_ops, ↓AW_seq, ↓AOps_nil, ↓AOps_pu, ↓AOps_call, on_some, ↓then_normal, pval, rd_S, rd_C, put_S, List.replicate_succ, List.replicate_zero, List.set_cons_zero, List.set_cons_succ, List.getElem?_cons_zero, List.getElem?_cons_succ, Option.getD_some, map_c, map_n, Nat.reduceSub, List.cons_append, List.nil_append]
  refine CallK.of (c_kw _ _ _ _) ?_
  simp (maxSteps := 4000000) -implicitDefEqProofs -dsimp (disch := omega) only [↓AW_ret, ↓AOps_nil, ↓AOps_pu, on_some, extK_same, ↓then_normal, ↓Fin_ret, pval, rd_S, put_S, resV, resL, List.replicate_succ, List.replicate_zero, List.set_cons_zero, List.set_cons_succ, List.getElem?_cons_zero, List.getElem?_cons_succ, Option.getD_some, Nat.reduceSub, List.cons_append, List.nil_append]
  exact gc_same (by simp [vVl])
theorem mxL_take {xs : List Int} {i : Nat} {z : Int} (hi : 1 ≤ i) (hz : xs[i]? = some z) : mxL (xs.take (i + 1)) = max (mxL (xs.take i)) z := by
  cases xs with
  | nil => simp at hz
  | cons x xs =>
    obtain ⟨j, rfl⟩ : ∃ j, i = j + 1 := ⟨i - 1, by omega⟩
    simp only [List.take_succ_cons, mxL]
    rw [List.getElem?_cons_succ] at hz
    rw [List.take_add_one, hz, Option.toList_some, List.foldl_append, List.foldl_cons, List.foldl_nil]
theorem c_Max {xs : List Int} {v : AV} {A : AHeap} (hx : L1 A v xs) (h0 : 1 ≤ xs.length) (hl : xs.length ≤ 1000000) : ACalls Try.prog 72 [v] A (I (mxL xs)) A := by
  refine acalls hmix Try.func72 (by kernel_rfl) t72 1 rfl (by decide) ?_
  obtain ⟨x, hx0⟩ : ∃ x, xs[0]? = some x := ⟨_, List.getElem?_eq_getElem (by omega)⟩
  have h0' : ¬ (xs.length : Int) < 1 := by omega
  have i0 := hx.idx (k := .i64) (i := 0) (by omega)
  have e0' : ((0 : Nat) : Int) = 0 := rfl
  have l0 := hx.ld0 hx0 1 false (by decide)
  rw [e0'] at i0
  rw [Nat.zero_mul, Nat.add_zero] at i0 l0
  dsimp only [m72]
  simp (maxSteps := 4000000) -implicitDefEqProofs -dsimp (disch := omega) only [↓AW_skip, ↓AW_ops, ↓AW_seq, ↓AW_cond, ↓AW_block, ↓AOps_nil, ↓AOps_pu, ↓AOps_ld, on_some, condB_f, ↓then_normal, pval, lval, rd_S, rd_C, put_S, ↓AW_toLoop, partA, eq_self, List.replicate_succ, List.replicate_zero, List.set_cons_zero, List.set_cons_succ, List.getElem?_cons_zero, List.getElem?_cons_succ, List.drop_zero, List.take_succ_cons, List.take_nil, Option.getD_some, List.length_cons, List.length_nil, Nat.reduceSub, Nat.reduceLeDiff, Nat.zero_add, List.cons_append, List.nil_append, bin_lss, if_true, if_false, Bool.false_eq_true, decide_false, Go.Eng.e1, hx.len, h0', i0, l0]
  have ht1 : mxL (xs.take 1) = x := by
    cases xs with
    | nil => simp at hx0
    | cons y ys => simp at hx0; subst hx0; rfl
  refine LoopK.by 25 (fun i : Nat => 1 ≤ i ∧ i ≤ xs.length) (fun i => [(0, v), (3, I (mxL (xs.take i))), (4, I i)]) (fun _ => A) (fun i => xs.length - i) 1 ⟨by omega, by omega⟩ rfl (by simp [Has, rd_s, ht1]) rfl ?_
  rintro i ⟨hi1, hi⟩
  by_cases hlt : i < xs.length
  · obtain ⟨z, hz⟩ : ∃ z, xs[i]? = some z := ⟨_, List.getElem?_eq_getElem hlt⟩
    have hlt' : (i : Int) < xs.length := by omega
    simp (maxSteps := 4000000) -implicitDefEqProofs -dsimp (disch := omega) only [↓AW_skip, ↓AW_ops, ↓AW_seq, ↓AW_cond, ↓AW_block, ↓AOps_nil, ↓AOps_pu, ↓AOps_ld, on_some, condB_t, ↓then_normal, ↓inBlock_normal, pval, lval, rd_S, rd_C, put_S, partA, eq_self, mk, List.foldl_cons, List.foldl_nil, List.replicate_succ, List.replicate_zero, List.set_cons_zero, List.set_cons_succ, List.getElem?_cons_zero, List.getElem?_cons_succ, List.drop_zero, List.take_succ_cons, List.take_nil, Option.getD_some, map_c, map_n, List.length_cons, List.length_nil, Nat.reduceAdd, Nat.reduceLeDiff, Nat.zero_add, bin_add, bin_lss, mm_max, w64, if_true, if_false, Bool.false_eq_true, decide_true, Go.Eng.e1, true_and, hlt', hx.len, hx.idx hlt, hx.ld0 hz 1 false (by decide)]
    exact ⟨i + 1, ⟨by omega, hlt⟩, by simp [Has, rd_s, mxL_take hi1 hz], by omega⟩
  · have hlt' : ¬ ((i : Int) < xs.length) := by omega
    simp (maxSteps := 4000000) -implicitDefEqProofs -dsimp (disch := omega) only [↓AW_ops, ↓AW_seq, ↓AW_cond, ↓AW_exit, ↓AW_ret, ↓AOps_nil, ↓AOps_pu, on_some, condB_f, ↓then_normal, ↓then_exit, ↓inBlock_exit, ↓Fin_ret, pval, rd_S, put_S, resV, resL, eq_self, mk, List.foldl_cons, List.foldl_nil, List.replicate_succ, List.replicate_zero, List.set_cons_zero, List.set_cons_succ, List.getElem?_cons_zero, List.getElem?_cons_succ, Option.getD_some, bin_lss, if_true, decide_false, hlt', hx.len]
    rw [List.take_of_length_le (by omega)]
    exact gc_same rfl
section
variable {L : List Int} {ws : List (AV × List Int)} {x y : AV} {A : AHeap}
theorem kE_large {V : List (List Int)} (h : ¬ (((1 : Int) ≤ L.length ∧ (L.length : Int) ≤ 6) ∧ ((1 : Int) ≤ V.length ∧ (V.length : Int) ≤ 5))) : kE L V = 3 := by
  unfold kE; rw [if_pos h]
theorem kE_bad {V : List (List Int)} (h : ((1 : Int) ≤ L.length ∧ (L.length : Int) ≤ 6) ∧ ((1 : Int) ≤ V.length ∧ (V.length : Int) ≤ 5)) {n : Int} (hn : n ∈ L) (hb : vLn n = false) : kE L V = 1 := by
  unfold kE
  rw [if_neg (by omega), if_neg]
  intro ha
  simp only [Bool.and_eq_true] at ha
  rw [List.all_eq_true.1 ha.1 n hn] at hb; cases hb
theorem kE_row {V : List (List Int)} (h : ((1 : Int) ≤ L.length ∧ (L.length : Int) ≤ 6) ∧ ((1 : Int) ≤ V.length ∧ (V.length : Int) ≤ 5)) {r : List Int} (hr : r ∈ V) (hb : rOK L r = false) : kE L V = 1 := by
  unfold kE
  rw [if_neg (by omega), if_neg]
  intro ha
  simp only [Bool.and_eq_true] at ha
  rw [List.all_eq_true.1 ha.2 r hr] at hb; cases hb
theorem kE_ok {V : List (List Int)} (h : ((1 : Int) ≤ L.length ∧ (L.length : Int) ≤ 6) ∧ ((1 : Int) ≤ V.length ∧ (V.length : Int) ≤ 5)) (h1 : L.all vLn = true) (h2 : V.all (rOK L) = true) : kE L V = 0 := by
  unfold kE
  rw [if_neg (by omega), if_pos (by simp [h1, h2])]
theorem rOK_false {r : List Int} (h : ¬ (r.length = L.length ∧ (∀ y ∈ r, 0 ≤ y ∧ y ≤ 20) ∧ ∃ y ∈ r, y ≠ 0)) : rOK L r = false := by
  rw [← rOK_iff] at h; simpa using h
theorem s26 (hL : L1 A x L) (hV : LL A y ws) (hs : L.length ≤ 1000000) (hl : ws.length ≤ 1000000) (hw : ∀ w ∈ ws, w.2.length ≤ 1000000) : ACalls Try.prog 26 [.agg [x, y]] A (I (kE L (lists ws))) A := by
  refine acalls hmix Try.func26 (by kernel_rfl) t26 1 rfl (by decide) ?_
  dsimp only [m26]
  simp (maxSteps := 4000000) -implicitDefEqProofs -dsimp (disch := omega) only [↓AW_ops, ↓AW_seq, ↓AOps_nil, ↓AOps_pu, ↓AOps_call, on_some, ↓then_normal, pval, rd_S, rd_C, put_S, chkd, isAdr, bgot, AV.cells?, partA, eq_self, List.replicate_succ, List.replicate_zero, List.set_cons_zero, List.set_cons_succ, List.getElem?_cons_zero, List.getElem?_cons_succ, List.drop_zero, List.take_zero, List.take_succ_cons, Option.getD_some, map_c, map_n, List.length_cons, List.length_nil, Nat.reduceAdd, Nat.reduceSub, Nat.reduceLeDiff, Nat.zero_add, List.cons_append, List.nil_append, if_true, if_false, Bool.false_eq_true, hL.len]
  refine CallK.of (c_kw _ _ _ _) ?_
  have hll : ((lists ws).length : Int) = ws.length := by simp
  by_cases h1 : (1 : Int) ≤ L.length ∧ (L.length : Int) ≤ 6
  · simp (maxSteps := 4000000) -implicitDefEqProofs -dsimp (disch := omega) only [↓AOps_pu, ↓AOps_call, ↓AOps_guard, on_some, extK_same, guardB_ff, pval, rd_S, rd_C, put_S, chkd, isAdr, bgot, AV.cells?, partA, eq_self, List.replicate_succ, List.replicate_zero, List.set_cons_zero, List.set_cons_succ, List.getElem?_cons_zero, List.getElem?_cons_succ, List.drop_zero, List.drop_succ_cons, List.take_succ_cons, List.take_nil, Option.getD_some, map_c, map_n, List.length_cons, List.length_nil, Nat.reduceAdd, Nat.reduceSub, Nat.reduceLeDiff, Nat.zero_add, List.cons_append, List.nil_append, if_true, if_false, Bool.false_eq_true, Bool.not_true, decide_true, and_true, h1, hV.ls.len]
    refine CallK.of (c_kw _ _ _ _) ?_
    by_cases h2 : (1 : Int) ≤ ws.length ∧ (ws.length : Int) ≤ 5
    · have h12 : ((1 : Int) ≤ L.length ∧ (L.length : Int) ≤ 6) ∧ ((1 : Int) ≤ (lists ws).length ∧ ((lists ws).length : Int) ≤ 5) := ⟨h1, by omega⟩
      simp (maxSteps := 4000000) -implicitDefEqProofs -dsimp (disch := omega) only [↓AW_skip, ↓AW_ops, ↓AW_seq, ↓AW_cond, ↓AOps_nil, ↓AOps_pu, ↓AOps_call, ↓AOps_guard, on_some, extK_same, guardB_ff, condB_f, ↓then_normal, pval, rd_S, rd_C, put_S, chkd, isAdr, bgot, AV.cells?, partA, eq_self, List.replicate_succ, List.replicate_zero, List.set_cons_zero, List.set_cons_succ, List.getElem?_cons_zero, List.getElem?_cons_succ, List.drop_zero, List.take_zero, List.take_succ_cons, Option.getD_some, map_c, map_n, List.length_cons, List.length_nil, Nat.reduceAdd, Nat.reduceSub, Nat.reduceLeDiff, Nat.zero_add, List.cons_append, List.nil_append, if_true, if_false, Bool.false_eq_true, Bool.not_true, decide_true, and_true, h2]
      refine CallK.of (c_ContainsFunc hL hs 70 [] (fun n => !vLn n) (fun n _ => c_v1 n A)) ?_
      by_cases h3 : L.any (fun n => !vLn n) = true
      · simp (maxSteps := 4000000) -implicitDefEqProofs -dsimp (disch := omega) only [↓AW_ops, ↓AW_seq, ↓AW_cond, ↓AW_ret, ↓AOps_nil, ↓AOps_pu, on_some, extK_same, condB_t, ↓then_normal, ↓then_ret, ↓Fin_ret, pval, rd_S, rd_C, put_S, resV, resL, List.replicate_succ, List.replicate_zero, List.set_cons_zero, List.set_cons_succ, List.getElem?_cons_zero, List.getElem?_cons_succ, Option.getD_some, Nat.reduceSub, List.cons_append, List.nil_append, h3]
        obtain ⟨n, hn, hb⟩ := List.any_eq_true.1 h3
        exact gc_same (by rw [kE_bad h12 hn (by simpa using hb)])
      · have h3' : L.any (fun n => !vLn n) = false := by simpa using h3
        have hLa : L.all vLn = true := by
          rw [List.all_eq_true]; intro n hn
          have := List.any_eq_false.1 h3' n hn
          simpa using this
        simp (maxSteps := 4000000) -implicitDefEqProofs -dsimp (disch := omega) only [↓AW_skip, ↓AW_ops, ↓AW_seq, ↓AW_cond, ↓AW_block, ↓AOps_nil, ↓AOps_pu, on_some, extK_same, condB_f, ↓then_normal, pval, rd_S, rd_C, put_S, ↓AW_toLoop, chkd, isAdr, bgot, AV.cells?, partA, eq_self, List.replicate_succ, List.replicate_zero, List.set_cons_zero, List.set_cons_succ, List.getElem?_cons_zero, List.getElem?_cons_succ, List.drop_zero, List.drop_succ_cons, List.take_succ_cons, List.take_nil, Option.getD_some, List.length_cons, List.length_nil, Nat.reduceAdd, Nat.reduceSub, Nat.reduceLeDiff, Nat.zero_add, List.cons_append, List.nil_append, if_true, if_false, Bool.false_eq_true, h3', hV.ls.len]
        refine LoopK.by 43 (fun i : Nat => i ≤ ws.length ∧ ∀ w ∈ ws.take i, rOK L w.2 = true) (fun i => [(1, .agg [x, y]), (21, y), (22, I ws.length), (23, I i)]) (fun _ => A) (fun i => ws.length - i) 0 ⟨by omega, by simp⟩ rfl (by simp [Has, rd_s]) rfl ?_
        rintro i ⟨hi, he⟩
        by_cases hlt : i < ws.length
        · obtain ⟨w, hz⟩ : ∃ z, ws[i]? = some z := ⟨_, List.getElem?_eq_getElem hlt⟩
          have hlt' : (i : Int) < ws.length := by omega
          have hm := List.mem_of_getElem? hz
          have hwl := hw w hm
          have hx := hV.inn w hm
          by_cases h4 : (w.2.length : Int) = L.length
          · simp (maxSteps := 4000000) -implicitDefEqProofs -dsimp (disch := omega) only [↓AW_skip, ↓AW_ops, ↓AW_seq, ↓AW_cond, ↓AW_block, ↓AOps_nil, ↓AOps_pu, ↓AOps_ld, ↓AOps_call, ↓AOps_guard, on_some, guardB_ff, condB_t, ↓then_normal, pval, lval, rd_S, rd_C, put_S, chkd, isAdr, bgot, AV.cells?, partA, eq_self, mk, List.foldl_cons, List.foldl_nil, List.replicate_succ, List.replicate_zero, List.set_cons_zero, List.set_cons_succ, List.getElem?_cons_zero, List.getElem?_cons_succ, List.drop_zero, List.take_zero, List.take_succ_cons, List.take_nil, Option.getD_some, map_c, map_n, List.length_cons, List.length_nil, Nat.reduceAdd, Nat.reduceLeDiff, Nat.zero_add, bin_neq, bin_lss, if_true, if_false, Bool.false_eq_true, decide_true, decide_false, not_true_eq_false, hlt', hV.ls.idx hlt, hV.ls.ld0 hz 1 false (by decide), e0, hx.len, hL.len, h4]
            refine CallK.of (c_ContainsFunc hx hwl 71 [] (fun n => !vVl n) (fun n _ => c_v2 n A)) ?_
            by_cases h5 : w.2.any (fun n => !vVl n) = true
            · simp (maxSteps := 4000000) -implicitDefEqProofs -dsimp (disch := omega) only [↓AW_ops, ↓AW_seq, ↓AW_cond, ↓AW_ret, ↓AOps_nil, ↓AOps_pu, ↓AOps_guard, on_some, extK_same, guardB_tf, skipS_some, condB_t, ↓then_normal, ↓then_ret, ↓inBlock_ret, ↓Fin_ret, pval, rd_S, rd_C, put_S, resV, resL, eq_self, mk, List.foldl_cons, List.foldl_nil, List.replicate_succ, List.replicate_zero, List.set_cons_zero, List.set_cons_succ, List.getElem?_cons_zero, List.getElem?_cons_succ, Option.getD_some, if_true, if_false, Bool.false_eq_true, h5]
              obtain ⟨n, hn, hb⟩ := List.any_eq_true.1 h5
              refine gc_same ?_
              rw [kE_row h12 (mem_lists hm) (rOK_false (fun hh => ?_))]
              have := hh.2.1 n hn
              simp [vVl] at hb
              omega
            · have h5' : w.2.any (fun n => !vVl n) = false := by simpa using h5
              have hv : ∀ n ∈ w.2, 0 ≤ n ∧ n ≤ 20 := by
                intro n hn
                have := List.any_eq_false.1 h5' n hn
                simpa [vVl] using this
              have hne : w.2 ≠ [] := by intro e; rw [e] at h4; simp at h4; omega
              have hz0 := mxL_zero hne (fun n hn => (hv n hn).1)
              simp (maxSteps := 4000000) -implicitDefEqProofs -dsimp (disch := omega) only [↓AOps_pu, ↓AOps_call, ↓AOps_guard, on_some, extK_same, guardB_ff, pval, rd_S, rd_C, put_S, mk, List.foldl_cons, List.foldl_nil, List.replicate_succ, List.replicate_zero, List.set_cons_zero, List.set_cons_succ, List.getElem?_cons_zero, List.getElem?_cons_succ, Option.getD_some, map_c, map_n, if_false, Bool.false_eq_true, h5']
              refine CallK.of (c_Max hx (by omega) hwl) ?_
              by_cases h6 : mxL w.2 = 0
              · simp (maxSteps := 4000000) -implicitDefEqProofs -dsimp (disch := omega) only [↓AW_ops, ↓AW_seq, ↓AW_cond, ↓AW_ret, ↓AOps_nil, ↓AOps_pu, ↓AOps_guard, on_some, extK_same, guardB_ff, condB_t, ↓then_normal, ↓then_ret, ↓inBlock_ret, ↓Fin_ret, pval, rd_S, rd_C, put_S, resV, resL, eq_self, mk, List.foldl_cons, List.foldl_nil, List.replicate_succ, List.replicate_zero, List.set_cons_zero, List.set_cons_succ, List.getElem?_cons_zero, List.getElem?_cons_succ, Option.getD_some, bin_eql, if_false, Bool.false_eq_true, decide_true, h6]
                refine gc_same ?_
                rw [kE_row h12 (mem_lists hm) (rOK_false (fun hh => hz0.1 h6 hh.2.2))]
              · simp (maxSteps := 4000000) -implicitDefEqProofs -dsimp (disch := omega) only [↓AW_skip, ↓AW_ops, ↓AW_cond, ↓AOps_nil, ↓AOps_pu, ↓AOps_guard, on_some, extK_same, guardB_ff, condB_f, ↓then_normal, ↓inBlock_normal, pval, rd_S, rd_C, put_S, eq_self, mk, List.foldl_cons, List.foldl_nil, List.replicate_succ, List.replicate_zero, List.set_cons_zero, List.set_cons_succ, List.getElem?_cons_zero, List.getElem?_cons_succ, Option.getD_some, List.length_cons, List.length_nil, Nat.reduceAdd, Nat.zero_add, bin_add, bin_eql, w64, if_false, Bool.false_eq_true, decide_false, true_and, h6]
                refine ⟨i + 1, ⟨hlt, fun u hu => ?_⟩, by simp [Has, rd_s], by omega⟩
                rcases (take_mem hz).1 hu with hu | rfl
                · exact he u hu
                · exact rOK_iff.2 ⟨by omega, hv, Classical.byContradiction fun hn => h6 (hz0.2 hn)⟩
          · simp (maxSteps := 4000000) -implicitDefEqProofs -dsimp (disch := omega) only [↓AW_skip, ↓AW_ops, ↓AW_seq, ↓AW_cond, ↓AW_block, ↓AW_ret, ↓AOps_nil, ↓AOps_pu, ↓AOps_ld, ↓AOps_guard, on_some, guardB_tf, skipS_some, condB_t, ↓then_normal, ↓then_ret, ↓inBlock_ret, ↓Fin_ret, pval, lval, rd_S, rd_C, put_S, resV, resL, chkd, isAdr, bgot, AV.cells?, partA, eq_self, mk, List.foldl_cons, List.foldl_nil, List.replicate_succ, List.replicate_zero, List.set_cons_zero, List.set_cons_succ, List.getElem?_cons_zero, List.getElem?_cons_succ, List.drop_zero, List.take_zero, List.take_succ_cons, List.take_nil, Option.getD_some, List.length_cons, List.length_nil, Nat.reduceAdd, Nat.reduceLeDiff, Nat.zero_add, bin_neq, bin_lss, if_true, if_false, Bool.false_eq_true, decide_true, not_false_eq_true, hlt', hV.ls.idx hlt, hV.ls.ld0 hz 1 false (by decide), e0, hx.len, hL.len, h4]
            refine gc_same ?_
            rw [kE_row h12 (mem_lists hm) (rOK_false (fun hh => h4 (by omega)))]
        · have hlt' : ¬ ((i : Int) < ws.length) := by omega
          simp (maxSteps := 4000000) -implicitDefEqProofs -dsimp (disch := omega) only [↓AW_ops, ↓AW_seq, ↓AW_cond, ↓AW_exit, ↓AW_ret, ↓AOps_nil, ↓AOps_pu, on_some, condB_f, ↓then_normal, ↓then_exit, ↓inBlock_exit, ↓Fin_ret, pval, rd_S, rd_C, put_S, resV, resL, eq_self, mk, List.foldl_cons, List.foldl_nil, List.replicate_succ, List.replicate_zero, List.set_cons_zero, List.set_cons_succ, List.getElem?_cons_zero, List.getElem?_cons_succ, Option.getD_some, bin_lss, if_true, decide_false, hlt']
          rw [List.take_of_length_le (by omega)] at he
          refine gc_same ?_
          rw [kE_ok h12 hLa (List.all_eq_true.2 fun r hr => by obtain ⟨w, hw, rfl⟩ := List.mem_map.1 hr; exact he w hw)]
    · simp (maxSteps := 4000000) -implicitDefEqProofs -dsimp (disch := omega) only [↓AW_ops, ↓AW_seq, ↓AW_cond, ↓AW_ret, ↓AOps_nil, ↓AOps_pu, ↓AOps_guard, on_some, extK_same, guardB_ff, condB_t, ↓then_normal, ↓then_ret, ↓Fin_ret, pval, rd_S, rd_C, put_S, resV, resL, List.replicate_succ, List.replicate_zero, List.set_cons_zero, List.set_cons_succ, List.getElem?_cons_zero, List.getElem?_cons_succ, Option.getD_some, Nat.reduceSub, List.cons_append, List.nil_append, if_false, Bool.false_eq_true, Bool.not_false, decide_false, h2]
      exact gc_same (by rw [kE_large (by omega)])
  · simp (maxSteps := 4000000) -implicitDefEqProofs -dsimp (disch := omega) only [↓AW_ops, ↓AW_seq, ↓AW_cond, ↓AW_ret, ↓AOps_nil, ↓AOps_pu, ↓AOps_guard, on_some, extK_same, guardB_tf, skipS_some, condB_t, ↓then_normal, ↓then_ret, ↓Fin_ret, pval, rd_S, rd_C, put_S, resV, resL, eq_self, List.replicate_succ, List.replicate_zero, List.set_cons_zero, List.set_cons_succ, List.getElem?_cons_zero, List.getElem?_cons_succ, Option.getD_some, Nat.reduceSub, List.cons_append, List.nil_append, if_true, Bool.not_false, decide_false, h1]
    exact gc_same (by rw [kE_large (by omega)])
theorem sum_zero {l : List Int} (h : ∀ n ∈ l, 0 ≤ n) : l.sum = 0 ↔ ¬ ∃ n ∈ l, n ≠ 0 := by
  induction l with
  | nil => simp
  | cons a l ih =>
    have ih := ih (fun n hn => h n (by simp [hn]))
    have ha := h a (by simp)
    have hs : 0 ≤ l.sum := by
      have : ∀ l : List Int, (∀ y ∈ l, 0 ≤ y) → 0 ≤ l.sum := by
        intro l
        induction l with
        | nil => intro _; simp
        | cons a l ih =>
          intro h
          have h1 := ih (fun y hy => h y (by simp [hy]))
          have h2 := h a (by simp)
          simp only [List.sum_cons]
          omega
      exact this l (fun n hn => h n (by simp [hn]))
    rw [List.sum_cons]
    constructor
    · rintro h1 ⟨n, hn, h2⟩
      rcases List.mem_cons.1 hn with rfl | hn
      · omega
      · exact ih.1 (by omega) ⟨n, hn, h2⟩
    · intro h1
      have h2 : a = 0 := Classical.byContradiction fun hn => h1 ⟨a, by simp, hn⟩
      have h3 := ih.2 (fun ⟨n, hn, h4⟩ => h1 ⟨n, by simp [hn], h4⟩)
      omega
theorem s27 (hL : L1 A x L) (hV : LL A y ws) (hs : L.length ≤ 1000000) (hl : ws.length ≤ 1000000) (hw : ∀ w ∈ ws, w.2.length ≤ 1000000) : ACalls Try.prog 27 [.agg [x, y]] A (I (kE L (lists ws))) A := by
  refine acalls hmix Try.func27 (by kernel_rfl) t27 1 rfl (by decide) ?_
  dsimp only [m27]
  simp (maxSteps := 4000000) -implicitDefEqProofs -dsimp (disch := omega) only [↓AW_ops, ↓AW_seq, ↓AOps_nil, ↓AOps_pu, ↓AOps_call, on_some, ↓then_normal, pval, rd_S, rd_C, put_S, chkd, isAdr, bgot, AV.cells?, partA, eq_self, List.replicate_succ, List.replicate_zero, List.set_cons_zero, List.set_cons_succ, List.getElem?_cons_zero, List.getElem?_cons_succ, List.drop_zero, List.take_zero, List.take_succ_cons, Option.getD_some, map_c, map_n, List.length_cons, List.length_nil, Nat.reduceAdd, Nat.reduceSub, Nat.reduceLeDiff, Nat.zero_add, List.cons_append, List.nil_append, if_true, if_false, Bool.false_eq_true, hL.len]
  refine CallK.of (c_rw _ _ _ _) ?_
  have hll : ((lists ws).length : Int) = ws.length := by simp
  by_cases h1 : (1 : Int) ≤ L.length ∧ (L.length : Int) ≤ 6
  · simp (maxSteps := 4000000) -implicitDefEqProofs -dsimp (disch := omega) only [↓AOps_pu, ↓AOps_call, ↓AOps_guard, on_some, extK_same, guardB_ff, pval, rd_S, rd_C, put_S, chkd, isAdr, bgot, AV.cells?, partA, eq_self, List.replicate_succ, List.replicate_zero, List.set_cons_zero, List.set_cons_succ, List.getElem?_cons_zero, List.getElem?_cons_succ, List.drop_zero, List.drop_succ_cons, List.take_succ_cons, List.take_nil, Option.getD_some, map_c, map_n, List.length_cons, List.length_nil, Nat.reduceAdd, Nat.reduceSub, Nat.reduceLeDiff, Nat.zero_add, List.cons_append, List.nil_append, if_true, if_false, Bool.false_eq_true, Bool.not_true, decide_true, and_true, h1, hV.ls.len]
    refine CallK.of (c_rw _ _ _ _) ?_
    by_cases h2 : (1 : Int) ≤ ws.length ∧ (ws.length : Int) ≤ 5
    · have h12 : ((1 : Int) ≤ L.length ∧ (L.length : Int) ≤ 6) ∧ ((1 : Int) ≤ (lists ws).length ∧ ((lists ws).length : Int) ≤ 5) := ⟨h1, by omega⟩
      simp (maxSteps := 4000000) -implicitDefEqProofs -dsimp (disch := omega) only [↓AW_skip, ↓AW_ops, ↓AW_seq, ↓AW_cond, ↓AW_block, ↓AOps_nil, ↓AOps_pu, ↓AOps_guard, on_some, extK_same, guardB_ff, condB_f, ↓then_normal, pval, rd_S, rd_C, put_S, ↓AW_toLoop, List.replicate_succ, List.replicate_zero, List.set_cons_zero, List.set_cons_succ, List.getElem?_cons_zero, List.getElem?_cons_succ, Option.getD_some, Nat.reduceSub, List.cons_append, List.nil_append, if_false, Bool.false_eq_true, Bool.not_true, decide_true, and_true, h2]
      refine LoopK.by 79 (fun i : Nat => i ≤ L.length ∧ ∀ n ∈ L.take i, vLn n = true) (fun i => [(1, .agg [x, y]), (3, I i)]) (fun _ => A) (fun i => L.length - i) 0 ⟨by omega, by simp⟩ rfl (by simp [Has, rd_s]) rfl ?_
      rintro i ⟨hi, he⟩
      by_cases hlt : i < L.length
      · obtain ⟨n, hz⟩ : ∃ z, L[i]? = some z := ⟨_, List.getElem?_eq_getElem hlt⟩
        have hlt' : (i : Int) < L.length := by omega
        have hm := List.mem_of_getElem? hz
        simp (maxSteps := 4000000) -implicitDefEqProofs -dsimp (disch := omega) only [↓AW_skip, ↓AW_ops, ↓AW_seq, ↓AW_cond, ↓AW_block, ↓AOps_nil, ↓AOps_pu, ↓AOps_ld, ↓AOps_call, on_some, condB_t, ↓then_normal, pval, lval, rd_S, rd_C, put_S, chkd, isAdr, bgot, AV.cells?, partA, eq_self, mk, List.foldl_cons, List.foldl_nil, List.replicate_succ, List.replicate_zero, List.set_cons_zero, List.set_cons_succ, List.getElem?_cons_zero, List.getElem?_cons_succ, List.drop_zero, List.take_zero, List.take_succ_cons, List.take_nil, Option.getD_some, map_c, map_n, List.length_cons, List.length_nil, Nat.reduceAdd, Nat.reduceLeDiff, Nat.zero_add, bin_lss, if_true, if_false, Bool.false_eq_true, decide_true, Go.Eng.e1, hlt', hL.len, hL.idx hlt, hL.ld0 hz 1 false (by decide)]
        refine CallK.of (c_rw _ _ _ _) ?_
        by_cases h3 : (1 : Int) ≤ n ∧ n ≤ 20
        · simp (maxSteps := 4000000) -implicitDefEqProofs -dsimp (disch := omega) only [↓AW_skip, ↓AW_ops, ↓AW_cond, ↓AOps_nil, ↓AOps_pu, on_some, extK_same, condB_f, ↓then_normal, ↓inBlock_normal, pval, rd_S, rd_C, put_S, eq_self, mk, List.foldl_cons, List.foldl_nil, List.replicate_succ, List.replicate_zero, List.set_cons_zero, List.set_cons_succ, List.getElem?_cons_zero, List.getElem?_cons_succ, Option.getD_some, List.length_cons, List.length_nil, Nat.reduceAdd, Nat.zero_add, bin_add, w64, Bool.not_true, decide_true, true_and, and_true, h3]
          refine ⟨i + 1, ⟨hlt, fun u hu => ?_⟩, by simp [Has, rd_s], by omega⟩
          rcases (take_mem hz).1 hu with hu | rfl
          · exact he u hu
          · simpa [vLn] using h3
        · simp (maxSteps := 4000000) -implicitDefEqProofs -dsimp (disch := omega) only [↓AW_ops, ↓AW_seq, ↓AW_cond, ↓AW_ret, ↓AOps_nil, ↓AOps_pu, on_some, extK_same, condB_t, ↓then_normal, ↓then_ret, ↓inBlock_ret, ↓Fin_ret, pval, rd_S, rd_C, put_S, resV, resL, mk, List.foldl_cons, List.foldl_nil, List.replicate_succ, List.replicate_zero, List.set_cons_zero, List.set_cons_succ, List.getElem?_cons_zero, List.getElem?_cons_succ, Option.getD_some, Bool.not_false, decide_false, h3]
          exact gc_same (by rw [kE_bad h12 hm (by simp only [vLn, decide_eq_false_iff_not]; exact h3)])
      · have hlt' : ¬ ((i : Int) < L.length) := by omega
        rw [List.take_of_length_le (by omega)] at he
        simp (maxSteps := 4000000) -implicitDefEqProofs -dsimp (disch := omega) only [↓AW_ops, ↓AW_seq, ↓AW_cond, ↓AW_block, ↓AW_exit, ↓AOps_nil, ↓AOps_pu, on_some, condB_f, ↓then_normal, ↓then_exit, ↓inBlock_exit, pval, rd_S, rd_C, put_S, ↓AW_toLoop, chkd, isAdr, bgot, AV.cells?, partA, eq_self, mk, List.foldl_cons, List.foldl_nil, List.replicate_succ, List.replicate_zero, List.set_cons_zero, List.set_cons_succ, List.getElem?_cons_zero, List.getElem?_cons_succ, List.drop_zero, List.take_zero, List.take_succ_cons, Option.getD_some, List.length_cons, List.length_nil, Nat.reduceAdd, Nat.reduceLeDiff, Nat.zero_add, bin_lss, if_true, if_false, Bool.false_eq_true, decide_false, hlt', hL.len]
        refine LoopK.by 79 (fun i : Nat => i ≤ ws.length ∧ ∀ w ∈ ws.take i, rOK L w.2 = true) (fun i => [(1, .agg [x, y]), (4, I i)]) (fun _ => A) (fun i => ws.length - i) 0 ⟨by omega, by simp⟩ rfl (by simp [Has, rd_s]) rfl ?_
        rintro o ⟨ho, he2⟩
        by_cases hlt : o < ws.length
        · obtain ⟨w, hz⟩ : ∃ z, ws[o]? = some z := ⟨_, List.getElem?_eq_getElem hlt⟩
          have hlt' : (o : Int) < ws.length := by omega
          have hm := List.mem_of_getElem? hz
          have hwl := hw w hm
          have hx := hV.inn w hm
          by_cases h4 : (w.2.length : Int) = L.length
          · simp (maxSteps := 4000000) -implicitDefEqProofs -dsimp (disch := omega) only [↓AW_skip, ↓AW_ops, ↓AW_seq, ↓AW_cond, ↓AW_block, ↓AOps_nil, ↓AOps_pu, ↓AOps_ld, on_some, condB_t, condB_f, ↓then_normal, pval, lval, rd_S, rd_C, put_S, ↓AW_toLoop, chkd, isAdr, bgot, AV.cells?, partA, eq_self, mk, List.foldl_cons, List.foldl_nil, List.replicate_succ, List.replicate_zero, List.set_cons_zero, List.set_cons_succ, List.getElem?_cons_zero, List.getElem?_cons_succ, List.drop_zero, List.drop_succ_cons, List.take_zero, List.take_succ_cons, List.take_nil, Option.getD_some, List.length_cons, List.length_nil, Nat.reduceAdd, Nat.reduceLeDiff, Nat.zero_add, bin_neq, bin_lss, if_true, if_false, Bool.false_eq_true, decide_true, decide_false, not_true_eq_false, hlt', hV.ls.len, hV.ls.idx hlt, hV.ls.ld0 hz 1 false (by decide), e0, hx.len, hL.len, h4]
            refine LoopK.by 79 (fun k : Nat => k ≤ L.length ∧ ∀ n ∈ w.2.take k, 0 ≤ n ∧ n ≤ 20) (fun k => [(1, .agg [x, y]), (4, I o), (5, I (w.2.take k).sum), (6, I k)]) (fun _ => A) (fun k => L.length - k) 0 ⟨by omega, by simp⟩ rfl (by simp [Has, rd_s]) rfl ?_
            rintro k ⟨hk, hv⟩
            have hsb := sumB hv
            rw [List.length_take] at hsb
            by_cases hltk : k < L.length
            · have hltw : k < w.2.length := by omega
              obtain ⟨n, hn⟩ : ∃ n, w.2[k]? = some n := ⟨_, List.getElem?_eq_getElem hltw⟩
              have hltk' : (k : Int) < L.length := by omega
              simp (maxSteps := 4000000) -implicitDefEqProofs -dsimp (disch := omega) only [↓AW_skip, ↓AW_ops, ↓AW_seq, ↓AW_cond, ↓AW_block, ↓AOps_nil, ↓AOps_pu, ↓AOps_ld, ↓AOps_call, on_some, condB_t, ↓then_normal, pval, lval, rd_S, rd_C, put_S, chkd, isAdr, bgot, AV.cells?, partA, eq_self, mk, List.foldl_cons, List.foldl_nil, List.replicate_succ, List.replicate_zero, List.set_cons_zero, List.set_cons_succ, List.getElem?_cons_zero, List.getElem?_cons_succ, List.drop_zero, List.drop_succ_cons, List.take_zero, List.take_succ_cons, List.take_nil, Option.getD_some, map_c, map_n, List.length_cons, List.length_nil, Nat.reduceAdd, Nat.reduceLeDiff, Nat.zero_add, bin_lss, if_true, if_false, Bool.false_eq_true, decide_true, Go.Eng.e1, hltk', hL.len, hV.ls.idx hlt, hV.ls.ld0 hz 1 false (by decide), e0, hx.idx hltw, hx.ld0 hn 1 false (by decide)]
              refine CallK.of (c_rw _ _ _ _) ?_
              by_cases h5 : (0 : Int) ≤ n ∧ n ≤ 20
              · simp (maxSteps := 4000000) -implicitDefEqProofs -dsimp (disch := omega) only [↓AW_skip, ↓AW_ops, ↓AW_cond, ↓AOps_nil, ↓AOps_pu, ↓AOps_ld, on_some, extK_same, condB_f, ↓then_normal, ↓inBlock_normal, pval, lval, rd_S, rd_C, put_S, chkd, isAdr, bgot, AV.cells?, partA, eq_self, mk, List.foldl_cons, List.foldl_nil, List.replicate_succ, List.replicate_zero, List.set_cons_zero, List.set_cons_succ, List.getElem?_cons_zero, List.getElem?_cons_succ, List.drop_zero, List.drop_succ_cons, List.take_succ_cons, List.take_nil, Option.getD_some, List.length_cons, List.length_nil, Nat.reduceAdd, Nat.reduceLeDiff, Nat.zero_add, bin_add, w64, if_true, if_false, Bool.false_eq_true, Bool.not_true, decide_true, Go.Eng.e1, true_and, and_true, h5, hV.ls.idx hlt, hV.ls.ld0 hz 1 false (by decide), e0, hx.idx hltw, hx.ld0 hn 1 false (by decide)]
                refine ⟨k + 1, ⟨hltk, fun u hu => ?_⟩, by simp [Has, rd_s, take_sum_succ' hn], by omega⟩
                rcases (take_mem hn).1 hu with hu | rfl
                · exact hv u hu
                · exact h5
              · simp (maxSteps := 4000000) -implicitDefEqProofs -dsimp (disch := omega) only [↓AW_ops, ↓AW_seq, ↓AW_cond, ↓AW_ret, ↓AOps_nil, ↓AOps_pu, on_some, extK_same, condB_t, ↓then_normal, ↓then_ret, ↓inBlock_ret, ↓Fin_ret, pval, rd_S, rd_C, put_S, resV, resL, mk, List.foldl_cons, List.foldl_nil, List.replicate_succ, List.replicate_zero, List.set_cons_zero, List.set_cons_succ, List.getElem?_cons_zero, List.getElem?_cons_succ, Option.getD_some, Bool.not_false, decide_false, h5]
                exact gc_same (by rw [kE_row h12 (mem_lists hm) (rOK_false (fun hh => h5 (hh.2.1 n (List.mem_of_getElem? hn))))])
            · have hltk' : ¬ ((k : Int) < L.length) := by omega
              rw [List.take_of_length_le (by omega)] at hv hsb
              have hsz := sum_zero (fun n hn => (hv n hn).1)
              have htk : w.2.take k = w.2 := List.take_of_length_le (by omega)
              by_cases h6 : w.2.sum = 0
              · simp (maxSteps := 4000000) -implicitDefEqProofs -dsimp (disch := omega) only [↓AW_ops, ↓AW_seq, ↓AW_cond, ↓AW_exit, ↓AW_ret, ↓AOps_nil, ↓AOps_pu, on_some, condB_t, condB_f, ↓then_normal, ↓then_exit, ↓then_ret, ↓inBlock_exit, ↓inBlock_ret, ↓Fin_ret, pval, rd_S, rd_C, put_S, resV, resL, chkd, isAdr, bgot, AV.cells?, partA, eq_self, mk, List.foldl_cons, List.foldl_nil, List.replicate_succ, List.replicate_zero, List.set_cons_zero, List.set_cons_succ, List.getElem?_cons_zero, List.getElem?_cons_succ, List.drop_zero, List.take_zero, List.take_succ_cons, Option.getD_some, List.length_cons, List.length_nil, Nat.reduceAdd, Nat.reduceLeDiff, Nat.reduceEqDiff, Nat.zero_add, bin_add, bin_eql, bin_lss, w64, if_true, if_false, Bool.false_eq_true, decide_true, decide_false, true_and, hltk', hL.len, htk, h6]
                exact gc_same (by rw [kE_row h12 (mem_lists hm) (rOK_false (fun hh => hsz.1 h6 hh.2.2))])
              · simp (maxSteps := 4000000) -implicitDefEqProofs -dsimp (disch := omega) only [↓AW_skip, ↓AW_ops, ↓AW_seq, ↓AW_cond, ↓AW_exit, ↓AW_ret, ↓AOps_nil, ↓AOps_pu, on_some, condB_f, ↓then_normal, ↓then_exit, ↓inBlock_normal, ↓inBlock_exit, ↓Fin_ret, pval, rd_S, rd_C, put_S, resV, resL, chkd, isAdr, bgot, AV.cells?, partA, eq_self, mk, List.foldl_cons, List.foldl_nil, List.replicate_succ, List.replicate_zero, List.set_cons_zero, List.set_cons_succ, List.getElem?_cons_zero, List.getElem?_cons_succ, List.drop_zero, List.take_zero, List.take_succ_cons, Option.getD_some, List.length_cons, List.length_nil, Nat.reduceAdd, Nat.reduceLeDiff, Nat.reduceEqDiff, Nat.zero_add, bin_add, bin_eql, bin_lss, w64, if_true, if_false, Bool.false_eq_true, decide_false, true_and, hltk', hL.len, htk, h6]
                refine ⟨o + 1, ⟨hlt, fun u hu => ?_⟩, by simp [Has, rd_s], by omega⟩
                rcases (take_mem hz).1 hu with hu | rfl
                · exact he2 u hu
                · exact rOK_iff.2 ⟨by omega, hv, Classical.byContradiction fun hn => h6 (hsz.2 hn)⟩
          · simp (maxSteps := 4000000) -implicitDefEqProofs -dsimp (disch := omega) only [↓AW_skip, ↓AW_ops, ↓AW_seq, ↓AW_cond, ↓AW_block, ↓AW_ret, ↓AOps_nil, ↓AOps_pu, ↓AOps_ld, on_some, condB_t, ↓then_normal, ↓then_ret, ↓inBlock_ret, ↓Fin_ret, pval, lval, rd_S, rd_C, put_S, resV, resL, chkd, isAdr, bgot, AV.cells?, partA, eq_self, mk, List.foldl_cons, List.foldl_nil, List.replicate_succ, List.replicate_zero, List.set_cons_zero, List.set_cons_succ, List.getElem?_cons_zero, List.getElem?_cons_succ, List.drop_zero, List.drop_succ_cons, List.take_zero, List.take_succ_cons, List.take_nil, Option.getD_some, List.length_cons, List.length_nil, Nat.reduceAdd, Nat.reduceLeDiff, Nat.zero_add, bin_neq, bin_lss, if_true, if_false, Bool.false_eq_true, decide_true, not_false_eq_true, hlt', hV.ls.len, hV.ls.idx hlt, hV.ls.ld0 hz 1 false (by decide), e0, hx.len, hL.len, h4]
            refine gc_same ?_
            rw [kE_row h12 (mem_lists hm) (rOK_false (fun hh => h4 (by omega)))]
        · have hlt' : ¬ ((o : Int) < ws.length) := by omega
          simp (maxSteps := 4000000) -implicitDefEqProofs -dsimp (disch := omega) only [↓AW_ops, ↓AW_seq, ↓AW_cond, ↓AW_exit, ↓AW_ret, ↓AOps_nil, ↓AOps_pu, on_some, condB_f, ↓then_normal, ↓then_exit, ↓inBlock_exit, ↓Fin_ret, pval, rd_S, rd_C, put_S, resV, resL, chkd, isAdr, bgot, AV.cells?, partA, eq_self, mk, List.foldl_cons, List.foldl_nil, List.replicate_succ, List.replicate_zero, List.set_cons_zero, List.set_cons_succ, List.getElem?_cons_zero, List.getElem?_cons_succ, List.drop_zero, List.drop_succ_cons, List.take_succ_cons, List.take_nil, Option.getD_some, List.length_cons, List.length_nil, Nat.reduceAdd, Nat.reduceLeDiff, Nat.zero_add, bin_lss, if_true, if_false, Bool.false_eq_true, decide_false, hlt', hV.ls.len]
          rw [List.take_of_length_le (by omega)] at he2
          refine gc_same ?_
          rw [kE_ok h12 (List.all_eq_true.2 he) (List.all_eq_true.2 fun r hr => by obtain ⟨w, hw, rfl⟩ := List.mem_map.1 hr; exact he2 w hw)]
    · simp (maxSteps := 4000000) -implicitDefEqProofs -dsimp (disch := omega) only [↓AW_ops, ↓AW_seq, ↓AW_cond, ↓AW_ret, ↓AOps_nil, ↓AOps_pu, ↓AOps_guard, on_some, extK_same, guardB_ff, condB_t, ↓then_normal, ↓then_ret, ↓Fin_ret, pval, rd_S, rd_C, put_S, resV, resL, List.replicate_succ, List.replicate_zero, List.set_cons_zero, List.set_cons_succ, List.getElem?_cons_zero, List.getElem?_cons_succ, Option.getD_some, Nat.reduceSub, List.cons_append, List.nil_append, if_false, Bool.false_eq_true, Bool.not_false, decide_false, h2]
      exact gc_same (by rw [kE_large (by omega)])
  · simp (maxSteps := 4000000) -implicitDefEqProofs -dsimp (disch := omega) only [↓AW_ops, ↓AW_seq, ↓AW_cond, ↓AW_ret, ↓AOps_nil, ↓AOps_pu, ↓AOps_guard, on_some, extK_same, guardB_tf, skipS_some, condB_t, ↓then_normal, ↓then_ret, ↓Fin_ret, pval, rd_S, rd_C, put_S, resV, resL, eq_self, List.replicate_succ, List.replicate_zero, List.set_cons_zero, List.set_cons_succ, List.getElem?_cons_zero, List.getElem?_cons_succ, Option.getD_some, Nat.reduceSub, List.cons_append, List.nil_append, if_true, Bool.not_false, decide_false, h1]
    exact gc_same (by rw [kE_large (by omega)])
end
end Go.Proofs.Ytmblehbjedpjoaa

namespace Go.Proofs.Ytmblehbjedpjoaa
open Go Go.Eng
theorem e0_len (x : AV × List Int) : (e0 x).length = 1 := rfl
/-- Where the rows of a list of lists stand: each in an object of its own that the call has made, with more cells behind. -/
structure NR (A H : AHeap) (u : AV) (x : AV × List Int) : Prop where
  row : (x.1 = .nilS ∧ x.2 = []) ∨ ∃ n full cs, x.1 = .sl 1 n 0 x.2.length full ∧ A.length ≤ n ∧ H[n]? = some (.cells true (x.2.flatMap e1 ++ cs)) ∧ nm u ≠ n
theorem NR.l1 {A H : AHeap} {u : AV} {x : AV × List Int} (h : NR A H u x) : L1 H x.1 x.2 := by
  rcases h.row with ⟨h1, h2⟩ | ⟨n, full, cs, h1, _, h3, _⟩
  · rw [h1, h2]; exact L1_nil _
  · rw [h1]
    refine ⟨e1_len, ?_⟩
    have hl := flatMap_length e1_len x.2
    simp only [slCells, cellsAt, h3, if_true, Nat.zero_add]
    rw [if_pos (by rw [List.length_append]; omega)]
    simp only [List.drop_zero, Option.map_some, Option.some.injEq, Prod.mk.injEq, true_and]
    rw [← hl, List.take_left]
/-- Rows stand in different objects. -/
def Apart (ws : List (AV × List Int)) : Prop := ws.Pairwise (fun x y => x.1 = .nilS ∨ y.1 = .nilS ∨ nm x.1 ≠ nm y.1)
/-- A list of lists that the call has made. -/
structure NL (A H : AHeap) (u : AV) (ws : List (AV × List Int)) : Prop where
  acc : AccL 1 e0 A H u ws
  rows : ∀ x ∈ ws, NR A H u x
  apart : Apart ws
theorem NL.ll {A H : AHeap} {u : AV} {ws : List (AV × List Int)} (h : NL A H u ws) : LL H u ws := ⟨AccL_ls h.acc e0_len, fun x hx => (h.rows x hx).l1⟩
theorem NL.nil {A H : AHeap} (h : A <+: H) : NL A H .nilS [] := ⟨AccL.nil h, by simp, List.Pairwise.nil⟩
/-- One row more. -/
theorem NL.push {A H : AHeap} {u : AV} {ws : List (AV × List Int)} (h : NL A H u ws) (x : AV × List Int) (hx : (x.1 = .nilS ∧ x.2 = [] ∧ True) ∨ ∃ n full cs, x.1 = .sl 1 n 0 x.2.length full ∧ A.length ≤ n ∧ H[n]? = some (.cells true (x.2.flatMap e1 ++ cs)) ∧ nm u ≠ n ∧ ∀ y ∈ ws, y.1 = .nilS ∨ nm y.1 ≠ n) (hl : ws.length + 1 ≤ lim) :
    ∃ v' H2, appA 1 (H ++ [.cells true [x.1]]) u (.sl 1 H.length 0 1 true) = some (v', H2) ∧ NL A H2 v' (ws ++ [x]) := by
  obtain ⟨v', H2, h1, h2, h3, n', len', h4, h5⟩ := AccL_push2 h.acc e0_len (by omega) x hl
  have hold : ∀ (y : AV × List Int), NR A H u y → NR A H2 v' y := by
    intro y hy
    refine ⟨?_⟩
    rcases hy.row with h6 | ⟨n, full, cs, g1, g2, g3, g4⟩
    · exact .inl h6
    · have hn := (List.getElem?_eq_some_iff.1 g3).1
      refine .inr ⟨n, full, cs, g1, g2, h3 n _ g3 (fun k len hk hnk => ?_), ?_⟩
      · rw [hk] at g4; exact g4 hnk.symm
      · rw [h4]; simp only [nm]; omega
  have hxr : NR A H u x := by
    refine ⟨?_⟩
    rcases hx with ⟨a, b, _⟩ | ⟨n, full, cs, g1, g2, g3, g4, _⟩
    · exact .inl ⟨a, b⟩
    · exact .inr ⟨n, full, cs, g1, g2, g3, g4⟩
  refine ⟨v', H2, h1, h2, fun y hy => ?_, ?_⟩
  · rcases List.mem_append.1 hy with hy | hy
    · exact hold y (h.rows y hy)
    · have : y = x := by simpa using hy
      rw [this]; exact hold x hxr
  · unfold Apart
    rw [List.pairwise_append]
    refine ⟨h.apart, by simp, fun a ha b hb => ?_⟩
    have : b = x := by simpa using hb
    subst this
    rcases hx with ⟨g1, _⟩ | ⟨n, full, cs, g1, _, _, _, g5⟩
    · exact .inr (.inl g1)
    · rcases g5 a ha with g | g
      · exact .inl g
      · refine .inr (.inr ?_)
        rw [g1]; exact g
theorem NL.mono {A H H' : AHeap} {u : AV} {ws : List (AV × List Int)} (h : NL A H u ws) (hp : H <+: H') : NL A H' u ws := by
  refine ⟨h.acc.mono hp, fun x hx => ⟨?_⟩, h.apart⟩
  rcases (h.rows x hx).row with h6 | ⟨n, full, cs, g1, g2, g3, g4⟩
  · exact .inl h6
  · exact .inr ⟨n, full, cs, g1, g2, pre_get hp g3, g4⟩
theorem NL.lt {A H : AHeap} {u : AV} {ws : List (AV × List Int)} (h : NL A H u ws) : (∀ y ∈ ws, y.1 = .nilS ∨ nm y.1 < H.length) ∧ (ws = [] ∨ nm u < H.length) := by
  refine ⟨fun y hy => ?_, ?_⟩
  · rcases (h.rows y hy).row with ⟨h6, _⟩ | ⟨n, full, cs, g1, g2, g3, g4⟩
    · exact .inl h6
    · right; rw [g1]; exact (List.getElem?_eq_some_iff.1 g3).1
  · rcases h.acc.2.2 with ⟨h3, _⟩ | ⟨h3, n, h4, h5, h6⟩
    · exact .inl (List.eq_nil_of_length_eq_zero h3)
    · right; rw [h4]; exact (List.getElem?_eq_some_iff.1 h6).1
theorem NL.base {A0 A H : AHeap} {u : AV} {ws : List (AV × List Int)} (hp : A0 <+: A) (h : NL A H u ws) : NL A0 H u ws := by
  refine ⟨AccL_base0 hp h.acc, fun x hx => ⟨?_⟩, h.apart⟩
  rcases (h.rows x hx).row with h6 | ⟨n, full, cs, g1, g2, g3, g4⟩
  · exact .inl h6
  · exact .inr ⟨n, full, cs, g1, Nat.le_trans hp.length_le g2, g3, g4⟩
theorem Ls_cells {α : Type} {es : Nat} {e : α → List AV} {A : AHeap} {u : AV} {xs : List α} (h : Ls es e A u xs) : u.cells? = some [u] := by
  rcases h.inv with ⟨rfl, _⟩ | ⟨n, off, full, rw, l, rfl, _⟩ <;> rfl
theorem nm_ne_nil {A H : AHeap} {u : AV} {ws : List (AV × List Int)} (h : NL A H u ws) {n : Nat} (hn : H.length ≤ n) (hu : 0 < A.length) : nm u ≠ n := by
  rcases h.acc.2.2 with ⟨_, h4⟩ | ⟨_, m, h4, _, h6⟩
  · rw [h4]; simp only [nm]
    have := h.acc.1.length_le
    omega
  · rw [h4]; have := (List.getElem?_eq_some_iff.1 h6).1; simp only [nm]; omega
theorem splice_more {a c cs : List AV} {off : Nat} (h : off + c.length ≤ a.length) : splice (a ++ cs) off c = splice a off c ++ cs := by
  unfold splice
  rw [List.take_append_of_le_length (by omega), List.drop_append_of_le_length h]
  simp only [List.append_assoc]
theorem flat0 (ws : List (AV × List Int)) : ws.flatMap e0 = ws.map Prod.fst := by
  induction ws with
  | nil => rfl
  | cons x r ih => rw [List.flatMap_cons, ih]; rfl
theorem fst_set {ws : List (AV × List Int)} {i : Nat} {x : AV × List Int} (hz : ws[i]? = some x) (l : List Int) : (ws.set i (x.1, l)).map Prod.fst = ws.map Prod.fst := by
  apply List.ext_getElem?
  intro j
  rw [List.getElem?_map, List.getElem?_map, List.getElem?_set]
  by_cases hij : i = j
  · subst hij
    have := (List.getElem?_eq_some_iff.1 hz).1
    rw [if_pos rfl, if_pos this, hz]; rfl
  · rw [if_neg hij]
theorem Apart_fst {ws vs : List (AV × List Int)} (h : ws.map Prod.fst = vs.map Prod.fst) (ha : Apart vs) : Apart ws := by
  unfold Apart at *
  have h1 := (List.pairwise_map (f := Prod.fst) (R := fun a b : AV => a = .nilS ∨ b = .nilS ∨ nm a ≠ nm b) (l := vs)).2 ha
  rw [← h] at h1
  exact List.pairwise_map.1 h1
theorem Apart_ne {ws : List (AV × List Int)} (h : Apart ws) {i j : Nat} {x y : AV × List Int} (hi : ws[i]? = some x) (hj : ws[j]? = some y) (hij : i ≠ j) : x.1 = .nilS ∨ y.1 = .nilS ∨ nm x.1 ≠ nm y.1 := by
  obtain ⟨h1, rfl⟩ := List.getElem?_eq_some_iff.1 hi
  obtain ⟨h2, rfl⟩ := List.getElem?_eq_some_iff.1 hj
  rcases Nat.lt_or_gt_of_ne hij with h3 | h3
  · exact List.pairwise_iff_getElem.1 h i j h1 h2 h3
  · rcases List.pairwise_iff_getElem.1 h j i h2 h1 h3 with h4 | h4 | h4
    · exact .inr (.inl h4)
    · exact .inl h4
    · exact .inr (.inr (Ne.symm h4))
/-- A number of a row is written. -/
theorem NL.st {A H : AHeap} {u : AV} {ws : List (AV × List Int)} (h : NL A H u ws) {i : Nat} {x : AV × List Int} (hz : ws[i]? = some x) {k : Nat} (hk : k < x.2.length) (q : Int) :
    ∃ H2, stA 1 (.ptr (nm x.1) (of x.1 + k * 1)) (I q) H = some H2 ∧ NL A H2 u (ws.set i (x.1, x.2.set k q)) := by
  rcases (h.rows x (List.mem_of_getElem? hz)).row with ⟨_, h2⟩ | ⟨n, full, cs, g1, g2, g3, g4⟩
  · rw [h2] at hk; simp at hk
  · have hil := (List.getElem?_eq_some_iff.1 hz).1
    have hnl := (List.getElem?_eq_some_iff.1 g3).1
    have hfl := flatMap_length e1_len x.2
    have hsp : splice (x.2.flatMap e1 ++ cs) (k * 1) (e1 q) = (x.2.set k q).flatMap e1 ++ cs := by
      rw [splice_more (by rw [e1_len, hfl]; omega), splice_flat e1_len hk q]
    refine ⟨H.set n (.cells true ((x.2.set k q).flatMap e1 ++ cs)), ?_, ?_, ?_, ?_⟩
    · rw [g1]
      have hq : (I q).cells? = some (e1 q) := rfl
      simp only [stA, nm, of, hq, g3, Nat.zero_add]
      rw [if_pos ⟨e1_len q, by rw [List.length_append, hfl]; omega⟩, hsp]
    · have hlen : (ws.set i (x.1, x.2.set k q)).length = ws.length := List.length_set ..
      have hfm : (ws.set i (x.1, x.2.set k q)).flatMap e0 = ws.flatMap e0 := by rw [flat0, flat0, fst_set hz]
      unfold AccL
      rw [hlen, hfm]
      obtain ⟨a1, a2, a3⟩ := h.acc
      refine ⟨pre_set a1 g2 _, a2, ?_⟩
      rcases a3 with a4 | ⟨b0, m, b4, b5, b6⟩
      · exact .inl a4
      · refine .inr ⟨b0, m, b4, b5, ?_⟩
        rw [b4] at g4
        have g5 : m ≠ n := g4
        rw [List.getElem?_set_ne (Ne.symm g5)]
        exact b6
    · intro y hy
      obtain ⟨j, hj⟩ := List.mem_iff_getElem?.1 hy
      rw [List.getElem?_set] at hj
      by_cases hij : i = j
      · rw [if_pos hij, if_pos (by omega)] at hj
        have : (x.1, x.2.set k q) = y := Option.some.inj hj
        subst this
        refine ⟨.inr ⟨n, full, cs, ?_, g2, by rw [List.getElem?_set_self hnl], g4⟩⟩
        simp only [List.length_set]
        exact g1
      · rw [if_neg hij] at hj
        refine ⟨?_⟩
        rcases (h.rows y (List.mem_of_getElem? hj)).row with c1 | ⟨n', full', cs', c1, c2, c3, c4⟩
        · exact .inl c1
        · refine .inr ⟨n', full', cs', c1, c2, ?_, c4⟩
          rcases Apart_ne h.apart hz hj hij with d | d | d
          · rw [g1] at d; cases d
          · rw [c1] at d; cases d
          · rw [g1, c1] at d
            have d2 : n ≠ n' := d
            rw [List.getElem?_set_ne d2]
            exact c3
    · exact Apart_fst (fst_set hz _) h.apart
section
variable {α : Type} {f : α → α} {l : List α} {k : Nat} {z : α}
end
theorem L1_app_new {A : AHeap} {y : AV} {ys : List Int} (hy : L1 A y ys) (hl : ys.length ≤ lim) :
    ∃ v' n full H2, appA 1 (A ++ [.cells true []]) (.sl 1 A.length 0 0 true) y = some (v', H2) ∧ A <+: H2 ∧ A.length ≤ n ∧ v' = .sl 1 n 0 ys.length full ∧ H2[n]? = some (.cells true (ys.flatMap e1 ++ [])) := by
  have hc := (hy.mono (pre_app A [.cells true []])).hc
  by_cases h0 : ys.length = 0
  · have : ys = [] := List.eq_nil_of_length_eq_zero h0
    subst this
    refine ⟨.sl 1 A.length 0 0 true, A.length, true, A ++ [.cells true []], ?_, pre_app _ _, Nat.le_refl _, rfl, by simp⟩
    unfold appA
    rw [hc]
    simp
  · refine ⟨.sl 1 (A ++ [AObj.cells true []]).length 0 ys.length false, (A ++ [AObj.cells true []]).length, false, A ++ [AObj.cells true []] ++ [.cells true (ys.flatMap e1)], ?_, (pre_app A _).trans (pre_app _ _), by simp, rfl, by simp⟩
    unfold appA
    rw [hc]
    simp [h0, hl]
theorem LL.pos {A : AHeap} {v : AV} {ws : List (AV × List Int)} (h : LL A v ws) (h0 : 0 < ws.length) : 0 < A.length := by
  rcases h.ls.inv with ⟨_, rfl⟩ | ⟨n, off, full, rw, l, _, h1, _, _⟩
  · simp at h0
  · have := (List.getElem?_eq_some_iff.1 h1).1
    omega
end Go.Proofs.Ytmblehbjedpjoaa

namespace Go.Proofs.Ytmblehbjedpjoaa
open Go Go.Eng
section
variable {L : List Int} {ws : List (AV × List Int)} {x y : AV} {A : AHeap}
theorem KG.take {V : List (List Int)} (h : KG L V) (i : Nat) : 0 ≤ (L.take i).sum ∧ (L.take i).sum ≤ 120 := by
  have := take_sumB (us := L) (fun n hn => by have := h.ls n hn; omega) i
  have := h.l6
  omega
theorem KG.sum {V : List (List Int)} (h : KG L V) : 1 ≤ L.sum ∧ L.sum ≤ 120 := by
  have h1 := h.take L.length
  rw [List.take_length] at h1
  refine ⟨?_, h1.2⟩
  have hl := h.l1
  have hls := h.ls
  cases L with
  | nil => simp at hl
  | cons a l =>
    have h2 := hls a (by simp)
    have h3 := sumB (l := l) (fun n hn => by have := hls n (by simp [hn]); omega)
    rw [List.sum_cons]
    omega
theorem c_end (hL : L1 A x L) (h : KG L (lists ws)) : ACalls Try.prog 77 [.agg [x, y]] A (I L.sum) A := by
  refine acalls hmix Try.func77 (by kernel_rfl) t77 1 rfl (by decide) ?_
  have h6 := h.l6
  dsimp only [m77]
  simp (maxSteps := 4000000) -implicitDefEqProofs -dsimp (disch := omega) only [↓AW_ops, ↓AW_seq, ↓AW_block, ↓AOps_nil, ↓AOps_pu, on_some, ↓then_normal, pval, rd_S, rd_C, put_S, ↓AW_toLoop, chkd, isAdr, bgot, AV.cells?, partA, eq_self, List.replicate_succ, List.replicate_zero, List.set_cons_zero, List.set_cons_succ, List.getElem?_cons_zero, List.getElem?_cons_succ, List.drop_zero, List.take_zero, List.take_succ_cons, Option.getD_some, List.length_cons, List.length_nil, Nat.reduceAdd, Nat.reduceSub, Nat.reduceLeDiff, Nat.zero_add, List.cons_append, List.nil_append, if_true, if_false, Bool.false_eq_true, hL.len]
  refine LoopK.by 18 (fun i : Nat => i ≤ L.length) (fun i => [(3, I (L.take i).sum), (7, x), (8, I L.length), (9, I i)]) (fun _ => A) (fun i => L.length - i) 0 (by omega) rfl (by simp [Has, rd_s]) rfl ?_
  intro i hi
  by_cases hlt : i < L.length
  · obtain ⟨n, hz⟩ : ∃ z, L[i]? = some z := ⟨_, List.getElem?_eq_getElem hlt⟩
    have hlt' : (i : Int) < L.length := by omega
    have hb := h.take i
    have hn := h.ls n (List.mem_of_getElem? hz)
    simp (maxSteps := 4000000) -implicitDefEqProofs -dsimp (disch := omega) only [↓AW_skip, ↓AW_ops, ↓AW_seq, ↓AW_cond, ↓AW_block, ↓AOps_nil, ↓AOps_pu, ↓AOps_ld, on_some, condB_t, ↓then_normal, ↓inBlock_normal, pval, lval, rd_S, rd_C, put_S, partA, eq_self, mk, List.foldl_cons, List.foldl_nil, List.replicate_succ, List.replicate_zero, List.set_cons_zero, List.set_cons_succ, List.getElem?_cons_zero, List.getElem?_cons_succ, List.drop_zero, List.take_succ_cons, List.take_nil, Option.getD_some, List.length_cons, List.length_nil, Nat.reduceAdd, Nat.reduceLeDiff, Nat.zero_add, bin_add, bin_lss, w64, if_true, if_false, Bool.false_eq_true, decide_true, Go.Eng.e1, true_and, hlt', hL.idx hlt, hL.ld0 hz 1 false (by decide)]
    exact ⟨i + 1, hlt, by simp [Has, rd_s, take_sum_succ' hz], by omega⟩
  · have hlt' : ¬ ((i : Int) < L.length) := by omega
    simp (maxSteps := 4000000) -implicitDefEqProofs -dsimp (disch := omega) only [↓AW_ops, ↓AW_seq, ↓AW_cond, ↓AW_exit, ↓AW_ret, ↓AOps_nil, ↓AOps_pu, on_some, condB_f, ↓then_normal, ↓then_exit, ↓inBlock_exit, ↓Fin_ret, pval, rd_S, put_S, resV, resL, eq_self, mk, List.foldl_cons, List.foldl_nil, List.replicate_succ, List.replicate_zero, List.set_cons_zero, List.set_cons_succ, List.getElem?_cons_zero, List.getElem?_cons_succ, Option.getD_some, bin_lss, if_true, decide_false, hlt']
    rw [List.take_of_length_le (by omega)]
    exact gc_same rfl
theorem c_whole (hL : L1 A x L) (hV : LL A y ws) (h : KG L (lists ws)) {o : Nat} {w : AV × List Int} (ho : ws[o]? = some w) : ACalls Try.prog 60 [.agg [x, y], I o] A (I (tot (L.zip w.2))) A := by
  refine acalls hmix Try.func60 (by kernel_rfl) t60 2 rfl (by decide) ?_
  have h6 := h.l6
  have hm := List.mem_of_getElem? ho
  have hmr := mem_lists hm
  have hx := hV.inn w hm
  have hol : o < ws.length := (List.getElem?_eq_some_iff.1 ho).1
  have hrl := h.rl _ hmr
  have hg := h.gd hmr
  dsimp only [m60]
  simp (maxSteps := 4000000) -implicitDefEqProofs -dsimp (disch := omega) only [↓AW_ops, ↓AW_seq, ↓AW_block, ↓AOps_nil, ↓AOps_pu, on_some, ↓then_normal, pval, rd_S, rd_C, put_S, ↓AW_toLoop, chkd, isAdr, bgot, AV.cells?, partA, eq_self, List.replicate_succ, List.replicate_zero, List.set_cons_zero, List.set_cons_succ, List.getElem?_cons_zero, List.getElem?_cons_succ, List.drop_zero, List.take_zero, List.take_succ_cons, Option.getD_some, List.length_cons, List.length_nil, Nat.reduceAdd, Nat.reduceSub, Nat.reduceLeDiff, Nat.zero_add, List.cons_append, List.nil_append, if_true, if_false, Bool.false_eq_true, hL.len]
  refine LoopK.by 30 (fun i : Nat => i ≤ L.length) (fun i => [(1, I o), (2, .agg [x, y]), (5, I (tot ((L.zip w.2).take i))), (9, x), (10, I L.length), (11, I i)]) (fun _ => A) (fun i => L.length - i) 0 (by omega) rfl (by simp [Has, rd_s, tot, sumZ]) rfl ?_
  intro i hi
  by_cases hlt : i < L.length
  · obtain ⟨n, hz⟩ : ∃ z, L[i]? = some z := ⟨_, List.getElem?_eq_getElem hlt⟩
    have hlt' : (i : Int) < L.length := by omega
    have hlw : i < w.2.length := by omega
    obtain ⟨v, hv⟩ : ∃ v, w.2[i]? = some v := ⟨_, List.getElem?_eq_getElem hlw⟩
    have hb := tot_bound (good_take hg i)
    have hn := h.ls n (List.mem_of_getElem? hz)
    have hvv := h.rv _ hmr v (List.mem_of_getElem? hv)
    have ht := tot_take (zip_at hz hv)
    have hm1 : 0 ≤ n * v ∧ n * v ≤ 400 := ⟨Int.mul_nonneg (by omega) (by omega), Int.mul_le_mul hn.2 hvv.2 (by omega) (by omega)⟩
    simp (maxSteps := 4000000) -implicitDefEqProofs -dsimp (disch := omega) only [↓AW_skip, ↓AW_ops, ↓AW_seq, ↓AW_cond, ↓AW_block, ↓AOps_nil, ↓AOps_pu, ↓AOps_ld, on_some, condB_t, ↓then_normal, ↓inBlock_normal, pval, lval, rd_S, rd_C, put_S, chkd, isAdr, bgot, AV.cells?, partA, eq_self, mk, List.foldl_cons, List.foldl_nil, List.replicate_succ, List.replicate_zero, List.set_cons_zero, List.set_cons_succ, List.getElem?_cons_zero, List.getElem?_cons_succ, List.drop_zero, List.drop_succ_cons, List.take_succ_cons, List.take_nil, Option.getD_some, List.length_cons, List.length_nil, Nat.reduceAdd, Nat.reduceLeDiff, Nat.zero_add, bin_add, bin_mul, bin_lss, w64, if_true, if_false, Bool.false_eq_true, decide_true, Go.Eng.e1, true_and, hlt', hL.idx hlt, hL.ld0 hz 1 false (by decide), hV.ls.idx hol, hV.ls.ld0 ho 1 false (by decide), e0, hx.idx hlw, hx.ld0 hv 1 false (by decide)]
    exact ⟨i + 1, hlt, by simp [Has, rd_s, ht], by omega⟩
  · have hlt' : ¬ ((i : Int) < L.length) := by omega
    simp (maxSteps := 4000000) -implicitDefEqProofs -dsimp (disch := omega) only [↓AW_ops, ↓AW_seq, ↓AW_cond, ↓AW_exit, ↓AW_ret, ↓AOps_nil, ↓AOps_pu, on_some, condB_f, ↓then_normal, ↓then_exit, ↓inBlock_exit, ↓Fin_ret, pval, rd_S, put_S, resV, resL, eq_self, mk, List.foldl_cons, List.foldl_nil, List.replicate_succ, List.replicate_zero, List.set_cons_zero, List.set_cons_succ, List.getElem?_cons_zero, List.getElem?_cons_succ, Option.getD_some, bin_lss, if_true, decide_false, hlt']
    rw [List.take_of_length_le (by rw [h.zlen hmr]; omega)]
    exact gc_same rfl
theorem c_units (hL : L1 A x L) (hV : LL A y ws) (h : KG L (lists ws)) {o : Nat} {w : AV × List Int} (ho : ws[o]? = some w) :
    ACalls Try.prog 68 [.agg [x, y], I o] A (outV 1 A (units (L.zip w.2)).length) (outH A ((units (L.zip w.2)).flatMap e1) (units (L.zip w.2)).length) := by
  refine acalls hmix Try.func68 (by kernel_rfl) t68 2 rfl (by decide) ?_
  have h6 := h.l6
  have hm := List.mem_of_getElem? ho
  have hmr := mem_lists hm
  have hol : o < ws.length := (List.getElem?_eq_some_iff.1 ho).1
  have hrl := h.rl _ hmr
  have hg := h.gd hmr
  dsimp only [m68]
  simp (maxSteps := 4000000) -implicitDefEqProofs -dsimp (disch := omega) only [↓AW_ops, ↓AW_seq, ↓AW_block, ↓AOps_nil, ↓AOps_pu, on_some, ↓then_normal, pval, rd_S, rd_C, put_S, ↓AW_toLoop, AV.cells?, List.replicate_succ, List.replicate_zero, List.set_cons_zero, List.set_cons_succ, List.getElem?_cons_zero, Option.getD_some, Nat.reduceSub, List.cons_append, List.nil_append]
  refine LoopK.by 36 (fun z : Nat × AV × AHeap => z.1 ≤ L.length ∧ AccL 1 e1 A z.2.2 z.2.1 (units ((L.zip w.2).take z.1))) (fun z => [(1, I o), (2, .agg [x, y]), (5, z.2.1), (6, I z.1)]) (fun z => z.2.2) (fun z => L.length - z.1) (0, .nilS, A) ⟨by omega, AccL.nil (List.prefix_refl _)⟩ rfl (by simp [Has, rd_s]) rfl ?_
  rintro ⟨i, u, A1⟩ ⟨hi, hu⟩
  simp only at hi hu
  have hL1 := hL.mono hu.pre
  by_cases hlt : i < L.length
  · obtain ⟨n, hz⟩ : ∃ z, L[i]? = some z := ⟨_, List.getElem?_eq_getElem hlt⟩
    have hlt' : (i : Int) < L.length := by omega
    have hlw : i < w.2.length := by omega
    obtain ⟨v, hv⟩ : ∃ v, w.2[i]? = some v := ⟨_, List.getElem?_eq_getElem hlw⟩
    have hn := h.ls n (List.mem_of_getElem? hz)
    have hzv := zip_at hz hv
    have hb := len_bound (good_take hg i)
    have hb' := len_units (good_take hg i).2
    simp (maxSteps := 4000000) -implicitDefEqProofs -dsimp (disch := omega) only [↓AW_skip, ↓AW_ops, ↓AW_seq, ↓AW_cond, ↓AW_block, ↓AOps_nil, ↓AOps_pu, on_some, condB_t, ↓then_normal, pval, rd_S, rd_C, put_S, ↓AW_toLoop, chkd, isAdr, bgot, AV.cells?, partA, eq_self, mk, List.foldl_cons, List.foldl_nil, List.replicate_succ, List.replicate_zero, List.set_cons_zero, List.set_cons_succ, List.getElem?_cons_zero, List.getElem?_cons_succ, List.drop_zero, List.take_zero, List.take_succ_cons, Option.getD_some, List.length_cons, List.length_nil, Nat.reduceAdd, Nat.reduceLeDiff, Nat.zero_add, bin_lss, if_true, if_false, Bool.false_eq_true, decide_true, hlt', hL1.len]
    refine LoopK.by 36 (fun z : Nat × AV × AHeap => (z.1 : Int) ≤ n ∧ AccL 1 e1 A z.2.2 z.2.1 (units ((L.zip w.2).take i) ++ List.replicate z.1 v)) (fun z => [(1, I o), (2, .agg [x, y]), (5, z.2.1), (6, I i), (7, I z.1)]) (fun z => z.2.2) (fun z => n.toNat - z.1) (0, u, A1) ⟨by simp; omega, by simpa using hu⟩ rfl (by simp [Has, rd_s]) rfl ?_
    rintro ⟨k, u2, A2⟩ ⟨hk, hu2⟩
    simp only at hk hu2
    have hL2 := hL.mono hu2.pre
    have hV2 := hV.mono hu2.pre
    have hx2 := hV2.inn w hm
    by_cases hkz : (k : Int) < n
    · obtain ⟨u3, A3, happ, hu3⟩ := hu2.push e1_len v (by simp [lim]; omega)
      simp only [e1] at happ
      simp (maxSteps := 4000000) -implicitDefEqProofs -dsimp (disch := omega) only [↓AW_skip, ↓AW_ops, ↓AW_seq, ↓AW_cond, ↓AW_block, ↓AOps_nil, ↓AOps_pu, ↓AOps_ld, ↓AOps_ha, on_some, extK_false, extK_app, condB_t, ↓then_normal, ↓inBlock_normal, pval, lval, hval, rd_S, rd_C, put_S, chkd, isAdr, bgot, AV.cells?, splice, partA, fillA, repl, eq_self, mk, List.foldl_cons, List.foldl_nil, List.replicate_succ, List.replicate_zero, List.set_cons_zero, List.set_cons_succ, List.getElem?_cons_zero, List.getElem?_cons_succ, List.drop_zero, List.drop_succ_cons, List.drop_nil, List.take_zero, List.take_succ_cons, List.take_nil, Option.getD_some, map_c, map_n, List.length_cons, List.length_nil, Nat.reduceAdd, Nat.reduceLeDiff, Nat.zero_add, List.nil_append, List.append_nil, bin_add, bin_lss, w64, if_true, if_false, Bool.false_eq_true, decide_true, Go.Eng.e1, true_and, and_true, hkz, hL2.idx hlt, hL2.ld0 hz 1 false (by decide), hV2.ls.idx hol, hV2.ls.ld0 ho 1 false (by decide), e0, hx2.idx hlw, hx2.ld0 hv 1 false (by decide), happ]
      exact ⟨(k + 1, u3, A3), ⟨by simp only; omega, by rw [List.replicate_succ', ← List.append_assoc]; exact hu3⟩, by simp [Has, rd_s], rfl, by simp only; omega⟩
    · simp (maxSteps := 4000000) -implicitDefEqProofs -dsimp (disch := omega) only [↓AW_ops, ↓AW_seq, ↓AW_cond, ↓AW_exit, ↓AW_ret, ↓AOps_nil, ↓AOps_pu, ↓AOps_ld, on_some, condB_f, ↓then_normal, ↓then_exit, ↓inBlock_normal, ↓inBlock_exit, ↓Fin_ret, pval, lval, rd_S, rd_C, put_S, resV, resL, chkd, isAdr, bgot, AV.cells?, partA, eq_self, mk, List.foldl_cons, List.foldl_nil, List.replicate_succ, List.replicate_zero, List.set_cons_zero, List.set_cons_succ, List.getElem?_cons_zero, List.getElem?_cons_succ, List.drop_zero, List.take_zero, List.take_succ_cons, List.take_nil, Option.getD_some, List.length_cons, List.length_nil, Nat.reduceAdd, Nat.reduceLeDiff, Nat.reduceEqDiff, Nat.zero_add, bin_add, bin_lss, w64, if_true, if_false, Bool.false_eq_true, decide_false, Go.Eng.e1, true_and, reduceCtorEq, hkz, hL2.idx hlt, hL2.ld0 hz 1 false (by decide)]
      have hkz' : k = n.toNat := by omega
      subst hkz'
      exact ⟨(i + 1, u2, A2), ⟨hlt, by rw [units_take hzv]; exact hu2⟩, by simp [Has, rd_s], rfl, by simp only; omega⟩
  · have hlt' : ¬ ((i : Int) < L.length) := by omega
    simp (maxSteps := 4000000) -implicitDefEqProofs -dsimp (disch := omega) only [↓AW_ops, ↓AW_seq, ↓AW_cond, ↓AW_exit, ↓AW_ret, ↓AOps_nil, ↓AOps_pu, on_some, condB_f, ↓then_normal, ↓then_exit, ↓inBlock_exit, ↓Fin_ret, pval, rd_S, put_S, resV, resL, chkd, isAdr, bgot, AV.cells?, partA, eq_self, mk, List.foldl_cons, List.foldl_nil, List.replicate_succ, List.replicate_zero, List.set_cons_zero, List.set_cons_succ, List.getElem?_cons_zero, List.getElem?_cons_succ, List.drop_zero, List.take_zero, List.take_succ_cons, Option.getD_some, List.length_cons, List.length_nil, Nat.reduceAdd, Nat.reduceLeDiff, Nat.zero_add, bin_lss, if_true, if_false, Bool.false_eq_true, decide_false, hlt', hL1.len]
    rw [List.take_of_length_le (by rw [h.zlen hmr]; omega)] at hu
    exact hu.gc flat_e1
/-- What the document's list of units is. -/
theorem units_ls (A : AHeap) (f : List (Int × Int)) : L1 (outH A ((units f).flatMap e1) (units f).length) (outV 1 A (units f).length) (units f) := Ls_out A e1_len (units f)
theorem c_all (hL : L1 A x L) (hV : LL A y ws) (h : KG L (lists ws)) {o : Nat} {w : AV × List Int} (ho : ws[o]? = some w) : ACalls Try.prog 79 [.agg [x, y], I o] A (I (tot (L.zip w.2))) A := by
  refine acalls hmix Try.func79 (by kernel_rfl) t79 2 rfl (by decide) ?_
  have hmr := mem_lists (List.mem_of_getElem? ho)
  have hg := h.gd hmr
  dsimp only [m79]
  simp (maxSteps := 4000000) -implicitDefEqProofs -dsimp (disch := omega) only [↓AW_ops, ↓AW_seq, ↓AOps_nil, ↓AOps_pu, ↓AOps_call, on_some, ↓then_normal, pval, rd_S, rd_C, put_S, chkd, bgot, AV.cells?, partA, eq_self, List.replicate_succ, List.replicate_zero, List.set_cons_zero, List.set_cons_succ, List.getElem?_cons_zero, List.getElem?_cons_succ, List.drop_zero, List.take_succ_cons, List.take_nil, Option.getD_some, map_c, map_n, List.length_cons, List.length_nil, Nat.reduceAdd, Nat.reduceSub, Nat.reduceLeDiff, Nat.reduceEqDiff, Nat.zero_add, List.cons_append, List.nil_append, if_true, if_false]
  refine CallK.of (c_units hL hV h ho) ?_
  have hu := units_ls A (L.zip w.2)
  have hp := pre_out A ((units (L.zip w.2)).flatMap e1) (units (L.zip w.2)).length
  simp (maxSteps := 4000000) -implicitDefEqProofs -dsimp (disch := omega) only [↓AW_ops, ↓AW_seq, ↓AW_block, ↓AOps_nil, ↓AOps_pu, on_some, extK_false, ↓then_normal, pval, rd_S, rd_C, put_S, ↓AW_toLoop, List.replicate_succ, List.replicate_zero, List.set_cons_zero, List.set_cons_succ, List.getElem?_cons_zero, List.getElem?_cons_succ, Option.getD_some, Nat.reduceSub, List.cons_append, List.nil_append]
  generalize outV 1 A (units (L.zip w.2)).length = u at *
  generalize outH A ((units (L.zip w.2)).flatMap e1) (units (L.zip w.2)).length = A1 at *
  have hl := len_units hg.2
  have hb := len_bound hg
  have hs := sum_units hg.2
  have hub := units_le hg.2
  generalize hU : units (L.zip w.2) = U at *
  refine LoopK.by 24 (fun i : Nat => i ≤ U.length) (fun i => [(5, I (U.take i).sum), (6, u), (7, I i)]) (fun _ => A1) (fun i => U.length - i) 0 (by omega) rfl (by simp [Has, rd_s]) rfl ?_
  intro i hi
  by_cases hlt : i < U.length
  · obtain ⟨n, hz⟩ : ∃ z, U[i]? = some z := ⟨_, List.getElem?_eq_getElem hlt⟩
    have hlt' : (i : Int) < U.length := by omega
    have b1 := take_sumB hub i
    have b4 := hub n (List.mem_of_getElem? hz)
    simp (maxSteps := 4000000) -implicitDefEqProofs -dsimp (disch := omega) only [↓AW_skip, ↓AW_ops, ↓AW_seq, ↓AW_cond, ↓AW_block, ↓AOps_nil, ↓AOps_pu, ↓AOps_ld, on_some, condB_t, ↓then_normal, ↓inBlock_normal, pval, lval, rd_S, rd_C, put_S, partA, eq_self, mk, List.foldl_cons, List.foldl_nil, List.replicate_succ, List.replicate_zero, List.set_cons_zero, List.set_cons_succ, List.getElem?_cons_zero, List.getElem?_cons_succ, List.drop_zero, List.take_succ_cons, List.take_nil, Option.getD_some, List.length_cons, List.length_nil, Nat.reduceAdd, Nat.reduceLeDiff, Nat.zero_add, bin_add, bin_lss, w64, if_true, if_false, Bool.false_eq_true, decide_true, Go.Eng.e1, true_and, hlt', hu.len, hu.idx hlt, hu.ld0 hz 1 false (by decide)]
    exact ⟨i + 1, hlt, by simp [Has, rd_s, take_sum_succ' hz], by omega⟩
  · have hlt' : ¬ ((i : Int) < U.length) := by omega
    simp (maxSteps := 4000000) -implicitDefEqProofs -dsimp (disch := omega) only [↓AW_ops, ↓AW_seq, ↓AW_cond, ↓AW_exit, ↓AW_ret, ↓AOps_nil, ↓AOps_pu, on_some, condB_f, ↓then_normal, ↓then_exit, ↓inBlock_exit, ↓Fin_ret, pval, rd_S, put_S, resV, resL, eq_self, mk, List.foldl_cons, List.foldl_nil, List.replicate_succ, List.replicate_zero, List.set_cons_zero, List.set_cons_succ, List.getElem?_cons_zero, List.getElem?_cons_succ, Option.getD_some, bin_lss, if_true, decide_false, hlt', hu.len]
    refine gc_val hp ?_
    rw [List.take_of_length_le (by omega), hs]
    rfl
theorem first_row {ws : List (AV × List Int)} (h : KG L (lists ws)) : ∃ w, ws[0]? = some w := by
  have := h.v1
  have h2 : (lists ws).length = ws.length := by simp
  exact ⟨_, List.getElem?_eq_getElem (by omega)⟩
theorem c_rend (hL : L1 A x L) (hV : LL A y ws) (h : KG L (lists ws)) : ACalls Try.prog 87 [.agg [x, y]] A (R ((L.sum : Int) : Rat)) A := by
  refine acalls hmix Try.func87 (by kernel_rfl) t87 1 rfl (by decide) ?_
  obtain ⟨w, ho⟩ := first_row h
  have hmr := mem_lists (List.mem_of_getElem? ho)
  have hg := h.gd hmr
  dsimp only [m87]
  simp (maxSteps := 4000000) -implicitDefEqProofs -dsimp (disch := omega) only [↓AW_ops, ↓AW_seq, ↓AOps_nil, ↓AOps_pu, ↓AOps_call, on_some, ↓then_normal, pval, rd_S, rd_C, put_S, chkd, bgot, AV.cells?, partA, eq_self, List.replicate_succ, List.replicate_zero, List.set_cons_zero, List.set_cons_succ, List.getElem?_cons_zero, List.getElem?_cons_succ, List.drop_zero, List.take_succ_cons, List.take_nil, Option.getD_some, map_c, map_n, List.length_cons, List.length_nil, Nat.reduceAdd, Nat.reduceSub, Nat.reduceLeDiff, Nat.reduceEqDiff, Nat.zero_add, List.cons_append, List.nil_append, if_true, if_false]
  have hc := c_units hL hV h ho
  rw [show ((0 : Nat) : Int) = 0 from rfl] at hc
  refine CallK.of hc ?_
  have hu := units_ls A (L.zip w.2)
  have hp := pre_out A ((units (L.zip w.2)).flatMap e1) (units (L.zip w.2)).length
  simp (maxSteps := 4000000) -implicitDefEqProofs -dsimp (disch := omega) only [↓AOps_pu, ↓AOps_call, on_some, extK_false, pval, rd_S, put_S, List.replicate_succ, List.replicate_zero, List.set_cons_zero, List.set_cons_succ, List.getElem?_cons_zero, List.getElem?_cons_succ, Option.getD_some, map_c, map_n, Nat.reduceSub, List.cons_append, List.nil_append, hu.len]
  refine CallK.of (s36 _ _) ?_
  simp (maxSteps := 4000000) -implicitDefEqProofs -dsimp (disch := omega) only [↓AW_ret, ↓AOps_nil, ↓AOps_pu, on_some, extK_same, ↓then_normal, ↓Fin_ret, pval, rd_S, put_S, resV, resL, chkd, bput, bgot, AV.cells?, splice, partA, eq_self, List.replicate_succ, List.replicate_zero, List.set_cons_zero, List.set_cons_succ, List.getElem?_cons_zero, List.getElem?_cons_succ, List.drop_zero, List.drop_succ_cons, List.drop_nil, List.take_zero, List.take_succ_cons, List.take_nil, Option.getD_some, List.length_cons, List.length_nil, Nat.reduceAdd, Nat.reduceSub, Nat.reduceLeDiff, Nat.reduceEqDiff, Nat.zero_add, List.cons_append, List.nil_append, List.append_nil, if_true, if_false, ne_eq, not_true_eq_false]
  rw [len_units hg.2, h.lenz hmr]
  exact gc_val hp rfl
/-- A place of a field. -/
def isK (L : List Int) (r : Int × Int) : Prop := ((1 ≤ r.2 ∧ r.2 ≤ 1000000) ∧ Int.gcd r.1 r.2 = 1) ∧ (0 ≤ r.1 ∧ r.1 ≤ L.sum * r.2)
instance (r : Int × Int) : Decidable (isK L r) := by unfold isK; exact inferInstance
theorem c_isK (hL : L1 A x L) (h : KG L (lists ws)) (r : Int × Int) (hr : W r.1) : ACalls Try.prog 51 [.agg [x, y], .agg [I r.1, I r.2]] A (B (decide (isK L r))) A := by
  refine acalls hmix Try.func51 (by kernel_rfl) t51 2 rfl (by decide) ?_
  have hs := h.sum
  dsimp only [m51]
  simp (maxSteps := 4000000) -implicitDefEqProofs -dsimp (disch := omega) only [↓AW_ops, ↓AW_seq, ↓AOps_nil, ↓AOps_pu, ↓AOps_call, on_some, ↓then_normal, pval, rd_S, rd_C, put_S, chkd, bgot, AV.cells?, partA, eq_self, List.replicate_succ, List.replicate_zero, List.set_cons_zero, List.set_cons_succ, List.getElem?_cons_zero, List.getElem?_cons_succ, List.drop_zero, List.take_succ_cons, List.take_nil, Option.getD_some, map_c, map_n, List.length_cons, List.length_nil, Nat.reduceAdd, Nat.reduceSub, Nat.reduceLeDiff, Nat.reduceEqDiff, Nat.zero_add, List.cons_append, List.nil_append, if_true, if_false]
  refine CallK.of (s105 r 1000000 A hr (by omega)) ?_
  by_cases h1 : (1 ≤ r.2 ∧ r.2 ≤ 1000000) ∧ Int.gcd r.1 r.2 = 1
  · have hm := mul_bound (x := L.sum) (y := r.2) (X := 120) (Y := 1000000) (by omega) (by omega)
    simp (maxSteps := 4000000) -implicitDefEqProofs -dsimp (disch := omega) only [↓AOps_pu, ↓AOps_call, ↓AOps_guard, on_some, extK_same, guardB_tt, pval, rd_S, put_S, chkd, isAdr, bgot, AV.cells?, partA, eq_self, List.replicate_succ, List.replicate_zero, List.set_cons_zero, List.set_cons_succ, List.getElem?_cons_zero, List.getElem?_cons_succ, List.drop_zero, List.take_zero, List.take_succ_cons, List.take_nil, Option.getD_some, map_c, map_n, List.length_cons, List.length_nil, Nat.reduceAdd, Nat.reduceSub, Nat.reduceLeDiff, Nat.reduceEqDiff, Nat.zero_add, List.cons_append, List.nil_append, if_true, if_false, Bool.false_eq_true, decide_true, and_true, h1]
    refine CallK.of (c_end (y := y) hL h) ?_
    simp (maxSteps := 4000000) -implicitDefEqProofs -dsimp (disch := omega) only [↓AOps_pu, ↓AOps_call, ↓AOps_guard, on_some, extK_same, guardB_tt, pval, rd_S, rd_C, put_S, chkd, isAdr, bgot, AV.cells?, partA, eq_self, List.replicate_succ, List.replicate_zero, List.set_cons_zero, List.set_cons_succ, List.getElem?_cons_zero, List.getElem?_cons_succ, List.drop_zero, List.drop_succ_cons, List.take_succ_cons, List.take_nil, Option.getD_some, map_c, map_n, List.length_cons, List.length_nil, Nat.reduceAdd, Nat.reduceSub, Nat.reduceLeDiff, Nat.zero_add, List.cons_append, List.nil_append, bin_mul, w64, if_true, if_false, Bool.false_eq_true]
    refine CallK.of (c_kw _ _ _ _) ?_
    simp (maxSteps := 4000000) -implicitDefEqProofs -dsimp (disch := omega) only [↓AW_ret, ↓AOps_nil, ↓AOps_pu, on_some, extK_same, ↓then_normal, ↓Fin_ret, pval, rd_S, rd_C, put_S, resV, resL, eq_self, List.replicate_succ, List.replicate_zero, List.set_cons_zero, List.set_cons_succ, List.getElem?_cons_zero, List.getElem?_cons_succ, Option.getD_some, Nat.reduceSub, List.cons_append, List.nil_append, if_true]
    exact gc_same (by congr 1; simp [isK, h1])
  · simp (maxSteps := 4000000) -implicitDefEqProofs -dsimp (disch := omega) only [↓AW_ret, ↓AOps_nil, ↓AOps_pu, ↓AOps_guard, on_some, extK_same, guardB_ft, skipS_some, ↓then_normal, ↓Fin_ret, pval, rd_S, rd_C, put_S, resV, resL, List.replicate_succ, List.replicate_zero, List.set_cons_zero, List.set_cons_succ, List.getElem?_cons_zero, List.getElem?_cons_succ, Option.getD_some, Nat.reduceSub, List.cons_append, List.nil_append, if_false, Bool.false_eq_true, decide_false, h1]
    exact gc_same (by congr 1; simp [isK, h1])
theorem c_risK (hL : L1 A x L) (hV : LL A y ws) (h : KG L (lists ws)) (r : Int × Int) (hr : W r.1) : ACalls Try.prog 53 [.agg [x, y], .agg [I r.1, I r.2]] A (B (decide (isK L r))) A := by
  refine acalls hmix Try.func53 (by kernel_rfl) t53 2 rfl (by decide) ?_
  have hs := h.sum
  obtain ⟨w, ho⟩ := first_row h
  have hmr := mem_lists (List.mem_of_getElem? ho)
  have hg := h.gd hmr
  dsimp only [m53]
  simp (maxSteps := 4000000) -implicitDefEqProofs -dsimp (disch := omega) only [↓AW_ops, ↓AW_seq, ↓AOps_nil, ↓AOps_pu, ↓AOps_call, on_some, ↓then_normal, pval, rd_S, rd_C, put_S, chkd, bgot, AV.cells?, partA, eq_self, List.replicate_succ, List.replicate_zero, List.set_cons_zero, List.set_cons_succ, List.getElem?_cons_zero, List.getElem?_cons_succ, List.drop_zero, List.take_succ_cons, List.take_nil, Option.getD_some, map_c, map_n, List.length_cons, List.length_nil, Nat.reduceAdd, Nat.reduceSub, Nat.reduceLeDiff, Nat.reduceEqDiff, Nat.zero_add, List.cons_append, List.nil_append, if_true, if_false]
  refine CallK.of (s106 r 1000000 A hr (by omega)) ?_
  by_cases h1 : vI r 1000000
  · simp (maxSteps := 4000000) -implicitDefEqProofs -dsimp (disch := omega) only [↓AOps_pu, ↓AOps_call, ↓AOps_guard, on_some, extK_same, guardB_tt, pval, rd_S, rd_C, put_S, chkd, bgot, partA, eq_self, List.replicate_succ, List.replicate_zero, List.set_cons_zero, List.set_cons_succ, List.getElem?_cons_zero, List.getElem?_cons_succ, List.drop_zero, List.take_succ_cons, List.take_nil, Option.getD_some, map_c, map_n, List.length_cons, List.length_nil, Nat.reduceAdd, Nat.reduceSub, Nat.reduceLeDiff, Nat.reduceEqDiff, Nat.zero_add, List.cons_append, List.nil_append, if_true, if_false, decide_true, h1]
    have hc := c_units hL hV h ho
    rw [show ((0 : Nat) : Int) = 0 from rfl] at hc
    refine CallK.of hc ?_
    have hu := units_ls A (L.zip w.2)
    have hp := pre_out A ((units (L.zip w.2)).flatMap e1) (units (L.zip w.2)).length
    have hl := len_units hg.2
    rw [h.lenz hmr] at hl
    have hgc := vI_gcd h1
    simp (maxSteps := 4000000) -implicitDefEqProofs -dsimp (disch := omega) only [↓AOps_pu, ↓AOps_call, ↓AOps_guard, on_some, extK_false, guardB_tt, pval, rd_S, put_S, chkd, bgot, partA, eq_self, List.replicate_succ, List.replicate_zero, List.set_cons_zero, List.set_cons_succ, List.getElem?_cons_zero, List.getElem?_cons_succ, List.drop_zero, List.take_succ_cons, List.take_nil, Option.getD_some, map_c, map_n, List.length_cons, List.length_nil, Nat.reduceAdd, Nat.reduceSub, Nat.reduceLeDiff, Nat.reduceEqDiff, Nat.zero_add, List.cons_append, List.nil_append, if_true, if_false, decide_true, h1]
    refine CallK.of (s107 hu (by omega) r hr ⟨h1.1.1, by have := h1.1.2; omega⟩ hgc) ?_
    simp (maxSteps := 4000000) -implicitDefEqProofs -dsimp (disch := omega) only [↓AW_ret, ↓AOps_nil, ↓AOps_pu, on_some, extK_same, ↓then_normal, ↓Fin_ret, pval, rd_S, rd_C, put_S, resV, resL, eq_self, List.replicate_succ, List.replicate_zero, List.set_cons_zero, List.set_cons_succ, List.getElem?_cons_zero, List.getElem?_cons_succ, Option.getD_some, Nat.reduceSub, List.cons_append, List.nil_append, if_true, decide_true, h1]
    refine gc_val hp ?_
    rw [show decide (isK L r) = decide (0 ≤ r.1 ∧ r.1 ≤ (units (L.zip w.2)).length * r.2) by rw [hl]; simp [isK, h1.1, hgc]]
    rfl
  · simp (maxSteps := 4000000) -implicitDefEqProofs -dsimp (disch := omega) only [↓AW_ret, ↓AOps_nil, ↓AOps_pu, ↓AOps_guard, on_some, extK_same, guardB_ft, skipS_some, ↓then_normal, ↓Fin_ret, pval, rd_S, rd_C, put_S, resV, resL, List.replicate_succ, List.replicate_zero, List.set_cons_zero, List.set_cons_succ, List.getElem?_cons_zero, List.getElem?_cons_succ, Option.getD_some, Nat.reduceSub, List.cons_append, List.nil_append, if_false, Bool.false_eq_true, decide_false, h1]
    have hn : ¬ isK L r := by
      intro hk
      apply h1
      refine ⟨hk.1.1, ?_⟩
      split
      · rename_i he
        have := hk.2.1
        omega
      · exact hk.1.2
    exact gc_same (by rw [decide_eq_false hn])
/-- Lists that are not long. -/
structure Sz (L : List Int) (ws : List (AV × List Int)) : Prop where
  l : L.length ≤ 1000000
  v : ws.length ≤ 1000000
  w : ∀ w ∈ ws, w.2.length ≤ 1000000
/-- The first error of a field and an owner. -/
def oE (L : List Int) (V : List (List Int)) (o : Int) : Int := if kE L V = 0 then (if 0 ≤ o ∧ o ≤ (V.length : Int) - 1 then 0 else 4) else kE L V
theorem oE_0 {V : List (List Int)} {o : Int} (h : oE L V o = 0) : KG L V ∧ 0 ≤ o ∧ o ≤ (V.length : Int) - 1 := by
  unfold oE at h
  split at h
  · rename_i h0
    split at h
    · rename_i h1; exact ⟨KG.of h0, h1⟩
    · cases h
  · rename_i h0; exact absurd h h0
theorem oE_row {ws : List (AV × List Int)} {o : Int} (h : oE L (lists ws) o = 0) : KG L (lists ws) ∧ ∃ (k : Nat) (w : AV × List Int), o = k ∧ ws[k]? = some w := by
  obtain ⟨h1, h2, h3⟩ := oE_0 h
  have h4 : (lists ws).length = ws.length := by simp
  refine ⟨h1, o.toNat, _, by omega, List.getElem?_eq_getElem (by omega)⟩
theorem s56 (hL : L1 A x L) (hV : LL A y ws) (hs : Sz L ws) (o : Int) : ACalls Try.prog 56 [.agg [x, y], I o] A (I (oE L (lists ws) o)) A := by
  refine acalls hmix Try.func56 (by kernel_rfl) t56 2 rfl (by decide) ?_
  have hll : ((lists ws).length : Int) = ws.length := by simp
  have hv := hs.v
  dsimp only [m56]
  simp (maxSteps := 4000000) -implicitDefEqProofs -dsimp (disch := omega) only [↓AW_ops, ↓AW_seq, ↓AOps_nil, ↓AOps_pu, ↓AOps_call, on_some, ↓then_normal, pval, rd_S, rd_C, put_S, chkd, bgot, AV.cells?, partA, eq_self, List.replicate_succ, List.replicate_zero, List.set_cons_zero, List.set_cons_succ, List.getElem?_cons_zero, List.getElem?_cons_succ, List.drop_zero, List.take_succ_cons, List.take_nil, Option.getD_some, map_c, map_n, List.length_cons, List.length_nil, Nat.reduceAdd, Nat.reduceSub, Nat.reduceLeDiff, Nat.reduceEqDiff, Nat.zero_add, List.cons_append, List.nil_append, if_true, if_false]
  refine CallK.of (s26 hL hV hs.l hs.v hs.w) ?_
  by_cases h0 : kE L (lists ws) = 0
  · simp (maxSteps := 4000000) -implicitDefEqProofs -dsimp (disch := omega) only [↓AW_skip, ↓AW_ops, ↓AW_seq, ↓AW_cond, ↓AOps_nil, ↓AOps_pu, ↓AOps_call, on_some, extK_same, condB_f, ↓then_normal, pval, rd_S, rd_C, put_S, chkd, isAdr, bgot, AV.cells?, partA, eq_self, List.replicate_succ, List.replicate_zero, List.set_cons_zero, List.set_cons_succ, List.getElem?_cons_zero, List.getElem?_cons_succ, List.drop_zero, List.drop_succ_cons, List.take_succ_cons, List.take_nil, Option.getD_some, map_c, map_n, List.length_cons, List.length_nil, Nat.reduceAdd, Nat.reduceSub, Nat.reduceLeDiff, Nat.zero_add, List.cons_append, List.nil_append, bin_sub, bin_neq, w64, if_true, if_false, Bool.false_eq_true, decide_false, not_true_eq_false, h0, hV.ls.len]
    refine CallK.of (c_kw _ _ _ _) ?_
    by_cases h1 : 0 ≤ o ∧ o ≤ (ws.length : Int) - 1
    · simp (maxSteps := 4000000) -implicitDefEqProofs -dsimp (disch := omega) only [↓AW_skip, ↓AW_ops, ↓AW_seq, ↓AW_cond, ↓AW_ret, ↓AOps_nil, ↓AOps_pu, on_some, extK_same, condB_f, ↓then_normal, ↓Fin_ret, pval, rd_S, rd_C, put_S, resV, resL, List.replicate_succ, List.replicate_zero, List.set_cons_zero, List.set_cons_succ, List.getElem?_cons_zero, List.getElem?_cons_succ, Option.getD_some, Nat.reduceSub, List.cons_append, List.nil_append, Bool.not_true, decide_true, and_true, h1]
      exact gc_same (by rw [oE, if_pos h0, hll, if_pos h1])
    · simp (maxSteps := 4000000) -implicitDefEqProofs -dsimp (disch := omega) only [↓AW_ops, ↓AW_seq, ↓AW_cond, ↓AW_ret, ↓AOps_nil, ↓AOps_pu, on_some, extK_same, condB_t, ↓then_normal, ↓then_ret, ↓Fin_ret, pval, rd_S, rd_C, put_S, resV, resL, List.replicate_succ, List.replicate_zero, List.set_cons_zero, List.set_cons_succ, List.getElem?_cons_zero, List.getElem?_cons_succ, Option.getD_some, Nat.reduceSub, List.cons_append, List.nil_append, Bool.not_false, decide_false, h1]
      exact gc_same (by rw [oE, if_pos h0, hll, if_neg h1])
  · simp (maxSteps := 4000000) -implicitDefEqProofs -dsimp (disch := omega) only [↓AW_ops, ↓AW_seq, ↓AW_cond, ↓AW_ret, ↓AOps_nil, ↓AOps_pu, on_some, extK_same, condB_t, ↓then_normal, ↓then_ret, ↓Fin_ret, pval, rd_S, rd_C, put_S, resV, resL, List.replicate_succ, List.replicate_zero, List.set_cons_zero, List.set_cons_succ, List.getElem?_cons_zero, List.getElem?_cons_succ, Option.getD_some, Nat.reduceSub, List.cons_append, List.nil_append, bin_neq, decide_true, not_false_eq_true, h0]
    exact gc_same (by rw [oE, if_neg h0])
theorem s61g (hL : L1 A x L) (hV : LL A y ws) (hs : Sz L ws) {os : List Int} {u : AV} (hu : L1 A u os) (hl : os.length ≤ 1000000) : ACalls Try.prog 61 [.agg [x, y], u] A (I (if kE L (lists ws) = 0 then (if ∀ o ∈ os, 0 ≤ o ∧ o ≤ (ws.length : Int) - 1 then 0 else 4) else kE L (lists ws))) A := by
  refine acalls hmix Try.func61 (by kernel_rfl) t61 2 rfl (by decide) ?_
  have hv := hs.v
  dsimp only [m61]
  simp (maxSteps := 4000000) -implicitDefEqProofs -dsimp (disch := omega) only [↓AW_ops, ↓AW_seq, ↓AOps_nil, ↓AOps_pu, ↓AOps_call, on_some, ↓then_normal, pval, rd_S, rd_C, put_S, chkd, bgot, AV.cells?, partA, eq_self, List.replicate_succ, List.replicate_zero, List.set_cons_zero, List.set_cons_succ, List.getElem?_cons_zero, List.getElem?_cons_succ, List.drop_zero, List.take_succ_cons, List.take_nil, Option.getD_some, map_c, map_n, List.length_cons, List.length_nil, Nat.reduceAdd, Nat.reduceSub, Nat.reduceLeDiff, Nat.reduceEqDiff, Nat.zero_add, List.cons_append, List.nil_append, if_true, if_false]
  refine CallK.of (s27 hL hV hs.l hs.v hs.w) ?_
  by_cases h0 : kE L (lists ws) = 0
  · simp (maxSteps := 4000000) -implicitDefEqProofs -dsimp (disch := omega) only [↓AW_skip, ↓AW_ops, ↓AW_seq, ↓AW_cond, ↓AW_block, ↓AOps_nil, ↓AOps_pu, on_some, extK_same, condB_f, ↓then_normal, pval, rd_S, rd_C, put_S, ↓AW_toLoop, eq_self, List.replicate_succ, List.replicate_zero, List.set_cons_zero, List.set_cons_succ, List.getElem?_cons_zero, List.getElem?_cons_succ, Option.getD_some, Nat.reduceSub, List.cons_append, List.nil_append, bin_neq, decide_false, not_true_eq_false, h0]
    refine LoopK.by 28 (fun i : Nat => i ≤ os.length ∧ ∀ o ∈ os.take i, 0 ≤ o ∧ o ≤ (ws.length : Int) - 1) (fun i => [(1, u), (2, .agg [x, y]), (6, I i)]) (fun _ => A) (fun i => os.length - i) 0 ⟨by omega, by simp⟩ rfl (by simp [Has, rd_s]) rfl ?_
    rintro i ⟨hi, he⟩
    by_cases hlt : i < os.length
    · obtain ⟨o, hz⟩ : ∃ z, os[i]? = some z := ⟨_, List.getElem?_eq_getElem hlt⟩
      have hlt' : (i : Int) < os.length := by omega
      simp (maxSteps := 4000000) -implicitDefEqProofs -dsimp (disch := omega) only [↓AW_skip, ↓AW_ops, ↓AW_seq, ↓AW_cond, ↓AW_block, ↓AOps_nil, ↓AOps_pu, ↓AOps_ld, ↓AOps_call, on_some, condB_t, ↓then_normal, pval, lval, rd_S, rd_C, put_S, chkd, isAdr, bgot, AV.cells?, partA, eq_self, mk, List.foldl_cons, List.foldl_nil, List.replicate_succ, List.replicate_zero, List.set_cons_zero, List.set_cons_succ, List.getElem?_cons_zero, List.getElem?_cons_succ, List.drop_zero, List.drop_succ_cons, List.take_succ_cons, List.take_nil, Option.getD_some, map_c, map_n, List.length_cons, List.length_nil, Nat.reduceAdd, Nat.reduceLeDiff, Nat.zero_add, bin_sub, bin_lss, w64, if_true, if_false, Bool.false_eq_true, decide_true, Go.Eng.e1, hlt', hu.len, hu.idx hlt, hu.ld0 hz 1 false (by decide), hV.ls.len]
      refine CallK.of (c_rw _ _ _ _) ?_
      by_cases h1 : 0 ≤ o ∧ o ≤ (ws.length : Int) - 1
      · simp (maxSteps := 4000000) -implicitDefEqProofs -dsimp (disch := omega) only [↓AW_skip, ↓AW_ops, ↓AW_cond, ↓AOps_nil, ↓AOps_pu, on_some, extK_same, condB_f, ↓then_normal, ↓inBlock_normal, pval, rd_S, rd_C, put_S, eq_self, mk, List.foldl_cons, List.foldl_nil, List.replicate_succ, List.replicate_zero, List.set_cons_zero, List.set_cons_succ, List.getElem?_cons_zero, List.getElem?_cons_succ, Option.getD_some, List.length_cons, List.length_nil, Nat.reduceAdd, Nat.zero_add, bin_add, w64, Bool.not_true, decide_true, true_and, and_true, h1]
        refine ⟨i + 1, ⟨hlt, fun o' ho => ?_⟩, by simp [Has, rd_s], by omega⟩
        rcases (take_mem hz).1 ho with ho | rfl
        · exact he o' ho
        · exact h1
      · simp (maxSteps := 4000000) -implicitDefEqProofs -dsimp (disch := omega) only [↓AW_ops, ↓AW_seq, ↓AW_cond, ↓AW_ret, ↓AOps_nil, ↓AOps_pu, on_some, extK_same, condB_t, ↓then_normal, ↓then_ret, ↓inBlock_ret, ↓Fin_ret, pval, rd_S, rd_C, put_S, resV, resL, mk, List.foldl_cons, List.foldl_nil, List.replicate_succ, List.replicate_zero, List.set_cons_zero, List.set_cons_succ, List.getElem?_cons_zero, List.getElem?_cons_succ, Option.getD_some, Bool.not_false, decide_false, h1]
        exact gc_same (by rw [if_pos h0, if_neg (fun hh => h1 (hh o (List.mem_of_getElem? hz)))])
    · have hlt' : ¬ ((i : Int) < os.length) := by omega
      rw [List.take_of_length_le (by omega)] at he
      simp (maxSteps := 4000000) -implicitDefEqProofs -dsimp (disch := omega) only [↓AW_ops, ↓AW_seq, ↓AW_cond, ↓AW_exit, ↓AW_ret, ↓AOps_nil, ↓AOps_pu, on_some, condB_f, ↓then_normal, ↓then_exit, ↓inBlock_exit, ↓Fin_ret, pval, rd_S, rd_C, put_S, resV, resL, eq_self, mk, List.foldl_cons, List.foldl_nil, List.replicate_succ, List.replicate_zero, List.set_cons_zero, List.set_cons_succ, List.getElem?_cons_zero, List.getElem?_cons_succ, Option.getD_some, bin_lss, if_true, decide_false, hlt', hu.len]
      exact gc_same (by rw [if_pos h0, if_pos he])
  · simp (maxSteps := 4000000) -implicitDefEqProofs -dsimp (disch := omega) only [↓AW_ops, ↓AW_seq, ↓AW_cond, ↓AW_ret, ↓AOps_nil, ↓AOps_pu, on_some, extK_same, condB_t, ↓then_normal, ↓then_ret, ↓Fin_ret, pval, rd_S, rd_C, put_S, resV, resL, List.replicate_succ, List.replicate_zero, List.set_cons_zero, List.set_cons_succ, List.getElem?_cons_zero, List.getElem?_cons_succ, Option.getD_some, Nat.reduceSub, List.cons_append, List.nil_append, bin_neq, if_false, decide_true, not_false_eq_true, h0]
    exact gc_same rfl
theorem s61 (hL : L1 A x L) (hV : LL A y ws) (hs : Sz L ws) {o : Int} {u : AV} (hu : L1 A u [o]) : ACalls Try.prog 61 [.agg [x, y], u] A (I (oE L (lists ws) o)) A := by
  have h := s61g hL hV hs hu (by simp)
  have hll : ((lists ws).length : Int) = ws.length := by simp
  unfold oE
  rw [hll]
  simpa using h
end
end Go.Proofs.Ytmblehbjedpjoaa

namespace Go.Proofs.Ytmblehbjedpjoaa
open Go Go.Eng
section
variable {L : List Int} {ws : List (AV × List Int)} {x y : AV} {A : AHeap}
theorem c_worth (hL : L1 A x L) (hV : LL A y ws) (h : KG L (lists ws)) {o : Nat} {w : AV × List Int} (ho : ws[o]? = some w) (p q : Rat) (hp : Pl (L.zip w.2) p) (hq : Pl (L.zip w.2) q) (hpq : p ≤ q) :
    ACalls Try.prog 66 [.agg [x, y], I o, R p, R q] A (R (upTo 0 (L.zip w.2) q - upTo 0 (L.zip w.2) p)) A := by
  refine acalls hmix Try.func66 (by kernel_rfl) t66 4 rfl (by decide) ?_
  have h6 := h.l6
  have hm := List.mem_of_getElem? ho
  have hmr := mem_lists hm
  have hx := hV.inn w hm
  have hol : o < ws.length := (List.getElem?_eq_some_iff.1 ho).1
  have hrl := h.rl _ hmr
  have hg := h.gd hmr
  have hlt0 := h.lenz_take hmr
  have hzl := h.zlen hmr
  dsimp only [m66]
  simp (maxSteps := 4000000) -implicitDefEqProofs -dsimp (disch := omega) only [↓AW_ops, ↓AW_seq, ↓AOps_nil, ↓AOps_pu, ↓AOps_call, on_some, ↓then_normal, pval, rd_S, rd_C, put_S, AV.cells?, List.replicate_succ, List.replicate_zero, List.set_cons_zero, List.set_cons_succ, List.getElem?_cons_zero, List.getElem?_cons_succ, Option.getD_some, map_c, map_n, Nat.reduceSub, List.cons_append, List.nil_append]
  refine CallK.of (s76 0 _) ?_
  simp (maxSteps := 4000000) -implicitDefEqProofs -dsimp (disch := omega) only [↓AW_ops, ↓AW_seq, ↓AW_block, ↓AOps_nil, ↓AOps_pu, on_some, extK_same, ↓then_normal, pval, rd_S, rd_C, put_S, ↓AW_toLoop, chkd, isAdr, bput, bgot, AV.cells?, splice, partA, eq_self, List.replicate_succ, List.replicate_zero, List.set_cons_zero, List.set_cons_succ, List.getElem?_cons_zero, List.getElem?_cons_succ, List.drop_zero, List.drop_succ_cons, List.drop_nil, List.take_zero, List.take_succ_cons, Option.getD_some, List.length_cons, List.length_nil, Nat.reduceAdd, Nat.reduceSub, Nat.reduceLeDiff, Nat.zero_add, List.cons_append, List.nil_append, List.append_nil, if_true, if_false, Bool.false_eq_true, ne_eq, not_true_eq_false, hL.len]
  refine LoopK.by 57 (fun z : Nat × Rat => z.1 ≤ L.length ∧ z.2 = upTo 0 ((L.zip w.2).take z.1) q - upTo 0 ((L.zip w.2).take z.1) p) (fun z => [(1, I o), (4, .agg [x, y]), (6, R p), (7, R q), (8, .agg [I 0, I 0]), (9, R z.2), (10, I (L.take z.1).sum), (17, x), (18, I L.length), (19, I z.1)]) (fun _ => A) (fun z => L.length - z.1) (0, ((0 : Int) : Rat)) ⟨by omega, by simp [upTo, Rat.sub_self]⟩ rfl (by simp [Has, rd_s]) rfl ?_
  rintro ⟨i, out⟩ ⟨hi, hout⟩
  simp only at hi hout
  by_cases hlt : i < L.length
  · obtain ⟨n, hz⟩ : ∃ z, L[i]? = some z := ⟨_, List.getElem?_eq_getElem hlt⟩
    have hlt' : (i : Int) < L.length := by omega
    have hlw : i < w.2.length := by omega
    obtain ⟨v, hv⟩ : ∃ v, w.2[i]? = some v := ⟨_, List.getElem?_eq_getElem hlw⟩
    have hzv := zip_at hz hv
    have hgt := good_take hg i
    have hn := h.ls n (List.mem_of_getElem? hz)
    have hvv := h.rv _ hmr v (List.mem_of_getElem? hv)
    have hvz : vz (n, v) = true := (vz_iff _).2 ⟨hn, hvv⟩
    have hlb := h.take i
    have hts := take_sum_succ' hz
    have hzp := zone_part hg hp hq hpq _ hgt (n, v) hvz _ _ rfl rfl
    have hup := upTo_take hzv p
    have huq := upTo_take hzv q
    rw [hlt0 i] at hzp hup huq
    have hpe := part_eq p q (((L.take i).sum : Int) : Rat) (((L.take i).sum + n : Int) : Rat) (v : Rat) hpq (Rat.intCast_le_intCast.2 (by omega))
    have hSb : Sm (((L.take i).sum : Int) : Rat) := Sm_int (by omega)
    have hSe : Sm (((L.take i).sum + n : Int) : Rat) := Sm_int (by omega)
    simp (maxSteps := 4000000) -implicitDefEqProofs -dsimp (disch := omega) only [↓AW_skip, ↓AW_ops, ↓AW_seq, ↓AW_cond, ↓AW_block, ↓AOps_nil, ↓AOps_pu, ↓AOps_ld, ↓AOps_call, on_some, condB_t, ↓then_normal, pval, lval, rd_S, put_S, chkd, bgot, partA, eq_self, mk, List.foldl_cons, List.foldl_nil, List.replicate_succ, List.replicate_zero, List.set_cons_zero, List.set_cons_succ, List.getElem?_cons_zero, List.getElem?_cons_succ, List.drop_zero, List.take_succ_cons, List.take_nil, Option.getD_some, map_c, map_n, List.length_cons, List.length_nil, Nat.reduceAdd, Nat.reduceLeDiff, Nat.reduceEqDiff, Nat.zero_add, bin_lss, if_true, if_false, Bool.false_eq_true, decide_true, Go.Eng.e1, hlt', hL.idx hlt, hL.ld0 hz 1 false (by decide)]
    refine CallK.of (s76 _ _) ?_
    simp (maxSteps := 4000000) -implicitDefEqProofs -dsimp (disch := omega) only [↓AOps_call, extK_same, rd_S, put_S, mk, List.foldl_cons, List.foldl_nil, List.replicate_succ, List.replicate_zero, List.set_cons_zero, List.set_cons_succ, List.getElem?_cons_zero, List.getElem?_cons_succ, Option.getD_some, map_c, map_n]
    refine CallK.of (s108 _ _ _ (hp.sm hg) hSb) ?_
    simp (maxSteps := 4000000) -implicitDefEqProofs -dsimp (disch := omega) only [↓AOps_pu, ↓AOps_call, on_some, extK_same, pval, rd_S, put_S, chkd, bgot, partA, eq_self, mk, List.foldl_cons, List.foldl_nil, List.replicate_succ, List.replicate_zero, List.set_cons_zero, List.set_cons_succ, List.getElem?_cons_zero, List.getElem?_cons_succ, List.drop_zero, List.take_succ_cons, List.take_nil, Option.getD_some, map_c, map_n, List.length_cons, List.length_nil, Nat.reduceAdd, Nat.reduceLeDiff, Nat.reduceEqDiff, Nat.zero_add, bin_add, w64, if_true, if_false]
    refine CallK.of (s76 _ _) ?_
    simp (maxSteps := 4000000) -implicitDefEqProofs -dsimp (disch := omega) only [↓AOps_call, extK_same, rd_S, put_S, mk, List.foldl_cons, List.foldl_nil, List.replicate_succ, List.replicate_zero, List.set_cons_zero, List.set_cons_succ, List.getElem?_cons_zero, List.getElem?_cons_succ, Option.getD_some, map_c, map_n]
    refine CallK.of (s113 _ _ _ (hq.sm hg) hSe) ?_
    simp (maxSteps := 4000000) -implicitDefEqProofs -dsimp (disch := omega) only [↓AW_ops, ↓AW_seq, ↓AOps_nil, ↓AOps_pu, ↓AOps_call, on_some, extK_same, ↓then_normal, pval, rd_S, rd_C, put_S, chkd, bput, bgot, AV.cells?, splice, partA, eq_self, mk, List.foldl_cons, List.foldl_nil, List.replicate_succ, List.replicate_zero, List.set_cons_zero, List.set_cons_succ, List.getElem?_cons_zero, List.getElem?_cons_succ, List.drop_zero, List.drop_succ_cons, List.drop_nil, List.take_zero, List.take_succ_cons, List.take_nil, Option.getD_some, map_c, map_n, List.length_cons, List.length_nil, Nat.reduceAdd, Nat.reduceLeDiff, Nat.reduceEqDiff, Nat.zero_add, List.nil_append, List.append_nil, if_true, if_false, ne_eq, not_true_eq_false]
    have hSlo : Sm (if (((L.take i).sum : Int) : Rat) < p then p else (((L.take i).sum : Int) : Rat)) := by
      split
      · exact hp.sm hg
      · exact hSb
    have hShi : Sm (if q < (((L.take i).sum + n : Int) : Rat) then q else (((L.take i).sum + n : Int) : Rat)) := by
      split
      · exact hq.sm hg
      · exact hSe
    generalize (if (((L.take i).sum : Int) : Rat) < p then p else (((L.take i).sum : Int) : Rat)) = lo at *
    generalize (if q < (((L.take i).sum + n : Int) : Rat) then q else (((L.take i).sum + n : Int) : Rat)) = hi' at *
    refine CallK.of (s65 lo hi' _ hSlo hShi) ?_
    by_cases hlh : lo < hi'
    · obtain ⟨_, f1, ⟨f2, f3⟩, f4⟩ := hzp hlh
      simp only at f2 f4
      rw [← hout] at f4
      have hneg := (sub_neg_iff lo hi').2 hlh
      simp (maxSteps := 4000000) -implicitDefEqProofs -dsimp (disch := omega) only [↓AW_ops, ↓AW_cond, ↓AOps_nil, ↓AOps_pu, ↓AOps_call, on_some, extK_same, condB_t, ↓then_normal, pval, rd_S, rd_C, put_S, chkd, bgot, partA, eq_self, mk, List.foldl_cons, List.foldl_nil, List.replicate_succ, List.replicate_zero, List.set_cons_zero, List.set_cons_succ, List.getElem?_cons_zero, List.getElem?_cons_succ, List.drop_zero, List.take_succ_cons, List.take_nil, Option.getD_some, map_c, map_n, List.length_cons, List.length_nil, Nat.reduceAdd, Nat.reduceLeDiff, Nat.reduceEqDiff, Nat.zero_add, bin_lss, if_true, if_false, decide_true, hneg]
      refine CallK.of (s95g _ _ _ f1) ?_
      simp (maxSteps := 4000000) -implicitDefEqProofs -dsimp (disch := omega) only [↓AOps_pu, ↓AOps_ld, ↓AOps_call, on_some, extK_same, pval, lval, rd_S, put_S, chkd, isAdr, bgot, AV.cells?, partA, eq_self, mk, List.foldl_cons, List.foldl_nil, List.replicate_succ, List.replicate_zero, List.set_cons_zero, List.set_cons_succ, List.getElem?_cons_zero, List.getElem?_cons_succ, List.drop_zero, List.drop_succ_cons, List.take_succ_cons, List.take_nil, Option.getD_some, map_c, map_n, List.length_cons, List.length_nil, Nat.reduceAdd, Nat.reduceLeDiff, Nat.zero_add, if_true, if_false, Bool.false_eq_true, Go.Eng.e1, hV.ls.idx hol, hV.ls.ld0 ho 1 false (by decide), e0, hx.idx hlw, hx.ld0 hv 1 false (by decide)]
      refine CallK.of (s109g _ _ _ f2 f3 (by omega)) ?_
      simp (maxSteps := 4000000) -implicitDefEqProofs -dsimp (disch := omega) only [↓AOps_call, extK_same, rd_S, put_S, mk, List.foldl_cons, List.foldl_nil, List.replicate_succ, List.replicate_zero, List.set_cons_zero, List.set_cons_succ, List.getElem?_cons_zero, List.getElem?_cons_succ, Option.getD_some, map_c, map_n]
      refine CallK.of (s75g _ _ _ f4) ?_
      simp (maxSteps := 4000000) -implicitDefEqProofs -dsimp (disch := omega) only [↓AW_ops, ↓AOps_nil, ↓AOps_pu, on_some, extK_same, ↓then_normal, ↓inBlock_normal, pval, rd_S, rd_C, put_S, chkd, bput, AV.cells?, splice, eq_self, mk, List.foldl_cons, List.foldl_nil, List.replicate_succ, List.replicate_zero, List.set_cons_zero, List.set_cons_succ, List.getElem?_cons_zero, List.getElem?_cons_succ, List.drop_succ_cons, List.drop_nil, List.take_zero, Option.getD_some, List.length_cons, List.length_nil, Nat.reduceAdd, Nat.reduceLeDiff, Nat.zero_add, List.nil_append, List.append_nil, bin_add, w64, if_true, if_false, true_and, ne_eq, not_true_eq_false]
      rw [if_pos hlh] at hpe
      refine ⟨(i + 1, out + (hi' - lo) * v), ⟨hlt, ?_⟩, by simp [Has, rd_s, hts], by simp only; omega⟩
      simp only
      rw [hup, huq, hpe, hout]
      grind
    · have hneg : ¬ (lo - hi').num < 0 := fun x => hlh ((sub_neg_iff lo hi').1 x)
      simp (maxSteps := 4000000) -implicitDefEqProofs -dsimp (disch := omega) only [↓AW_skip, ↓AW_ops, ↓AW_cond, ↓AOps_nil, ↓AOps_pu, on_some, extK_same, condB_f, ↓then_normal, ↓inBlock_normal, pval, rd_S, rd_C, put_S, eq_self, mk, List.foldl_cons, List.foldl_nil, List.replicate_succ, List.replicate_zero, List.set_cons_zero, List.set_cons_succ, List.getElem?_cons_zero, List.getElem?_cons_succ, Option.getD_some, List.length_cons, List.length_nil, Nat.reduceAdd, Nat.zero_add, bin_add, bin_lss, w64, decide_false, true_and, hneg]
      rw [if_neg hlh] at hpe
      refine ⟨(i + 1, out), ⟨hlt, ?_⟩, by simp [Has, rd_s, hts], by simp only; omega⟩
      simp only
      rw [hup, huq, hout]
      grind
  · have hlt' : ¬ ((i : Int) < L.length) := by omega
    simp (maxSteps := 4000000) -implicitDefEqProofs -dsimp (disch := omega) only [↓AW_ops, ↓AW_seq, ↓AW_cond, ↓AW_exit, ↓AW_ret, ↓AOps_nil, ↓AOps_pu, on_some, condB_f, ↓then_normal, ↓then_exit, ↓inBlock_exit, ↓Fin_ret, pval, rd_S, put_S, resV, resL, chkd, bput, bgot, AV.cells?, splice, partA, eq_self, mk, List.foldl_cons, List.foldl_nil, List.replicate_succ, List.replicate_zero, List.set_cons_zero, List.set_cons_succ, List.getElem?_cons_zero, List.getElem?_cons_succ, List.drop_zero, List.drop_succ_cons, List.drop_nil, List.take_zero, List.take_succ_cons, List.take_nil, Option.getD_some, List.length_cons, List.length_nil, Nat.reduceAdd, Nat.reduceLeDiff, Nat.reduceEqDiff, Nat.zero_add, List.nil_append, List.append_nil, bin_lss, if_true, if_false, decide_false, ne_eq, not_true_eq_false, hlt']
    rw [List.take_of_length_le (by omega)] at hout
    exact gc_same (by rw [hout])
end
def qr (r : Int × Int) : Rat := (r.1 : Rat) / (r.2 : Rat)
theorem isK_R {L : List Int} {V : List (List Int)} (h : KG L V) {r : Int × Int} (hk : isK L r) : AV.agg [I r.1, I r.2] = R (qr r) ∧ (qr r).num = r.1 ∧ ((qr r).den : Int) = r.2 ∧ ∀ row ∈ V, Pl (L.zip row) (qr r) := by
  obtain ⟨⟨⟨h1, h2⟩, h3⟩, h4, h5⟩ := hk
  have e := R_of (by omega) h3
  obtain ⟨e1, e2⟩ := R_inj e.symm
  refine ⟨e, e1, e2, fun row hr => ?_⟩
  unfold Pl
  rw [h.lenz hr]
  show (0 ≤ (qr r).num ∧ (qr r).num ≤ L.sum * ((qr r).den : Int)) ∧ ((qr r).den : Int) ≤ 1048576
  rw [show (qr r).num = r.1 from e1, show ((qr r).den : Int) = r.2 from e2]
  omega
section
variable {L : List Int} {ws : List (AV × List Int)} {x y : AV} {A : AHeap}
/-- What the answers are. -/
def wE (L : List Int) (V : List (List Int)) (o : Int) (r s : Int × Int) : Int := if oE L V o = 0 then (if isK L r ∧ isK L s ∧ ¬ qr s < qr r then 0 else 1) else oE L V o
def rowOf (V : List (List Int)) (o : Int) : List Int := (V[o.toNat]?).getD []
def fOf (L : List Int) (V : List (List Int)) (o : Int) : List (Int × Int) := L.zip (rowOf V o)
def wV (L : List Int) (V : List (List Int)) (o : Int) (r s : Int × Int) : AV := if wE L V o r s = 0 then R (upTo 0 (fOf L V o) (qr s) - upTo 0 (fOf L V o) (qr r)) else zeroR
theorem rowOf_at {o : Nat} {w : AV × List Int} (ho : ws[o]? = some w) : rowOf (lists ws) o = w.2 := by
  unfold rowOf
  simp [ho]
theorem s24 (hL : L1 A x L) (hV : LL A y ws) (hs : Sz L ws) (o : Int) (r s : Int × Int) (hr : W r.1) (hs' : W s.1) :
    ACalls Try.prog 24 [.agg [x, y], I o, .agg [I r.1, I r.2], .agg [I s.1, I s.2]] A (.tuple [wV L (lists ws) o r s, I (wE L (lists ws) o r s)]) A := by
  refine acalls hmix Try.func24 (by kernel_rfl) t24 4 rfl (by decide) ?_
  dsimp only [m24]
  simp (maxSteps := 4000000) -implicitDefEqProofs -dsimp (disch := omega) only [↓AW_ops, ↓AW_seq, ↓AOps_nil, ↓AOps_pu, ↓AOps_call, on_some, ↓then_normal, pval, rd_S, rd_C, put_S, chkd, bgot, AV.cells?, partA, eq_self, List.replicate_succ, List.replicate_zero, List.set_cons_zero, List.set_cons_succ, List.getElem?_cons_zero, List.getElem?_cons_succ, List.drop_zero, List.take_succ_cons, List.take_nil, Option.getD_some, map_c, map_n, List.length_cons, List.length_nil, Nat.reduceAdd, Nat.reduceSub, Nat.reduceLeDiff, Nat.reduceEqDiff, Nat.zero_add, List.cons_append, List.nil_append, if_true, if_false]
  refine CallK.of (s56 hL hV hs o) ?_
  by_cases h0 : oE L (lists ws) o = 0
  · obtain ⟨hg, k, w, rfl, hk⟩ := oE_row h0
    have hmr := mem_lists (List.mem_of_getElem? hk)
    simp (maxSteps := 4000000) -implicitDefEqProofs -dsimp (disch := omega) only [↓AW_skip, ↓AW_ops, ↓AW_seq, ↓AW_cond, ↓AOps_nil, ↓AOps_pu, ↓AOps_call, on_some, extK_same, condB_f, ↓then_normal, pval, rd_S, rd_C, put_S, chkd, bgot, partA, eq_self, List.replicate_succ, List.replicate_zero, List.set_cons_zero, List.set_cons_succ, List.getElem?_cons_zero, List.getElem?_cons_succ, List.drop_zero, List.take_succ_cons, List.take_nil, Option.getD_some, map_c, map_n, List.length_cons, List.length_nil, Nat.reduceAdd, Nat.reduceSub, Nat.reduceLeDiff, Nat.reduceEqDiff, Nat.zero_add, List.cons_append, List.nil_append, bin_neq, if_true, if_false, decide_false, not_true_eq_false, h0]
    refine CallK.of (c_isK hL hg r hr) ?_
    by_cases h1 : isK L r
    · simp (maxSteps := 4000000) -implicitDefEqProofs -dsimp (disch := omega) only [↓AOps_pu, ↓AOps_call, ↓AOps_guard, on_some, extK_same, guardB_ff, pval, rd_S, put_S, chkd, bgot, partA, eq_self, List.replicate_succ, List.replicate_zero, List.set_cons_zero, List.set_cons_succ, List.getElem?_cons_zero, List.getElem?_cons_succ, List.drop_zero, List.take_succ_cons, List.take_nil, Option.getD_some, map_c, map_n, List.length_cons, List.length_nil, Nat.reduceAdd, Nat.reduceSub, Nat.reduceLeDiff, Nat.reduceEqDiff, Nat.zero_add, List.cons_append, List.nil_append, if_true, if_false, Bool.not_true, decide_true, h1]
      refine CallK.of (c_isK hL hg s hs') ?_
      by_cases h2 : isK L s
      · obtain ⟨k1, _, _, p1⟩ := isK_R hg h1
        obtain ⟨k2, _, _, p2⟩ := isK_R hg h2
        have p1 := p1 _ hmr
        have p2 := p2 _ hmr
        rw [k1, k2]
        have hgd := hg.gd hmr
        simp (maxSteps := 4000000) -implicitDefEqProofs -dsimp (disch := omega) only [↓AOps_pu, ↓AOps_call, ↓AOps_guard, on_some, extK_same, guardB_ff, pval, rd_S, rd_C, put_S, chkd, bgot, partA, eq_self, List.replicate_succ, List.replicate_zero, List.set_cons_zero, List.set_cons_succ, List.getElem?_cons_zero, List.getElem?_cons_succ, List.drop_zero, List.take_succ_cons, List.take_nil, Option.getD_some, map_c, map_n, List.length_cons, List.length_nil, Nat.reduceAdd, Nat.reduceSub, Nat.reduceLeDiff, Nat.reduceEqDiff, Nat.zero_add, List.cons_append, List.nil_append, if_true, if_false, Bool.false_eq_true, Bool.not_true, decide_true, h2]
        refine CallK.of (s65 _ _ _ (p1.sm hgd) (p2.sm hgd)) ?_
        by_cases h3 : qr s < qr r
        · have h3' := (sub_pos_iff (qr r) (qr s)).2 h3
          simp (maxSteps := 4000000) -implicitDefEqProofs -dsimp (disch := omega) only [↓AW_ops, ↓AW_seq, ↓AW_cond, ↓AW_ret, ↓AOps_nil, ↓AOps_pu, ↓AOps_guard, on_some, extK_same, guardB_ff, condB_t, ↓then_normal, ↓then_ret, ↓Fin_ret, pval, rd_S, rd_C, put_S, resV, resL, chkd, bput, bgot, AV.cells?, splice, partA, fillA, eq_self, List.replicate_succ, List.replicate_zero, List.set_cons_zero, List.set_cons_succ, List.getElem?_cons_zero, List.getElem?_cons_succ, List.drop_zero, List.drop_succ_cons, List.drop_nil, List.take_zero, List.take_succ_cons, List.take_nil, Option.getD_some, Option.map_some, map_n, List.length_cons, List.length_nil, Nat.reduceAdd, Nat.reduceSub, Nat.reduceLeDiff, Nat.reduceEqDiff, Nat.zero_add, List.cons_append, List.nil_append, List.append_nil, bin_gtr, if_true, if_false, Bool.false_eq_true, decide_true, ne_eq, not_true_eq_false, h3']
          have he : wE L (lists ws) k r s = 1 := by rw [wE, if_pos h0, if_neg (by simp [h3])]
          exact gc_same (by rw [wV, he]; rfl)
        · have h3' : ¬ 0 < (qr r - qr s).num := fun hh => h3 ((sub_pos_iff _ _).1 hh)
          simp (maxSteps := 4000000) -implicitDefEqProofs -dsimp (disch := omega) only [↓AW_skip, ↓AW_ops, ↓AW_seq, ↓AW_cond, ↓AOps_nil, ↓AOps_pu, ↓AOps_call, ↓AOps_guard, on_some, extK_same, guardB_ff, condB_f, ↓then_normal, pval, rd_S, rd_C, put_S, chkd, bgot, partA, eq_self, List.replicate_succ, List.replicate_zero, List.set_cons_zero, List.set_cons_succ, List.getElem?_cons_zero, List.getElem?_cons_succ, List.drop_zero, List.take_succ_cons, List.take_nil, Option.getD_some, map_c, map_n, List.length_cons, List.length_nil, Nat.reduceAdd, Nat.reduceSub, Nat.reduceLeDiff, Nat.reduceEqDiff, Nat.zero_add, List.cons_append, List.nil_append, bin_gtr, if_true, if_false, Bool.false_eq_true, decide_false, h3']
          refine CallK.of (c_worth hL hV hg hk _ _ p1 p2 (Rat.not_lt.1 h3)) ?_
          simp (maxSteps := 4000000) -implicitDefEqProofs -dsimp (disch := omega) only [↓AW_ret, ↓AOps_nil, ↓AOps_pu, on_some, extK_same, ↓then_normal, ↓Fin_ret, pval, rd_S, rd_C, put_S, resV, resL, chkd, bput, bgot, AV.cells?, splice, partA, eq_self, List.replicate_succ, List.replicate_zero, List.set_cons_zero, List.set_cons_succ, List.getElem?_cons_zero, List.getElem?_cons_succ, List.drop_zero, List.drop_succ_cons, List.drop_nil, List.take_zero, List.take_succ_cons, List.take_nil, Option.getD_some, List.length_cons, List.length_nil, Nat.reduceAdd, Nat.reduceSub, Nat.reduceLeDiff, Nat.reduceEqDiff, Nat.zero_add, List.cons_append, List.nil_append, List.append_nil, if_true, if_false, ne_eq, not_true_eq_false]
          have he : wE L (lists ws) k r s = 0 := by rw [wE, if_pos h0, if_pos ⟨h1, h2, h3⟩]
          exact gc_same (by rw [wV, he, if_pos rfl, fOf, rowOf_at hk])
      · simp (maxSteps := 4000000) -implicitDefEqProofs -dsimp (disch := omega) only [↓AW_ops, ↓AW_seq, ↓AW_cond, ↓AW_ret, ↓AOps_nil, ↓AOps_pu, ↓AOps_guard, on_some, extK_same, guardB_tf, guardB_ff, skipS_some, condB_t, ↓then_normal, ↓then_ret, ↓Fin_ret, pval, rd_S, rd_C, put_S, resV, resL, chkd, bput, bgot, AV.cells?, splice, partA, fillA, eq_self, List.replicate_succ, List.replicate_zero, List.set_cons_zero, List.set_cons_succ, List.getElem?_cons_zero, List.getElem?_cons_succ, List.drop_zero, List.drop_succ_cons, List.drop_nil, List.take_zero, List.take_succ_cons, List.take_nil, Option.getD_some, Option.map_some, map_n, List.length_cons, List.length_nil, Nat.reduceAdd, Nat.reduceSub, Nat.reduceLeDiff, Nat.reduceEqDiff, Nat.zero_add, List.cons_append, List.nil_append, List.append_nil, if_true, if_false, Bool.false_eq_true, Bool.not_false, decide_false, ne_eq, not_true_eq_false, h2]
        have he : wE L (lists ws) k r s = 1 := by rw [wE, if_pos h0, if_neg (by simp [h2])]
        exact gc_same (by rw [wV, he]; rfl)
    · simp (maxSteps := 4000000) -implicitDefEqProofs -dsimp (disch := omega) only [↓AW_ops, ↓AW_seq, ↓AW_cond, ↓AW_ret, ↓AOps_nil, ↓AOps_pu, ↓AOps_guard, on_some, extK_same, guardB_tf, skipS_some, condB_t, ↓then_normal, ↓then_ret, ↓Fin_ret, pval, rd_S, rd_C, put_S, resV, resL, chkd, bput, bgot, AV.cells?, splice, partA, fillA, eq_self, List.replicate_succ, List.replicate_zero, List.set_cons_zero, List.set_cons_succ, List.getElem?_cons_zero, List.getElem?_cons_succ, List.drop_zero, List.drop_succ_cons, List.drop_nil, List.take_zero, List.take_succ_cons, List.take_nil, Option.getD_some, Option.map_some, map_n, List.length_cons, List.length_nil, Nat.reduceAdd, Nat.reduceSub, Nat.reduceLeDiff, Nat.reduceEqDiff, Nat.zero_add, List.cons_append, List.nil_append, List.append_nil, if_true, if_false, Bool.not_false, decide_false, ne_eq, not_true_eq_false, h1]
      have he : wE L (lists ws) k r s = 1 := by rw [wE, if_pos h0, if_neg (by simp [h1])]
      exact gc_same (by rw [wV, he]; rfl)
  · simp (maxSteps := 4000000) -implicitDefEqProofs -dsimp (disch := omega) only [↓AW_ops, ↓AW_seq, ↓AW_cond, ↓AW_ret, ↓AOps_nil, ↓AOps_pu, on_some, extK_same, condB_t, ↓then_normal, ↓then_ret, ↓Fin_ret, pval, rd_S, rd_C, put_S, resV, resL, chkd, bput, bgot, AV.cells?, splice, partA, fillA, eq_self, List.replicate_succ, List.replicate_zero, List.set_cons_zero, List.set_cons_succ, List.getElem?_cons_zero, List.getElem?_cons_succ, List.drop_zero, List.drop_succ_cons, List.drop_nil, List.take_zero, List.take_succ_cons, List.take_nil, Option.getD_some, Option.map_some, map_n, List.length_cons, List.length_nil, Nat.reduceAdd, Nat.reduceSub, Nat.reduceLeDiff, Nat.reduceEqDiff, Nat.zero_add, List.cons_append, List.nil_append, List.append_nil, bin_neq, if_true, if_false, decide_true, ne_eq, not_true_eq_false, not_false_eq_true, h0]
    have he : wE L (lists ws) o r s = oE L (lists ws) o := by rw [wE, if_neg h0]
    exact gc_same (by rw [wV, he, if_neg h0]; rfl)
end
end Go.Proofs.Ytmblehbjedpjoaa

namespace Go.Proofs.Ytmblehbjedpjoaa
open Go Go.Eng
section
variable {L : List Int} {ws : List (AV × List Int)} {x y : AV} {A : AHeap}
set_option maxHeartbeats 1000000 in
theorem c_mark (hL : L1 A x L) (hV : LL A y ws) (h : KG L (lists ws)) {o : Nat} {w : AV × List Int} (ho : ws[o]? = some w) (p q : Rat) (hp : Pl (L.zip w.2) p) (hw : Wh q) :
    ACalls Try.prog 58 [.agg [x, y], I o, R p, R q] A (.tuple [oR (plc (L.zip w.2) p q), B (plc (L.zip w.2) p q).isSome]) A := by
  refine acalls hmix Try.func58 (by kernel_rfl) t58 4 rfl (by decide) ?_
  have h6 := h.l6
  have hm := List.mem_of_getElem? ho
  have hmr := mem_lists hm
  have hx := hV.inn w hm
  have hol : o < ws.length := (List.getElem?_eq_some_iff.1 ho).1
  have hrl := h.rl _ hmr
  have hg := h.gd hmr
  have hltk := h.lenz_take hmr
  have hzl := h.zlen hmr
  have hlb := len_bound hg
  have hw0 := hw.h0
  have hw1 := hw.h1
  have hn0 := Rat.num_nonneg.2 hw0
  generalize hf : L.zip w.2 = f at *
  by_cases hz : q.num = 0
  · dsimp only [m58]
    simp (maxSteps := 4000000) -implicitDefEqProofs -dsimp (disch := omega) only [↓AW_ops, ↓AW_seq, ↓AW_cond, ↓AW_ret, ↓AOps_nil, ↓AOps_pu, on_some, condB_t, ↓then_normal, ↓then_ret, ↓Fin_ret, pval, rd_S, rd_C, put_S, resV, resL, chkd, isAdr, bput, bgot, AV.cells?, splice, partA, eq_self, List.replicate_succ, List.replicate_zero, List.set_cons_zero, List.set_cons_succ, List.getElem?_cons_zero, List.getElem?_cons_succ, List.drop_zero, List.drop_succ_cons, List.drop_nil, List.take_zero, List.take_succ_cons, List.take_nil, Option.getD_some, List.length_cons, List.length_nil, Nat.reduceAdd, Nat.reduceSub, Nat.reduceLeDiff, Nat.reduceEqDiff, Nat.zero_add, List.cons_append, List.nil_append, List.append_nil, bin_eql, if_true, if_false, Bool.false_eq_true, decide_true, ne_eq, not_true_eq_false, hz]
    exact gc_same (by simp [plc, hz, oR])
  · have hwp : 0 < q := num_pos_iff q |>.1 (by omega)
    dsimp only [m58]
    simp (maxSteps := 4000000) -implicitDefEqProofs -dsimp (disch := omega) only [↓AW_skip, ↓AW_ops, ↓AW_seq, ↓AW_cond, ↓AW_block, ↓AOps_nil, ↓AOps_pu, on_some, condB_f, ↓then_normal, pval, rd_S, rd_C, put_S, ↓AW_toLoop, chkd, isAdr, bgot, AV.cells?, partA, eq_self, List.replicate_succ, List.replicate_zero, List.set_cons_zero, List.set_cons_succ, List.getElem?_cons_zero, List.getElem?_cons_succ, List.drop_zero, List.take_zero, List.take_succ_cons, Option.getD_some, List.length_cons, List.length_nil, Nat.reduceAdd, Nat.reduceSub, Nat.reduceLeDiff, Nat.zero_add, List.cons_append, List.nil_append, bin_eql, if_true, if_false, Bool.false_eq_true, decide_false, hz, hL.len]
    have hbp := upTo_bounds hg 0 p
    have hpl0 := hp.le
    have hSp := hp.sm hg
    have hpl : plc f p q = rz 0 0 f (upTo 0 f p + q) := by
      unfold plc
      rw [if_neg hz, rch_units _ f 0 0 hg.2 (by have : ((0 : Int) : Rat) = 0 := rfl; grind)]
    rw [hpl]
    obtain ⟨D, hD, hDpp, hDp, hDw⟩ := hw.dv hp
    have hDp := hDp f
    have hDx := hDp.add hDw
    have hxp : upTo 0 f p < upTo 0 f p + q := by grind
    have hx1 : upTo 0 f p + q ≤ ((4800 : Int) : Rat) := by
      have : ((4800 : Int) : Rat) = ((2400 : Int) : Rat) + ((2400 : Int) : Rat) := by rw [← Rat.intCast_add]; rfl
      grind
    have hwx : q = upTo 0 f p + q - upTo 0 f p := by grind
    generalize upTo 0 f p + q = X at *
    have hx0 : 0 < X := by grind
    refine LoopK.by 76 (fun y : Nat × Rat => y.1 ≤ L.length ∧ y.2 = X - upTo 0 f (if (((L.take y.1).sum : Int) : Rat) < p then p else (((L.take y.1).sum : Int) : Rat)) ∧ ((tot (f.take y.1) : Int) : Rat) < X ∧ rz 0 0 f X = rz ((L.take y.1).sum) (tot (f.take y.1)) (f.drop y.1) X)
      (fun z => [(1, I o), (4, .agg [x, y]), (6, R p), (7, R z.2), (8, .agg [I 0, I 0]), (10, I (L.take z.1).sum), (21, x), (22, I L.length), (23, I z.1)]) (fun _ => A) (fun y => L.length - y.1) (0, q) ⟨by simp, ?_, by simpa [tot, sumZ] using hx0, by simp [tot, sumZ]⟩ rfl (by simp [Has, rd_s]) rfl ?_
    · have h0 : ∀ b : Rat, b = 0 → q = X - upTo 0 f (if b < p then p else b) := by
        rintro b rfl
        by_cases h : 0 < p
        · rw [if_pos h]; exact hwx
        · rw [if_neg h]
          have : p = 0 := by grind
          rw [this] at hwx; exact hwx
      exact h0 _ (by simp)
    rintro ⟨i, left⟩ ⟨hi, hlf, hax, hrz⟩
    simp only at hi hlf hax hrz
    by_cases hlt : i < L.length
    · obtain ⟨n, hz⟩ : ∃ z, L[i]? = some z := ⟨_, List.getElem?_eq_getElem hlt⟩
      have hlt' : (i : Int) < L.length := by omega
      have hlw : i < w.2.length := by omega
      obtain ⟨v, hv⟩ : ∃ v, w.2[i]? = some v := ⟨_, List.getElem?_eq_getElem hlw⟩
      have hzv := zip_at hz hv
      rw [hf] at hzv
      have hgt := good_take hg i
      have hgt' := good_take hg (i + 1)
      have hvz := all_get hg.2 hzv
      have hz' := (vz_iff _).1 hvz
      simp only at hz'
      have hlbt := h.take i
      have hlbt' := h.take (i + 1)
      have hlt2 := take_sum_succ' hz
      have htt := tot_take hzv
      simp only at htt
      have hifl : i < f.length := by omega
      have hdr : f.drop i = (n, v) :: f.drop (i + 1) := by
        have := (List.getElem?_eq_some_iff.1 hzv).2
        rw [← this]; exact List.drop_eq_getElem_cons hifl
      rw [hdr, rz] at hrz
      simp only at hrz
      have hbe : (((L.take i).sum : Int) : Rat) < (((L.take i).sum + n : Int) : Rat) := Rat.intCast_lt_intCast.2 (by omega)
      have hci : ∀ {x : Rat}, (((L.take i).sum : Int) : Rat) ≤ x → x ≤ (((L.take i).sum + n : Int) : Rat) → upTo 0 f x = ((tot (f.take i) : Int) : Rat) + (x - (((L.take i).sum : Int) : Rat)) * (v : Rat) := by
        intro x a b
        have := cum_in hg hzv (x := x) (by rw [hltk]; exact a) (by rw [hltk]; exact b)
        rw [hltk] at this
        exact this
      have hce := hci (Rat.le_of_lt hbe) Rat.le_refl
      have hcev : upTo 0 f (((L.take i).sum + n : Int) : Rat) = ((tot (f.take i) + n * v : Int) : Rat) := by
        rw [hce]
        simp only [Rat.intCast_add, Rat.intCast_mul]
        grind
      have hSb : Sm (((L.take i).sum : Int) : Rat) := Sm_int (by omega)
      have hSe : Sm (((L.take i).sum + n : Int) : Rat) := Sm_int (by omega)
      have hend : (((L.take i).sum + n : Int) : Rat) ≤ ((120 : Int) : Rat) := Rat.intCast_le_intCast.2 (by omega)
      have hb0 := cast_nonneg hlbt.1
      simp (maxSteps := 4000000) -implicitDefEqProofs -dsimp (disch := omega) only [↓AW_skip, ↓AW_ops, ↓AW_seq, ↓AW_cond, ↓AW_block, ↓AOps_nil, ↓AOps_pu, ↓AOps_ld, ↓AOps_call, on_some, condB_t, ↓then_normal, pval, lval, rd_S, put_S, chkd, bgot, partA, eq_self, mk, List.foldl_cons, List.foldl_nil, List.replicate_succ, List.replicate_zero, List.set_cons_zero, List.set_cons_succ, List.getElem?_cons_zero, List.getElem?_cons_succ, List.drop_zero, List.take_succ_cons, List.take_nil, Option.getD_some, map_c, map_n, List.length_cons, List.length_nil, Nat.reduceAdd, Nat.reduceLeDiff, Nat.reduceEqDiff, Nat.zero_add, bin_lss, if_true, if_false, Bool.false_eq_true, decide_true, Go.Eng.e1, hlt', hL.idx hlt, hL.ld0 hz 1 false (by decide)]
      refine CallK.of (s76 _ _) ?_
      simp (maxSteps := 4000000) -implicitDefEqProofs -dsimp (disch := omega) only [↓AOps_call, extK_same, rd_S, put_S, mk, List.foldl_cons, List.foldl_nil, List.replicate_succ, List.replicate_zero, List.set_cons_zero, List.set_cons_succ, List.getElem?_cons_zero, List.getElem?_cons_succ, Option.getD_some, map_c, map_n]
      refine CallK.of (s108 _ _ _ hSp hSb) ?_
      simp (maxSteps := 4000000) -implicitDefEqProofs -dsimp (disch := omega) only [↓AOps_pu, ↓AOps_call, on_some, extK_same, pval, rd_S, put_S, mk, List.foldl_cons, List.foldl_nil, List.replicate_succ, List.replicate_zero, List.set_cons_zero, List.set_cons_succ, List.getElem?_cons_zero, List.getElem?_cons_succ, Option.getD_some, map_c, map_n, bin_add, w64]
      refine CallK.of (s76 _ _) ?_
      simp (maxSteps := 4000000) -implicitDefEqProofs -dsimp (disch := omega) only [↓AW_ops, ↓AW_seq, ↓AOps_nil, ↓AOps_pu, ↓AOps_call, on_some, extK_same, ↓then_normal, pval, rd_S, rd_C, put_S, chkd, bput, bgot, AV.cells?, splice, partA, eq_self, mk, List.foldl_cons, List.foldl_nil, List.replicate_succ, List.replicate_zero, List.set_cons_zero, List.set_cons_succ, List.getElem?_cons_zero, List.getElem?_cons_succ, List.drop_zero, List.drop_succ_cons, List.drop_nil, List.take_zero, List.take_succ_cons, List.take_nil, Option.getD_some, map_c, map_n, List.length_cons, List.length_nil, Nat.reduceAdd, Nat.reduceLeDiff, Nat.reduceEqDiff, Nat.zero_add, List.nil_append, List.append_nil, bin_add, w64, if_true, if_false, ne_eq, not_true_eq_false]
      have hlo : (((L.take i).sum : Int) : Rat) ≤ (if (((L.take i).sum : Int) : Rat) < p then p else (((L.take i).sum : Int) : Rat)) := by split <;> grind
      have hSlo : Sm (if (((L.take i).sum : Int) : Rat) < p then p else (((L.take i).sum : Int) : Rat)) := by split <;> assumption
      have hDlo : Dv p.den (if (((L.take i).sum : Int) : Rat) < p then p else (((L.take i).sum : Int) : Rat)) := by
        split
        · exact Dv_self p
        · exact Dv_int _ _
      have hplo : p ≤ (if (((L.take i).sum : Int) : Rat) < p then p else (((L.take i).sum : Int) : Rat)) := by split <;> grind
      have hor : (if (((L.take i).sum : Int) : Rat) < p then p else (((L.take i).sum : Int) : Rat)) = p ∨ (if (((L.take i).sum : Int) : Rat) < p then p else (((L.take i).sum : Int) : Rat)) = (((L.take i).sum : Int) : Rat) := by split <;> simp
      generalize hlod : (if (((L.take i).sum : Int) : Rat) < p then p else (((L.take i).sum : Int) : Rat)) = lo at *
      refine CallK.of (s65 lo _ _ hSlo hSe) ?_
      by_cases h1 : lo < (((L.take i).sum + n : Int) : Rat)
      · have hn1 : ¬ 0 ≤ (lo - (((L.take i).sum + n : Int) : Rat)).num := by have := (sub_neg_iff lo _).2 h1; omega
        have hclo := hci hlo (Rat.le_of_lt h1)
        have hDclo : Dv D (upTo 0 f lo) := by
          rcases hor with h | h
          · rw [h]; exact hDp
          · rw [hclo, h]
            have : (((L.take i).sum : Int) : Rat) - (((L.take i).sum : Int) : Rat) = 0 := by grind
            rw [this, Rat.zero_mul, Rat.add_zero]
            exact Dv_int _ _
        have hbc := upTo_bounds hg 0 lo
        have hmono := upTo_mono (Rat.le_of_lt h1) f 0 hg.2
        have hbce := upTo_bounds hg 0 (((L.take i).sum + n : Int) : Rat)
        have hall : ((((L.take i).sum + n : Int) : Rat) - lo) * (v : Rat) = upTo 0 f (((L.take i).sum + n : Int) : Rat) - upTo 0 f lo := by
          rw [hce, hclo]; grind
        have hDd := (Dv_int p.den ((L.take i).sum + n)).sub hDlo
        have hd0 : 0 ≤ (((L.take i).sum + n : Int) : Rat) - lo := by grind
        have hd1 : (((L.take i).sum + n : Int) : Rat) - lo ≤ ((120 : Int) : Rat) := by grind
        have hSd : Sm ((((L.take i).sum + n : Int) : Rat) - lo) := Sm_of (M := 120) (den_pos p) hp.2 (by omega) hDd (int_neg_le_zero (by omega) hd0) hd1
        have hall0 : 0 ≤ ((((L.take i).sum + n : Int) : Rat) - lo) * (v : Rat) := by rw [hall]; grind
        have hall1 : ((((L.take i).sum + n : Int) : Rat) - lo) * (v : Rat) ≤ ((2400 : Int) : Rat) := by rw [hall]; grind
        have hpd := hp.2
        have nall := num_le (M := 2400) (den_pos p) (hDd.mul v) (int_neg_le_zero (by omega) hall0) hall1
        have hDl : Dv D left := by rw [hlf]; exact hDx.sub hDclo
        have hl0 : 0 < left := by
          rw [hlf]
          rcases hor with h | h
          · rw [h]; grind
          · rw [hclo, h]
            have : (((L.take i).sum : Int) : Rat) - (((L.take i).sum : Int) : Rat) = 0 := by grind
            rw [this, Rat.zero_mul, Rat.add_zero]
            grind
        have hl1 : left ≤ ((4800 : Int) : Rat) := by rw [hlf]; grind
        have nl := num_le (M := 4800) hD.1 hDl (int_neg_le_zero (by omega) (Rat.le_of_lt hl0)) hl1
        have hfal : Fit (((((L.take i).sum + n : Int) : Rat) - lo) * (v : Rat)) left := Fit_of (2400 * 1048576) (4800 * 104857600) 1048576 104857600 (by omega) (by omega) (by omega) (by omega) (by decide) (by decide)
        have hfla : Fit left (((((L.take i).sum + n : Int) : Rat) - lo) * (v : Rat)) := Fit_of (4800 * 104857600) (2400 * 1048576) 104857600 1048576 (by omega) (by omega) (by omega) (by omega) (by decide) (by decide)
        simp (maxSteps := 4000000) -implicitDefEqProofs -dsimp (disch := omega) only [↓AW_skip, ↓AW_ops, ↓AW_seq, ↓AW_cond, ↓AOps_nil, ↓AOps_pu, ↓AOps_call, on_some, extK_same, condB_f, ↓then_normal, pval, rd_S, rd_C, put_S, chkd, bgot, partA, eq_self, mk, List.foldl_cons, List.foldl_nil, List.replicate_succ, List.replicate_zero, List.set_cons_zero, List.set_cons_succ, List.getElem?_cons_zero, List.getElem?_cons_succ, List.drop_zero, List.take_succ_cons, List.take_nil, Option.getD_some, map_c, map_n, List.length_cons, List.length_nil, Nat.reduceAdd, Nat.reduceLeDiff, Nat.reduceEqDiff, Nat.zero_add, bin_geq, if_true, if_false, decide_false, hn1]
        refine CallK.of (s95g _ _ _ (hSe.fit hSlo)) ?_
        simp (maxSteps := 4000000) -implicitDefEqProofs -dsimp (disch := omega) only [↓AOps_pu, ↓AOps_ld, ↓AOps_call, on_some, extK_same, pval, lval, rd_S, put_S, chkd, isAdr, bgot, AV.cells?, partA, eq_self, mk, List.foldl_cons, List.foldl_nil, List.replicate_succ, List.replicate_zero, List.set_cons_zero, List.set_cons_succ, List.getElem?_cons_zero, List.getElem?_cons_succ, List.drop_zero, List.drop_succ_cons, List.take_succ_cons, List.take_nil, Option.getD_some, map_c, map_n, List.length_cons, List.length_nil, Nat.reduceAdd, Nat.reduceLeDiff, Nat.zero_add, if_true, if_false, Bool.false_eq_true, Go.Eng.e1, hV.ls.idx hol, hV.ls.ld0 ho 1 false (by decide), e0, hx.idx hlw, hx.ld0 hv 1 false (by decide)]
        refine CallK.of (s109 _ _ _ hSd (by omega)) ?_
        simp (maxSteps := 4000000) -implicitDefEqProofs -dsimp (disch := omega) only [↓AW_ops, ↓AW_seq, ↓AOps_nil, ↓AOps_pu, ↓AOps_call, on_some, extK_same, ↓then_normal, pval, rd_S, rd_C, put_S, chkd, bput, bgot, AV.cells?, splice, partA, eq_self, mk, List.foldl_cons, List.foldl_nil, List.replicate_succ, List.replicate_zero, List.set_cons_zero, List.set_cons_succ, List.getElem?_cons_zero, List.getElem?_cons_succ, List.drop_zero, List.drop_succ_cons, List.drop_nil, List.take_zero, List.take_succ_cons, List.take_nil, Option.getD_some, map_c, map_n, List.length_cons, List.length_nil, Nat.reduceAdd, Nat.reduceLeDiff, Nat.reduceEqDiff, Nat.zero_add, List.nil_append, List.append_nil, if_true, if_false, ne_eq, not_true_eq_false]
        refine CallK.of (s65g _ _ _ hfal) ?_
        by_cases h2 : ((((L.take i).sum + n : Int) : Rat) - lo) * (v : Rat) < left
        · have hn2 : ¬ 0 ≤ (((((L.take i).sum + n : Int) : Rat) - lo) * (v : Rat) - left).num := by have := (sub_neg_iff _ _).2 h2; omega
          simp (maxSteps := 4000000) -implicitDefEqProofs -dsimp (disch := omega) only [↓AW_skip, ↓AW_ops, ↓AW_cond, ↓AOps_nil, ↓AOps_pu, ↓AOps_call, on_some, extK_same, condB_f, ↓then_normal, pval, rd_S, rd_C, put_S, chkd, bgot, partA, eq_self, mk, List.foldl_cons, List.foldl_nil, List.replicate_succ, List.replicate_zero, List.set_cons_zero, List.set_cons_succ, List.getElem?_cons_zero, List.getElem?_cons_succ, List.drop_zero, List.take_succ_cons, List.take_nil, Option.getD_some, map_c, map_n, List.length_cons, List.length_nil, Nat.reduceAdd, Nat.reduceLeDiff, Nat.reduceEqDiff, Nat.zero_add, bin_geq, if_true, if_false, decide_false, hn2]
          refine CallK.of (s95g _ _ _ hfla) ?_
          simp (maxSteps := 4000000) -implicitDefEqProofs -dsimp (disch := omega) only [↓AW_ops, ↓AOps_nil, ↓AOps_pu, on_some, extK_same, ↓then_normal, ↓inBlock_normal, pval, rd_S, rd_C, put_S, chkd, bput, AV.cells?, splice, eq_self, mk, List.foldl_cons, List.foldl_nil, List.replicate_succ, List.replicate_zero, List.set_cons_zero, List.set_cons_succ, List.getElem?_cons_zero, List.getElem?_cons_succ, List.drop_succ_cons, List.drop_nil, List.take_zero, Option.getD_some, List.length_cons, List.length_nil, Nat.reduceAdd, Nat.reduceLeDiff, Nat.zero_add, List.nil_append, List.append_nil, bin_add, w64, if_true, if_false, true_and, ne_eq, not_true_eq_false]
          have hnx : ¬ X ≤ ((tot (f.take i) + n * v : Int) : Rat) := by
            rw [← hcev]
            exact Rat.not_le.2 (by rw [hall, hlf] at h2; grind)
          rw [if_neg hnx] at hrz
          refine ⟨(i + 1, left - ((((L.take i).sum + n : Int) : Rat) - lo) * (v : Rat)), ⟨hlt, ?_, by rw [htt]; exact Rat.not_le.1 hnx, by rw [hrz, hlt2, htt]⟩, by simp [Has, rd_s, hlt2], by simp only; omega⟩
          simp only
          rw [hlt2, if_neg (Rat.not_lt.2 (by grind)), hall, hlf]
          grind
        · have hn2 : 0 ≤ (((((L.take i).sum + n : Int) : Rat) - lo) * (v : Rat) - left).num := by
            have : ¬ (((((L.take i).sum + n : Int) : Rat) - lo) * (v : Rat) - left).num < 0 := fun h => h2 ((sub_neg_iff _ _).1 h)
            omega
          have hxle : X ≤ ((tot (f.take i) + n * v : Int) : Rat) := by
            rw [← hcev]
            have h3 := Rat.not_lt.1 h2
            rw [hall, hlf] at h3; grind
          rw [if_pos hxle] at hrz
          have hvp : 1 ≤ v := by
            by_cases h0 : v = 0
            · rw [h0] at h2
              exact absurd (show ((((L.take i).sum + n : Int) : Rat) - lo) * ((0 : Int) : Rat) < left by rw [int0, Rat.mul_zero]; exact hl0) h2
            · omega
          have hle20 : left ≤ ((20 * v : Int) : Rat) := by
            have h3 := Rat.not_lt.1 h2
            have h4 : (((L.take i).sum + n : Int) : Rat) - lo ≤ ((20 : Int) : Rat) := by
              have : ((n : Int) : Rat) ≤ ((20 : Int) : Rat) := Rat.intCast_le_intCast.2 hz'.1.2
              rw [Rat.intCast_add]; grind
            have h5 := Rat.mul_le_mul_of_nonneg_right h4 (cast_nonneg hz'.2.1)
            rw [Rat.intCast_mul]
            exact Rat.le_trans h3 h5
          have hdn := div_numD hD.1 hD.2 ⟨hvp, hz'.2.2⟩ hDl (Rat.le_of_lt hl0) hle20
          simp (maxSteps := 4000000) -implicitDefEqProofs -dsimp (disch := omega) only [↓AW_ops, ↓AW_seq, ↓AW_cond, ↓AOps_nil, ↓AOps_pu, ↓AOps_ld, ↓AOps_call, on_some, extK_same, condB_t, ↓then_normal, pval, lval, rd_S, rd_C, put_S, chkd, isAdr, bgot, AV.cells?, partA, eq_self, mk, List.foldl_cons, List.foldl_nil, List.replicate_succ, List.replicate_zero, List.set_cons_zero, List.set_cons_succ, List.getElem?_cons_zero, List.getElem?_cons_succ, List.drop_zero, List.drop_succ_cons, List.take_succ_cons, List.take_nil, Option.getD_some, map_c, map_n, List.length_cons, List.length_nil, Nat.reduceAdd, Nat.reduceLeDiff, Nat.reduceEqDiff, Nat.zero_add, bin_geq, if_true, if_false, Bool.false_eq_true, decide_true, Go.Eng.e1, hn2, hV.ls.idx hol, hV.ls.ld0 ho 1 false (by decide), e0, hx.idx hlw, hx.ld0 hv 1 false (by decide)]
          refine CallK.of (c_Div _ v _ (by omega) (by omega) ⟨by omega, by omega⟩) ?_
          simp (maxSteps := 4000000) -implicitDefEqProofs -dsimp (disch := omega) only [↓AOps_call, extK_same, rd_S, put_S, mk, List.foldl_cons, List.foldl_nil, List.replicate_succ, List.replicate_zero, List.set_cons_zero, List.set_cons_succ, List.getElem?_cons_zero, List.getElem?_cons_succ, Option.getD_some, map_c, map_n]
          have hlon : lo.num.natAbs ≤ 120 * 1048576 ∧ lo.den ≤ 1048576 := by
            have := num_le (M := 120) (den_pos p) hDlo (int_neg_le_zero (by omega) (by grind)) (by grind)
            omega
          refine CallK.of (s75g _ _ _ (Fit_of (120 * 1048576) (20 * 104857600 * 20) 1048576 (104857600 * 20) hlon.1 hlon.2 hdn.1 hdn.2 (by decide) (by decide))) ?_
          simp (maxSteps := 4000000) -implicitDefEqProofs -dsimp (disch := omega) only [↓AW_ret, ↓AOps_nil, ↓AOps_pu, on_some, extK_same, ↓then_normal, ↓then_ret, ↓inBlock_ret, ↓Fin_ret, pval, rd_S, rd_C, put_S, resV, resL, chkd, bput, bgot, AV.cells?, splice, partA, eq_self, mk, List.foldl_cons, List.foldl_nil, List.replicate_succ, List.replicate_zero, List.set_cons_zero, List.set_cons_succ, List.getElem?_cons_zero, List.getElem?_cons_succ, List.drop_zero, List.drop_succ_cons, List.drop_nil, List.take_zero, List.take_succ_cons, List.take_nil, Option.getD_some, List.length_cons, List.length_nil, Nat.reduceAdd, Nat.reduceLeDiff, Nat.reduceEqDiff, Nat.zero_add, List.nil_append, List.append_nil, if_true, if_false, ne_eq, not_true_eq_false]
          refine gc_same ?_
          have heq : (((L.take i).sum : Int) : Rat) + (X - ((tot (f.take i) : Int) : Rat)) / (v : Rat) = lo + left / (v : Rat) := by
            have hne := cast_ne (show v ≠ 0 by omega)
            rw [hlf, hclo]
            generalize (v : Rat) = vv at *
            generalize (((L.take i).sum : Int) : Rat) = bb at *
            generalize ((tot (f.take i) : Int) : Rat) = aa at *
            grind
          rw [hrz, heq]
          rfl
      · have hn1 : 0 ≤ (lo - (((L.take i).sum + n : Int) : Rat)).num := by
          have : ¬ (lo - (((L.take i).sum + n : Int) : Rat)).num < 0 := fun h => h1 ((sub_neg_iff _ _).1 h)
          omega
        have h1' := Rat.not_lt.1 h1
        have hlop : lo = p := by
          rcases hor with h | h
          · exact h
          · rw [h] at h1'; exact absurd hbe (Rat.not_lt.2 h1')
        subst hlop
        simp (maxSteps := 4000000) -implicitDefEqProofs -dsimp (disch := omega) only [↓AW_ops, ↓AW_seq, ↓AW_cond, ↓AW_exit, ↓AW_ret, ↓AOps_nil, ↓AOps_pu, on_some, extK_same, condB_t, ↓then_normal, ↓then_exit, ↓inBlock_exit, ↓Fin_ret, pval, rd_S, rd_C, put_S, resV, resL, chkd, bput, bgot, AV.cells?, splice, partA, fillA, eq_self, mk, List.foldl_cons, List.foldl_nil, List.replicate_succ, List.replicate_zero, List.set_cons_zero, List.set_cons_succ, List.getElem?_cons_zero, List.getElem?_cons_succ, List.drop_zero, List.drop_succ_cons, List.drop_nil, List.take_zero, List.take_succ_cons, List.take_nil, Option.getD_some, Option.map_some, map_n, List.length_cons, List.length_nil, Nat.reduceAdd, Nat.reduceLeDiff, Nat.reduceEqDiff, Nat.zero_add, List.nil_append, List.append_nil, bin_add, bin_geq, w64, if_true, if_false, decide_true, true_and, reduceCtorEq, ne_eq, not_true_eq_false, hn1]
        have hnx : ¬ X ≤ ((tot (f.take i) + n * v : Int) : Rat) := by
          rw [← hcev]
          have := upTo_mono h1' f 0 hg.2
          exact Rat.not_le.2 (by grind)
        rw [if_neg hnx] at hrz
        refine ⟨(i + 1, left), ⟨hlt, ?_, by rw [htt]; exact Rat.not_le.1 hnx, by rw [hrz, hlt2, htt]⟩, by simp [Has, rd_s, hlt2], by simp only; omega⟩
        simp only
        rw [hlt2, hlf]
        congr 2
        split <;> grind
    · have hlt' : ¬ ((i : Int) < L.length) := by omega
      rw [List.drop_of_length_le (by omega)] at hrz
      simp (maxSteps := 4000000) -implicitDefEqProofs -dsimp (disch := omega) only [↓AW_ops, ↓AW_seq, ↓AW_cond, ↓AW_exit, ↓AW_ret, ↓AOps_nil, ↓AOps_pu, on_some, condB_f, ↓then_normal, ↓then_exit, ↓inBlock_exit, ↓Fin_ret, pval, rd_S, rd_C, put_S, resV, resL, chkd, bput, bgot, AV.cells?, splice, partA, fillA, eq_self, mk, List.foldl_cons, List.foldl_nil, List.replicate_succ, List.replicate_zero, List.set_cons_zero, List.set_cons_succ, List.getElem?_cons_zero, List.getElem?_cons_succ, List.drop_zero, List.drop_succ_cons, List.drop_nil, List.take_zero, List.take_succ_cons, List.take_nil, Option.getD_some, Option.map_some, map_n, List.length_cons, List.length_nil, Nat.reduceAdd, Nat.reduceLeDiff, Nat.reduceEqDiff, Nat.zero_add, List.nil_append, List.append_nil, bin_lss, if_true, if_false, decide_false, ne_eq, not_true_eq_false, hlt']
      exact gc_same (by rw [hrz]; rfl)
end
end Go.Proofs.Ytmblehbjedpjoaa

