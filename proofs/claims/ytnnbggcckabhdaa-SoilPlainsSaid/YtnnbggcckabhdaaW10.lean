/- Soil: fractions with a common denominator; what lies before a place, and between two. No conditions. -/
import Derived.Test.YtnnbggcckabhdaaW9
namespace Go.Proofs.Ytnnbggcckabhdaa
open Go Go.Eng

/-- The fraction times 'D' is a whole number. -/
def Dv (D : Int) (q : Rat) : Prop := ∃ k : Int, q * (D : Rat) = (k : Rat)

theorem Dv_self (q : Rat) : Dv q.den q := by
  refine ⟨q.num, ?_⟩
  have h := R_self q
  have h3 := cast_ne (show ((q.den : Int)) ≠ 0 by have := den_pos q; omega)
  generalize ((q.num : Int) : Rat) = n at *
  generalize ((q.den : Int) : Rat) = d at *
  grind
theorem Dv_int (D n : Int) : Dv D (n : Rat) := ⟨n * D, by rw [Rat.intCast_mul]⟩
theorem Dv.add {D : Int} {p q : Rat} (hp : Dv D p) (hq : Dv D q) : Dv D (p + q) := by
  obtain ⟨a, ha⟩ := hp
  obtain ⟨b, hb⟩ := hq
  exact ⟨a + b, by rw [Rat.intCast_add]; grind⟩
theorem Dv.sub {D : Int} {p q : Rat} (hp : Dv D p) (hq : Dv D q) : Dv D (p - q) := by
  obtain ⟨a, ha⟩ := hp
  obtain ⟨b, hb⟩ := hq
  exact ⟨a - b, by rw [Rat.intCast_sub]; grind⟩
theorem Dv.mul {D : Int} {p : Rat} (hp : Dv D p) (n : Int) : Dv D (p * n) := by
  obtain ⟨a, ha⟩ := hp
  exact ⟨a * n, by rw [Rat.intCast_mul]; grind⟩
theorem Dv.div {D : Int} {p : Rat} (hp : Dv D p) (n : Int) (hn : n ≠ 0) : Dv (D * n) (p / n) := by
  obtain ⟨a, ha⟩ := hp
  have := cast_ne hn
  exact ⟨a, by rw [Rat.intCast_mul]; grind⟩
theorem Dv.dvd {D E : Int} {p : Rat} (hp : Dv D p) (h : D ∣ E) : Dv E p := by
  obtain ⟨a, ha⟩ := hp
  obtain ⟨c, rfl⟩ := h
  exact ⟨a * c, by rw [Rat.intCast_mul, Rat.intCast_mul]; grind⟩

theorem rat_le_int {p : Rat} {D k n : Int} (hD : 0 < D) (hk : p * (D : Rat) = (k : Rat)) (h : p ≤ (n : Rat)) : k ≤ n * D := by
  have hD' : (0 : Rat) ≤ (D : Rat) := by rw [show (0 : Rat) = ((0 : Int) : Rat) from rfl]; exact Rat.intCast_le_intCast.2 (by omega)
  have := Rat.mul_le_mul_of_nonneg_right h hD'
  rw [hk, ← Rat.intCast_mul] at this
  exact Rat.intCast_le_intCast.1 this
theorem int_le_rat {p : Rat} {D k n : Int} (hD : 0 < D) (hk : p * (D : Rat) = (k : Rat)) (h : (n : Rat) ≤ p) : n * D ≤ k := by
  have hD' : (0 : Rat) ≤ (D : Rat) := by rw [show (0 : Rat) = ((0 : Int) : Rat) from rfl]; exact Rat.intCast_le_intCast.2 (by omega)
  have := Rat.mul_le_mul_of_nonneg_right h hD'
  rw [hk, ← Rat.intCast_mul] at this
  exact Rat.intCast_le_intCast.1 this

/-- With a denominator, and bounds, a fraction is small. -/
theorem num_le {D M : Int} {q : Rat} (hD : 0 < D) (h : Dv D q) (h0 : ((-M : Int) : Rat) ≤ q) (h1 : q ≤ (M : Rat)) : (q.num.natAbs : Int) ≤ M * D ∧ (q.den : Int) ≤ D := by
  obtain ⟨k, hk⟩ := h
  have e : q = (k : Rat) / (D : Rat) := by have := cast_ne (show D ≠ 0 by omega); grind
  have h2 := rat_le_int hD hk h1
  have h3 := int_le_rat hD hk h0
  have h4 := ratio_le k D hD
  rw [← e] at h4
  rw [Int.neg_mul] at h3
  omega

theorem Sm_of {D M : Int} {q : Rat} (hD : 0 < D) (hD2 : D ≤ 1048576) (hM : M ≤ 1048576) (h : Dv D q) (h0 : ((-M : Int) : Rat) ≤ q) (h1 : q ≤ (M : Rat)) : Sm q := by
  have h2 := num_le hD h h0 h1
  have hM0 : 0 ≤ M := by
    have : ((-M : Int) : Rat) ≤ (M : Rat) := Rat.le_trans h0 h1
    have := Rat.intCast_le_intCast.1 this
    omega
  have h3 : M * D ≤ 1048576 * 1048576 := Int.mul_le_mul hM hD2 (by omega) (by omega)
  exact ⟨by omega, by omega⟩

theorem sumB : ∀ {l : List Int}, (∀ y ∈ l, 0 ≤ y ∧ y ≤ 20) → 0 ≤ l.sum ∧ l.sum ≤ 20 * l.length
  | [], _ => by simp
  | a :: l, h => by
    have h1 := sumB (l := l) (fun y hy => h y (by simp [hy]))
    have h2 := h a (by simp)
    simp only [List.sum_cons, List.length_cons]
    omega

theorem take_sumB {us : List Int} (hb : ∀ y ∈ us, 0 ≤ y ∧ y ≤ 20) (i : Nat) : 0 ≤ (us.take i).sum ∧ (us.take i).sum ≤ 20 * us.length := by
  have h3 := sumB (l := us.take i) (fun y hy => hb y (List.mem_of_mem_take hy))
  rw [List.length_take] at h3
  omega

theorem int0 : ((0 : Int) : Rat) = 0 := rfl
theorem int1 : ((1 : Int) : Rat) = 1 := rfl

theorem s104 {us : List Int} {v : AV} {A : AHeap} (hu : L1 A v us) (hl : us.length ≤ 120) (hb : ∀ y ∈ us, 0 ≤ y ∧ y ≤ 20) (q : Rat) (hq : Sm q) (h0 : 0 ≤ q.num) (h1 : q.num ≤ us.length * q.den) :
    ACalls Try.prog 104 [v, R q] A (R (upToU 0 us q)) A := by
  refine acalls hmix Try.func104 (by kernel_rfl) t104 2 rfl (by decide) ?_
  have hd := den_pos q
  have hd0 : ¬ (q.den : Int) = 0 := by omega
  have ht : q.num.tdiv q.den = q.num / q.den := Int.tdiv_eq_ediv_of_nonneg h0
  have htm : q.num.tmod q.den = q.num % q.den := Int.tmod_eq_emod_of_nonneg h0
  obtain ⟨hq1, hq2⟩ := id hq
  have hw := tdiv_W (a := q.num) ⟨by omega, by omega⟩ hd
  dsimp only [m104]
  simp (maxSteps := 4000000) -implicitDefEqProofs -dsimp (disch := omega) only [↓AW_ops, ↓AW_seq, ↓AW_block, ↓AOps_nil, ↓AOps_pu, on_some, ↓then_normal, pval, rd_S, rd_C, put_S, ↓AW_toLoop, chkd, isAdr, bgot, AV.cells?, partA, eq_self, List.replicate_succ, List.replicate_zero, List.set_cons_zero, List.set_cons_succ, List.getElem?_cons_zero, List.getElem?_cons_succ, List.drop_zero, List.drop_succ_cons, List.take_zero, List.take_succ_cons, List.take_nil, Option.getD_some, List.length_cons, List.length_nil, Nat.reduceAdd, Nat.reduceSub, Nat.reduceLeDiff, Nat.zero_add, List.cons_append, List.nil_append, bin_quo, w64, if_true, if_false, Bool.false_eq_true, hd0]
  have hx := Int.mul_ediv_add_emod q.num q.den
  have hy := Int.emod_lt_of_pos q.num hd
  have hy0 := Int.emod_nonneg q.num hd0
  have hk0 : 0 ≤ q.num / q.den := Int.ediv_nonneg h0 (by omega)
  obtain ⟨K, hK⟩ : ∃ K : Nat, q.num / q.den = (K : Int) := ⟨_, (Int.toNat_of_nonneg hk0).symm⟩
  rw [ht, hK]
  rw [Int.mul_comm, hK] at hx
  have hKl : K ≤ us.length := by
    have : (K : Int) ≤ us.length := by
      exact Int.le_of_mul_le_mul_right (by omega) hd
    omega
  have eq := R_self q
  have nd := cast_ne hd0
  have ex : (q.num : Rat) = ((K : Int) : Rat) * ((q.den : Int) : Rat) + ((q.num % q.den : Int) : Rat) := by rw [← Rat.intCast_mul, ← Rat.intCast_add, hx]
  have hd' : (0 : Rat) < ((q.den : Int) : Rat) := by rw [← int0]; exact Rat.intCast_lt_intCast.2 hd
  have hqK : ((0 + K : Int) : Rat) ≤ q := by
    rw [Int.zero_add, Rat.le_iff]
    show (K : Int) * (q.den : Int) ≤ q.num * (1 : Int)
    omega
  have hqK2 : q < ((0 + K + 1 : Int) : Rat) := by
    rw [Int.zero_add, Rat.lt_iff]
    show q.num * (1 : Int) < ((K : Int) + 1) * (q.den : Int)
    rw [Int.add_mul]
    omega
  have key := upToU_at q us 0 K hqK hqK2 hKl
  refine LoopK.by 46 (fun i : Nat => i ≤ K) (fun i => [(0, v), (3, R q), (4, .agg [I 0, I 0]), (5, I K), (6, I (us.take i).sum), (7, I i)]) (fun _ => A) (fun i => K - i) 0 (by omega) rfl (by simp [Has, rd_s]) rfl ?_
  intro i hi
  have hs := take_sumB hb i
  by_cases hltK : i < K
  · have hlt : i < us.length := by omega
    obtain ⟨z, hz⟩ : ∃ z, us[i]? = some z := ⟨_, List.getElem?_eq_getElem hlt⟩
    have hlt' : (i : Int) < K := by omega
    have hbz := hb z (List.mem_of_getElem? hz)
    simp (maxSteps := 4000000) -implicitDefEqProofs -dsimp (disch := omega) only [↓AW_skip, ↓AW_ops, ↓AW_seq, ↓AW_cond, ↓AW_block, ↓AOps_nil, ↓AOps_pu, ↓AOps_ld, on_some, condB_t, ↓then_normal, ↓inBlock_normal, pval, lval, rd_S, rd_C, put_S, partA, eq_self, mk, List.foldl_cons, List.foldl_nil, List.replicate_succ, List.replicate_zero, List.set_cons_zero, List.set_cons_succ, List.getElem?_cons_zero, List.getElem?_cons_succ, List.drop_zero, List.take_succ_cons, List.take_nil, Option.getD_some, List.length_cons, List.length_nil, Nat.reduceAdd, Nat.reduceLeDiff, Nat.zero_add, bin_add, bin_lss, w64, if_true, if_false, Bool.false_eq_true, decide_true, e1, true_and, hlt', hu.idx hlt, hu.ld0 hz 1 false (by decide)]
    exact ⟨i + 1, by omega, by simp [Has, rd_s, List.take_add_one, hz], by omega⟩
  · have hiK : i = K := by omega
    subst hiK
    by_cases hend : i = us.length
    · have hend' : (i : Int) = us.length := by omega
      simp (maxSteps := 4000000) -implicitDefEqProofs -dsimp (disch := omega) only [↓AW_ops, ↓AW_seq, ↓AW_cond, ↓AW_exit, ↓AOps_nil, ↓AOps_pu, ↓AOps_call, on_some, condB_t, condB_f, ↓then_normal, ↓then_exit, ↓inBlock_exit, pval, rd_S, put_S, eq_self, mk, List.foldl_cons, List.foldl_nil, List.replicate_succ, List.replicate_zero, List.set_cons_zero, List.set_cons_succ, List.getElem?_cons_zero, List.getElem?_cons_succ, Option.getD_some, map_c, map_n, bin_eql, bin_lss, if_true, decide_true, decide_false, Int.lt_irrefl, hu.len, hend']
      refine CallK.of (s30 _ _) ?_
      simp (maxSteps := 4000000) -implicitDefEqProofs -dsimp (disch := omega) only [↓AW_ret, ↓AOps_nil, ↓AOps_pu, on_some, extK_same, ↓then_normal, ↓then_ret, ↓Fin_ret, pval, rd_S, put_S, resV, resL, chkd, bput, bgot, AV.cells?, splice, partA, eq_self, mk, List.foldl_cons, List.foldl_nil, List.replicate_succ, List.replicate_zero, List.set_cons_zero, List.set_cons_succ, List.getElem?_cons_zero, List.getElem?_cons_succ, List.drop_zero, List.drop_succ_cons, List.drop_nil, List.take_zero, List.take_succ_cons, List.take_nil, Option.getD_some, List.length_cons, List.length_nil, Nat.reduceAdd, Nat.reduceLeDiff, Nat.reduceEqDiff, Nat.zero_add, List.nil_append, List.append_nil, if_true, if_false, ne_eq, not_true_eq_false]
      refine gc_same ?_
      have hn : us[i]? = none := by rw [List.getElem?_eq_none]; omega
      rw [hn] at key
      rw [key, Rat.add_zero]
    · have hlt : i < us.length := by omega
      have hend' : ¬ (i : Int) = us.length := by omega
      obtain ⟨z, hz⟩ : ∃ z, us[i]? = some z := ⟨_, List.getElem?_eq_getElem hlt⟩
      have hbz := hb z (List.mem_of_getElem? hz)
      rw [hz] at key
      have hr := ratio_le (q.num % q.den) q.den hd
      have ha : ((q.num % q.den : Int) : Rat) / ((q.den : Int) : Rat) = q - ((i : Int) : Rat) := by
        generalize ((q.num % q.den : Int) : Rat) = r at *
        generalize ((q.den : Int) : Rat) = d at *
        generalize ((q.num : Int) : Rat) = n at *
        generalize ((i : Int) : Rat) = k at *
        grind
      simp (maxSteps := 4000000) -implicitDefEqProofs -dsimp (disch := omega) only [↓AW_skip, ↓AW_ops, ↓AW_seq, ↓AW_cond, ↓AW_exit, ↓AOps_nil, ↓AOps_pu, ↓AOps_call, on_some, condB_f, ↓then_normal, ↓then_exit, ↓inBlock_exit, pval, rd_S, put_S, eq_self, mk, List.foldl_cons, List.foldl_nil, List.replicate_succ, List.replicate_zero, List.set_cons_zero, List.set_cons_succ, List.getElem?_cons_zero, List.getElem?_cons_succ, Option.getD_some, map_c, map_n, bin_eql, bin_lss, if_true, decide_false, Int.lt_irrefl, hu.len, hend']
      refine CallK.of (s30 _ _) ?_
      simp (maxSteps := 4000000) -implicitDefEqProofs -dsimp (disch := omega) only [↓AOps_pu, ↓AOps_ld, ↓AOps_call, on_some, extK_same, pval, lval, rd_S, put_S, chkd, isAdr, bgot, AV.cells?, partA, eq_self, mk, List.foldl_cons, List.foldl_nil, List.replicate_succ, List.replicate_zero, List.set_cons_zero, List.set_cons_succ, List.getElem?_cons_zero, List.getElem?_cons_succ, List.drop_zero, List.drop_succ_cons, List.take_zero, List.take_succ_cons, List.take_nil, Option.getD_some, map_c, map_n, List.length_cons, List.length_nil, Nat.reduceAdd, Nat.reduceLeDiff, Nat.zero_add, bin_rem, if_true, if_false, Bool.false_eq_true, e1, hu.idx hlt, hu.ld0 hz 1 false (by decide), hd0, htm]
      refine CallK.of (s69R _ ⟨by omega, by omega⟩ (by omega) hd (by omega)) ?_
      rw [ha] at hr ⊢
      generalize hqa : q - ((i : Int) : Rat) = a at *
      have hSa : Sm a := ⟨by omega, by omega⟩
      simp (maxSteps := 4000000) -implicitDefEqProofs -dsimp (disch := omega) only [↓AOps_call, extK_same, rd_S, put_S, mk, List.foldl_cons, List.foldl_nil, List.replicate_succ, List.replicate_zero, List.set_cons_zero, List.set_cons_succ, List.getElem?_cons_zero, List.getElem?_cons_succ, Option.getD_some, map_c, map_n]
      refine CallK.of (s120 a z _ hSa (by omega)) ?_
      simp (maxSteps := 4000000) -implicitDefEqProofs -dsimp (disch := omega) only [↓AOps_call, extK_same, rd_S, put_S, mk, List.foldl_cons, List.foldl_nil, List.replicate_succ, List.replicate_zero, List.set_cons_zero, List.set_cons_succ, List.getElem?_cons_zero, List.getElem?_cons_succ, Option.getD_some, map_c, map_n]
      have hDa : Dv q.den a := by rw [← hqa]; exact (Dv_self q).sub (Dv_int _ _)
      have a0 : (0 : Rat) ≤ a := by rw [← hqa]; rw [Int.zero_add] at hqK; grind
      have a1 : a ≤ 1 := by
        rw [← hqa]
        rw [Int.zero_add, Rat.intCast_add] at hqK2
        have := int1
        grind
      have z0 : (0 : Rat) ≤ (z : Rat) := by rw [← int0]; exact Rat.intCast_le_intCast.2 hbz.1
      have z1 : (z : Rat) ≤ ((20 : Int) : Rat) := Rat.intCast_le_intCast.2 hbz.2
      have p0 : (0 : Rat) ≤ a * z := Rat.mul_nonneg a0 z0
      have p1 : a * z ≤ ((20 : Int) : Rat) := by
        have := Rat.mul_le_mul_of_nonneg_right a1 z0
        rw [Rat.one_mul] at this
        exact Rat.le_trans this z1
      have hS2 : Sm (a * z) := Sm_of (M := 20) hd (by omega) (by omega) (hDa.mul z) (Rat.le_trans (by rw [← int0]; exact Rat.intCast_le_intCast.2 (by omega)) p0) p1
      refine CallK.of (s27 _ _ _ (Sm_int (by omega)) hS2) ?_
      simp (maxSteps := 4000000) -implicitDefEqProofs -dsimp (disch := omega) only [↓AW_ret, ↓AOps_nil, ↓AOps_pu, on_some, extK_same, ↓then_normal, ↓Fin_ret, pval, rd_S, put_S, resV, resL, chkd, bput, bgot, AV.cells?, splice, partA, eq_self, mk, List.foldl_cons, List.foldl_nil, List.replicate_succ, List.replicate_zero, List.set_cons_zero, List.set_cons_succ, List.getElem?_cons_zero, List.getElem?_cons_succ, List.drop_zero, List.drop_succ_cons, List.drop_nil, List.take_zero, List.take_succ_cons, List.take_nil, Option.getD_some, List.length_cons, List.length_nil, Nat.reduceAdd, Nat.reduceLeDiff, Nat.reduceEqDiff, Nat.zero_add, List.nil_append, List.append_nil, if_true, if_false, ne_eq, not_true_eq_false]
      refine gc_same ?_
      rw [key, Int.zero_add, hqa]

/-- What lies before a place is not much. -/
theorem clamp_bounds (x a b : Rat) (h : a ≤ b) : a ≤ clamp x a b ∧ clamp x a b ≤ b := by
  unfold clamp
  grind

theorem upToU_bounds : ∀ (us : List Int) (b : Int) (x : Rat), (∀ y ∈ us, 0 ≤ y ∧ y ≤ 20) → 0 ≤ upToU b us x ∧ upToU b us x ≤ ((20 * us.length : Int) : Rat)
  | [], b, x, _ => by simp only [upToU, List.length_nil]; exact ⟨Rat.le_refl, Rat.le_refl⟩
  | u :: us, b, x, h => by
    have ih := upToU_bounds us (b + 1) x (fun y hy => h y (by simp [hy]))
    have hu := h u (by simp)
    have h1 : (b : Rat) ≤ ((b + 1 : Int) : Rat) := Rat.intCast_le_intCast.2 (by omega)
    have hc := clamp_bounds x _ _ h1
    have u0 : (0 : Rat) ≤ (u : Rat) := by rw [← int0]; exact Rat.intCast_le_intCast.2 hu.1
    have u1 : (u : Rat) ≤ ((20 : Int) : Rat) := Rat.intCast_le_intCast.2 hu.2
    have e1 : ((b + 1 : Int) : Rat) = (b : Rat) + 1 := by rw [Rat.intCast_add]; rfl
    have e2 : ((20 * ((u :: us).length : Int) : Int) : Rat) = ((20 : Int) : Rat) + ((20 * (us.length : Int) : Int) : Rat) := by
      rw [← Rat.intCast_add]; congr 1; simp; omega
    rw [e2, upToU]
    generalize clamp x (b : Rat) ((b + 1 : Int) : Rat) = c at *
    have d0 : 0 ≤ c - (b : Rat) := by grind
    have d1 : c - (b : Rat) ≤ 1 := by grind
    have p0 := Rat.mul_nonneg d0 u0
    have p1 := Rat.mul_le_mul_of_nonneg_right d1 u0
    rw [Rat.one_mul] at p1
    grind

theorem clamp_Dv {D : Int} {x : Rat} (hx : Dv D x) (a b : Int) : Dv D (clamp x a b) := by
  unfold clamp
  split
  · exact Dv_int _ _
  · split
    · exact Dv_int _ _
    · exact hx

theorem upToU_Dv {D : Int} {x : Rat} (hx : Dv D x) : ∀ (us : List Int) (b : Int), Dv D (upToU b us x)
  | [], b => Dv_int D 0
  | u :: us, b => by
    rw [upToU]
    exact (((clamp_Dv hx _ _).sub (Dv_int _ _)).mul u).add (upToU_Dv hx us (b + 1))

theorem int_neg_le_zero {q : Rat} {M : Int} (hM : 0 ≤ M) (h : 0 ≤ q) : ((-M : Int) : Rat) ≤ q := Rat.le_trans (by rw [← int0]; exact Rat.intCast_le_intCast.2 (by omega)) h

theorem upToU_Sm {us : List Int} (hl : us.length ≤ 120) (hb : ∀ y ∈ us, 0 ≤ y ∧ y ≤ 20) (q : Rat) (hq : Sm q) (b : Int) : Sm (upToU b us q) := by
  have h := upToU_bounds us b q hb
  refine Sm_of (M := 2400) (den_pos q) hq.2 (by omega) (upToU_Dv (Dv_self q) us b) (int_neg_le_zero (by omega) h.1) (Rat.le_trans h.2 (Rat.intCast_le_intCast.2 (by omega)))

/-- What lies between two places. -/
theorem s75 {us : List Int} {v : AV} {A : AHeap} (hu : L1 A v us) (hl : us.length ≤ 120) (hb : ∀ y ∈ us, 0 ≤ y ∧ y ≤ 20) (p q : Rat) (hp : Sm p) (hq : Sm q) (p0 : 0 ≤ p.num) (p1 : p.num ≤ us.length * p.den) (q0 : 0 ≤ q.num) (q1 : q.num ≤ us.length * q.den) :
    ACalls Try.prog 75 [v, R p, R q] A (R (upToU 0 us q - upToU 0 us p)) A := by
  refine acalls hmix Try.func75 (by kernel_rfl) t75 3 rfl (by decide) ?_
  dsimp only [m75]
  simp (maxSteps := 4000000) -implicitDefEqProofs -dsimp (disch := omega) only [↓AW_ops, ↓AW_seq, ↓AOps_nil, ↓AOps_pu, ↓AOps_call, on_some, ↓then_normal, pval, rd_S, rd_C, put_S, chkd, bgot, AV.cells?, partA, eq_self, List.replicate_succ, List.replicate_zero, List.set_cons_zero, List.set_cons_succ, List.getElem?_cons_zero, List.getElem?_cons_succ, List.drop_zero, List.take_succ_cons, List.take_nil, Option.getD_some, map_c, map_n, List.length_cons, List.length_nil, Nat.reduceAdd, Nat.reduceSub, Nat.reduceLeDiff, Nat.reduceEqDiff, Nat.zero_add, List.cons_append, List.nil_append, if_true, if_false]
  refine CallK.of (s104 hu hl hb q hq q0 q1) ?_
  simp (maxSteps := 4000000) -implicitDefEqProofs -dsimp (disch := omega) only [↓AOps_pu, ↓AOps_call, on_some, extK_same, pval, rd_S, put_S, chkd, bgot, partA, eq_self, List.replicate_succ, List.replicate_zero, List.set_cons_zero, List.set_cons_succ, List.getElem?_cons_zero, List.getElem?_cons_succ, List.drop_zero, List.take_succ_cons, List.take_nil, Option.getD_some, map_c, map_n, List.length_cons, List.length_nil, Nat.reduceAdd, Nat.reduceSub, Nat.reduceLeDiff, Nat.reduceEqDiff, Nat.zero_add, List.cons_append, List.nil_append, if_true, if_false]
  refine CallK.of (s104 hu hl hb p hp p0 p1) ?_
  simp (maxSteps := 4000000) -implicitDefEqProofs -dsimp (disch := omega) only [↓AOps_call, extK_same, rd_S, put_S, List.replicate_succ, List.replicate_zero, List.set_cons_zero, List.set_cons_succ, List.getElem?_cons_zero, List.getElem?_cons_succ, Option.getD_some, map_c, map_n, Nat.reduceSub, List.cons_append, List.nil_append]
  refine CallK.of (s53 _ _ _ (upToU_Sm hl hb q hq 0) (upToU_Sm hl hb p hp 0)) ?_
  simp (maxSteps := 4000000) -implicitDefEqProofs -dsimp (disch := omega) only [↓AW_ret, ↓AOps_nil, ↓AOps_pu, on_some, extK_same, ↓then_normal, ↓Fin_ret, pval, rd_S, put_S, resV, resL, chkd, bput, bgot, AV.cells?, splice, partA, eq_self, List.replicate_succ, List.replicate_zero, List.set_cons_zero, List.set_cons_succ, List.getElem?_cons_zero, List.getElem?_cons_succ, List.drop_zero, List.drop_succ_cons, List.drop_nil, List.take_zero, List.take_succ_cons, List.take_nil, Option.getD_some, List.length_cons, List.length_nil, Nat.reduceAdd, Nat.reduceSub, Nat.reduceLeDiff, Nat.reduceEqDiff, Nat.zero_add, List.cons_append, List.nil_append, List.append_nil, if_true, if_false, ne_eq, not_true_eq_false]
  exact gc_same rfl

end Go.Proofs.Ytnnbggcckabhdaa
