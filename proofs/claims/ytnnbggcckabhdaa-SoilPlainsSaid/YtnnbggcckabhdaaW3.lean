/- Soil: sums and units. No conditions. -/
import Derived.Test.YtnnbggcckabhdaaW2
import Derived.Test.YtnnbggcckabhdaaM2
import Derived.Test.YtnnbggcckabhdaaEng21
namespace Go.Proofs.Ytnnbggcckabhdaa
open Go Go.Eng

def good (f : List (Int × Int)) : Prop := f.length ≤ 6 ∧ f.all vz = true

theorem good_of {f : List (Int × Int)} (h : vE f = 0) : good f ∧ 1 ≤ f.length := by
  unfold vE at h
  split at h
  · cases h
  · rename_i h1
    split at h
    · rename_i h2; exact ⟨⟨by omega, h2⟩, by omega⟩
    · cases h

theorem vz_iff (z : Int × Int) : vz z = true ↔ (1 ≤ z.1 ∧ z.1 ≤ 20) ∧ (0 ≤ z.2 ∧ z.2 ≤ 20) := by simp [vz]

def sumZ (g : Int × Int → Int) (f : List (Int × Int)) : Int := (f.map g).sum

theorem sumZ_take {g : Int × Int → Int} {f : List (Int × Int)} {i : Nat} {z : Int × Int} (hz : f[i]? = some z) : sumZ g (f.take (i + 1)) = sumZ g (f.take i) + g z := by
  rw [List.take_add_one, hz]; simp [sumZ]

theorem sumZ_bound {g : Int × Int → Int} {m : Int} (hm : 0 ≤ m) : ∀ {f : List (Int × Int)}, (∀ z ∈ f, 0 ≤ g z ∧ g z ≤ m) → 0 ≤ sumZ g f ∧ sumZ g f ≤ m * f.length
  | [], _ => by simp [sumZ]
  | z :: f, h => by
    have h1 := sumZ_bound hm (f := f) (fun y hy => h y (by simp [hy]))
    have h2 := h z (by simp)
    simp only [sumZ, List.map_cons, List.sum_cons, List.length_cons] at *
    rw [Int.natCast_add, Int.mul_add]
    omega

theorem s103 (z : Int × Int) (A : AHeap) (h : vz z = true) : ACalls Try.prog 103 [.agg [I z.1, I z.2]] A (I (z.1 * z.2)) A := by
  refine acalls hmix Try.func103 (by kernel_rfl) t103 1 rfl (by decide) ?_
  rw [vz_iff] at h
  have h1 : 0 ≤ z.1 * z.2 := Int.mul_nonneg (by omega) (by omega)
  have h2 : z.1 * z.2 ≤ 20 * 20 := Int.mul_le_mul (by omega) (by omega) (by omega) (by omega)
  dsimp only [m103]
  simp -implicitDefEqProofs -dsimp (disch := omega) only [↓AW_ops, ↓AW_seq, ↓AW_ret, ↓AOps_nil, ↓AOps_pu, on_some, ↓then_normal, ↓Fin_ret, pval, rd_S, rd_C, put_S, resV, resL, chkd, isAdr, bgot, AV.cells?, partA, List.replicate_succ, List.replicate_zero, List.set_cons_zero, List.set_cons_succ, List.getElem?_cons_zero, List.getElem?_cons_succ, List.drop_zero, List.drop_succ_cons, List.take_zero, List.take_succ_cons, List.take_nil, Option.getD_some, List.length_cons, List.length_nil, Nat.reduceAdd, Nat.reduceSub, Nat.reduceLeDiff, Nat.zero_add, List.cons_append, List.nil_append, bin_mul, w64, if_true, if_false, Bool.false_eq_true]
  exact gc_same rfl

theorem s111 (z : Int × Int) (A : AHeap) : ACalls Try.prog 111 [.agg [I z.1, I z.2]] A (I z.1) A := by
  refine acalls hmix Try.func111 (by kernel_rfl) t111 1 rfl (by decide) ?_
  dsimp only [m111]
  simp -implicitDefEqProofs -dsimp (disch := omega) only [↓AW_ops, ↓AW_seq, ↓AW_ret, ↓AOps_nil, ↓AOps_pu, on_some, ↓then_normal, ↓Fin_ret, pval, rd_S, rd_C, put_S, resV, resL, chkd, isAdr, bgot, AV.cells?, partA, List.replicate_succ, List.replicate_zero, List.set_cons_zero, List.set_cons_succ, List.getElem?_cons_zero, List.getElem?_cons_succ, List.drop_zero, List.take_zero, List.take_succ_cons, Option.getD_some, List.length_cons, List.length_nil, Nat.reduceAdd, Nat.reduceSub, Nat.reduceLeDiff, Nat.zero_add, List.cons_append, List.nil_append, if_true, if_false, Bool.false_eq_true]
  exact gc_same rfl

theorem s102 {f : List (Int × Int)} {v : AV} {A : AHeap} (hf : L2 A v f) (k : Nat) (g : Int × Int → Int) (hg : ∀ z ∈ f, ACalls Try.prog k [.agg [I z.1, I z.2]] A (I (g z)) A) (hb : ∀ z ∈ f, 0 ≤ g z ∧ g z ≤ 400) (hl : f.length ≤ 6) :
    ACalls Try.prog 102 [v, .fn k []] A (I (sumZ g f)) A := by
  refine acalls hmix Try.func102 (by kernel_rfl) t102 2 rfl (by decide) ?_
  dsimp only [m102]
  simp -implicitDefEqProofs -dsimp (disch := omega) only [↓AW_ops, ↓AW_seq, ↓AW_block, ↓AOps_nil, ↓AOps_pu, on_some, ↓then_normal, pval, rd_S, rd_C, put_S, ↓AW_toLoop, List.replicate_succ, List.replicate_zero, List.set_cons_zero, List.set_cons_succ, List.getElem?_cons_zero, List.getElem?_cons_succ, Option.getD_some, Nat.reduceSub, List.cons_append, List.nil_append, hf.len]
  refine LoopK.by 21 (fun i : Nat => i ≤ f.length) (fun i => [(1, .fn k []), (5, I (sumZ g (f.take i))), (8, v), (9, I f.length), (10, I i)]) (fun _ => A) (fun i => f.length - i) 0 (by omega) rfl (by simp [Has, rd_s, sumZ]) rfl ?_
  intro i hi
  by_cases hlt : i < f.length
  · obtain ⟨z, hz⟩ : ∃ z, f[i]? = some z := ⟨_, List.getElem?_eq_getElem hlt⟩
    have hlt' : (i : Int) < f.length := by omega
    simp -implicitDefEqProofs -dsimp (disch := omega) only [↓AW_skip, ↓AW_ops, ↓AW_seq, ↓AW_cond, ↓AW_block, ↓AOps_nil, ↓AOps_pu, ↓AOps_ld, ↓AOps_callv, on_some, CallF_fn, condB_t, ↓then_normal, pval, lval, rd_S, rd_C, put_S, chkd, bput, bgot, AV.cells?, splice, partA, mk, List.foldl_cons, List.foldl_nil, List.replicate_succ, List.replicate_zero, List.set_cons_zero, List.set_cons_succ, List.getElem?_cons_zero, List.getElem?_cons_succ, List.drop_zero, List.drop_succ_cons, List.drop_nil, List.take_zero, List.take_succ_cons, List.take_nil, Option.getD_some, map_c, map_n, List.length_cons, List.length_nil, Nat.reduceAdd, Nat.reduceLeDiff, Nat.reduceEqDiff, Nat.zero_add, List.nil_append, List.append_nil, bin_lss, if_true, if_false, decide_true, e2, ne_eq, not_true_eq_false, hlt', hf.idx hlt, hf.ld0 hz 2 true (by decide)]
    refine CallK.of (hg z (List.mem_of_getElem? hz)) ?_
    have b1 := sumZ_bound (by omega) (f := f.take i) (fun y hy => hb y (List.mem_of_mem_take hy))
    have b2 := hb z (List.mem_of_getElem? hz)
    have b3 : ((f.take i).length : Int) ≤ 6 := by rw [List.length_take]; omega
    simp -implicitDefEqProofs -dsimp (disch := omega) only [↓AW_ops, ↓AOps_nil, ↓AOps_pu, on_some, extK_same, ↓then_normal, ↓inBlock_normal, pval, rd_S, rd_C, put_S, mk, List.foldl_cons, List.foldl_nil, List.replicate_succ, List.replicate_zero, List.set_cons_zero, List.set_cons_succ, List.getElem?_cons_zero, List.getElem?_cons_succ, Option.getD_some, List.length_cons, List.length_nil, Nat.reduceAdd, Nat.zero_add, bin_add, w64, true_and]
    exact ⟨i + 1, hlt, by simp [Has, rd_s, sumZ_take hz], by omega⟩
  · have hlt' : ¬ ((i : Int) < f.length) := by omega
    simp -implicitDefEqProofs -dsimp (disch := omega) only [↓AW_ops, ↓AW_seq, ↓AW_cond, ↓AW_exit, ↓AW_ret, ↓AOps_nil, ↓AOps_pu, on_some, condB_f, ↓then_normal, ↓then_exit, ↓inBlock_exit, ↓Fin_ret, pval, rd_S, put_S, resV, resL, mk, List.foldl_cons, List.foldl_nil, List.replicate_succ, List.replicate_zero, List.set_cons_zero, List.set_cons_succ, List.getElem?_cons_zero, List.getElem?_cons_succ, Option.getD_some, bin_lss, if_true, decide_false, hlt']
    exact gc_same (by rw [List.take_of_length_le (by omega)])

def tot (f : List (Int × Int)) : Int := sumZ (fun z => z.1 * z.2) f
def len (f : List (Int × Int)) : Int := sumZ (fun z => z.1) f

theorem s65 {f : List (Int × Int)} {v : AV} {A : AHeap} (hf : L2 A v f) (h : good f) : ACalls Try.prog 65 [v] A (I (tot f)) A := by
  refine acalls hmix Try.func65 (by kernel_rfl) t65 1 rfl (by decide) ?_
  dsimp only [m65]
  simp -implicitDefEqProofs -dsimp (disch := omega) only [↓AW_ops, ↓AW_seq, ↓AOps_nil, ↓AOps_pu, ↓AOps_call, on_some, ↓then_normal, pval, rd_S, rd_C, put_S, List.replicate_succ, List.replicate_zero, List.set_cons_zero, List.set_cons_succ, List.getElem?_cons_zero, List.getElem?_cons_succ, Option.getD_some, map_c, map_n, Nat.reduceSub, List.cons_append, List.nil_append]
  refine CallK.of (s102 hf 103 (fun z => z.1 * z.2) (fun z hz => s103 z A (List.all_eq_true.1 h.2 z hz)) (fun z hz => ?_) h.1) ?_
  · have := (vz_iff z).1 (List.all_eq_true.1 h.2 z hz)
    have h1 : 0 ≤ z.1 * z.2 := Int.mul_nonneg (by omega) (by omega)
    have h2 : z.1 * z.2 ≤ 20 * 20 := Int.mul_le_mul (by omega) (by omega) (by omega) (by omega)
    omega
  · simp -implicitDefEqProofs -dsimp (disch := omega) only [↓AW_ret, ↓AOps_nil, ↓AOps_pu, on_some, extK_same, ↓then_normal, ↓Fin_ret, pval, rd_S, put_S, resV, resL, List.replicate_succ, List.replicate_zero, List.set_cons_zero, List.set_cons_succ, List.getElem?_cons_zero, List.getElem?_cons_succ, Option.getD_some, Nat.reduceSub, List.cons_append, List.nil_append]
    exact gc_same rfl

theorem s77 {f : List (Int × Int)} {v : AV} {A : AHeap} (hf : L2 A v f) (h : good f) : ACalls Try.prog 77 [v] A (I (len f)) A := by
  refine acalls hmix Try.func77 (by kernel_rfl) t77 1 rfl (by decide) ?_
  dsimp only [m77]
  simp -implicitDefEqProofs -dsimp (disch := omega) only [↓AW_ops, ↓AW_seq, ↓AOps_nil, ↓AOps_pu, ↓AOps_call, on_some, ↓then_normal, pval, rd_S, rd_C, put_S, List.replicate_succ, List.replicate_zero, List.set_cons_zero, List.set_cons_succ, List.getElem?_cons_zero, List.getElem?_cons_succ, Option.getD_some, map_c, map_n, Nat.reduceSub, List.cons_append, List.nil_append]
  refine CallK.of (s102 hf 111 (fun z => z.1) (fun z hz => s111 z A) (fun z hz => ?_) h.1) ?_
  · have := (vz_iff z).1 (List.all_eq_true.1 h.2 z hz)
    omega
  · simp -implicitDefEqProofs -dsimp (disch := omega) only [↓AW_ret, ↓AOps_nil, ↓AOps_pu, on_some, extK_same, ↓then_normal, ↓Fin_ret, pval, rd_S, put_S, resV, resL, List.replicate_succ, List.replicate_zero, List.set_cons_zero, List.set_cons_succ, List.getElem?_cons_zero, List.getElem?_cons_succ, Option.getD_some, Nat.reduceSub, List.cons_append, List.nil_append]
    exact gc_same rfl

def units (f : List (Int × Int)) : List Int := f.flatMap fun z => List.replicate z.1.toNat z.2

theorem units_take {f : List (Int × Int)} {i : Nat} {z : Int × Int} (hz : f[i]? = some z) : units (f.take (i + 1)) = units (f.take i) ++ List.replicate z.1.toNat z.2 := by
  rw [List.take_add_one, hz]; simp [units]

theorem len_units : ∀ {f : List (Int × Int)}, f.all vz = true → ((units f).length : Int) = len f
  | [], _ => by simp [units, len, sumZ]
  | z :: f, h => by
    simp only [List.all_cons, Bool.and_eq_true] at h
    have h1 := len_units h.2
    have h2 := (vz_iff z).1 h.1
    simp only [units, len, sumZ, List.flatMap_cons, List.length_append, List.length_replicate, List.map_cons, List.sum_cons] at *
    omega

theorem sum_units : ∀ {f : List (Int × Int)}, f.all vz = true → (units f).sum = tot f
  | [], _ => by simp [units, tot, sumZ]
  | z :: f, h => by
    simp only [List.all_cons, Bool.and_eq_true] at h
    have h1 := sum_units h.2
    have h2 := (vz_iff z).1 h.1
    simp only [units, tot, sumZ, List.flatMap_cons, List.sum_append, List.map_cons, List.sum_cons] at *
    have h3 : (List.replicate z.1.toNat z.2).sum = z.1 * z.2 := by
      rw [List.sum_replicate_int]
      rw [Int.toNat_of_nonneg (by omega)]
    omega

theorem len_bound {f : List (Int × Int)} (h : good f) : 0 ≤ len f ∧ len f ≤ 120 := by
  have := sumZ_bound (g := fun z => z.1) (m := 20) (by omega) (f := f) (fun z hz => by have := (vz_iff z).1 (List.all_eq_true.1 h.2 z hz); omega)
  have := h.1
  unfold len
  omega

theorem tot_bound {f : List (Int × Int)} (h : good f) : 0 ≤ tot f ∧ tot f ≤ 2400 := by
  have := sumZ_bound (g := fun z => z.1 * z.2) (m := 400) (by omega) (f := f) (fun z hz => by
    have := (vz_iff z).1 (List.all_eq_true.1 h.2 z hz)
    have h1 : 0 ≤ z.1 * z.2 := Int.mul_nonneg (by omega) (by omega)
    have h2 : z.1 * z.2 ≤ 20 * 20 := Int.mul_le_mul (by omega) (by omega) (by omega) (by omega)
    omega)
  have := h.1
  unfold tot
  omega

theorem good_take {f : List (Int × Int)} (h : good f) (i : Nat) : good (f.take i) := by
  refine ⟨?_, List.all_eq_true.2 fun z hz => List.all_eq_true.1 h.2 z (List.mem_of_mem_take hz)⟩
  rw [List.length_take]; have := h.1; omega

theorem s68 {f : List (Int × Int)} {v : AV} {A : AHeap} (hf : L2 A v f) (h : good f) : ACalls Try.prog 68 [v] A (outV 1 A (units f).length) (outH A ((units f).flatMap e1) (units f).length) := by
  refine acalls hmix Try.func68 (by kernel_rfl) t68 1 rfl (by decide) ?_
  dsimp only [m68]
  simp -implicitDefEqProofs -dsimp (disch := omega) only [↓AW_ops, ↓AW_seq, ↓AW_block, ↓AOps_nil, ↓AOps_pu, on_some, ↓then_normal, pval, rd_C, put_S, ↓AW_toLoop, List.replicate_succ, List.replicate_zero, List.set_cons_zero, List.set_cons_succ, Nat.reduceSub, List.cons_append, List.nil_append]
  refine LoopK.by 30 (fun x : Nat × AV × AHeap => x.1 ≤ f.length ∧ AccL 1 e1 A x.2.2 x.2.1 (units (f.take x.1))) (fun x => [(0, v), (3, x.2.1), (4, I x.1)]) (fun x => x.2.2) (fun x => f.length - x.1) (0, .nilS, A) ⟨by omega, AccL.nil (List.prefix_refl _)⟩ rfl (by simp [Has, rd_s]) rfl ?_
  rintro ⟨i, u, A1⟩ ⟨hi, hu⟩
  simp only at hi hu
  by_cases hlt : i < f.length
  · obtain ⟨z, hz⟩ : ∃ z, f[i]? = some z := ⟨_, List.getElem?_eq_getElem hlt⟩
    have hlt' : (i : Int) < f.length := by omega
    have hvz := (vz_iff z).1 (all_get h.2 hz)
    have hb := len_bound (good_take h i)
    have hb' := len_units (good_take h i).2
    have hl6 := h.1
    simp -implicitDefEqProofs -dsimp (disch := omega) only [↓AW_skip, ↓AW_ops, ↓AW_seq, ↓AW_cond, ↓AW_block, ↓AOps_nil, ↓AOps_pu, on_some, condB_t, ↓then_normal, pval, rd_S, rd_C, put_S, ↓AW_toLoop, mk, List.foldl_cons, List.foldl_nil, List.replicate_succ, List.replicate_zero, List.set_cons_zero, List.set_cons_succ, List.getElem?_cons_zero, List.getElem?_cons_succ, Option.getD_some, bin_lss, decide_true, hlt', hf.len]
    refine LoopK.by 30 (fun x : Nat × AV × AHeap => (x.1 : Int) ≤ z.1 ∧ AccL 1 e1 A x.2.2 x.2.1 (units (f.take i) ++ List.replicate x.1 z.2)) (fun x => [(0, v), (3, x.2.1), (4, I i), (5, I x.1)]) (fun x => x.2.2) (fun x => z.1.toNat - x.1) (0, u, A1) ⟨by simp; omega, by simpa using hu⟩ rfl (by simp [Has, rd_s]) rfl ?_
    rintro ⟨k, u2, A2⟩ ⟨hk, hu2⟩
    simp only at hk hu2
    have hf2 := hf.mono hu2.pre
    by_cases hkz : (k : Int) < z.1
    · obtain ⟨u3, A3, happ, hu3⟩ := hu2.push e1_len z.2 (by simp [lim]; omega)
      simp only [e1] at happ
      simp -implicitDefEqProofs -dsimp (disch := omega) only [↓AW_skip, ↓AW_ops, ↓AW_seq, ↓AW_cond, ↓AW_block, ↓AOps_nil, ↓AOps_pu, ↓AOps_ld, ↓AOps_ha, on_some, extK_false, extK_app, condB_t, ↓then_normal, ↓inBlock_normal, pval, lval, hval, rd_S, rd_C, put_S, AV.cells?, splice, partA, fillA, repl, mk, List.foldl_cons, List.foldl_nil, List.replicate_succ, List.replicate_zero, List.set_cons_zero, List.set_cons_succ, List.getElem?_cons_zero, List.getElem?_cons_succ, List.drop_zero, List.drop_succ_cons, List.drop_nil, List.take_zero, List.take_succ_cons, List.take_nil, Option.getD_some, map_c, map_n, List.length_cons, List.length_nil, Nat.reduceAdd, Nat.reduceLeDiff, Nat.zero_add, Nat.add_zero, List.nil_append, List.append_nil, bin_add, bin_lss, w64, if_true, if_false, Bool.false_eq_true, decide_true, e2, true_and, and_true, hkz, hf2.idx hlt, hf2.ld0 hz 1 false (by decide), hf2.ld hz 1 1 false (by decide), happ]
      exact ⟨(k + 1, u3, A3), ⟨by simp only; omega, by rw [List.replicate_succ', ← List.append_assoc]; exact hu3⟩, by simp [Has, rd_s], rfl, by simp only; omega⟩
    · simp -implicitDefEqProofs -dsimp (disch := omega) only [↓AW_ops, ↓AW_seq, ↓AW_cond, ↓AW_exit, ↓AW_ret, ↓AOps_nil, ↓AOps_pu, ↓AOps_ld, on_some, condB_f, ↓then_normal, ↓then_exit, ↓inBlock_normal, ↓inBlock_exit, ↓Fin_ret, pval, lval, rd_S, rd_C, put_S, resV, resL, partA, mk, List.foldl_cons, List.foldl_nil, List.replicate_succ, List.replicate_zero, List.set_cons_zero, List.set_cons_succ, List.getElem?_cons_zero, List.getElem?_cons_succ, List.drop_zero, List.take_zero, List.take_succ_cons, Option.getD_some, List.length_cons, List.length_nil, Nat.reduceAdd, Nat.reduceLeDiff, Nat.reduceEqDiff, Nat.zero_add, Nat.add_zero, bin_add, bin_lss, w64, if_true, if_false, Bool.false_eq_true, decide_false, e2, true_and, reduceCtorEq, hkz, hf2.idx hlt, hf2.ld0 hz 1 false (by decide)]
      have hkz' : k = z.1.toNat := by omega
      subst hkz'
      exact ⟨(i + 1, u2, A2), ⟨hlt, by rw [units_take hz]; exact hu2⟩, by simp [Has, rd_s], rfl, by simp only; omega⟩
  · have hlt' : ¬ ((i : Int) < f.length) := by omega
    simp -implicitDefEqProofs -dsimp (disch := omega) only [↓AW_ops, ↓AW_seq, ↓AW_cond, ↓AW_exit, ↓AW_ret, ↓AOps_nil, ↓AOps_pu, on_some, condB_f, ↓then_normal, ↓then_exit, ↓inBlock_exit, ↓Fin_ret, pval, rd_S, put_S, resV, resL, mk, List.foldl_cons, List.foldl_nil, List.replicate_succ, List.replicate_zero, List.set_cons_zero, List.set_cons_succ, List.getElem?_cons_zero, List.getElem?_cons_succ, Option.getD_some, bin_lss, if_true, decide_false, hlt', hf.len]
    rw [List.take_of_length_le (by omega)] at hu
    exact hu.gc flat_e1

theorem s70 {f : List (Int × Int)} {v : AV} {A : AHeap} (hf : L2 A v f) (h : good f) : ACalls Try.prog 70 [v] A (I (tot f)) A := by
  refine acalls hmix Try.func70 (by kernel_rfl) t70 1 rfl (by decide) ?_
  dsimp only [m70]
  simp -implicitDefEqProofs -dsimp (disch := omega) only [↓AW_ops, ↓AW_seq, ↓AOps_nil, ↓AOps_pu, ↓AOps_call, on_some, ↓then_normal, pval, rd_S, rd_C, put_S, List.replicate_succ, List.replicate_zero, List.set_cons_zero, List.set_cons_succ, List.getElem?_cons_zero, List.getElem?_cons_succ, Option.getD_some, map_c, map_n, Nat.reduceSub, List.cons_append, List.nil_append]
  refine CallK.of (s68 hf h) ?_
  have hu := Ls_out A e1_len (units f)
  have hp := pre_out A ((units f).flatMap e1) (units f).length
  simp -implicitDefEqProofs -dsimp (disch := omega) only [↓AW_ops, ↓AW_seq, ↓AW_block, ↓AOps_nil, ↓AOps_pu, on_some, extK_false, ↓then_normal, pval, rd_S, rd_C, put_S, ↓AW_toLoop, List.replicate_succ, List.replicate_zero, List.set_cons_zero, List.set_cons_succ, List.getElem?_cons_zero, List.getElem?_cons_succ, Option.getD_some, Nat.reduceSub, List.cons_append, List.nil_append]
  generalize outV 1 A (units f).length = u at *
  generalize outH A ((units f).flatMap e1) (units f).length = A1 at *
  have hl := len_units h.2
  have hb := len_bound h
  have hs := sum_units h.2
  refine LoopK.by 21 (fun i : Nat => i ≤ (units f).length) (fun i => [(3, I ((units f).take i).sum), (4, u), (5, I i)]) (fun _ => A1) (fun i => (units f).length - i) 0 (by omega) rfl (by simp [Has, rd_s]) rfl ?_
  intro i hi
  by_cases hlt : i < (units f).length
  · obtain ⟨z, hz⟩ : ∃ z, (units f)[i]? = some z := ⟨_, List.getElem?_eq_getElem hlt⟩
    have hlt' : (i : Int) < (units f).length := by omega
    have b2 : ∀ y ∈ units f, 0 ≤ y ∧ y ≤ 20 := by
      intro y hy
      obtain ⟨w, hw, hy⟩ := List.mem_flatMap.1 hy
      have := (vz_iff w).1 (List.all_eq_true.1 h.2 w hw)
      have := (List.mem_replicate.1 hy).2
      omega
    have b1 : 0 ≤ ((units f).take i).sum ∧ ((units f).take i).sum ≤ 20 * ((units f).take i).length := by
      have : ∀ l : List Int, (∀ y ∈ l, 0 ≤ y ∧ y ≤ 20) → 0 ≤ l.sum ∧ l.sum ≤ 20 * l.length := by
        intro l
        induction l with
        | nil => intro _; simp
        | cons a l ih =>
          intro h
          have h1 := ih (fun y hy => h y (by simp [hy]))
          have h2 := h a (by simp)
          simp only [List.sum_cons, List.length_cons]
          omega
      exact this _ (fun y hy => b2 y (List.mem_of_mem_take hy))
    have b3 : (((units f).take i).length : Int) ≤ 120 := by rw [List.length_take]; omega
    have b4 := b2 z (List.mem_of_getElem? hz)
    simp -implicitDefEqProofs -dsimp (disch := omega) only [↓AW_skip, ↓AW_ops, ↓AW_seq, ↓AW_cond, ↓AW_block, ↓AOps_nil, ↓AOps_pu, ↓AOps_ld, on_some, condB_t, ↓then_normal, ↓inBlock_normal, pval, lval, rd_S, rd_C, put_S, partA, mk, List.foldl_cons, List.foldl_nil, List.replicate_succ, List.replicate_zero, List.set_cons_zero, List.set_cons_succ, List.getElem?_cons_zero, List.getElem?_cons_succ, List.drop_zero, List.take_succ_cons, List.take_nil, Option.getD_some, List.length_cons, List.length_nil, Nat.reduceAdd, Nat.reduceLeDiff, Nat.zero_add, bin_add, bin_lss, w64, if_true, if_false, Bool.false_eq_true, decide_true, e1, true_and, hlt', hu.len, hu.idx hlt, hu.ld0 hz 1 false (by decide)]
    exact ⟨i + 1, hlt, by simp [Has, rd_s, List.take_add_one, hz], by omega⟩
  · have hlt' : ¬ ((i : Int) < (units f).length) := by omega
    simp -implicitDefEqProofs -dsimp (disch := omega) only [↓AW_ops, ↓AW_seq, ↓AW_cond, ↓AW_exit, ↓AW_ret, ↓AOps_nil, ↓AOps_pu, on_some, condB_f, ↓then_normal, ↓then_exit, ↓inBlock_exit, ↓Fin_ret, pval, rd_S, put_S, resV, resL, mk, List.foldl_cons, List.foldl_nil, List.replicate_succ, List.replicate_zero, List.set_cons_zero, List.set_cons_succ, List.getElem?_cons_zero, List.getElem?_cons_succ, Option.getD_some, bin_lss, if_true, decide_false, hlt', hu.len]
    refine gc_val hp ?_
    rw [List.take_of_length_le (by omega), hs]
    rfl

end Go.Proofs.Ytnnbggcckabhdaa
