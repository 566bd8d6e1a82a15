/- What the law's proof rests on, part 4: for all that is said in each line. No conditions. -/
import Derived.Test.YtdcdjhhjlpegjaaCeA
namespace Go.Proofs.Ytdcdjhhjlpegjaa
open Go Go.Eng
/-- Numbers in ascending order. -/
def srt (xs : List Int) : List Int := xs.mergeSort (fun a b => decide (a ≤ b))
theorem srt_perm (xs : List Int) : (srt xs).Perm xs := List.mergeSort_perm xs _
theorem srt_pw (xs : List Int) : (srt xs).Pairwise (· ≤ ·) := by
  have := List.pairwise_mergeSort (le := fun a b : Int => decide (a ≤ b)) (fun a b c h k => by simp at *; omega) (fun a b => by simp; omega) xs
  exact this.imp (fun h => by simpa using h)
theorem srt_len (xs : List Int) : (srt xs).length = xs.length := (srt_perm xs).length_eq
theorem srt_uniq {zs xs : List Int} (hp : zs.Perm xs) (h : zs.Pairwise (· ≤ ·)) : zs = srt xs :=
  List.Perm.eq_of_pairwise (le := fun a b : Int => a ≤ b) (fun a b _ _ h1 h2 => by omega) h (srt_pw xs) (hp.trans (srt_perm xs).symm)
/-- The first elements are in order. -/
def SU (zs : List Int) (i : Nat) : Prop := ∀ (p q : Nat) (a b : Int), p < q → q < i → zs[p]? = some a → zs[q]? = some b → a ≤ b
theorem SU.one (zs : List Int) : SU zs 1 := fun p q a b h k => by omega
theorem SU.zero (zs : List Int) : SU zs 0 := fun p q a b h k => by omega
theorem SU.all {zs : List Int} (h : SU zs zs.length) : zs.Pairwise (· ≤ ·) := by
  rw [List.pairwise_iff_getElem]
  intro i j hi hj hij
  exact h i j _ _ hij hj (List.getElem?_eq_getElem hi) (List.getElem?_eq_getElem hj)
theorem SU.srt {zs xs : List Int} (hp : zs.Perm xs) {i : Nat} (h : SU zs i) (hi : xs.length ≤ i) : zs = srt xs := by
  refine srt_uniq hp (SU.all (fun p q a b h1 h2 => h p q a b h1 ?_))
  have := hp.length_eq
  omega
/-- An element that goes down to its place. -/
structure IS (xs zs : List Int) (i j : Nat) : Prop where
  perm : zs.Perm xs
  a : ∀ (p q : Nat) (a b : Int), p < q → q ≤ i → p ≠ j → q ≠ j → zs[p]? = some a → zs[q]? = some b → a ≤ b
  b : ∀ (q : Nat) (x y : Int), j < q → q ≤ i → zs[j]? = some x → zs[q]? = some y → x ≤ y
theorem IS.start {xs zs : List Int} {i : Nat} (hp : zs.Perm xs) (h : SU zs i) : IS xs zs i i :=
  ⟨hp, fun p q a b h1 h2 _ h4 => h p q a b h1 (by omega), fun q x y h1 h2 => by omega⟩
theorem IS.zero {xs zs : List Int} {i : Nat} (h : IS xs zs i 0) : SU zs (i + 1) := by
  intro p q a b h1 h2 h3 h4
  by_cases hp : p = 0
  · subst hp
    exact h.b q a b h1 (by omega) h3 h4
  · exact h.a p q a b h1 (by omega) hp (by omega) h3 h4
theorem IS.stop {xs zs : List Int} {i j : Nat} {x y : Int} (h : IS xs zs i (j + 1)) (hx : zs[j + 1]? = some x) (hy : zs[j]? = some y) (hxy : ¬ x < y) : SU zs (i + 1) := by
  intro p q a b h1 h2 h3 h4
  by_cases hq : q = j + 1
  · subst hq
    have hbx : b = x := by rw [hx] at h4; exact (Option.some.inj h4).symm
    subst hbx
    by_cases hp : p = j
    · subst hp
      have : a = y := by rw [hy] at h3; exact (Option.some.inj h3).symm
      omega
    · have := h.a p j a y (by omega) (by omega) (by omega) (by omega) h3 hy
      omega
  · by_cases hp : p = j + 1
    · subst hp
      exact h.b q a b h1 (by omega) h3 h4
    · exact h.a p q a b h1 (by omega) hp hq h3 h4
theorem swap_get {zs : List Int} {j : Nat} {x y : Int} (hj : j + 1 < zs.length) (k : Nat) : ((zs.set (j + 1) y).set j x)[k]? = if k = j then some x else if k = j + 1 then some y else zs[k]? := by
  rw [List.getElem?_set, List.getElem?_set]
  by_cases h1 : k = j
  · subst h1
    rw [if_pos rfl, if_pos rfl, if_pos (by simp; omega)]
  · rw [if_neg (Ne.symm h1), if_neg h1]
    by_cases h2 : k = j + 1
    · subst h2
      rw [if_pos rfl, if_pos rfl, if_pos hj]
    · rw [if_neg (Ne.symm h2), if_neg h2]
theorem IS.swap {xs zs : List Int} {i j : Nat} {x y : Int} (h : IS xs zs i (j + 1)) (hi : j + 1 ≤ i) (hx : zs[j + 1]? = some x) (hy : zs[j]? = some y) (hxy : x < y) : IS xs ((zs.set (j + 1) y).set j x) i j := by
  obtain ⟨h1, rfl⟩ := List.getElem?_eq_some_iff.1 hx
  obtain ⟨h2, rfl⟩ := List.getElem?_eq_some_iff.1 hy
  refine ⟨(List.set_set_perm h1 h2).trans h.perm, fun p q a b hpq hqi hp hq ha hb => ?_, fun q a b hjq hqi ha hb => ?_⟩
  · rw [swap_get h1] at ha hb
    rw [if_neg hp] at ha
    rw [if_neg hq] at hb
    by_cases hq1 : q = j + 1
    · rw [if_pos hq1] at hb
      rw [if_neg (by omega)] at ha
      have := h.a p j a zs[j] (by omega) (by omega) (by omega) (by omega) ha hy
      have := Option.some.inj hb
      omega
    · rw [if_neg hq1] at hb
      by_cases hp1 : p = j + 1
      · rw [if_pos hp1] at ha
        have := h.a j q zs[j] b (by omega) hqi (by omega) hq1 hy hb
        have := Option.some.inj ha
        omega
      · rw [if_neg hp1] at ha
        exact h.a p q a b hpq hqi hp1 hq1 ha hb
  · rw [swap_get h1] at ha hb
    rw [if_pos rfl] at ha
    rw [if_neg (by omega)] at hb
    have ha := Option.some.inj ha
    by_cases hq1 : q = j + 1
    · rw [if_pos hq1] at hb
      have := Option.some.inj hb
      omega
    · rw [if_neg hq1] at hb
      have := h.b q _ b (by omega) hqi hx hb
      omega
theorem s109 (a : Int) (A : AHeap) : ACalls Try.prog 109 [I a] A (B false) A := by
  refine acalls hmix Try.func109 (by kernel_rfl) t109 1 rfl (by decide) ?_
  dsimp only [m109]
  simp (maxSteps := 4000000) -implicitDefEqProofs -dsimp (disch := omega) only [↓AW_ops, ↓AW_seq, ↓AW_ret, ↓AOps_nil, ↓AOps_pu, on_some, ↓then_normal, ↓Fin_ret, pval, rd_S, rd_C, put_S, resV, resL, eq_self, List.replicate_succ, List.replicate_zero, List.set_cons_zero, List.set_cons_succ, List.getElem?_cons_zero, List.getElem?_cons_succ, Option.getD_some, Nat.reduceSub, List.cons_append, List.nil_append, bin_neq, decide_false, not_true_eq_false]
  exact gc_same rfl
theorem s98 (a b : Int) (A : AHeap) : ACalls Try.prog 98 [I a, I b] A (B (decide (a < b))) A := by
  refine acalls hmix Try.func98 (by kernel_rfl) t98 2 rfl (by decide) ?_
  dsimp only [m98]
  simp (maxSteps := 4000000) -implicitDefEqProofs -dsimp (disch := omega) only [↓AW_ops, ↓AW_seq, ↓AOps_nil, ↓AOps_pu, ↓AOps_call, on_some, ↓then_normal, pval, rd_S, rd_C, put_S, List.replicate_succ, List.replicate_zero, List.set_cons_zero, List.set_cons_succ, List.getElem?_cons_zero, List.getElem?_cons_succ, Option.getD_some, map_c, map_n, Nat.reduceSub, List.cons_append, List.nil_append]
  refine CallK.of (s109 a A) ?_
  simp (maxSteps := 4000000) -implicitDefEqProofs -dsimp (disch := omega) only [↓AW_ret, ↓AOps_nil, ↓AOps_pu, ↓AOps_guard, on_some, extK_same, guardB_ft, guardB_ff, skipS_some, ↓then_normal, ↓Fin_ret, pval, rd_S, rd_C, put_S, resV, resL, List.replicate_succ, List.replicate_zero, List.set_cons_zero, List.set_cons_succ, List.getElem?_cons_zero, List.getElem?_cons_succ, Option.getD_some, Nat.reduceSub, List.cons_append, List.nil_append, bin_lss, if_false, Bool.false_eq_true]
  exact gc_same rfl
theorem c_ins {xs : List Int} {v : AV} {A H : AHeap} {n : Nat} (h : OL 1 e1 A H n v xs) (hl : xs.length ≤ 1000) : ACalls Try.prog 92 [v, I 0, I xs.length] H (.tuple []) (H.set n (.cells true ((srt xs).flatMap e1))) := by
  refine acalls hmix Try.func92 (by kernel_rfl) t92 3 rfl (by decide) ?_
  dsimp only [m92]
  simp (maxSteps := 4000000) -implicitDefEqProofs -dsimp (disch := omega) only [↓AW_ops, ↓AW_seq, ↓AW_block, ↓AOps_nil, ↓AOps_pu, on_some, ↓then_normal, pval, rd_S, rd_C, put_S, ↓AW_toLoop, List.replicate_succ, List.replicate_zero, List.set_cons_zero, List.set_cons_succ, List.getElem?_cons_zero, List.getElem?_cons_succ, Option.getD_some, Nat.reduceSub, List.cons_append, List.nil_append, bin_add, w64, Int.reduceAdd]
  refine LoopK.by 49 (fun x : Nat × List Int => (1 ≤ x.1 ∧ x.1 ≤ xs.length + 1) ∧ x.2.Perm xs ∧ SU x.2 x.1) (fun x => [(0, v), (1, I 0), (2, I xs.length), (6, I x.1)]) (fun x => H.set n (.cells true (x.2.flatMap e1))) (fun x => xs.length + 1 - x.1) (1, xs) ⟨by simp only; omega, List.Perm.refl _, SU.one _⟩ rfl (by simp [Has, rd_s]) (by simp only; rw [set_same h.ob]) ?_
  rintro ⟨i, zs⟩ ⟨hi, hpz, hz⟩
  simp only at hi hpz hz
  by_cases hlt : i < xs.length
  · have hlt' : (i : Int) < xs.length := by omega
    simp (maxSteps := 4000000) -implicitDefEqProofs -dsimp (disch := omega) only [↓AW_skip, ↓AW_ops, ↓AW_seq, ↓AW_cond, ↓AW_block, ↓AOps_nil, ↓AOps_pu, on_some, condB_t, ↓then_normal, pval, rd_S, put_S, ↓AW_toLoop, mk, List.foldl_cons, List.foldl_nil, List.replicate_succ, List.replicate_zero, List.set_cons_zero, List.set_cons_succ, List.getElem?_cons_zero, List.getElem?_cons_succ, Option.getD_some, bin_lss, decide_true, hlt']
    refine LoopK.by 49 (fun x : Nat × List Int => x.1 ≤ i ∧ IS xs x.2 i x.1) (fun x => [(0, v), (1, I 0), (2, I xs.length), (6, I i), (7, I x.1)]) (fun x => H.set n (.cells true (x.2.flatMap e1))) (fun x => x.1) (i, zs) ⟨by simp only; omega, IS.start hpz hz⟩ rfl (by simp [Has, rd_s]) rfl ?_
    rintro ⟨j, ws⟩ ⟨hj, hs⟩
    simp only at hj hs
    have hlen := hs.perm.length_eq
    have ho := OL_setAll h ws hlen
    cases j with
    | zero =>
      have hz0 : ¬ ((0 : Nat) : Int) > 0 := by omega
      simp (maxSteps := 4000000) -implicitDefEqProofs -dsimp (disch := omega) only [↓AW_ops, ↓AW_seq, ↓AW_cond, ↓AW_exit, ↓AOps_nil, ↓AOps_pu, ↓AOps_guard, on_some, guardB_ft, skipS_some, condB_f, ↓then_normal, ↓then_exit, ↓inBlock_normal, ↓inBlock_exit, ↓Fin_normal, pval, rd_S, rd_C, put_S, resV, resL, eq_self, mk, List.foldl_cons, List.foldl_nil, List.replicate_succ, List.replicate_zero, List.set_cons_zero, List.set_cons_succ, List.getElem?_cons_zero, List.getElem?_cons_succ, Option.getD_some, List.length_cons, List.length_nil, Nat.reduceAdd, Nat.reduceEqDiff, Nat.zero_add, bin_add, bin_gtr, w64, if_true, if_false, Bool.false_eq_true, decide_false, true_and, reduceCtorEq, Int.reduceLT, Int.ofNat_zero]
      exact ⟨(i + 1, ws), ⟨by simp only; omega, hs.perm, hs.zero⟩, by simp [Has, rd_s], rfl, by simp only; omega⟩
    | succ k =>
      have hk1 : k + 1 < ws.length := by omega
      have hk0 : k < ws.length := by omega
      have hjp : (0 : Int) < ((k + 1 : Nat) : Int) := by omega
      have hjm : ((k + 1 : Nat) : Int) - 1 = (k : Int) := by omega
      obtain ⟨x, hx⟩ : ∃ x, ws[k + 1]? = some x := ⟨_, List.getElem?_eq_getElem hk1⟩
      obtain ⟨y, hy⟩ : ∃ y, ws[k]? = some y := ⟨_, List.getElem?_eq_getElem hk0⟩
      have h1 := ho.st hk1 (I y) y rfl
      rw [List.set_set] at h1
      have ho2 := OL_setAll h (ws.set (k + 1) y) (by simp [hlen])
      have h2 := ho2.st (i := k) (by simp; omega) (I x) x rfl
      rw [List.set_set] at h2
      have hswap := hs.swap (x := x) (y := y) hj hx hy
      have hstop := hs.stop hx hy
      generalize hJ : ((k + 1 : Nat) : Int) = J at *
      have hidx1 : idxA 1 v (.int .i64 J) = some (.ptr (nm v) (of v + (k + 1) * 1)) := by rw [← hJ]; exact ho.ls.idx hk1
      simp (maxSteps := 4000000) -implicitDefEqProofs -dsimp (disch := omega) only [↓AW_ops, ↓AW_seq, ↓AOps_pu, ↓AOps_ld, ↓AOps_call, ↓AOps_guard, on_some, guardB_tt, pval, lval, rd_S, rd_C, put_S, partA, eq_self, mk, List.foldl_cons, List.foldl_nil, List.replicate_succ, List.replicate_zero, List.set_cons_zero, List.set_cons_succ, List.getElem?_cons_zero, List.getElem?_cons_succ, List.drop_zero, List.take_succ_cons, List.take_nil, Option.getD_some, map_c, map_n, List.length_cons, List.length_nil, Nat.reduceLeDiff, Nat.zero_add, bin_sub, bin_gtr, w64, if_true, if_false, Bool.false_eq_true, decide_true, Go.Eng.e1, hjp, hjm, hidx1, ho.ls.ld0 hx 1 false (by decide), ho.ls.idx hk0, ho.ls.ld0 hy 1 false (by decide)]
      refine CallK.of (s98 x y _) ?_
      by_cases hxy : x < y
      · simp (maxSteps := 4000000) -implicitDefEqProofs -dsimp (disch := omega) only [↓AW_skip, ↓AW_ops, ↓AW_seq, ↓AW_cond, ↓AW_block, ↓AOps_nil, ↓AOps_pu, ↓AOps_ld, ↓AOps_ha, on_some, extK_false, extK_same, condB_t, ↓then_normal, ↓inBlock_normal, pval, lval, hval_st, rd_S, rd_C, put_S, putS_none, partA, eq_self, mk, List.foldl_cons, List.foldl_nil, List.replicate_succ, List.replicate_zero, List.set_cons_zero, List.set_cons_succ, List.getElem?_cons_zero, List.getElem?_cons_succ, List.drop_zero, List.take_succ_cons, List.take_nil, Option.getD_some, Option.map_some, List.length_cons, List.length_nil, Nat.reduceAdd, Nat.reduceLeDiff, Nat.zero_add, bin_sub, w64, if_true, if_false, Bool.false_eq_true, decide_true, Go.Eng.e1, true_and, hxy, hjm, hidx1, ho.ls.ld0 hx 1 false (by decide), ho.ls.idx hk0, ho.ls.ld0 hy 1 false (by decide), h1, h2]
        exact ⟨(k, (ws.set (k + 1) y).set k x), ⟨by simp only; omega, hswap hxy⟩, by simp [Has, rd_s], rfl, by simp only; omega⟩
      · simp (maxSteps := 4000000) -implicitDefEqProofs -dsimp (disch := omega) only [↓AW_ops, ↓AW_cond, ↓AW_exit, ↓AOps_nil, ↓AOps_pu, on_some, extK_same, condB_f, ↓then_normal, ↓then_exit, ↓inBlock_normal, ↓inBlock_exit, ↓Fin_normal, pval, rd_S, rd_C, put_S, resV, resL, eq_self, mk, List.foldl_cons, List.foldl_nil, List.replicate_succ, List.replicate_zero, List.set_cons_zero, List.set_cons_succ, List.getElem?_cons_zero, List.getElem?_cons_succ, Option.getD_some, List.length_cons, List.length_nil, Nat.reduceAdd, Nat.reduceEqDiff, Nat.zero_add, bin_add, w64, if_true, if_false, decide_false, true_and, reduceCtorEq, hxy]
        exact ⟨(i + 1, ws), ⟨by simp only; omega, hs.perm, hstop hxy⟩, by simp [Has, rd_s], rfl, by simp only; omega⟩
  · have hlt' : ¬ (i : Int) < xs.length := by omega
    have he := SU.srt hpz hz (by omega)
    simp (maxSteps := 4000000) -implicitDefEqProofs -dsimp (disch := omega) only [↓AW_ops, ↓AW_seq, ↓AW_cond, ↓AW_exit, ↓AOps_nil, ↓AOps_pu, on_some, condB_f, ↓then_normal, ↓then_exit, ↓inBlock_exit, ↓Fin_normal, pval, rd_S, put_S, resV, resL, eq_self, mk, List.foldl_cons, List.foldl_nil, List.replicate_succ, List.replicate_zero, List.set_cons_zero, List.set_cons_succ, List.getElem?_cons_zero, List.getElem?_cons_succ, Option.getD_some, bin_lss, if_true, decide_false, hlt']
    rw [he]
    exact gc_same_all rfl rfl
theorem c_pdq {xs : List Int} {v : AV} {A H : AHeap} {n : Nat} (h : OL 1 e1 A H n v xs) (hl : xs.length ≤ 12) (k : Int) : ACalls Try.prog 83 [v, I 0, I xs.length, I k] H (.tuple []) (H.set n (.cells true ((srt xs).flatMap e1))) := by
  refine acalls hmix Try.func83 (by kernel_rfl) t83 4 rfl (by decide) ?_
  dsimp only [m83]
  simp (maxSteps := 4000000) -implicitDefEqProofs -dsimp (disch := omega) only [↓AW_ops, ↓AW_seq, ↓AW_block, ↓AOps_nil, ↓AOps_pu, on_some, ↓then_normal, pval, rd_C, put_S, ↓AW_toLoop, List.replicate_succ, List.replicate_zero, List.set_cons_zero, List.set_cons_succ, Nat.reduceSub, List.cons_append, List.nil_append]
  refine LoopK.by 134 (fun _ : Unit => True) (fun _ => [(0, v), (1, I 0), (2, I xs.length), (3, I k), (8, B true), (9, B true)]) (fun _ => H) (fun _ => 0) () trivial rfl (by simp [Has, rd_s]) rfl ?_
  rintro _ _
  have h12 : (xs.length : Int) ≤ 12 := by omega
  have h0 : (xs.length : Int) - 0 = xs.length := by omega
  simp (maxSteps := 4000000) -implicitDefEqProofs -dsimp (disch := omega) only [↓AW_ops, ↓AW_seq, ↓AW_cond, ↓AW_block, ↓AOps_nil, ↓AOps_pu, ↓AOps_call, on_some, condB_t, ↓then_normal, pval, rd_S, rd_C, put_S, mk, List.foldl_cons, List.foldl_nil, List.replicate_succ, List.replicate_zero, List.set_cons_zero, List.set_cons_succ, List.getElem?_cons_zero, List.getElem?_cons_succ, Option.getD_some, map_c, map_n, bin_sub, bin_leq, w64, decide_true, h0, h12]
  refine CallK.of (c_ins h (by omega)) ?_
  simp (maxSteps := 4000000) -implicitDefEqProofs -dsimp (disch := omega) only [↓AW_ret, ↓AOps_nil, on_some, extK_false, ↓then_normal, ↓then_ret, ↓inBlock_ret, ↓Fin_ret, resV, resL]
  exact gc_same_all rfl rfl
def isI : Option (AV × AHeap) → Bool
  | some (.int .i64 _, _) => true
  | _ => false
set_option maxRecDepth 100000 in
theorem len_run : (List.range 13).all (fun k => isI (runF tab 300 14 84 [.int .u64 (k : Int)] [])) = true := by kernel_rfl
theorem c_Len {k : Nat} (hk : k ≤ 12) (A : AHeap) : ∃ n : Int, ACalls Try.prog 84 [.int .u64 (k : Int)] A (I n) A := by
  have h := List.all_eq_true.1 len_run k (List.mem_range.2 (by omega))
  cases hr : runF tab 300 14 84 [.int .u64 (k : Int)] [] with
  | none => rw [hr] at h; cases h
  | some p =>
    obtain ⟨v, A'⟩ := p
    rw [hr] at h
    have h2 : ∃ n, v = I n := by
      unfold isI at h
      split at h
      · rename_i m _ e; cases e; exact ⟨m, rfl⟩
      · cases h
    obtain ⟨n, rfl⟩ := h2
    exact ⟨n, (runF_ok hmix tabOK 300 14 84 [.int .u64 (k : Int)] [] _ _ hr).lift (by simp [flat]) rfl A⟩
theorem wu64 {n : Int} (h0 : 0 ≤ n) (h1 : n < 18446744073709551616) : IntKind.u64.wrap n = n := by
  have : (2 : Int) ^ IntKind.u64.bits = 18446744073709551616 := by decide
  unfold IntKind.wrap
  simp only [this, IntKind.signed, Bool.false_and, Bool.false_eq_true, if_false]
  exact Int.emod_eq_of_lt h0 h1
theorem c_Sort {xs : List Int} {v : AV} {A H : AHeap} {n : Nat} (h : OL 1 e1 A H n v xs) (hl : xs.length ≤ 12) : ACalls Try.prog 72 [v] H (.tuple []) (H.set n (.cells true ((srt xs).flatMap e1))) := by
  refine acalls hmix Try.func72 (by kernel_rfl) t72 1 rfl (by decide) ?_
  obtain ⟨k, hk⟩ := c_Len hl H
  have hw := wu64 (n := (xs.length : Int)) (by omega) (by omega)
  dsimp only [m72]
  simp (maxSteps := 4000000) -implicitDefEqProofs -dsimp (disch := omega) only [↓AW_ops, ↓AW_seq, ↓AOps_nil, ↓AOps_pu, ↓AOps_call, on_some, ↓then_normal, pval, rd_S, put_S, List.replicate_succ, List.replicate_zero, List.set_cons_zero, List.set_cons_succ, List.getElem?_cons_zero, List.getElem?_cons_succ, Option.getD_some, map_c, map_n, Nat.reduceSub, List.cons_append, List.nil_append, h.ls.len, hw]
  refine CallK.of hk ?_
  simp (maxSteps := 4000000) -implicitDefEqProofs -dsimp (disch := omega) only [↓AOps_call, extK_same, rd_S, rd_C, put_S, List.replicate_succ, List.replicate_zero, List.set_cons_zero, List.set_cons_succ, List.getElem?_cons_zero, List.getElem?_cons_succ, Option.getD_some, map_c, map_n, Nat.reduceSub, List.cons_append, List.nil_append]
  refine CallK.of (c_pdq h hl k) ?_
  simp (maxSteps := 4000000) -implicitDefEqProofs -dsimp (disch := omega) only [↓AOps_nil, on_some, extK_false, ↓Fin_normal, resV, resL]
  exact gc_same_all rfl rfl
end Go.Proofs.Ytdcdjhhjlpegjaa

namespace Go.Proofs.Ytdcdjhhjlpegjaa
open Go Go.Eng
/-- The smaller one of a claim and a number. -/
def mnq (c : Int) (l : Rat) : Rat := if (c : Rat) < l then (c : Rat) else l
def lev : List Int → Int → Rat
  | [], _ => 0
  | c :: s, left => if left ≤ c * ((s.length : Int) + 1) then (left : Rat) / (((s.length : Int) + 1 : Int) : Rat) else lev s (left - c)
/-- The number for an estate. -/
def lv (cs : List Int) (e : Int) : Rat := lev (srt cs) e
def capL (cs : List Int) (l : Rat) : List Rat := cs.map (fun c => mnq c l)
theorem mnq_le (c : Int) (l : Rat) : mnq c l ≤ l ∧ mnq c l ≤ (c : Rat) := by
  unfold mnq
  split
  · rename_i h; exact ⟨Rat.le_of_lt h, Rat.le_refl⟩
  · rename_i h; exact ⟨Rat.le_refl, Rat.not_lt.1 h⟩
theorem mnq_ge {c : Int} {l m : Rat} (h1 : m ≤ l) (h2 : m ≤ (c : Rat)) : m ≤ mnq c l := by
  unfold mnq; split <;> assumption
theorem mnq_c {c : Int} {l : Rat} (h : (c : Rat) ≤ l) : mnq c l = (c : Rat) := by
  unfold mnq
  split
  · rfl
  · rename_i h2; exact Rat.le_antisymm (Rat.not_lt.1 h2) h
theorem mnq_l {c : Int} {l : Rat} (h : l ≤ (c : Rat)) : mnq c l = l := by
  unfold mnq
  rw [if_neg (Rat.not_lt.2 h)]
theorem mnq_mono (c : Int) {l m : Rat} (h : l ≤ m) : mnq c l ≤ mnq c m := mnq_ge (Rat.le_trans (mnq_le c l).1 h) (mnq_le c l).2
theorem perm_sum {α : Type} (f : α → Rat) {xs ys : List α} (h : xs.Perm ys) : (xs.map f).sum = (ys.map f).sum := by
  induction h with
  | nil => rfl
  | cons x _ ih => rw [List.map_cons, List.map_cons, List.sum_cons, List.sum_cons, ih]
  | swap x y l =>
    simp only [List.map_cons, List.sum_cons]
    rw [← Rat.add_assoc, ← Rat.add_assoc, Rat.add_comm (f y)]
  | trans _ _ h1 h2 => exact h1.trans h2
theorem perm_isum {xs ys : List Int} (h : xs.Perm ys) : xs.sum = ys.sum := by
  induction h with
  | nil => rfl
  | cons x _ ih => rw [List.sum_cons, List.sum_cons, ih]
  | swap x y l => simp only [List.sum_cons]; omega
  | trans _ _ h1 h2 => exact h1.trans h2
theorem sum_le {α : Type} {f g : α → Rat} : ∀ {xs : List α}, (∀ x ∈ xs, f x ≤ g x) → (xs.map f).sum ≤ (xs.map g).sum
  | [], _ => Rat.le_refl
  | x :: xs, h => by
    rw [List.map_cons, List.map_cons, List.sum_cons, List.sum_cons]
    have h1 := h x (by simp)
    have h2 := sum_le (fun y hy => h y (by simp [hy])) (f := f) (g := g) (xs := xs)
    grind
theorem sum_lt {α : Type} {f g : α → Rat} : ∀ {xs : List α}, (∀ x ∈ xs, f x ≤ g x) → (∃ x ∈ xs, f x < g x) → (xs.map f).sum < (xs.map g).sum
  | [], _, h => by obtain ⟨x, hx, _⟩ := h; simp at hx
  | x :: xs, h, k => by
    rw [List.map_cons, List.map_cons, List.sum_cons, List.sum_cons]
    have h0 := h x (by simp)
    have hr := sum_le (fun y hy => h y (by simp [hy])) (f := f) (g := g) (xs := xs)
    obtain ⟨y, hy, hl⟩ := k
    rcases List.mem_cons.1 hy with rfl | hy
    · grind
    · have := sum_lt (fun y hy => h y (by simp [hy])) ⟨y, hy, hl⟩ (f := f) (g := g) (xs := xs)
      grind
theorem sum_const (l : Rat) : ∀ xs : List Int, (xs.map (fun _ => l)).sum = ((xs.length : Int) : Rat) * l
  | [] => by simp only [List.map_nil, List.sum_nil, List.length_nil]; show (0 : Rat) = ((0 : Int) : Rat) * l; rw [int0, Rat.zero_mul]
  | x :: xs => by
    rw [List.map_cons, List.sum_cons, sum_const l xs, List.length_cons]
    have : (((xs.length + 1 : Nat) : Int) : Rat) = ((xs.length : Int) : Rat) + 1 := by rw [Int.natCast_add, Rat.intCast_add]; rfl
    rw [this, Rat.add_mul, Rat.one_mul, Rat.add_comm]
theorem cap_sum_le (cs : List Int) (l : Rat) : (capL cs l).sum ≤ ((cs.length : Int) : Rat) * l := by
  rw [← sum_const l cs]
  exact sum_le (fun c _ => (mnq_le c l).1)
/-- What the number is. -/
structure LV (cs : List Int) (e : Int) (l : Rat) : Prop where
  l0 : 0 ≤ l
  lc : ∃ c ∈ cs, l ≤ (c : Rat)
  s : (capL cs l).sum = (e : Rat)
theorem LV.uniq {cs : List Int} {e : Int} {l m : Rat} (h : LV cs e l) (k : LV cs e m) : l = m := by
  have key : ∀ {l m : Rat}, LV cs e l → LV cs e m → ¬ l < m := by
    intro l m h k hlt
    obtain ⟨c, hc, hm⟩ := k.lc
    have := sum_lt (f := fun c => mnq c l) (g := fun c => mnq c m) (xs := cs) (fun c _ => mnq_mono c (Rat.le_of_lt hlt)) ⟨c, hc, by
      rw [mnq_l hm, mnq_l (Rat.le_trans (Rat.le_of_lt hlt) hm)]
      exact hlt⟩
    have h1 := h.s
    have h2 := k.s
    unfold capL at h1 h2
    rw [h1, h2] at this
    exact absurd this (Rat.lt_irrefl)
  exact Rat.le_antisymm (Rat.not_lt.1 (key k h)) (Rat.not_lt.1 (key h k))
theorem div_mul_same {a : Rat} {n : Int} (h : 0 < n) : (n : Rat) * (a / (n : Rat)) = a := by
  rw [Rat.mul_comm]
  exact Rat.div_mul_cancel (Ne.symm (Rat.ne_of_lt (cast_pos h)))
theorem lev_char : ∀ (s : List Int) (left : Int), s.Pairwise (· ≤ ·) → (∀ c ∈ s, 0 ≤ c) → s ≠ [] → 0 ≤ left → left ≤ s.sum → LV s left (lev s left) ∧ ∃ k : Int, (1 ≤ k ∧ k ≤ s.length) ∧ ((lev s left).den : Int) ∣ k
  | [], _, _, _, h, _, _ => absurd rfl h
  | c :: s, left, hp, h0, _, hl0, hl1 => by
    have hc0 := h0 c (by simp)
    rw [List.pairwise_cons] at hp
    have hn : (0 : Int) < (s.length : Int) + 1 := by omega
    have hnr := cast_pos hn
    rw [lev]
    split
    · rename_i hle
      generalize hl : (left : Rat) / (((s.length : Int) + 1 : Int) : Rat) = l at *
      have hlc : l ≤ (c : Rat) := by
        rw [← hl]
        refine div_le hnr ?_
        rw [← Rat.intCast_mul]
        exact Rat.intCast_le_intCast.2 hle
      refine ⟨⟨?_, ⟨c, by simp, hlc⟩, ?_⟩, (s.length : Int) + 1, ⟨by omega, by simp⟩, ?_⟩
      · rw [← hl]; exact div_ge0 hnr (cast_nonneg hl0)
      · have e1 : capL (c :: s) l = (c :: s).map (fun _ => l) := by
          unfold capL
          refine List.map_congr_left (fun x hx => mnq_l ?_)
          rcases List.mem_cons.1 hx with rfl | hx
          · exact hlc
          · exact Rat.le_trans hlc (Rat.intCast_le_intCast.2 (hp.1 x hx))
        rw [e1, sum_const, ← hl, List.length_cons]
        have : ((s.length + 1 : Nat) : Int) = (s.length : Int) + 1 := by omega
        rw [this, div_mul_same hn]
      · rw [← hl]; exact div_den hn
    · rename_i hle
      have hs : s ≠ [] := by
        rintro rfl
        simp only [List.sum_cons, List.sum_nil, List.length_nil] at hl1 hle
        omega
      have hlen : 0 < s.length := List.length_pos_iff.2 hs
      have hsp : c * ((s.length : Int) + 1) = c * s.length + c := by rw [Int.mul_add, Int.mul_one]
      have hcs : 0 ≤ c * (s.length : Int) := Int.mul_nonneg hc0 (by omega)
      rw [List.sum_cons] at hl1
      obtain ⟨hL, k, hk, hd⟩ := lev_char s (left - c) hp.2 (fun x hx => h0 x (by simp [hx])) hs (by omega) (by omega)
      generalize lev s (left - c) = l at *
      have hcl : (c : Rat) ≤ l := by
        have h1 := cap_sum_le s l
        rw [hL.s] at h1
        have h2 : ((c * (s.length : Int) : Int) : Rat) ≤ ((left - c : Int) : Rat) := Rat.intCast_le_intCast.2 (by omega)
        have h3 := Rat.le_trans h2 h1
        rw [Rat.intCast_mul, Rat.mul_comm] at h3
        exact Rat.le_of_mul_le_mul_left h3 (cast_pos (by omega))
      obtain ⟨d, hdm, hdl⟩ := hL.lc
      refine ⟨⟨hL.l0, ⟨d, by simp [hdm], hdl⟩, ?_⟩, k, ⟨hk.1, by simp only [List.length_cons]; omega⟩, hd⟩
      show (mnq c l :: capL s l).sum = (left : Rat)
      rw [List.sum_cons, hL.s, mnq_c hcl, Rat.intCast_sub]
      grind
/-- The number, for a case. -/
theorem lv_char {cs : List Int} {e : Int} (h : CE cs e) : LV cs e (lv cs e) ∧ ∃ k : Int, (1 ≤ k ∧ k ≤ cs.length) ∧ ((lv cs e).den : Int) ∣ k := by
  have hp := srt_perm cs
  have hl1 := h.ok.l1
  obtain ⟨hL, k, hk, hd⟩ := lev_char (srt cs) e (srt_pw cs) (fun c hc => (h.ok.c c (hp.mem_iff.1 hc)).1) (by intro e2; have := srt_len cs; rw [e2] at this; simp at this; omega) h.e0 (by rw [perm_isum hp]; exact h.e1)
  refine ⟨⟨hL.l0, ?_, ?_⟩, k, ⟨hk.1, by have := srt_len cs; omega⟩, hd⟩
  · obtain ⟨c, hc, hcl⟩ := hL.lc
    exact ⟨c, hp.mem_iff.1 hc, hcl⟩
  · have := hL.s
    unfold capL at this ⊢
    rw [← perm_sum _ hp]
    exact this
theorem num_bd {q : Rat} {M : Int} (h0 : 0 ≤ q) (h1 : q ≤ (M : Rat)) : 0 ≤ q.num ∧ q.num ≤ M * (q.den : Int) := by
  have hdp := den_pos q
  have hne := cast_pos hdp
  have e := R_self q
  have hn : ((q.num : Int) : Rat) = q * ((q.den : Int) : Rat) := by
    conv => rhs; lhs; rw [e]
    exact (Rat.div_mul_cancel (Ne.symm (Rat.ne_of_lt hne))).symm
  constructor
  · refine Rat.intCast_le_intCast.1 ?_
    rw [hn, int0]
    exact Rat.mul_nonneg h0 (Rat.le_of_lt hne)
  · refine Rat.intCast_le_intCast.1 ?_
    rw [hn, Rat.intCast_mul]
    exact Rat.mul_le_mul_of_nonneg_right h1 (Rat.le_of_lt hne)
/-- Numbers from 0 to 1000 with a small denominator. -/
structure SQ (q : Rat) : Prop where
  q0 : 0 ≤ q
  q1 : q ≤ ((1000 : Int) : Rat)
  d : (q.den : Int) ≤ 1000
theorem SQ.num {q : Rat} (h : SQ q) : 0 ≤ q.num ∧ q.num ≤ 1000000 := by
  have := num_bd h.q0 h.q1
  have := h.d
  omega
theorem SQ.bd {q : Rat} (h : SQ q) : bdR (rp q) := by
  have h1 := h.num
  have h2 := h.d
  have h3 := den_pos q
  exact ⟨⟨by show 1 ≤ (q.den : Int); omega, by show (q.den : Int) ≤ 1000000; omega⟩, by show 0 ≤ q.num; omega, by show q.num ≤ 1000000000000; omega⟩
theorem SQ.int {c : Int} (h : 0 ≤ c ∧ c ≤ 1000) : SQ (c : Rat) := ⟨cast_nonneg h.1, Rat.intCast_le_intCast.2 h.2, by rw [Rat.den_intCast]; decide⟩
theorem SQ.mnq {c : Int} {l : Rat} (hc : 0 ≤ c ∧ c ≤ 1000) (hl : SQ l) : SQ (mnq c l) := by
  unfold Go.Proofs.Ytdcdjhhjlpegjaa.mnq
  split
  · exact SQ.int hc
  · exact hl
theorem lv_sq {cs : List Int} {e : Int} (h : CE cs e) : SQ (lv cs e) := by
  obtain ⟨hL, k, hk, hd⟩ := lv_char h
  have hl8 := h.ok.l8
  obtain ⟨c, hc, hcl⟩ := hL.lc
  have := Int.le_of_dvd (by omega) hd
  exact ⟨hL.l0, Rat.le_trans hcl (Rat.intCast_le_intCast.2 (h.ok.c c hc).2), by omega⟩
theorem mnq_iff {c : Int} {l : Rat} : c * (l.den : Int) < l.num ↔ (c : Rat) < l := by
  have hdp := den_pos l
  have hne := cast_pos hdp
  have e := R_self l
  have hn : ((l.num : Int) : Rat) = l * ((l.den : Int) : Rat) := by
    conv => rhs; lhs; rw [e]
    exact (Rat.div_mul_cancel (Ne.symm (Rat.ne_of_lt hne))).symm
  rw [← Rat.intCast_lt_intCast, hn, Rat.intCast_mul]
  constructor
  · intro h; exact Rat.lt_of_mul_lt_mul_right h (Rat.le_of_lt hne)
  · intro h; exact Rat.mul_lt_mul_of_pos_right h hne
end Go.Proofs.Ytdcdjhhjlpegjaa

namespace Go.Proofs.Ytdcdjhhjlpegjaa
open Go Go.Eng
theorem OL_gcS {α : Type} {es : Nat} {e : α → List AV} {A H : AHeap} {n : Nat} {v : AV} {xs : List α} (h : OL es e A H n v xs) (hf : ∀ x, ∀ y ∈ e x, flat y = true) : GC A v H (.sl es A.length 0 xs.length false) (A ++ [.cells true (xs.flatMap e)]) := by
  obtain ⟨he, h1, h2, h3, full, rfl⟩ := h
  have hfl : ∀ y ∈ xs.flatMap e, flat y = true := fun y hy => by
    obtain ⟨x, _, hx⟩ := List.mem_flatMap.1 hy
    exact hf x y hx
  refine gc_weak (fun ρ c => VR.unfull) ?_
  have hk := Keep.add (keep_old h1) (n := n) (o := .cells true (xs.flatMap e)) h2 (by simp; omega) h3
  simp only [renO, ren_flats _ 3 _ hfl] at hk
  exact gc_keep hk (by simp [ren])
theorem c_CloneI {xs : List Int} {v : AV} {A : AHeap} (hx : L1 A v xs) (h0 : 0 < xs.length) (hl : xs.length ≤ 1000000) :
    ACalls Try.prog 103 [v] A (.sl 1 A.length 0 xs.length false) (A ++ [.cells true (xs.flatMap e1)]) := by
  refine acalls hmix Try.func103 (by kernel_rfl) t103 1 rfl (by decide) ?_
  have hn := Ls_nn hx h0
  obtain ⟨v', n, H2, happ, ho⟩ := app_new hx (by simp [lim]; omega)
  rcases hx.inv with ⟨rfl, _⟩ | ⟨n', off, full, rw, l, rfl, _⟩
  · exact absurd rfl hn
  · dsimp only [m103]
    simp (maxSteps := 4000000) -implicitDefEqProofs -dsimp (disch := omega) only [↓AW_skip, ↓AW_ops, ↓AW_seq, ↓AW_cond, ↓AW_ret, ↓AOps_nil, ↓AOps_pu, ↓AOps_ha, on_some, extK_false, extK_app, condB_f, ↓then_normal, ↓Fin_ret, pval, hval_blds, hval_app, rd_S, rd_C, put_S, resV, resL, fillA, repl, List.replicate_succ, List.replicate_zero, List.set_cons_zero, List.set_cons_succ, List.getElem?_cons_zero, List.getElem?_cons_succ, Option.getD_some, map_n, Nat.reduceSub, List.cons_append, List.nil_append, List.replicate_zero, repl, happ]
    exact OL_gcS ho flat_e1
theorem drop_sum {ss : List Int} {i : Nat} {c : Int} (h : ss[i]? = some c) : (ss.drop i).sum = c + (ss.drop (i + 1)).sum := by
  rw [drop_at h, List.sum_cons]
theorem lev_at {ss : List Int} {i : Nat} {c left : Int} (h : ss[i]? = some c) : lev (ss.drop i) left = if left ≤ c * ((ss.length : Int) - i) then (left : Rat) / (((ss.length : Int) - i : Int) : Rat) else lev (ss.drop (i + 1)) (left - c) := by
  have hi := (List.getElem?_eq_some_iff.1 h).1
  rw [drop_at h, lev]
  have : ((ss.drop (i + 1)).length : Int) + 1 = (ss.length : Int) - i := by rw [List.length_drop]; omega
  rw [this]
section
variable {cs : List Int} {v : AV} {A : AHeap} {e : Int}
theorem s85 (hx : L1 A v cs) (hc : CE cs e) : ACalls Try.prog 85 [v, I e] A (R (lv cs e)) A := by
  refine acalls hmix Try.func85 (by kernel_rfl) t85 2 rfl (by decide) ?_
  have hl1 := hc.ok.l1
  have hl8 := hc.ok.l8
  have hs := hc.ok.sum
  have he0 := hc.e0
  have he1 := hc.e1
  dsimp only [m85]
  simp (maxSteps := 4000000) -implicitDefEqProofs -dsimp (disch := omega) only [↓AW_ops, ↓AW_seq, ↓AOps_nil, ↓AOps_pu, ↓AOps_call, on_some, ↓then_normal, pval, rd_S, rd_C, put_S, cells_agg, List.replicate_succ, List.replicate_zero, List.set_cons_zero, List.set_cons_succ, List.getElem?_cons_zero, List.getElem?_cons_succ, Option.getD_some, map_c, map_n, Nat.reduceSub, List.cons_append, List.nil_append]
  refine CallK.of (c_CloneI hx (by omega) (by omega)) ?_
  have ho := OL.new_mk e1_len A cs false
  have hsort := c_Sort ho (by omega)
  rw [set_new] at hsort
  simp (maxSteps := 4000000) -implicitDefEqProofs -dsimp (disch := omega) only [↓AW_ops, ↓AW_seq, ↓AOps_nil, ↓AOps_pu, ↓AOps_call, on_some, extK_app, ↓then_normal, pval, rd_S, put_S, List.replicate_succ, List.replicate_zero, List.set_cons_zero, List.set_cons_succ, List.getElem?_cons_zero, List.getElem?_cons_succ, Option.getD_some, map_c, map_n, Nat.reduceSub, List.cons_append, List.nil_append]
  refine CallK.of hsort ?_
  have hp := pre_app A [AObj.cells true ((srt cs).flatMap e1)]
  have hsl := srt_len cs
  have hsp := srt_perm cs
  have ho2 := OL.new_mk e1_len A (srt cs) false
  rw [hsl] at ho2
  have hq := ho2.ls
  have hss : (srt cs).sum = cs.sum := perm_isum hsp
  have hsc : ∀ x ∈ srt cs, 0 ≤ x ∧ x ≤ 1000 := fun x hx => hc.ok.c x (hsp.mem_iff.1 hx)
  have hlv : lv cs e = lev (srt cs) e := rfl
  rw [hlv]
  have hsle : ((srt cs).length : Int) = cs.length := by omega
  generalize srt cs = ss at *
  generalize AV.sl 1 A.length 0 cs.length false = w at *
  generalize A ++ [AObj.cells true (ss.flatMap e1)] = A1 at *
  simp (maxSteps := 4000000) -implicitDefEqProofs -dsimp (disch := omega) only [↓AW_ops, ↓AW_seq, ↓AW_block, ↓AOps_nil, ↓AOps_pu, on_some, extK_false, ↓then_normal, pval, rd_S, rd_C, put_S, ↓AW_toLoop, List.replicate_succ, List.replicate_zero, List.set_cons_zero, List.set_cons_succ, List.getElem?_cons_zero, List.getElem?_cons_succ, Option.getD_some, Nat.reduceSub, List.cons_append, List.nil_append, hq.len, hsle]
  refine LoopK.by 41 (fun x : Nat × Int => x.1 < ss.length ∧ (0 ≤ x.2 ∧ x.2 ≤ 8000) ∧ x.2 ≤ (ss.drop x.1).sum ∧ lev ss e = lev (ss.drop x.1) x.2) (fun x => [(0, v), (4, .agg [I 0, I 0]), (5, w), (6, I x.2), (15, w), (16, I cs.length), (17, I x.1)]) (fun _ => A1) (fun x => ss.length - x.1) (0, e) ⟨by simp only; omega, by simp only; omega, by simp only [List.drop_zero]; omega, rfl⟩ rfl (by simp [Has, rd_s]) rfl ?_
  rintro ⟨i, left⟩ ⟨hlt, hle, hls, hle2⟩
  simp only at hlt hle hls hle2
  have hlt' : (i : Int) < cs.length := by omega
  obtain ⟨c, hz⟩ : ∃ z, ss[i]? = some z := ⟨_, List.getElem?_eq_getElem hlt⟩
  have hzc := hsc c (List.mem_of_getElem? hz)
  rw [lev_at hz] at hle2
  rw [drop_sum hz] at hls
  rw [hsle] at hle2
  have m1 := Int.mul_le_mul hzc.2 (show (cs.length : Int) - i ≤ 8 by omega) (by omega) (by omega : (0 : Int) ≤ 1000)
  have m2 := Int.mul_nonneg hzc.1 (show 0 ≤ (cs.length : Int) - i by omega)
  by_cases h1 : left ≤ c * ((cs.length : Int) - i)
  · rw [if_pos h1] at hle2
    simp (maxSteps := 4000000) -implicitDefEqProofs -dsimp (disch := omega) only [↓AW_skip, ↓AW_ops, ↓AW_seq, ↓AW_cond, ↓AW_block, ↓AOps_nil, ↓AOps_pu, ↓AOps_ld, ↓AOps_call, on_some, condB_t, ↓then_normal, pval, lval, rd_S, put_S, partA, eq_self, mk, List.foldl_cons, List.foldl_nil, List.replicate_succ, List.replicate_zero, List.set_cons_zero, List.set_cons_succ, List.getElem?_cons_zero, List.getElem?_cons_succ, List.drop_zero, List.take_succ_cons, List.take_nil, Option.getD_some, map_c, map_n, List.length_cons, List.length_nil, Nat.reduceLeDiff, Nat.zero_add, bin_sub, bin_mul, bin_lss, bin_geq, w64, if_true, if_false, Bool.false_eq_true, decide_true, Go.Eng.e1, hlt', hq.len, hq.idx hlt, hq.ld0 hz 1 false (by decide), hsle, h1]
    refine CallK.of (s61 (a := left) (b := (cs.length : Int) - i) _ ⟨by omega, by omega⟩ (by omega) (by omega)) ?_
    simp (maxSteps := 4000000) -implicitDefEqProofs -dsimp (disch := omega) only [↓AW_ret, ↓AOps_nil, ↓AOps_pu, on_some, extK_same, ↓then_normal, ↓then_ret, ↓inBlock_ret, ↓Fin_ret, pval, rd_S, put_S, resV, resL, chkd, bput, bgot, cells_agg, splice, partA, eq_self, mk, List.foldl_cons, List.foldl_nil, List.replicate_succ, List.replicate_zero, List.set_cons_zero, List.set_cons_succ, List.getElem?_cons_zero, List.getElem?_cons_succ, List.drop_zero, List.drop_succ_cons, List.drop_nil, List.take_zero, List.take_succ_cons, List.take_nil, Option.getD_some, List.length_cons, List.length_nil, Nat.reduceAdd, Nat.reduceLeDiff, Nat.reduceEqDiff, Nat.zero_add, List.nil_append, List.append_nil, if_true, if_false, ne_eq, not_true_eq_false, R]
    refine gc_val hp ?_
    rw [hle2]
    rfl
  · rw [if_neg h1] at hle2
    have hcl : c ≤ left := by
      have h2 : c * ((cs.length : Int) - i) = c + c * ((cs.length : Int) - i - 1) := by rw [Int.mul_sub c ((cs.length : Int) - i) 1, Int.mul_one]; omega
      have := Int.mul_nonneg hzc.1 (show 0 ≤ (cs.length : Int) - i - 1 by omega)
      omega
    have hlt2 : i + 1 < ss.length := by
      refine Nat.lt_of_not_le (fun hge => ?_)
      have h0 : ss.drop (i + 1) = [] := List.drop_of_length_le hge
      rw [h0, List.sum_nil] at hls
      have : (cs.length : Int) - i = 1 := by omega
      rw [this, Int.mul_one] at h1
      omega
    simp (maxSteps := 4000000) -implicitDefEqProofs -dsimp (disch := omega) only [↓AW_skip, ↓AW_ops, ↓AW_seq, ↓AW_cond, ↓AW_block, ↓AOps_nil, ↓AOps_pu, ↓AOps_ld, on_some, condB_t, condB_f, ↓then_normal, ↓inBlock_normal, pval, lval, rd_S, rd_C, put_S, partA, eq_self, mk, List.foldl_cons, List.foldl_nil, List.replicate_succ, List.replicate_zero, List.set_cons_zero, List.set_cons_succ, List.getElem?_cons_zero, List.getElem?_cons_succ, List.drop_zero, List.take_succ_cons, List.take_nil, Option.getD_some, List.length_cons, List.length_nil, Nat.reduceAdd, Nat.reduceLeDiff, Nat.zero_add, bin_add, bin_sub, bin_mul, bin_lss, bin_geq, w64, if_true, if_false, Bool.false_eq_true, decide_true, decide_false, Go.Eng.e1, true_and, hlt', hq.len, hq.idx hlt, hq.ld0 hz 1 false (by decide), hsle, h1]
    exact ⟨(i + 1, left - c), ⟨hlt2, by simp only; omega, by simp only; omega, hle2⟩, by simp [Has, rd_s], by simp only; omega⟩
theorem capL_len (cs : List Int) (l : Rat) : ((capL cs l).map rp).length = cs.length := by simp [capL]
theorem capL_take {l : Rat} {i : Nat} {c : Int} (h : cs[i]? = some c) : ((capL cs l).map rp).take (i + 1) = ((capL cs l).map rp).take i ++ [rp (mnq c l)] := by
  unfold capL
  rw [List.take_add_one, List.getElem?_map, List.getElem?_map, h]
  rfl
theorem s88 (hx : L1 A v cs) (hok : OK cs) {l : Rat} (hl : SQ l) : ACalls Try.prog 88 [v, R l] A (outV 2 A ((capL cs l).map rp).length) (outH A (((capL cs l).map rp).flatMap e2) ((capL cs l).map rp).length) := by
  refine acalls hmix Try.func88 (by kernel_rfl) t88 2 rfl (by decide) ?_
  have hlen := capL_len cs l
  have hl8 := hok.l8
  have hdp := den_pos l
  have hd := hl.d
  have hn := hl.num
  dsimp only [m88]
  simp (maxSteps := 4000000) -implicitDefEqProofs -dsimp (disch := omega) only [↓AW_ops, ↓AW_seq, ↓AW_block, ↓AOps_nil, ↓AOps_pu, on_some, ↓then_normal, pval, rd_S, rd_C, put_S, ↓AW_toLoop, AV.cells?, List.replicate_succ, List.replicate_zero, List.set_cons_zero, List.set_cons_succ, List.getElem?_cons_zero, List.getElem?_cons_succ, Option.getD_some, Nat.reduceSub, List.cons_append, List.nil_append, hx.len]
  refine LoopK.by 32 (fun x : Nat × AV × AHeap => x.1 ≤ cs.length ∧ AccL 2 e2 A x.2.2 x.2.1 (((capL cs l).map rp).take x.1)) (fun x => [(3, .agg [I l.num, I (l.den : Int)]), (5, x.2.1), (8, v), (9, I cs.length), (10, I x.1)]) (fun x => x.2.2) (fun x => cs.length - x.1) (0, .nilS, A) ⟨by simp only; omega, AccL.nil (List.prefix_refl _)⟩ rfl (by simp [Has, rd_s]) rfl ?_
  rintro ⟨i, w, A1⟩ ⟨hi, hu⟩
  simp only at hi hu
  have hx1 := hx.mono hu.pre
  by_cases hlt : i < cs.length
  · obtain ⟨z, hz⟩ : ∃ z, cs[i]? = some z := ⟨_, List.getElem?_eq_getElem hlt⟩
    have hlt' : (i : Int) < cs.length := by omega
    have hzc := hok.c z (List.mem_of_getElem? hz)
    have m1 := Int.mul_le_mul hzc.2 hd (by omega) (by omega : (0 : Int) ≤ 1000)
    have m2 := Int.mul_nonneg hzc.1 (show 0 ≤ (l.den : Int) by omega)
    obtain ⟨u3, A3, happ, hu3⟩ := hu.push e2_len (rp (mnq z l)) (by rw [List.length_take]; simp [lim]; omega)
    rw [← capL_take hz] at hu3
    simp only [e2_rp] at happ
    by_cases h1 : z * (l.den : Int) < l.num
    · have hm : mnq z l = (z : Rat) := mnq_c (Rat.le_of_lt (mnq_iff.1 h1))
      rw [hm] at happ
      have hz1 : ((z : Int) : Rat) / ((1 : Int) : Rat) = (z : Rat) := by
        have := div_mul_same (a := (z : Rat)) (n := 1) (by omega)
        rw [int1, Rat.one_mul] at this
        exact this
      simp (maxSteps := 4000000) -implicitDefEqProofs -dsimp (disch := omega) only [↓AW_skip, ↓AW_ops, ↓AW_seq, ↓AW_cond, ↓AW_block, ↓AOps_nil, ↓AOps_pu, ↓AOps_ld, ↓AOps_call, on_some, condB_t, ↓then_normal, pval, lval, rd_S, rd_C, put_S, chkd, isAdr, bgot, AV.cells?, partA, eq_self, mk, List.foldl_cons, List.foldl_nil, List.replicate_succ, List.replicate_zero, List.set_cons_zero, List.set_cons_succ, List.getElem?_cons_zero, List.getElem?_cons_succ, List.drop_zero, List.drop_succ_cons, List.take_zero, List.take_succ_cons, List.take_nil, Option.getD_some, map_c, map_n, List.length_cons, List.length_nil, Nat.reduceAdd, Nat.reduceLeDiff, Nat.zero_add, bin_mul, bin_lss, w64, if_true, if_false, Bool.false_eq_true, decide_true, Go.Eng.e1, hlt', hx1.idx hlt, hx1.ld0 hz 1 false (by decide), h1]
      refine CallK.of (s61 (a := z) (b := 1) _ ⟨by omega, by omega⟩ (by omega) (by omega)) ?_
      rw [hz1]
      simp (maxSteps := 4000000) -implicitDefEqProofs -dsimp (disch := omega) only [↓AW_ops, ↓AOps_nil, ↓AOps_pu, ↓AOps_ha, on_some, extK_false, extK_app, extK_same, ↓then_normal, ↓inBlock_normal, pval, hval, rd_S, rd_C, put_S, AV.cells?, splice, fillA, repl, eq_self, mk, List.foldl_cons, List.foldl_nil, List.replicate_succ, List.replicate_zero, List.set_cons_zero, List.set_cons_succ, List.getElem?_cons_zero, List.getElem?_cons_succ, List.drop_succ_cons, List.drop_nil, List.take_zero, Option.getD_some, map_c, map_n, List.length_cons, List.length_nil, Nat.reduceAdd, Nat.reduceLeDiff, Nat.zero_add, List.nil_append, List.append_nil, bin_add, w64, if_true, true_and, and_true, R, happ]
      exact ⟨(i + 1, u3, A3), ⟨hlt, hu3⟩, by simp [Has, rd_s], rfl, by simp only; omega⟩
    · have hm : mnq z l = l := mnq_l (Rat.not_lt.1 (fun h => h1 (mnq_iff.2 h)))
      rw [hm] at happ
      simp (maxSteps := 4000000) -implicitDefEqProofs -dsimp (disch := omega) only [↓AW_skip, ↓AW_ops, ↓AW_seq, ↓AW_cond, ↓AW_block, ↓AOps_nil, ↓AOps_pu, ↓AOps_ld, ↓AOps_ha, on_some, extK_false, extK_app, condB_t, condB_f, ↓then_normal, ↓inBlock_normal, pval, lval, hval, rd_S, rd_C, put_S, chkd, isAdr, bgot, AV.cells?, splice, partA, fillA, repl, eq_self, mk, List.foldl_cons, List.foldl_nil, List.replicate_succ, List.replicate_zero, List.set_cons_zero, List.set_cons_succ, List.getElem?_cons_zero, List.getElem?_cons_succ, List.drop_zero, List.drop_succ_cons, List.drop_nil, List.take_zero, List.take_succ_cons, List.take_nil, Option.getD_some, map_c, map_n, List.length_cons, List.length_nil, Nat.reduceAdd, Nat.reduceLeDiff, Nat.reduceEqDiff, Nat.zero_add, List.nil_append, List.append_nil, bin_add, bin_mul, bin_lss, w64, if_true, if_false, Bool.false_eq_true, decide_true, decide_false, Go.Eng.e1, true_and, and_true, hlt', hx1.idx hlt, hx1.ld0 hz 1 false (by decide), h1, happ]
      exact ⟨(i + 1, u3, A3), ⟨hlt, hu3⟩, by simp [Has, rd_s], rfl, by simp only; omega⟩
  · have hlt' : ¬ ((i : Int) < cs.length) := by omega
    simp (maxSteps := 4000000) -implicitDefEqProofs -dsimp (disch := omega) only [↓AW_ops, ↓AW_seq, ↓AW_cond, ↓AW_exit, ↓AW_ret, ↓AOps_nil, ↓AOps_pu, on_some, condB_f, ↓then_normal, ↓then_exit, ↓inBlock_exit, ↓Fin_ret, pval, rd_S, put_S, resV, resL, eq_self, mk, List.foldl_cons, List.foldl_nil, List.replicate_succ, List.replicate_zero, List.set_cons_zero, List.set_cons_succ, List.getElem?_cons_zero, List.getElem?_cons_succ, Option.getD_some, bin_lss, if_true, decide_false, hlt']
    rw [List.take_of_length_le (by omega)] at hu
    exact hu.gc flat_e2
/-- Equal awards. -/
def aw (cs : List Int) (e : Int) : List Rat := capL cs (lv cs e)
/-- Equal losses. -/
def lo (cs : List Int) (e : Int) : List Rat := lsL cs ((aw cs (cs.sum - e)).map rp)
def hq (q : Rat) : Rat := (q.num : Rat) / ((2 * (q.den : Int) : Int) : Rat)
theorem aw_len (cs : List Int) (e : Int) : (aw cs e).length = cs.length := by simp [aw, capL]
theorem lo_len (cs : List Int) (e : Int) : (lo cs e).length = cs.length := by simp [lo, lsL, aw, capL]
theorem aw_sq (hc : CE cs e) : ∀ q ∈ aw cs e, SQ q := by
  intro q hq
  obtain ⟨c, hcm, rfl⟩ := List.mem_map.1 hq
  exact SQ.mnq (hc.ok.c c hcm) (lv_sq hc)
theorem CE.sub (hc : CE cs e) : CE cs (cs.sum - e) := ⟨hc.ok, by have := hc.e1; omega, by have := hc.e0; omega⟩
theorem lsq_eq (c : Int) (q : Rat) : lsq c (rp q) = (c : Rat) - q := by
  unfold lsq rp
  simp only
  have hdp := den_pos q
  have hne := cast_pos hdp
  have e := R_self q
  have hq : q * ((q.den : Int) : Rat) = ((q.num : Int) : Rat) := by
    conv => lhs; lhs; rw [e]
    exact Rat.div_mul_cancel (Ne.symm (Rat.ne_of_lt hne))
  have h1 : ((c * (q.den : Int) - q.num : Int) : Rat) = ((c : Rat) - q) * ((q.den : Int) : Rat) := by
    rw [Rat.intCast_sub, Rat.intCast_mul, ← hq]
    grind
  rw [h1, Rat.div_def, Rat.mul_assoc, Rat.mul_inv_cancel _ (Ne.symm (Rat.ne_of_lt hne)), Rat.mul_one]
theorem lo_eq (cs : List Int) (e : Int) : lo cs e = cs.map (fun c : Int => (c : Rat) - mnq c (lv cs (cs.sum - e))) := by
  unfold lo lsL aw capL
  rw [List.map_map, zip_self, List.map_map]
  refine List.map_congr_left (fun c _ => ?_)
  exact lsq_eq _ _
theorem SQ.sub {c : Int} {q : Rat} (hc : 0 ≤ c ∧ c ≤ 1000) (hq : SQ q) (h : q ≤ (c : Rat)) : SQ ((c : Rat) - q) := by
  have h1 : (c : Rat) ≤ ((1000 : Int) : Rat) := Rat.intCast_le_intCast.2 hc.2
  have h0 := hq.q0
  refine ⟨by grind, by grind, ?_⟩
  have hd : (((c : Rat) - q).den : Int) ∣ (q.den : Int) := by
    rw [← lsq_eq c q]
    exact div_den (den_pos q)
  have := Int.le_of_dvd (den_pos q) hd
  have := hq.d
  omega
theorem s87 (hx : L1 A v cs) (hc : CE cs e) : ACalls Try.prog 87 [v, I e] A (outV 2 A ((aw cs e).map rp).length) (outH A (((aw cs e).map rp).flatMap e2) ((aw cs e).map rp).length) := by
  refine acalls hmix Try.func87 (by kernel_rfl) t87 2 rfl (by decide) ?_
  dsimp only [m87]
  simp (maxSteps := 4000000) -implicitDefEqProofs -dsimp (disch := omega) only [↓AW_ops, ↓AW_seq, ↓AOps_nil, ↓AOps_pu, ↓AOps_call, on_some, ↓then_normal, pval, rd_S, rd_C, put_S, List.replicate_succ, List.replicate_zero, List.set_cons_zero, List.set_cons_succ, List.getElem?_cons_zero, List.getElem?_cons_succ, Option.getD_some, map_c, map_n, Nat.reduceSub, List.cons_append, List.nil_append]
  refine CallK.of (s85 hx hc) ?_
  simp (maxSteps := 4000000) -implicitDefEqProofs -dsimp (disch := omega) only [↓AOps_call, extK_same, rd_S, put_S, List.replicate_succ, List.replicate_zero, List.set_cons_zero, List.set_cons_succ, List.getElem?_cons_zero, List.getElem?_cons_succ, Option.getD_some, map_c, map_n, Nat.reduceSub, List.cons_append, List.nil_append, R]
  refine CallK.of (s88 hx hc.ok (lv_sq hc)) ?_
  simp (maxSteps := 4000000) -implicitDefEqProofs -dsimp (disch := omega) only [↓AW_ret, ↓AOps_nil, ↓AOps_pu, on_some, extK_false, ↓then_normal, ↓Fin_ret, pval, rd_S, put_S, resV, resL, List.replicate_succ, List.replicate_zero, List.set_cons_zero, List.set_cons_succ, List.getElem?_cons_zero, List.getElem?_cons_succ, Option.getD_some, Nat.reduceSub, List.cons_append, List.nil_append]
  exact gc_all
theorem s89 (hx : L1 A v cs) (hc : CE cs e) {n : Nat} (hn : ldA 1 false (.ptr n 0) A = some (.fn 87 [])) : ACalls Try.prog 89 [v, I e, .ptr n 0] A (outV 2 A ((lo cs e).map rp).length) (outH A (((lo cs e).map rp).flatMap e2) ((lo cs e).map rp).length) := by
  refine acalls hmix Try.func89 (by kernel_rfl) t89 3 rfl (by decide) ?_
  have hs := hc.ok.sum
  have he0 := hc.e0
  have he1 := hc.e1
  have hl8 := hc.ok.l8
  dsimp only [m89]
  simp (maxSteps := 4000000) -implicitDefEqProofs -dsimp (disch := omega) only [↓AW_ops, ↓AW_seq, ↓AOps_nil, ↓AOps_pu, ↓AOps_ld, ↓AOps_call, on_some, ↓then_normal, pval, lval, rd_S, rd_C, put_S, List.replicate_succ, List.replicate_zero, List.set_cons_zero, List.set_cons_succ, List.getElem?_cons_zero, List.getElem?_cons_succ, Option.getD_some, map_c, map_n, Nat.reduceSub, List.cons_append, List.nil_append, hn]
  refine CallK.of (c_total hx (by omega) hc.ok.bd) ?_
  simp (maxSteps := 4000000) -implicitDefEqProofs -dsimp (disch := omega) only [↓AOps_pu, ↓AOps_callv, on_some, extK_same, CallF_fn, pval, rd_S, put_S, List.replicate_succ, List.replicate_zero, List.set_cons_zero, List.set_cons_succ, List.getElem?_cons_zero, List.getElem?_cons_succ, Option.getD_some, map_c, map_n, Nat.reduceSub, List.cons_append, List.nil_append, List.append_nil, bin_sub, w64]
  refine CallK.of (s87 hx hc.sub) ?_
  have hp1 := pre_out A (((aw cs (cs.sum - e)).map rp).flatMap e2) ((aw cs (cs.sum - e)).map rp).length
  have hq1 := Ls_out A e2_len ((aw cs (cs.sum - e)).map rp)
  generalize outV 2 A ((aw cs (cs.sum - e)).map rp).length = w at *
  generalize outH A (((aw cs (cs.sum - e)).map rp).flatMap e2) ((aw cs (cs.sum - e)).map rp).length = A1 at *
  simp (maxSteps := 4000000) -implicitDefEqProofs -dsimp (disch := omega) only [↓AOps_call, extK_false, rd_S, put_S, List.replicate_succ, List.replicate_zero, List.set_cons_zero, List.set_cons_succ, List.getElem?_cons_zero, List.getElem?_cons_succ, Option.getD_some, map_c, map_n, Nat.reduceSub, List.cons_append, List.nil_append]
  refine CallK.of (s75 (hx.mono hp1) hq1 hc.ok (by simp [aw_len]) (fun r hr => ?_)) ?_
  · obtain ⟨q, hq, rfl⟩ := List.mem_map.1 hr
    exact (aw_sq hc.sub q hq).bd
  · have hlo : lsL cs ((aw cs (cs.sum - e)).map rp) = lo cs e := rfl
    rw [hlo]
    simp (maxSteps := 4000000) -implicitDefEqProofs -dsimp (disch := omega) only [↓AW_ret, ↓AOps_nil, ↓AOps_pu, on_some, extK_false, ↓then_normal, ↓Fin_ret, pval, rd_S, put_S, resV, resL, List.replicate_succ, List.replicate_zero, List.set_cons_zero, List.set_cons_succ, List.getElem?_cons_zero, List.getElem?_cons_succ, Option.getD_some, Nat.reduceSub, List.cons_append, List.nil_append]
    exact (AccL_out hp1 e2_len _).gc flat_e2
theorem map_take {α β : Type} (f : α → β) {xs : List α} {i : Nat} {x : α} (h : xs[i]? = some x) : (xs.map f).take (i + 1) = (xs.map f).take i ++ [f x] := by
  rw [List.take_add_one, List.getElem?_map, h]
  rfl
theorem s55a (hx : L1 A v cs) (hl : cs.length ≤ 1000000) : ACalls Try.prog 55 [I 1, v, I e] A (.tuple [outV 2 A (byO cs e (aw cs e)).length, I (vE cs e)]) (outH A ((byO cs e (aw cs e)).flatMap e2) (byO cs e (aw cs e)).length) := by
  refine acalls hmix Try.func55 (by kernel_rfl) t55 3 rfl (by decide) ?_
  dsimp only [m55]
  simp (maxSteps := 4000000) -implicitDefEqProofs -dsimp (disch := omega) only [↓AW_ops, ↓AW_seq, ↓AOps_nil, ↓AOps_pu, ↓AOps_call, on_some, ↓then_normal, pval, rd_S, rd_C, put_S, List.replicate_succ, List.replicate_zero, List.set_cons_zero, List.set_cons_succ, List.getElem?_cons_zero, List.getElem?_cons_succ, Option.getD_some, map_c, map_n, Nat.reduceSub, List.cons_append, List.nil_append]
  refine CallK.of (s16 hx hl e) ?_
  by_cases h0 : vE cs e = 0
  · have hO : byO cs e (aw cs e) = (aw cs e).map rp := if_pos h0
    have hc := vE_0.1 h0
    rw [hO, h0]
    simp (maxSteps := 4000000) -implicitDefEqProofs -dsimp (disch := omega) only [↓AW_skip, ↓AW_ops, ↓AW_seq, ↓AW_cond, ↓AOps_nil, ↓AOps_pu, ↓AOps_call, on_some, extK_same, condB_f, ↓then_normal, pval, rd_S, rd_C, put_S, eq_self, List.replicate_succ, List.replicate_zero, List.set_cons_zero, List.set_cons_succ, List.getElem?_cons_zero, List.getElem?_cons_succ, Option.getD_some, map_n, Nat.reduceSub, List.cons_append, List.nil_append, bin_neq, decide_false, not_true_eq_false]
    refine CallK.of (s79 A) ?_
    simp (maxSteps := 4000000) -implicitDefEqProofs -dsimp (disch := omega) only [↓AOps_pu, ↓AOps_callv, on_some, extK_false, CallF_fn, pval, rd_S, put_S, partA, eq_self, List.replicate_succ, List.replicate_zero, List.set_cons_zero, List.set_cons_succ, List.getElem?_cons_zero, List.getElem?_cons_succ, List.drop_zero, List.drop_succ_cons, List.take_zero, List.take_succ_cons, List.take_nil, Option.getD_some, map_c, map_n, List.length_cons, List.length_nil, Nat.reduceAdd, Nat.reduceSub, Nat.reduceLeDiff, Nat.reduceMul, Nat.zero_add, List.cons_append, List.nil_append, List.append_nil, if_true, if_false, Bool.false_eq_true, and_true, Int.reduceLT, Int.reduceLE, rulesV, c4, tn1]
    refine CallK.of (s87 (hx.mono (rules_pre A)) hc) ?_
    simp (maxSteps := 4000000) -implicitDefEqProofs -dsimp (disch := omega) only [↓AW_ret, ↓AOps_nil, ↓AOps_pu, on_some, extK_false, ↓then_normal, ↓Fin_ret, pval, rd_S, rd_C, put_S, resV, resL, List.replicate_succ, List.replicate_zero, List.set_cons_zero, List.set_cons_succ, List.getElem?_cons_zero, List.getElem?_cons_succ, Option.getD_some, Nat.reduceSub, List.cons_append, List.nil_append]
    exact (AccL_out (rules_pre A) e2_len _).gc2 flat_e2 (I 0) rfl
  · have hO : byO cs e (aw cs e) = [] := if_neg h0
    rw [hO]
    simp (maxSteps := 4000000) -implicitDefEqProofs -dsimp (disch := omega) only [↓AW_ops, ↓AW_seq, ↓AW_cond, ↓AW_ret, ↓AOps_nil, ↓AOps_pu, on_some, extK_same, condB_t, ↓then_normal, ↓then_ret, ↓Fin_ret, pval, rd_S, rd_C, put_S, resV, resL, List.replicate_succ, List.replicate_zero, List.set_cons_zero, List.set_cons_succ, List.getElem?_cons_zero, List.getElem?_cons_succ, Option.getD_some, List.length_nil, Nat.reduceSub, List.cons_append, List.nil_append, bin_neq, decide_true, not_false_eq_true, h0]
    exact gc_same_all rfl rfl
theorem s55l (hx : L1 A v cs) (hl : cs.length ≤ 1000000) : ACalls Try.prog 55 [I 2, v, I e] A (.tuple [outV 2 A (byO cs e (lo cs e)).length, I (vE cs e)]) (outH A ((byO cs e (lo cs e)).flatMap e2) (byO cs e (lo cs e)).length) := by
  refine acalls hmix Try.func55 (by kernel_rfl) t55 3 rfl (by decide) ?_
  dsimp only [m55]
  simp (maxSteps := 4000000) -implicitDefEqProofs -dsimp (disch := omega) only [↓AW_ops, ↓AW_seq, ↓AOps_nil, ↓AOps_pu, ↓AOps_call, on_some, ↓then_normal, pval, rd_S, rd_C, put_S, List.replicate_succ, List.replicate_zero, List.set_cons_zero, List.set_cons_succ, List.getElem?_cons_zero, List.getElem?_cons_succ, Option.getD_some, map_c, map_n, Nat.reduceSub, List.cons_append, List.nil_append]
  refine CallK.of (s16 hx hl e) ?_
  by_cases h0 : vE cs e = 0
  · have hO : byO cs e (lo cs e) = (lo cs e).map rp := if_pos h0
    have hc := vE_0.1 h0
    rw [hO, h0]
    simp (maxSteps := 4000000) -implicitDefEqProofs -dsimp (disch := omega) only [↓AW_skip, ↓AW_ops, ↓AW_seq, ↓AW_cond, ↓AOps_nil, ↓AOps_pu, ↓AOps_call, on_some, extK_same, condB_f, ↓then_normal, pval, rd_S, rd_C, put_S, eq_self, List.replicate_succ, List.replicate_zero, List.set_cons_zero, List.set_cons_succ, List.getElem?_cons_zero, List.getElem?_cons_succ, Option.getD_some, map_n, Nat.reduceSub, List.cons_append, List.nil_append, bin_neq, decide_false, not_true_eq_false]
    refine CallK.of (s79 A) ?_
    simp (maxSteps := 4000000) -implicitDefEqProofs -dsimp (disch := omega) only [↓AOps_pu, ↓AOps_callv, on_some, extK_false, CallF_fn, pval, rd_S, put_S, partA, eq_self, List.replicate_succ, List.replicate_zero, List.set_cons_zero, List.set_cons_succ, List.getElem?_cons_zero, List.getElem?_cons_succ, List.drop_zero, List.drop_succ_cons, List.take_zero, List.take_succ_cons, List.take_nil, Option.getD_some, map_c, map_n, List.length_cons, List.length_nil, Nat.reduceAdd, Nat.reduceSub, Nat.reduceLeDiff, Nat.reduceMul, Nat.zero_add, List.cons_append, List.nil_append, if_true, if_false, Bool.false_eq_true, and_true, Int.reduceLT, Int.reduceLE, rulesV, c4, tn2]
    refine CallK.of (s89 (hx.mono (rules_pre A)) hc (rules_l1 A)) ?_
    simp (maxSteps := 4000000) -implicitDefEqProofs -dsimp (disch := omega) only [↓AW_ret, ↓AOps_nil, ↓AOps_pu, on_some, extK_false, ↓then_normal, ↓Fin_ret, pval, rd_S, rd_C, put_S, resV, resL, List.replicate_succ, List.replicate_zero, List.set_cons_zero, List.set_cons_succ, List.getElem?_cons_zero, List.getElem?_cons_succ, Option.getD_some, Nat.reduceSub, List.cons_append, List.nil_append]
    exact (AccL_out (rules_pre A) e2_len _).gc2 flat_e2 (I 0) rfl
  · have hO : byO cs e (lo cs e) = [] := if_neg h0
    rw [hO]
    simp (maxSteps := 4000000) -implicitDefEqProofs -dsimp (disch := omega) only [↓AW_ops, ↓AW_seq, ↓AW_cond, ↓AW_ret, ↓AOps_nil, ↓AOps_pu, on_some, extK_same, condB_t, ↓then_normal, ↓then_ret, ↓Fin_ret, pval, rd_S, rd_C, put_S, resV, resL, List.replicate_succ, List.replicate_zero, List.set_cons_zero, List.set_cons_succ, List.getElem?_cons_zero, List.getElem?_cons_succ, Option.getD_some, List.length_nil, Nat.reduceSub, List.cons_append, List.nil_append, bin_neq, decide_true, not_false_eq_true, h0]
    exact gc_same_all rfl rfl
theorem s19 (hx : L1 A v cs) (hl : cs.length ≤ 1000000) : ACalls Try.prog 19 [v, I e] A (.tuple [outV 2 A (byO cs e (aw cs e)).length, I (vE cs e)]) (outH A ((byO cs e (aw cs e)).flatMap e2) (byO cs e (aw cs e)).length) := by
  refine acalls hmix Try.func19 (by kernel_rfl) t19 2 rfl (by decide) ?_
  dsimp only [m19]
  simp (maxSteps := 4000000) -implicitDefEqProofs -dsimp (disch := omega) only [↓AW_ops, ↓AW_seq, ↓AOps_nil, ↓AOps_pu, ↓AOps_call, on_some, ↓then_normal, pval, rd_S, rd_C, put_S, List.replicate_succ, List.replicate_zero, List.set_cons_zero, List.set_cons_succ, List.getElem?_cons_zero, List.getElem?_cons_succ, Option.getD_some, map_c, map_n, Nat.reduceSub, List.cons_append, List.nil_append]
  refine CallK.of (s55a hx hl) ?_
  simp (maxSteps := 4000000) -implicitDefEqProofs -dsimp (disch := omega) only [↓AW_ret, ↓AOps_nil, ↓AOps_pu, on_some, extK_false, ↓then_normal, ↓Fin_ret, pval, rd_S, put_S, resV, resL, List.replicate_succ, List.replicate_zero, List.set_cons_zero, List.set_cons_succ, List.getElem?_cons_zero, List.getElem?_cons_succ, Option.getD_some, Nat.reduceSub, List.cons_append, List.nil_append]
  exact gc_all
theorem s20 (hx : L1 A v cs) (hl : cs.length ≤ 1000000) : ACalls Try.prog 20 [v, I e] A (.tuple [outV 2 A (byO cs e (lo cs e)).length, I (vE cs e)]) (outH A ((byO cs e (lo cs e)).flatMap e2) (byO cs e (lo cs e)).length) := by
  refine acalls hmix Try.func20 (by kernel_rfl) t20 2 rfl (by decide) ?_
  dsimp only [m20]
  simp (maxSteps := 4000000) -implicitDefEqProofs -dsimp (disch := omega) only [↓AW_ops, ↓AW_seq, ↓AOps_nil, ↓AOps_pu, ↓AOps_call, on_some, ↓then_normal, pval, rd_S, rd_C, put_S, List.replicate_succ, List.replicate_zero, List.set_cons_zero, List.set_cons_succ, List.getElem?_cons_zero, List.getElem?_cons_succ, Option.getD_some, map_c, map_n, Nat.reduceSub, List.cons_append, List.nil_append]
  refine CallK.of (s55l hx hl) ?_
  simp (maxSteps := 4000000) -implicitDefEqProofs -dsimp (disch := omega) only [↓AW_ret, ↓AOps_nil, ↓AOps_pu, on_some, extK_false, ↓then_normal, ↓Fin_ret, pval, rd_S, put_S, resV, resL, List.replicate_succ, List.replicate_zero, List.set_cons_zero, List.set_cons_succ, List.getElem?_cons_zero, List.getElem?_cons_succ, Option.getD_some, Nat.reduceSub, List.cons_append, List.nil_append]
  exact gc_all
end
end Go.Proofs.Ytdcdjhhjlpegjaa

namespace Go.Proofs.Ytdcdjhhjlpegjaa
open Go Go.Eng
/-- The sum of the numbers below one. -/
def bs (c : Int) : List Int → Int
  | [] => 0
  | d :: l => (if d < c then d else 0) + bs c l
/-- How many are not below one. -/
def bn (c : Int) : List Int → Int
  | [] => 0
  | d :: l => (if d < c then 0 else 1) + bn c l
theorem bs_snoc (c d : Int) : ∀ l : List Int, bs c (l ++ [d]) = bs c l + (if d < c then d else 0)
  | [] => by simp [bs]
  | x :: l => by rw [List.cons_append, bs, bs_snoc c d l, bs]; omega
theorem bn_snoc (c d : Int) : ∀ l : List Int, bn c (l ++ [d]) = bn c l + (if d < c then 0 else 1)
  | [] => by simp [bn]
  | x :: l => by rw [List.cons_append, bn, bn_snoc c d l, bn]; omega
theorem bs_bd (c : Int) : ∀ {l : List Int}, (∀ x ∈ l, 0 ≤ x ∧ x ≤ 1000) → 0 ≤ bs c l ∧ bs c l ≤ 1000 * l.length
  | [], _ => by simp [bs]
  | x :: l, h => by
    have ih := bs_bd c (l := l) (fun y hy => h y (by simp [hy]))
    have hx := h x (by simp)
    simp only [bs, List.length_cons]
    split <;> omega
theorem bn_bd (c : Int) : ∀ (l : List Int), 0 ≤ bn c l ∧ bn c l ≤ l.length
  | [] => by simp [bn]
  | x :: l => by
    have ih := bn_bd c l
    simp only [bn, List.length_cons]
    split <;> omega
theorem bn_pos {c : Int} : ∀ {l : List Int}, c ∈ l → 1 ≤ bn c l
  | [], h => by simp at h
  | x :: l, h => by
    have hb := bn_bd c l
    simp only [bn]
    rcases List.mem_cons.1 h with rfl | h
    · rw [if_neg (by omega)]; omega
    · have := bn_pos h
      split <;> omega
/-- The greatest number below one, or 0. -/
structure SM (c : Int) (xs : List Int) (s : Int) : Prop where
  s0 : 0 ≤ s
  s1 : s ≤ 1000
  all : ∀ d ∈ xs, d < c → d ≤ s
  is : s = 0 ∨ (s ∈ xs ∧ s < c)
/-- Whether a claim is the smallest one that is not satisfied. -/
def gdC (cs : List Int) (e c s : Int) : Prop := bn c cs * s ≤ e - bs c cs ∧ e - bs c cs ≤ bn c cs * c
theorem cap_below {c : Int} {l : Rat} (hc : l ≤ (c : Rat)) : ∀ {xs : List Int}, (∀ d ∈ xs, d < c → (d : Rat) ≤ l) → (capL xs l).sum = ((bs c xs : Int) : Rat) + ((bn c xs : Int) : Rat) * l
  | [], _ => by simp only [capL, List.map_nil, List.sum_nil, bs, bn]; rw [int0]; grind
  | d :: xs, h => by
    have ih := cap_below hc (xs := xs) (fun x hx => h x (by simp [hx]))
    show (mnq d l :: capL xs l).sum = _
    rw [List.sum_cons, ih, bs, bn, Rat.intCast_add, Rat.intCast_add]
    by_cases hd : d < c
    · rw [if_pos hd, if_pos hd, mnq_c (h d (by simp) hd), int0]; grind
    · have : l ≤ (d : Rat) := Rat.le_trans hc (Rat.intCast_le_intCast.2 (by omega))
      rw [if_neg hd, if_neg hd, mnq_l this, int0, int1]; grind
theorem gdC_lv {cs : List Int} {e c s : Int} (hm : c ∈ cs) (hs : SM c cs s) (hg : gdC cs e c s) : LV cs e (((e - bs c cs : Int) : Rat) / ((bn c cs : Int) : Rat)) := by
  have hn := bn_pos hm
  have hnr := cast_pos (show 0 < bn c cs by omega)
  generalize hl : (((e - bs c cs : Int) : Rat) / ((bn c cs : Int) : Rat)) = l at *
  have hmul : ((bn c cs : Int) : Rat) * l = ((e - bs c cs : Int) : Rat) := by rw [← hl]; exact div_mul_same (by omega)
  have h1 : ((s : Int) : Rat) ≤ l := by
    refine Rat.le_of_mul_le_mul_left ?_ hnr
    rw [hmul, ← Rat.intCast_mul]
    exact Rat.intCast_le_intCast.2 hg.1
  have h2 : l ≤ ((c : Int) : Rat) := by
    refine Rat.le_of_mul_le_mul_left ?_ hnr
    rw [hmul, ← Rat.intCast_mul]
    exact Rat.intCast_le_intCast.2 hg.2
  refine ⟨Rat.le_trans (cast_nonneg hs.s0) h1, ⟨c, hm, h2⟩, ?_⟩
  rw [cap_below h2 (fun d hd hdc => Rat.le_trans (Rat.intCast_le_intCast.2 (hs.all d hd hdc)) h1), hmul, Rat.intCast_sub]
  grind
theorem least_above {l : Rat} : ∀ {cs : List Int}, (∃ c ∈ cs, l ≤ (c : Rat)) → ∃ c ∈ cs, l ≤ (c : Rat) ∧ ∀ d ∈ cs, l ≤ (d : Rat) → c ≤ d
  | [], h => by obtain ⟨c, hc, _⟩ := h; simp at hc
  | a :: cs, h => by
    by_cases hr : ∃ c ∈ cs, l ≤ (c : Rat)
    · obtain ⟨c, hc, hl, hmin⟩ := least_above hr
      by_cases ha : l ≤ (a : Rat) ∧ a < c
      · exact ⟨a, by simp, ha.1, fun d hd hld => by
          rcases List.mem_cons.1 hd with rfl | hd
          · omega
          · have := hmin d hd hld; omega⟩
      · refine ⟨c, by simp [hc], hl, fun d hd hld => ?_⟩
        rcases List.mem_cons.1 hd with rfl | hd
        · exact Int.not_lt.1 (fun hh => ha ⟨hld, hh⟩)
        · exact hmin d hd hld
    · obtain ⟨c, hc, hl⟩ := h
      rcases List.mem_cons.1 hc with rfl | hc
      · refine ⟨c, by simp, hl, fun d hd hld => ?_⟩
        rcases List.mem_cons.1 hd with rfl | hd
        · omega
        · exact absurd ⟨d, hd, hld⟩ hr
      · exact absurd ⟨c, hc, hl⟩ hr
theorem gdC_ex {cs : List Int} {e : Int} (h : CE cs e) : ∃ c ∈ cs, ∀ s, SM c cs s → gdC cs e c s := by
  obtain ⟨hL, _⟩ := lv_char h
  generalize lv cs e = l at *
  obtain ⟨c, hc, hcl, hmin⟩ := least_above hL.lc
  refine ⟨c, hc, fun s hs => ?_⟩
  have hbel : ∀ d ∈ cs, d < c → (d : Rat) ≤ l := by
    intro d hd hdc
    refine Rat.not_lt.1 (fun hlt => ?_)
    have := hmin d hd (Rat.le_of_lt hlt)
    omega
  have hsum := cap_below hcl hbel
  rw [hL.s] at hsum
  have hn := bn_pos hc
  have hnr := cast_pos (show 0 < bn c cs by omega)
  have hmul : ((e - bs c cs : Int) : Rat) = ((bn c cs : Int) : Rat) * l := by rw [Rat.intCast_sub]; grind
  have hsl : (s : Rat) ≤ l := by
    rcases hs.is with h0 | ⟨h1, h2⟩
    · rw [h0]; exact hL.l0
    · exact hbel s h1 h2
  constructor
  · refine Rat.intCast_le_intCast.1 ?_
    rw [hmul, Rat.intCast_mul]
    exact Rat.mul_le_mul_of_nonneg_left hsl (Rat.le_of_lt hnr)
  · refine Rat.intCast_le_intCast.1 ?_
    rw [hmul, Rat.intCast_mul]
    exact Rat.mul_le_mul_of_nonneg_left hcl (Rat.le_of_lt hnr)
section
variable {cs : List Int} {v : AV} {A : AHeap} {e : Int}
theorem bs_take {c d : Int} {k : Nat} (h : cs[k]? = some d) : bs c (cs.take (k + 1)) = bs c (cs.take k) + (if d < c then d else 0) := by
  rw [List.take_add_one, h]; exact bs_snoc c d _
theorem bn_take {c d : Int} {k : Nat} (h : cs[k]? = some d) : bn c (cs.take (k + 1)) = bn c (cs.take k) + (if d < c then 0 else 1) := by
  rw [List.take_add_one, h]; exact bn_snoc c d _
set_option maxHeartbeats 2000000 in
theorem s66 (hx : L1 A v cs) (hc : CE cs e) : ACalls Try.prog 66 [v, I e] A (R (lv cs e)) A := by
  refine acalls hmix Try.func66 (by kernel_rfl) t66 2 rfl (by decide) ?_
  have hl1 := hc.ok.l1
  have hl8 := hc.ok.l8
  have hs := hc.ok.sum
  have he0 := hc.e0
  have he1 := hc.e1
  dsimp only [m66]
  simp (maxSteps := 4000000) -implicitDefEqProofs -dsimp (disch := omega) only [↓AW_ops, ↓AW_seq, ↓AW_block, ↓AOps_nil, ↓AOps_pu, on_some, ↓then_normal, pval, rd_C, put_S, ↓AW_toLoop, AV.cells?, List.replicate_succ, List.replicate_zero, List.set_cons_zero, List.set_cons_succ, Nat.reduceSub, List.cons_append, List.nil_append]
  refine LoopK.by 84 (fun i : Nat => i ≤ cs.length ∧ ∀ c ∈ cs.take i, ∃ s, SM c cs s ∧ ¬ gdC cs e c s) (fun i => [(0, v), (1, I e), (4, .agg [I 0, I 0]), (5, I i)]) (fun _ => A) (fun i => cs.length - i) 0 ⟨by omega, by simp⟩ rfl (by simp [Has, rd_s]) rfl ?_
  rintro i ⟨hi, hno⟩
  by_cases hlt : i < cs.length
  · obtain ⟨c, hz⟩ : ∃ z, cs[i]? = some z := ⟨_, List.getElem?_eq_getElem hlt⟩
    have hlt' : (i : Int) < cs.length := by omega
    have hcm := List.mem_of_getElem? hz
    have hcc := hc.ok.c c hcm
    simp (maxSteps := 4000000) -implicitDefEqProofs -dsimp (disch := omega) only [↓AW_skip, ↓AW_ops, ↓AW_seq, ↓AW_cond, ↓AW_block, ↓AOps_nil, ↓AOps_pu, on_some, condB_t, ↓then_normal, pval, rd_S, rd_C, put_S, ↓AW_toLoop, mk, List.foldl_cons, List.foldl_nil, List.replicate_succ, List.replicate_zero, List.set_cons_zero, List.set_cons_succ, List.getElem?_cons_zero, List.getElem?_cons_succ, Option.getD_some, bin_lss, decide_true, hlt', hx.len]
    refine LoopK.by 84 (fun k : Nat => k ≤ cs.length) (fun k => [(0, v), (1, I e), (4, .agg [I 0, I 0]), (5, I i), (6, I (e - bs c (cs.take k))), (7, I (bn c (cs.take k))), (8, I k)]) (fun _ => A) (fun k => cs.length - k) 0 (by omega) rfl (by simp [Has, rd_s, bs, bn]) rfl ?_
    intro k hk
    have b1 := bs_bd c (l := cs.take k) (fun x hx => hc.ok.c x (List.mem_of_mem_take hx))
    have b2 := bn_bd c (cs.take k)
    have hkl : (cs.take k).length ≤ 8 := by rw [List.length_take]; omega
    by_cases hkt : k < cs.length
    · have hkt' : (k : Int) < cs.length := by omega
      obtain ⟨d, hd⟩ : ∃ d, cs[k]? = some d := ⟨_, List.getElem?_eq_getElem hkt⟩
      have hdc := hc.ok.c d (List.mem_of_getElem? hd)
      have t1 := bs_take (c := c) hd
      have t2 := bn_take (c := c) hd
      by_cases h1 : d < c
      · rw [if_pos h1] at t1 t2
        simp (maxSteps := 4000000) -implicitDefEqProofs -dsimp (disch := omega) only [↓AW_skip, ↓AW_ops, ↓AW_seq, ↓AW_cond, ↓AW_block, ↓AOps_nil, ↓AOps_pu, ↓AOps_ld, on_some, condB_t, ↓then_normal, ↓inBlock_normal, pval, lval, rd_S, rd_C, put_S, partA, eq_self, mk, List.foldl_cons, List.foldl_nil, List.replicate_succ, List.replicate_zero, List.set_cons_zero, List.set_cons_succ, List.getElem?_cons_zero, List.getElem?_cons_succ, List.drop_zero, List.take_succ_cons, List.take_nil, Option.getD_some, List.length_cons, List.length_nil, Nat.reduceAdd, Nat.reduceLeDiff, Nat.zero_add, bin_add, bin_sub, bin_lss, w64, if_true, if_false, Bool.false_eq_true, decide_true, Go.Eng.e1, true_and, hkt', hx.len, hx.idx hkt, hx.ld0 hd 1 false (by decide), hx.idx hlt, hx.ld0 hz 1 false (by decide), h1]
        refine ⟨k + 1, hkt, ?_, by omega⟩
        rw [t1, t2]
        simp [Has, rd_s]
        omega
      · rw [if_neg h1] at t1 t2
        simp (maxSteps := 4000000) -implicitDefEqProofs -dsimp (disch := omega) only [↓AW_skip, ↓AW_ops, ↓AW_seq, ↓AW_cond, ↓AW_block, ↓AOps_nil, ↓AOps_pu, ↓AOps_ld, on_some, condB_t, condB_f, ↓then_normal, ↓inBlock_normal, pval, lval, rd_S, rd_C, put_S, partA, eq_self, mk, List.foldl_cons, List.foldl_nil, List.replicate_succ, List.replicate_zero, List.set_cons_zero, List.set_cons_succ, List.getElem?_cons_zero, List.getElem?_cons_succ, List.drop_zero, List.take_succ_cons, List.take_nil, Option.getD_some, List.length_cons, List.length_nil, Nat.reduceAdd, Nat.reduceLeDiff, Nat.zero_add, bin_add, bin_lss, w64, if_true, if_false, Bool.false_eq_true, decide_true, decide_false, Go.Eng.e1, true_and, hkt', hx.len, hx.idx hkt, hx.ld0 hd 1 false (by decide), hx.idx hlt, hx.ld0 hz 1 false (by decide), h1]
        refine ⟨k + 1, hkt, ?_, by omega⟩
        rw [t1, t2]
        simp [Has, rd_s]
    · have hkt' : ¬ ((k : Int) < cs.length) := by omega
      have htk : cs.take k = cs := List.take_of_length_le (by omega)
      rw [htk] at b1 b2 ⊢
      simp (maxSteps := 4000000) -implicitDefEqProofs -dsimp (disch := omega) only [↓AW_ops, ↓AW_seq, ↓AW_cond, ↓AW_block, ↓AW_exit, ↓AW_ret, ↓AOps_nil, ↓AOps_pu, on_some, condB_f, ↓then_normal, ↓then_exit, ↓inBlock_exit, ↓Fin_ret, pval, rd_S, rd_C, put_S, ↓AW_toLoop, resV, resL, chkd, bput, bgot, AV.cells?, splice, partA, fillA, eq_self, mk, List.foldl_cons, List.foldl_nil, List.replicate_succ, List.replicate_zero, List.set_cons_zero, List.set_cons_succ, List.getElem?_cons_zero, List.getElem?_cons_succ, List.drop_zero, List.drop_succ_cons, List.drop_nil, List.take_zero, List.take_succ_cons, List.take_nil, Option.getD_some, Option.map_some, map_c, map_n, List.length_cons, List.length_nil, Nat.reduceAdd, Nat.reduceLeDiff, Nat.reduceEqDiff, Nat.zero_add, List.cons_append, List.nil_append, List.append_nil, bin_add, bin_lss, w64, if_true, if_false, decide_false, true_and, and_true, reduceCtorEq, ne_eq, not_true_eq_false, hkt', hx.len]
      refine LoopK.by 84 (fun x : Nat × Int => x.1 ≤ cs.length ∧ SM c (cs.take x.1) x.2) (fun x => [(0, v), (1, I e), (4, .agg [I 0, I 0]), (5, I i), (6, I (e - bs c cs)), (7, I (bn c cs)), (9, I x.2), (10, I x.1)]) (fun _ => A) (fun x => cs.length - x.1) (0, 0) ⟨by simp only; omega, by simp only; omega, by simp only; omega, by simp, .inl rfl⟩ rfl (by simp [Has, rd_s]) rfl ?_
      rintro ⟨j, s⟩ ⟨hj, hS⟩
      simp only at hj hS
      have hs0 := hS.s0
      have hs1 := hS.s1
      by_cases hjt : j < cs.length
      · have hjt' : (j : Int) < cs.length := by omega
        obtain ⟨d, hd⟩ : ∃ d, cs[j]? = some d := ⟨_, List.getElem?_eq_getElem hjt⟩
        have hdc := hc.ok.c d (List.mem_of_getElem? hd)
        by_cases h1 : d < c
        · simp (maxSteps := 4000000) -implicitDefEqProofs -dsimp (disch := omega) only [↓AW_skip, ↓AW_ops, ↓AW_seq, ↓AW_cond, ↓AW_block, ↓AOps_nil, ↓AOps_pu, ↓AOps_ld, on_some, condB_t, ↓then_normal, ↓inBlock_normal, pval, lval, rd_S, rd_C, put_S, partA, eq_self, mk, List.foldl_cons, List.foldl_nil, List.replicate_succ, List.replicate_zero, List.set_cons_zero, List.set_cons_succ, List.getElem?_cons_zero, List.getElem?_cons_succ, List.drop_zero, List.take_succ_cons, List.take_nil, Option.getD_some, map_c, map_n, List.length_cons, List.length_nil, Nat.reduceAdd, Nat.reduceLeDiff, Nat.zero_add, bin_add, bin_lss, mm_max, w64, if_true, if_false, Bool.false_eq_true, decide_true, Go.Eng.e1, true_and, hjt', hx.len, hx.idx hjt, hx.ld0 hd 1 false (by decide), hx.idx hlt, hx.ld0 hz 1 false (by decide), h1]
          refine ⟨(j + 1, max s d), ⟨hjt, by simp only; omega, by simp only; omega, fun x hxm hxc => ?_, ?_⟩, by simp [Has, rd_s], by simp only; omega⟩
          · simp only
            rcases (take_mem hd).1 hxm with hxm | rfl
            · have := hS.all x hxm hxc; omega
            · omega
          · simp only
            by_cases hm : s ≤ d
            · have : max s d = d := by omega
              rw [this]
              exact .inr ⟨(take_mem hd).2 (.inr rfl), h1⟩
            · have : max s d = s := by omega
              rw [this]
              rcases hS.is with h0 | ⟨h2, h3⟩
              · exact .inl h0
              · exact .inr ⟨(take_mem hd).2 (.inl h2), h3⟩
        · simp (maxSteps := 4000000) -implicitDefEqProofs -dsimp (disch := omega) only [↓AW_skip, ↓AW_ops, ↓AW_seq, ↓AW_cond, ↓AW_block, ↓AOps_nil, ↓AOps_pu, ↓AOps_ld, on_some, condB_t, condB_f, ↓then_normal, ↓inBlock_normal, pval, lval, rd_S, rd_C, put_S, partA, eq_self, mk, List.foldl_cons, List.foldl_nil, List.replicate_succ, List.replicate_zero, List.set_cons_zero, List.set_cons_succ, List.getElem?_cons_zero, List.getElem?_cons_succ, List.drop_zero, List.take_succ_cons, List.take_nil, Option.getD_some, List.length_cons, List.length_nil, Nat.reduceAdd, Nat.reduceLeDiff, Nat.zero_add, bin_add, bin_lss, w64, if_true, if_false, Bool.false_eq_true, decide_true, decide_false, Go.Eng.e1, true_and, hjt', hx.len, hx.idx hjt, hx.ld0 hd 1 false (by decide), hx.idx hlt, hx.ld0 hz 1 false (by decide), h1]
          refine ⟨(j + 1, s), ⟨hjt, hs0, hs1, fun x hxm hxc => ?_, ?_⟩, by simp [Has, rd_s], by simp only; omega⟩
          · rcases (take_mem hd).1 hxm with hxm | rfl
            · exact hS.all x hxm hxc
            · exact absurd hxc h1
          · rcases hS.is with h0 | ⟨h2, h3⟩
            · exact .inl h0
            · exact .inr ⟨(take_mem hd).2 (.inl h2), h3⟩
      · have hjt' : ¬ ((j : Int) < cs.length) := by omega
        have htj : cs.take j = cs := List.take_of_length_le (by omega)
        rw [htj] at hS
        have hnp := bn_pos hcm
        have m1 := Int.mul_le_mul (show bn c cs ≤ 8 by omega) hs1 hs0 (by omega : (0 : Int) ≤ 8)
        have m2 := Int.mul_nonneg b2.1 hs0
        have m3 := Int.mul_le_mul (show bn c cs ≤ 8 by omega) hcc.2 hcc.1 (by omega : (0 : Int) ≤ 8)
        have m4 := Int.mul_nonneg b2.1 hcc.1
        have next : ¬ gdC cs e c s → ∀ c' ∈ cs.take (i + 1), ∃ s, SM c' cs s ∧ ¬ gdC cs e c' s := by
          intro hng c' hc'
          rcases (take_mem hz).1 hc' with hc' | rfl
          · exact hno c' hc'
          · exact ⟨s, hS, hng⟩
        by_cases h1 : bn c cs * s ≤ e - bs c cs
        · by_cases h2 : e - bs c cs ≤ bn c cs * c
          · have hlv := LV.uniq (gdC_lv hcm hS ⟨h1, h2⟩) (lv_char hc).1
            have hmx : max (e - bs c cs) 0 = e - bs c cs := by omega
            simp (maxSteps := 4000000) -implicitDefEqProofs -dsimp (disch := omega) only [↓AW_ops, ↓AW_seq, ↓AW_cond, ↓AW_exit, ↓AW_ret, ↓AOps_nil, ↓AOps_pu, ↓AOps_ld, ↓AOps_call, ↓AOps_guard, on_some, guardB_tt, condB_t, condB_f, ↓then_normal, ↓then_exit, ↓inBlock_exit, ↓Fin_ret, pval, lval, rd_S, rd_C, put_S, resV, resL, chkd, bput, bgot, AV.cells?, splice, partA, fillA, eq_self, mk, List.foldl_cons, List.foldl_nil, List.replicate_succ, List.replicate_zero, List.set_cons_zero, List.set_cons_succ, List.getElem?_cons_zero, List.getElem?_cons_succ, List.drop_zero, List.drop_succ_cons, List.drop_nil, List.take_zero, List.take_succ_cons, List.take_nil, Option.getD_some, Option.map_some, map_c, map_n, List.length_cons, List.length_nil, Nat.reduceAdd, Nat.reduceLeDiff, Nat.reduceEqDiff, Nat.zero_add, List.cons_append, List.nil_append, List.append_nil, bin_add, bin_mul, bin_lss, bin_leq, bin_geq, mm_max, w64, if_true, if_false, Bool.false_eq_true, decide_true, decide_false, Go.Eng.e1, true_and, and_true, reduceCtorEq, ne_eq, not_true_eq_false, hjt', hx.len, hx.idx hlt, hx.ld0 hz 1 false (by decide), h1, h2, hmx]
            refine CallK.of (s62 (a := e - bs c cs) (b := bn c cs) _ ⟨by omega, by omega⟩ (by omega) (by omega)) ?_
            rw [hlv]
            simp (maxSteps := 4000000) -implicitDefEqProofs -dsimp (disch := omega) only [↓AW_ops, ↓AW_seq, ↓AW_ret, ↓AOps_nil, ↓AOps_pu, on_some, extK_same, ↓then_normal, ↓then_ret, ↓inBlock_ret, ↓Fin_ret, pval, rd_S, rd_C, put_S, resV, resL, chkd, bput, bgot, AV.cells?, splice, partA, eq_self, mk, List.foldl_cons, List.foldl_nil, List.replicate_succ, List.replicate_zero, List.set_cons_zero, List.set_cons_succ, List.getElem?_cons_zero, List.getElem?_cons_succ, List.drop_zero, List.drop_succ_cons, List.drop_nil, List.take_zero, List.take_succ_cons, List.take_nil, Option.getD_some, List.length_cons, List.length_nil, Nat.reduceAdd, Nat.reduceLeDiff, Nat.reduceEqDiff, Nat.zero_add, List.nil_append, List.append_nil, if_true, if_false, ne_eq, not_true_eq_false, R]
            exact gc_same rfl
          · simp (maxSteps := 4000000) -implicitDefEqProofs -dsimp (disch := omega) only [↓AW_skip, ↓AW_ops, ↓AW_seq, ↓AW_cond, ↓AW_exit, ↓AW_ret, ↓AOps_nil, ↓AOps_pu, ↓AOps_ld, ↓AOps_guard, on_some, guardB_tt, condB_f, ↓then_normal, ↓then_exit, ↓inBlock_normal, ↓inBlock_exit, ↓Fin_ret, pval, lval, rd_S, rd_C, put_S, resV, resL, chkd, bput, bgot, AV.cells?, splice, partA, fillA, eq_self, mk, List.foldl_cons, List.foldl_nil, List.replicate_succ, List.replicate_zero, List.set_cons_zero, List.set_cons_succ, List.getElem?_cons_zero, List.getElem?_cons_succ, List.drop_zero, List.drop_succ_cons, List.drop_nil, List.take_zero, List.take_succ_cons, List.take_nil, Option.getD_some, Option.map_some, map_c, map_n, List.length_cons, List.length_nil, Nat.reduceAdd, Nat.reduceLeDiff, Nat.reduceEqDiff, Nat.zero_add, List.cons_append, List.nil_append, List.append_nil, bin_add, bin_mul, bin_lss, bin_leq, bin_geq, w64, if_true, if_false, Bool.false_eq_true, decide_true, decide_false, Go.Eng.e1, true_and, and_true, reduceCtorEq, ne_eq, not_true_eq_false, hjt', hx.len, hx.idx hlt, hx.ld0 hz 1 false (by decide), h1, h2]
            exact ⟨i + 1, ⟨hlt, next (fun hh => h2 hh.2)⟩, by simp [Has, rd_s], by omega⟩
        · simp (maxSteps := 4000000) -implicitDefEqProofs -dsimp (disch := omega) only [↓AW_skip, ↓AW_ops, ↓AW_seq, ↓AW_cond, ↓AW_exit, ↓AW_ret, ↓AOps_nil, ↓AOps_pu, ↓AOps_guard, on_some, guardB_ft, skipS_some, condB_f, ↓then_normal, ↓then_exit, ↓inBlock_normal, ↓inBlock_exit, ↓Fin_ret, pval, rd_S, rd_C, put_S, resV, resL, chkd, bput, bgot, AV.cells?, splice, partA, fillA, eq_self, mk, List.foldl_cons, List.foldl_nil, List.replicate_succ, List.replicate_zero, List.set_cons_zero, List.set_cons_succ, List.getElem?_cons_zero, List.getElem?_cons_succ, List.drop_zero, List.drop_succ_cons, List.drop_nil, List.take_zero, List.take_succ_cons, List.take_nil, Option.getD_some, Option.map_some, map_c, map_n, List.length_cons, List.length_nil, Nat.reduceAdd, Nat.reduceLeDiff, Nat.reduceEqDiff, Nat.zero_add, List.cons_append, List.nil_append, List.append_nil, bin_add, bin_mul, bin_lss, bin_geq, w64, if_true, if_false, Bool.false_eq_true, decide_false, true_and, and_true, reduceCtorEq, ne_eq, not_true_eq_false, hjt', hx.len, h1]
          exact ⟨i + 1, ⟨hlt, next (fun hh => h1 hh.1)⟩, by simp [Has, rd_s], by omega⟩
  · exfalso
    rw [List.take_of_length_le (by omega)] at hno
    obtain ⟨c, hcm, hall⟩ := gdC_ex hc
    obtain ⟨s, h1, h2⟩ := hno c hcm
    exact h2 (hall s h1)
end
end Go.Proofs.Ytdcdjhhjlpegjaa

namespace Go.Proofs.Ytdcdjhhjlpegjaa
open Go Go.Eng
theorem cancel {a b d : Rat} (hd : 0 < d) (h : a * d = b * d) : a = b :=
  Rat.le_antisymm (rat_le_of_mul hd (by rw [h]; exact Rat.le_refl)) (rat_le_of_mul hd (by rw [h]; exact Rat.le_refl))
theorem q_mul (q : Rat) : q * ((q.den : Int) : Rat) = ((q.num : Int) : Rat) := by
  have hdp := cast_pos (den_pos q)
  conv => lhs; lhs; rw [R_self q]
  exact Rat.div_mul_cancel (Ne.symm (Rat.ne_of_lt hdp))
theorem over_den {x : Int} {y q : Rat} (h : (x : Rat) = y * ((q.den : Int) : Rat)) : (x : Rat) / ((q.den : Int) : Rat) = y := by
  have hdp := cast_pos (den_pos q)
  refine cancel hdp ?_
  rw [Rat.div_mul_cancel (Ne.symm (Rat.ne_of_lt hdp)), h]
/-- The smaller ones of the claims and a number, over its denominator. -/
def upL (cs : List Int) (l : Rat) : List Int := cs.map (fun c => min (c * (l.den : Int)) l.num)
/-- What the claims are above a number, over its denominator. -/
def reL (cs : List Int) (l : Rat) : List Int := cs.map (fun c => max 0 (c * (l.den : Int) - l.num))
def fr (xs : List Int) (d : Int) : List Rat := xs.map (fun x : Int => (x : Rat) / (d : Rat))
theorem up_q (c : Int) (l : Rat) : (((min (c * (l.den : Int)) l.num : Int)) : Rat) = mnq c l * ((l.den : Int) : Rat) := by
  by_cases h : c * (l.den : Int) < l.num
  · have h1 : min (c * (l.den : Int)) l.num = c * (l.den : Int) := by omega
    rw [h1, mnq_c (Rat.le_of_lt (mnq_iff.1 h)), Rat.intCast_mul]
  · have h1 : min (c * (l.den : Int)) l.num = l.num := by omega
    rw [h1, mnq_l (Rat.not_lt.1 (fun hh => h (mnq_iff.2 hh))), q_mul]
theorem re_q (c : Int) (l : Rat) : (((max 0 (c * (l.den : Int) - l.num) : Int)) : Rat) = ((c : Rat) - mnq c l) * ((l.den : Int) : Rat) := by
  by_cases h : c * (l.den : Int) < l.num
  · have h1 : max 0 (c * (l.den : Int) - l.num) = 0 := by omega
    rw [h1, mnq_c (Rat.le_of_lt (mnq_iff.1 h)), int0]
    grind
  · have h1 : max 0 (c * (l.den : Int) - l.num) = c * (l.den : Int) - l.num := by omega
    rw [h1, mnq_l (Rat.not_lt.1 (fun hh => h (mnq_iff.2 hh))), Rat.intCast_sub, Rat.intCast_mul, ← q_mul]
    grind
theorem fr_up (cs : List Int) (l : Rat) : fr (upL cs l) l.den = capL cs l := by
  unfold fr upL capL
  rw [List.map_map]
  exact List.map_congr_left (fun c _ => over_den (up_q c l))
theorem fr_re (cs : List Int) (l : Rat) : fr (reL cs l) l.den = cs.map (fun c : Int => (c : Rat) - mnq c l) := by
  unfold fr reL
  rw [List.map_map]
  exact List.map_congr_left (fun c _ => over_den (re_q c l))
theorem mnq_den {cs : List Int} {e : Int} {k : Int} (hd : ((lv cs e).den : Int) ∣ k) (c : Int) : ((mnq c (lv cs e)).den : Int) ∣ k := by
  unfold mnq
  split
  · rw [Rat.den_intCast]; exact Int.one_dvd _
  · exact hd
theorem sub_den {c : Int} {q : Rat} {k : Int} (h : (q.den : Int) ∣ k) : (((c : Rat) - q).den : Int) ∣ k := by
  have hd : (((c : Rat) - q).den : Int) ∣ (q.den : Int) := by
    rw [← lsq_eq c q]
    exact div_den (den_pos q)
  exact Int.dvd_trans hd h
theorem mnq0 {c : Int} {l : Rat} (hc : 0 ≤ c) (hl : 0 ≤ l) : 0 ≤ mnq c l := mnq_ge hl (cast_nonneg hc)
theorem aw_ok {cs : List Int} {e : Int} (hc : CE cs e) : chE cs e ((aw cs e).map rp) = 0 := by
  obtain ⟨hL, k, hk, hd⟩ := lv_char hc
  have hl8 := hc.ok.l8
  refine chE_ok hc (E := k) (by omega) (aw_len cs e) (fun q hq => ?_) (fun z hz => ?_) hL.s
  · obtain ⟨c, hcm, rfl⟩ := List.mem_map.1 hq
    exact ⟨mnq_den hd c, mnq0 (hc.ok.c c hcm).1 hL.l0⟩
  · unfold aw capL at hz
    rw [zip_self] at hz
    obtain ⟨c, hcm, rfl⟩ := List.mem_map.1 hz
    exact (mnq_le _ _).2
theorem sum_sub (f : Int → Rat) : ∀ cs : List Int, (cs.map (fun c : Int => (c : Rat) - f c)).sum = ((cs.sum : Int) : Rat) - (cs.map f).sum
  | [] => by simp only [List.map_nil, List.sum_nil]; rw [int0]; grind
  | c :: cs => by
    rw [List.map_cons, List.map_cons, List.sum_cons, List.sum_cons, List.sum_cons, sum_sub f cs, Rat.intCast_add]
    grind
theorem lo_ok {cs : List Int} {e : Int} (hc : CE cs e) : chE cs e ((lo cs e).map rp) = 0 := by
  obtain ⟨hL, k, hk, hd⟩ := lv_char hc.sub
  have hl8 := hc.ok.l8
  refine chE_ok hc (E := k) (by omega) (lo_len cs e) (fun q hq => ?_) (fun z hz => ?_) ?_
  · rw [lo_eq] at hq
    obtain ⟨c, hcm, rfl⟩ := List.mem_map.1 hq
    have := (mnq_le c (lv cs (cs.sum - e))).2
    exact ⟨sub_den (mnq_den hd c), by grind⟩
  · rw [lo_eq, zip_self] at hz
    obtain ⟨c, hcm, rfl⟩ := List.mem_map.1 hz
    have := mnq0 (hc.ok.c c hcm).1 hL.l0
    show (c : Rat) - mnq c (lv cs (cs.sum - e)) ≤ (c : Rat)
    grind
  · rw [lo_eq, sum_sub]
    have := hL.s
    unfold capL at this
    rw [this, Rat.intCast_sub]
    grind
end Go.Proofs.Ytdcdjhhjlpegjaa

namespace Go.Proofs.Ytdcdjhhjlpegjaa
open Go Go.Eng
/-- The greatest one of some numbers. -/
def mxL : List Int → Int
  | [] => 0
  | x :: xs => xs.foldl max x
theorem foldl_max (xs : List Int) : ∀ a : Int, a ≤ xs.foldl max a ∧ (∀ y ∈ xs, y ≤ xs.foldl max a) ∧ (xs.foldl max a = a ∨ xs.foldl max a ∈ xs) := by
  induction xs with
  | nil => intro a; simp
  | cons b xs ih =>
    intro a
    obtain ⟨h1, h2, h3⟩ := ih (max a b)
    rw [List.foldl_cons]
    refine ⟨by omega, fun y hy => ?_, ?_⟩
    · rcases List.mem_cons.1 hy with rfl | hy
      · omega
      · exact h2 y hy
    · rcases h3 with h | h
      · rw [h]
        by_cases hab : a ≤ b
        · right; rw [Int.max_eq_right hab]; simp
        · left; exact Int.max_eq_left (by omega)
      · exact .inr (by simp [h])
theorem mxL_mem {xs : List Int} (h : xs ≠ []) : mxL xs ∈ xs := by
  cases xs with
  | nil => exact absurd rfl h
  | cons x xs =>
    show xs.foldl max x ∈ x :: xs
    rcases (foldl_max xs x).2.2 with h | h
    · rw [h]; simp
    · exact List.mem_cons_of_mem _ h
theorem mxL_ge {xs : List Int} {y : Int} (h : y ∈ xs) : y ≤ mxL xs := by
  cases xs with
  | nil => simp at h
  | cons x xs =>
    show y ≤ xs.foldl max x
    rcases List.mem_cons.1 h with rfl | h
    · exact (foldl_max xs y).1
    · exact (foldl_max xs x).2.1 y h
theorem mxL_take {xs : List Int} {i : Nat} {z : Int} (hi : 1 ≤ i) (hz : xs[i]? = some z) : mxL (xs.take (i + 1)) = max (mxL (xs.take i)) z := by
  cases xs with
  | nil => simp at hz
  | cons x xs =>
    obtain ⟨j, rfl⟩ : ∃ j, i = j + 1 := ⟨i - 1, by omega⟩
    simp only [List.take_succ_cons, mxL]
    rw [List.getElem?_cons_succ] at hz
    rw [List.take_add_one, hz, Option.toList_some, List.foldl_append, List.foldl_cons, List.foldl_nil]
theorem c_Max {xs : List Int} {v : AV} {A : AHeap} (hx : L1 A v xs) (h0 : 1 ≤ xs.length) (hl : xs.length ≤ 1000000) : ACalls Try.prog 64 [v] A (I (mxL xs)) A := by
  refine acalls hmix Try.func64 (by kernel_rfl) t64 1 rfl (by decide) ?_
  obtain ⟨x, hx0⟩ : ∃ x, xs[0]? = some x := ⟨_, List.getElem?_eq_getElem (by omega)⟩
  have h0' : ¬ (xs.length : Int) < 1 := by omega
  have i0 := hx.idx (k := .i64) (i := 0) (by omega)
  have e0' : ((0 : Nat) : Int) = 0 := rfl
  have l0 := hx.ld0 hx0 1 false (by decide)
  rw [e0'] at i0
  rw [Nat.zero_mul, Nat.add_zero] at i0 l0
  dsimp only [m64]
  simp (maxSteps := 4000000) -implicitDefEqProofs -dsimp (disch := omega) only [↓AW_skip, ↓AW_ops, ↓AW_seq, ↓AW_cond, ↓AW_block, ↓AOps_nil, ↓AOps_pu, ↓AOps_ld, on_some, condB_f, ↓then_normal, pval, lval, rd_S, rd_C, put_S, ↓AW_toLoop, partA, eq_self, List.replicate_succ, List.replicate_zero, List.set_cons_zero, List.set_cons_succ, List.getElem?_cons_zero, List.getElem?_cons_succ, List.drop_zero, List.take_succ_cons, List.take_nil, Option.getD_some, List.length_cons, List.length_nil, Nat.reduceSub, Nat.reduceLeDiff, Nat.zero_add, List.cons_append, List.nil_append, bin_lss, if_true, if_false, Bool.false_eq_true, decide_false, Go.Eng.e1, hx.len, h0', i0, l0]
  have ht1 : mxL (xs.take 1) = x := by
    cases xs with
    | nil => simp at hx0
    | cons y ys => simp at hx0; subst hx0; rfl
  refine LoopK.by 25 (fun i : Nat => 1 ≤ i ∧ i ≤ xs.length) (fun i => [(0, v), (3, I (mxL (xs.take i))), (4, I i)]) (fun _ => A) (fun i => xs.length - i) 1 ⟨by omega, by omega⟩ rfl (by simp [Has, rd_s, ht1]) rfl ?_
  rintro i ⟨hi1, hi⟩
  by_cases hlt : i < xs.length
  · obtain ⟨z, hz⟩ : ∃ z, xs[i]? = some z := ⟨_, List.getElem?_eq_getElem hlt⟩
    have hlt' : (i : Int) < xs.length := by omega
    simp (maxSteps := 4000000) -implicitDefEqProofs -dsimp (disch := omega) only [↓AW_skip, ↓AW_ops, ↓AW_seq, ↓AW_cond, ↓AW_block, ↓AOps_nil, ↓AOps_pu, ↓AOps_ld, on_some, condB_t, ↓then_normal, ↓inBlock_normal, pval, lval, rd_S, rd_C, put_S, partA, eq_self, mk, List.foldl_cons, List.foldl_nil, List.replicate_succ, List.replicate_zero, List.set_cons_zero, List.set_cons_succ, List.getElem?_cons_zero, List.getElem?_cons_succ, List.drop_zero, List.take_succ_cons, List.take_nil, Option.getD_some, map_c, map_n, List.length_cons, List.length_nil, Nat.reduceAdd, Nat.reduceLeDiff, Nat.zero_add, bin_add, bin_lss, mm_max, w64, if_true, if_false, Bool.false_eq_true, decide_true, Go.Eng.e1, true_and, hlt', hx.len, hx.idx hlt, hx.ld0 hz 1 false (by decide)]
    exact ⟨i + 1, ⟨by omega, hlt⟩, by simp [Has, rd_s, mxL_take hi1 hz], by omega⟩
  · have hlt' : ¬ ((i : Int) < xs.length) := by omega
    simp (maxSteps := 4000000) -implicitDefEqProofs -dsimp (disch := omega) only [↓AW_ops, ↓AW_seq, ↓AW_cond, ↓AW_exit, ↓AW_ret, ↓AOps_nil, ↓AOps_pu, on_some, condB_f, ↓then_normal, ↓then_exit, ↓inBlock_exit, ↓Fin_ret, pval, rd_S, put_S, resV, resL, eq_self, mk, List.foldl_cons, List.foldl_nil, List.replicate_succ, List.replicate_zero, List.set_cons_zero, List.set_cons_succ, List.getElem?_cons_zero, List.getElem?_cons_succ, Option.getD_some, bin_lss, if_true, decide_false, hlt', hx.len]
    rw [List.take_of_length_le (by omega)]
    exact gc_same rfl
section
variable {cs : List Int} {v : AV} {A : AHeap} {e : Int}
theorem s68 (hx : L1 A v cs) (hok : OK cs) {l : Rat} (hl : SQ l) : ACalls Try.prog 68 [v, R l] A (outV 1 A (upL cs l).length) (outH A ((upL cs l).flatMap e1) (upL cs l).length) := by
  refine acalls hmix Try.func68 (by kernel_rfl) t68 2 rfl (by decide) ?_
  have hlen : (upL cs l).length = cs.length := by simp [upL]
  have hl8 := hok.l8
  have hdp := den_pos l
  have hd := hl.d
  have hn := hl.num
  dsimp only [m68]
  simp (maxSteps := 4000000) -implicitDefEqProofs -dsimp (disch := omega) only [↓AW_ops, ↓AW_seq, ↓AW_block, ↓AOps_nil, ↓AOps_pu, on_some, ↓then_normal, pval, rd_S, rd_C, put_S, ↓AW_toLoop, AV.cells?, List.replicate_succ, List.replicate_zero, List.set_cons_zero, List.set_cons_succ, List.getElem?_cons_zero, List.getElem?_cons_succ, Option.getD_some, Nat.reduceSub, List.cons_append, List.nil_append]
  refine LoopK.by 27 (fun x : Nat × AV × AHeap => x.1 ≤ cs.length ∧ AccL 1 e1 A x.2.2 x.2.1 ((upL cs l).take x.1)) (fun x => [(0, v), (3, .agg [I l.num, I (l.den : Int)]), (5, x.2.1), (6, I x.1)]) (fun x => x.2.2) (fun x => cs.length - x.1) (0, .nilS, A) ⟨by simp only; omega, AccL.nil (List.prefix_refl _)⟩ rfl (by simp [Has, rd_s]) rfl ?_
  rintro ⟨i, w, A1⟩ ⟨hi, hu⟩
  simp only at hi hu
  have hx1 := hx.mono hu.pre
  by_cases hlt : i < cs.length
  · obtain ⟨z, hz⟩ : ∃ z, cs[i]? = some z := ⟨_, List.getElem?_eq_getElem hlt⟩
    have hlt' : (i : Int) < cs.length := by omega
    have hzc := hok.c z (List.mem_of_getElem? hz)
    have m1 := Int.mul_le_mul hzc.2 hd (by omega) (by omega : (0 : Int) ≤ 1000)
    have m2 := Int.mul_nonneg hzc.1 (show 0 ≤ (l.den : Int) by omega)
    obtain ⟨u3, A3, happ, hu3⟩ := hu.push e1_len (min (z * (l.den : Int)) l.num) (by rw [List.length_take]; simp [lim]; omega)
    have hz2 : (upL cs l).take (i + 1) = (upL cs l).take i ++ [min (z * (l.den : Int)) l.num] := map_take (fun c => min (c * (l.den : Int)) l.num) hz
    rw [← hz2] at hu3
    simp only [e1] at happ
    simp (maxSteps := 4000000) -implicitDefEqProofs -dsimp (disch := omega) only [↓AW_skip, ↓AW_ops, ↓AW_seq, ↓AW_cond, ↓AW_block, ↓AOps_nil, ↓AOps_pu, ↓AOps_ld, ↓AOps_ha, on_some, extK_false, extK_app, condB_t, ↓then_normal, ↓inBlock_normal, pval, lval, hval, rd_S, rd_C, put_S, chkd, isAdr, bgot, AV.cells?, splice, partA, fillA, repl, eq_self, mk, List.foldl_cons, List.foldl_nil, List.replicate_succ, List.replicate_zero, List.set_cons_zero, List.set_cons_succ, List.getElem?_cons_zero, List.getElem?_cons_succ, List.drop_zero, List.drop_succ_cons, List.drop_nil, List.take_zero, List.take_succ_cons, List.take_nil, Option.getD_some, map_c, map_n, List.length_cons, List.length_nil, Nat.reduceAdd, Nat.reduceLeDiff, Nat.zero_add, List.nil_append, List.append_nil, bin_add, bin_mul, bin_lss, mm_min, w64, if_true, if_false, Bool.false_eq_true, decide_true, Go.Eng.e1, true_and, and_true, hlt', hx1.len, hx1.idx hlt, hx1.ld0 hz 1 false (by decide), happ]
    exact ⟨(i + 1, u3, A3), ⟨hlt, hu3⟩, by simp [Has, rd_s], rfl, by simp only; omega⟩
  · have hlt' : ¬ ((i : Int) < cs.length) := by omega
    simp (maxSteps := 4000000) -implicitDefEqProofs -dsimp (disch := omega) only [↓AW_ops, ↓AW_seq, ↓AW_cond, ↓AW_exit, ↓AW_ret, ↓AOps_nil, ↓AOps_pu, on_some, condB_f, ↓then_normal, ↓then_exit, ↓inBlock_exit, ↓Fin_ret, pval, rd_S, put_S, resV, resL, eq_self, mk, List.foldl_cons, List.foldl_nil, List.replicate_succ, List.replicate_zero, List.set_cons_zero, List.set_cons_succ, List.getElem?_cons_zero, List.getElem?_cons_succ, Option.getD_some, bin_lss, if_true, decide_false, hlt', hx1.len]
    rw [List.take_of_length_le (by omega)] at hu
    exact hu.gc flat_e1
theorem s69 (hx : L1 A v cs) (hok : OK cs) {l : Rat} (hl : SQ l) : ACalls Try.prog 69 [v, R l] A (outV 1 A (reL cs l).length) (outH A ((reL cs l).flatMap e1) (reL cs l).length) := by
  refine acalls hmix Try.func69 (by kernel_rfl) t69 2 rfl (by decide) ?_
  have hlen : (reL cs l).length = cs.length := by simp [reL]
  have hl8 := hok.l8
  have hdp := den_pos l
  have hd := hl.d
  have hn := hl.num
  dsimp only [m69]
  simp (maxSteps := 4000000) -implicitDefEqProofs -dsimp (disch := omega) only [↓AW_ops, ↓AW_seq, ↓AW_block, ↓AOps_nil, ↓AOps_pu, on_some, ↓then_normal, pval, rd_S, rd_C, put_S, ↓AW_toLoop, AV.cells?, List.replicate_succ, List.replicate_zero, List.set_cons_zero, List.set_cons_succ, List.getElem?_cons_zero, List.getElem?_cons_succ, Option.getD_some, Nat.reduceSub, List.cons_append, List.nil_append]
  refine LoopK.by 28 (fun x : Nat × AV × AHeap => x.1 ≤ cs.length ∧ AccL 1 e1 A x.2.2 x.2.1 ((reL cs l).take x.1)) (fun x => [(0, v), (3, .agg [I l.num, I (l.den : Int)]), (5, x.2.1), (6, I x.1)]) (fun x => x.2.2) (fun x => cs.length - x.1) (0, .nilS, A) ⟨by simp only; omega, AccL.nil (List.prefix_refl _)⟩ rfl (by simp [Has, rd_s]) rfl ?_
  rintro ⟨i, w, A1⟩ ⟨hi, hu⟩
  simp only at hi hu
  have hx1 := hx.mono hu.pre
  by_cases hlt : i < cs.length
  · obtain ⟨z, hz⟩ : ∃ z, cs[i]? = some z := ⟨_, List.getElem?_eq_getElem hlt⟩
    have hlt' : (i : Int) < cs.length := by omega
    have hzc := hok.c z (List.mem_of_getElem? hz)
    have m1 := Int.mul_le_mul hzc.2 hd (by omega) (by omega : (0 : Int) ≤ 1000)
    have m2 := Int.mul_nonneg hzc.1 (show 0 ≤ (l.den : Int) by omega)
    obtain ⟨u3, A3, happ, hu3⟩ := hu.push e1_len (max 0 (z * (l.den : Int) - l.num)) (by rw [List.length_take]; simp [lim]; omega)
    have hz2 : (reL cs l).take (i + 1) = (reL cs l).take i ++ [max 0 (z * (l.den : Int) - l.num)] := map_take (fun c => max 0 (c * (l.den : Int) - l.num)) hz
    rw [← hz2] at hu3
    simp only [e1] at happ
    simp (maxSteps := 4000000) -implicitDefEqProofs -dsimp (disch := omega) only [↓AW_skip, ↓AW_ops, ↓AW_seq, ↓AW_cond, ↓AW_block, ↓AOps_nil, ↓AOps_pu, ↓AOps_ld, ↓AOps_ha, on_some, extK_false, extK_app, condB_t, ↓then_normal, ↓inBlock_normal, pval, lval, hval, rd_S, rd_C, put_S, chkd, isAdr, bgot, AV.cells?, splice, partA, fillA, repl, eq_self, mk, List.foldl_cons, List.foldl_nil, List.replicate_succ, List.replicate_zero, List.set_cons_zero, List.set_cons_succ, List.getElem?_cons_zero, List.getElem?_cons_succ, List.drop_zero, List.drop_succ_cons, List.drop_nil, List.take_zero, List.take_succ_cons, List.take_nil, Option.getD_some, map_c, map_n, List.length_cons, List.length_nil, Nat.reduceAdd, Nat.reduceLeDiff, Nat.zero_add, List.nil_append, List.append_nil, bin_add, bin_sub, bin_mul, bin_lss, mm_max, w64, if_true, if_false, Bool.false_eq_true, decide_true, Go.Eng.e1, true_and, and_true, hlt', hx1.len, hx1.idx hlt, hx1.ld0 hz 1 false (by decide), happ]
    exact ⟨(i + 1, u3, A3), ⟨hlt, hu3⟩, by simp [Has, rd_s], rfl, by simp only; omega⟩
  · have hlt' : ¬ ((i : Int) < cs.length) := by omega
    simp (maxSteps := 4000000) -implicitDefEqProofs -dsimp (disch := omega) only [↓AW_ops, ↓AW_seq, ↓AW_cond, ↓AW_exit, ↓AW_ret, ↓AOps_nil, ↓AOps_pu, on_some, condB_f, ↓then_normal, ↓then_exit, ↓inBlock_exit, ↓Fin_ret, pval, rd_S, put_S, resV, resL, eq_self, mk, List.foldl_cons, List.foldl_nil, List.replicate_succ, List.replicate_zero, List.set_cons_zero, List.set_cons_succ, List.getElem?_cons_zero, List.getElem?_cons_succ, Option.getD_some, bin_lss, if_true, decide_false, hlt', hx1.len]
    rw [List.take_of_length_le (by omega)] at hu
    exact hu.gc flat_e1
theorem s67 {xs : List Int} (hx : L1 A v xs) (hl : xs.length ≤ 1000000) (hb : ∀ x ∈ xs, 0 ≤ x ∧ x ≤ 1000000000000) {d : Int} (hd : 0 < d ∧ d ≤ 1000000) : ACalls Try.prog 67 [v, I d] A (outV 2 A ((fr xs d).map rp).length) (outH A (((fr xs d).map rp).flatMap e2) ((fr xs d).map rp).length) := by
  refine acalls hmix Try.func67 (by kernel_rfl) t67 2 rfl (by decide) ?_
  have hlen : ((fr xs d).map rp).length = xs.length := by simp [fr]
  dsimp only [m67]
  simp (maxSteps := 4000000) -implicitDefEqProofs -dsimp (disch := omega) only [↓AW_ops, ↓AW_seq, ↓AW_block, ↓AOps_nil, ↓AOps_pu, on_some, ↓then_normal, pval, rd_C, put_S, ↓AW_toLoop, List.replicate_succ, List.replicate_zero, List.set_cons_zero, List.set_cons_succ, Nat.reduceSub, List.cons_append, List.nil_append]
  refine LoopK.by 23 (fun x : Nat × AV × AHeap => x.1 ≤ xs.length ∧ AccL 2 e2 A x.2.2 x.2.1 (((fr xs d).map rp).take x.1)) (fun x => [(0, v), (1, I d), (5, x.2.1), (6, I x.1)]) (fun x => x.2.2) (fun x => xs.length - x.1) (0, .nilS, A) ⟨by simp only; omega, AccL.nil (List.prefix_refl _)⟩ rfl (by simp [Has, rd_s]) rfl ?_
  rintro ⟨i, w, A1⟩ ⟨hi, hu⟩
  simp only at hi hu
  have hx1 := hx.mono hu.pre
  by_cases hlt : i < xs.length
  · obtain ⟨z, hz⟩ : ∃ z, xs[i]? = some z := ⟨_, List.getElem?_eq_getElem hlt⟩
    have hlt' : (i : Int) < xs.length := by omega
    have hzc := hb z (List.mem_of_getElem? hz)
    obtain ⟨u3, A3, happ, hu3⟩ := hu.push e2_len (rp ((z : Rat) / (d : Rat))) (by rw [List.length_take]; simp [lim]; omega)
    have hz2 : (fr xs d)[i]? = some ((z : Rat) / (d : Rat)) := by unfold fr; rw [List.getElem?_map, hz]; rfl
    rw [← map_take rp hz2] at hu3
    simp only [e2_rp] at happ
    simp (maxSteps := 4000000) -implicitDefEqProofs -dsimp (disch := omega) only [↓AW_skip, ↓AW_ops, ↓AW_seq, ↓AW_cond, ↓AW_block, ↓AOps_nil, ↓AOps_pu, ↓AOps_ld, ↓AOps_call, on_some, condB_t, ↓then_normal, pval, lval, rd_S, put_S, partA, eq_self, mk, List.foldl_cons, List.foldl_nil, List.replicate_succ, List.replicate_zero, List.set_cons_zero, List.set_cons_succ, List.getElem?_cons_zero, List.getElem?_cons_succ, List.drop_zero, List.take_succ_cons, List.take_nil, Option.getD_some, map_c, map_n, List.length_cons, List.length_nil, Nat.reduceLeDiff, Nat.zero_add, bin_lss, if_true, if_false, Bool.false_eq_true, decide_true, Go.Eng.e1, hlt', hx1.len, hx1.idx hlt, hx1.ld0 hz 1 false (by decide)]
    refine CallK.of (s62 (a := z) (b := d) _ ⟨by omega, by omega⟩ (by omega) (by omega)) ?_
    simp (maxSteps := 4000000) -implicitDefEqProofs -dsimp (disch := omega) only [↓AW_ops, ↓AOps_nil, ↓AOps_pu, ↓AOps_ha, on_some, extK_false, extK_app, extK_same, ↓then_normal, ↓inBlock_normal, pval, hval, rd_S, rd_C, put_S, AV.cells?, splice, fillA, repl, eq_self, mk, List.foldl_cons, List.foldl_nil, List.replicate_succ, List.replicate_zero, List.set_cons_zero, List.set_cons_succ, List.getElem?_cons_zero, List.getElem?_cons_succ, List.drop_succ_cons, List.drop_nil, List.take_zero, Option.getD_some, map_c, map_n, List.length_cons, List.length_nil, Nat.reduceAdd, Nat.reduceLeDiff, Nat.zero_add, List.nil_append, List.append_nil, bin_add, w64, if_true, true_and, and_true, R, happ]
    exact ⟨(i + 1, u3, A3), ⟨hlt, hu3⟩, by simp [Has, rd_s], rfl, by simp only; omega⟩
  · have hlt' : ¬ ((i : Int) < xs.length) := by omega
    simp (maxSteps := 4000000) -implicitDefEqProofs -dsimp (disch := omega) only [↓AW_ops, ↓AW_seq, ↓AW_cond, ↓AW_exit, ↓AW_ret, ↓AOps_nil, ↓AOps_pu, on_some, condB_f, ↓then_normal, ↓then_exit, ↓inBlock_exit, ↓Fin_ret, pval, rd_S, put_S, resV, resL, eq_self, mk, List.foldl_cons, List.foldl_nil, List.replicate_succ, List.replicate_zero, List.set_cons_zero, List.set_cons_succ, List.getElem?_cons_zero, List.getElem?_cons_succ, Option.getD_some, bin_lss, if_true, decide_false, hlt', hx1.len]
    rw [List.take_of_length_le (by omega)] at hu
    exact hu.gc flat_e2
theorem up_bd (hok : OK cs) {l : Rat} (hl : SQ l) : ∀ x ∈ upL cs l, 0 ≤ x ∧ x ≤ 1000000000000 := by
  intro x hx
  obtain ⟨c, hc, rfl⟩ := List.mem_map.1 hx
  have hcc := hok.c c hc
  have hn := hl.num
  have hd := hl.d
  have hdp := den_pos l
  have m2 := Int.mul_nonneg hcc.1 (show 0 ≤ (l.den : Int) by omega)
  omega
theorem re_bd (hok : OK cs) {l : Rat} (hl : SQ l) {c : Int} (hc : c ∈ cs) : (0 ≤ max 0 (c * (l.den : Int) - l.num) ∧ max 0 (c * (l.den : Int) - l.num) ≤ 1000000) ∧ 0 ≤ c * (l.den : Int) ∧ c * (l.den : Int) ≤ 1000000 := by
  have hcc := hok.c c hc
  have hn := hl.num
  have hd := hl.d
  have hdp := den_pos l
  have m1 := Int.mul_le_mul hcc.2 hd (by omega) (by omega : (0 : Int) ≤ 1000)
  have m2 := Int.mul_nonneg hcc.1 (show 0 ≤ (l.den : Int) by omega)
  omega
theorem s44 (hx : L1 A v cs) (hl : cs.length ≤ 1000000) : ACalls Try.prog 44 [v, I e] A (.tuple [outV 2 A (byO cs e (aw cs e)).length, I (vE cs e)]) (outH A ((byO cs e (aw cs e)).flatMap e2) (byO cs e (aw cs e)).length) := by
  refine acalls hmix Try.func44 (by kernel_rfl) t44 2 rfl (by decide) ?_
  dsimp only [m44]
  simp (maxSteps := 4000000) -implicitDefEqProofs -dsimp (disch := omega) only [↓AW_ops, ↓AW_seq, ↓AOps_nil, ↓AOps_pu, ↓AOps_call, on_some, ↓then_normal, pval, rd_S, rd_C, put_S, List.replicate_succ, List.replicate_zero, List.set_cons_zero, List.set_cons_succ, List.getElem?_cons_zero, List.getElem?_cons_succ, Option.getD_some, map_c, map_n, Nat.reduceSub, List.cons_append, List.nil_append]
  refine CallK.of (s38 hx hl e) ?_
  by_cases h0 : vE cs e = 0
  · have hO : byO cs e (aw cs e) = (aw cs e).map rp := if_pos h0
    have hc := vE_0.1 h0
    have hsq := lv_sq hc
    have hdp := den_pos (lv cs e)
    have hd := hsq.d
    have hl8 := hc.ok.l8
    rw [hO, h0]
    simp (maxSteps := 4000000) -implicitDefEqProofs -dsimp (disch := omega) only [↓AW_skip, ↓AW_ops, ↓AW_seq, ↓AW_cond, ↓AOps_nil, ↓AOps_pu, ↓AOps_call, on_some, extK_same, condB_f, ↓then_normal, pval, rd_S, rd_C, put_S, eq_self, List.replicate_succ, List.replicate_zero, List.set_cons_zero, List.set_cons_succ, List.getElem?_cons_zero, List.getElem?_cons_succ, Option.getD_some, map_c, map_n, Nat.reduceSub, List.cons_append, List.nil_append, bin_neq, decide_false, not_true_eq_false]
    refine CallK.of (s66 hx hc) ?_
    simp (maxSteps := 4000000) -implicitDefEqProofs -dsimp (disch := omega) only [↓AW_ops, ↓AW_seq, ↓AOps_nil, ↓AOps_pu, ↓AOps_call, on_some, extK_same, ↓then_normal, pval, rd_S, rd_C, put_S, chkd, bput, bgot, AV.cells?, splice, partA, eq_self, List.replicate_succ, List.replicate_zero, List.set_cons_zero, List.set_cons_succ, List.getElem?_cons_zero, List.getElem?_cons_succ, List.drop_zero, List.drop_succ_cons, List.drop_nil, List.take_zero, List.take_succ_cons, List.take_nil, Option.getD_some, map_c, map_n, List.length_cons, List.length_nil, Nat.reduceAdd, Nat.reduceSub, Nat.reduceLeDiff, Nat.reduceEqDiff, Nat.zero_add, List.cons_append, List.nil_append, List.append_nil, if_true, if_false, ne_eq, not_true_eq_false, R]
    refine CallK.of (s68 hx hc.ok hsq) ?_
    have hul : (upL cs (lv cs e)).length = cs.length := by simp [upL]
    have hp1 := pre_out A ((upL cs (lv cs e)).flatMap e1) (upL cs (lv cs e)).length
    have hq1 := Ls_out A e1_len (upL cs (lv cs e))
    generalize outV 1 A (upL cs (lv cs e)).length = w at *
    generalize outH A ((upL cs (lv cs e)).flatMap e1) (upL cs (lv cs e)).length = A1 at *
    simp (maxSteps := 4000000) -implicitDefEqProofs -dsimp (disch := omega) only [↓AOps_pu, ↓AOps_call, on_some, extK_false, pval, rd_S, put_S, chkd, isAdr, bgot, AV.cells?, partA, eq_self, List.replicate_succ, List.replicate_zero, List.set_cons_zero, List.set_cons_succ, List.getElem?_cons_zero, List.getElem?_cons_succ, List.drop_zero, List.drop_succ_cons, List.take_succ_cons, List.take_nil, Option.getD_some, map_c, map_n, List.length_cons, List.length_nil, Nat.reduceAdd, Nat.reduceSub, Nat.reduceLeDiff, Nat.zero_add, List.cons_append, List.nil_append, if_true, if_false, Bool.false_eq_true]
    refine CallK.of (s67 hq1 (by omega) (up_bd hc.ok hsq) ⟨hdp, by omega⟩) ?_
    rw [fr_up]
    simp (maxSteps := 4000000) -implicitDefEqProofs -dsimp (disch := omega) only [↓AW_ret, ↓AOps_nil, ↓AOps_pu, on_some, extK_false, ↓then_normal, ↓Fin_ret, pval, rd_S, rd_C, put_S, resV, resL, List.replicate_succ, List.replicate_zero, List.set_cons_zero, List.set_cons_succ, List.getElem?_cons_zero, List.getElem?_cons_succ, Option.getD_some, Nat.reduceSub, List.cons_append, List.nil_append]
    exact (AccL_out hp1 e2_len _).gc2 flat_e2 (I 0) rfl
  · have hO : byO cs e (aw cs e) = [] := if_neg h0
    rw [hO]
    simp (maxSteps := 4000000) -implicitDefEqProofs -dsimp (disch := omega) only [↓AW_ops, ↓AW_seq, ↓AW_cond, ↓AW_ret, ↓AOps_nil, ↓AOps_pu, on_some, extK_same, condB_t, ↓then_normal, ↓then_ret, ↓Fin_ret, pval, rd_S, rd_C, put_S, resV, resL, List.replicate_succ, List.replicate_zero, List.set_cons_zero, List.set_cons_succ, List.getElem?_cons_zero, List.getElem?_cons_succ, Option.getD_some, List.length_nil, Nat.reduceSub, List.cons_append, List.nil_append, bin_neq, decide_true, not_false_eq_true, h0]
    exact gc_same_all rfl rfl
theorem s45 (hx : L1 A v cs) (hl : cs.length ≤ 1000000) : ACalls Try.prog 45 [v, I e] A (.tuple [outV 2 A (byO cs e (lo cs e)).length, I (vE cs e)]) (outH A ((byO cs e (lo cs e)).flatMap e2) (byO cs e (lo cs e)).length) := by
  refine acalls hmix Try.func45 (by kernel_rfl) t45 2 rfl (by decide) ?_
  dsimp only [m45]
  simp (maxSteps := 4000000) -implicitDefEqProofs -dsimp (disch := omega) only [↓AW_ops, ↓AW_seq, ↓AOps_nil, ↓AOps_pu, ↓AOps_call, on_some, ↓then_normal, pval, rd_S, rd_C, put_S, List.replicate_succ, List.replicate_zero, List.set_cons_zero, List.set_cons_succ, List.getElem?_cons_zero, List.getElem?_cons_succ, Option.getD_some, map_c, map_n, Nat.reduceSub, List.cons_append, List.nil_append]
  refine CallK.of (s38 hx hl e) ?_
  by_cases h0 : vE cs e = 0
  · have hO : byO cs e (lo cs e) = (lo cs e).map rp := if_pos h0
    have hc := vE_0.1 h0
    have hsq := lv_sq hc.sub
    have hfr := fr_re cs (lv cs (cs.sum - e))
    rw [← lo_eq] at hfr
    have hdp := den_pos (lv cs (cs.sum - e))
    have hd := hsq.d
    have hl8 := hc.ok.l8
    have hs := hc.ok.sum
    have he0 := hc.e0
    have he1 := hc.e1
    rw [hO, h0]
    simp (maxSteps := 4000000) -implicitDefEqProofs -dsimp (disch := omega) only [↓AW_skip, ↓AW_ops, ↓AW_seq, ↓AW_cond, ↓AOps_nil, ↓AOps_pu, ↓AOps_call, on_some, extK_same, condB_f, ↓then_normal, pval, rd_S, rd_C, put_S, eq_self, List.replicate_succ, List.replicate_zero, List.set_cons_zero, List.set_cons_succ, List.getElem?_cons_zero, List.getElem?_cons_succ, Option.getD_some, map_c, map_n, Nat.reduceSub, List.cons_append, List.nil_append, bin_neq, decide_false, not_true_eq_false]
    refine CallK.of (c_Sum hx hl hc.ok.bd) ?_
    simp (maxSteps := 4000000) -implicitDefEqProofs -dsimp (disch := omega) only [↓AOps_pu, ↓AOps_call, on_some, extK_same, pval, rd_S, put_S, List.replicate_succ, List.replicate_zero, List.set_cons_zero, List.set_cons_succ, List.getElem?_cons_zero, List.getElem?_cons_succ, Option.getD_some, map_c, map_n, Nat.reduceSub, List.cons_append, List.nil_append, bin_sub, w64]
    refine CallK.of (s66 hx hc.sub) ?_
    simp (maxSteps := 4000000) -implicitDefEqProofs -dsimp (disch := omega) only [↓AW_ops, ↓AW_seq, ↓AOps_nil, ↓AOps_pu, ↓AOps_call, on_some, extK_same, ↓then_normal, pval, rd_S, rd_C, put_S, chkd, bput, bgot, AV.cells?, splice, partA, eq_self, List.replicate_succ, List.replicate_zero, List.set_cons_zero, List.set_cons_succ, List.getElem?_cons_zero, List.getElem?_cons_succ, List.drop_zero, List.drop_succ_cons, List.drop_nil, List.take_zero, List.take_succ_cons, List.take_nil, Option.getD_some, map_c, map_n, List.length_cons, List.length_nil, Nat.reduceAdd, Nat.reduceSub, Nat.reduceLeDiff, Nat.reduceEqDiff, Nat.zero_add, List.cons_append, List.nil_append, List.append_nil, if_true, if_false, ne_eq, not_true_eq_false, R]
    refine CallK.of (s69 hx hc.ok hsq) ?_
    have hul : (reL cs (lv cs (cs.sum - e))).length = cs.length := by simp [reL]
    have hbd : ∀ x ∈ reL cs (lv cs (cs.sum - e)), 0 ≤ x ∧ x ≤ 1000000000000 := by
      intro x hx
      obtain ⟨c, hcm, rfl⟩ := List.mem_map.1 hx
      have := re_bd hc.ok hsq hcm
      omega
    have hp1 := pre_out A ((reL cs (lv cs (cs.sum - e))).flatMap e1) (reL cs (lv cs (cs.sum - e))).length
    have hq1 := Ls_out A e1_len (reL cs (lv cs (cs.sum - e)))
    generalize outV 1 A (reL cs (lv cs (cs.sum - e))).length = w at *
    generalize outH A ((reL cs (lv cs (cs.sum - e))).flatMap e1) (reL cs (lv cs (cs.sum - e))).length = A1 at *
    simp (maxSteps := 4000000) -implicitDefEqProofs -dsimp (disch := omega) only [↓AOps_pu, ↓AOps_call, on_some, extK_false, pval, rd_S, put_S, chkd, isAdr, bgot, AV.cells?, partA, eq_self, List.replicate_succ, List.replicate_zero, List.set_cons_zero, List.set_cons_succ, List.getElem?_cons_zero, List.getElem?_cons_succ, List.drop_zero, List.drop_succ_cons, List.take_succ_cons, List.take_nil, Option.getD_some, map_c, map_n, List.length_cons, List.length_nil, Nat.reduceAdd, Nat.reduceSub, Nat.reduceLeDiff, Nat.zero_add, List.cons_append, List.nil_append, if_true, if_false, Bool.false_eq_true]
    refine CallK.of (s67 hq1 (by omega) hbd ⟨hdp, by omega⟩) ?_
    rw [hfr]
    simp (maxSteps := 4000000) -implicitDefEqProofs -dsimp (disch := omega) only [↓AW_ret, ↓AOps_nil, ↓AOps_pu, on_some, extK_false, ↓then_normal, ↓Fin_ret, pval, rd_S, rd_C, put_S, resV, resL, List.replicate_succ, List.replicate_zero, List.set_cons_zero, List.set_cons_succ, List.getElem?_cons_zero, List.getElem?_cons_succ, Option.getD_some, Nat.reduceSub, List.cons_append, List.nil_append]
    exact (AccL_out hp1 e2_len _).gc2 flat_e2 (I 0) rfl
  · have hO : byO cs e (lo cs e) = [] := if_neg h0
    rw [hO]
    simp (maxSteps := 4000000) -implicitDefEqProofs -dsimp (disch := omega) only [↓AW_ops, ↓AW_seq, ↓AW_cond, ↓AW_ret, ↓AOps_nil, ↓AOps_pu, on_some, extK_same, condB_t, ↓then_normal, ↓then_ret, ↓Fin_ret, pval, rd_S, rd_C, put_S, resV, resL, List.replicate_succ, List.replicate_zero, List.set_cons_zero, List.set_cons_succ, List.getElem?_cons_zero, List.getElem?_cons_succ, Option.getD_some, List.length_nil, Nat.reduceSub, List.cons_append, List.nil_append, bin_neq, decide_true, not_false_eq_true, h0]
    exact gc_same_all rfl rfl
end
end Go.Proofs.Ytdcdjhhjlpegjaa

namespace Go.Proofs.Ytdcdjhhjlpegjaa
open Go Go.Eng
section
variable {cs : List Int} {v : AV} {A : AHeap} {e : Int}
theorem div_one' (z : Int) : ((z : Int) : Rat) / ((1 : Int) : Rat) = (z : Rat) := by
  have := div_mul_same (a := (z : Rat)) (n := 1) (by omega)
  rw [int1, Rat.one_mul] at this
  exact this
theorem capL_max : ∀ {xs : List Int} {m : Int}, (∀ c ∈ xs, c ≤ m) → (capL xs (m : Rat)).sum = ((xs.sum : Int) : Rat)
  | [], _, _ => rfl
  | c :: xs, m, h => by
    have ih := capL_max (xs := xs) (m := m) (fun x hx => h x (by simp [hx]))
    show (mnq c (m : Rat) :: capL xs (m : Rat)).sum = _
    rw [List.sum_cons, ih, List.sum_cons, Rat.intCast_add, mnq_c (Rat.intCast_le_intCast.2 (h c (by simp)))]
theorem lv_max (hok : OK cs) : lv cs cs.sum = ((mxL cs : Int) : Rat) := by
  have hs := hok.sum
  have hl1 := hok.l1
  have hne : cs ≠ [] := by rintro rfl; simp at hl1
  have hc : CE cs cs.sum := ⟨hok, hs.1, Int.le_refl _⟩
  have hm := mxL_mem hne
  exact LV.uniq (lv_char hc).1 ⟨cast_nonneg (hok.c _ hm).1, ⟨_, hm, Rat.le_refl⟩, capL_max (fun c hc => mxL_ge hc)⟩
theorem s76 (hx : L1 A v cs) (hc : CE cs e) : ACalls Try.prog 76 [v, I e] A (R (lv cs e)) A := by
  refine acalls hmix Try.func76 (by kernel_rfl) t76 2 rfl (by decide) ?_
  have hl1 := hc.ok.l1
  have hl8 := hc.ok.l8
  have hne : cs ≠ [] := by rintro rfl; simp at hl1
  dsimp only [m76]
  simp (maxSteps := 4000000) -implicitDefEqProofs -dsimp (disch := omega) only [↓AW_ops, ↓AW_seq, ↓AOps_nil, ↓AOps_pu, ↓AOps_call, on_some, ↓then_normal, pval, rd_S, rd_C, put_S, AV.cells?, List.replicate_succ, List.replicate_zero, List.set_cons_zero, List.set_cons_succ, List.getElem?_cons_zero, List.getElem?_cons_succ, Option.getD_some, map_c, map_n, Nat.reduceSub, List.cons_append, List.nil_append]
  refine CallK.of (c_total hx (by omega) hc.ok.bd) ?_
  by_cases h : e = cs.sum
  · have hm := hc.ok.c _ (mxL_mem hne)
    simp (maxSteps := 4000000) -implicitDefEqProofs -dsimp (disch := omega) only [↓AW_ops, ↓AW_seq, ↓AW_cond, ↓AOps_nil, ↓AOps_pu, ↓AOps_call, on_some, extK_same, condB_t, ↓then_normal, pval, rd_S, put_S, eq_self, List.replicate_succ, List.replicate_zero, List.set_cons_zero, List.set_cons_succ, List.getElem?_cons_zero, List.getElem?_cons_succ, Option.getD_some, map_c, map_n, Nat.reduceSub, List.cons_append, List.nil_append, bin_eql, decide_true, h]
    refine CallK.of (c_Max hx hl1 (by omega)) ?_
    simp (maxSteps := 4000000) -implicitDefEqProofs -dsimp (disch := omega) only [↓AOps_call, extK_same, rd_S, rd_C, put_S, List.replicate_succ, List.replicate_zero, List.set_cons_zero, List.set_cons_succ, List.getElem?_cons_zero, List.getElem?_cons_succ, Option.getD_some, map_c, map_n, Nat.reduceSub, List.cons_append, List.nil_append]
    refine CallK.of (s61 (a := mxL cs) (b := 1) _ ⟨by omega, by omega⟩ (by omega) (by omega)) ?_
    rw [div_one', ← lv_max hc.ok]
    simp (maxSteps := 4000000) -implicitDefEqProofs -dsimp (disch := omega) only [↓AW_ret, ↓AOps_nil, ↓AOps_pu, on_some, extK_same, ↓then_normal, ↓then_ret, ↓Fin_ret, pval, rd_S, put_S, resV, resL, chkd, bput, bgot, AV.cells?, splice, partA, eq_self, List.replicate_succ, List.replicate_zero, List.set_cons_zero, List.set_cons_succ, List.getElem?_cons_zero, List.getElem?_cons_succ, List.drop_zero, List.drop_succ_cons, List.drop_nil, List.take_zero, List.take_succ_cons, List.take_nil, Option.getD_some, List.length_cons, List.length_nil, Nat.reduceAdd, Nat.reduceSub, Nat.reduceLeDiff, Nat.reduceEqDiff, Nat.zero_add, List.cons_append, List.nil_append, List.append_nil, if_true, if_false, ne_eq, not_true_eq_false, R]
    exact gc_same (by rw [h])
  · simp (maxSteps := 4000000) -implicitDefEqProofs -dsimp (disch := omega) only [↓AW_skip, ↓AW_ops, ↓AW_seq, ↓AW_cond, ↓AOps_nil, ↓AOps_pu, ↓AOps_call, on_some, extK_same, condB_f, ↓then_normal, pval, rd_S, put_S, List.replicate_succ, List.replicate_zero, List.set_cons_zero, List.set_cons_succ, List.getElem?_cons_zero, List.getElem?_cons_succ, Option.getD_some, map_c, map_n, Nat.reduceSub, List.cons_append, List.nil_append, bin_eql, decide_false, h]
    refine CallK.of (s85 hx hc) ?_
    simp (maxSteps := 4000000) -implicitDefEqProofs -dsimp (disch := omega) only [↓AW_ret, ↓AOps_nil, ↓AOps_pu, on_some, extK_same, ↓then_normal, ↓Fin_ret, pval, rd_S, put_S, resV, resL, chkd, bput, bgot, AV.cells?, splice, partA, eq_self, List.replicate_succ, List.replicate_zero, List.set_cons_zero, List.set_cons_succ, List.getElem?_cons_zero, List.getElem?_cons_succ, List.drop_zero, List.drop_succ_cons, List.drop_nil, List.take_zero, List.take_succ_cons, List.take_nil, Option.getD_some, List.length_cons, List.length_nil, Nat.reduceAdd, Nat.reduceSub, Nat.reduceLeDiff, Nat.reduceEqDiff, Nat.zero_add, List.cons_append, List.nil_append, List.append_nil, if_true, if_false, ne_eq, not_true_eq_false, R]
    exact gc_same rfl
/-- The number with which awards are made. -/
def lvV (cs : List Int) (e : Int) (l : Rat) : AV := if vE cs e = 0 then R l else .agg [I 0, I 0]
theorem lvV_0 {l : Rat} (h : vE cs e = 0) : lvV cs e l = R l := if_pos h
theorem lvV_1 {l : Rat} (h : ¬ vE cs e = 0) : lvV cs e l = .agg [I 0, I 0] := if_neg h
theorem lvV_is (l : Rat) : ∃ a b : Int, lvV cs e l = .agg [I a, I b] := by
  unfold lvV
  split
  · exact ⟨_, _, rfl⟩
  · exact ⟨0, 0, rfl⟩
theorem s46 (hx : L1 A v cs) (hl : cs.length ≤ 1000000) : ACalls Try.prog 46 [v, I e] A (.tuple [lvV cs e (lv cs e), I (vE cs e)]) A := by
  refine acalls hmix Try.func46 (by kernel_rfl) t46 2 rfl (by decide) ?_
  dsimp only [m46]
  simp (maxSteps := 4000000) -implicitDefEqProofs -dsimp (disch := omega) only [↓AW_ops, ↓AW_seq, ↓AOps_nil, ↓AOps_pu, ↓AOps_call, on_some, ↓then_normal, pval, rd_S, rd_C, put_S, AV.cells?, List.replicate_succ, List.replicate_zero, List.set_cons_zero, List.set_cons_succ, List.getElem?_cons_zero, List.getElem?_cons_succ, Option.getD_some, map_c, map_n, Nat.reduceSub, List.cons_append, List.nil_append]
  refine CallK.of (s16 hx hl e) ?_
  by_cases h0 : vE cs e = 0
  · have hc := vE_0.1 h0
    rw [lvV_0 h0, h0]
    simp (maxSteps := 4000000) -implicitDefEqProofs -dsimp (disch := omega) only [↓AW_skip, ↓AW_ops, ↓AW_seq, ↓AW_cond, ↓AOps_nil, ↓AOps_pu, ↓AOps_call, on_some, extK_same, condB_f, ↓then_normal, pval, rd_S, rd_C, put_S, eq_self, List.replicate_succ, List.replicate_zero, List.set_cons_zero, List.set_cons_succ, List.getElem?_cons_zero, List.getElem?_cons_succ, Option.getD_some, map_c, map_n, Nat.reduceSub, List.cons_append, List.nil_append, bin_neq, decide_false, not_true_eq_false]
    refine CallK.of (s76 hx hc) ?_
    simp (maxSteps := 4000000) -implicitDefEqProofs -dsimp (disch := omega) only [↓AW_ret, ↓AOps_nil, ↓AOps_pu, on_some, extK_same, ↓then_normal, ↓Fin_ret, pval, rd_S, rd_C, put_S, resV, resL, chkd, bput, bgot, AV.cells?, splice, partA, eq_self, List.replicate_succ, List.replicate_zero, List.set_cons_zero, List.set_cons_succ, List.getElem?_cons_zero, List.getElem?_cons_succ, List.drop_zero, List.drop_succ_cons, List.drop_nil, List.take_zero, List.take_succ_cons, List.take_nil, Option.getD_some, List.length_cons, List.length_nil, Nat.reduceAdd, Nat.reduceSub, Nat.reduceLeDiff, Nat.reduceEqDiff, Nat.zero_add, List.cons_append, List.nil_append, List.append_nil, if_true, if_false, ne_eq, not_true_eq_false, R]
    exact gc_same rfl
  · rw [lvV_1 h0]
    simp (maxSteps := 4000000) -implicitDefEqProofs -dsimp (disch := omega) only [↓AW_ops, ↓AW_seq, ↓AW_cond, ↓AW_ret, ↓AOps_nil, ↓AOps_pu, on_some, extK_same, condB_t, ↓then_normal, ↓then_ret, ↓Fin_ret, pval, rd_S, rd_C, put_S, resV, resL, chkd, bput, bgot, AV.cells?, splice, partA, fillA, eq_self, List.replicate_succ, List.replicate_zero, List.set_cons_zero, List.set_cons_succ, List.getElem?_cons_zero, List.getElem?_cons_succ, List.drop_zero, List.drop_succ_cons, List.drop_nil, List.take_zero, List.take_succ_cons, List.take_nil, Option.getD_some, Option.map_some, map_n, List.length_cons, List.length_nil, Nat.reduceAdd, Nat.reduceSub, Nat.reduceLeDiff, Nat.reduceEqDiff, Nat.zero_add, List.cons_append, List.nil_append, List.append_nil, bin_neq, if_true, if_false, decide_true, ne_eq, not_true_eq_false, not_false_eq_true, h0]
    exact gc_same rfl
theorem s47 (hx : L1 A v cs) (hl : cs.length ≤ 1000000) : ACalls Try.prog 47 [v, I e] A (.tuple [lvV cs e (lv cs e), I (vE cs e)]) A := by
  refine acalls hmix Try.func47 (by kernel_rfl) t47 2 rfl (by decide) ?_
  dsimp only [m47]
  simp (maxSteps := 4000000) -implicitDefEqProofs -dsimp (disch := omega) only [↓AW_ops, ↓AW_seq, ↓AOps_nil, ↓AOps_pu, ↓AOps_call, on_some, ↓then_normal, pval, rd_S, rd_C, put_S, AV.cells?, List.replicate_succ, List.replicate_zero, List.set_cons_zero, List.set_cons_succ, List.getElem?_cons_zero, List.getElem?_cons_succ, Option.getD_some, map_c, map_n, Nat.reduceSub, List.cons_append, List.nil_append]
  refine CallK.of (s38 hx hl e) ?_
  by_cases h0 : vE cs e = 0
  · have hc := vE_0.1 h0
    rw [lvV_0 h0, h0]
    simp (maxSteps := 4000000) -implicitDefEqProofs -dsimp (disch := omega) only [↓AW_skip, ↓AW_ops, ↓AW_seq, ↓AW_cond, ↓AOps_nil, ↓AOps_pu, ↓AOps_call, on_some, extK_same, condB_f, ↓then_normal, pval, rd_S, rd_C, put_S, eq_self, List.replicate_succ, List.replicate_zero, List.set_cons_zero, List.set_cons_succ, List.getElem?_cons_zero, List.getElem?_cons_succ, Option.getD_some, map_c, map_n, Nat.reduceSub, List.cons_append, List.nil_append, bin_neq, decide_false, not_true_eq_false]
    refine CallK.of (s66 hx hc) ?_
    simp (maxSteps := 4000000) -implicitDefEqProofs -dsimp (disch := omega) only [↓AW_ret, ↓AOps_nil, ↓AOps_pu, on_some, extK_same, ↓then_normal, ↓Fin_ret, pval, rd_S, rd_C, put_S, resV, resL, chkd, bput, bgot, AV.cells?, splice, partA, eq_self, List.replicate_succ, List.replicate_zero, List.set_cons_zero, List.set_cons_succ, List.getElem?_cons_zero, List.getElem?_cons_succ, List.drop_zero, List.drop_succ_cons, List.drop_nil, List.take_zero, List.take_succ_cons, List.take_nil, Option.getD_some, List.length_cons, List.length_nil, Nat.reduceAdd, Nat.reduceSub, Nat.reduceLeDiff, Nat.reduceEqDiff, Nat.zero_add, List.cons_append, List.nil_append, List.append_nil, if_true, if_false, ne_eq, not_true_eq_false, R]
    exact gc_same rfl
  · rw [lvV_1 h0]
    simp (maxSteps := 4000000) -implicitDefEqProofs -dsimp (disch := omega) only [↓AW_ops, ↓AW_seq, ↓AW_cond, ↓AW_ret, ↓AOps_nil, ↓AOps_pu, on_some, extK_same, condB_t, ↓then_normal, ↓then_ret, ↓Fin_ret, pval, rd_S, rd_C, put_S, resV, resL, chkd, bput, bgot, AV.cells?, splice, partA, fillA, eq_self, List.replicate_succ, List.replicate_zero, List.set_cons_zero, List.set_cons_succ, List.getElem?_cons_zero, List.getElem?_cons_succ, List.drop_zero, List.drop_succ_cons, List.drop_nil, List.take_zero, List.take_succ_cons, List.take_nil, Option.getD_some, Option.map_some, map_n, List.length_cons, List.length_nil, Nat.reduceAdd, Nat.reduceSub, Nat.reduceLeDiff, Nat.reduceEqDiff, Nat.zero_add, List.cons_append, List.nil_append, List.append_nil, bin_neq, if_true, if_false, decide_true, ne_eq, not_true_eq_false, not_false_eq_true, h0]
    exact gc_same rfl
theorem s48 (hx : L1 A v cs) (hl : cs.length ≤ 1000000) : ACalls Try.prog 48 [v, I e] A (.tuple [lvV cs e (lv cs (cs.sum - e)), I (vE cs e)]) A := by
  refine acalls hmix Try.func48 (by kernel_rfl) t48 2 rfl (by decide) ?_
  dsimp only [m48]
  simp (maxSteps := 4000000) -implicitDefEqProofs -dsimp (disch := omega) only [↓AW_ops, ↓AW_seq, ↓AOps_nil, ↓AOps_pu, ↓AOps_call, on_some, ↓then_normal, pval, rd_S, rd_C, put_S, AV.cells?, List.replicate_succ, List.replicate_zero, List.set_cons_zero, List.set_cons_succ, List.getElem?_cons_zero, List.getElem?_cons_succ, Option.getD_some, map_c, map_n, Nat.reduceSub, List.cons_append, List.nil_append]
  refine CallK.of (s16 hx hl e) ?_
  by_cases h0 : vE cs e = 0
  · have hc := vE_0.1 h0
    have hs := hc.ok.sum
    have he0 := hc.e0
    have he1 := hc.e1
    rw [lvV_0 h0, h0]
    simp (maxSteps := 4000000) -implicitDefEqProofs -dsimp (disch := omega) only [↓AW_skip, ↓AW_ops, ↓AW_seq, ↓AW_cond, ↓AOps_nil, ↓AOps_pu, ↓AOps_call, on_some, extK_same, condB_f, ↓then_normal, pval, rd_S, rd_C, put_S, eq_self, List.replicate_succ, List.replicate_zero, List.set_cons_zero, List.set_cons_succ, List.getElem?_cons_zero, List.getElem?_cons_succ, Option.getD_some, map_c, map_n, Nat.reduceSub, List.cons_append, List.nil_append, bin_neq, decide_false, not_true_eq_false]
    refine CallK.of (c_total hx hl hc.ok.bd) ?_
    simp (maxSteps := 4000000) -implicitDefEqProofs -dsimp (disch := omega) only [↓AOps_pu, ↓AOps_call, on_some, extK_same, pval, rd_S, put_S, List.replicate_succ, List.replicate_zero, List.set_cons_zero, List.set_cons_succ, List.getElem?_cons_zero, List.getElem?_cons_succ, Option.getD_some, map_c, map_n, Nat.reduceSub, List.cons_append, List.nil_append, bin_sub, w64]
    refine CallK.of (s76 hx hc.sub) ?_
    simp (maxSteps := 4000000) -implicitDefEqProofs -dsimp (disch := omega) only [↓AW_ret, ↓AOps_nil, ↓AOps_pu, on_some, extK_same, ↓then_normal, ↓Fin_ret, pval, rd_S, rd_C, put_S, resV, resL, chkd, bput, bgot, AV.cells?, splice, partA, eq_self, List.replicate_succ, List.replicate_zero, List.set_cons_zero, List.set_cons_succ, List.getElem?_cons_zero, List.getElem?_cons_succ, List.drop_zero, List.drop_succ_cons, List.drop_nil, List.take_zero, List.take_succ_cons, List.take_nil, Option.getD_some, List.length_cons, List.length_nil, Nat.reduceAdd, Nat.reduceSub, Nat.reduceLeDiff, Nat.reduceEqDiff, Nat.zero_add, List.cons_append, List.nil_append, List.append_nil, if_true, if_false, ne_eq, not_true_eq_false, R]
    exact gc_same rfl
  · rw [lvV_1 h0]
    simp (maxSteps := 4000000) -implicitDefEqProofs -dsimp (disch := omega) only [↓AW_ops, ↓AW_seq, ↓AW_cond, ↓AW_ret, ↓AOps_nil, ↓AOps_pu, on_some, extK_same, condB_t, ↓then_normal, ↓then_ret, ↓Fin_ret, pval, rd_S, rd_C, put_S, resV, resL, chkd, bput, bgot, AV.cells?, splice, partA, fillA, eq_self, List.replicate_succ, List.replicate_zero, List.set_cons_zero, List.set_cons_succ, List.getElem?_cons_zero, List.getElem?_cons_succ, List.drop_zero, List.drop_succ_cons, List.drop_nil, List.take_zero, List.take_succ_cons, List.take_nil, Option.getD_some, Option.map_some, map_n, List.length_cons, List.length_nil, Nat.reduceAdd, Nat.reduceSub, Nat.reduceLeDiff, Nat.reduceEqDiff, Nat.zero_add, List.cons_append, List.nil_append, List.append_nil, bin_neq, if_true, if_false, decide_true, ne_eq, not_true_eq_false, not_false_eq_true, h0]
    exact gc_same rfl
theorem s49 (hx : L1 A v cs) (hl : cs.length ≤ 1000000) : ACalls Try.prog 49 [v, I e] A (.tuple [lvV cs e (lv cs (cs.sum - e)), I (vE cs e)]) A := by
  refine acalls hmix Try.func49 (by kernel_rfl) t49 2 rfl (by decide) ?_
  dsimp only [m49]
  simp (maxSteps := 4000000) -implicitDefEqProofs -dsimp (disch := omega) only [↓AW_ops, ↓AW_seq, ↓AOps_nil, ↓AOps_pu, ↓AOps_call, on_some, ↓then_normal, pval, rd_S, rd_C, put_S, AV.cells?, List.replicate_succ, List.replicate_zero, List.set_cons_zero, List.set_cons_succ, List.getElem?_cons_zero, List.getElem?_cons_succ, Option.getD_some, map_c, map_n, Nat.reduceSub, List.cons_append, List.nil_append]
  refine CallK.of (s38 hx hl e) ?_
  by_cases h0 : vE cs e = 0
  · have hc := vE_0.1 h0
    have hs := hc.ok.sum
    have he0 := hc.e0
    have he1 := hc.e1
    rw [lvV_0 h0, h0]
    simp (maxSteps := 4000000) -implicitDefEqProofs -dsimp (disch := omega) only [↓AW_skip, ↓AW_ops, ↓AW_seq, ↓AW_cond, ↓AOps_nil, ↓AOps_pu, ↓AOps_call, on_some, extK_same, condB_f, ↓then_normal, pval, rd_S, rd_C, put_S, eq_self, List.replicate_succ, List.replicate_zero, List.set_cons_zero, List.set_cons_succ, List.getElem?_cons_zero, List.getElem?_cons_succ, Option.getD_some, map_c, map_n, Nat.reduceSub, List.cons_append, List.nil_append, bin_neq, decide_false, not_true_eq_false]
    refine CallK.of (c_Sum hx hl hc.ok.bd) ?_
    simp (maxSteps := 4000000) -implicitDefEqProofs -dsimp (disch := omega) only [↓AOps_pu, ↓AOps_call, on_some, extK_same, pval, rd_S, put_S, List.replicate_succ, List.replicate_zero, List.set_cons_zero, List.set_cons_succ, List.getElem?_cons_zero, List.getElem?_cons_succ, Option.getD_some, map_c, map_n, Nat.reduceSub, List.cons_append, List.nil_append, bin_sub, w64]
    refine CallK.of (s66 hx hc.sub) ?_
    simp (maxSteps := 4000000) -implicitDefEqProofs -dsimp (disch := omega) only [↓AW_ret, ↓AOps_nil, ↓AOps_pu, on_some, extK_same, ↓then_normal, ↓Fin_ret, pval, rd_S, rd_C, put_S, resV, resL, chkd, bput, bgot, AV.cells?, splice, partA, eq_self, List.replicate_succ, List.replicate_zero, List.set_cons_zero, List.set_cons_succ, List.getElem?_cons_zero, List.getElem?_cons_succ, List.drop_zero, List.drop_succ_cons, List.drop_nil, List.take_zero, List.take_succ_cons, List.take_nil, Option.getD_some, List.length_cons, List.length_nil, Nat.reduceAdd, Nat.reduceSub, Nat.reduceLeDiff, Nat.reduceEqDiff, Nat.zero_add, List.cons_append, List.nil_append, List.append_nil, if_true, if_false, ne_eq, not_true_eq_false, R]
    exact gc_same rfl
  · rw [lvV_1 h0]
    simp (maxSteps := 4000000) -implicitDefEqProofs -dsimp (disch := omega) only [↓AW_ops, ↓AW_seq, ↓AW_cond, ↓AW_ret, ↓AOps_nil, ↓AOps_pu, on_some, extK_same, condB_t, ↓then_normal, ↓then_ret, ↓Fin_ret, pval, rd_S, rd_C, put_S, resV, resL, chkd, bput, bgot, AV.cells?, splice, partA, fillA, eq_self, List.replicate_succ, List.replicate_zero, List.set_cons_zero, List.set_cons_succ, List.getElem?_cons_zero, List.getElem?_cons_succ, List.drop_zero, List.drop_succ_cons, List.drop_nil, List.take_zero, List.take_succ_cons, List.take_nil, Option.getD_some, Option.map_some, map_n, List.length_cons, List.length_nil, Nat.reduceAdd, Nat.reduceSub, Nat.reduceLeDiff, Nat.reduceEqDiff, Nat.zero_add, List.cons_append, List.nil_append, List.append_nil, bin_neq, if_true, if_false, decide_true, ne_eq, not_true_eq_false, not_false_eq_true, h0]
    exact gc_same rfl
end
end Go.Proofs.Ytdcdjhhjlpegjaa

namespace Go.Proofs.Ytdcdjhhjlpegjaa
open Go Go.Eng
section
variable {cs : List Int} {v : AV} {A : AHeap} {e : Int}
set_option maxRecDepth 20000 in
set_option maxHeartbeats 8000000 in
theorem s12 (hx : L1 A v cs) : ACalls Try.prog 12 [.agg [v, I e]] A (B true) A := by
  refine acalls hmix Try.func12 (by kernel_rfl) t12 1 rfl (by decide) ?_
  dsimp only [m12]
  simp (maxSteps := 4000000) -implicitDefEqProofs -dsimp (disch := omega) only [↓AW_ops, ↓AW_seq, ↓AOps_nil, ↓AOps_pu, ↓AOps_call, on_some, ↓then_normal, pval, rd_S, rd_C, put_S, chkd, bgot, AV.cells?, partA, eq_self, List.replicate_succ, List.replicate_zero, List.set_cons_zero, List.set_cons_succ, List.getElem?_cons_zero, List.getElem?_cons_succ, List.drop_zero, List.take_succ_cons, List.take_nil, Option.getD_some, map_c, map_n, List.length_cons, List.length_nil, Nat.reduceAdd, Nat.reduceSub, Nat.reduceLeDiff, Nat.reduceEqDiff, Nat.zero_add, List.cons_append, List.nil_append, if_true, if_false]
  refine CallK.of (s15 hx) ?_
  by_cases h1 : (40 : Int) < cs.length
  · simp (maxSteps := 4000000) -implicitDefEqProofs -dsimp (disch := omega) only [↓AW_ops, ↓AW_seq, ↓AW_cond, ↓AOps_nil, ↓AOps_call, extK_same, condB_t, ↓then_normal, rd_S, put_S, List.replicate_succ, List.replicate_zero, List.set_cons_zero, List.set_cons_succ, List.getElem?_cons_zero, List.getElem?_cons_succ, Option.getD_some, map_n, Nat.reduceSub, List.cons_append, List.nil_append, decide_true, h1]
    refine CallK.of (known A) ?_
    simp (maxSteps := 4000000) -implicitDefEqProofs -dsimp (disch := omega) only [↓AW_ret, ↓AOps_nil, ↓AOps_pu, on_some, extK_same, ↓then_normal, ↓then_ret, ↓Fin_ret, pval, rd_S, put_S, resV, resL, List.replicate_succ, List.replicate_zero, List.set_cons_zero, List.set_cons_succ, List.getElem?_cons_zero, List.getElem?_cons_succ, Option.getD_some, Nat.reduceSub, List.cons_append, List.nil_append]
    exact gc_same rfl
  have hl : cs.length ≤ 1000000 := by omega
  simp (maxSteps := 4000000) -implicitDefEqProofs -dsimp (disch := omega) only [↓AW_skip, ↓AW_ops, ↓AW_seq, ↓AW_cond, ↓AOps_nil, ↓AOps_pu, ↓AOps_call, on_some, extK_same, condB_f, ↓then_normal, pval, rd_S, put_S, chkd, isAdr, bgot, AV.cells?, partA, eq_self, List.replicate_succ, List.replicate_zero, List.set_cons_zero, List.set_cons_succ, List.getElem?_cons_zero, List.getElem?_cons_succ, List.drop_zero, List.drop_succ_cons, List.take_zero, List.take_succ_cons, List.take_nil, Option.getD_some, map_c, map_n, List.length_cons, List.length_nil, Nat.reduceAdd, Nat.reduceSub, Nat.reduceLeDiff, Nat.zero_add, List.cons_append, List.nil_append, if_true, if_false, Bool.false_eq_true, decide_false, h1]
  have hleaw := byO_len (cs := cs) (e := e) (qs := aw cs e) (aw_len cs e)
  have hchaw := byO_chE (cs := cs) (e := e) (qs := aw cs e) (fun h0 => aw_ok (vE_0.1 h0))
  generalize hbaw : byO cs e (aw cs e) = bs1 at *
  have hlelo := byO_len (cs := cs) (e := e) (qs := lo cs e) (lo_len cs e)
  have hchlo := byO_chE (cs := cs) (e := e) (qs := lo cs e) (fun h0 => lo_ok (vE_0.1 h0))
  generalize hblo : byO cs e (lo cs e) = bs2 at *
  refine CallK.of (s19 hx hl) ?_
  rw [hbaw]
  have hp1 := pre_out A (bs1.flatMap e2) bs1.length
  have hq1 := Ls_out A e2_len bs1
  generalize outV 2 A bs1.length = v1 at *
  generalize outH A (bs1.flatMap e2) bs1.length = A1 at *
  have hP1 := hp1
  simp (maxSteps := 4000000) -implicitDefEqProofs -dsimp (disch := omega) only [↓AW_ops, ↓AW_seq, ↓AOps_nil, ↓AOps_pu, ↓AOps_call, on_some, extK_false, ↓then_normal, pval, rd_S, put_S, chkd, isAdr, bgot, AV.cells?, partA, eq_self, List.replicate_succ, List.replicate_zero, List.set_cons_zero, List.set_cons_succ, List.getElem?_cons_zero, List.getElem?_cons_succ, List.drop_zero, List.drop_succ_cons, List.take_zero, List.take_succ_cons, List.take_nil, Option.getD_some, map_c, map_n, List.length_cons, List.length_nil, Nat.reduceAdd, Nat.reduceSub, Nat.reduceLeDiff, Nat.zero_add, List.cons_append, List.nil_append, if_true, if_false, Bool.false_eq_true]
  refine CallK.of (s44 (hx.mono hP1) hl) ?_
  rw [hbaw]
  have hp2 := pre_out A1 (bs1.flatMap e2) bs1.length
  have hq2 := Ls_out A1 e2_len bs1
  generalize outV 2 A1 bs1.length = v2 at *
  generalize outH A1 (bs1.flatMap e2) bs1.length = A2 at *
  have hP2 := hP1.trans hp2
  simp (maxSteps := 4000000) -implicitDefEqProofs -dsimp (disch := omega) only [↓AW_ops, ↓AW_seq, ↓AOps_nil, ↓AOps_pu, ↓AOps_call, on_some, extK_false, ↓then_normal, pval, rd_S, put_S, chkd, isAdr, bgot, AV.cells?, partA, eq_self, List.replicate_succ, List.replicate_zero, List.set_cons_zero, List.set_cons_succ, List.getElem?_cons_zero, List.getElem?_cons_succ, List.drop_zero, List.drop_succ_cons, List.take_zero, List.take_succ_cons, List.take_nil, Option.getD_some, map_c, map_n, List.length_cons, List.length_nil, Nat.reduceAdd, Nat.reduceSub, Nat.reduceLeDiff, Nat.zero_add, List.cons_append, List.nil_append, if_true, if_false, Bool.false_eq_true]
  refine CallK.of (s20 (hx.mono hP2) hl) ?_
  rw [hblo]
  have hp3 := pre_out A2 (bs2.flatMap e2) bs2.length
  have hq3 := Ls_out A2 e2_len bs2
  generalize outV 2 A2 bs2.length = v3 at *
  generalize outH A2 (bs2.flatMap e2) bs2.length = A3 at *
  have hP3 := hP2.trans hp3
  simp (maxSteps := 4000000) -implicitDefEqProofs -dsimp (disch := omega) only [↓AW_ops, ↓AW_seq, ↓AOps_nil, ↓AOps_pu, ↓AOps_call, on_some, extK_false, ↓then_normal, pval, rd_S, put_S, chkd, isAdr, bgot, AV.cells?, partA, eq_self, List.replicate_succ, List.replicate_zero, List.set_cons_zero, List.set_cons_succ, List.getElem?_cons_zero, List.getElem?_cons_succ, List.drop_zero, List.drop_succ_cons, List.take_zero, List.take_succ_cons, List.take_nil, Option.getD_some, map_c, map_n, List.length_cons, List.length_nil, Nat.reduceAdd, Nat.reduceSub, Nat.reduceLeDiff, Nat.zero_add, List.cons_append, List.nil_append, if_true, if_false, Bool.false_eq_true]
  refine CallK.of (s45 (hx.mono hP3) hl) ?_
  rw [hblo]
  have hp4 := pre_out A3 (bs2.flatMap e2) bs2.length
  have hq4 := Ls_out A3 e2_len bs2
  generalize outV 2 A3 bs2.length = v4 at *
  generalize outH A3 (bs2.flatMap e2) bs2.length = A4 at *
  have hP4 := hP3.trans hp4
  simp (maxSteps := 4000000) -implicitDefEqProofs -dsimp (disch := omega) only [↓AW_ops, ↓AW_seq, ↓AOps_nil, ↓AOps_pu, ↓AOps_call, on_some, extK_false, ↓then_normal, pval, rd_S, put_S, chkd, isAdr, bgot, AV.cells?, partA, eq_self, List.replicate_succ, List.replicate_zero, List.set_cons_zero, List.set_cons_succ, List.getElem?_cons_zero, List.getElem?_cons_succ, List.drop_zero, List.drop_succ_cons, List.take_zero, List.take_succ_cons, List.take_nil, Option.getD_some, map_c, map_n, List.length_cons, List.length_nil, Nat.reduceAdd, Nat.reduceSub, Nat.reduceLeDiff, Nat.zero_add, List.cons_append, List.nil_append, if_true, if_false, Bool.false_eq_true]
  have hx4 := hx.mono hP4
  have hq1' := ((hq1.mono hp2).mono hp3).mono hp4
  have hq2' := (hq2.mono hp3).mono hp4
  have hq3' := hq3.mono hp4
  obtain ⟨a1, b1, hv1⟩ := lvV_is (cs := cs) (e := e) (lv cs e)
  obtain ⟨a2, b2, hv2⟩ := lvV_is (cs := cs) (e := e) (lv cs (cs.sum - e))
  refine CallK.of (s46 hx4 hl) ?_
  rw [hv1]
  simp (maxSteps := 4000000) -implicitDefEqProofs -dsimp (disch := omega) only [↓AW_ops, ↓AW_seq, ↓AOps_nil, ↓AOps_pu, ↓AOps_call, on_some, extK_same, ↓then_normal, pval, rd_S, rd_C, put_S, chkd, isAdr, bput, bgot, AV.cells?, splice, partA, eq_self, List.replicate_succ, List.replicate_zero, List.set_cons_zero, List.set_cons_succ, List.getElem?_cons_zero, List.getElem?_cons_succ, List.drop_zero, List.drop_succ_cons, List.drop_nil, List.take_zero, List.take_succ_cons, List.take_nil, Option.getD_some, map_c, map_n, List.length_cons, List.length_nil, Nat.reduceAdd, Nat.reduceSub, Nat.reduceLeDiff, Nat.zero_add, List.cons_append, List.nil_append, List.append_nil, if_true, if_false, Bool.false_eq_true, ne_eq, not_true_eq_false]
  refine CallK.of (s47 hx4 hl) ?_
  rw [hv1]
  simp (maxSteps := 4000000) -implicitDefEqProofs -dsimp (disch := omega) only [↓AW_ops, ↓AW_seq, ↓AOps_nil, ↓AOps_pu, ↓AOps_call, on_some, extK_same, ↓then_normal, pval, rd_S, rd_C, put_S, chkd, isAdr, bput, bgot, AV.cells?, splice, partA, eq_self, List.replicate_succ, List.replicate_zero, List.set_cons_zero, List.set_cons_succ, List.getElem?_cons_zero, List.getElem?_cons_succ, List.drop_zero, List.drop_succ_cons, List.drop_nil, List.take_zero, List.take_succ_cons, List.take_nil, Option.getD_some, map_c, map_n, List.length_cons, List.length_nil, Nat.reduceAdd, Nat.reduceSub, Nat.reduceLeDiff, Nat.zero_add, List.cons_append, List.nil_append, List.append_nil, if_true, if_false, Bool.false_eq_true, ne_eq, not_true_eq_false]
  refine CallK.of (s48 hx4 hl) ?_
  rw [hv2]
  simp (maxSteps := 4000000) -implicitDefEqProofs -dsimp (disch := omega) only [↓AW_ops, ↓AW_seq, ↓AOps_nil, ↓AOps_pu, ↓AOps_call, on_some, extK_same, ↓then_normal, pval, rd_S, rd_C, put_S, chkd, isAdr, bput, bgot, AV.cells?, splice, partA, eq_self, List.replicate_succ, List.replicate_zero, List.set_cons_zero, List.set_cons_succ, List.getElem?_cons_zero, List.getElem?_cons_succ, List.drop_zero, List.drop_succ_cons, List.drop_nil, List.take_zero, List.take_succ_cons, List.take_nil, Option.getD_some, map_c, map_n, List.length_cons, List.length_nil, Nat.reduceAdd, Nat.reduceSub, Nat.reduceLeDiff, Nat.zero_add, List.cons_append, List.nil_append, List.append_nil, if_true, if_false, Bool.false_eq_true, ne_eq, not_true_eq_false]
  refine CallK.of (s49 hx4 hl) ?_
  rw [hv2]
  simp (maxSteps := 4000000) -implicitDefEqProofs -dsimp (disch := omega) only [↓AW_ops, ↓AW_seq, ↓AOps_nil, ↓AOps_pu, ↓AOps_call, on_some, extK_same, ↓then_normal, pval, rd_S, rd_C, put_S, chkd, bput, AV.cells?, splice, eq_self, List.replicate_succ, List.replicate_zero, List.set_cons_zero, List.set_cons_succ, List.getElem?_cons_zero, List.getElem?_cons_succ, List.drop_succ_cons, List.drop_nil, List.take_zero, Option.getD_some, map_c, map_n, List.length_cons, List.length_nil, Nat.reduceAdd, Nat.reduceSub, Nat.reduceLeDiff, Nat.zero_add, List.cons_append, List.nil_append, List.append_nil, if_true, if_false, ne_eq, not_true_eq_false]
  refine CallK.of (s30 hq1' hq2' (by omega)) ?_
  simp (maxSteps := 4000000) -implicitDefEqProofs -dsimp (disch := omega) only [↓AOps_pu, ↓AOps_call, ↓AOps_guard, on_some, extK_same, guardB_tt, pval, rd_S, rd_C, put_S, eq_self, List.replicate_succ, List.replicate_zero, List.set_cons_zero, List.set_cons_succ, List.getElem?_cons_zero, List.getElem?_cons_succ, Option.getD_some, map_c, map_n, Nat.reduceSub, List.cons_append, List.nil_append, bin_eql, if_true, decide_true]
  refine CallK.of (s30 hq3' hq4 (by omega)) ?_
  simp (maxSteps := 4000000) -implicitDefEqProofs -dsimp (disch := omega) only [↓AOps_pu, ↓AOps_call, ↓AOps_guard, on_some, extK_same, guardB_tt, pval, rd_S, rd_C, put_S, chkd, isAdr, bgot, AV.cells?, partA, eqc, beq_self_eq_true, eq_self, List.replicate_succ, List.replicate_zero, List.set_cons_zero, List.set_cons_succ, List.getElem?_cons_zero, List.getElem?_cons_succ, List.drop_zero, List.drop_succ_cons, List.take_zero, List.take_succ_cons, List.take_nil, Option.getD_some, Option.map_some, map_c, map_n, List.length_cons, List.length_nil, Nat.reduceAdd, Nat.reduceSub, Nat.reduceLeDiff, Nat.reduceEqDiff, Nat.zero_add, List.cons_append, List.nil_append, bin_eql, if_true, if_false, Bool.false_eq_true, Bool.true_and, decide_true]
  refine CallK.of (s36 hx4 hq1' hl (by omega)) ?_
  rw [hchaw]
  simp (maxSteps := 4000000) -implicitDefEqProofs -dsimp (disch := omega) only [↓AOps_pu, ↓AOps_call, ↓AOps_guard, on_some, extK_same, guardB_tt, pval, rd_S, rd_C, put_S, chkd, isAdr, bgot, AV.cells?, partA, eq_self, List.replicate_succ, List.replicate_zero, List.set_cons_zero, List.set_cons_succ, List.getElem?_cons_zero, List.getElem?_cons_succ, List.drop_zero, List.drop_succ_cons, List.take_zero, List.take_succ_cons, List.take_nil, Option.getD_some, map_c, map_n, List.length_cons, List.length_nil, Nat.reduceAdd, Nat.reduceSub, Nat.reduceLeDiff, Nat.zero_add, List.cons_append, List.nil_append, bin_eql, if_true, if_false, Bool.false_eq_true, decide_true]
  refine CallK.of (s36 hx4 hq3' hl (by omega)) ?_
  rw [hchlo]
  simp (maxSteps := 4000000) -implicitDefEqProofs -dsimp (disch := omega) only [↓AOps_pu, ↓AOps_call, ↓AOps_guard, on_some, extK_same, guardB_tt, pval, rd_S, rd_C, put_S, eq_self, List.replicate_succ, List.replicate_zero, List.set_cons_zero, List.set_cons_succ, List.getElem?_cons_zero, List.getElem?_cons_succ, Option.getD_some, map_n, Nat.reduceSub, List.cons_append, List.nil_append, bin_eql, if_true, decide_true]
  refine CallK.of (known A4) ?_
  simp (maxSteps := 4000000) -implicitDefEqProofs -dsimp (disch := omega) only [↓AW_ret, ↓AOps_nil, ↓AOps_pu, on_some, extK_same, ↓then_normal, ↓Fin_ret, pval, rd_S, rd_C, put_S, resV, resL, eq_self, List.replicate_succ, List.replicate_zero, List.set_cons_zero, List.set_cons_succ, List.getElem?_cons_zero, List.getElem?_cons_succ, Option.getD_some, Nat.reduceSub, List.cons_append, List.nil_append, if_true, decide_true]
  exact gc_val hP4 rfl
end
end Go.Proofs.Ytdcdjhhjlpegjaa

