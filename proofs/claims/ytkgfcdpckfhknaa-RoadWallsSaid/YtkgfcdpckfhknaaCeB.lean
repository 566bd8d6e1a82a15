/- What the law's proof rests on, part 4: for all that is said in each line. No conditions. -/
import Derived.Test.YtkgfcdpckfhknaaRows
import Derived.Test.YtkgfcdpckfhknaaCeA
namespace Go.Proofs.Ytkgfcdpckfhknaa
open Go Go.Eng
/-- A road's cost. -/
def wct (rs : List Rd) (k : Int) : Int := (rdx rs k).2.2
theorem Net.wb {P : Int} {rs : List Rd} (h : Net P rs) {k : Int} (h0 : 0 ≤ k) (h1 : k ≤ (rs.length : Int) - 1) : 0 ≤ wct rs k ∧ wct rs k ≤ 99 := by
  have := h.r _ (rdx_at h0 h1).2
  exact this.2.2
theorem Net.nat {P : Int} {rs : List Rd} (h : Net P rs) : ∃ p : Nat, P = p := ⟨P.toNat, by have := h.p1; omega⟩
section
variable {P : Nat} {rs : List Rd} {ks : List Int} {u v : AV} {A : AHeap}
end
section
variable {Q : Int} {rs : List Rd} {ks : List Int} {u v : AV} {A : AHeap}
theorem s51 (hx : L1 A v ks) (hl : ks.length ≤ 1000000) (p : Int) : ACalls Try.prog 51 [v, I p] A (B (decide (p ∈ ks))) A := by
  refine acalls hmix Try.func51 (by kernel_rfl) t51 2 rfl (by decide) ?_
  dsimp only [m51]
  simp (maxSteps := 4000000) -implicitDefEqProofs -dsimp (disch := omega) only [↓AW_ops, ↓AW_seq, ↓AW_block, ↓AOps_nil, ↓AOps_pu, on_some, ↓then_normal, pval, rd_C, put_S, ↓AW_toLoop, List.replicate_succ, List.replicate_zero, List.set_cons_zero, List.set_cons_succ, Nat.reduceSub, List.cons_append, List.nil_append]
  refine LoopK.by 18 (fun i : Nat => i ≤ ks.length ∧ ∀ x ∈ ks.take i, ¬ x = p) (fun i => [(0, v), (1, I p), (5, I i)]) (fun _ => A) (fun i => ks.length - i) 0 ⟨by omega, by simp⟩ rfl (by simp [Has, rd_s]) rfl ?_
  rintro i ⟨hi, he⟩
  by_cases hlt : i < ks.length
  · obtain ⟨z, hz⟩ : ∃ z, ks[i]? = some z := ⟨_, List.getElem?_eq_getElem hlt⟩
    have hlt' : (i : Int) < ks.length := by omega
    by_cases h : z = p
    · simp (maxSteps := 4000000) -implicitDefEqProofs -dsimp (disch := omega) only [↓AW_skip, ↓AW_ops, ↓AW_seq, ↓AW_cond, ↓AW_block, ↓AW_ret, ↓AOps_nil, ↓AOps_pu, ↓AOps_ld, on_some, condB_t, ↓then_normal, ↓then_ret, ↓inBlock_ret, ↓Fin_ret, pval, lval, rd_S, rd_C, put_S, resV, resL, partA, eq_self, mk, List.foldl_cons, List.foldl_nil, List.replicate_succ, List.replicate_zero, List.set_cons_zero, List.set_cons_succ, List.getElem?_cons_zero, List.getElem?_cons_succ, List.drop_zero, List.take_succ_cons, List.take_nil, Option.getD_some, List.length_cons, List.length_nil, Nat.reduceLeDiff, Nat.zero_add, bin_eql, bin_lss, if_true, if_false, Bool.false_eq_true, decide_true, Go.Eng.e1, hlt', hx.len, hx.idx hlt, hx.ld0 hz 1 false (by decide), h]
      exact gc_same (by rw [decide_eq_true (h ▸ List.mem_of_getElem? hz)])
    · simp (maxSteps := 4000000) -implicitDefEqProofs -dsimp (disch := omega) only [↓AW_skip, ↓AW_ops, ↓AW_seq, ↓AW_cond, ↓AW_block, ↓AOps_nil, ↓AOps_pu, ↓AOps_ld, on_some, condB_t, condB_f, ↓then_normal, ↓inBlock_normal, pval, lval, rd_S, rd_C, put_S, partA, eq_self, mk, List.foldl_cons, List.foldl_nil, List.replicate_succ, List.replicate_zero, List.set_cons_zero, List.set_cons_succ, List.getElem?_cons_zero, List.getElem?_cons_succ, List.drop_zero, List.take_succ_cons, List.take_nil, Option.getD_some, List.length_cons, List.length_nil, Nat.reduceAdd, Nat.reduceLeDiff, Nat.zero_add, bin_add, bin_eql, bin_lss, w64, if_true, if_false, Bool.false_eq_true, decide_true, decide_false, Go.Eng.e1, true_and, hlt', hx.len, hx.idx hlt, hx.ld0 hz 1 false (by decide), h]
      exact ⟨i + 1, ⟨hlt, all_take he hz h⟩, by simp [Has, rd_s], by omega⟩
  · have hlt' : ¬ ((i : Int) < ks.length) := by omega
    simp (maxSteps := 4000000) -implicitDefEqProofs -dsimp (disch := omega) only [↓AW_ops, ↓AW_seq, ↓AW_cond, ↓AW_exit, ↓AW_ret, ↓AOps_nil, ↓AOps_pu, on_some, condB_f, ↓then_normal, ↓then_exit, ↓inBlock_exit, ↓Fin_ret, pval, rd_S, rd_C, put_S, resV, resL, eq_self, mk, List.foldl_cons, List.foldl_nil, List.replicate_succ, List.replicate_zero, List.set_cons_zero, List.set_cons_succ, List.getElem?_cons_zero, List.getElem?_cons_succ, Option.getD_some, bin_lss, if_true, decide_false, hx.len, hlt']
    rw [List.take_of_length_le (by omega)] at he
    exact gc_same (by rw [decide_eq_false (fun hh => he p hh rfl)])
theorem s17 (hu : L3 A u rs) (P : Int) : ACalls Try.prog 17 [.agg [I P, u]] A (B (decide ((100 : Int) < rs.length))) A := by
  refine acalls hmix Try.func17 (by kernel_rfl) t17 1 rfl (by decide) ?_
  dsimp only [m17]
  simp (maxSteps := 4000000) -implicitDefEqProofs -dsimp (disch := omega) only [↓AW_ops, ↓AW_seq, ↓AW_ret, ↓AOps_nil, ↓AOps_pu, on_some, ↓then_normal, ↓Fin_ret, pval, rd_S, rd_C, put_S, resV, resL, chkd, isAdr, bgot, AV.cells?, partA, eq_self, List.replicate_succ, List.replicate_zero, List.set_cons_zero, List.set_cons_succ, List.getElem?_cons_zero, List.getElem?_cons_succ, List.drop_zero, List.drop_succ_cons, List.take_succ_cons, List.take_nil, Option.getD_some, List.length_cons, List.length_nil, Nat.reduceAdd, Nat.reduceSub, Nat.reduceLeDiff, Nat.zero_add, List.cons_append, List.nil_append, bin_gtr, if_true, if_false, Bool.false_eq_true, hu.len]
  exact gc_same rfl
end
end Go.Proofs.Ytkgfcdpckfhknaa

namespace Go.Proofs.Ytkgfcdpckfhknaa
open Go Go.Eng
/-- The first elements are in order. -/
def SU (w : Int → Int) (zs : List Int) (i : Nat) : Prop := ∀ (p q : Nat) (a b : Int), p < q → q < i → zs[p]? = some a → zs[q]? = some b → w a ≤ w b
theorem SU.one (w : Int → Int) (zs : List Int) : SU w zs 1 := fun p q a b h k => by omega
theorem SU.zero (w : Int → Int) (zs : List Int) : SU w zs 0 := fun p q a b h k => by omega
theorem SU.all {w : Int → Int} {zs : List Int} (h : SU w zs zs.length) : zs.Pairwise (fun a b => w a ≤ w b) := by
  rw [List.pairwise_iff_getElem]
  intro i j hi hj hij
  exact h i j _ _ hij hj (List.getElem?_eq_getElem hi) (List.getElem?_eq_getElem hj)
/-- An element that goes down to its place. -/
structure IS (w : Int → Int) (xs zs : List Int) (i j : Nat) : Prop where
  perm : zs.Perm xs
  a : ∀ (p q : Nat) (a b : Int), p < q → q ≤ i → p ≠ j → q ≠ j → zs[p]? = some a → zs[q]? = some b → w a ≤ w b
  b : ∀ (q : Nat) (x y : Int), j < q → q ≤ i → zs[j]? = some x → zs[q]? = some y → w x ≤ w y
theorem IS.start {w : Int → Int} {xs zs : List Int} {i : Nat} (hp : zs.Perm xs) (h : SU w zs i) : IS w xs zs i i :=
  ⟨hp, fun p q a b h1 h2 _ h4 => h p q a b h1 (by omega), fun q x y h1 h2 => by omega⟩
theorem IS.zero {w : Int → Int} {xs zs : List Int} {i : Nat} (h : IS w xs zs i 0) : SU w zs (i + 1) := by
  intro p q a b h1 h2 h3 h4
  by_cases hp : p = 0
  · subst hp
    exact h.b q a b h1 (by omega) h3 h4
  · exact h.a p q a b h1 (by omega) hp (by omega) h3 h4
theorem IS.stop {w : Int → Int} {xs zs : List Int} {i j : Nat} {x y : Int} (h : IS w xs zs i (j + 1)) (hx : zs[j + 1]? = some x) (hy : zs[j]? = some y) (hxy : ¬ w x < w y) : SU w zs (i + 1) := by
  intro p q a b h1 h2 h3 h4
  by_cases hq : q = j + 1
  · subst hq
    have hbx : b = x := by rw [hx] at h4; exact (Option.some.inj h4).symm
    subst hbx
    by_cases hp : p = j
    · subst hp
      have e : a = y := by rw [hy] at h3; exact (Option.some.inj h3).symm
      rw [e]
      omega
    · have := h.a p j a y (by omega) (by omega) (by omega) (by omega) h3 hy
      omega
  · by_cases hp : p = j + 1
    · subst hp
      exact h.b q a b h1 (by omega) h3 h4
    · exact h.a p q a b h1 (by omega) hp hq h3 h4
theorem swap_get {zs : List Int} {j : Nat} {x y : Int} (hj : j + 1 < zs.length) (k : Nat) : ((zs.set (j + 1) y).set j x)[k]? = if k = j then some x else if k = j + 1 then some y else zs[k]? := by
  rw [List.getElem?_set, List.getElem?_set]
  by_cases h1 : k = j
  · subst h1
    rw [if_pos rfl, if_pos rfl, if_pos (by simp; omega)]
  · rw [if_neg (Ne.symm h1), if_neg h1]
    by_cases h2 : k = j + 1
    · subst h2
      rw [if_pos rfl, if_pos rfl, if_pos hj]
    · rw [if_neg (Ne.symm h2), if_neg h2]
theorem IS.swap {w : Int → Int} {xs zs : List Int} {i j : Nat} {x y : Int} (h : IS w xs zs i (j + 1)) (hi : j + 1 ≤ i) (hx : zs[j + 1]? = some x) (hy : zs[j]? = some y) (hxy : w x < w y) : IS w xs ((zs.set (j + 1) y).set j x) i j := by
  obtain ⟨h1, rfl⟩ := List.getElem?_eq_some_iff.1 hx
  obtain ⟨h2, rfl⟩ := List.getElem?_eq_some_iff.1 hy
  refine ⟨(List.set_set_perm h1 h2).trans h.perm, fun p q a b hpq hqi hp hq ha hb => ?_, fun q a b hjq hqi ha hb => ?_⟩
  · rw [swap_get h1] at ha hb
    rw [if_neg hp] at ha
    rw [if_neg hq] at hb
    by_cases hq1 : q = j + 1
    · rw [if_pos hq1] at hb
      rw [if_neg (by omega)] at ha
      have := h.a p j a zs[j] (by omega) (by omega) (by omega) (by omega) ha hy
      have e := Option.some.inj hb
      rw [← e]
      omega
    · rw [if_neg hq1] at hb
      by_cases hp1 : p = j + 1
      · rw [if_pos hp1] at ha
        have := h.a j q zs[j] b (by omega) hqi (by omega) hq1 hy hb
        have e := Option.some.inj ha
        rw [← e]
        omega
      · rw [if_neg hp1] at ha
        exact h.a p q a b hpq hqi hp1 hq1 ha hb
  · rw [swap_get h1] at ha hb
    rw [if_pos rfl] at ha
    rw [if_neg (by omega)] at hb
    have ha := Option.some.inj ha
    by_cases hq1 : q = j + 1
    · rw [if_pos hq1] at hb
      have e := Option.some.inj hb
      rw [← e, ← ha]
      omega
    · rw [if_neg hq1] at hb
      have := h.b q _ b (by omega) hqi hx hb
      rw [← ha]
      omega
section
variable {P : Nat} {rs : List Rd} {ks : List Int} {u v : AV} {A : AHeap}
theorem s98 {H : AHeap} {q : Nat} (hq : ldA 1 false (.ptr q 1) H = some u) (hu : L3 H u rs) (hn : Net P rs) {i k : Int} (i0 : 0 ≤ i) (i1 : i ≤ (rs.length : Int) - 1) (k0 : 0 ≤ k) (k1 : k ≤ (rs.length : Int) - 1) :
    ACalls Try.prog 98 [I i, I k, .ptr q 0] H (I (wct rs i - wct rs k)) H := by
  refine acalls hmix Try.func98 (by kernel_rfl) t98 3 rfl (by decide) ?_
  obtain ⟨hi, _⟩ := rdx_at i0 i1
  obtain ⟨hk, _⟩ := rdx_at k0 k1
  have wi := hn.wb i0 i1
  have wk := hn.wb k0 k1
  have hii := hu.idxI (k := .i64) i0 (show i < (rs.length : Int) by omega)
  have hki := hu.idxI (k := .i64) k0 (show k < (rs.length : Int) by omega)
  have e1 : (rdx rs i).2.2 = wct rs i := rfl
  have e2 : (rdx rs k).2.2 = wct rs k := rfl
  dsimp only [m98]
  simp (maxSteps := 4000000) -implicitDefEqProofs -dsimp (disch := omega) only [↓AW_ops, ↓AW_seq, ↓AW_ret, ↓AOps_nil, ↓AOps_pu, ↓AOps_ld, on_some, ↓then_normal, ↓Fin_ret, pval, lval, rd_S, rd_C, put_S, resV, resL, partA, eq_self, List.replicate_succ, List.replicate_zero, List.set_cons_zero, List.set_cons_succ, List.getElem?_cons_zero, List.getElem?_cons_succ, List.drop_zero, List.drop_succ_cons, List.take_succ_cons, List.take_nil, Option.getD_some, List.length_cons, List.length_nil, Nat.reduceAdd, Nat.reduceSub, Nat.reduceLeDiff, Nat.zero_add, List.cons_append, List.nil_append, bin_sub, w64, if_true, if_false, Bool.false_eq_true, hq, hii, hki, hu.ld hi 1 2 false (by decide), hu.ld hk 1 2 false (by decide), e3, e1, e2]
  exact gc_same rfl
/-- Comparing two of a list's numbers, wherever they stand. -/
def CmpOK (w : Int → Int) (H : AHeap) (n q : Nat) (xs : List Int) : Prop := ∀ zs : List Int, zs.Perm xs → ∀ x ∈ xs, ∀ y ∈ xs, ACalls Try.prog 98 [I x, I y, .ptr q 0] (H.set n (.cells true (zs.flatMap e1))) (I (w x - w y)) (H.set n (.cells true (zs.flatMap e1)))
set_option maxHeartbeats 8000000 in
theorem c_insC {w : Int → Int} {xs : List Int} {H : AHeap} {n q : Nat} (h : OL 1 e1 A H n v xs) (hl : xs.length ≤ 1000) (hc : CmpOK w H n q xs) : ∃ zs : List Int, ACalls Try.prog 112 [v, I 0, I xs.length, .fn 98 [.ptr q 0]] H (.tuple []) (H.set n (.cells true (zs.flatMap e1))) ∧ zs.Perm xs ∧ zs.Pairwise (fun a b => w a ≤ w b) := by
  have key : ∃ r H', ACalls Try.prog 112 [v, I 0, I xs.length, .fn 98 [.ptr q 0]] H r H' ∧ ∃ zs : List Int, r = .tuple [] ∧ H' = H.set n (.cells true (zs.flatMap e1)) ∧ zs.Perm xs ∧ zs.Pairwise (fun a b => w a ≤ w b) := by
    refine acallsR hmix Try.func112 (by kernel_rfl) t112 _ 4 rfl (by decide) ?_
    dsimp only [m112]
    simp (maxSteps := 4000000) -implicitDefEqProofs -dsimp (disch := omega) only [↓AW_ops, ↓AW_seq, ↓AW_block, ↓AOps_nil, ↓AOps_pu, on_some, ↓then_normal, pval, rd_S, rd_C, put_S, ↓AW_toLoop, List.replicate_succ, List.replicate_zero, List.set_cons_zero, List.set_cons_succ, List.getElem?_cons_zero, List.getElem?_cons_succ, Option.getD_some, Nat.reduceSub, List.cons_append, List.nil_append, bin_add, w64, Int.reduceAdd]
    refine LoopK.by 53 (fun x : Nat × List Int => (1 ≤ x.1 ∧ x.1 ≤ xs.length + 1) ∧ x.2.Perm xs ∧ SU w x.2 x.1) (fun x => [(0, v), (1, I 0), (2, I xs.length), (3, .fn 98 [.ptr q 0]), (8, I x.1)]) (fun x => H.set n (.cells true (x.2.flatMap e1))) (fun x => xs.length + 1 - x.1) (1, xs) ⟨by simp only; omega, List.Perm.refl _, SU.one _ _⟩ rfl (by simp [Has, rd_s]) (by simp only; rw [set_same h.ob]) ?_
    rintro ⟨i, zs⟩ ⟨hi, hpz, hz⟩
    simp only at hi hpz hz
    by_cases hlt : i < xs.length
    · have hlt' : (i : Int) < xs.length := by omega
      simp (maxSteps := 4000000) -implicitDefEqProofs -dsimp (disch := omega) only [↓AW_skip, ↓AW_ops, ↓AW_seq, ↓AW_cond, ↓AW_block, ↓AOps_nil, ↓AOps_pu, on_some, condB_t, ↓then_normal, pval, rd_S, put_S, ↓AW_toLoop, mk, List.foldl_cons, List.foldl_nil, List.replicate_succ, List.replicate_zero, List.set_cons_zero, List.set_cons_succ, List.getElem?_cons_zero, List.getElem?_cons_succ, Option.getD_some, bin_lss, decide_true, hlt']
      refine LoopK.by 53 (fun x : Nat × List Int => x.1 ≤ i ∧ IS w xs x.2 i x.1) (fun x => [(0, v), (1, I 0), (2, I xs.length), (3, .fn 98 [.ptr q 0]), (8, I i), (9, I x.1)]) (fun x => H.set n (.cells true (x.2.flatMap e1))) (fun x => x.1) (i, zs) ⟨by simp only; omega, IS.start hpz hz⟩ rfl (by simp [Has, rd_s]) rfl ?_
      rintro ⟨j, ws⟩ ⟨hj, hs⟩
      simp only at hj hs
      have hlen := hs.perm.length_eq
      have ho := OL_setAll h ws hlen
      cases j with
      | zero =>
        simp (maxSteps := 4000000) -implicitDefEqProofs -dsimp (disch := omega) only [↓AW_ops, ↓AW_seq, ↓AW_cond, ↓AW_exit, ↓AOps_nil, ↓AOps_pu, ↓AOps_guard, on_some, guardB_ft, skipS_some, condB_f, ↓then_normal, ↓then_exit, ↓inBlock_normal, ↓inBlock_exit, ↓FinR_normal, pval, rd_S, rd_C, put_S, resV, resL, eq_self, mk, List.foldl_cons, List.foldl_nil, List.replicate_succ, List.replicate_zero, List.set_cons_zero, List.set_cons_succ, List.getElem?_cons_zero, List.getElem?_cons_succ, Option.getD_some, List.length_cons, List.length_nil, Nat.reduceAdd, Nat.reduceEqDiff, Nat.zero_add, bin_add, bin_gtr, w64, if_true, if_false, Bool.false_eq_true, decide_false, true_and, reduceCtorEq, Int.reduceLT, Int.ofNat_zero]
        exact ⟨(i + 1, ws), ⟨by simp only; omega, hs.perm, hs.zero⟩, by simp [Has, rd_s], rfl, by simp only; omega⟩
      | succ k =>
        have hk1 : k + 1 < ws.length := by omega
        have hk0 : k < ws.length := by omega
        have hjp : (0 : Int) < ((k + 1 : Nat) : Int) := by omega
        have hjm : ((k + 1 : Nat) : Int) - 1 = (k : Int) := by omega
        obtain ⟨x, hx⟩ : ∃ x, ws[k + 1]? = some x := ⟨_, List.getElem?_eq_getElem hk1⟩
        obtain ⟨y, hy⟩ : ∃ y, ws[k]? = some y := ⟨_, List.getElem?_eq_getElem hk0⟩
        have h1 := ho.st hk1 (I y) y rfl
        rw [List.set_set] at h1
        have ho2 := OL_setAll h (ws.set (k + 1) y) (by simp [hlen])
        have h2 := ho2.st (i := k) (by simp; omega) (I x) x rfl
        rw [List.set_set] at h2
        have hswap := hs.swap (x := x) (y := y) hj hx hy
        have hstop := hs.stop hx hy
        generalize hJ : ((k + 1 : Nat) : Int) = J at *
        have hidx1 : idxA 1 v (.int .i64 J) = some (.ptr (nm v) (of v + (k + 1) * 1)) := by rw [← hJ]; exact ho.ls.idx hk1
        simp (maxSteps := 4000000) -implicitDefEqProofs -dsimp (disch := omega) only [↓AW_ops, ↓AW_seq, ↓AOps_pu, ↓AOps_ld, ↓AOps_callv, ↓AOps_guard, on_some, CallF_fn, guardB_tt, pval, lval, rd_S, rd_C, put_S, partA, eq_self, mk, List.foldl_cons, List.foldl_nil, List.replicate_succ, List.replicate_zero, List.set_cons_zero, List.set_cons_succ, List.getElem?_cons_zero, List.getElem?_cons_succ, List.drop_zero, List.take_succ_cons, List.take_nil, Option.getD_some, map_c, map_n, List.length_cons, List.length_nil, Nat.reduceLeDiff, Nat.zero_add, List.cons_append, List.nil_append, bin_sub, bin_gtr, w64, if_true, if_false, Bool.false_eq_true, decide_true, Go.Eng.e1, hjp, hjm, hidx1, ho.ls.ld0 hx 1 false (by decide), ho.ls.idx hk0, ho.ls.ld0 hy 1 false (by decide)]
        refine CallK.of (hc ws hs.perm x (hs.perm.mem_iff.1 (List.mem_of_getElem? hx)) y (hs.perm.mem_iff.1 (List.mem_of_getElem? hy))) ?_
        by_cases hxy : w x < w y
        · have hxy' : w x - w y < 0 := by omega
          simp (maxSteps := 4000000) -implicitDefEqProofs -dsimp (disch := omega) only [↓AW_skip, ↓AW_ops, ↓AW_seq, ↓AW_cond, ↓AW_block, ↓AOps_nil, ↓AOps_pu, ↓AOps_ld, ↓AOps_ha, ↓AOps_guard, on_some, extK_false, extK_same, guardB_tt, condB_t, ↓then_normal, ↓inBlock_normal, pval, lval, hval_st, rd_S, rd_C, put_S, putS_none, partA, eq_self, mk, List.foldl_cons, List.foldl_nil, List.replicate_succ, List.replicate_zero, List.set_cons_zero, List.set_cons_succ, List.getElem?_cons_zero, List.getElem?_cons_succ, List.drop_zero, List.take_succ_cons, List.take_nil, Option.getD_some, Option.map_some, List.length_cons, List.length_nil, Nat.reduceAdd, Nat.reduceLeDiff, Nat.zero_add, bin_sub, bin_lss, w64, if_true, if_false, Bool.false_eq_true, decide_true, Go.Eng.e1, true_and, hxy', hjm, hidx1, ho.ls.ld0 hx 1 false (by decide), ho.ls.idx hk0, ho.ls.ld0 hy 1 false (by decide), h1, h2]
          exact ⟨(k, (ws.set (k + 1) y).set k x), ⟨by simp only; omega, hswap hxy⟩, by simp [Has, rd_s], rfl, by simp only; omega⟩
        · have hxy' : ¬ w x - w y < 0 := by omega
          simp (maxSteps := 4000000) -implicitDefEqProofs -dsimp (disch := omega) only [↓AW_ops, ↓AW_cond, ↓AW_exit, ↓AOps_nil, ↓AOps_pu, ↓AOps_guard, on_some, extK_same, guardB_tt, condB_f, ↓then_normal, ↓then_exit, ↓inBlock_normal, ↓inBlock_exit, ↓FinR_normal, pval, rd_S, rd_C, put_S, resV, resL, eq_self, mk, List.foldl_cons, List.foldl_nil, List.replicate_succ, List.replicate_zero, List.set_cons_zero, List.set_cons_succ, List.getElem?_cons_zero, List.getElem?_cons_succ, Option.getD_some, List.length_cons, List.length_nil, Nat.reduceAdd, Nat.reduceEqDiff, Nat.zero_add, bin_add, bin_lss, w64, if_true, if_false, decide_false, true_and, reduceCtorEq, hxy']
          exact ⟨(i + 1, ws), ⟨by simp only; omega, hs.perm, hstop hxy⟩, by simp [Has, rd_s], rfl, by simp only; omega⟩
    · have hlt' : ¬ (i : Int) < xs.length := by omega
      simp (maxSteps := 4000000) -implicitDefEqProofs -dsimp (disch := omega) only [↓AW_ops, ↓AW_seq, ↓AW_cond, ↓AW_exit, ↓AOps_nil, ↓AOps_pu, on_some, condB_f, ↓then_normal, ↓then_exit, ↓inBlock_exit, ↓FinR_normal, pval, rd_S, put_S, resV, resL, eq_self, mk, List.foldl_cons, List.foldl_nil, List.replicate_succ, List.replicate_zero, List.set_cons_zero, List.set_cons_succ, List.getElem?_cons_zero, List.getElem?_cons_succ, Option.getD_some, bin_lss, if_true, decide_false, hlt']
      have hle := hpz.length_eq
      exact ⟨_, _, gc_all, zs, rfl, rfl, hpz, SU.all (fun p q a b h1 h2 => hz p q a b h1 (by omega))⟩
  obtain ⟨r, H', h1, zs, rfl, rfl, h2, h3⟩ := key
  exact ⟨zs, h1, h2, h3⟩
theorem c_stable {w : Int → Int} {xs : List Int} {H : AHeap} {n q : Nat} (h : OL 1 e1 A H n v xs) (hl : xs.length ≤ 19) (hc : CmpOK w H n q xs) : ∃ zs : List Int, ACalls Try.prog 97 [v, .fn 98 [.ptr q 0]] H (.tuple []) (H.set n (.cells true (zs.flatMap e1))) ∧ zs.Perm xs ∧ zs.Pairwise (fun a b => w a ≤ w b) := by
  obtain ⟨zs, h1, h2, h3⟩ := c_insC h (by omega) hc
  refine ⟨zs, ?_, h2, h3⟩
  have hst : ACalls Try.prog 109 [v, I xs.length, .fn 98 [.ptr q 0]] H (.tuple []) (H.set n (.cells true (zs.flatMap e1))) := by
    refine acalls hmix Try.func109 (by kernel_rfl) t109 3 rfl (by decide) ?_
    have hb : ¬ (20 : Int) ≤ xs.length := by omega
    have hb2 : ¬ (20 : Int) < xs.length := by omega
    dsimp only [m109]
    simp (maxSteps := 4000000) -implicitDefEqProofs -dsimp (disch := omega) only [↓AW_ops, ↓AW_seq, ↓AW_block, ↓AOps_nil, ↓AOps_pu, on_some, ↓then_normal, pval, rd_S, rd_C, put_S, ↓AW_toLoop, List.replicate_succ, List.replicate_zero, List.set_cons_zero, List.set_cons_succ, List.getElem?_cons_zero, List.getElem?_cons_succ, Option.getD_some, Nat.reduceSub, List.cons_append, List.nil_append]
    refine LoopK.by 63 (fun _ : Unit => True) (fun _ => [(0, v), (1, I xs.length), (2, .fn 98 [.ptr q 0]), (6, I 20), (7, I 0), (8, I 20)]) (fun _ => H) (fun _ => 0) () trivial rfl (by simp [Has, rd_s]) rfl ?_
    rintro _ _
    simp (maxSteps := 4000000) -implicitDefEqProofs -dsimp (disch := omega) only [↓AW_ops, ↓AW_seq, ↓AW_cond, ↓AW_exit, ↓AOps_nil, ↓AOps_pu, ↓AOps_call, on_some, condB_f, ↓then_normal, ↓then_exit, ↓inBlock_exit, pval, rd_S, put_S, eq_self, mk, List.foldl_cons, List.foldl_nil, List.replicate_succ, List.replicate_zero, List.set_cons_zero, List.set_cons_succ, List.getElem?_cons_zero, List.getElem?_cons_succ, Option.getD_some, map_c, map_n, bin_leq, if_true, decide_false, hb]
    refine CallK.of h1 ?_
    simp (maxSteps := 4000000) -implicitDefEqProofs -dsimp (disch := omega) only [↓AW_block, ↓AOps_nil, extK_false, ↓then_normal, put_S, ↓AW_toLoop, mk, List.foldl_cons, List.foldl_nil, List.replicate_succ, List.replicate_zero, List.set_cons_zero, List.set_cons_succ]
    refine LoopK.by 63 (fun _ : Unit => True) (fun _ => [(0, v), (1, I xs.length), (2, .fn 98 [.ptr q 0]), (6, I 20)]) (fun _ => H.set n (.cells true (zs.flatMap e1))) (fun _ => 0) () trivial rfl (by simp [Has, rd_s]) rfl ?_
    rintro _ _
    simp (maxSteps := 4000000) -implicitDefEqProofs -dsimp (disch := omega) only [↓AW_ops, ↓AW_seq, ↓AW_cond, ↓AW_exit, ↓AOps_nil, ↓AOps_pu, on_some, condB_f, ↓then_normal, ↓then_exit, ↓inBlock_exit, ↓Fin_normal, pval, rd_S, put_S, resV, resL, eq_self, mk, List.foldl_cons, List.foldl_nil, List.replicate_succ, List.replicate_zero, List.set_cons_zero, List.set_cons_succ, List.getElem?_cons_zero, List.getElem?_cons_succ, Option.getD_some, bin_lss, if_true, decide_false, hb2]
    exact gc_same_all rfl rfl
  refine acalls hmix Try.func97 (by kernel_rfl) t97 2 rfl (by decide) ?_
  dsimp only [m97]
  simp (maxSteps := 4000000) -implicitDefEqProofs -dsimp (disch := omega) only [↓AW_ops, ↓AOps_pu, ↓AOps_call, on_some, pval, rd_S, put_S, List.replicate_succ, List.replicate_zero, List.set_cons_zero, List.set_cons_succ, List.getElem?_cons_zero, List.getElem?_cons_succ, Option.getD_some, map_c, map_n, Nat.reduceSub, List.cons_append, List.nil_append, h.ls.len]
  refine CallK.of hst ?_
  simp (maxSteps := 4000000) -implicitDefEqProofs -dsimp (disch := omega) only [↓AOps_nil, on_some, extK_false, ↓Fin_normal, resV, resL]
  exact gc_same_all rfl rfl
/-- The numbers of all roads. -/
abbrev nums (rs : List Rd) : List Int := plc rs.length
/-- The numbers of all roads, the cheapest first. -/
structure Ord (rs : List Rd) (L : List Int) : Prop where
  p : L.Perm (nums rs)
  s : L.Pairwise (fun a b => wct rs a ≤ wct rs b)
theorem Ord.mem {L : List Int} (h : Ord rs L) {k : Int} : k ∈ L ↔ 0 ≤ k ∧ k ≤ (rs.length : Int) - 1 := by
  rw [h.p.mem_iff, mem_plc]
  omega
theorem Ord.nos {L : List Int} (h : Ord rs L) : Nos rs L := fun k hk => h.mem.1 hk
theorem Ord.len {L : List Int} (h : Ord rs L) : L.length = rs.length := by rw [h.p.length_eq, plc_len]
set_option maxHeartbeats 8000000 in
theorem c_all (hu : L3 A u rs) (hn : Net P rs) : ∃ r H, ACalls Try.prog 59 [.agg [I P, u]] A r H ∧ A <+: H ∧ ∃ L, L1 H r L ∧ Ord rs L := by
  refine acallsR hmix Try.func59 (by kernel_rfl) t59 _ 1 rfl (by decide) ?_
  have hl14 := hn.l
  have hpA := pre_app A [.cells true [I P, u]]
  have hld1 : ldA 1 false (.ptr A.length 1) (A ++ [.cells true [I P, u]]) = some u := by simp [ldA, partA]
  have hu1 := hu.mono hpA
  dsimp only [m59]
  simp (maxSteps := 4000000) -implicitDefEqProofs -dsimp (disch := omega) only [↓AW_ops, ↓AW_seq, ↓AOps_nil, ↓AOps_pu, ↓AOps_ld, ↓AOps_ha, on_some, extK_app, ↓then_normal, pval, lval, hval_newv, rd_S, rd_C, put_S, cells_agg, List.replicate_succ, List.replicate_zero, List.set_cons_zero, List.set_cons_succ, List.getElem?_cons_zero, List.getElem?_cons_succ, Option.getD_some, Nat.reduceSub, Nat.zero_add, List.cons_append, List.nil_append]
  generalize hA1 : A ++ [.cells true [I P, u]] = A1 at *
  simp (maxSteps := 4000000) -implicitDefEqProofs -dsimp (disch := omega) only [↓AW_block, ↓AOps_nil, ↓AOps_pu, on_some, ↓then_normal, pval, rd_S, rd_C, put_S, ↓AW_toLoop, List.replicate_succ, List.replicate_zero, List.set_cons_zero, List.set_cons_succ, List.getElem?_cons_zero, List.getElem?_cons_succ, Option.getD_some, Nat.reduceSub, List.cons_append, List.nil_append, hld1, hu1.len]
  refine LoopK.by 20 (fun x : Nat × AV × AHeap => x.1 ≤ rs.length ∧ AccL 1 e1 A1 x.2.2 x.2.1 (plc x.1)) (fun x => [(1, .ptr A.length 0), (3, x.2.1), (7, I rs.length), (8, I x.1)]) (fun x => x.2.2) (fun x => rs.length - x.1) (0, .nilS, A1) ⟨by simp only; omega, AccL.nil (List.prefix_refl _)⟩ rfl (by simp [Has, rd_s]) rfl ?_
  rintro ⟨i, z, H⟩ ⟨hi, hac⟩
  simp only at hi hac
  by_cases hlt : i < rs.length
  · have hlt' : (i : Int) < rs.length := by omega
    obtain ⟨v', H2, happ, hacc, _, n, len, rfl, _⟩ := AccL_push2 hac e1_len (by omega) (i : Int) (by rw [plc_len]; simp only [lim]; omega)
    simp only [Go.Eng.e1] at happ
    simp (maxSteps := 4000000) -implicitDefEqProofs -dsimp (disch := omega) only [↓AW_skip, ↓AW_ops, ↓AW_seq, ↓AW_cond, ↓AW_block, ↓AOps_nil, ↓AOps_pu, ↓AOps_ha, on_some, extK_false, extK_app, condB_t, ↓then_normal, ↓inBlock_normal, pval, hval_blds, hval_app, rd_S, rd_C, put_S, cells_int, splice, fillA, repl, eq_self, mk, List.foldl_cons, List.foldl_nil, List.replicate_succ, List.replicate_zero, List.set_cons_zero, List.set_cons_succ, List.getElem?_cons_zero, List.getElem?_cons_succ, List.drop_succ_cons, List.drop_nil, List.take_zero, Option.getD_some, map_c, map_n, List.length_cons, List.length_nil, Nat.reduceAdd, Nat.reduceLeDiff, Nat.zero_add, List.nil_append, List.append_nil, bin_add, bin_lss, w64, if_true, decide_true, true_and, and_true, hlt', happ, List.replicate_zero, repl]
    refine ⟨(i + 1, .sl 1 n 0 len false, H2), ⟨hlt, ?_⟩, by simp [Has, rd_s], rfl, by simp only; omega⟩
    simp only
    rw [plc_succ]
    exact hacc
  · have hlt' : ¬ (i : Int) < rs.length := by omega
    have hil : i = rs.length := by omega
    subst hil
    simp (maxSteps := 4000000) -implicitDefEqProofs -dsimp (disch := omega) only [↓AW_ops, ↓AW_seq, ↓AW_cond, ↓AW_exit, ↓AOps_nil, ↓AOps_pu, ↓AOps_call, on_some, condB_f, ↓then_normal, ↓then_exit, ↓inBlock_exit, pval, rd_S, put_S, eq_self, mk, List.foldl_cons, List.foldl_nil, List.replicate_succ, List.replicate_zero, List.set_cons_zero, List.set_cons_succ, List.getElem?_cons_zero, List.getElem?_cons_succ, Option.getD_some, map_c, map_n, bin_lss, if_true, decide_false, hlt']
    by_cases h0 : rs.length = 0
    · -- there is none
      have hz0 : z = .nilS := by
        rcases hac.2.2 with ⟨_, h4⟩ | ⟨h3, _⟩
        · exact h4
        · rw [plc_len] at h3; omega
      have hpl : plc rs.length = [] := by rw [h0]; rfl
      have hnil : ∀ H : AHeap, ACalls Try.prog 97 [.nilS, .fn 98 [.ptr A.length 0]] H (.tuple []) H := by
        intro H
        have h112 : ACalls Try.prog 112 [.nilS, I 0, I 0, .fn 98 [.ptr A.length 0]] H (.tuple []) H := by
          refine acalls hmix Try.func112 (by kernel_rfl) t112 4 rfl (by decide) ?_
          dsimp only [m112]
          simp (maxSteps := 4000000) -implicitDefEqProofs -dsimp (disch := omega) only [↓AW_ops, ↓AW_seq, ↓AW_block, ↓AOps_nil, ↓AOps_pu, on_some, ↓then_normal, pval, rd_S, rd_C, put_S, ↓AW_toLoop, List.replicate_succ, List.replicate_zero, List.set_cons_zero, List.set_cons_succ, List.getElem?_cons_zero, List.getElem?_cons_succ, Option.getD_some, Nat.reduceSub, List.cons_append, List.nil_append, bin_add, w64, Int.reduceAdd]
          refine LoopK.by 53 (fun _ : Unit => True) (fun _ => [(0, .nilS), (1, I 0), (2, I 0), (3, .fn 98 [.ptr A.length 0]), (8, I 1)]) (fun _ => H) (fun _ => 0) () trivial rfl (by simp [Has, rd_s]) rfl ?_
          rintro _ _
          simp (maxSteps := 4000000) -implicitDefEqProofs -dsimp (disch := omega) only [↓AW_ops, ↓AW_seq, ↓AW_cond, ↓AW_exit, ↓AOps_nil, ↓AOps_pu, on_some, condB_f, ↓then_normal, ↓then_exit, ↓inBlock_exit, ↓Fin_normal, pval, rd_S, put_S, resV, resL, eq_self, mk, List.foldl_cons, List.foldl_nil, List.replicate_succ, List.replicate_zero, List.set_cons_zero, List.set_cons_succ, List.getElem?_cons_zero, List.getElem?_cons_succ, Option.getD_some, bin_lss, if_true, decide_false, Int.reduceLT]
          exact gc_same rfl
        have h109 : ACalls Try.prog 109 [.nilS, I 0, .fn 98 [.ptr A.length 0]] H (.tuple []) H := by
          refine acalls hmix Try.func109 (by kernel_rfl) t109 3 rfl (by decide) ?_
          dsimp only [m109]
          simp (maxSteps := 4000000) -implicitDefEqProofs -dsimp (disch := omega) only [↓AW_ops, ↓AW_seq, ↓AW_block, ↓AOps_nil, ↓AOps_pu, on_some, ↓then_normal, pval, rd_S, rd_C, put_S, ↓AW_toLoop, List.replicate_succ, List.replicate_zero, List.set_cons_zero, List.set_cons_succ, List.getElem?_cons_zero, List.getElem?_cons_succ, Option.getD_some, Nat.reduceSub, List.cons_append, List.nil_append]
          refine LoopK.by 63 (fun _ : Unit => True) (fun _ => [(0, .nilS), (1, I 0), (2, .fn 98 [.ptr A.length 0]), (6, I 20), (7, I 0), (8, I 20)]) (fun _ => H) (fun _ => 0) () trivial rfl (by simp [Has, rd_s]) rfl ?_
          rintro _ _
          simp (maxSteps := 4000000) -implicitDefEqProofs -dsimp (disch := omega) only [↓AW_ops, ↓AW_seq, ↓AW_cond, ↓AW_exit, ↓AOps_nil, ↓AOps_pu, ↓AOps_call, on_some, condB_f, ↓then_normal, ↓then_exit, ↓inBlock_exit, pval, rd_S, put_S, eq_self, mk, List.foldl_cons, List.foldl_nil, List.replicate_succ, List.replicate_zero, List.set_cons_zero, List.set_cons_succ, List.getElem?_cons_zero, List.getElem?_cons_succ, Option.getD_some, map_c, map_n, bin_leq, if_true, decide_false, Int.reduceLE]
          refine CallK.of h112 ?_
          simp (maxSteps := 4000000) -implicitDefEqProofs -dsimp (disch := omega) only [↓AW_block, ↓AOps_nil, extK_same, ↓then_normal, put_S, ↓AW_toLoop, mk, List.foldl_cons, List.foldl_nil, List.replicate_succ, List.replicate_zero, List.set_cons_zero, List.set_cons_succ]
          refine LoopK.by 63 (fun _ : Unit => True) (fun _ => [(0, .nilS), (1, I 0), (2, .fn 98 [.ptr A.length 0]), (6, I 20)]) (fun _ => H) (fun _ => 0) () trivial rfl (by simp [Has, rd_s]) rfl ?_
          rintro _ _
          simp (maxSteps := 4000000) -implicitDefEqProofs -dsimp (disch := omega) only [↓AW_ops, ↓AW_seq, ↓AW_cond, ↓AW_exit, ↓AOps_nil, ↓AOps_pu, on_some, condB_f, ↓then_normal, ↓then_exit, ↓inBlock_exit, ↓Fin_normal, pval, rd_S, put_S, resV, resL, eq_self, mk, List.foldl_cons, List.foldl_nil, List.replicate_succ, List.replicate_zero, List.set_cons_zero, List.set_cons_succ, List.getElem?_cons_zero, List.getElem?_cons_succ, Option.getD_some, bin_lss, if_true, decide_false, Int.reduceLT]
          exact gc_same rfl
        refine acalls hmix Try.func97 (by kernel_rfl) t97 2 rfl (by decide) ?_
        dsimp only [m97]
        simp (maxSteps := 4000000) -implicitDefEqProofs -dsimp (disch := omega) only [↓AW_ops, ↓AOps_pu, ↓AOps_call, on_some, pval, rd_S, put_S, List.replicate_succ, List.replicate_zero, List.set_cons_zero, List.set_cons_succ, List.getElem?_cons_zero, List.getElem?_cons_succ, Option.getD_some, map_c, map_n, Nat.reduceSub, List.cons_append, List.nil_append, lenA]
        refine CallK.of h109 ?_
        simp (maxSteps := 4000000) -implicitDefEqProofs -dsimp (disch := omega) only [↓AOps_nil, on_some, extK_same, ↓Fin_normal, resV, resL]
        exact gc_same rfl
      subst hz0
      refine CallK.of (hnil H) ?_
      simp (maxSteps := 4000000) -implicitDefEqProofs -dsimp (disch := omega) only [↓AW_ops, ↓AW_seq, ↓AW_ret, ↓AOps_nil, ↓AOps_pu, on_some, extK_same, ↓then_normal, ↓FinR_ret, pval, rd_S, put_S, resV, resL, mk, List.foldl_cons, List.foldl_nil, List.replicate_succ, List.replicate_zero, List.set_cons_zero, List.set_cons_succ, List.getElem?_cons_zero, List.getElem?_cons_succ, Option.getD_some]
      exact ⟨_, _, gc_all, hpA.trans hac.1, [], L1_nil _, by rw [show nums rs = [] from hpl], .nil⟩
    · obtain ⟨n, ho, hzv⟩ := AccL_ol hac e1_len (by rw [plc_len]; omega)
      have hcmp : CmpOK (wct rs) H n A.length (plc rs.length) := by
        intro zs hzs x hx y hy
        have ho2 := OL_setAll ho zs hzs.length_eq
        have hx' := mem_plc.1 hx
        have hy' := mem_plc.1 hy
        exact s98 (ld_mono ho2.pre hld1) (hu1.mono ho2.pre) hn hx'.1 (by omega) hy'.1 (by omega)
      obtain ⟨zs, hcs, hp, hs⟩ := c_stable ho (by rw [plc_len]; omega) hcmp
      refine CallK.of hcs ?_
      simp (maxSteps := 4000000) -implicitDefEqProofs -dsimp (disch := omega) only [↓AW_ops, ↓AW_seq, ↓AW_ret, ↓AOps_nil, ↓AOps_pu, on_some, extK_false, ↓then_normal, ↓FinR_ret, pval, rd_S, put_S, resV, resL, mk, List.foldl_cons, List.foldl_nil, List.replicate_succ, List.replicate_zero, List.set_cons_zero, List.set_cons_succ, List.getElem?_cons_zero, List.getElem?_cons_succ, Option.getD_some]
      have ho2 := OL_setAll ho zs hp.length_eq
      exact ⟨_, _, gc_all, hpA.trans ho2.pre, zs, ho2.ls, hp, hs⟩
end
end Go.Proofs.Ytkgfcdpckfhknaa

namespace Go.Proofs.Ytkgfcdpckfhknaa
open Go Go.Eng
section
variable {P : Nat} {rs : List Rd} {ks : List Int} {u v : AV} {A : AHeap}
theorem Nos.take {L : List Int} (h : Nos rs L) (i : Nat) : Nos rs (L.take i) := fun k hk => h k (List.mem_of_mem_take hk)
end
end Go.Proofs.Ytkgfcdpckfhknaa

namespace Go.Proofs.Ytkgfcdpckfhknaa
open Go Go.Eng
def bset (m s : Nat) : List Int := (plc m).filter (fun i => s.testBit i.toNat)
section
variable {P : Nat} {rs : List Rd}
theorem Ord.wb {L : List Int} (h : Ord rs L) (hn : Net P rs) : ∀ k ∈ L, 0 ≤ wct rs k ∧ wct rs k ≤ (99 : Nat) := fun k hk => hn.wb (h.nos k hk).1 (h.nos k hk).2
/-- All places can be joined. -/
def Jbl (P : Nat) (rs : List Rd) : Prop := comps P ((nums rs).map (rdx rs)) = 1
end
end Go.Proofs.Ytkgfcdpckfhknaa

namespace Go.Proofs.Ytkgfcdpckfhknaa
open Go Go.Eng
section
variable {P : Nat} {rs : List Rd} {a b : Int}
/-- Roads of a list up to a cost join two places. -/
def cnT (rs : List Rd) (M : List Int) (t a b : Int) : Prop := Cn ((upTo (wct rs) M t).map (rdx rs)) a b
theorem cnT_mono {M : List Int} {t s : Int} (h : t ≤ s) (hc : cnT rs M t a b) : cnT rs M s a b :=
  map_sub (fun k hk => by
    rw [mem_upTo] at hk ⊢
    exact ⟨hk.1, by omega⟩) hc
noncomputable instance cnTDec (rs : List Rd) (M : List Int) (t a b : Int) : Decidable (cnT rs M t a b) := Classical.propDecidable _
/-- The smallest cost up to which roads of a list join two places. -/
noncomputable def bt (rs : List Rd) (M : List Int) (a b : Int) : Option Int := if a = b then some 0 else ((List.range 100).find? (fun c : Nat => decide (cnT rs M (c : Int) a b))).map Int.ofNat
theorem find_first {f : Nat → Bool} {n c : Nat} (hc : c < n) (h : f c = true) (hn : ∀ j, j < c → f j = false) : (List.range n).find? f = some c := by
  rw [List.find?_eq_some_iff_getElem]
  refine ⟨h, c, by simpa using hc, by simp, fun j hj => ?_⟩
  rw [List.getElem_range, hn j hj]
  rfl
theorem bt_at {M : List Int} {c : Int} (hab : ¬ a = b) (c0 : 0 ≤ c) (c1 : c ≤ 99) (h : cnT rs M c a b) (hn : ¬ cnT rs M (c - 1) a b) : bt rs M a b = some c := by
  unfold bt
  rw [if_neg hab, find_first (c := c.toNat) (by omega) (by
    refine decide_eq_true ?_
    rw [Int.toNat_of_nonneg c0]
    exact h) (fun j hj => decide_eq_false (fun hh => hn (cnT_mono (by omega) hh)))]
  show some (Int.ofNat c.toNat) = _
  congr 1
  exact Int.toNat_of_nonneg c0
theorem bt_none {M : List Int} (hab : ¬ a = b) (h : ¬ cnT rs M 99 a b) : bt rs M a b = none := by
  unfold bt
  rw [if_neg hab, Option.map_eq_none_iff, List.find?_eq_none]
  intro j hj
  have := List.mem_range.1 hj
  simp only [decide_eq_true_eq]
  exact fun hh => h (cnT_mono (by omega) hh)
theorem bt_spec {M : List Int} {c : Int} (h : bt rs M a b = some c) : (a = b ∧ c = 0) ∨ (¬ a = b ∧ (0 ≤ c ∧ c ≤ 99) ∧ cnT rs M c a b ∧ ∀ t, cnT rs M t a b → 0 ≤ t → c ≤ t) := by
  unfold bt at h
  by_cases hab : a = b
  · rw [if_pos hab] at h
    exact .inl ⟨hab, (Option.some.inj h).symm⟩
  · rw [if_neg hab] at h
    cases hf : (List.range 100).find? (fun c : Nat => decide (cnT rs M (c : Int) a b)) with
    | none => rw [hf] at h; cases h
    | some j =>
      rw [hf] at h
      have hc : c = (j : Int) := (Option.some.inj h).symm
      subst hc
      rw [List.find?_eq_some_iff_getElem] at hf
      obtain ⟨h1, i, hi, hij, hn⟩ := hf
      rw [List.getElem_range] at hij
      subst hij
      have hi100 : i < 100 := by simpa using hi
      refine .inr ⟨hab, by omega, of_decide_eq_true h1, fun t ht t0 => ?_⟩
      refine Classical.byContradiction (fun hlt => ?_)
      have := hn t.toNat (by omega)
      rw [List.getElem_range] at this
      have h2 : cnT rs M ((t.toNat : Nat) : Int) a b := by rw [Int.toNat_of_nonneg t0]; exact ht
      rw [decide_eq_true h2] at this
      cases this
/-- What is found by taking one road after another. -/
def LS (rs : List Rd) (L : List Int) (a b c : Int) (ok : Bool) : Prop :=
  (a = b ∧ c = 0 ∧ ok = true) ∨ (¬ a = b ∧ ok = true ∧ ∃ (i : Nat) (k : Int), L[i]? = some k ∧ c = wct rs k ∧ Cn ((L.take (i + 1)).map (rdx rs)) a b ∧ ¬ Cn ((L.take i).map (rdx rs)) a b) ∨
  (¬ a = b ∧ ok = false ∧ c = 0 ∧ ¬ Cn (L.map (rdx rs)) a b)
theorem LS_bt {L M : List Int} {c : Int} {ok : Bool} (hs : L.Pairwise (fun x y => wct rs x ≤ wct rs y)) (hM : ∀ k, k ∈ L ↔ k ∈ M) (hb : ∀ k ∈ L, 0 ≤ wct rs k ∧ wct rs k ≤ 99) (h : LS rs L a b c ok) : bt rs M a b = (if ok = true then some c else none) ∧ (ok = false → c = 0) := by
  rcases h with ⟨h1, h2, h3⟩ | ⟨h1, h2, i, k, h3, h4, h5, h6⟩ | ⟨h1, h2, h3, h4⟩
  · subst h3; subst h2
    refine ⟨?_, fun e => by cases e⟩
    unfold bt
    rw [if_pos h1, if_pos rfl]
  · subst h2
    refine ⟨?_, fun e => by cases e⟩
    rw [if_pos rfl]
    have hkL := List.mem_of_getElem? h3
    have hkb := hb k hkL
    have hil := (List.getElem?_eq_some_iff.1 h3).1
    have hke := (List.getElem?_eq_some_iff.1 h3).2
    refine bt_at h1 (by omega) (by omega) (map_sub (fun x hx => ?_) h5) (fun hh => h6 (map_sub (fun x hx => ?_) hh))
    · rw [mem_upTo]
      refine ⟨(hM x).1 (List.mem_of_mem_take hx), ?_⟩
      obtain ⟨j, hj, hje⟩ := List.mem_iff_getElem.1 hx
      rw [List.length_take] at hj
      rw [List.getElem_take] at hje
      by_cases hji : j = i
      · subst hji
        rw [h4, ← hje, hke]
        exact Int.le_refl _
      · have := List.pairwise_iff_getElem.1 hs j i (by omega) hil (by omega)
        rw [hje, hke] at this
        omega
    · rw [mem_upTo] at hx
      obtain ⟨j, hj, hje⟩ := List.mem_iff_getElem.1 ((hM x).2 hx.1)
      have hji : j < i := by
        refine Classical.byContradiction (fun hn => ?_)
        by_cases he : i = j
        · subst he
          rw [hke] at hje
          rw [← hje] at hx
          omega
        · have := List.pairwise_iff_getElem.1 hs i j hil hj (by omega)
          rw [hje, hke] at this
          omega
      rw [List.mem_take_iff_getElem]
      exact ⟨j, by omega, hje⟩
  · subst h2; subst h3
    refine ⟨?_, fun _ => rfl⟩
    simp only [Bool.false_eq_true, if_false]
    refine bt_none h1 (fun hh => h4 (map_sub (fun x hx => ?_) hh))
    rw [mem_upTo] at hx
    exact (hM x).2 hx.1
end
end Go.Proofs.Ytkgfcdpckfhknaa

namespace Go.Proofs.Ytkgfcdpckfhknaa
open Go Go.Eng
section
variable {P : Nat} {rs : List Rd} {ks : List Int} {u v : AV} {A : AHeap}
end
section
variable {Q : Int} {rs : List Rd} {u : AV} {A : AHeap}
end
end Go.Proofs.Ytkgfcdpckfhknaa

namespace Go.Proofs.Ytkgfcdpckfhknaa
open Go Go.Eng
/-- Rows of another list, put together anew. -/
structure Sel (A H : AHeap) (v : AV) (ws : List (AV × List Int)) : Prop where
  acc : AccL 1 e0 A H v ws
  inn : ∀ x ∈ ws, L1 A x.1 x.2
theorem Sel.nil {A H : AHeap} (h : A <+: H) : Sel A H .nilS [] := ⟨AccL.nil h, by simp⟩
theorem Sel.push {A H : AHeap} {v : AV} {ws : List (AV × List Int)} (h : Sel A H v ws) {x : AV × List Int} (hx : L1 A x.1 x.2) (hl : ws.length + 1 ≤ lim) :
    ∃ v' H2, appA 1 (H ++ [.cells true [x.1]]) v (.sl 1 H.length 0 1 true) = some (v', H2) ∧ Sel A H2 v' (ws ++ [x]) ∧ v'.cells? = some [v'] := by
  obtain ⟨v', H2, happ, hacc⟩ := h.acc.push e0_len x hl
  refine ⟨v', H2, happ, ⟨hacc, fun y hy => ?_⟩, Ls_cells (AccL_ls hacc e0_len)⟩
  rcases List.mem_append.1 hy with hy | hy
  · exact h.inn y hy
  · have : y = x := by simpa using hy
    rw [this]; exact hx
section
variable {P : Nat} {rs : List Rd} {ks : List Int} {u v : AV} {A : AHeap}
noncomputable instance jblDec (P : Nat) (rs : List Rd) : Decidable (Jbl P rs) := by unfold Jbl; infer_instance
end
section
variable {Q : Int} {rs : List Rd} {ks : List Int} {u v : AV} {A : AHeap}
end
section
variable {P : Nat} {rs : List Rd} {ks : List Int} {u v : AV} {A : AHeap}
end
end Go.Proofs.Ytkgfcdpckfhknaa

namespace Go.Proofs.Ytkgfcdpckfhknaa
open Go Go.Eng
section
variable {P : Nat} {rs : List Rd} {ks : List Int} {u v : AV} {A : AHeap}
set_option maxHeartbeats 8000000 in
theorem c_least {L : List Int} (hu : L3 A u rs) (hx : L1 A v L) (hn : Net P rs) (hk : Nos rs L) (hl : L.length ≤ 1000000) {a b : Int} (ha : 0 ≤ a ∧ a < P) (hb : 0 ≤ b ∧ b < P) : ∃ c ok, ACalls Try.prog 62 [.agg [I P, u], v, I a, I b] A (.tuple [I c, B ok]) A ∧ LS rs L a b c ok := by
  have key : ∃ r H', ACalls Try.prog 62 [.agg [I P, u], v, I a, I b] A r H' ∧ ∃ c ok, r = .tuple [I c, B ok] ∧ H' = A ∧ LS rs L a b c ok := by
    refine acallsR hmix Try.func62 (by kernel_rfl) t62 _ 4 rfl (by decide) ?_
    have hP7 := hn.p7
    by_cases hab : a = b
    · subst hab
      dsimp only [m62]
      simp (maxSteps := 4000000) -implicitDefEqProofs -dsimp (disch := omega) only [↓AW_ops, ↓AW_seq, ↓AW_cond, ↓AW_ret, ↓AOps_nil, ↓AOps_pu, on_some, condB_t, ↓then_normal, ↓then_ret, ↓FinR_ret, pval, rd_S, rd_C, put_S, resV, resL, cells_agg, eq_self, List.replicate_succ, List.replicate_zero, List.set_cons_zero, List.set_cons_succ, List.getElem?_cons_zero, List.getElem?_cons_succ, Option.getD_some, Nat.reduceSub, List.cons_append, List.nil_append, bin_eql, decide_true]
      exact ⟨_, _, gc_all, 0, true, rfl, rfl, .inl ⟨rfl, rfl, rfl⟩⟩
    dsimp only [m62]
    simp (maxSteps := 4000000) -implicitDefEqProofs -dsimp (disch := omega) only [↓AW_skip, ↓AW_ops, ↓AW_seq, ↓AW_cond, ↓AW_block, ↓AOps_nil, ↓AOps_pu, on_some, condB_f, ↓then_normal, pval, rd_S, rd_C, put_S, ↓AW_toLoop, cells_agg, List.replicate_succ, List.replicate_zero, List.set_cons_zero, List.set_cons_succ, List.getElem?_cons_zero, List.getElem?_cons_succ, Option.getD_some, Nat.reduceSub, List.cons_append, List.nil_append, bin_eql, decide_false, hab, hx.len]
    refine LoopK.by 44 (fun x : Nat × AV × AHeap => x.1 ≤ L.length ∧ AccL 1 e1 A x.2.2 x.2.1 (L.take x.1) ∧ ¬ Cn ((L.take x.1).map (rdx rs)) a b) (fun x => [(2, I a), (3, I b), (4, .agg [I P, u]), (10, x.2.1), (17, v), (18, I L.length), (19, I x.1)]) (fun x => x.2.2) (fun x => L.length - x.1) (0, .nilS, A) ⟨by simp only; omega, by rw [List.take_zero]; exact AccL.nil (List.prefix_refl _), by rw [List.take_zero]; exact fun h => hab h.nil⟩ rfl (by simp [Has, rd_s]) rfl ?_
    rintro ⟨i, y, H⟩ ⟨hi, hac, hnc⟩
    simp only at hi hac hnc
    have hxH := hx.mono hac.1
    by_cases hlt : i < L.length
    · obtain ⟨z, hz⟩ : ∃ z, L[i]? = some z := ⟨_, List.getElem?_eq_getElem hlt⟩
      have hlt' : (i : Int) < L.length := by omega
      obtain ⟨k0, k1⟩ := hk z (List.mem_of_getElem? hz)
      obtain ⟨hr, _⟩ := rdx_at k0 k1
      have htk : L.take (i + 1) = L.take i ++ [z] := by rw [List.take_add_one, hz]; rfl
      obtain ⟨v', H2, happ, hacc, _, n, len, rfl, _⟩ := AccL_push2 hac e1_len (by omega) z (by rw [List.length_take]; simp only [lim]; omega)
      rw [← htk] at hacc
      simp only [Go.Eng.e1] at happ
      simp (maxSteps := 4000000) -implicitDefEqProofs -dsimp (disch := omega) only [↓AW_skip, ↓AW_ops, ↓AW_seq, ↓AW_cond, ↓AW_block, ↓AOps_nil, ↓AOps_pu, ↓AOps_ld, ↓AOps_ha, ↓AOps_call, on_some, extK_false, extK_app, condB_t, ↓then_normal, pval, lval_ld, hval_blds, hval_app, rd_S, put_S, chkd, bgot, cells_int, splice, partA, fillA, repl, eq_self, mk, List.foldl_cons, List.foldl_nil, List.replicate_succ, List.replicate_zero, List.set_cons_zero, List.set_cons_succ, List.getElem?_cons_zero, List.getElem?_cons_succ, List.drop_zero, List.drop_succ_cons, List.drop_nil, List.take_zero, List.take_succ_cons, List.take_nil, Option.getD_some, map_c, map_n, List.length_cons, List.length_nil, Nat.reduceAdd, Nat.reduceLeDiff, Nat.reduceEqDiff, Nat.zero_add, List.nil_append, List.append_nil, bin_lss, if_true, if_false, Bool.false_eq_true, decide_true, Go.Eng.e1, and_true, hlt', hxH.idx hlt, hxH.ld0 hz 1 false (by decide), happ, List.replicate_zero, repl]
      refine CallK.of (s99 (hu.mono hacc.1) (AccL_ls hacc e1_len) hn (fun k hk2 => hk k (List.mem_of_mem_take hk2)) (by rw [List.length_take]; omega)) ?_
      have hpm := pre_app H2 [.mp (mI P (lab ((L.take (i + 1)).map (rdx rs))))]
      have hm := mp_new H2 (.mp (mI P (lab ((L.take (i + 1)).map (rdx rs)))))
      have hacm := hacc.mono hpm
      have hum := hu.mono hacm.1
      have hpA := hacm.1
      generalize H2 ++ [AObj.mp (mI P (lab ((L.take (i + 1)).map (rdx rs))))] = H3 at *
      have hri := hum.idxI (k := .i64) k0 (show z < (rs.length : Int) by omega)
      have hla := lkI' hm ha.1 ha.2
      have hlb := lkI' hm hb.1 hb.2
      by_cases hc : Cn ((L.take (i + 1)).map (rdx rs)) a b
      · have hq : lab ((L.take (i + 1)).map (rdx rs)) a = lab ((L.take (i + 1)).map (rdx rs)) b := (lab_eq_iff ha.1 hb.1).2 hc
        have hwe : (rdx rs z).2.2 = wct rs z := rfl
        simp (maxSteps := 4000000) -implicitDefEqProofs -dsimp (disch := omega) only [↓AW_ops, ↓AW_seq, ↓AW_cond, ↓AW_ret, ↓AOps_nil, ↓AOps_pu, ↓AOps_ld, on_some, extK_false, condB_t, ↓then_normal, ↓then_ret, ↓inBlock_ret, ↓FinR_ret, pval, lval_ld, lval_look, rd_S, rd_C, put_S, resV, resL, chkd, isAdr, bgot, cells_agg, partA, eq_self, mk, List.foldl_cons, List.foldl_nil, List.replicate_succ, List.replicate_zero, List.set_cons_zero, List.set_cons_succ, List.getElem?_cons_zero, List.getElem?_cons_succ, List.drop_zero, List.drop_succ_cons, List.take_succ_cons, List.take_nil, Option.getD_some, List.length_cons, List.length_nil, Nat.reduceAdd, Nat.reduceLeDiff, Nat.zero_add, bin_eql, if_true, if_false, Bool.false_eq_true, decide_true, hla, hlb, hq, hri, hum.ld hr 1 2 false (by decide), e3, hwe]
        exact ⟨_, _, gc_val hpA rfl, wct rs z, true, rfl, rfl, .inr (.inl ⟨hab, rfl, i, z, hz, rfl, hc, hnc⟩)⟩
      · have hq : ¬ lab ((L.take (i + 1)).map (rdx rs)) a = lab ((L.take (i + 1)).map (rdx rs)) b := fun e => hc ((lab_eq_iff ha.1 hb.1).1 e)
        simp (maxSteps := 4000000) -implicitDefEqProofs -dsimp (disch := omega) only [↓AW_skip, ↓AW_ops, ↓AW_seq, ↓AW_cond, ↓AOps_nil, ↓AOps_pu, ↓AOps_ld, on_some, extK_false, condB_f, ↓then_normal, ↓inBlock_normal, pval, lval_look, rd_S, rd_C, put_S, eq_self, mk, List.foldl_cons, List.foldl_nil, List.replicate_succ, List.replicate_zero, List.set_cons_zero, List.set_cons_succ, List.getElem?_cons_zero, List.getElem?_cons_succ, Option.getD_some, List.length_cons, List.length_nil, Nat.reduceAdd, Nat.zero_add, bin_add, bin_eql, w64, decide_false, true_and, hla, hlb, hq]
        exact ⟨(i + 1, .sl 1 n 0 len false, H3), ⟨hlt, hacm, hc⟩, by simp [Has, rd_s], rfl, by simp only; omega⟩
    · have hlt' : ¬ ((i : Int) < L.length) := by omega
      rw [List.take_of_length_le (by omega)] at hnc
      simp (maxSteps := 4000000) -implicitDefEqProofs -dsimp (disch := omega) only [↓AW_ops, ↓AW_seq, ↓AW_cond, ↓AW_exit, ↓AW_ret, ↓AOps_nil, ↓AOps_pu, on_some, condB_f, ↓then_normal, ↓then_exit, ↓inBlock_exit, ↓FinR_ret, pval, rd_S, rd_C, put_S, resV, resL, eq_self, mk, List.foldl_cons, List.foldl_nil, List.replicate_succ, List.replicate_zero, List.set_cons_zero, List.set_cons_succ, List.getElem?_cons_zero, List.getElem?_cons_succ, Option.getD_some, bin_lss, if_true, decide_false, hlt']
      exact ⟨_, _, gc_val hac.1 rfl, 0, false, rfl, rfl, .inr (.inr ⟨hab, rfl, rfl, hnc⟩)⟩
  obtain ⟨r, H', h1, c, ok, rfl, rfl, h2⟩ := key
  exact ⟨c, ok, h1, h2⟩
end
section
variable {Q : Int} {rs : List Rd} {ks : List Int} {u v : AV} {A : AHeap} {a b : Int}
/-- The error of a net and two places. -/
def pE (Q : Int) (rs : List Rd) (a b : Int) : Int := if vE Q rs = 0 then (if (0 ≤ a ∧ a ≤ Q - 1) ∧ (0 ≤ b ∧ b ≤ Q - 1) then 0 else 4) else vE Q rs
theorem pE_v (h : ¬ vE Q rs = 0) : pE Q rs a b = vE Q rs := by unfold pE; rw [if_neg h]
theorem pE_4 (h : vE Q rs = 0) (h2 : ¬ ((0 ≤ a ∧ a ≤ Q - 1) ∧ (0 ≤ b ∧ b ≤ Q - 1))) : pE Q rs a b = 4 := by unfold pE; rw [if_pos h, if_neg h2]
theorem pE_0 : pE Q rs a b = 0 ↔ Net Q rs ∧ (0 ≤ a ∧ a ≤ Q - 1) ∧ (0 ≤ b ∧ b ≤ Q - 1) := by
  rw [← vE_0]
  unfold pE
  constructor
  · intro h
    split at h
    · rename_i h1
      split at h
      · rename_i h2; exact ⟨h1, h2⟩
      · cases h
    · rename_i h1; exact absurd h h1
  · rintro ⟨h1, h2⟩
    rw [if_pos h1, if_pos h2]
theorem L1_two (A : AHeap) (x y : Int) : L1 (A ++ [.cells true [I x, I y]]) (.sl 1 A.length 0 2 true) [x, y] := ⟨e1_len, by simp [slCells, cellsAt, e1]⟩
theorem notOf_2 {c x y : Int} : notOf c [x, y] = true ↔ ¬ ((0 ≤ x ∧ x ≤ c - 1) ∧ (0 ≤ y ∧ y ≤ c - 1)) := by
  unfold notOf
  simp only [List.any_cons, List.any_nil, Bool.or_false, Bool.or_eq_true, Bool.not_eq_true', decide_eq_false_iff_not]
  omega
theorem s72 (hu : L3 A u rs) (hP : W Q) (a b : Int) : ACalls Try.prog 72 [.agg [I Q, u], I a, I b] A (I (pE Q rs a b)) A := by
  refine acalls hmix Try.func72 (by kernel_rfl) t72 3 rfl (by decide) ?_
  dsimp only [m72]
  simp (maxSteps := 4000000) -implicitDefEqProofs -dsimp (disch := omega) only [↓AW_ops, ↓AW_seq, ↓AOps_nil, ↓AOps_pu, ↓AOps_call, on_some, ↓then_normal, pval, rd_S, rd_C, put_S, chkd, bgot, AV.cells?, partA, eq_self, List.replicate_succ, List.replicate_zero, List.set_cons_zero, List.set_cons_succ, List.getElem?_cons_zero, List.getElem?_cons_succ, List.drop_zero, List.take_succ_cons, List.take_nil, Option.getD_some, map_c, map_n, List.length_cons, List.length_nil, Nat.reduceAdd, Nat.reduceSub, Nat.reduceLeDiff, Nat.reduceEqDiff, Nat.zero_add, List.cons_append, List.nil_append, if_true, if_false]
  refine CallK.of (s28 hu hP) ?_
  by_cases h0 : vE Q rs = 0
  · have hn := vE_0.1 h0
    have := hn.p1
    have := hn.p7
    simp (maxSteps := 4000000) -implicitDefEqProofs -dsimp (disch := omega) only [↓AW_skip, ↓AW_ops, ↓AW_seq, ↓AW_cond, ↓AOps_nil, ↓AOps_pu, ↓AOps_ha, ↓AOps_call, on_some, extK_app, extK_same, condB_f, ↓then_normal, pval, hval, rd_S, rd_C, put_S, chkd, isAdr, bgot, AV.cells?, splice, partA, fillA, repl, eq_self, List.replicate_succ, List.replicate_zero, List.set_cons_zero, List.set_cons_succ, List.getElem?_cons_zero, List.getElem?_cons_succ, List.drop_zero, List.drop_succ_cons, List.drop_nil, List.take_zero, List.take_succ_cons, Option.getD_some, map_c, map_n, List.length_cons, List.length_nil, Nat.reduceAdd, Nat.reduceSub, Nat.reduceLeDiff, Nat.zero_add, List.cons_append, List.nil_append, List.append_nil, bin_neq, if_true, if_false, Bool.false_eq_true, decide_false, and_true, not_true_eq_false, h0, List.replicate_zero, repl]
    refine CallK.of (s58 (L1_two A a b) (by simp) (c := Q) (by omega)) ?_
    by_cases h1 : notOf Q [a, b] = true
    · rw [if_pos h1, pE_4 h0 (notOf_2.1 h1)]
      simp (maxSteps := 4000000) -implicitDefEqProofs -dsimp (disch := omega) only [↓AW_ret, ↓AOps_nil, ↓AOps_pu, on_some, extK_same, ↓then_normal, ↓Fin_ret, pval, rd_S, put_S, resV, resL, List.replicate_succ, List.replicate_zero, List.set_cons_zero, List.set_cons_succ, List.getElem?_cons_zero, List.getElem?_cons_succ, Option.getD_some, Nat.reduceSub, List.cons_append, List.nil_append]
      exact gc_val (pre_app _ _) rfl
    · have h2 : (0 ≤ a ∧ a ≤ Q - 1) ∧ (0 ≤ b ∧ b ≤ Q - 1) := Classical.byContradiction (fun h => h1 (notOf_2.2 h))
      rw [if_neg h1, pE_0.2 ⟨hn, h2⟩]
      simp (maxSteps := 4000000) -implicitDefEqProofs -dsimp (disch := omega) only [↓AW_ret, ↓AOps_nil, ↓AOps_pu, on_some, extK_same, ↓then_normal, ↓Fin_ret, pval, rd_S, put_S, resV, resL, List.replicate_succ, List.replicate_zero, List.set_cons_zero, List.set_cons_succ, List.getElem?_cons_zero, List.getElem?_cons_succ, Option.getD_some, Nat.reduceSub, List.cons_append, List.nil_append]
      exact gc_val (pre_app _ _) rfl
  · rw [pE_v h0]
    simp (maxSteps := 4000000) -implicitDefEqProofs -dsimp (disch := omega) only [↓AW_ops, ↓AW_seq, ↓AW_cond, ↓AW_ret, ↓AOps_nil, ↓AOps_pu, on_some, extK_same, condB_t, ↓then_normal, ↓then_ret, ↓Fin_ret, pval, rd_S, rd_C, put_S, resV, resL, List.replicate_succ, List.replicate_zero, List.set_cons_zero, List.set_cons_succ, List.getElem?_cons_zero, List.getElem?_cons_succ, Option.getD_some, Nat.reduceSub, List.cons_append, List.nil_append, bin_neq, decide_true, not_false_eq_true, h0]
    exact gc_same rfl
theorem s77 (hu : L3 A u rs) (hP : W Q) (a b : Int) : ACalls Try.prog 77 [.agg [I Q, u], I a, I b] A (I (pE Q rs a b)) A := by
  refine acalls hmix Try.func77 (by kernel_rfl) t77 3 rfl (by decide) ?_
  dsimp only [m77]
  simp (maxSteps := 4000000) -implicitDefEqProofs -dsimp (disch := omega) only [↓AW_ops, ↓AW_seq, ↓AOps_nil, ↓AOps_pu, ↓AOps_call, on_some, ↓then_normal, pval, rd_S, rd_C, put_S, chkd, bgot, AV.cells?, partA, eq_self, List.replicate_succ, List.replicate_zero, List.set_cons_zero, List.set_cons_succ, List.getElem?_cons_zero, List.getElem?_cons_succ, List.drop_zero, List.take_succ_cons, List.take_nil, Option.getD_some, map_c, map_n, List.length_cons, List.length_nil, Nat.reduceAdd, Nat.reduceSub, Nat.reduceLeDiff, Nat.reduceEqDiff, Nat.zero_add, List.cons_append, List.nil_append, if_true, if_false]
  refine CallK.of (s22 hu hP) ?_
  by_cases h0 : vE Q rs = 0
  case neg =>
    rw [pE_v h0]
    simp (maxSteps := 4000000) -implicitDefEqProofs -dsimp (disch := omega) only [↓AW_ops, ↓AW_seq, ↓AW_cond, ↓AW_ret, ↓AOps_nil, ↓AOps_pu, on_some, extK_same, condB_t, ↓then_normal, ↓then_ret, ↓Fin_ret, pval, rd_S, rd_C, put_S, resV, resL, List.replicate_succ, List.replicate_zero, List.set_cons_zero, List.set_cons_succ, List.getElem?_cons_zero, List.getElem?_cons_succ, Option.getD_some, Nat.reduceSub, List.cons_append, List.nil_append, bin_neq, decide_true, not_false_eq_true, h0]
    exact gc_same rfl
  have hn := vE_0.1 h0
  have := hn.p1
  have := hn.p7
  simp (maxSteps := 4000000) -implicitDefEqProofs -dsimp (disch := omega) only [↓AW_skip, ↓AW_ops, ↓AW_seq, ↓AW_cond, ↓AOps_nil, ↓AOps_pu, ↓AOps_call, on_some, extK_same, condB_f, ↓then_normal, pval, rd_S, rd_C, put_S, chkd, isAdr, bgot, AV.cells?, partA, eq_self, List.replicate_succ, List.replicate_zero, List.set_cons_zero, List.set_cons_succ, List.getElem?_cons_zero, List.getElem?_cons_succ, List.drop_zero, List.take_zero, List.take_succ_cons, Option.getD_some, map_c, map_n, List.length_cons, List.length_nil, Nat.reduceAdd, Nat.reduceSub, Nat.reduceLeDiff, Nat.zero_add, List.cons_append, List.nil_append, bin_sub, bin_neq, w64, if_true, if_false, Bool.false_eq_true, decide_false, not_true_eq_false, h0]
  refine CallK.of (c_wi _ _ _ _) ?_
  by_cases h1 : 0 ≤ a ∧ a ≤ Q - 1
  case neg =>
    rw [pE_4 h0 (fun hh => h1 hh.1)]
    simp (maxSteps := 4000000) -implicitDefEqProofs -dsimp (disch := omega) only [↓AW_ops, ↓AW_seq, ↓AW_cond, ↓AW_ret, ↓AOps_nil, ↓AOps_pu, ↓AOps_guard, on_some, extK_same, guardB_tf, skipS_some, condB_t, ↓then_normal, ↓then_ret, ↓Fin_ret, pval, rd_S, rd_C, put_S, resV, resL, eq_self, List.replicate_succ, List.replicate_zero, List.set_cons_zero, List.set_cons_succ, List.getElem?_cons_zero, List.getElem?_cons_succ, Option.getD_some, Nat.reduceSub, List.cons_append, List.nil_append, if_true, Bool.not_false, decide_false, h1]
    exact gc_same rfl
  simp (maxSteps := 4000000) -implicitDefEqProofs -dsimp (disch := omega) only [↓AOps_pu, ↓AOps_call, ↓AOps_guard, on_some, extK_same, guardB_ff, pval, rd_S, rd_C, put_S, chkd, isAdr, bgot, AV.cells?, partA, eq_self, List.replicate_succ, List.replicate_zero, List.set_cons_zero, List.set_cons_succ, List.getElem?_cons_zero, List.getElem?_cons_succ, List.drop_zero, List.take_zero, List.take_succ_cons, Option.getD_some, map_c, map_n, List.length_cons, List.length_nil, Nat.reduceAdd, Nat.reduceSub, Nat.reduceLeDiff, Nat.zero_add, List.cons_append, List.nil_append, bin_sub, w64, if_true, if_false, Bool.false_eq_true, Bool.not_true, decide_true, and_true, h1]
  refine CallK.of (c_wi _ _ _ _) ?_
  by_cases h2 : 0 ≤ b ∧ b ≤ Q - 1
  case neg =>
    rw [pE_4 h0 (fun hh => h2 hh.2)]
    simp (maxSteps := 4000000) -implicitDefEqProofs -dsimp (disch := omega) only [↓AW_ops, ↓AW_seq, ↓AW_cond, ↓AW_ret, ↓AOps_nil, ↓AOps_pu, ↓AOps_guard, on_some, extK_same, guardB_ff, condB_t, ↓then_normal, ↓then_ret, ↓Fin_ret, pval, rd_S, rd_C, put_S, resV, resL, List.replicate_succ, List.replicate_zero, List.set_cons_zero, List.set_cons_succ, List.getElem?_cons_zero, List.getElem?_cons_succ, Option.getD_some, Nat.reduceSub, List.cons_append, List.nil_append, if_false, Bool.false_eq_true, Bool.not_false, decide_false, h2]
    exact gc_same rfl
  rw [pE_0.2 ⟨hn, h1, h2⟩]
  simp (maxSteps := 4000000) -implicitDefEqProofs -dsimp (disch := omega) only [↓AW_skip, ↓AW_ops, ↓AW_seq, ↓AW_cond, ↓AW_ret, ↓AOps_nil, ↓AOps_pu, ↓AOps_guard, on_some, extK_same, guardB_ff, condB_f, ↓then_normal, ↓Fin_ret, pval, rd_S, rd_C, put_S, resV, resL, List.replicate_succ, List.replicate_zero, List.set_cons_zero, List.set_cons_succ, List.getElem?_cons_zero, List.getElem?_cons_succ, Option.getD_some, Nat.reduceSub, List.cons_append, List.nil_append, if_false, Bool.false_eq_true, Bool.not_true, decide_true, and_true, h2]
  exact gc_same rfl
/-- The smallest worst of a way: the cost, whether there is one, the error. -/
noncomputable def wC (Q : Int) (rs : List Rd) (a b : Int) : Int := if pE Q rs a b = 0 then (bt rs (nums rs) a b).getD 0 else 0
noncomputable def wB (Q : Int) (rs : List Rd) (a b : Int) : Bool := decide (pE Q rs a b = 0) && (bt rs (nums rs) a b).isSome
theorem s25 (hu : L3 A u rs) (hP : W Q) (a b : Int) : ACalls Try.prog 25 [.agg [I Q, u], I a, I b] A (.tuple [I (wC Q rs a b), B (wB Q rs a b), I (pE Q rs a b)]) A := by
  refine acalls hmix Try.func25 (by kernel_rfl) t25 3 rfl (by decide) ?_
  dsimp only [m25]
  simp (maxSteps := 4000000) -implicitDefEqProofs -dsimp (disch := omega) only [↓AW_ops, ↓AW_seq, ↓AOps_nil, ↓AOps_pu, ↓AOps_call, on_some, ↓then_normal, pval, rd_S, rd_C, put_S, chkd, bgot, AV.cells?, partA, eq_self, List.replicate_succ, List.replicate_zero, List.set_cons_zero, List.set_cons_succ, List.getElem?_cons_zero, List.getElem?_cons_succ, List.drop_zero, List.take_succ_cons, List.take_nil, Option.getD_some, map_c, map_n, List.length_cons, List.length_nil, Nat.reduceAdd, Nat.reduceSub, Nat.reduceLeDiff, Nat.reduceEqDiff, Nat.zero_add, List.cons_append, List.nil_append, if_true, if_false]
  refine CallK.of (s72 hu hP a b) ?_
  by_cases h0 : pE Q rs a b = 0
  · obtain ⟨hn, ha, hb⟩ := pE_0.1 h0
    obtain ⟨P, rfl⟩ := hn.nat
    have hl14 := hn.l
    have e1 : wC P rs a b = (bt rs (nums rs) a b).getD 0 := if_pos h0
    have e2 : wB P rs a b = (bt rs (nums rs) a b).isSome := by unfold wB; rw [decide_eq_true h0, Bool.true_and]
    rw [e1, e2, h0]
    simp (maxSteps := 4000000) -implicitDefEqProofs -dsimp (disch := omega) only [↓AW_skip, ↓AW_ops, ↓AW_seq, ↓AW_cond, ↓AOps_nil, ↓AOps_pu, ↓AOps_call, on_some, extK_same, condB_f, ↓then_normal, pval, rd_S, rd_C, put_S, chkd, bgot, partA, eq_self, List.replicate_succ, List.replicate_zero, List.set_cons_zero, List.set_cons_succ, List.getElem?_cons_zero, List.getElem?_cons_succ, List.drop_zero, List.take_succ_cons, List.take_nil, Option.getD_some, map_c, map_n, List.length_cons, List.length_nil, Nat.reduceAdd, Nat.reduceSub, Nat.reduceLeDiff, Nat.reduceEqDiff, Nat.zero_add, List.cons_append, List.nil_append, bin_neq, if_true, if_false, decide_false, not_true_eq_false]
    obtain ⟨r1, H1, c1, p1, L, hL, hO⟩ := c_all hu hn
    refine CallK.of c1 ?_
    simp (maxSteps := 4000000) -implicitDefEqProofs -dsimp (disch := omega) only [↓AOps_pu, ↓AOps_call, on_some, extK_false, pval, rd_S, put_S, List.replicate_succ, List.replicate_zero, List.set_cons_zero, List.set_cons_succ, List.getElem?_cons_zero, List.getElem?_cons_succ, Option.getD_some, map_c, map_n, Nat.reduceSub, List.cons_append, List.nil_append]
    obtain ⟨c, ok, c2, hLS⟩ := c_least (hu.mono p1) hL hn hO.nos (by rw [hO.len]; omega) (a := a) (b := b) (by omega) (by omega)
    refine CallK.of c2 ?_
    obtain ⟨hbt, hok⟩ := LS_bt (M := nums rs) hO.s (fun k => hO.p.mem_iff) (fun k hk => hn.wb (hO.nos k hk).1 (hO.nos k hk).2) hLS
    rw [hbt]
    cases ok with
    | true =>
      simp (maxSteps := 4000000) -implicitDefEqProofs -dsimp (disch := omega) only [↓AW_ops, ↓AW_seq, ↓AW_ret, ↓AOps_nil, ↓AOps_pu, on_some, extK_same, ↓then_normal, ↓Fin_ret, pval, rd_S, rd_C, put_S, resV, resL, eq_self, List.replicate_succ, List.replicate_zero, List.set_cons_zero, List.set_cons_succ, List.getElem?_cons_zero, List.getElem?_cons_succ, Option.getD_some, Nat.reduceSub, List.cons_append, List.nil_append, if_true, Option.isSome_some]
      exact gc_val p1 rfl
    | false =>
      rw [hok rfl]
      simp (maxSteps := 4000000) -implicitDefEqProofs -dsimp (disch := omega) only [↓AW_ops, ↓AW_seq, ↓AW_ret, ↓AOps_nil, ↓AOps_pu, on_some, extK_same, ↓then_normal, ↓Fin_ret, pval, rd_S, rd_C, put_S, resV, resL, List.replicate_succ, List.replicate_zero, List.set_cons_zero, List.set_cons_succ, List.getElem?_cons_zero, List.getElem?_cons_succ, Option.getD_some, Nat.reduceSub, List.cons_append, List.nil_append, if_false, Bool.false_eq_true, Option.isSome_none, Option.getD_none]
      exact gc_val p1 rfl
  · have e1 : wC Q rs a b = 0 := if_neg h0
    have e2 : wB Q rs a b = false := by unfold wB; rw [decide_eq_false h0, Bool.false_and]
    rw [e1, e2]
    simp (maxSteps := 4000000) -implicitDefEqProofs -dsimp (disch := omega) only [↓AW_ops, ↓AW_seq, ↓AW_cond, ↓AW_ret, ↓AOps_nil, ↓AOps_pu, on_some, extK_same, condB_t, ↓then_normal, ↓then_ret, ↓Fin_ret, pval, rd_S, rd_C, put_S, resV, resL, List.replicate_succ, List.replicate_zero, List.set_cons_zero, List.set_cons_succ, List.getElem?_cons_zero, List.getElem?_cons_succ, Option.getD_some, Nat.reduceSub, List.cons_append, List.nil_append, bin_neq, decide_true, not_false_eq_true, h0]
    exact gc_same rfl
end
end Go.Proofs.Ytkgfcdpckfhknaa

namespace Go.Proofs.Ytkgfcdpckfhknaa
open Go Go.Eng
/-- selion/selionlaw04.RoadRanges [] -/
def m3 : MFun := ⟨44, [2], [.mov (.s 4)],
 .seq (.ops [⟨(some 2), some (.junk), none, false, .pu (.bnew (.s 0))⟩,
   ⟨(some 4), some undefA, none, false, .pu (.mov (.c (.bool false)))⟩])
 (.seq (.seq (.ops [⟨(some 11), some undefA, none, false, .pu (.bget none 2 0 2 true)⟩,
   ⟨(some 12), some undefA, none, false, .call 17 [(.s 11)]⟩])
 (.cond (.s 12) (.seq (.ops [⟨(some 13), some undefA, none, false, .call 18 []⟩,
    ⟨(some 4), some undefA, none, false, .pu (.mov (.s 13))⟩])
  (.ret))
 (.skip)))
 (.seq (.ops [⟨(some 15), some undefA, none, false, .pu (.bget none 2 0 2 true)⟩,
   ⟨(some 16), some undefA, none, false, .pu (.mov (.s 1))⟩,
   ⟨(some 17), some undefA, none, false, .call 19 [(.s 15), (.s 16)]⟩,
   ⟨(some 14), some undefA, none, false, .pu (.mov (.s 17))⟩,
   ⟨(some 18), some undefA, none, false, .pu (.extr 0 (.s 14))⟩,
   ⟨(some 19), some undefA, none, false, .pu (.extr 1 (.s 14))⟩,
   ⟨(some 20), some undefA, none, false, .pu (.extr 2 (.s 14))⟩,
   ⟨(some 5), some undefA, none, false, .pu (.mov (.s 18))⟩,
   ⟨(some 6), some undefA, none, false, .pu (.mov (.s 19))⟩,
   ⟨(some 7), some undefA, none, false, .pu (.mov (.s 20))⟩])
 (.seq (.ops [⟨(some 22), some undefA, none, false, .pu (.bget none 2 0 2 true)⟩,
   ⟨(some 23), some undefA, none, false, .pu (.mov (.s 1))⟩,
   ⟨(some 24), some undefA, none, false, .call 20 [(.s 22), (.s 23)]⟩,
   ⟨(some 21), some undefA, none, false, .pu (.mov (.s 24))⟩,
   ⟨(some 25), some undefA, none, false, .pu (.extr 0 (.s 21))⟩,
   ⟨(some 26), some undefA, none, false, .pu (.extr 1 (.s 21))⟩,
   ⟨(some 27), some undefA, none, false, .pu (.extr 2 (.s 21))⟩,
   ⟨(some 8), some undefA, none, false, .pu (.mov (.s 25))⟩,
   ⟨(some 9), some undefA, none, false, .pu (.mov (.s 26))⟩,
   ⟨(some 10), some undefA, none, false, .pu (.mov (.s 27))⟩])
 (.seq (.ops [⟨(some 28), some undefA, none, false, .pu (.mov (.s 5))⟩,
   ⟨(some 29), some undefA, none, false, .pu (.mov (.s 8))⟩,
   ⟨(some 30), some undefA, none, false, .pu (.bin .eql (.s 28) (.s 29))⟩,
   ⟨(some 31), some undefA, none, false, .pu (.mov (.s 30))⟩,
   ⟨(some 32), some undefA, (some (31, true)), false, .pu (.mov (.s 6))⟩,
   ⟨(some 33), some undefA, (some (31, true)), false, .pu (.mov (.s 9))⟩,
   ⟨(some 34), some undefA, (some (31, true)), false, .pu (.eqb false (.s 32) (.s 33))⟩,
   ⟨(some 35), some undefA, none, false, .pu (.pick (.s 31) (.s 34) (.c (.bool false)))⟩,
   ⟨(some 36), some undefA, none, false, .pu (.mov (.s 35))⟩,
   ⟨(some 37), some undefA, (some (36, true)), false, .pu (.mov (.s 7))⟩,
   ⟨(some 38), some undefA, (some (36, true)), false, .pu (.mov (.s 10))⟩,
   ⟨(some 39), some undefA, (some (36, true)), false, .pu (.bin .eql (.s 37) (.s 38))⟩,
   ⟨(some 40), some undefA, none, false, .pu (.pick (.s 36) (.s 39) (.c (.bool false)))⟩,
   ⟨(some 41), some undefA, none, false, .pu (.mov (.s 40))⟩,
   ⟨(some 42), some undefA, (some (41, true)), false, .call 18 []⟩,
   ⟨(some 43), some undefA, none, false, .pu (.pick (.s 41) (.s 42) (.c (.bool false)))⟩,
   ⟨(some 4), some undefA, none, false, .pu (.mov (.s 43))⟩])
 (.ret)))))⟩
/-- selion/selionlaw04.RoadWalls [] -/
def m10 : MFun := ⟨71, [3, 4, 5], [.mov (.s 6)],
 .seq (.ops [⟨(some 3), some (.junk), none, false, .pu (.bnew (.s 0))⟩,
   ⟨(some 4), some (.junk), none, false, .pu (.bnew (.s 1))⟩,
   ⟨(some 5), some (.junk), none, false, .pu (.bnew (.s 2))⟩,
   ⟨(some 6), some undefA, none, false, .pu (.mov (.c (.bool false)))⟩])
 (.seq (.seq (.ops [⟨(some 11), some undefA, none, false, .pu (.bget none 3 0 2 true)⟩,
   ⟨(some 12), some undefA, none, false, .call 17 [(.s 11)]⟩,
   ⟨(some 13), some undefA, none, false, .pu (.mov (.s 12))⟩,
   ⟨(some 14), some undefA, (some (13, false)), false, .pu (.badr none 5)⟩,
   ⟨(some 15), some undefA, (some (13, false)), false, .pu (.bget (some 14) 5 1 1 false)⟩,
   ⟨(some 16), some undefA, (some (13, false)), false, .pu (.len (.s 15))⟩,
   ⟨(some 17), some undefA, (some (13, false)), false, .pu (.bin .gtr (.s 16) (.c (.int .i64 100)))⟩,
   ⟨(some 18), some undefA, none, false, .pu (.pick (.s 13) (.c (.bool true)) (.s 17))⟩])
 (.cond (.s 18) (.seq (.ops [⟨(some 19), some undefA, none, false, .call 18 []⟩,
    ⟨(some 6), some undefA, none, false, .pu (.mov (.s 19))⟩])
  (.ret))
 (.skip)))
 (.seq (.ops [⟨(some 20), some undefA, none, false, .pu (.bget none 3 0 2 true)⟩,
   ⟨(some 21), some undefA, none, false, .pu (.badr none 4)⟩,
   ⟨(some 22), some undefA, none, false, .pu (.bget (some 21) 4 0 1 false)⟩,
   ⟨(some 23), some undefA, none, false, .pu (.badr none 4)⟩,
   ⟨(some 24), some undefA, none, false, .pu (.bget (some 23) 4 1 1 false)⟩,
   ⟨(some 25), some undefA, none, false, .pu (.badr none 5)⟩,
   ⟨(some 26), some undefA, none, false, .pu (.bget (some 25) 5 0 1 false)⟩,
   ⟨(some 27), some undefA, none, false, .pu (.badr none 5)⟩,
   ⟨(some 28), some undefA, none, false, .pu (.bget (some 27) 5 1 1 false)⟩,
   ⟨(some 29), some undefA, none, false, .call 37 [(.s 20), (.s 22), (.s 24), (.s 26), (.s 28)]⟩,
   ⟨(some 7), some undefA, none, false, .pu (.mov (.s 29))⟩])
 (.seq (.seq (.ops [⟨(some 30), some undefA, none, false, .pu (.mov (.s 7))⟩,
   ⟨(some 31), some undefA, none, false, .pu (.bget none 3 0 2 true)⟩,
   ⟨(some 32), some undefA, none, false, .pu (.badr none 4)⟩,
   ⟨(some 33), some undefA, none, false, .pu (.bget (some 32) 4 0 1 false)⟩,
   ⟨(some 34), some undefA, none, false, .pu (.badr none 4)⟩,
   ⟨(some 35), some undefA, none, false, .pu (.bget (some 34) 4 1 1 false)⟩,
   ⟨(some 36), some undefA, none, false, .pu (.badr none 5)⟩,
   ⟨(some 37), some undefA, none, false, .pu (.bget (some 36) 5 0 1 false)⟩,
   ⟨(some 38), some undefA, none, false, .pu (.badr none 5)⟩,
   ⟨(some 39), some undefA, none, false, .pu (.bget (some 38) 5 1 1 false)⟩,
   ⟨(some 40), some undefA, none, false, .call 38 [(.s 31), (.s 33), (.s 35), (.s 37), (.s 39)]⟩,
   ⟨(some 41), some undefA, none, false, .pu (.bin .neq (.s 30) (.s 40))⟩])
 (.cond (.s 41) (.seq (.ops [⟨(some 6), some undefA, none, false, .pu (.mov (.c (.bool false)))⟩])
  (.ret))
 (.skip)))
 (.seq (.ops [⟨(some 43), some undefA, none, false, .pu (.bget none 3 0 2 true)⟩,
   ⟨(some 44), some undefA, none, false, .pu (.badr none 4)⟩,
   ⟨(some 45), some undefA, none, false, .pu (.bget (some 44) 4 0 1 false)⟩,
   ⟨(some 46), some undefA, none, false, .pu (.badr none 4)⟩,
   ⟨(some 47), some undefA, none, false, .pu (.bget (some 46) 4 1 1 false)⟩,
   ⟨(some 48), some undefA, none, false, .call 25 [(.s 43), (.s 45), (.s 47)]⟩,
   ⟨(some 42), some undefA, none, false, .pu (.mov (.s 48))⟩,
   ⟨(some 49), some undefA, none, false, .pu (.extr 0 (.s 42))⟩,
   ⟨(some 50), some undefA, none, false, .pu (.extr 1 (.s 42))⟩,
   ⟨(some 51), some undefA, none, false, .pu (.extr 2 (.s 42))⟩,
   ⟨(some 8), some undefA, none, false, .pu (.mov (.s 49))⟩,
   ⟨(some 9), some undefA, none, false, .pu (.mov (.s 50))⟩,
   ⟨(some 10), some undefA, none, false, .pu (.mov (.s 51))⟩])
 (.seq (.ops [⟨(some 52), some undefA, none, false, .pu (.mov (.s 7))⟩,
   ⟨(some 53), some undefA, none, false, .pu (.bin .neq (.s 52) (.c (.int .i64 0)))⟩,
   ⟨(some 54), some undefA, none, false, .pu (.mov (.s 53))⟩,
   ⟨(some 55), some undefA, (some (54, false)), false, .pu (.mov (.s 10))⟩,
   ⟨(some 56), some undefA, (some (54, false)), false, .pu (.bin .eql (.s 55) (.c (.int .i64 0)))⟩,
   ⟨(some 57), some undefA, (some (54, false)), false, .pu (.mov (.s 56))⟩,
   ⟨(some 58), some undefA, (some (57, true)), false, .pu (.mov (.s 9))⟩,
   ⟨(some 59), some undefA, (some (57, true)), false, .pu (.not (.s 58))⟩,
   ⟨(some 60), some undefA, (some (57, true)), false, .pu (.mov (.s 59))⟩,
   ⟨(some 61), some undefA, (some (60, false)), false, .pu (.mov (.s 8))⟩,
   ⟨(some 62), some undefA, (some (60, false)), false, .pu (.badr none 5)⟩,
   ⟨(some 63), some undefA, (some (60, false)), false, .pu (.bget (some 62) 5 0 1 false)⟩,
   ⟨(some 64), some undefA, (some (60, false)), false, .pu (.bin .gtr (.s 61) (.s 63))⟩,
   ⟨(some 65), some undefA, (some (57, true)), false, .pu (.pick (.s 60) (.c (.bool true)) (.s 64))⟩,
   ⟨(some 66), some undefA, (some (54, false)), false, .pu (.pick (.s 57) (.s 65) (.c (.bool false)))⟩,
   ⟨(some 67), some undefA, none, false, .pu (.pick (.s 54) (.c (.bool true)) (.s 66))⟩,
   ⟨(some 68), some undefA, none, false, .pu (.mov (.s 67))⟩,
   ⟨(some 69), some undefA, (some (68, true)), false, .call 18 []⟩,
   ⟨(some 70), some undefA, none, false, .pu (.pick (.s 68) (.s 69) (.c (.bool false)))⟩,
   ⟨(some 6), some undefA, none, false, .pu (.mov (.s 70))⟩])
 (.ret))))))⟩
theorem t10 : trF Try.prog [3, 4, 5] [] Try.f10 = some m10 := by kernel_rfl
end Go.Proofs.Ytkgfcdpckfhknaa

namespace Go.Proofs.Ytkgfcdpckfhknaa
open Go Go.Eng
/-- One road on a way. -/
def stp (rs : List Rd) (p : Int × Int) (k : Int) : Option (Int × Int) :=
  if p.1 = (rdx rs k).1 then some ((rdx rs k).2.1, max p.2 (wct rs k)) else if p.1 = (rdx rs k).2.1 then some ((rdx rs k).1, max p.2 (wct rs k)) else none
/-- A way from a place: where it ends, and its worst. -/
def wk (rs : List Rd) (p : Int × Int) : List Int → Option (Int × Int)
  | [] => some p
  | k :: ks => match stp rs p k with
    | some q => wk rs q ks
    | none => none
section
variable {Q : Int} {rs : List Rd} {ks : List Int} {u v : AV} {A : AHeap} {a b : Int}
end
end Go.Proofs.Ytkgfcdpckfhknaa

namespace Go.Proofs.Ytkgfcdpckfhknaa
open Go Go.Eng
theorem bq1 : ((true : Bool) == false) = false := rfl
theorem bq2 : ((false : Bool) == true) = false := rfl
section
variable {Q : Int} {rs : List Rd} {ks : List Int} {u v : AV} {A : AHeap} {a b : Int}
/-- A road crosses a set's border, and costs no more. -/
def xR (ks : List Int) (c : Int) (r : Rd) : Prop := ¬ (decide (r.1 ∈ ks) = decide (r.2.1 ∈ ks)) ∧ r.2.2 ≤ c
instance xRdec (ks : List Int) (c : Int) (r : Rd) : Decidable (xR ks c r) := by unfold xR; infer_instance
/-- Why a set is no wall. -/
def xE (Q : Int) (rs : List Rd) (a b c : Int) (ks : List Int) : Int :=
  if pE Q rs a b = 0 then (if okS Q ks ∧ 0 ≤ c ∧ c ≤ 99 then (if a ∈ ks ∧ b ∉ ks then (if ∀ r ∈ rs, ¬ xR ks c r then 0 else 7) else 7) else 1) else pE Q rs a b
theorem xE_p {c : Int} (h : ¬ pE Q rs a b = 0) : xE Q rs a b c ks = pE Q rs a b := by unfold xE; rw [if_neg h]
theorem xE_1 {c : Int} (h : pE Q rs a b = 0) (h2 : ¬ (okS Q ks ∧ 0 ≤ c ∧ c ≤ 99)) : xE Q rs a b c ks = 1 := by unfold xE; rw [if_pos h, if_neg h2]
theorem xE_7 {c : Int} (h : pE Q rs a b = 0) (h2 : okS Q ks ∧ 0 ≤ c ∧ c ≤ 99) (h3 : ¬ (a ∈ ks ∧ b ∉ ks)) : xE Q rs a b c ks = 7 := by unfold xE; rw [if_pos h, if_pos h2, if_neg h3]
theorem xE_r {c : Int} (h : pE Q rs a b = 0) (h2 : okS Q ks ∧ 0 ≤ c ∧ c ≤ 99) (h3 : a ∈ ks ∧ b ∉ ks) (h4 : ¬ ∀ r ∈ rs, ¬ xR ks c r) : xE Q rs a b c ks = 7 := by unfold xE; rw [if_pos h, if_pos h2, if_pos h3, if_neg h4]
theorem xE_0 {c : Int} : xE Q rs a b c ks = 0 ↔ pE Q rs a b = 0 ∧ (okS Q ks ∧ 0 ≤ c ∧ c ≤ 99) ∧ (a ∈ ks ∧ b ∉ ks) ∧ ∀ r ∈ rs, ¬ xR ks c r := by
  constructor
  · intro h
    have h1 : pE Q rs a b = 0 := Classical.byContradiction (fun hn => by rw [xE_p hn] at h; exact hn h)
    have h2 : okS Q ks ∧ 0 ≤ c ∧ c ≤ 99 := Classical.byContradiction (fun hn => by rw [xE_1 h1 hn] at h; cases h)
    have h3 : a ∈ ks ∧ b ∉ ks := Classical.byContradiction (fun hn => by rw [xE_7 h1 h2 hn] at h; cases h)
    exact ⟨h1, h2, h3, Classical.byContradiction (fun hn => by rw [xE_r h1 h2 h3 hn] at h; cases h)⟩
  · rintro ⟨h1, h2, h3, h4⟩
    unfold xE
    rw [if_pos h1, if_pos h2, if_pos h3, if_pos h4]
theorem orE_2 (x y : Int) (hx : x = 0 ∨ x = 1) (hy : y = 0 ∨ y = 1) : orE [x, y] = if x = 0 ∧ y = 0 then 0 else 1 := by
  unfold orE orE orE
  rcases hx with rfl | rfl <;> rcases hy with rfl | rfl <;> simp
set_option maxRecDepth 20000 in
set_option maxHeartbeats 8000000 in
theorem s37 (hu : L3 A u rs) (hP : W Q) (hx : L1 A v ks) (hl : ks.length ≤ 1000000) (a b c : Int) : ACalls Try.prog 37 [.agg [I Q, u], I a, I b, I c, v] A (I (xE Q rs a b c ks)) A := by
  refine acalls hmix Try.func37 (by kernel_rfl) t37 5 rfl (by decide) ?_
  dsimp only [m37]
  simp (maxSteps := 4000000) -implicitDefEqProofs -dsimp (disch := omega) only [↓AW_ops, ↓AW_seq, ↓AOps_nil, ↓AOps_pu, ↓AOps_call, on_some, ↓then_normal, pval, rd_S, rd_C, put_S, chkd, bgot, AV.cells?, partA, eq_self, List.replicate_succ, List.replicate_zero, List.set_cons_zero, List.set_cons_succ, List.getElem?_cons_zero, List.getElem?_cons_succ, List.drop_zero, List.take_succ_cons, List.take_nil, Option.getD_some, map_c, map_n, List.length_cons, List.length_nil, Nat.reduceAdd, Nat.reduceSub, Nat.reduceLeDiff, Nat.reduceEqDiff, Nat.zero_add, List.cons_append, List.nil_append, if_true, if_false]
  refine CallK.of (s72 hu hP a b) ?_
  by_cases h0 : pE Q rs a b = 0
  case neg =>
    rw [xE_p h0]
    simp (maxSteps := 4000000) -implicitDefEqProofs -dsimp (disch := omega) only [↓AW_ops, ↓AW_seq, ↓AW_cond, ↓AW_ret, ↓AOps_nil, ↓AOps_pu, on_some, extK_same, condB_t, ↓then_normal, ↓then_ret, ↓Fin_ret, pval, rd_S, rd_C, put_S, resV, resL, List.replicate_succ, List.replicate_zero, List.set_cons_zero, List.set_cons_succ, List.getElem?_cons_zero, List.getElem?_cons_succ, Option.getD_some, Nat.reduceSub, List.cons_append, List.nil_append, bin_neq, decide_true, not_false_eq_true, h0]
    exact gc_same rfl
  have hn := (pE_0.1 h0).1
  have hp1 := hn.p1
  have hp7 := hn.p7
  have hl14 := hn.l
  simp (maxSteps := 4000000) -implicitDefEqProofs -dsimp (disch := omega) only [↓AW_skip, ↓AW_ops, ↓AW_seq, ↓AW_cond, ↓AOps_nil, ↓AOps_pu, ↓AOps_call, on_some, extK_same, condB_f, ↓then_normal, pval, rd_S, rd_C, put_S, chkd, isAdr, bgot, AV.cells?, partA, eq_self, List.replicate_succ, List.replicate_zero, List.set_cons_zero, List.set_cons_succ, List.getElem?_cons_zero, List.getElem?_cons_succ, List.drop_zero, List.take_zero, List.take_succ_cons, Option.getD_some, map_c, map_n, List.length_cons, List.length_nil, Nat.reduceAdd, Nat.reduceSub, Nat.reduceLeDiff, Nat.zero_add, List.cons_append, List.nil_append, bin_neq, if_true, if_false, Bool.false_eq_true, decide_false, not_true_eq_false, h0]
  refine CallK.of (s73 hx hl (b := Q) (by omega)) ?_
  simp (maxSteps := 4000000) -implicitDefEqProofs -dsimp (disch := omega) only [↓AOps_pu, ↓AOps_call, on_some, extK_same, pval, rd_S, put_S, List.replicate_succ, List.replicate_zero, List.set_cons_zero, List.set_cons_succ, List.getElem?_cons_zero, List.getElem?_cons_succ, Option.getD_some, map_c, map_n, Nat.reduceSub, List.cons_append, List.nil_append]
  refine CallK.of (s83 c A) ?_
  simp (maxSteps := 4000000) -implicitDefEqProofs -dsimp (disch := omega) only [↓AOps_ha, ↓AOps_call, on_some, extK_app, extK_same, hval, rd_S, put_S, AV.cells?, splice, fillA, repl, eq_self, List.replicate_succ, List.replicate_zero, List.set_cons_zero, List.set_cons_succ, List.getElem?_cons_zero, List.getElem?_cons_succ, List.drop_zero, List.drop_succ_cons, List.drop_nil, List.take_zero, List.take_succ_cons, Option.getD_some, map_c, map_n, List.length_cons, List.length_nil, Nat.reduceAdd, Nat.reduceSub, Nat.reduceLeDiff, Nat.zero_add, List.cons_append, List.nil_append, List.append_nil, if_true, and_true, List.replicate_zero, repl]
  refine CallK.of (s57 (L1_two A _ _) (by simp)) ?_
  rw [orE_2 _ _ (by split <;> simp) (by split <;> simp)]
  have hpA := pre_app A [AObj.cells true [I (if okS Q ks then 0 else 1), I (if 0 ≤ c ∧ c ≤ 99 then 0 else 1)]]
  have hxA := hx.mono hpA
  have huA := hu.mono hpA
  generalize A ++ [AObj.cells true [I (if okS Q ks then 0 else 1), I (if 0 ≤ c ∧ c ≤ 99 then 0 else 1)]] = A1 at *
  by_cases h1 : okS Q ks ∧ 0 ≤ c ∧ c ≤ 99
  case neg =>
    have : ¬ ((if okS Q ks then (0 : Int) else 1) = 0 ∧ (if 0 ≤ c ∧ c ≤ 99 then (0 : Int) else 1) = 0) := by
      rintro ⟨g1, g2⟩
      refine h1 ⟨?_, ?_⟩
      · exact Classical.byContradiction (fun hh => by rw [if_neg hh] at g1; cases g1)
      · exact Classical.byContradiction (fun hh => by rw [if_neg hh] at g2; cases g2)
    rw [if_neg this, xE_1 h0 h1]
    simp (maxSteps := 4000000) -implicitDefEqProofs -dsimp (disch := omega) only [↓AW_ops, ↓AW_seq, ↓AW_cond, ↓AW_ret, ↓AOps_nil, ↓AOps_pu, on_some, extK_same, condB_t, ↓then_normal, ↓then_ret, ↓Fin_ret, pval, rd_S, rd_C, put_S, resV, resL, List.replicate_succ, List.replicate_zero, List.set_cons_zero, List.set_cons_succ, List.getElem?_cons_zero, List.getElem?_cons_succ, Option.getD_some, Nat.reduceSub, List.cons_append, List.nil_append, bin_neq, decide_true, not_false_eq_true, Int.reduceEq]
    exact gc_val hpA rfl
  have : (if okS Q ks then (0 : Int) else 1) = 0 ∧ (if 0 ≤ c ∧ c ≤ 99 then (0 : Int) else 1) = 0 := ⟨by rw [if_pos h1.1], by rw [if_pos h1.2]⟩
  rw [if_pos this]
  simp (maxSteps := 4000000) -implicitDefEqProofs -dsimp (disch := omega) only [↓AW_skip, ↓AW_ops, ↓AW_seq, ↓AW_cond, ↓AOps_nil, ↓AOps_pu, ↓AOps_call, on_some, extK_same, condB_f, ↓then_normal, pval, rd_S, rd_C, put_S, eq_self, List.replicate_succ, List.replicate_zero, List.set_cons_zero, List.set_cons_succ, List.getElem?_cons_zero, List.getElem?_cons_succ, Option.getD_some, map_c, map_n, Nat.reduceSub, List.cons_append, List.nil_append, bin_neq, decide_false, not_true_eq_false]
  refine CallK.of (c_Contains hxA hl a) ?_
  by_cases ha : a ∈ ks
  case neg =>
    rw [decide_eq_false ha, xE_7 h0 h1 (fun hh => ha hh.1)]
    simp (maxSteps := 4000000) -implicitDefEqProofs -dsimp (disch := omega) only [↓AW_ops, ↓AW_seq, ↓AW_cond, ↓AW_ret, ↓AOps_nil, ↓AOps_pu, ↓AOps_guard, on_some, extK_same, guardB_tf, skipS_some, condB_t, ↓then_normal, ↓then_ret, ↓Fin_ret, pval, rd_S, rd_C, put_S, resV, resL, eq_self, List.replicate_succ, List.replicate_zero, List.set_cons_zero, List.set_cons_succ, List.getElem?_cons_zero, List.getElem?_cons_succ, Option.getD_some, Nat.reduceSub, List.cons_append, List.nil_append, if_true, Bool.not_false]
    exact gc_val hpA rfl
  rw [decide_eq_true ha]
  simp (maxSteps := 4000000) -implicitDefEqProofs -dsimp (disch := omega) only [↓AOps_pu, ↓AOps_call, ↓AOps_guard, on_some, extK_same, guardB_ff, pval, rd_S, put_S, List.replicate_succ, List.replicate_zero, List.set_cons_zero, List.set_cons_succ, List.getElem?_cons_zero, List.getElem?_cons_succ, Option.getD_some, map_c, map_n, Nat.reduceSub, List.cons_append, List.nil_append, Bool.not_true]
  refine CallK.of (c_Contains hxA hl b) ?_
  by_cases hb : b ∈ ks
  · rw [decide_eq_true hb, xE_7 h0 h1 (fun hh => hh.2 hb)]
    simp (maxSteps := 4000000) -implicitDefEqProofs -dsimp (disch := omega) only [↓AW_ops, ↓AW_seq, ↓AW_cond, ↓AW_ret, ↓AOps_nil, ↓AOps_pu, on_some, extK_same, condB_t, ↓then_normal, ↓then_ret, ↓Fin_ret, pval, rd_S, rd_C, put_S, resV, resL, List.replicate_succ, List.replicate_zero, List.set_cons_zero, List.set_cons_succ, List.getElem?_cons_zero, List.getElem?_cons_succ, Option.getD_some, Nat.reduceSub, List.cons_append, List.nil_append, if_false, Bool.false_eq_true]
    exact gc_val hpA rfl
  rw [decide_eq_false hb]
  simp (maxSteps := 4000000) -implicitDefEqProofs -dsimp (disch := omega) only [↓AW_skip, ↓AW_ops, ↓AW_seq, ↓AW_cond, ↓AW_block, ↓AOps_nil, ↓AOps_pu, on_some, extK_same, condB_f, ↓then_normal, pval, rd_S, rd_C, put_S, ↓AW_toLoop, chkd, isAdr, bgot, AV.cells?, partA, eq_self, List.replicate_succ, List.replicate_zero, List.set_cons_zero, List.set_cons_succ, List.getElem?_cons_zero, List.getElem?_cons_succ, List.drop_zero, List.drop_succ_cons, List.take_succ_cons, List.take_nil, Option.getD_some, List.length_cons, List.length_nil, Nat.reduceAdd, Nat.reduceSub, Nat.reduceLeDiff, Nat.zero_add, List.cons_append, List.nil_append, if_true, if_false, Bool.false_eq_true, huA.len]
  refine LoopK.by 65 (fun i : Nat => i ≤ rs.length ∧ ∀ r ∈ rs.take i, ¬ xR ks c r) (fun i => [(3, I c), (4, v), (43, u), (44, I rs.length), (45, I i)]) (fun _ => A1) (fun i => rs.length - i) 0 ⟨by omega, by simp⟩ rfl (by simp [Has, rd_s]) rfl ?_
  rintro i ⟨hi, he⟩
  by_cases hlt : i < rs.length
  · obtain ⟨z, hz⟩ : ∃ z, rs[i]? = some z := ⟨_, List.getElem?_eq_getElem hlt⟩
    have hlt' : (i : Int) < rs.length := by omega
    have hbad : xR ks c z → xE Q rs a b c ks = 7 := fun hh => xE_r h0 h1 ⟨ha, hb⟩ (fun hall => hall z (List.mem_of_getElem? hz) hh)
    simp (maxSteps := 4000000) -implicitDefEqProofs -dsimp (disch := omega) only [↓AW_skip, ↓AW_ops, ↓AW_seq, ↓AW_cond, ↓AW_block, ↓AOps_nil, ↓AOps_pu, ↓AOps_ld, ↓AOps_call, on_some, condB_t, ↓then_normal, pval, lval, rd_S, rd_C, put_S, chkd, isAdr, bput, bgot, AV.cells?, splice, partA, eq_self, mk, List.foldl_cons, List.foldl_nil, List.replicate_succ, List.replicate_zero, List.set_cons_zero, List.set_cons_succ, List.getElem?_cons_zero, List.getElem?_cons_succ, List.drop_zero, List.drop_succ_cons, List.drop_nil, List.take_zero, List.take_succ_cons, List.take_nil, Option.getD_some, map_c, map_n, List.length_cons, List.length_nil, Nat.reduceAdd, Nat.reduceLeDiff, Nat.reduceEqDiff, Nat.zero_add, List.nil_append, List.append_nil, bin_lss, if_true, if_false, Bool.false_eq_true, decide_true, ne_eq, not_true_eq_false, hlt', huA.idx hlt, huA.ld0 hz 3 true (by decide), e3]
    refine CallK.of (c_Contains hxA hl z.1) ?_
    simp (maxSteps := 4000000) -implicitDefEqProofs -dsimp (disch := omega) only [↓AOps_pu, ↓AOps_call, on_some, extK_same, pval, rd_S, put_S, chkd, isAdr, bgot, AV.cells?, partA, eq_self, mk, List.foldl_cons, List.foldl_nil, List.replicate_succ, List.replicate_zero, List.set_cons_zero, List.set_cons_succ, List.getElem?_cons_zero, List.getElem?_cons_succ, List.drop_zero, List.drop_succ_cons, List.take_zero, List.take_succ_cons, Option.getD_some, map_c, map_n, List.length_cons, List.length_nil, Nat.reduceAdd, Nat.reduceLeDiff, Nat.zero_add, if_true, if_false, Bool.false_eq_true]
    refine CallK.of (c_Contains hxA hl z.2.1) ?_
    have hxz : xR ks c z ↔ ¬ (decide (z.1 ∈ ks) = decide (z.2.1 ∈ ks)) ∧ z.2.2 ≤ c := Iff.rfl
    generalize decide (z.1 ∈ ks) = p1 at *
    generalize decide (z.2.1 ∈ ks) = p2 at *
    cases p1 <;> cases p2
    · simp (maxSteps := 4000000) -implicitDefEqProofs -dsimp (disch := omega) only [↓AW_skip, ↓AW_ops, ↓AW_cond, ↓AOps_nil, ↓AOps_pu, ↓AOps_guard, on_some, extK_same, guardB_ft, skipS_some, condB_f, ↓then_normal, ↓inBlock_normal, pval, rd_S, rd_C, put_S, beq_self_eq_true, eq_self, mk, List.foldl_cons, List.foldl_nil, List.replicate_succ, List.replicate_zero, List.set_cons_zero, List.set_cons_succ, List.getElem?_cons_zero, List.getElem?_cons_succ, Option.getD_some, List.length_cons, List.length_nil, Nat.reduceAdd, Nat.zero_add, bin_add, w64, if_true, if_false, Bool.false_eq_true, Bool.not_true, true_and]
      exact ⟨i + 1, ⟨hlt, all_take he hz (fun hh => (hxz.1 hh).1 rfl)⟩, by simp [Has, rd_s], by omega⟩
    · by_cases hc : z.2.2 ≤ c
      · rw [hbad (hxz.2 ⟨by simp, hc⟩)]
        simp (maxSteps := 4000000) -implicitDefEqProofs -dsimp (disch := omega) only [↓AW_ops, ↓AW_seq, ↓AW_cond, ↓AW_ret, ↓AOps_nil, ↓AOps_pu, ↓AOps_guard, on_some, extK_same, guardB_tt, condB_t, ↓then_normal, ↓then_ret, ↓inBlock_ret, ↓Fin_ret, pval, rd_S, rd_C, put_S, resV, resL, chkd, isAdr, bgot, AV.cells?, partA, eq_self, mk, List.foldl_cons, List.foldl_nil, List.replicate_succ, List.replicate_zero, List.set_cons_zero, List.set_cons_succ, List.getElem?_cons_zero, List.getElem?_cons_succ, List.drop_zero, List.drop_succ_cons, List.take_succ_cons, List.take_nil, Option.getD_some, List.length_cons, List.length_nil, Nat.reduceAdd, Nat.reduceLeDiff, Nat.zero_add, bin_leq, if_true, if_false, Bool.false_eq_true, Bool.not_false, decide_true, bq2, hc]
        exact gc_val hpA rfl
      · simp (maxSteps := 4000000) -implicitDefEqProofs -dsimp (disch := omega) only [↓AW_skip, ↓AW_ops, ↓AW_cond, ↓AOps_nil, ↓AOps_pu, ↓AOps_guard, on_some, extK_same, guardB_tt, condB_f, ↓then_normal, ↓inBlock_normal, pval, rd_S, rd_C, put_S, chkd, isAdr, bgot, AV.cells?, partA, eq_self, mk, List.foldl_cons, List.foldl_nil, List.replicate_succ, List.replicate_zero, List.set_cons_zero, List.set_cons_succ, List.getElem?_cons_zero, List.getElem?_cons_succ, List.drop_zero, List.drop_succ_cons, List.take_succ_cons, List.take_nil, Option.getD_some, List.length_cons, List.length_nil, Nat.reduceAdd, Nat.reduceLeDiff, Nat.zero_add, bin_add, bin_leq, w64, if_true, if_false, Bool.false_eq_true, Bool.not_false, decide_false, true_and, bq2, hc]
        exact ⟨i + 1, ⟨hlt, all_take he hz (fun hh => hc (hxz.1 hh).2)⟩, by simp [Has, rd_s], by omega⟩
    · by_cases hc : z.2.2 ≤ c
      · rw [hbad (hxz.2 ⟨by simp, hc⟩)]
        simp (maxSteps := 4000000) -implicitDefEqProofs -dsimp (disch := omega) only [↓AW_ops, ↓AW_seq, ↓AW_cond, ↓AW_ret, ↓AOps_nil, ↓AOps_pu, ↓AOps_guard, on_some, extK_same, guardB_tt, condB_t, ↓then_normal, ↓then_ret, ↓inBlock_ret, ↓Fin_ret, pval, rd_S, rd_C, put_S, resV, resL, chkd, isAdr, bgot, AV.cells?, partA, eq_self, mk, List.foldl_cons, List.foldl_nil, List.replicate_succ, List.replicate_zero, List.set_cons_zero, List.set_cons_succ, List.getElem?_cons_zero, List.getElem?_cons_succ, List.drop_zero, List.drop_succ_cons, List.take_succ_cons, List.take_nil, Option.getD_some, List.length_cons, List.length_nil, Nat.reduceAdd, Nat.reduceLeDiff, Nat.zero_add, bin_leq, if_true, if_false, Bool.false_eq_true, Bool.not_false, decide_true, bq1, hc]
        exact gc_val hpA rfl
      · simp (maxSteps := 4000000) -implicitDefEqProofs -dsimp (disch := omega) only [↓AW_skip, ↓AW_ops, ↓AW_cond, ↓AOps_nil, ↓AOps_pu, ↓AOps_guard, on_some, extK_same, guardB_tt, condB_f, ↓then_normal, ↓inBlock_normal, pval, rd_S, rd_C, put_S, chkd, isAdr, bgot, AV.cells?, partA, eq_self, mk, List.foldl_cons, List.foldl_nil, List.replicate_succ, List.replicate_zero, List.set_cons_zero, List.set_cons_succ, List.getElem?_cons_zero, List.getElem?_cons_succ, List.drop_zero, List.drop_succ_cons, List.take_succ_cons, List.take_nil, Option.getD_some, List.length_cons, List.length_nil, Nat.reduceAdd, Nat.reduceLeDiff, Nat.zero_add, bin_add, bin_leq, w64, if_true, if_false, Bool.false_eq_true, Bool.not_false, decide_false, true_and, bq1, hc]
        exact ⟨i + 1, ⟨hlt, all_take he hz (fun hh => hc (hxz.1 hh).2)⟩, by simp [Has, rd_s], by omega⟩
    · simp (maxSteps := 4000000) -implicitDefEqProofs -dsimp (disch := omega) only [↓AW_skip, ↓AW_ops, ↓AW_cond, ↓AOps_nil, ↓AOps_pu, ↓AOps_guard, on_some, extK_same, guardB_ft, skipS_some, condB_f, ↓then_normal, ↓inBlock_normal, pval, rd_S, rd_C, put_S, beq_self_eq_true, eq_self, mk, List.foldl_cons, List.foldl_nil, List.replicate_succ, List.replicate_zero, List.set_cons_zero, List.set_cons_succ, List.getElem?_cons_zero, List.getElem?_cons_succ, Option.getD_some, List.length_cons, List.length_nil, Nat.reduceAdd, Nat.zero_add, bin_add, w64, if_true, if_false, Bool.false_eq_true, Bool.not_true, true_and]
      exact ⟨i + 1, ⟨hlt, all_take he hz (fun hh => (hxz.1 hh).1 rfl)⟩, by simp [Has, rd_s], by omega⟩
  · have hlt' : ¬ ((i : Int) < rs.length) := by omega
    rw [List.take_of_length_le (by omega)] at he
    rw [xE_0.2 ⟨h0, h1, ⟨ha, hb⟩, he⟩]
    simp (maxSteps := 4000000) -implicitDefEqProofs -dsimp (disch := omega) only [↓AW_ops, ↓AW_seq, ↓AW_cond, ↓AW_exit, ↓AW_ret, ↓AOps_nil, ↓AOps_pu, on_some, condB_f, ↓then_normal, ↓then_exit, ↓inBlock_exit, ↓Fin_ret, pval, rd_S, rd_C, put_S, resV, resL, eq_self, mk, List.foldl_cons, List.foldl_nil, List.replicate_succ, List.replicate_zero, List.set_cons_zero, List.set_cons_succ, List.getElem?_cons_zero, List.getElem?_cons_succ, Option.getD_some, bin_lss, if_true, decide_false, hlt']
    exact gc_val hpA rfl
set_option maxRecDepth 20000 in
set_option maxHeartbeats 8000000 in
theorem s38 (hu : L3 A u rs) (hP : W Q) (hx : L1 A v ks) (hl : ks.length ≤ 1000000) (a b c : Int) : ACalls Try.prog 38 [.agg [I Q, u], I a, I b, I c, v] A (I (xE Q rs a b c ks)) A := by
  refine acalls hmix Try.func38 (by kernel_rfl) t38 5 rfl (by decide) ?_
  dsimp only [m38]
  simp (maxSteps := 4000000) -implicitDefEqProofs -dsimp (disch := omega) only [↓AW_ops, ↓AW_seq, ↓AOps_nil, ↓AOps_pu, ↓AOps_call, on_some, ↓then_normal, pval, rd_S, rd_C, put_S, chkd, bgot, AV.cells?, partA, eq_self, List.replicate_succ, List.replicate_zero, List.set_cons_zero, List.set_cons_succ, List.getElem?_cons_zero, List.getElem?_cons_succ, List.drop_zero, List.take_succ_cons, List.take_nil, Option.getD_some, map_c, map_n, List.length_cons, List.length_nil, Nat.reduceAdd, Nat.reduceSub, Nat.reduceLeDiff, Nat.reduceEqDiff, Nat.zero_add, List.cons_append, List.nil_append, if_true, if_false]
  refine CallK.of (s77 hu hP a b) ?_
  by_cases h0 : pE Q rs a b = 0
  case neg =>
    rw [xE_p h0]
    simp (maxSteps := 4000000) -implicitDefEqProofs -dsimp (disch := omega) only [↓AW_ops, ↓AW_seq, ↓AW_cond, ↓AW_ret, ↓AOps_nil, ↓AOps_pu, on_some, extK_same, condB_t, ↓then_normal, ↓then_ret, ↓Fin_ret, pval, rd_S, rd_C, put_S, resV, resL, List.replicate_succ, List.replicate_zero, List.set_cons_zero, List.set_cons_succ, List.getElem?_cons_zero, List.getElem?_cons_succ, Option.getD_some, Nat.reduceSub, List.cons_append, List.nil_append, bin_neq, decide_true, not_false_eq_true, h0]
    exact gc_same rfl
  have hn := (pE_0.1 h0).1
  have hp1 := hn.p1
  have hp7 := hn.p7
  have hl14 := hn.l
  simp (maxSteps := 4000000) -implicitDefEqProofs -dsimp (disch := omega) only [↓AW_skip, ↓AW_ops, ↓AW_seq, ↓AW_cond, ↓AOps_nil, ↓AOps_pu, ↓AOps_call, on_some, extK_same, condB_f, ↓then_normal, pval, rd_S, rd_C, put_S, chkd, isAdr, bgot, AV.cells?, partA, eq_self, List.replicate_succ, List.replicate_zero, List.set_cons_zero, List.set_cons_succ, List.getElem?_cons_zero, List.getElem?_cons_succ, List.drop_zero, List.take_zero, List.take_succ_cons, Option.getD_some, map_c, map_n, List.length_cons, List.length_nil, Nat.reduceAdd, Nat.reduceSub, Nat.reduceLeDiff, Nat.zero_add, List.cons_append, List.nil_append, bin_neq, if_true, if_false, Bool.false_eq_true, decide_false, not_true_eq_false, h0]
  refine CallK.of (s75 hx hl (b := Q) (by omega)) ?_
  by_cases h1 : okS Q ks
  case neg =>
    rw [decide_eq_false h1, xE_1 h0 (fun hh => h1 hh.1)]
    simp (maxSteps := 4000000) -implicitDefEqProofs -dsimp (disch := omega) only [↓AW_ops, ↓AW_seq, ↓AW_cond, ↓AW_ret, ↓AOps_nil, ↓AOps_pu, ↓AOps_guard, on_some, extK_same, guardB_tf, skipS_some, condB_t, ↓then_normal, ↓then_ret, ↓Fin_ret, pval, rd_S, rd_C, put_S, resV, resL, eq_self, List.replicate_succ, List.replicate_zero, List.set_cons_zero, List.set_cons_succ, List.getElem?_cons_zero, List.getElem?_cons_succ, Option.getD_some, Nat.reduceSub, List.cons_append, List.nil_append, if_true, Bool.not_false]
    exact gc_same rfl
  rw [decide_eq_true h1]
  simp (maxSteps := 4000000) -implicitDefEqProofs -dsimp (disch := omega) only [↓AOps_pu, ↓AOps_call, ↓AOps_guard, on_some, extK_same, guardB_ff, pval, rd_S, rd_C, put_S, List.replicate_succ, List.replicate_zero, List.set_cons_zero, List.set_cons_succ, List.getElem?_cons_zero, List.getElem?_cons_succ, Option.getD_some, map_c, map_n, Nat.reduceSub, List.cons_append, List.nil_append, Bool.not_true]
  refine CallK.of (c_wi _ _ _ _) ?_
  by_cases h2 : 0 ≤ c ∧ c ≤ 99
  case neg =>
    rw [xE_1 h0 (fun hh => h2 hh.2)]
    simp (maxSteps := 4000000) -implicitDefEqProofs -dsimp (disch := omega) only [↓AW_ops, ↓AW_seq, ↓AW_cond, ↓AW_ret, ↓AOps_nil, ↓AOps_pu, ↓AOps_guard, on_some, extK_same, guardB_ff, condB_t, ↓then_normal, ↓then_ret, ↓Fin_ret, pval, rd_S, rd_C, put_S, resV, resL, List.replicate_succ, List.replicate_zero, List.set_cons_zero, List.set_cons_succ, List.getElem?_cons_zero, List.getElem?_cons_succ, Option.getD_some, Nat.reduceSub, List.cons_append, List.nil_append, if_false, Bool.false_eq_true, Bool.not_false, decide_false, h2]
    exact gc_same rfl
  simp (maxSteps := 4000000) -implicitDefEqProofs -dsimp (disch := omega) only [↓AW_skip, ↓AW_ops, ↓AW_seq, ↓AW_cond, ↓AOps_nil, ↓AOps_pu, ↓AOps_call, ↓AOps_guard, on_some, extK_same, guardB_ff, condB_f, ↓then_normal, pval, rd_S, rd_C, put_S, List.replicate_succ, List.replicate_zero, List.set_cons_zero, List.set_cons_succ, List.getElem?_cons_zero, List.getElem?_cons_succ, Option.getD_some, map_c, map_n, Nat.reduceSub, List.cons_append, List.nil_append, if_false, Bool.false_eq_true, Bool.not_true, decide_true, and_true, h2]
  refine CallK.of (s51 hx hl a) ?_
  by_cases ha : a ∈ ks
  case neg =>
    rw [decide_eq_false ha, xE_7 h0 ⟨h1, h2⟩ (fun hh => ha hh.1)]
    simp (maxSteps := 4000000) -implicitDefEqProofs -dsimp (disch := omega) only [↓AW_ops, ↓AW_seq, ↓AW_cond, ↓AW_ret, ↓AOps_nil, ↓AOps_pu, ↓AOps_guard, on_some, extK_same, guardB_tf, skipS_some, condB_t, ↓then_normal, ↓then_ret, ↓Fin_ret, pval, rd_S, rd_C, put_S, resV, resL, eq_self, List.replicate_succ, List.replicate_zero, List.set_cons_zero, List.set_cons_succ, List.getElem?_cons_zero, List.getElem?_cons_succ, Option.getD_some, Nat.reduceSub, List.cons_append, List.nil_append, if_true, Bool.not_false]
    exact gc_same rfl
  rw [decide_eq_true ha]
  simp (maxSteps := 4000000) -implicitDefEqProofs -dsimp (disch := omega) only [↓AOps_pu, ↓AOps_call, ↓AOps_guard, on_some, extK_same, guardB_ff, pval, rd_S, put_S, List.replicate_succ, List.replicate_zero, List.set_cons_zero, List.set_cons_succ, List.getElem?_cons_zero, List.getElem?_cons_succ, Option.getD_some, map_c, map_n, Nat.reduceSub, List.cons_append, List.nil_append, Bool.not_true]
  refine CallK.of (s51 hx hl b) ?_
  by_cases hb : b ∈ ks
  · rw [decide_eq_true hb, xE_7 h0 ⟨h1, h2⟩ (fun hh => hh.2 hb)]
    simp (maxSteps := 4000000) -implicitDefEqProofs -dsimp (disch := omega) only [↓AW_ops, ↓AW_seq, ↓AW_cond, ↓AW_ret, ↓AOps_nil, ↓AOps_pu, on_some, extK_same, condB_t, ↓then_normal, ↓then_ret, ↓Fin_ret, pval, rd_S, rd_C, put_S, resV, resL, List.replicate_succ, List.replicate_zero, List.set_cons_zero, List.set_cons_succ, List.getElem?_cons_zero, List.getElem?_cons_succ, Option.getD_some, Nat.reduceSub, List.cons_append, List.nil_append, if_false, Bool.false_eq_true]
    exact gc_same rfl
  rw [decide_eq_false hb]
  simp (maxSteps := 4000000) -implicitDefEqProofs -dsimp (disch := omega) only [↓AW_skip, ↓AW_ops, ↓AW_seq, ↓AW_cond, ↓AW_block, ↓AOps_nil, ↓AOps_pu, on_some, extK_same, condB_f, ↓then_normal, pval, rd_S, rd_C, put_S, ↓AW_toLoop, List.replicate_succ, List.replicate_zero, List.set_cons_zero, List.set_cons_succ, List.getElem?_cons_zero, List.getElem?_cons_succ, Option.getD_some, Nat.reduceSub, List.cons_append, List.nil_append, if_false, Bool.false_eq_true]
  refine LoopK.by 67 (fun i : Nat => i ≤ rs.length ∧ ∀ r ∈ rs.take i, ¬ xR ks c r) (fun i => [(3, I c), (4, v), (5, .agg [I Q, u]), (12, I i)]) (fun _ => A) (fun i => rs.length - i) 0 ⟨by omega, by simp⟩ rfl (by simp [Has, rd_s]) rfl ?_
  rintro i ⟨hi, he⟩
  by_cases hlt : i < rs.length
  · obtain ⟨z, hz⟩ : ∃ z, rs[i]? = some z := ⟨_, List.getElem?_eq_getElem hlt⟩
    have hlt' : (i : Int) < rs.length := by omega
    have hbad : xR ks c z → xE Q rs a b c ks = 7 := fun hh => xE_r h0 ⟨h1, h2⟩ ⟨ha, hb⟩ (fun hall => hall z (List.mem_of_getElem? hz) hh)
    simp (maxSteps := 4000000) -implicitDefEqProofs -dsimp (disch := omega) only [↓AW_skip, ↓AW_ops, ↓AW_seq, ↓AW_cond, ↓AW_block, ↓AOps_nil, ↓AOps_pu, ↓AOps_ld, ↓AOps_call, on_some, condB_t, ↓then_normal, pval, lval, rd_S, rd_C, put_S, chkd, isAdr, bput, bgot, AV.cells?, splice, partA, eq_self, mk, List.foldl_cons, List.foldl_nil, List.replicate_succ, List.replicate_zero, List.set_cons_zero, List.set_cons_succ, List.getElem?_cons_zero, List.getElem?_cons_succ, List.drop_zero, List.drop_succ_cons, List.drop_nil, List.take_zero, List.take_succ_cons, List.take_nil, Option.getD_some, map_c, map_n, List.length_cons, List.length_nil, Nat.reduceAdd, Nat.reduceLeDiff, Nat.reduceEqDiff, Nat.zero_add, List.nil_append, List.append_nil, bin_lss, if_true, if_false, Bool.false_eq_true, decide_true, ne_eq, not_true_eq_false, hlt', hu.len, hu.idx hlt, hu.ld0 hz 3 true (by decide), e3]
    refine CallK.of (s51 hx hl z.1) ?_
    simp (maxSteps := 4000000) -implicitDefEqProofs -dsimp (disch := omega) only [↓AOps_pu, ↓AOps_call, on_some, extK_same, pval, rd_S, put_S, chkd, isAdr, bgot, AV.cells?, partA, eq_self, mk, List.foldl_cons, List.foldl_nil, List.replicate_succ, List.replicate_zero, List.set_cons_zero, List.set_cons_succ, List.getElem?_cons_zero, List.getElem?_cons_succ, List.drop_zero, List.drop_succ_cons, List.take_zero, List.take_succ_cons, Option.getD_some, map_c, map_n, List.length_cons, List.length_nil, Nat.reduceAdd, Nat.reduceLeDiff, Nat.zero_add, if_true, if_false, Bool.false_eq_true]
    refine CallK.of (s51 hx hl z.2.1) ?_
    have hxz : xR ks c z ↔ ¬ (decide (z.1 ∈ ks) = decide (z.2.1 ∈ ks)) ∧ z.2.2 ≤ c := Iff.rfl
    generalize decide (z.1 ∈ ks) = p1 at *
    generalize decide (z.2.1 ∈ ks) = p2 at *
    cases p1 <;> cases p2
    · simp (maxSteps := 4000000) -implicitDefEqProofs -dsimp (disch := omega) only [↓AW_skip, ↓AW_ops, ↓AW_cond, ↓AOps_nil, ↓AOps_pu, ↓AOps_guard, on_some, extK_same, guardB_ft, skipS_some, condB_f, ↓then_normal, ↓inBlock_normal, pval, rd_S, rd_C, put_S, beq_self_eq_true, eq_self, mk, List.foldl_cons, List.foldl_nil, List.replicate_succ, List.replicate_zero, List.set_cons_zero, List.set_cons_succ, List.getElem?_cons_zero, List.getElem?_cons_succ, Option.getD_some, List.length_cons, List.length_nil, Nat.reduceAdd, Nat.zero_add, bin_add, w64, if_true, if_false, Bool.false_eq_true, Bool.not_true, true_and]
      exact ⟨i + 1, ⟨hlt, all_take he hz (fun hh => (hxz.1 hh).1 rfl)⟩, by simp [Has, rd_s], by omega⟩
    · by_cases hc : z.2.2 ≤ c
      · rw [hbad (hxz.2 ⟨by simp, hc⟩)]
        simp (maxSteps := 4000000) -implicitDefEqProofs -dsimp (disch := omega) only [↓AW_ops, ↓AW_seq, ↓AW_cond, ↓AW_ret, ↓AOps_nil, ↓AOps_pu, ↓AOps_guard, on_some, extK_same, guardB_tt, condB_t, ↓then_normal, ↓then_ret, ↓inBlock_ret, ↓Fin_ret, pval, rd_S, rd_C, put_S, resV, resL, chkd, isAdr, bgot, AV.cells?, partA, eq_self, mk, List.foldl_cons, List.foldl_nil, List.replicate_succ, List.replicate_zero, List.set_cons_zero, List.set_cons_succ, List.getElem?_cons_zero, List.getElem?_cons_succ, List.drop_zero, List.drop_succ_cons, List.take_succ_cons, List.take_nil, Option.getD_some, List.length_cons, List.length_nil, Nat.reduceAdd, Nat.reduceLeDiff, Nat.zero_add, bin_leq, if_true, if_false, Bool.false_eq_true, Bool.not_false, decide_true, bq2, hc]
        exact gc_same rfl
      · simp (maxSteps := 4000000) -implicitDefEqProofs -dsimp (disch := omega) only [↓AW_skip, ↓AW_ops, ↓AW_cond, ↓AOps_nil, ↓AOps_pu, ↓AOps_guard, on_some, extK_same, guardB_tt, condB_f, ↓then_normal, ↓inBlock_normal, pval, rd_S, rd_C, put_S, chkd, isAdr, bgot, AV.cells?, partA, eq_self, mk, List.foldl_cons, List.foldl_nil, List.replicate_succ, List.replicate_zero, List.set_cons_zero, List.set_cons_succ, List.getElem?_cons_zero, List.getElem?_cons_succ, List.drop_zero, List.drop_succ_cons, List.take_succ_cons, List.take_nil, Option.getD_some, List.length_cons, List.length_nil, Nat.reduceAdd, Nat.reduceLeDiff, Nat.zero_add, bin_add, bin_leq, w64, if_true, if_false, Bool.false_eq_true, Bool.not_false, decide_false, true_and, bq2, hc]
        exact ⟨i + 1, ⟨hlt, all_take he hz (fun hh => hc (hxz.1 hh).2)⟩, by simp [Has, rd_s], by omega⟩
    · by_cases hc : z.2.2 ≤ c
      · rw [hbad (hxz.2 ⟨by simp, hc⟩)]
        simp (maxSteps := 4000000) -implicitDefEqProofs -dsimp (disch := omega) only [↓AW_ops, ↓AW_seq, ↓AW_cond, ↓AW_ret, ↓AOps_nil, ↓AOps_pu, ↓AOps_guard, on_some, extK_same, guardB_tt, condB_t, ↓then_normal, ↓then_ret, ↓inBlock_ret, ↓Fin_ret, pval, rd_S, rd_C, put_S, resV, resL, chkd, isAdr, bgot, AV.cells?, partA, eq_self, mk, List.foldl_cons, List.foldl_nil, List.replicate_succ, List.replicate_zero, List.set_cons_zero, List.set_cons_succ, List.getElem?_cons_zero, List.getElem?_cons_succ, List.drop_zero, List.drop_succ_cons, List.take_succ_cons, List.take_nil, Option.getD_some, List.length_cons, List.length_nil, Nat.reduceAdd, Nat.reduceLeDiff, Nat.zero_add, bin_leq, if_true, if_false, Bool.false_eq_true, Bool.not_false, decide_true, bq1, hc]
        exact gc_same rfl
      · simp (maxSteps := 4000000) -implicitDefEqProofs -dsimp (disch := omega) only [↓AW_skip, ↓AW_ops, ↓AW_cond, ↓AOps_nil, ↓AOps_pu, ↓AOps_guard, on_some, extK_same, guardB_tt, condB_f, ↓then_normal, ↓inBlock_normal, pval, rd_S, rd_C, put_S, chkd, isAdr, bgot, AV.cells?, partA, eq_self, mk, List.foldl_cons, List.foldl_nil, List.replicate_succ, List.replicate_zero, List.set_cons_zero, List.set_cons_succ, List.getElem?_cons_zero, List.getElem?_cons_succ, List.drop_zero, List.drop_succ_cons, List.take_succ_cons, List.take_nil, Option.getD_some, List.length_cons, List.length_nil, Nat.reduceAdd, Nat.reduceLeDiff, Nat.zero_add, bin_add, bin_leq, w64, if_true, if_false, Bool.false_eq_true, Bool.not_false, decide_false, true_and, bq1, hc]
        exact ⟨i + 1, ⟨hlt, all_take he hz (fun hh => hc (hxz.1 hh).2)⟩, by simp [Has, rd_s], by omega⟩
    · simp (maxSteps := 4000000) -implicitDefEqProofs -dsimp (disch := omega) only [↓AW_skip, ↓AW_ops, ↓AW_cond, ↓AOps_nil, ↓AOps_pu, ↓AOps_guard, on_some, extK_same, guardB_ft, skipS_some, condB_f, ↓then_normal, ↓inBlock_normal, pval, rd_S, rd_C, put_S, beq_self_eq_true, eq_self, mk, List.foldl_cons, List.foldl_nil, List.replicate_succ, List.replicate_zero, List.set_cons_zero, List.set_cons_succ, List.getElem?_cons_zero, List.getElem?_cons_succ, Option.getD_some, List.length_cons, List.length_nil, Nat.reduceAdd, Nat.zero_add, bin_add, w64, if_true, if_false, Bool.false_eq_true, Bool.not_true, true_and]
      exact ⟨i + 1, ⟨hlt, all_take he hz (fun hh => (hxz.1 hh).1 rfl)⟩, by simp [Has, rd_s], by omega⟩
  · have hlt' : ¬ ((i : Int) < rs.length) := by omega
    rw [List.take_of_length_le (by omega)] at he
    rw [xE_0.2 ⟨h0, ⟨h1, h2⟩, ⟨ha, hb⟩, he⟩]
    simp (maxSteps := 4000000) -implicitDefEqProofs -dsimp (disch := omega) only [↓AW_ops, ↓AW_seq, ↓AW_cond, ↓AW_exit, ↓AW_ret, ↓AOps_nil, ↓AOps_pu, on_some, condB_f, ↓then_normal, ↓then_exit, ↓inBlock_exit, ↓Fin_ret, pval, rd_S, rd_C, put_S, resV, resL, chkd, isAdr, bgot, AV.cells?, partA, eq_self, mk, List.foldl_cons, List.foldl_nil, List.replicate_succ, List.replicate_zero, List.set_cons_zero, List.set_cons_succ, List.getElem?_cons_zero, List.getElem?_cons_succ, List.drop_zero, List.drop_succ_cons, List.take_succ_cons, List.take_nil, Option.getD_some, List.length_cons, List.length_nil, Nat.reduceAdd, Nat.reduceLeDiff, Nat.zero_add, bin_lss, if_true, if_false, Bool.false_eq_true, decide_false, hlt', hu.len]
    exact gc_same rfl
/-- No cheap roads lead out of a wall. -/
theorem wall_no {c : Int} (h : ∀ r ∈ rs, ¬ xR ks c r) (ha : a ∈ ks) (hc : cnT rs (nums rs) c a b) : b ∈ ks := by
  unfold cnT at hc
  induction hc with
  | refl => exact ha
  | step _ e he hr ih =>
    obtain ⟨k, hk, rfl⟩ := List.mem_map.1 he
    rw [mem_upTo, mem_plc] at hk
    have hm := (rdx_at hk.1.1 (show k ≤ (rs.length : Int) - 1 by omega)).2
    have hx := h _ hm
    unfold xR at hx
    have hq : decide ((rdx rs k).1 ∈ ks) = decide ((rdx rs k).2.1 ∈ ks) := Classical.byContradiction (fun hn => hx ⟨hn, hk.2⟩)
    rw [decide_eq_decide] at hq
    rcases hr with ⟨e1, e2⟩ | ⟨e1, e2⟩
    · rw [← e2, ← hq, e1]; exact ih
    · rw [← e1, hq, e2]; exact ih
theorem wall_worst {c : Int} (h : xE Q rs a b c ks = 0) : pE Q rs a b = 0 ∧ (wB Q rs a b = false ∨ c < wC Q rs a b) := by
  obtain ⟨h0, h1, ⟨ha, hb⟩, hr⟩ := xE_0.1 h
  refine ⟨h0, ?_⟩
  have e2 : wC Q rs a b = (bt rs (nums rs) a b).getD 0 := if_pos h0
  have e3 : wB Q rs a b = (bt rs (nums rs) a b).isSome := by unfold wB; rw [decide_eq_true h0, Bool.true_and]
  rw [e2, e3]
  cases hbt : bt rs (nums rs) a b with
  | none => exact .inl rfl
  | some d =>
    right
    show c < d
    rcases bt_spec hbt with ⟨hab, _⟩ | ⟨_, _, hcn, _⟩
    · rw [hab] at ha; exact absurd ha hb
    · refine Classical.byContradiction (fun hn => hb (wall_no hr ha (cnT_mono (by omega) hcn)))
set_option maxRecDepth 20000 in
set_option maxHeartbeats 8000000 in
theorem s10 (hu : L3 A u rs) (hP : W Q) (a b c : Int) (hx : L1 A v ks) : ACalls Try.prog 10 [.agg [I Q, u], .agg [I a, I b], .agg [I c, v]] A (B true) A := by
  refine acalls hmix Try.func10 (by kernel_rfl) t10 3 rfl (by decide) ?_
  dsimp only [m10]
  simp (maxSteps := 4000000) -implicitDefEqProofs -dsimp (disch := omega) only [↓AW_ops, ↓AW_seq, ↓AOps_nil, ↓AOps_pu, ↓AOps_call, on_some, ↓then_normal, pval, rd_S, rd_C, put_S, chkd, bgot, AV.cells?, partA, eq_self, List.replicate_succ, List.replicate_zero, List.set_cons_zero, List.set_cons_succ, List.getElem?_cons_zero, List.getElem?_cons_succ, List.drop_zero, List.take_succ_cons, List.take_nil, Option.getD_some, map_c, map_n, List.length_cons, List.length_nil, Nat.reduceAdd, Nat.reduceSub, Nat.reduceLeDiff, Nat.reduceEqDiff, Nat.zero_add, List.cons_append, List.nil_append, if_true, if_false]
  refine CallK.of (s17 hu Q) ?_
  by_cases h1 : (100 : Int) < rs.length
  · simp (maxSteps := 4000000) -implicitDefEqProofs -dsimp (disch := omega) only [↓AW_ops, ↓AW_seq, ↓AW_cond, ↓AOps_nil, ↓AOps_pu, ↓AOps_call, ↓AOps_guard, on_some, extK_same, guardB_tf, skipS_some, condB_t, ↓then_normal, pval, rd_S, rd_C, put_S, eq_self, List.replicate_succ, List.replicate_zero, List.set_cons_zero, List.set_cons_succ, List.getElem?_cons_zero, List.getElem?_cons_succ, Option.getD_some, map_n, Nat.reduceSub, List.cons_append, List.nil_append, if_true, decide_true, h1]
    refine CallK.of (known A) ?_
    simp (maxSteps := 4000000) -implicitDefEqProofs -dsimp (disch := omega) only [↓AW_ret, ↓AOps_nil, ↓AOps_pu, on_some, extK_same, skipS_some, ↓then_normal, ↓then_ret, ↓Fin_ret, pval, rd_S, put_S, resV, resL, List.replicate_succ, List.replicate_zero, List.set_cons_zero, List.set_cons_succ, List.getElem?_cons_zero, List.getElem?_cons_succ, Option.getD_some, Nat.reduceSub, List.cons_append, List.nil_append]
    exact gc_same rfl
  by_cases h2 : (100 : Int) < ks.length
  · simp (maxSteps := 4000000) -implicitDefEqProofs -dsimp (disch := omega) only [↓AW_ops, ↓AW_seq, ↓AW_cond, ↓AOps_nil, ↓AOps_pu, ↓AOps_call, ↓AOps_guard, on_some, extK_same, guardB_ff, condB_t, ↓then_normal, pval, rd_S, rd_C, put_S, chkd, isAdr, bgot, AV.cells?, partA, eq_self, List.replicate_succ, List.replicate_zero, List.set_cons_zero, List.set_cons_succ, List.getElem?_cons_zero, List.getElem?_cons_succ, List.drop_zero, List.drop_succ_cons, List.take_succ_cons, List.take_nil, Option.getD_some, map_n, List.length_cons, List.length_nil, Nat.reduceAdd, Nat.reduceSub, Nat.reduceLeDiff, Nat.zero_add, List.cons_append, List.nil_append, bin_gtr, if_true, if_false, Bool.false_eq_true, decide_true, decide_false, h1, hx.len, h2]
    refine CallK.of (known A) ?_
    simp (maxSteps := 4000000) -implicitDefEqProofs -dsimp (disch := omega) only [↓AW_ret, ↓AOps_nil, ↓AOps_pu, on_some, extK_same, ↓then_normal, ↓then_ret, ↓Fin_ret, pval, rd_S, put_S, resV, resL, List.replicate_succ, List.replicate_zero, List.set_cons_zero, List.set_cons_succ, List.getElem?_cons_zero, List.getElem?_cons_succ, Option.getD_some, Nat.reduceSub, List.cons_append, List.nil_append]
    exact gc_same rfl
  have hl : ks.length ≤ 1000000 := by omega
  simp (maxSteps := 4000000) -implicitDefEqProofs -dsimp (disch := omega) only [↓AW_skip, ↓AW_ops, ↓AW_seq, ↓AW_cond, ↓AOps_nil, ↓AOps_pu, ↓AOps_call, ↓AOps_guard, on_some, extK_same, guardB_ff, condB_f, ↓then_normal, pval, rd_S, rd_C, put_S, chkd, isAdr, bgot, AV.cells?, partA, eq_self, List.replicate_succ, List.replicate_zero, List.set_cons_zero, List.set_cons_succ, List.getElem?_cons_zero, List.getElem?_cons_succ, List.drop_zero, List.drop_succ_cons, List.take_zero, List.take_succ_cons, List.take_nil, Option.getD_some, map_c, map_n, List.length_cons, List.length_nil, Nat.reduceAdd, Nat.reduceSub, Nat.reduceLeDiff, Nat.reduceEqDiff, Nat.zero_add, List.cons_append, List.nil_append, bin_gtr, if_true, if_false, Bool.false_eq_true, decide_false, h1, hx.len, h2]
  refine CallK.of (s37 hu hP hx hl a b c) ?_
  simp (maxSteps := 4000000) -implicitDefEqProofs -dsimp (disch := omega) only [↓AW_ops, ↓AW_seq, ↓AOps_nil, ↓AOps_pu, ↓AOps_call, on_some, extK_same, ↓then_normal, pval, rd_S, put_S, chkd, isAdr, bgot, AV.cells?, partA, eq_self, List.replicate_succ, List.replicate_zero, List.set_cons_zero, List.set_cons_succ, List.getElem?_cons_zero, List.getElem?_cons_succ, List.drop_zero, List.drop_succ_cons, List.take_zero, List.take_succ_cons, List.take_nil, Option.getD_some, map_c, map_n, List.length_cons, List.length_nil, Nat.reduceAdd, Nat.reduceSub, Nat.reduceLeDiff, Nat.reduceEqDiff, Nat.zero_add, List.cons_append, List.nil_append, if_true, if_false, Bool.false_eq_true]
  refine CallK.of (s38 hu hP hx hl a b c) ?_
  simp (maxSteps := 4000000) -implicitDefEqProofs -dsimp (disch := omega) only [↓AW_skip, ↓AW_ops, ↓AW_seq, ↓AW_cond, ↓AOps_nil, ↓AOps_pu, ↓AOps_call, on_some, extK_same, condB_f, ↓then_normal, pval, rd_S, put_S, chkd, isAdr, bgot, AV.cells?, partA, eq_self, List.replicate_succ, List.replicate_zero, List.set_cons_zero, List.set_cons_succ, List.getElem?_cons_zero, List.getElem?_cons_succ, List.drop_zero, List.drop_succ_cons, List.take_zero, List.take_succ_cons, List.take_nil, Option.getD_some, map_c, map_n, List.length_cons, List.length_nil, Nat.reduceAdd, Nat.reduceSub, Nat.reduceLeDiff, Nat.reduceEqDiff, Nat.zero_add, List.cons_append, List.nil_append, bin_neq, if_true, if_false, Bool.false_eq_true, decide_false, not_true_eq_false]
  refine CallK.of (s25 hu hP a b) ?_
  by_cases he : xE Q rs a b c ks = 0
  · obtain ⟨g1, g2⟩ := wall_worst he
    rw [g1, he]
    rcases g2 with g2 | g2
    · rw [g2]
      simp (maxSteps := 4000000) -implicitDefEqProofs -dsimp (disch := omega) only [↓AW_ops, ↓AW_seq, ↓AOps_nil, ↓AOps_pu, ↓AOps_call, ↓AOps_guard, on_some, extK_same, guardB_tt, guardB_tf, guardB_ff, skipS_some, ↓then_normal, pval, rd_S, rd_C, put_S, eq_self, List.replicate_succ, List.replicate_zero, List.set_cons_zero, List.set_cons_succ, List.getElem?_cons_zero, List.getElem?_cons_succ, Option.getD_some, map_n, Nat.reduceSub, List.cons_append, List.nil_append, bin_eql, bin_neq, if_true, if_false, Bool.false_eq_true, Bool.not_false, decide_true, decide_false, not_true_eq_false]
      refine CallK.of (known A) ?_
      simp (maxSteps := 4000000) -implicitDefEqProofs -dsimp (disch := omega) only [↓AW_ret, ↓AOps_nil, ↓AOps_pu, on_some, extK_same, skipS_some, ↓then_normal, ↓Fin_ret, pval, rd_S, rd_C, put_S, resV, resL, eq_self, List.replicate_succ, List.replicate_zero, List.set_cons_zero, List.set_cons_succ, List.getElem?_cons_zero, List.getElem?_cons_succ, Option.getD_some, Nat.reduceSub, List.cons_append, List.nil_append, if_true]
      exact gc_same rfl
    · cases wB Q rs a b with
      | false =>
        simp (maxSteps := 4000000) -implicitDefEqProofs -dsimp (disch := omega) only [↓AW_ops, ↓AW_seq, ↓AOps_nil, ↓AOps_pu, ↓AOps_call, ↓AOps_guard, on_some, extK_same, guardB_tt, guardB_tf, guardB_ff, skipS_some, ↓then_normal, pval, rd_S, rd_C, put_S, eq_self, List.replicate_succ, List.replicate_zero, List.set_cons_zero, List.set_cons_succ, List.getElem?_cons_zero, List.getElem?_cons_succ, Option.getD_some, map_n, Nat.reduceSub, List.cons_append, List.nil_append, bin_eql, bin_neq, if_true, if_false, Bool.false_eq_true, Bool.not_false, decide_true, decide_false, not_true_eq_false]
        refine CallK.of (known A) ?_
        simp (maxSteps := 4000000) -implicitDefEqProofs -dsimp (disch := omega) only [↓AW_ret, ↓AOps_nil, ↓AOps_pu, on_some, extK_same, skipS_some, ↓then_normal, ↓Fin_ret, pval, rd_S, rd_C, put_S, resV, resL, eq_self, List.replicate_succ, List.replicate_zero, List.set_cons_zero, List.set_cons_succ, List.getElem?_cons_zero, List.getElem?_cons_succ, Option.getD_some, Nat.reduceSub, List.cons_append, List.nil_append, if_true]
        exact gc_same rfl
      | true =>
        simp (maxSteps := 4000000) -implicitDefEqProofs -dsimp (disch := omega) only [↓AW_ops, ↓AW_seq, ↓AOps_nil, ↓AOps_pu, ↓AOps_call, ↓AOps_guard, on_some, extK_same, guardB_tt, guardB_ff, ↓then_normal, pval, rd_S, rd_C, put_S, chkd, isAdr, bgot, AV.cells?, partA, eq_self, List.replicate_succ, List.replicate_zero, List.set_cons_zero, List.set_cons_succ, List.getElem?_cons_zero, List.getElem?_cons_succ, List.drop_zero, List.take_zero, List.take_succ_cons, Option.getD_some, map_n, List.length_cons, List.length_nil, Nat.reduceAdd, Nat.reduceSub, Nat.reduceLeDiff, Nat.zero_add, List.cons_append, List.nil_append, bin_eql, bin_neq, bin_gtr, if_true, if_false, Bool.false_eq_true, Bool.not_true, decide_true, decide_false, not_true_eq_false, g2]
        refine CallK.of (known A) ?_
        simp (maxSteps := 4000000) -implicitDefEqProofs -dsimp (disch := omega) only [↓AW_ret, ↓AOps_nil, ↓AOps_pu, on_some, extK_same, ↓then_normal, ↓Fin_ret, pval, rd_S, rd_C, put_S, resV, resL, eq_self, List.replicate_succ, List.replicate_zero, List.set_cons_zero, List.set_cons_succ, List.getElem?_cons_zero, List.getElem?_cons_succ, Option.getD_some, Nat.reduceSub, List.cons_append, List.nil_append, if_true]
        exact gc_same rfl
  · simp (maxSteps := 4000000) -implicitDefEqProofs -dsimp (disch := omega) only [↓AW_ops, ↓AW_seq, ↓AOps_nil, ↓AOps_pu, ↓AOps_call, ↓AOps_guard, on_some, extK_same, guardB_tt, guardB_tf, guardB_undef, skipS_some, ↓then_normal, pval, rd_S, rd_C, put_S, eq_self, List.replicate_succ, List.replicate_zero, List.set_cons_zero, List.set_cons_succ, List.getElem?_cons_zero, List.getElem?_cons_succ, Option.getD_some, map_n, Nat.reduceSub, List.cons_append, List.nil_append, bin_neq, if_true, decide_true, not_false_eq_true, he]
    refine CallK.of (known A) ?_
    simp (maxSteps := 4000000) -implicitDefEqProofs -dsimp (disch := omega) only [↓AW_ret, ↓AOps_nil, ↓AOps_pu, on_some, extK_same, skipS_some, ↓then_normal, ↓Fin_ret, pval, rd_S, rd_C, put_S, resV, resL, eq_self, List.replicate_succ, List.replicate_zero, List.set_cons_zero, List.set_cons_succ, List.getElem?_cons_zero, List.getElem?_cons_succ, Option.getD_some, Nat.reduceSub, List.cons_append, List.nil_append, if_true]
    exact gc_same rfl
end
end Go.Proofs.Ytkgfcdpckfhknaa

